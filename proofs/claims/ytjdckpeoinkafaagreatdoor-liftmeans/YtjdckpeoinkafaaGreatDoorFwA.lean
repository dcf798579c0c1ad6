/- The walk's own frame: a function's slots as a function on numbers; what is still to be done as the machine's own list; step by step. -/
import Derived.WalkKit
set_option linter.all false
namespace Wh
open Go

abbrev Fr := Nat → Value
def upd (f : Fr) (d : Nat) (v : Value) : Fr := fun i => bif Nat.beq i d then v else f i
def updO (f : Fr) (d : Option Nat) (v : Value) : Fr := match d with | some d => upd f d v | none => f
def ev (n : Nat) (f : Fr) : Operand → Value
  | .tmp t => bif Nat.blt t n then f t else undef
  | .const v => v
  | .global g => .pointer (some ⟨g, 0, none⟩)
  | .func g => .func (.func g) #[] #[]

theorem blt_iff {a b : Nat} : Nat.blt a b = true ↔ a < b := by rw [Nat.blt_eq]

structure Rep (a : Act) (n : Nat) (f : Fr) (ds : List Deferred) : Prop where
  size : a.tmps.size = n
  cell : ∀ i, i < n → a.tmps[i]? = some (f i)
  defers : a.defers = ds

theorem Rep.eval {a : Act} {n : Nat} {f : Fr} {ds : List Deferred} (h : Rep a n f ds) : a.eval = ev n f := by
  funext x
  cases x with
  | tmp t =>
    simp only [Act.eval, ev]
    by_cases ht : t < n
    · have : Nat.blt t n = true := blt_iff.2 ht
      rw [this, cond_true, Array.getD_eq_getD_getElem?, h.cell t ht]
      rfl
    · have : Nat.blt t n = false := by
        cases hb : Nat.blt t n
        · rfl
        · exact absurd (blt_iff.1 hb) ht
      rw [this, cond_false, Array.getD_eq_getD_getElem?, Array.getElem?_eq_none (by rw [h.size]; exact Nat.not_lt.1 ht)]
      rfl
  | _ => rfl

theorem upd_ne {f : Fr} {d i : Nat} {v : Value} (h : i ≠ d) : upd f d v i = f i := by
  unfold upd
  cases hb : Nat.beq i d
  · rfl
  · exact absurd (Nat.eq_of_beq_eq_true hb) h
theorem upd_eq {f : Fr} {d : Nat} {v : Value} : upd f d v d = v := by
  unfold upd
  have : Nat.beq d d = true := Nat.beq_refl d
  rw [this]; rfl

theorem Rep.put {a : Act} {n : Nat} {f : Fr} {ds : List Deferred} (h : Rep a n f ds) (d : Option Nat) (v : Value) : Rep (a.put d v) n (updO f d v) ds := by
  cases d with
  | none => exact h
  | some d =>
    refine ⟨by simp [Act.put, h.size], fun i hi => ?_, h.defers⟩
    simp only [Act.put, updO, Array.getElem?_setIfInBounds]
    by_cases hd : d = i
    · subst hd
      rw [if_pos rfl, if_pos (by rw [h.size]; exact hi), upd_eq]
    · rw [if_neg hd, h.cell i hi, upd_ne (fun e => hd e.symm)]

/-- how a body ends -/
def Fin (P : Program) (m : Machine) (b : Frame) (cs : List Frame) : Exit → Act → World → Prop
  | .normal, a, w => Steps P m (lone (b.at a []) cs w)
  | .ret, a, w => ∃ todo, Steps P m (lone { b.at a todo with mode := .returning } cs w)
  | .panic chain, a, w => ∃ todo, Steps P m (lone { b.at a todo with mode := .panicking chain } cs w)
  | .outgrown, _, _ => b.kind = .early ∨ Outgrown P m
  | _, _, _ => False

theorem Fin.of_steps {P : Program} {m m₁ : Machine} {b : Frame} {cs : List Frame} {e : Exit} {a : Act} {w : World}
    (h : Steps P m m₁) (h' : Fin P m₁ b cs e a w) : Fin P m b cs e a w := by
  cases e with
  | normal => exact h.trans h'
  | ret => obtain ⟨todo, hs⟩ := h'; exact ⟨todo, h.trans hs⟩
  | panic chain => obtain ⟨todo, hs⟩ := h'; exact ⟨todo, h.trans hs⟩
  | outgrown => exact h'.imp id (Outgrown.of_steps h)
  | exit id => exact h'.elim
  | goto l => exact h'.elim

abbrev Post := Exit → Fr → List Deferred → World → Prop

/-- from what is still to be done, with such slots, such deferred calls, in such a world, the body ends as Q says -/
def TW (P : Program) (n : Nat) (Q : Post) (todo : List Item) (f : Fr) (ds : List Deferred) (w : World) : Prop :=
  ∀ a, Rep a n f ds → ∀ b cs, ∃ e a' w' f' ds', Rep a' n f' ds' ∧ Q e f' ds' w' ∧ Fin P (lone (b.at a todo) cs w) b cs e a' w'

section
variable {P : Program} {n : Nat} {Q : Post} {k : List Item} {f : Fr} {ds : List Deferred} {w : World}

theorem TW.step {todo todo' : List Item} (hs : ∀ (b : Frame) a cs, step P (lone (b.at a todo) cs w) = .next (lone (b.at a todo') cs w))
    (h : TW P n Q todo' f ds w) : TW P n Q todo f ds w := by
  intro a ha b cs
  obtain ⟨e, a', w', f', ds', hr, hq, hf⟩ := h a ha b cs
  exact ⟨e, a', w', f', ds', hr, hq, hf.of_steps (.one (hs b a cs))⟩

theorem TW.skip (h : TW P n Q k f ds w) : TW P n Q (.code .skip :: k) f ds w := TW.step (fun _ _ _ => step_skip) h
theorem TW.label {l : Nat} (h : TW P n Q k f ds w) : TW P n Q (.code (.label l) :: k) f ds w := TW.step (fun _ _ _ => step_label) h
theorem TW.seq {x y : Code} (h : TW P n Q (.code x :: .code y :: k) f ds w) : TW P n Q (.code (.seq x y) :: k) f ds w := TW.step (fun _ _ _ => step_seq) h
theorem TW.block {id : Nat} {x : Code} (h : TW P n Q (.code x :: .inBlock id :: k) f ds w) : TW P n Q (.code (.block id x) :: k) f ds w := TW.step (fun _ _ _ => step_block) h
theorem TW.inBlock {id : Nat} (h : TW P n Q k f ds w) : TW P n Q (.inBlock id :: k) f ds w := TW.step (fun _ _ _ => step_inBlock) h
theorem TW.exit {id : Nat} {k' : List Item} (hk : exitTo id k = some k') (h : TW P n Q k' f ds w) : TW P n Q (.code (.exit id) :: k) f ds w := TW.step (fun _ _ _ => step_exit hk) h
theorem TW.goto {l : Nat} {k' : List Item} (hk : gotoIn l k = some k') (h : TW P n Q k' f ds w) : TW P n Q (.code (.goto l) :: k) f ds w := TW.step (fun _ _ _ => step_goto hk) h
theorem TW.ret (h : Q .ret f ds w) : TW P n Q (.code .ret :: k) f ds w :=
  fun a ha _ _ => ⟨.ret, a, w, f, ds, ha, h, _, .one step_ret⟩
theorem TW.end_ (h : Q .normal f ds w) : TW P n Q [] f ds w := fun a ha _ _ => ⟨.normal, a, w, f, ds, ha, h, Steps.refl _ _⟩

theorem TW.cond {c : Operand} {x y : Code} {t : Bool} (hc : ev n f c = .bool t) (ht : t = true → TW P n Q (.code x :: k) f ds w)
    (hf : t = false → TW P n Q (.code y :: k) f ds w) : TW P n Q (.code (.cond c x y) :: k) f ds w := by
  intro a ha b cs
  have hc' : a.eval c = .bool t := by rw [ha.eval]; exact hc
  cases t with
  | true =>
    obtain ⟨e, a', w', f', ds', hr, hq, hfin⟩ := ht rfl a ha b cs
    exact ⟨e, a', w', f', ds', hr, hq, hfin.of_steps (.one (step_cond hc'))⟩
  | false =>
    obtain ⟨e, a', w', f', ds', hr, hq, hfin⟩ := hf rfl a ha b cs
    exact ⟨e, a', w', f', ds', hr, hq, hfin.of_steps (.one (step_cond hc'))⟩

/-- a loop: what holds at its head, a number that falls -/
theorem TW.loop {c : Code} (I : Fr → World → Prop) (μ : Fr → World → Nat) (h₀ : I f w)
    (round : ∀ f w, I f w → (∀ f' w', I f' w' → μ f' w' < μ f w → TW P n Q (.inLoop c :: k) f' ds w') → TW P n Q (.code c :: .inLoop c :: k) f ds w) :
    TW P n Q (.code (.loop c) :: k) f ds w := by
  refine TW.step (fun _ _ _ => step_loop) ?_
  have key : ∀ m f w, μ f w = m → I f w → TW P n Q (.code c :: .inLoop c :: k) f ds w := by
    intro m
    induction m using Nat.strongRecOn with
    | _ m ih =>
      intro f w hm hI
      refine round f w hI fun f' w' hI' hlt => ?_
      exact TW.step (fun _ _ _ => step_inLoop) (ih _ (hm ▸ hlt) f' w' rfl hI')
  exact key _ f w rfl h₀

/-- the operations of a region -/
def postOf (K : Fr → List Deferred → World → Prop) (Q : Post) (n : Nat) : Exit → Act → World → Prop
  | .normal, a, w => ∃ f ds, Rep a n f ds ∧ K f ds w
  | .panic ch, a, w => ∃ f ds, Rep a n f ds ∧ Q (.panic ch) f ds w
  | .outgrown, a, w => ∃ f ds, Rep a n f ds ∧ Q .outgrown f ds w
  | _, _, _ => False

def LW (P : Program) (n : Nat) (ops : Array Oper) (K : Fr → List Deferred → World → Prop) (Q : Post) (l : List Oper) (f : Fr) (ds : List Deferred) (w : World) : Prop :=
  ∀ a, Rep a n f ds → wpList P ops (postOf K Q n) l a w

theorem TW.of_wp {c : Code} (h : ∀ a, Rep a n f ds → c.wp P (postOf (fun f ds w => TW P n Q k f ds w) Q n) a w) : TW P n Q (.code c :: k) f ds w := by
  intro a ha b cs
  obtain ⟨e, a', w', hq, harr⟩ := h a ha b k cs
  cases e with
  | normal =>
    obtain ⟨f', ds', hr', hk⟩ := hq
    obtain ⟨e2, a2, w2, f2, ds2, hr2, hq2, hf2⟩ := hk a' hr' b cs
    exact ⟨e2, a2, w2, f2, ds2, hr2, hq2, hf2.of_steps harr⟩
  | panic ch =>
    obtain ⟨f', ds', hr', hk⟩ := hq
    exact ⟨_, a', w', f', ds', hr', hk, harr⟩
  | outgrown =>
    obtain ⟨f', ds', hr', hk⟩ := hq
    exact ⟨_, a', w', f', ds', hr', hk, harr⟩
  | exit id => exact hq.elim
  | goto l => exact hq.elim
  | ret => exact hq.elim

theorem TW.region {id : Nat} {l : List Oper} (h : LW P n l.toArray (fun f ds w => TW P n Q k f ds w) Q l f ds w) : TW P n Q (.code (.region id l.toArray false) :: k) f ds w :=
  TW.of_wp fun a ha => wp_region_lit (h a ha)

theorem LW.nil {ops : Array Oper} {K : Fr → List Deferred → World → Prop} (h : K f ds w) : LW P n ops K Q [] f ds w := fun _ ha => ⟨f, ds, ha, h⟩

variable {ops : Array Oper} {K : Fr → List Deferred → World → Prop} {o : Oper} {rest : List Oper}

theorem LW.val {v : Value} {w' : World} (hg : o.guard = none) (hr : (execOp (ev n f) o).run P w = .ok (.value v) w') (h : LW P n ops K Q rest (updO f o.dst v) ds w') :
    LW P n ops K Q (o :: rest) f ds w := by
  intro a ha
  refine wpList_plain hg fun K' hK => ?_
  unfold Oper.wp
  rw [ha.eval, hr]
  exact hK _ _ (h _ (ha.put o.dst v))
theorem LW.noval {w' : World} (hg : o.guard = none) (hr : (execOp (ev n f) o).run P w = .ok .skip w') (h : LW P n ops K Q rest (updO f o.dst undef) ds w') :
    LW P n ops K Q (o :: rest) f ds w := by
  intro a ha
  refine wpList_plain hg fun K' hK => ?_
  unfold Oper.wp
  rw [ha.eval, hr]
  exact hK _ _ (h _ (ha.put o.dst undef))
theorem LW.call {g : FuncId} {args : Array Value} {w' : World} (hg : o.guard = none) (hr : (execOp (ev n f) o).run P w = .ok (.enter g args) w')
    (h : Calls P g args w' fun e w'' => ∃ v, e = .returned v ∧ LW P n ops K Q rest (updO f o.dst v) ds w'') : LW P n ops K Q (o :: rest) f ds w := by
  intro a ha
  refine wpList_plain hg fun K' hK => ?_
  unfold Oper.wp
  rw [ha.eval, hr]
  refine h.mono ?_
  rintro e w'' ⟨v, rfl, hl⟩
  exact hK _ _ (hl _ (ha.put o.dst v))
theorem LW.callp {g : FuncId} {args : Array Value} {w' : World} (hg : o.guard = none) (hr : (execOp (ev n f) o).run P w = .ok (.enter g args) w')
    (h : Calls P g args w' fun e w'' => (∃ v, e = .returned v ∧ LW P n ops K Q rest (updO f o.dst v) ds w'') ∨ (∃ ch, e = .panicked ch ∧ Q (.panic ch) f ds w'')) : LW P n ops K Q (o :: rest) f ds w := by
  intro a ha
  unfold wpList
  rw [if_pos (by simp [Region.wanted, hg])]
  refine .inl ?_
  unfold Oper.wp
  rw [ha.eval, hr]
  refine h.mono ?_
  rintro e w'' (⟨v, rfl, hl⟩ | ⟨ch, rfl, hq⟩)
  · exact hl _ (ha.put o.dst v)
  · exact ⟨f, ds, ha, hq⟩
theorem LW.panic {v : Value} {w' : World} (hg : o.guard = none) (hr : (execOp (ev n f) o).run P w = .halt (.panic v) w') (h : Q (.panic [{ v, recovered := false }]) f ds w') :
    LW P n ops K Q (o :: rest) f ds w := by
  intro a ha
  unfold wpList
  rw [if_pos (by simp [Region.wanted, hg])]
  refine .inl ?_
  unfold Oper.wp
  rw [ha.eval, hr]
  exact ⟨f, ds, ha, h⟩
theorem LW.defer {d : Deferred} {w' : World} (hg : o.guard = none) (hr : (execOp (ev n f) o).run P w = .ok (.defer d) w') (h : LW P n ops K Q rest (updO f o.dst undef) (d :: ds) w') :
    LW P n ops K Q (o :: rest) f ds w := by
  intro a ha
  refine wpList_plain hg fun K' hK => ?_
  unfold Oper.wp
  rw [ha.eval, hr]
  refine hK _ _ (h _ ?_)
  have : Rep { a with defers := d :: a.defers } n f (d :: ds) := ⟨ha.size, ha.cell, by rw [← ha.defers]⟩
  exact this.put o.dst undef
end

section
variable {P : Program} {n : Nat} {Q : Post} {f : Fr} {ds : List Deferred} {w : World}
variable {ops : Array Oper} {K : Fr → List Deferred → World → Prop} {o : Oper} {rest : List Oper}
/-- a guard: what the operation that it names has yielded -/
theorem LW.guard {j : Nat} {want b : Bool} {d : Nat} (hg : o.guard = some (j, want)) (hd : (ops[j]?).bind (·.dst) = some d) (hn : Nat.blt d n = true) (hv : f d = .bool b)
    (hy : b = want → LW P n ops K Q ({ o with guard := none } :: rest) f ds w) (hno : b ≠ want → LW P n ops K Q rest (updO f o.dst undef) ds w) : LW P n ops K Q (o :: rest) f ds w := by
  intro a ha
  have hyd : yielded ops a.tmps j = some b := by
    unfold yielded
    rw [hd]
    simp only [Option.bind_some]
    rw [ha.cell d (blt_iff.1 hn), hv]
  by_cases e : b = want
  · have h1 := hy e a ha
    unfold wpList at h1 ⊢
    rw [if_pos (by simp [Region.wanted])] at h1
    rw [if_pos (by simp [Region.wanted, hg, hyd, e])]
    exact h1
  · have h1 := hno e _ (ha.put o.dst undef)
    unfold wpList
    rw [if_neg (by simp [Region.wanted, hg, hyd, e])]
    exact h1
/-- a guard: what it names has not run either -/
theorem LW.unrun {j : Nat} {want : Bool} {d : Nat} (hg : o.guard = some (j, want)) (hd : (ops[j]?).bind (·.dst) = some d) (hn : Nat.blt d n = true) (hv : f d = undef)
    (hno : LW P n ops K Q rest (updO f o.dst undef) ds w) : LW P n ops K Q (o :: rest) f ds w := by
  intro a ha
  have hyd : yielded ops a.tmps j = none := by
    unfold yielded
    rw [hd]
    simp only [Option.bind_some]
    rw [ha.cell d (blt_iff.1 hn), hv]
    rfl
  have h1 := hno _ (ha.put o.dst undef)
  unfold wpList
  rw [if_neg (by simp [Region.wanted, hg, hyd])]
  exact h1
end

/-- a function's call out of its body -/
def Ret (P : Program) (fn : Func) (n : Nat) (R : Ending → World → Prop) : Post
  | .normal, f, ds, w | .ret, f, ds, w => ds = [] ∧ ∃ v, (∀ a, Rep a n f ds → (results fn a.tmps).run P w = .ok v w) ∧ R (.returned v) w
  | .panic ch, _, ds, w => ds = [] ∧ R (.panicked ch) w
  | .outgrown, _, _, w => R .outgrown w
  | _, _, _, _ => False

/-- the slots at the beginning -/
def frOf (args : List Value) : Fr := fun i => (args[i]?).getD undef

theorem rep_enter (args : List Value) (n : Nat) (h : args.length ≤ n) : Rep { tmps := args.toArray ++ Array.replicate (n - args.toArray.size) undef, defers := [] } n (frOf args) [] := by
  refine ⟨by simp; omega, fun i hi => ?_, rfl⟩
  simp only [frOf, Array.getElem?_append, List.size_toArray, List.getElem?_toArray]
  by_cases h1 : i < args.length
  · rw [if_pos h1, List.getElem?_eq_getElem h1]; rfl
  · rw [if_neg h1, Array.getElem?_replicate, if_pos (by omega), List.getElem?_eq_none (by omega)]; rfl

theorem calls_of_TW {P : Program} {g : FuncId} {fn : Func} {c : Code} {args : List Value} {w : World} {R : Ending → World → Prop}
    (hf : P.funcs[g]? = some fn) (hb : fn.body = some c) (hn : args.length ≤ fn.ntmps)
    (h : TW P fn.ntmps (Ret P fn fn.ntmps R) [.code c] (frOf args) [] w) : Calls P g args.toArray w R := by
  intro cs
  let b : Frame := { (default : Frame) with fn := g, kind := .normal }
  have henter : Frame.enter P g args.toArray .normal =
      b.at { tmps := args.toArray ++ Array.replicate (fn.ntmps - args.toArray.size) undef, defers := [] } [.code c] := by
    simp [Frame.enter, Frame.at, hf, hb, b]
  obtain ⟨e, a', w', f', ds', hr', hq, harr⟩ := h _ (rep_enter args fn.ntmps hn) b cs
  rw [← henter] at harr
  cases e with
  | normal =>
    obtain ⟨hd, v, hv, hR⟩ := hq
    exact ⟨.returned v, w', _, hR, Steps.trans harr (.one step_end), rfl, rfl, hr'.defers.trans hd, rfl, fn, hf, hv a' hr'⟩
  | ret =>
    obtain ⟨hd, v, hv, hR⟩ := hq
    obtain ⟨todo, hs⟩ := harr
    exact ⟨.returned v, w', _, hR, hs, rfl, rfl, hr'.defers.trans hd, rfl, fn, hf, hv a' hr'⟩
  | panic chain =>
    obtain ⟨hd, hR⟩ := hq
    obtain ⟨todo, hs⟩ := harr
    exact ⟨.panicked chain, w', _, hR, hs, rfl, rfl, hr'.defers.trans hd, fn, hf⟩
  | exit id => exact hq.elim
  | goto l => exact hq.elim
  | outgrown => exact ⟨.outgrown, w', b, hq, harr.resolve_left (by simp [b]), rfl, trivial⟩
end Wh
