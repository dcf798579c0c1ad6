/- The walk's own frame: a function's slots as a function on numbers; what is still to be done as the machine's own list; step by step. -/
import Derived.WalkKit
set_option linter.all false
namespace Wh
open Go

abbrev Fr := Nat → Value
def upd (f : Fr) (d : Nat) (v : Value) : Fr := fun i => bif Nat.beq i d then v else f i
def updO (f : Fr) (d : Option Nat) (v : Value) : Fr := match d with | some d => upd f d v | none => f
def ev (n : Nat) (f : Fr) : Operand → Value
  | .tmp t => bif Nat.blt t n then f t else undef
  | .const v => v
  | .global g => .pointer (some ⟨g, 0, none⟩)
  | .func g => .func (.func g) #[] #[]

theorem blt_iff {a b : Nat} : Nat.blt a b = true ↔ a < b := by rw [Nat.blt_eq]

structure Rep (a : Act) (n : Nat) (f : Fr) (ds : List Deferred) : Prop where
  size : a.tmps.size = n
  cell : ∀ i, i < n → a.tmps[i]? = some (f i)
  defers : a.defers = ds

theorem Rep.eval {a : Act} {n : Nat} {f : Fr} {ds : List Deferred} (h : Rep a n f ds) : a.eval = ev n f := by
  funext x
  cases x with
  | tmp t =>
    simp only [Act.eval, ev]
    by_cases ht : t < n
    · have : Nat.blt t n = true := blt_iff.2 ht
      rw [this, cond_true, Array.getD_eq_getD_getElem?, h.cell t ht]
      rfl
    · have : Nat.blt t n = false := by
        cases hb : Nat.blt t n
        · rfl
        · exact absurd (blt_iff.1 hb) ht
      rw [this, cond_false, Array.getD_eq_getD_getElem?, Array.getElem?_eq_none (by rw [h.size]; exact Nat.not_lt.1 ht)]
      rfl
  | _ => rfl

theorem upd_ne {f : Fr} {d i : Nat} {v : Value} (h : i ≠ d) : upd f d v i = f i := by
  unfold upd
  cases hb : Nat.beq i d
  · rfl
  · exact absurd (Nat.eq_of_beq_eq_true hb) h
theorem upd_eq {f : Fr} {d : Nat} {v : Value} : upd f d v d = v := by
  unfold upd
  have : Nat.beq d d = true := Nat.beq_refl d
  rw [this]; rfl

theorem Rep.put {a : Act} {n : Nat} {f : Fr} {ds : List Deferred} (h : Rep a n f ds) (d : Option Nat) (v : Value) : Rep (a.put d v) n (updO f d v) ds := by
  cases d with
  | none => exact h
  | some d =>
    refine ⟨by simp [Act.put, h.size], fun i hi => ?_, h.defers⟩
    simp only [Act.put, updO, Array.getElem?_setIfInBounds]
    by_cases hd : d = i
    · subst hd
      rw [if_pos rfl, if_pos (by rw [h.size]; exact hi), upd_eq]
    · rw [if_neg hd, h.cell i hi, upd_ne (fun e => hd e.symm)]

/-- how a body ends -/
def Fin (P : Program) (m : Machine) (b : Frame) (cs : List Frame) : Exit → Act → World → Prop
  | .normal, a, w => Steps P m (lone (b.at a []) cs w)
  | .ret, a, w => ∃ todo, Steps P m (lone { b.at a todo with mode := .returning } cs w)
  | .panic chain, a, w => ∃ todo, Steps P m (lone { b.at a todo with mode := .panicking chain } cs w)
  | .outgrown, _, _ => b.kind = .early ∨ Outgrown P m
  | _, _, _ => False

theorem Fin.of_steps {P : Program} {m m₁ : Machine} {b : Frame} {cs : List Frame} {e : Exit} {a : Act} {w : World}
    (h : Steps P m m₁) (h' : Fin P m₁ b cs e a w) : Fin P m b cs e a w := by
  cases e with
  | normal => exact h.trans h'
  | ret => obtain ⟨todo, hs⟩ := h'; exact ⟨todo, h.trans hs⟩
  | panic chain => obtain ⟨todo, hs⟩ := h'; exact ⟨todo, h.trans hs⟩
  | outgrown => exact h'.imp id (Outgrown.of_steps h)
  | exit id => exact h'.elim
  | goto l => exact h'.elim

abbrev Post := Exit → Fr → List Deferred → World → Prop

/-- from what is still to be done, with such slots, such deferred calls, in such a world, the body ends as Q says -/
def TW (P : Program) (n : Nat) (Q : Post) (todo : List Item) (f : Fr) (ds : List Deferred) (w : World) : Prop :=
  ∀ a, Rep a n f ds → ∀ b cs, ∃ e a' w' f' ds', Rep a' n f' ds' ∧ Q e f' ds' w' ∧ Fin P (lone (b.at a todo) cs w) b cs e a' w'

section
variable {P : Program} {n : Nat} {Q : Post} {k : List Item} {f : Fr} {ds : List Deferred} {w : World}

theorem TW.step {todo todo' : List Item} (hs : ∀ (b : Frame) a cs, step P (lone (b.at a todo) cs w) = .next (lone (b.at a todo') cs w))
    (h : TW P n Q todo' f ds w) : TW P n Q todo f ds w := by
  intro a ha b cs
  obtain ⟨e, a', w', f', ds', hr, hq, hf⟩ := h a ha b cs
  exact ⟨e, a', w', f', ds', hr, hq, hf.of_steps (.one (hs b a cs))⟩

theorem TW.skip (h : TW P n Q k f ds w) : TW P n Q (.code .skip :: k) f ds w := TW.step (fun _ _ _ => step_skip) h
theorem TW.label {l : Nat} (h : TW P n Q k f ds w) : TW P n Q (.code (.label l) :: k) f ds w := TW.step (fun _ _ _ => step_label) h
theorem TW.seq {x y : Code} (h : TW P n Q (.code x :: .code y :: k) f ds w) : TW P n Q (.code (.seq x y) :: k) f ds w := TW.step (fun _ _ _ => step_seq) h
theorem TW.block {id : Nat} {x : Code} (h : TW P n Q (.code x :: .inBlock id :: k) f ds w) : TW P n Q (.code (.block id x) :: k) f ds w := TW.step (fun _ _ _ => step_block) h
theorem TW.inBlock {id : Nat} (h : TW P n Q k f ds w) : TW P n Q (.inBlock id :: k) f ds w := TW.step (fun _ _ _ => step_inBlock) h
theorem TW.exit {id : Nat} {k' : List Item} (hk : exitTo id k = some k') (h : TW P n Q k' f ds w) : TW P n Q (.code (.exit id) :: k) f ds w := TW.step (fun _ _ _ => step_exit hk) h
theorem TW.goto {l : Nat} {k' : List Item} (hk : gotoIn l k = some k') (h : TW P n Q k' f ds w) : TW P n Q (.code (.goto l) :: k) f ds w := TW.step (fun _ _ _ => step_goto hk) h
theorem TW.ret (h : Q .ret f ds w) : TW P n Q (.code .ret :: k) f ds w :=
  fun a ha _ _ => ⟨.ret, a, w, f, ds, ha, h, _, .one step_ret⟩
theorem TW.end_ (h : Q .normal f ds w) : TW P n Q [] f ds w := fun a ha _ _ => ⟨.normal, a, w, f, ds, ha, h, Steps.refl _ _⟩

theorem TW.cond {c : Operand} {x y : Code} {t : Bool} (hc : ev n f c = .bool t) (ht : t = true → TW P n Q (.code x :: k) f ds w)
    (hf : t = false → TW P n Q (.code y :: k) f ds w) : TW P n Q (.code (.cond c x y) :: k) f ds w := by
  intro a ha b cs
  have hc' : a.eval c = .bool t := by rw [ha.eval]; exact hc
  cases t with
  | true =>
    obtain ⟨e, a', w', f', ds', hr, hq, hfin⟩ := ht rfl a ha b cs
    exact ⟨e, a', w', f', ds', hr, hq, hfin.of_steps (.one (step_cond hc'))⟩
  | false =>
    obtain ⟨e, a', w', f', ds', hr, hq, hfin⟩ := hf rfl a ha b cs
    exact ⟨e, a', w', f', ds', hr, hq, hfin.of_steps (.one (step_cond hc'))⟩

/-- a loop: what holds at its head, a number that falls -/
theorem TW.loop {c : Code} (I : Fr → World → Prop) (μ : Fr → World → Nat) (h₀ : I f w)
    (round : ∀ f w, I f w → (∀ f' w', I f' w' → μ f' w' < μ f w → TW P n Q (.inLoop c :: k) f' ds w') → TW P n Q (.code c :: .inLoop c :: k) f ds w) :
    TW P n Q (.code (.loop c) :: k) f ds w := by
  refine TW.step (fun _ _ _ => step_loop) ?_
  have key : ∀ m f w, μ f w = m → I f w → TW P n Q (.code c :: .inLoop c :: k) f ds w := by
    intro m
    induction m using Nat.strongRecOn with
    | _ m ih =>
      intro f w hm hI
      refine round f w hI fun f' w' hI' hlt => ?_
      exact TW.step (fun _ _ _ => step_inLoop) (ih _ (hm ▸ hlt) f' w' rfl hI')
  exact key _ f w rfl h₀

/-- the operations of a region -/
def postOf (K : Fr → List Deferred → World → Prop) (Q : Post) (n : Nat) : Exit → Act → World → Prop
  | .normal, a, w => ∃ f ds, Rep a n f ds ∧ K f ds w
  | .panic ch, a, w => ∃ f ds, Rep a n f ds ∧ Q (.panic ch) f ds w
  | .outgrown, a, w => ∃ f ds, Rep a n f ds ∧ Q .outgrown f ds w
  | _, _, _ => False

def LW (P : Program) (n : Nat) (ops : Array Oper) (K : Fr → List Deferred → World → Prop) (Q : Post) (l : List Oper) (f : Fr) (ds : List Deferred) (w : World) : Prop :=
  ∀ a, Rep a n f ds → wpList P ops (postOf K Q n) l a w

theorem TW.of_wp {c : Code} (h : ∀ a, Rep a n f ds → c.wp P (postOf (fun f ds w => TW P n Q k f ds w) Q n) a w) : TW P n Q (.code c :: k) f ds w := by
  intro a ha b cs
  obtain ⟨e, a', w', hq, harr⟩ := h a ha b k cs
  cases e with
  | normal =>
    obtain ⟨f', ds', hr', hk⟩ := hq
    obtain ⟨e2, a2, w2, f2, ds2, hr2, hq2, hf2⟩ := hk a' hr' b cs
    exact ⟨e2, a2, w2, f2, ds2, hr2, hq2, hf2.of_steps harr⟩
  | panic ch =>
    obtain ⟨f', ds', hr', hk⟩ := hq
    exact ⟨_, a', w', f', ds', hr', hk, harr⟩
  | outgrown =>
    obtain ⟨f', ds', hr', hk⟩ := hq
    exact ⟨_, a', w', f', ds', hr', hk, harr⟩
  | exit id => exact hq.elim
  | goto l => exact hq.elim
  | ret => exact hq.elim

theorem TW.region {id : Nat} {l : List Oper} (h : LW P n l.toArray (fun f ds w => TW P n Q k f ds w) Q l f ds w) : TW P n Q (.code (.region id l.toArray false) :: k) f ds w :=
  TW.of_wp fun a ha => wp_region_lit (h a ha)

theorem LW.nil {ops : Array Oper} {K : Fr → List Deferred → World → Prop} (h : K f ds w) : LW P n ops K Q [] f ds w := fun _ ha => ⟨f, ds, ha, h⟩

variable {ops : Array Oper} {K : Fr → List Deferred → World → Prop} {o : Oper} {rest : List Oper}

theorem LW.val {v : Value} {w' : World} (hg : o.guard = none) (hr : (execOp (ev n f) o).run P w = .ok (.value v) w') (h : LW P n ops K Q rest (updO f o.dst v) ds w') :
    LW P n ops K Q (o :: rest) f ds w := by
  intro a ha
  refine wpList_plain hg fun K' hK => ?_
  unfold Oper.wp
  rw [ha.eval, hr]
  exact hK _ _ (h _ (ha.put o.dst v))
theorem LW.noval {w' : World} (hg : o.guard = none) (hr : (execOp (ev n f) o).run P w = .ok .skip w') (h : LW P n ops K Q rest (updO f o.dst undef) ds w') :
    LW P n ops K Q (o :: rest) f ds w := by
  intro a ha
  refine wpList_plain hg fun K' hK => ?_
  unfold Oper.wp
  rw [ha.eval, hr]
  exact hK _ _ (h _ (ha.put o.dst undef))
theorem LW.call {g : FuncId} {args : Array Value} {w' : World} (hg : o.guard = none) (hr : (execOp (ev n f) o).run P w = .ok (.enter g args) w')
    (h : Calls P g args w' fun e w'' => ∃ v, e = .returned v ∧ LW P n ops K Q rest (updO f o.dst v) ds w'') : LW P n ops K Q (o :: rest) f ds w := by
  intro a ha
  refine wpList_plain hg fun K' hK => ?_
  unfold Oper.wp
  rw [ha.eval, hr]
  refine h.mono ?_
  rintro e w'' ⟨v, rfl, hl⟩
  exact hK _ _ (hl _ (ha.put o.dst v))
theorem LW.callp {g : FuncId} {args : Array Value} {w' : World} (hg : o.guard = none) (hr : (execOp (ev n f) o).run P w = .ok (.enter g args) w')
    (h : Calls P g args w' fun e w'' => (∃ v, e = .returned v ∧ LW P n ops K Q rest (updO f o.dst v) ds w'') ∨ (∃ ch, e = .panicked ch ∧ Q (.panic ch) f ds w'')) : LW P n ops K Q (o :: rest) f ds w := by
  intro a ha
  unfold wpList
  rw [if_pos (by simp [Region.wanted, hg])]
  refine .inl ?_
  unfold Oper.wp
  rw [ha.eval, hr]
  refine h.mono ?_
  rintro e w'' (⟨v, rfl, hl⟩ | ⟨ch, rfl, hq⟩)
  · exact hl _ (ha.put o.dst v)
  · exact ⟨f, ds, ha, hq⟩
theorem LW.panic {v : Value} {w' : World} (hg : o.guard = none) (hr : (execOp (ev n f) o).run P w = .halt (.panic v) w') (h : Q (.panic [{ v, recovered := false }]) f ds w') :
    LW P n ops K Q (o :: rest) f ds w := by
  intro a ha
  unfold wpList
  rw [if_pos (by simp [Region.wanted, hg])]
  refine .inl ?_
  unfold Oper.wp
  rw [ha.eval, hr]
  exact ⟨f, ds, ha, h⟩
theorem LW.defer {d : Deferred} {w' : World} (hg : o.guard = none) (hr : (execOp (ev n f) o).run P w = .ok (.defer d) w') (h : LW P n ops K Q rest (updO f o.dst undef) (d :: ds) w') :
    LW P n ops K Q (o :: rest) f ds w := by
  intro a ha
  refine wpList_plain hg fun K' hK => ?_
  unfold Oper.wp
  rw [ha.eval, hr]
  refine hK _ _ (h _ ?_)
  have : Rep { a with defers := d :: a.defers } n f (d :: ds) := ⟨ha.size, ha.cell, by rw [← ha.defers]⟩
  exact this.put o.dst undef
end

section
variable {P : Program} {n : Nat} {Q : Post} {f : Fr} {ds : List Deferred} {w : World}
variable {ops : Array Oper} {K : Fr → List Deferred → World → Prop} {o : Oper} {rest : List Oper}
/-- a guard: what the operation that it names has yielded -/
theorem LW.guard {j : Nat} {want b : Bool} {d : Nat} (hg : o.guard = some (j, want)) (hd : (ops[j]?).bind (·.dst) = some d) (hn : Nat.blt d n = true) (hv : f d = .bool b)
    (hy : b = want → LW P n ops K Q ({ o with guard := none } :: rest) f ds w) (hno : b ≠ want → LW P n ops K Q rest (updO f o.dst undef) ds w) : LW P n ops K Q (o :: rest) f ds w := by
  intro a ha
  have hyd : yielded ops a.tmps j = some b := by
    unfold yielded
    rw [hd]
    simp only [Option.bind_some]
    rw [ha.cell d (blt_iff.1 hn), hv]
  by_cases e : b = want
  · have h1 := hy e a ha
    unfold wpList at h1 ⊢
    rw [if_pos (by simp [Region.wanted])] at h1
    rw [if_pos (by simp [Region.wanted, hg, hyd, e])]
    exact h1
  · have h1 := hno e _ (ha.put o.dst undef)
    unfold wpList
    rw [if_neg (by simp [Region.wanted, hg, hyd, e])]
    exact h1
/-- a guard: what it names has not run either -/
theorem LW.unrun {j : Nat} {want : Bool} {d : Nat} (hg : o.guard = some (j, want)) (hd : (ops[j]?).bind (·.dst) = some d) (hn : Nat.blt d n = true) (hv : f d = undef)
    (hno : LW P n ops K Q rest (updO f o.dst undef) ds w) : LW P n ops K Q (o :: rest) f ds w := by
  intro a ha
  have hyd : yielded ops a.tmps j = none := by
    unfold yielded
    rw [hd]
    simp only [Option.bind_some]
    rw [ha.cell d (blt_iff.1 hn), hv]
    rfl
  have h1 := hno _ (ha.put o.dst undef)
  unfold wpList
  rw [if_neg (by simp [Region.wanted, hg, hyd])]
  exact h1
end

/-- a function's call out of its body -/
def Ret (P : Program) (fn : Func) (n : Nat) (R : Ending → World → Prop) : Post
  | .normal, f, ds, w | .ret, f, ds, w => ds = [] ∧ ∃ v, (∀ a, Rep a n f ds → (results fn a.tmps).run P w = .ok v w) ∧ R (.returned v) w
  | .panic ch, _, ds, w => ds = [] ∧ R (.panicked ch) w
  | .outgrown, _, _, w => R .outgrown w
  | _, _, _, _ => False

/-- the slots at the beginning -/
def frOf (args : List Value) : Fr := fun i => (args[i]?).getD undef

theorem rep_enter (args : List Value) (n : Nat) (h : args.length ≤ n) : Rep { tmps := args.toArray ++ Array.replicate (n - args.toArray.size) undef, defers := [] } n (frOf args) [] := by
  refine ⟨by simp; omega, fun i hi => ?_, rfl⟩
  simp only [frOf, Array.getElem?_append, List.size_toArray, List.getElem?_toArray]
  by_cases h1 : i < args.length
  · rw [if_pos h1, List.getElem?_eq_getElem h1]; rfl
  · rw [if_neg h1, Array.getElem?_replicate, if_pos (by omega), List.getElem?_eq_none (by omega)]; rfl

theorem calls_of_TW {P : Program} {g : FuncId} {fn : Func} {c : Code} {args : List Value} {w : World} {R : Ending → World → Prop}
    (hf : P.funcs[g]? = some fn) (hb : fn.body = some c) (hn : args.length ≤ fn.ntmps)
    (h : TW P fn.ntmps (Ret P fn fn.ntmps R) [.code c] (frOf args) [] w) : Calls P g args.toArray w R := by
  intro cs
  let b : Frame := { (default : Frame) with fn := g, kind := .normal }
  have henter : Frame.enter P g args.toArray .normal =
      b.at { tmps := args.toArray ++ Array.replicate (fn.ntmps - args.toArray.size) undef, defers := [] } [.code c] := by
    simp [Frame.enter, Frame.at, hf, hb, b]
  obtain ⟨e, a', w', f', ds', hr', hq, harr⟩ := h _ (rep_enter args fn.ntmps hn) b cs
  rw [← henter] at harr
  cases e with
  | normal =>
    obtain ⟨hd, v, hv, hR⟩ := hq
    exact ⟨.returned v, w', _, hR, Steps.trans harr (.one step_end), rfl, rfl, hr'.defers.trans hd, rfl, fn, hf, hv a' hr'⟩
  | ret =>
    obtain ⟨hd, v, hv, hR⟩ := hq
    obtain ⟨todo, hs⟩ := harr
    exact ⟨.returned v, w', _, hR, hs, rfl, rfl, hr'.defers.trans hd, rfl, fn, hf, hv a' hr'⟩
  | panic chain =>
    obtain ⟨hd, hR⟩ := hq
    obtain ⟨todo, hs⟩ := harr
    exact ⟨.panicked chain, w', _, hR, hs, rfl, rfl, hr'.defers.trans hd, fn, hf⟩
  | exit id => exact hq.elim
  | goto l => exact hq.elim
  | outgrown => exact ⟨.outgrown, w', b, hq, harr.resolve_left (by simp [b]), rfl, trivial⟩
end Wh
namespace Wh
open Go

structure Ck where
  foot : Nat → Prop
  holds : World → Prop
  stable : ∀ w w' : World, (∀ k, foot k → w'.heap[k]? = w.heap[k]?) → holds w → holds w'
  ins : ∀ w : World, holds w → ∀ k, foot k → k < w.heap.size

theorem lt_of_block {w : World} {g : Nat} {o : Obj} (h : w.heap[g]? = some o) : g < w.heap.size := (Array.getElem?_eq_some_iff.1 h).1

/-- a block of cells, known whole -/
def Blk (g : Nat) (t : TypeId) (cs : Array Value) : Ck where
  foot k := k = g
  holds w := w.heap[g]? = some (.cells cs t (0, 0))
  stable := fun _ _ h hw => (h g rfl).trans hw
  ins := fun _ hw _ hk => hk ▸ lt_of_block hw

/-- an object that is no row of cells -/
def Ob (g : Nat) (o : Obj) : Ck where
  foot k := k = g
  holds w := w.heap[g]? = some o
  stable := fun _ _ h hw => (h g rfl).trans hw
  ins := fun _ hw _ hk => hk ▸ lt_of_block hw

/-- a slice of the call's own, that may grow -/
def Row (e : TypeId) (size : Nat) (v : Value) (n : Nat) (xs : List Value) : Ck where
  foot k := v.ownBlock = some k
  holds w := w.ownsRow 0 e size v n xs
  stable := by
    intro w w' h hw
    refine ⟨hw.1, ?_⟩
    rcases hw.2 with h0 | ⟨g, cap, cur, rfl, hb, hh, rest⟩
    · exact .inl h0
    · exact .inr ⟨g, cap, cur, rfl, hb, (h g rfl).trans hh, rest⟩
  ins := fun w hw k hk => (World.ownsRow.lt hw k hk).2

/-- something that is no memory -/
def Pu (p : Prop) : Ck where
  foot _ := False
  holds _ := p
  stable := fun _ _ _ h => h
  ins := fun _ _ _ h => h.elim

/-- many in one -/
def Ck.all (l : List Ck) : Ck where
  foot k := ∃ c ∈ l, c.foot k
  holds w := (∀ c ∈ l, c.holds w) ∧ l.Pairwise (fun c d : Ck => ∀ k, c.foot k → ¬ d.foot k)
  stable := fun w w' h hw => ⟨fun c hc => c.stable w w' (fun k hk => h k ⟨c, hc, hk⟩) (hw.1 c hc), hw.2⟩
  ins := fun w hw k ⟨c, hc, hk⟩ => c.ins w (hw.1 c hc) k hk

structure Hp (B : Nat) (w0 w : World) (L : List Ck) : Prop where
  le : B ≤ w.heap.size
  old : ∀ k, k < B → w.heap[k]? = w0.heap[k]?
  holds : ∀ c ∈ L, c.holds w
  lo : ∀ c ∈ L, ∀ k, c.foot k → B ≤ k
  disj : L.Pairwise (fun c d => ∀ k, c.foot k → ¬ d.foot k)
  tape : w.tape = w0.tape
  os : w.os = w0.os
  out : w.output = w0.output

section
variable {B : Nat} {w0 w w' : World} {L L' : List Ck} {c c' : Ck}

theorem Hp.refl (w : World) : Hp w.heap.size w w [] := ⟨Nat.le_refl _, fun _ _ => rfl, by simp, by simp, by simp, rfl, rfl, rfl⟩

/-- what a step changes: a piece's blocks, and new ones -/
structure Chg (F : Nat → Prop) (w w' : World) : Prop where
  size : w.heap.size ≤ w'.heap.size
  same : ∀ k, k < w.heap.size → ¬ F k → w'.heap[k]? = w.heap[k]?
  tape : w'.tape = w.tape
  os : w'.os = w.os
  out : w'.output = w.output

theorem Chg.refl (F : Nat → Prop) (w : World) : Chg F w w := ⟨Nat.le_refl _, fun _ _ _ => rfl, rfl, rfl, rfl⟩

theorem Hp.upd (h : Hp B w0 w (c :: L)) (hc : Chg c.foot w w') (hh : c'.holds w') (hf : ∀ k, c'.foot k → c.foot k ∨ w.heap.size ≤ k) : Hp B w0 w' (c' :: L) := by
  have hd := List.pairwise_cons.1 h.disj
  have keep : ∀ d ∈ L, ∀ k, d.foot k → k < w.heap.size ∧ ¬ c.foot k := fun d hdm k hk =>
    ⟨d.ins w (h.holds d (List.mem_cons_of_mem _ hdm)) k hk, fun hck => hd.1 d hdm k hck hk⟩
  refine ⟨Nat.le_trans h.le hc.size, fun k hk => ?_, ?_, ?_, ?_, hc.tape.trans h.tape, hc.os.trans h.os, hc.out.trans h.out⟩
  · rw [hc.same k (Nat.lt_of_lt_of_le hk h.le) (fun hck => absurd (h.lo c List.mem_cons_self k hck) (by omega)), h.old k hk]
  · intro d hdm
    rcases List.mem_cons.1 hdm with rfl | hdm
    · exact hh
    · exact d.stable w w' (fun k hk => hc.same k (keep d hdm k hk).1 (keep d hdm k hk).2) (h.holds d (List.mem_cons_of_mem _ hdm))
  · intro d hdm k hk
    rcases List.mem_cons.1 hdm with rfl | hdm
    · rcases hf k hk with h1 | h1
      · exact h.lo c List.mem_cons_self k h1
      · exact Nat.le_trans h.le h1
    · exact h.lo d (List.mem_cons_of_mem _ hdm) k hk
  · refine List.pairwise_cons.2 ⟨fun d hdm k hk hdk => ?_, hd.2⟩
    rcases hf k hk with h1 | h1
    · exact hd.1 d hdm k h1 hdk
    · have := (keep d hdm k hdk).1
      omega

/-- something new -/
theorem Hp.new (h : Hp B w0 w L) (hc : Chg (fun _ => False) w w') (hh : c'.holds w') (hf : ∀ k, c'.foot k → w.heap.size ≤ k) : Hp B w0 w' (c' :: L) := by
  have h1 : Hp B w0 w (Pu True :: L) := by
    refine ⟨h.le, h.old, ?_, ?_, ?_, h.tape, h.os, h.out⟩
    · intro d hd
      rcases List.mem_cons.1 hd with rfl | hd
      · exact trivial
      · exact h.holds d hd
    · intro d hd k hk
      rcases List.mem_cons.1 hd with rfl | hd
      · exact hk.elim
      · exact h.lo d hd k hk
    · exact List.pairwise_cons.2 ⟨fun _ _ _ hk => hk.elim, h.disj⟩
  exact h1.upd hc hh (fun k hk => .inr (hf k hk))

theorem Hp.drop (h : Hp B w0 w (c :: L)) : Hp B w0 w L :=
  ⟨h.le, h.old, fun d hd => h.holds d (List.mem_cons_of_mem _ hd), fun d hd => h.lo d (List.mem_cons_of_mem _ hd), (List.pairwise_cons.1 h.disj).2, h.tape, h.os, h.out⟩

/-- nothing that was there has changed -/
theorem Hp.keep (h : Hp B w0 w L) (hc : Chg (fun _ => False) w w') : Hp B w0 w' L := (h.new (c' := Pu True) hc trivial (fun _ hk => hk.elim)).drop

theorem Hp.perm (h : Hp B w0 w L) (hp : L.Perm L') : Hp B w0 w L' :=
  ⟨h.le, h.old, fun d hd => h.holds d (hp.mem_iff.2 hd), fun d hd => h.lo d (hp.mem_iff.2 hd),
    (hp.pairwise_iff (R := fun c d : Ck => ∀ k, c.foot k → ¬ d.foot k) (fun {_ _} hxy k hk hk' => hxy k hk' hk)).1 h.disj, h.tape, h.os, h.out⟩

theorem perm_front {α : Type} : ∀ (l : List α) (i : Nat) (x : α), l[i]? = some x → l.Perm (x :: l.eraseIdx i)
  | [], _, _, h => by simp at h
  | y :: l, 0, x, h => by simp at h; subst h; exact List.Perm.refl _
  | y :: l, i + 1, x, h => by
    have := perm_front l i x (by simpa using h)
    exact (List.Perm.cons y this).trans (List.Perm.swap x y _)

/-- a piece to the front -/
theorem Hp.front (i : Nat) (h : Hp B w0 w L) (hi : L[i]? = some c) : Hp B w0 w (c :: L.eraseIdx i) := h.perm (perm_front L i c hi)

theorem Hp.dropAt (i : Nat) (h : Hp B w0 w L) : Hp B w0 w (L.eraseIdx i) := by
  cases hi : L[i]? with
  | none =>
    have : L.eraseIdx i = L := List.eraseIdx_of_length_le (by simpa using hi)
    rw [this]; exact h
  | some c => exact (h.front i hi).drop

theorem Hp.swap (h : Hp B w0 w (c :: c' :: L)) : Hp B w0 w (c' :: c :: L) := h.perm (List.Perm.swap _ _ _)

theorem Hp.all_of {l : List Ck} (h : Hp B w0 w (l ++ L)) : Hp B w0 w (Ck.all l :: L) := by
  have hd := List.pairwise_append.1 h.disj
  refine ⟨h.le, h.old, ?_, ?_, ?_, h.tape, h.os, h.out⟩
  · intro d hdm
    rcases List.mem_cons.1 hdm with rfl | hdm
    · exact ⟨fun c hc => h.holds c (List.mem_append_left _ hc), hd.1⟩
    · exact h.holds d (List.mem_append_right _ hdm)
  · intro d hdm k hk
    rcases List.mem_cons.1 hdm with rfl | hdm
    · obtain ⟨c, hc, hck⟩ := hk
      exact h.lo c (List.mem_append_left _ hc) k hck
    · exact h.lo d (List.mem_append_right _ hdm) k hk
  · refine List.pairwise_cons.2 ⟨?_, hd.2.1⟩
    rintro d hdm k ⟨c, hc, hck⟩ hdk
    exact hd.2.2 c hc d hdm k hck hdk

theorem Hp.of_all {l : List Ck} (h : Hp B w0 w (Ck.all l :: L)) : Hp B w0 w (l ++ L) := by
  have hd := List.pairwise_cons.1 h.disj
  have ha := h.holds (Ck.all l) List.mem_cons_self
  refine ⟨h.le, h.old, ?_, ?_, ?_, h.tape, h.os, h.out⟩
  · intro d hdm
    rcases List.mem_append.1 hdm with hdm | hdm
    · exact ha.1 d hdm
    · exact h.holds d (List.mem_cons_of_mem _ hdm)
  · intro d hdm k hk
    rcases List.mem_append.1 hdm with hdm | hdm
    · exact h.lo _ List.mem_cons_self k ⟨d, hdm, hk⟩
    · exact h.lo d (List.mem_cons_of_mem _ hdm) k hk
  · exact List.pairwise_append.2 ⟨ha.2, hd.2, fun c hc d hdm k hck hdk => hd.1 d hdm k ⟨c, hc, hck⟩ hdk⟩

theorem Hp.blk {g : Nat} {t : TypeId} {cs : Array Value} (h : Hp B w0 w L) (hm : Blk g t cs ∈ L) : w.heap[g]? = some (.cells cs t (0, 0)) := h.holds _ hm
theorem Hp.ob {g : Nat} {o : Obj} (h : Hp B w0 w L) (hm : Ob g o ∈ L) : w.heap[g]? = some o := h.holds _ hm
end

/-- where a piece stands, and the pieces with another one in its place -/
class HasB (L : List Ck) (g : Nat) (t : outParam TypeId) (cs : outParam (Array Value)) (mk : outParam (Array Value → List Ck)) : Prop where
  perm : ∃ R, L.Perm (Blk g t cs :: R) ∧ ∀ cs', (Blk g t cs' :: R).Perm (mk cs')
instance HasB.here {L : List Ck} {g : Nat} {t : TypeId} {cs : Array Value} : HasB (Blk g t cs :: L) g t cs (fun x => Blk g t x :: L) :=
  ⟨⟨L, List.Perm.refl _, fun _ => List.Perm.refl _⟩⟩
instance (priority := low) HasB.there {L : List Ck} {c : Ck} {g : Nat} {t : TypeId} {cs : Array Value} {mk : Array Value → List Ck} [h : HasB L g t cs mk] : HasB (c :: L) g t cs (fun x => c :: mk x) := by
  obtain ⟨R, h1, h2⟩ := h.perm
  exact ⟨⟨c :: R, (List.Perm.cons c h1).trans (List.Perm.swap _ _ _), fun cs' => (List.Perm.swap _ _ _).trans (List.Perm.cons c (h2 cs'))⟩⟩
class HasO (L : List Ck) (g : Nat) (o : outParam Obj) (mk : outParam (Obj → List Ck)) : Prop where
  perm : ∃ R, L.Perm (Ob g o :: R) ∧ ∀ o', (Ob g o' :: R).Perm (mk o')
instance HasO.here {L : List Ck} {g : Nat} {o : Obj} : HasO (Ob g o :: L) g o (fun x => Ob g x :: L) :=
  ⟨⟨L, List.Perm.refl _, fun _ => List.Perm.refl _⟩⟩
instance (priority := low) HasO.there {L : List Ck} {c : Ck} {g : Nat} {o : Obj} {mk : Obj → List Ck} [h : HasO L g o mk] : HasO (c :: L) g o (fun x => c :: mk x) := by
  obtain ⟨R, h1, h2⟩ := h.perm
  exact ⟨⟨c :: R, (List.Perm.cons c h1).trans (List.Perm.swap _ _ _), fun cs' => (List.Perm.swap _ _ _).trans (List.Perm.cons c (h2 cs'))⟩⟩
class HasC (L : List Ck) (c : Ck) (mk : outParam (Ck → List Ck)) : Prop where
  perm : ∃ R, L.Perm (c :: R) ∧ ∀ c', (c' :: R).Perm (mk c')
instance HasC.here {L : List Ck} {c : Ck} : HasC (c :: L) c (fun x => x :: L) :=
  ⟨⟨L, List.Perm.refl _, fun _ => List.Perm.refl _⟩⟩
instance (priority := low) HasC.there {L : List Ck} {d c : Ck} {mk : Ck → List Ck} [h : HasC L c mk] : HasC (d :: L) c (fun x => d :: mk x) := by
  obtain ⟨R, h1, h2⟩ := h.perm
  exact ⟨⟨d :: R, (List.Perm.cons d h1).trans (List.Perm.swap _ _ _), fun cs' => (List.Perm.swap _ _ _).trans (List.Perm.cons d (h2 cs'))⟩⟩

section
variable {B : Nat} {w0 w w' : World} {L : List Ck}
theorem Hp.getB {g : Nat} {t : TypeId} {cs : Array Value} {mk : Array Value → List Ck} [h : HasB L g t cs mk] (H : Hp B w0 w L) : w.heap[g]? = some (.cells cs t (0, 0)) := by
  obtain ⟨R, h1, _⟩ := h.perm
  exact (H.perm h1).holds _ List.mem_cons_self
theorem Hp.setB {g : Nat} {t : TypeId} {cs : Array Value} {mk : Array Value → List Ck} [h : HasB L g t cs mk] (H : Hp B w0 w L) (cs' : Array Value) (hc : Chg (fun k => k = g) w w')
    (hh : w'.heap[g]? = some (.cells cs' t (0, 0))) : Hp B w0 w' (mk cs') := by
  obtain ⟨R, h1, h2⟩ := h.perm
  exact ((H.perm h1).upd (c' := Blk g t cs') hc hh (fun _ hk => .inl hk)).perm (h2 cs')
theorem Hp.getO {g : Nat} {o : Obj} {mk : Obj → List Ck} [h : HasO L g o mk] (H : Hp B w0 w L) : w.heap[g]? = some o := by
  obtain ⟨R, h1, _⟩ := h.perm
  exact (H.perm h1).holds _ List.mem_cons_self
theorem Hp.setO {g : Nat} {o : Obj} {mk : Obj → List Ck} [h : HasO L g o mk] (H : Hp B w0 w L) (o' : Obj) (hc : Chg (fun k => k = g) w w')
    (hh : w'.heap[g]? = some o') : Hp B w0 w' (mk o') := by
  obtain ⟨R, h1, h2⟩ := h.perm
  exact ((H.perm h1).upd (c' := Ob g o') hc hh (fun _ hk => .inl hk)).perm (h2 o')
/-- to the front, and back -/
theorem Hp.pick {c : Ck} {mk : Ck → List Ck} [h : HasC L c mk] (H : Hp B w0 w L) : ∃ R, Hp B w0 w (c :: R) ∧ ∀ w' c', Hp B w0 w' (c' :: R) → Hp B w0 w' (mk c') := by
  obtain ⟨R, h1, h2⟩ := h.perm
  exact ⟨R, H.perm h1, fun _ c' H' => H'.perm (h2 c')⟩
theorem Hp.pickB {g : Nat} {t : TypeId} {cs : Array Value} {mk : Array Value → List Ck} [h : HasB L g t cs mk] (H : Hp B w0 w L) :
    ∃ R, Hp B w0 w (Blk g t cs :: R) ∧ ∀ w' cs', Hp B w0 w' (Blk g t cs' :: R) → Hp B w0 w' (mk cs') := by
  obtain ⟨R, h1, h2⟩ := h.perm
  exact ⟨R, H.perm h1, fun _ c' H' => H'.perm (h2 c')⟩

theorem chg_alloc (w : World) (o : Obj) : Chg (fun _ => False) w (w.alloc o) :=
  ⟨by simp, fun k hk _ => Go.RowKit.Below.heap_alloc w o k hk, rfl, rfl, rfl⟩
theorem chg_setCell (w : World) (g i : Nat) (v : Value) : Chg (fun k => k = g) w (w.setCell ⟨g, i, none⟩ v) :=
  ⟨by simp [World.setCell], fun k _ hk => Go.RowKit.Below.heap_setCell w ⟨g, i, none⟩ v k hk, rfl, rfl, rfl⟩
theorem chg_drew (w : World) : Chg (fun _ => False) w { w with drawn := w.drawn + 1 } := ⟨Nat.le_refl _, fun _ _ _ => rfl, rfl, rfl, rfl⟩
theorem Chg.trans {F : Nat → Prop} {a b c : World} (h : Chg F a b) (k : Chg F b c) : Chg F a c :=
  ⟨Nat.le_trans h.size k.size, fun i hi hf => (k.same i (Nat.lt_of_lt_of_le hi h.size) hf).trans (h.same i hi hf), k.tape.trans h.tape, k.os.trans h.os, k.out.trans h.out⟩
theorem Chg.mono {F G : Nat → Prop} {a b : World} (h : Chg F a b) (hFG : ∀ k, F k → G k) : Chg G a b := ⟨h.size, fun k hk hg => h.same k hk (fun hf => hg (hFG k hf)), h.tape, h.os, h.out⟩
theorem Chg.of_below {w w' : World} (h : Go.RowKit.Below w.heap.size w w') : Chg (fun _ => False) w w' := ⟨h.size, fun k hk _ => h.block k hk, h.tape, h.os, h.output⟩
theorem Chg.of_grown {w w' : World} {row : Option Nat} (h : w.grownBy w' row) : Chg (fun k => row = some k) w w' := ⟨h.size, fun k hk hr => h.block k hk (fun e => hr e.symm), h.tape, h.os, h.output⟩
/-- a new block -/
theorem Hp.alloc (H : Hp B w0 w L) (t : TypeId) (cs : Array Value) : Hp B w0 (w.alloc (.cells cs t)) (Blk w.heap.size t cs :: L) :=
  H.new (chg_alloc w _) (heap_alloc_new w _) (fun _ hk => Nat.le_of_eq hk.symm)
theorem Hp.allocO (H : Hp B w0 w L) (o : Obj) : Hp B w0 (w.alloc o) (Ob w.heap.size o :: L) :=
  H.new (chg_alloc w _) (heap_alloc_new w _) (fun _ hk => Nat.le_of_eq hk.symm)
end
end Wh
namespace Wh
open Go

class UT (P : Program) (t : TypeId) (d : outParam TypeDesc) : Prop where eq : P.underlying t = some d
class TI (P : Program) (t : TypeId) (size : outParam Nat) (zero : outParam Value) (bytes : outParam Nat) : Prop where eq : (P.info? t).map (fun i => (i.size, i.zero, i.bytes)) = some (size, some zero, bytes)
/-- a type whose values are one cell -/
class One (P : Program) (t : TypeId) : Prop where eq : (match P.underlying t with | some (.struct _) => false | some (.array _ _) => false | some _ => true | none => false) = true
/-- a type whose values are some cells -/
class Agg (P : Program) (t : TypeId) : Prop where eq : (match P.underlying t with | some (.struct _) => true | some (.array _ _) => true | _ => false) = true
/-- a field: its cell, its type -/
class FO (P : Program) (s : TypeId) (i : Nat) (off : outParam Nat) (ty : outParam TypeId) : Prop where
  eq : (match P.underlying s with | some (.struct fs) => (fs[i]?).map (fun f => (f.offset, f.type)) | _ => none) = some (off, ty)
/-- a function with a body -/
class FN (P : Program) (g : FuncId) : Prop where eq : ((P.funcs[g]?).map fun fn => !(fn.name == "runtime.NumGoroutine") && fn.body.isSome) = some true

section
variable {P : Program} {n : Nat} {f : Fr} {w : World} {o : Oper}

theorem info_of {t : TypeId} {size bytes : Nat} {zero : Value} (h : TI P t size zero bytes) : ∃ i, P.info? t = some i ∧ i.size = size ∧ i.zero = some zero ∧ i.bytes = bytes := by
  have := h.eq
  cases hi : P.info? t with
  | none => rw [hi] at this; simp at this
  | some i => rw [hi] at this; simp at this; exact ⟨i, rfl, this.1, this.2.1, this.2.2⟩
theorem run_underlying' {t : TypeId} {d : TypeDesc} (h : UT P t d) (w : World) : (underlying t).run P w = .ok d w := run_underlying h.eq w
theorem run_typeInfo {t : TypeId} {i : TypeInfo} (h : P.info? t = some i) (w : World) : (typeInfo t).run P w = .ok i w := by simp [typeInfo, program, Sem.run, h]
theorem run_sizeOf {t : TypeId} {size bytes : Nat} {zero : Value} (h : TI P t size zero bytes) (w : World) : (Go.sizeOf t).run P w = .ok size w := by
  obtain ⟨i, hi, h1, _, _⟩ := info_of h
  simp [Go.sizeOf, run_typeInfo hi, h1]
theorem run_zeroValue {t : TypeId} {size bytes : Nat} {zero : Value} (h : TI P t size zero bytes) (w : World) : (zeroValue t).run P w = .ok zero w := by
  obtain ⟨i, hi, _, h1, _⟩ := info_of h
  simp [zeroValue, run_typeInfo hi, h1]
theorem run_isAgg1 {t : TypeId} (h : One P t) (w : World) : (isAgg t).run P w = .ok false w := by
  have := h.eq
  cases hu : P.underlying t with
  | none => rw [hu] at this; simp at this
  | some d =>
    rw [hu] at this
    cases d <;> first | (simp at this; done) | simp [isAgg, run_underlying hu]
theorem run_isAggA {t : TypeId} (h : Agg P t) (w : World) : (isAgg t).run P w = .ok true w := by
  have := h.eq
  cases hu : P.underlying t with
  | none => rw [hu] at this; simp at this
  | some d =>
    rw [hu] at this
    cases d <;> first | (simp at this; done) | simp [isAgg, run_underlying hu]

theorem r_mv {x : Operand} {v : Value} (ho : o.op = .move x := by rfl) (hv : ev n f x = v := by first | ((conv => lhs; whnf); done) | rfl) : (execOp (ev n f) o).run P w = .ok (.value v) w := by
  simp [execOp, ho, hv]
theorem r_as {x : Operand} {v : Value} (ho : o.op = .assign x := by rfl) (hv : ev n f x = v := by first | ((conv => lhs; whnf); done) | rfl) : (execOp (ev n f) o).run P w = .ok (.value v) w := by
  simp [execOp, ho, hv]
theorem r_pick {c x y : Operand} {b : Bool} {v : Value} (ho : o.op = .pick c x y := by rfl) (hc : ev n f c = .bool b := by rfl) (hv : (if b then ev n f x else ev n f y) = v := by first | ((conv => lhs; whnf); done) | rfl) :
    (execOp (ev n f) o).run P w = .ok (.value v) w := by
  simp only [execOp, ho, hc, asBool]
  cases b <;> simp at hv <;> simp [hv]
theorem r_nil {x : Operand} {a : Addr} (ho : o.op = .nilCheck x := by rfl) (hv : ev n f x = .pointer (some a) := by rfl) : (execOp (ev n f) o).run P w = .ok (.value (.pointer (some a))) w := by
  simp [execOp, ho, hv]

/-- what a reckoning on two whole numbers comes to, where it always comes to something -/
def bopI (op : BinOp) (k : IntKind) (a b : Int) : Option Value :=
  match op with
  | .add => some (.int k (k.wrap (a + b)))
  | .sub => some (.int k (k.wrap (a - b)))
  | .mul => some (.int k (k.wrap (a * b)))
  | .and => some (.int k (bits .and k a b))
  | .or => some (.int k (bits .or k a b))
  | .xor => some (.int k (bits .xor k a b))
  | .andNot => some (.int k (bits .andNot k a b))
  | .eql => some (.bool (decide (a = b)))
  | .neq => some (.bool (!decide (a = b)))
  | .lss => some (.bool (decide (a < b)))
  | .leq => some (.bool (decide (a ≤ b)))
  | .gtr => some (.bool (decide (a > b)))
  | .geq => some (.bool (decide (a ≥ b)))
  | _ => none

theorem eqGuard_int (op : BinOp) (t : TypeId) (x y : Operand) (k : IntKind) (a : Int) (v : Value) : eqGuard op t x y (.int k a) v = pure () := by cases op <;> rfl
theorem eqGuard_bool (op : BinOp) (t : TypeId) (x y : Operand) (b : Bool) (v : Value) : eqGuard op t x y (.bool b) v = pure () := by cases op <;> rfl

theorem r_bin {op : BinOp} {t t2 : TypeId} {x y : Operand} {k : IntKind} {a b : Int} {v : Value} (ho : o.op = .binOp op t x y t2 := by rfl) (hx : ev n f x = .int k a := by rfl) (hy : ev n f y = .int k b := by rfl)
    (hv : bopI op k a b = some v := by rfl) : (execOp (ev n f) o).run P w = .ok (.value v) w := by
  simp only [execOp, ho, hx, hy, eqGuard_int]
  cases op <;> simp only [bopI, Option.some.injEq, reduceCtorEq] at hv <;> subst hv <;>
    first | (simp [binOp, Op.intArith, Op.intCmp, Op.intBits, bits]; done) | (simp [binOp, Op.intArith, Op.intCmp, Op.intBits, bits]; rfl)
/-- a sum, a difference, a product that is in its kind's bounds -/
theorem r_add {t t2 : TypeId} {x y : Operand} {k : IntKind} {a b : Int} (ho : o.op = .binOp .add t x y t2 := by rfl) (hx : ev n f x = .int k a := by rfl) (hy : ev n f y = .int k b := by rfl)
    (hk : k.wrap (a + b) = a + b) : (execOp (ev n f) o).run P w = .ok (.value (.int k (a + b))) w := r_bin ho hx hy (by simp [bopI, hk])
theorem r_sub {t t2 : TypeId} {x y : Operand} {k : IntKind} {a b : Int} (ho : o.op = .binOp .sub t x y t2 := by rfl) (hx : ev n f x = .int k a := by rfl) (hy : ev n f y = .int k b := by rfl)
    (hk : k.wrap (a - b) = a - b) : (execOp (ev n f) o).run P w = .ok (.value (.int k (a - b))) w := r_bin ho hx hy (by simp [bopI, hk])
theorem r_mul {t t2 : TypeId} {x y : Operand} {k : IntKind} {a b : Int} (ho : o.op = .binOp .mul t x y t2 := by rfl) (hx : ev n f x = .int k a := by rfl) (hy : ev n f y = .int k b := by rfl)
    (hk : k.wrap (a * b) = a * b) : (execOp (ev n f) o).run P w = .ok (.value (.int k (a * b))) w := r_bin ho hx hy (by simp [bopI, hk])
theorem r_quo {t t2 : TypeId} {x y : Operand} {k : IntKind} {a b : Int} (ho : o.op = .binOp .quo t x y t2 := by rfl) (hx : ev n f x = .int k a := by rfl) (hy : ev n f y = .int k b := by rfl)
    (hb : b ≠ 0) : (execOp (ev n f) o).run P w = .ok (.value (.int k (k.wrap (a.tdiv b)))) w := by
  simp [execOp, ho, hx, hy, eqGuard_int, binOp, Op.intDiv, hb]
theorem r_rem {t t2 : TypeId} {x y : Operand} {k : IntKind} {a b : Int} (ho : o.op = .binOp .rem t x y t2 := by rfl) (hx : ev n f x = .int k a := by rfl) (hy : ev n f y = .int k b := by rfl)
    (hb : b ≠ 0) : (execOp (ev n f) o).run P w = .ok (.value (.int k (a.tmod b))) w := by
  simp [execOp, ho, hx, hy, eqGuard_int, binOp, Op.intDiv, hb]
theorem r_shl {t t2 : TypeId} {x y : Operand} {k k2 : IntKind} {a b : Int} (ho : o.op = .binOp .shl t x y t2 := by rfl) (hx : ev n f x = .int k a := by rfl) (hy : ev n f y = .int k2 b := by rfl)
    (hb : 0 ≤ b) : (execOp (ev n f) o).run P w = .ok (.value (.int k (k.wrap (a * 2 ^ (min b.toNat k.bits))))) w := by
  simp [execOp, ho, hx, hy, eqGuard_int, binOp, Op.shift, Int.not_lt.2 hb]
theorem r_shr {t t2 : TypeId} {x y : Operand} {k k2 : IntKind} {a b : Int} (ho : o.op = .binOp .shr t x y t2 := by rfl) (hx : ev n f x = .int k a := by rfl) (hy : ev n f y = .int k2 b := by rfl)
    (hb : 0 ≤ b) : (execOp (ev n f) o).run P w = .ok (.value (.int k (a.fdiv (2 ^ (min b.toNat k.bits))))) w := by
  simp [execOp, ho, hx, hy, eqGuard_int, binOp, Op.shift, Int.not_lt.2 hb]
theorem r_eqb {t t2 : TypeId} {x y : Operand} {a b : Bool} (ho : o.op = .binOp .eql t x y t2 := by rfl) (hx : ev n f x = .bool a := by rfl) (hy : ev n f y = .bool b := by rfl) (ht : UT P t .bool := by infer_instance) :
    (execOp (ev n f) o).run P w = .ok (.value (.bool (a == b))) w := by
  have h1 : binOp .eql t (.bool a) (.bool b) = (do pure (.bool (← Op.equal t (.bool a) (.bool b)))) := rfl
  simp [execOp, ho, hx, hy, eqGuard_bool, h1, run_equal_bool (P := P) (w := w) t a b ht.eq]
theorem r_neb {t t2 : TypeId} {x y : Operand} {a b : Bool} (ho : o.op = .binOp .neq t x y t2 := by rfl) (hx : ev n f x = .bool a := by rfl) (hy : ev n f y = .bool b := by rfl) (ht : UT P t .bool := by infer_instance) :
    (execOp (ev n f) o).run P w = .ok (.value (.bool (a != b))) w := by
  have h1 : binOp .neq t (.bool a) (.bool b) = (do pure (.bool (!(← Op.equal t (.bool a) (.bool b))))) := rfl
  simp [execOp, ho, hx, hy, eqGuard_bool, h1, run_equal_bool (P := P) (w := w) t a b ht.eq, bne]
theorem r_not {t : TypeId} {x : Operand} {b : Bool} (ho : o.op = .unOp .not t x := by rfl) (hx : ev n f x = .bool b := by rfl) : (execOp (ev n f) o).run P w = .ok (.value (.bool !b)) w := by
  simp [execOp, ho, hx, Op.unary]
theorem r_neg {t : TypeId} {x : Operand} {k : IntKind} {a : Int} (ho : o.op = .unOp .neg t x := by rfl) (hx : ev n f x = .int k a := by rfl) : (execOp (ev n f) o).run P w = .ok (.value (.int k (k.wrap (0 - a)))) w := by
  simp [execOp, ho, hx, Op.unary, Op.intArith]
theorem r_cpl {t : TypeId} {x : Operand} {k : IntKind} {a : Int} (ho : o.op = .unOp .xor t x := by rfl) (hx : ev n f x = .int k a := by rfl) : (execOp (ev n f) o).run P w = .ok (.value (.int k (bits .xor k (if k.signed then -1 else k.max) a))) w := by
  simp [execOp, ho, hx, Op.unary, Op.intBits, bits]
theorem r_cv {s d : TypeId} {x : Operand} {k k' : IntKind} {a : Int} {ds' : TypeDesc} (ho : o.op = .convert s d x := by rfl) (hx : ev n f x = .int k' a := by rfl) (hs : UT P s ds' := by infer_instance) (hd : UT P d (.int k) := by infer_instance) :
    (execOp (ev n f) o).run P w = .ok (.value (.int k (k.wrap a))) w := by
  simp [execOp, ho, hx, convert, run_underlying' hs, run_underlying' hd, Conv.intToInt]
theorem r_ext {x : Operand} {i : Nat} {vs : Array Value} {v : Value} (ho : o.op = .extract x i := by rfl) (hx : ev n f x = .tuple vs := by rfl) (hv : vs[i]? = some v := by rfl) :
    (execOp (ev n f) o).run P w = .ok (.value v) w := by
  simp [execOp, ho, hx, Instr.extract, hv]
theorem add_of (g p k : Nat) : (⟨g, p, none⟩ : Addr).add k = ⟨g, p + k, none⟩ := by
  unfold Addr.add
  split
  · rename_i e; subst e; rfl
  · rfl
theorem r_fa {s : TypeId} {x : Operand} {i : Nat} {g p : Nat} {off : Nat} {ty : TypeId} {size bytes : Nat} {zero : Value} (ho : o.op = .fieldAddr s x i := by rfl) (hx : ev n f x = .pointer (some ⟨g, p, none⟩) := by rfl)
    (hF : FO P s i off ty := by infer_instance) (hT : TI P ty size zero bytes := by infer_instance) (hs : Nat.beq size 0 = false := by rfl) :
    (execOp (ev n f) o).run P w = .ok (.value (.pointer (some ⟨g, p + off, none⟩))) w := by
  have h := hF.eq
  have hs' : ¬ size = 0 := fun e => by subst e; simp at hs
  cases hu : P.underlying s with
  | none => rw [hu] at h; simp at h
  | some d =>
    rw [hu] at h
    cases d with
    | struct fs =>
      simp only at h
      cases hf : fs[i]? with
      | none => rw [hf] at h; simp at h
      | some fl =>
        rw [hf] at h
        simp only [Option.map_some, Option.some.injEq, Prod.mk.injEq] at h
        obtain ⟨h1, h2⟩ := h
        subst h1 h2
        have ha : (⟨g, p, none⟩ : Addr).add fl.offset = ⟨g, p + fl.offset, none⟩ := add_of g p fl.offset
        simp [execOp, ho, hx, Instr.fieldAt, run_underlying hu, hf, Instr.sureAddr, fieldPlace, run_sizeOf hT, hs', ha]
    | _ => simp at h
theorem r_fld {s : TypeId} {x : Operand} {i : Nat} {cs : Array Value} {off : Nat} {ty : TypeId} {v : Value} (ho : o.op = .field s x i := by rfl) (hx : ev n f x = .agg cs := by rfl)
    (hF : FO P s i off ty := by infer_instance) (hT : One P ty := by infer_instance) (hv : cs[off]? = some v := by rfl) : (execOp (ev n f) o).run P w = .ok (.value v) w := by
  have h := hF.eq
  cases hu : P.underlying s with
  | none => rw [hu] at h; simp at h
  | some d =>
    rw [hu] at h
    cases d with
    | struct fs =>
      simp only at h
      cases hf : fs[i]? with
      | none => rw [hf] at h; simp at h
      | some fl =>
        rw [hf] at h
        simp only [Option.map_some, Option.some.injEq, Prod.mk.injEq] at h
        obtain ⟨h1, h2⟩ := h
        subst h1 h2
        simp [execOp, ho, hx, Instr.field, run_underlying hu, hf, asAgg, part, run_isAgg1 hT, hv]
    | _ => simp at h
theorem r_fldA {s : TypeId} {x : Operand} {i : Nat} {cs : Array Value} {off : Nat} {ty : TypeId} {size bytes : Nat} {zero : Value} (ho : o.op = .field s x i := by rfl) (hx : ev n f x = .agg cs := by rfl)
    (hF : FO P s i off ty := by infer_instance) (hT : Agg P ty := by infer_instance) (hS : TI P ty size zero bytes := by infer_instance) : (execOp (ev n f) o).run P w = .ok (.value (.agg (cs.extract off (off + size)))) w := by
  have h := hF.eq
  cases hu : P.underlying s with
  | none => rw [hu] at h; simp at h
  | some d =>
    rw [hu] at h
    cases d with
    | struct fs =>
      simp only at h
      cases hf : fs[i]? with
      | none => rw [hf] at h; simp at h
      | some fl =>
        rw [hf] at h
        simp only [Option.map_some, Option.some.injEq, Prod.mk.injEq] at h
        obtain ⟨h1, h2⟩ := h
        subst h1 h2
        simp [execOp, ho, hx, Instr.field, run_underlying hu, hf, asAgg, part, run_isAggA hT, run_sizeOf hS]
    | _ => simp at h
/-- the address of an array's element -/
theorem r_iaA {t e : TypeId} {x y : Operand} {g p len : Nat} {k : IntKind} {i : Int} {size bytes : Nat} {zero : Value} (ho : o.op = .indexAddr t x y := by rfl) (hx : ev n f x = .pointer (some ⟨g, p, none⟩) := by rfl)
    (hy : ev n f y = .int k i := by rfl) (hT : UT P t (.array len e) := by infer_instance) (hS : TI P e size zero bytes := by infer_instance) (h0 : 0 ≤ i) (h1 : i < len) :
    (execOp (ev n f) o).run P w = .ok (.value (.pointer (some ⟨g, p + i.toNat * size, none⟩))) w := by
  simp [execOp, ho, hx, hy, Instr.indexAt, asIntOf, run_underlying' hT, Instr.sureAddr, h0, h1, run_sizeOf hS, add_of]
/-- the address of a slice's element -/
theorem r_iaS {t e : TypeId} {x y : Operand} {a : Addr} {len cap : Nat} {k : IntKind} {i : Int} {size bytes : Nat} {zero : Value} (ho : o.op = .indexAddr t x y := by rfl) (hx : ev n f x = .slice (some a) len cap := by rfl)
    (hy : ev n f y = .int k i := by rfl) (hT : UT P t (.slice e) := by infer_instance) (hS : TI P e size zero bytes := by infer_instance) (h0 : 0 ≤ i) (h1 : i < len) :
    (execOp (ev n f) o).run P w = .ok (.value (.pointer (some (a.add (i.toNat * size))))) w := by
  simp [execOp, ho, hx, hy, Instr.indexAt, asIntOf, run_underlying' hT, h0, h1, run_sizeOf hS]
/-- an element of an array's value -/
theorem r_ix {t e : TypeId} {x y : Operand} {cs : Array Value} {len : Nat} {k : IntKind} {i : Int} {size bytes : Nat} {zero v : Value} (ho : o.op = .index t x y := by rfl) (hx : ev n f x = .agg cs := by rfl)
    (hy : ev n f y = .int k i := by rfl) (hT : UT P t (.array len e) := by infer_instance) (hS : TI P e size zero bytes := by infer_instance) (hO : One P e := by infer_instance) (h0 : 0 ≤ i) (h1 : i < len) (hv : cs[i.toNat * size]? = some v) :
    (execOp (ev n f) o).run P w = .ok (.value v) w := by
  simp [execOp, ho, hx, hy, Instr.index, asIntOf, run_underlying' hT, h0, h1, run_sizeOf hS, part, run_isAgg1 hO, hv]
theorem r_ixStr {t : TypeId} {x y : Operand} {s : ByteArray} {k : IntKind} {i : Int} {b : UInt8} (ho : o.op = .index t x y := by rfl) (hx : ev n f x = .string s := by rfl)
    (hy : ev n f y = .int k i := by rfl) (hT : UT P t .string := by infer_instance) (h0 : 0 ≤ i) (hv : s[i.toNat]? = some b) :
    (execOp (ev n f) o).run P w = .ok (.value (.int .u8 b.toNat)) w := by
  simp [execOp, ho, hx, hy, Instr.index, asIntOf, run_underlying' hT, h0, hv]
theorem r_len {x : Operand} {t e : TypeId} {a : Option Addr} {l c : Nat} (ho : o.op = .call { callee := .builtin .len, args := #[x], argTypes := #[t] } := by rfl) (hx : ev n f x = .slice a l c := by rfl) (hT : UT P t (.slice e) := by infer_instance) :
    (execOp (ev n f) o).run P w = .ok (.value (.int .i64 l)) w := by
  simp [execOp, ho, resolve, invoke, builtin, hx, Builtin.len_, run_underlying' hT, goInt]
theorem r_lenS {x : Operand} {t : TypeId} {s : ByteArray} (ho : o.op = .call { callee := .builtin .len, args := #[x], argTypes := #[t] } := by rfl) (hx : ev n f x = .string s := by rfl) (hT : UT P t .string := by infer_instance) :
    (execOp (ev n f) o).run P w = .ok (.value (.int .i64 s.size)) w := by
  simp [execOp, ho, resolve, invoke, builtin, hx, Builtin.len_, run_underlying' hT, goInt]
theorem r_lenA {x : Operand} {t e : TypeId} {l : Nat} (ho : o.op = .call { callee := .builtin .len, args := #[x], argTypes := #[t] } := by rfl) (hT : UT P t (.array l e) := by infer_instance) :
    (execOp (ev n f) o).run P w = .ok (.value (.int .i64 l)) w := by
  simp [execOp, ho, resolve, invoke, builtin, Builtin.len_, run_underlying' hT, goInt]
theorem r_min {x y : Operand} {tys : Array TypeId} {k k2 : IntKind} {a b : Int} (ho : o.op = .call { callee := .builtin .min, args := #[x, y], argTypes := tys } := by rfl) (hx : ev n f x = .int k a := by rfl) (hy : ev n f y = .int k2 b := by rfl) :
    (execOp (ev n f) o).run P w = .ok (.value (.int k (if b < a then b else a))) w := by
  simp [execOp, ho, resolve, invoke, builtin, hx, hy, Builtin.min_, Builtin.min2]
theorem r_max {x y : Operand} {tys : Array TypeId} {k k2 : IntKind} {a b : Int} (ho : o.op = .call { callee := .builtin .max, args := #[x, y], argTypes := tys } := by rfl) (hx : ev n f x = .int k a := by rfl) (hy : ev n f y = .int k2 b := by rfl) :
    (execOp (ev n f) o).run P w = .ok (.value (.int k (if b > a then b else a))) w := by
  simp [execOp, ho, resolve, invoke, builtin, hx, hy, Builtin.max_, Builtin.max2]
theorem r_fun {fn : Fn} {fs cs : Array Operand} {vs us : List Value} (ho : o.op = .makeFunc fn fs cs := by rfl) (h1 : fs.toList.map (ev n f) = vs) (h2 : cs.toList.map (ev n f) = us) :
    (execOp (ev n f) o).run P w = .ok (.value (.func fn vs.toArray us.toArray)) w := by
  have e1 : fs.map (ev n f) = vs.toArray := by rw [← h1]; apply Array.ext'; simp
  have e2 : cs.map (ev n f) = us.toArray := by rw [← h2]; apply Array.ext'; simp
  simp [execOp, ho, Instr.makeFunc, e1, e2]

/-! ### memory -/
variable {B : Nat} {w0 : World} {L : List Ck}
theorem cell_of_blk {g i : Nat} {cs : Array Value} {t : TypeId} (h : w.heap[g]? = some (.cells cs t (0, 0))) : w.cell? ⟨g, i, none⟩ = cs[i]? := cell_of_row w g i cs t (0, 0) h
theorem run_load1 {a : Addr} {v : Value} (h : w.cell? a = some v) : (load a).run P w = .ok v w := by simp [h]
theorem run_loadVar1 {t : TypeId} [h1 : One P t] {a : Addr} {v : Value} (h : w.cell? a = some v) : (loadVar t a).run P w = .ok v w := by
  simp [loadVar, run_isAgg1 h1, h]
theorem run_loadVarA {t : TypeId} [h1 : Agg P t] {size bytes : Nat} {zero : Value} [hS : TI P t size zero bytes] {g p : Nat} {bt : TypeId} {cs : Array Value} (hb : w.heap[g]? = some (.cells cs bt (0, 0))) (hp : p + size ≤ cs.size) :
    (loadVar t ⟨g, p, none⟩).run P w = .ok (.agg (cs.extract p (p + size))) w := by
  have hc : ∀ j v, (cs.extract p (p + size)).toList[j]? = some v → w.cell? ((⟨g, p, none⟩ : Addr).add j) = some v := by
    intro j v hj
    rw [add_of, cell_of_blk hb]
    simp only [Array.getElem?_toList, Array.getElem?_extract] at hj
    split at hj
    · exact hj
    · cases hj
  have := run_loadCells_list (P := P) (w := w) ⟨g, p, none⟩ _ hc
  have hl : (cs.extract p (p + size)).toList.length = size := by simp; omega
  rw [hl] at this
  simp only [Array.toArray_toList] at this
  simp [loadVar, run_isAggA h1, run_sizeOf hS, this]
/-- a cell of a block that is known -/
theorem r_ld {t : TypeId} {x : Operand} {g p : Nat} {bt : TypeId} {cs : Array Value} {mk : Array Value → List Ck} {v : Value} (H : Hp B w0 w L) (ho : o.op = .load t x := by rfl) (hx : ev n f x = .pointer (some ⟨g, p, none⟩) := by rfl)
    (h1 : One P t := by infer_instance) (hb : HasB L g bt cs mk := by infer_instance) (hv : cs[p]? = some v := by rfl) : (execOp (ev n f) o).run P w = .ok (.value v) w := by
  have hc : w.cell? ⟨g, p, none⟩ = some v := by rw [cell_of_blk (H.getB (h := hb))]; exact hv
  simp [execOp, ho, hx, Instr.loadAt, Instr.sureAddr, run_loadVar1 hc]
/-- a cell that is known -/
theorem r_ldc {t : TypeId} {x : Operand} {a : Addr} {v : Value} (hc : w.cell? a = some v) (ho : o.op = .load t x := by rfl) (hx : ev n f x = .pointer (some a) := by rfl)
    (h1 : One P t := by infer_instance) : (execOp (ev n f) o).run P w = .ok (.value v) w := by
  simp [execOp, ho, hx, Instr.loadAt, Instr.sureAddr, run_loadVar1 hc]
theorem r_ldA {t : TypeId} {x : Operand} {g p : Nat} {bt : TypeId} {cs : Array Value} {mk : Array Value → List Ck} {size bytes : Nat} {zero v : Value} (H : Hp B w0 w L) (ho : o.op = .load t x := by rfl) (hx : ev n f x = .pointer (some ⟨g, p, none⟩) := by rfl)
    (h1 : Agg P t := by infer_instance) (hS : TI P t size zero bytes := by infer_instance) (hb : HasB L g bt cs mk := by infer_instance) (hp : p + size ≤ cs.size) (hv : Value.agg (cs.extract p (p + size)) = v) : (execOp (ev n f) o).run P w = .ok (.value v) w := by
  simp [execOp, ho, hx, Instr.loadAt, Instr.sureAddr, run_loadVarA (H.getB (h := hb)) hp, hv]
/-- the whole of a block -/
theorem r_ldW {t : TypeId} {x : Operand} {g : Nat} {bt : TypeId} {cs : Array Value} {mk : Array Value → List Ck} {size bytes : Nat} {zero : Value} (H : Hp B w0 w L) (ho : o.op = .load t x := by rfl) (hx : ev n f x = .pointer (some ⟨g, 0, none⟩) := by rfl)
    (h1 : Agg P t := by infer_instance) (hS : TI P t size zero bytes := by infer_instance) (hb : HasB L g bt cs mk := by infer_instance) (hp : cs.size = size := by rfl) : (execOp (ev n f) o).run P w = .ok (.value (.agg cs)) w :=
  r_ldA H ho hx (h1 := h1) (hS := hS) (hb := hb) (hp := by omega) (hv := by rw [← hp]; simp)
theorem run_storeVar1 {t : TypeId} {size bytes : Nat} {zero : Value} [hS : TI P t size zero bytes] (hs : size = 1) {a : Addr} {v u : Value} (h1 : v.oneCell' = true) (hc : w.cell? a = some u) (hf : w.frozen? a = false) :
    (storeVar t a v).run P w = .ok () (w.setCell a v) := by
  subst hs
  have hcl : v.cells = #[v] := by cases v <;> first | rfl | simp [Value.oneCell'] at h1
  have hst : (store a v).run P w = .ok () (w.setCell a v) := by
    rw [run_store P w a v _ h1]
    simp [hc, hf]
  simp [storeVar, hcl, run_sizeOf hS, storeCells, Addr.add_zero', hst]
theorem frozen_of_blk {g i : Nat} {cs : Array Value} {t : TypeId} (h : w.heap[g]? = some (.cells cs t (0, 0))) : w.frozen? ⟨g, i, none⟩ = false := frozen_of_row w g i cs t h
theorem Hp.store {g p : Nat} {bt : TypeId} {cs : Array Value} {mk : Array Value → List Ck} [hb : HasB L g bt cs mk] (H : Hp B w0 w L) (v : Value) : Hp B w0 (w.setCell ⟨g, p, none⟩ v) (mk (cs.setIfInBounds p v)) :=
  H.setB (h := hb) _ (chg_setCell w g p v) (heap_setCell_same w g p cs bt v (H.getB (h := hb)))
/-- a store into a cell of a block that is known -/
theorem r_st {t : TypeId} {x y : Operand} {g p : Nat} {bt : TypeId} {cs : Array Value} {mk : Array Value → List Ck} {size bytes : Nat} {zero v : Value} (H : Hp B w0 w L) (ho : o.op = .store t x y := by rfl) (hx : ev n f x = .pointer (some ⟨g, p, none⟩) := by rfl)
    (hy : ev n f y = v := by first | ((conv => lhs; whnf); done) | rfl) (h1 : v.oneCell' = true := by rfl) (hS : TI P t size zero bytes := by infer_instance) (hs : Nat.beq size 1 = true := by rfl) (hb : HasB L g bt cs mk := by infer_instance) (hp : Nat.blt p cs.size = true := by rfl) :
    ∃ w', (execOp (ev n f) o).run P w = .ok .skip w' ∧ Hp B w0 w' (mk (cs.setIfInBounds p v)) := by
  have hblk := H.getB (h := hb)
  have hp' : p < cs.size := blt_iff.1 hp
  have hc : w.cell? ⟨g, p, none⟩ = some cs[p] := by rw [cell_of_blk hblk]; simp [hp']
  refine ⟨_, ?_, H.store (hb := hb) v⟩
  have hs' : size = 1 := Nat.eq_of_beq_eq_true hs
  simp [execOp, ho, hx, hy, Instr.storeAt, Instr.sureAddr, run_storeVar1 (P := P) (t := t) hs' h1 hc (frozen_of_blk hblk)]
theorem run_newVar {t : TypeId} {v : Value} : (newVar t v).run P w = .ok ⟨w.heap.size, 0, none⟩ (w.alloc (.cells v.cells t)) := by
  simp [newVar, newRow]
/-- a new variable -/
theorem r_al {t : TypeId} {size bytes : Nat} {zero : Value} (H : Hp B w0 w L) (ho : o.op = .alloc t := by rfl) (hS : TI P t size zero bytes := by infer_instance) :
    ∃ g w', (execOp (ev n f) o).run P w = .ok (.value (.pointer (some ⟨g, 0, none⟩))) w' ∧ Hp B w0 w' (Blk g t zero.cells :: L) := by
  refine ⟨w.heap.size, _, ?_, H.alloc t zero.cells⟩
  simp [execOp, ho, Instr.alloc, run_zeroValue hS, run_newVar]
theorem r_box {t : TypeId} {x : Operand} {v : Value} (H : Hp B w0 w L) (ho : o.op = .box t x := by rfl) (hx : ev n f x = v := by first | ((conv => lhs; whnf); done) | rfl) :
    ∃ g w', (execOp (ev n f) o).run P w = .ok (.value (.pointer (some ⟨g, 0, none⟩))) w' ∧ Hp B w0 w' (Blk g t v.cells :: L) := by
  refine ⟨w.heap.size, _, ?_, H.alloc t v.cells⟩
  simp [execOp, ho, hx, Instr.box, run_newVar]
theorem r_mmap {t : TypeId} (H : Hp B w0 w L) (ho : o.op = .makeMap t none := by rfl) :
    ∃ g w', (execOp (ev n f) o).run P w = .ok (.value (.map (some g))) w' ∧ Hp B w0 w' (Ob g (.map #[] 0) :: L) := by
  refine ⟨w.heap.size, _, ?_, H.allocO (.map #[] 0)⟩
  simp [execOp, ho, Instr.makeMap]

/-! ### calls -/
theorem run_callFunc {g : FuncId} [h : FN P g] (args : Array Value) : (callFunc g args).run P w = .ok (.enter g args) w := by
  have h := h.eq
  cases hf : P.funcs[g]? with
  | none => rw [hf] at h; simp at h
  | some fn =>
    rw [hf] at h
    simp only [Option.map_some, Option.some.injEq, Bool.and_eq_true, Bool.not_eq_true'] at h
    have hn : ¬ (fn.body.isNone = true) := by simp [Option.isNone_iff_eq_none]; intro e; rw [e] at h; simp at h
    unfold callFunc
    simp only [program, Sem.run_bind, Sem.run, Result.andThen_ok, hf, h.1, Bool.false_eq_true, if_false, hn, Sem.run_pure]
theorem r_call {g : FuncId} {xs : List Operand} {tys : Array TypeId} {vs : List Value} (ho : o.op = .call { callee := .value (.func g), args := xs.toArray, argTypes := tys } := by rfl) (h : FN P g := by infer_instance) (hv : xs.map (ev n f) = vs) :
    (execOp (ev n f) o).run P w = .ok (.enter g vs.toArray) w := by
  simp [execOp, ho, resolve, ev, Deferred.ofValue, invoke, run_callFunc, hv]
/-- a call of a function's value -/
theorem r_callV {x : Operand} {g : FuncId} {xs : List Operand} {tys : Array TypeId} {vs first cap : List Value} (ho : o.op = .call { callee := .value x, args := xs.toArray, argTypes := tys } := by rfl)
    (hx : ev n f x = .func (.func g) first.toArray cap.toArray := by rfl) (h : FN P g := by infer_instance) (hv : xs.map (ev n f) = vs) :
    (execOp (ev n f) o).run P w = .ok (.enter g (first ++ vs ++ cap).toArray) w := by
  simp [execOp, ho, resolve, hx, Deferred.ofValue, invoke, run_callFunc, hv]
end
end Wh
