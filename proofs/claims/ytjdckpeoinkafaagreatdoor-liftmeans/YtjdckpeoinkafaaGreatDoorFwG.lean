/- Deferred calls; functions without a body (atomics); maps; literals of slices; append. -/
import Derived.Test.YtjdckpeoinkafaaGreatDoorFwF
import Derived.Maps.AppendAt
set_option linter.all false
namespace Wh
open Go
section
variable {P : Program} {n : Nat} {f : Fr} {w : World} {o : Oper} {fn : Func} {g : FuncId}

/-! ### deferred calls -/
def RetD (P : Program) (fn : Func) (n : Nat) (R : Ending → World → Prop) : Post
  | .normal, f, ds, w | .ret, f, ds, w => ∀ a, Rep a n f ds → Leaves P fn a.tmps R ds .returning w
  | .panic ch, f, ds, w => ∀ a, Rep a n f ds → Leaves P fn a.tmps R ds (.panicking ch) w
  | .outgrown, _, _, w => R .outgrown w
  | _, _, _, _ => False

theorem calls_goD {c : Code} {args : List Value} {R : Ending → World → Prop} (hf : P.funcs[g]? = some fn) (hn : fn.ntmps = n) (hb : fn.body = some c) (hl : Nat.ble args.length n = true)
    (h : TW P n (RetD P fn n R) [.code c] (frOf args) [] w) : Calls P g args.toArray w R := by
  subst hn
  have hn' : args.length ≤ fn.ntmps := Nat.le_of_ble_eq_true hl
  intro cs
  let b : Frame := { (default : Frame) with fn := g, kind := .normal }
  have henter : Frame.enter P g args.toArray .normal =
      b.at { tmps := args.toArray ++ Array.replicate (fn.ntmps - args.toArray.size) undef, defers := [] } [.code c] := by
    simp [Frame.enter, Frame.at, hf, hb, b]
  obtain ⟨e, a', w', f', ds', hr', hq, harr⟩ := h _ (rep_enter args fn.ntmps hn') b cs
  rw [← henter] at harr
  cases e with
  | normal =>
    have hq := hq a' hr'
    rw [← hr'.defers] at hq
    obtain ⟨e', w'', fr', hR, hs, hfn, hl⟩ := leaves_steps a'.defers .returning w' { b.at a' [] with mode := .returning } cs rfl rfl rfl hf rfl hq
    exact ⟨e', w'', fr', hR, Comes.of_steps (Steps.trans harr (.one step_end)) hs, hfn, hl⟩
  | ret =>
    have hq := hq a' hr'
    rw [← hr'.defers] at hq
    obtain ⟨todo, hs₀⟩ := harr
    obtain ⟨e', w'', fr', hR, hs, hfn, hl⟩ := leaves_steps a'.defers .returning w' { b.at a' todo with mode := .returning } cs rfl rfl rfl hf rfl hq
    exact ⟨e', w'', fr', hR, Comes.of_steps hs₀ hs, hfn, hl⟩
  | panic chain =>
    have hq := hq a' hr'
    rw [← hr'.defers] at hq
    obtain ⟨todo, hs₀⟩ := harr
    obtain ⟨e', w'', fr', hR, hs, hfn, hl⟩ := leaves_steps a'.defers (.panicking chain) w' { b.at a' todo with mode := .panicking chain } cs rfl rfl rfl hf rfl hq
    exact ⟨e', w'', fr', hR, Comes.of_steps hs₀ hs, hfn, hl⟩
  | exit id => exact hq.elim
  | goto l => exact hq.elim
  | outgrown => exact ⟨.outgrown, w', b, hq, harr.resolve_left (by simp [b]), rfl, trivial⟩

theorem callsD_go {c : Code} {args : List Value} {u : FrameMode} {R : Ending → World → Prop} (hf : P.funcs[g]? = some fn) (hn : fn.ntmps = n) (hb : fn.body = some c) (hl : Nat.ble args.length n = true)
    (h : TW P n (Ret P fn n R) [.code c] (frOf args) [] w) : CallsD P g args.toArray u w fun e u' w' => u' = u ∧ R e w' := by
  subst hn
  have hn' : args.length ≤ fn.ntmps := Nat.le_of_ble_eq_true hl
  intro c₀ cs hu
  let b : Frame := { (default : Frame) with fn := g, kind := .deferred }
  have henter : Frame.enter P g args.toArray .deferred =
      b.at { tmps := args.toArray ++ Array.replicate (fn.ntmps - args.toArray.size) undef, defers := [] } [.code c] := by
    simp [Frame.enter, Frame.at, hf, hb, b]
  have hc : ({ c₀ with mode := u } : Frame) = c₀ := by subst hu; rfl
  obtain ⟨e, a', w', f', ds', hr', hq, harr⟩ := h _ (rep_enter args fn.ntmps hn') b (c₀ :: cs)
  rw [← henter] at harr
  cases e with
  | normal =>
    obtain ⟨hd, v, hr, hR⟩ := hq
    exact ⟨.returned v, u, w', _, ⟨rfl, hR⟩, (by rw [hc]; exact Steps.trans harr (.one step_end)), rfl, rfl, hr'.defers.trans hd, fn, hf, hr a' hr'⟩
  | ret =>
    obtain ⟨hd, v, hr, hR⟩ := hq
    obtain ⟨todo, hs⟩ := harr
    exact ⟨.returned v, u, w', _, ⟨rfl, hR⟩, (by rw [hc]; exact hs), rfl, rfl, hr'.defers.trans hd, fn, hf, hr a' hr'⟩
  | panic chain =>
    obtain ⟨hd, hR⟩ := hq
    obtain ⟨todo, hs⟩ := harr
    exact ⟨.panicked chain, u, w', _, ⟨rfl, hR⟩, (by rw [hc]; exact hs), rfl, rfl, hr'.defers.trans hd, fn, hf⟩
  | exit id => exact hq.elim
  | goto l => exact hq.elim
  | outgrown => exact ⟨.outgrown, u, w', b, ⟨rfl, hq⟩, harr.resolve_left (by simp [b]), rfl, trivial⟩

/-- a deferred call of a named function, handed on -/
theorem leaves_go {R : Ending → World → Prop} {tmps : Array Value} {dargs : Array Value} {ds : List Deferred} [h : FN P g] (hc : CallsD P g dargs .returning w fun e u' w' => u' = .returning ∧ ∃ v, e = .returned v ∧ Leaves P fn tmps R ds .returning w') :
    Leaves P fn tmps R ({ target := .fn (.func g) #[], args := dargs } :: ds) .returning w := by
  refine leaves_cons (f := g) (args := dargs) (by simp) ?_ (hc.mono ?_)
  · simp [invoke, run_callFunc]
  · rintro e u' w' ⟨rfl, v, rfl, hl⟩
    exact hl

/-! ### functions without a body -/
class XF (P : Program) (g : FuncId) (e : outParam (Array Value → Sem Value)) : Prop where
  eq : ∃ fn, P.funcs[g]? = some fn ∧ (fn.name == "runtime.NumGoroutine") = false ∧ fn.body.isNone = true ∧ Extern.findNext fn = none ∧ Extern.find fn = some e
theorem r_x {xs : List Operand} {tys : Array TypeId} {vs : List Value} (ho : o.op = .call { callee := .value (.func g), args := xs.toArray, argTypes := tys }) (hv : xs.map (ev n f) = vs) :
    (execOp (ev n f) o).run P w = (callFunc g vs.toArray).run P w := by
  simp [execOp, ho, resolve, ev, Deferred.ofValue, invoke, hv]
variable {B : Nat} {w0 : World} {L : List Ck}
/-- sync/atomic.LoadT -/
theorem r_xld {x : Operand} {tys : Array TypeId} {k : IntKind} {b p : Nat} {a : Int} {bt : TypeId} {cs : Array Value} {mk : Array Value → List Ck} (H : Hp B w0 w L) (ho : o.op = .call { callee := .value (.func g), args := #[x], argTypes := tys } := by rfl)
    (hx : ev n f x = .pointer (some ⟨b, p, none⟩) := by rfl) (hX : XF P g (Extern.Atomic.loadT (.int k)) := by infer_instance) (hb : HasB L b bt cs mk := by infer_instance) (hv : cs[p]? = some (.int k a) := by rfl) :
    (execOp (ev n f) o).run P w = .ok (.value (.int k a)) w := by
  obtain ⟨fn, h1, h2, h3, h4, h5⟩ := hX.eq
  rw [r_x (xs := [x]) (vs := [.pointer (some ⟨b, p, none⟩)]) ho (by simp [hx])]
  exact run_call_load h1 h2 h3 h4 k h5 (by rw [cell_of_blk (H.getB (h := hb))]; exact hv)
/-- sync/atomic.StoreT -/
theorem r_xst {x y : Operand} {tys : Array TypeId} {k : IntKind} {b p : Nat} {a : Int} {u : Value} {bt : TypeId} {cs : Array Value} {mk : Array Value → List Ck} (H : Hp B w0 w L) (ho : o.op = .call { callee := .value (.func g), args := #[x, y], argTypes := tys } := by rfl)
    (hx : ev n f x = .pointer (some ⟨b, p, none⟩) := by rfl) (hy : ev n f y = .int k a := by rfl) (hX : XF P g Extern.Atomic.storeT := by infer_instance) (hb : HasB L b bt cs mk := by infer_instance) (hv : cs[p]? = some u := by rfl) :
    ∃ w', (execOp (ev n f) o).run P w = .ok (.value (.tuple #[])) w' ∧ Hp B w0 w' (mk (cs.setIfInBounds p (.int k a))) := by
  obtain ⟨fn, h1, h2, h3, h4, h5⟩ := hX.eq
  have hblk := H.getB (h := hb)
  refine ⟨_, ?_, H.store (hb := hb) _⟩
  rw [r_x (xs := [x, y]) (vs := [.pointer (some ⟨b, p, none⟩), .int k a]) ho (by simp [hx, hy])]
  exact run_call_store h1 h2 h3 h4 h5 (by rw [cell_of_blk hblk]; exact hv) (frozen_of_blk hblk)
/-- sync/atomic.AddT -/
theorem r_xadd {x y : Operand} {tys : Array TypeId} {k : IntKind} {b p : Nat} {a c : Int} {bt : TypeId} {cs : Array Value} {mk : Array Value → List Ck} (H : Hp B w0 w L) (ho : o.op = .call { callee := .value (.func g), args := #[x, y], argTypes := tys } := by rfl)
    (hx : ev n f x = .pointer (some ⟨b, p, none⟩) := by rfl) (hy : ev n f y = .int k a := by rfl) (hX : XF P g (Extern.Atomic.update (Op.intArith .add) k true) := by infer_instance) (hb : HasB L b bt cs mk := by infer_instance) (hv : cs[p]? = some (.int k c) := by rfl) :
    ∃ w', (execOp (ev n f) o).run P w = .ok (.value (.int k (k.wrap (c + a)))) w' ∧ Hp B w0 w' (mk (cs.setIfInBounds p (.int k (k.wrap (c + a))))) := by
  obtain ⟨fn, h1, h2, h3, h4, h5⟩ := hX.eq
  have hblk := H.getB (h := hb)
  refine ⟨_, ?_, H.store (hb := hb) _⟩
  rw [r_x (xs := [x, y]) (vs := [.pointer (some ⟨b, p, none⟩), .int k a]) ho (by simp [hx, hy])]
  exact run_call_add h1 h2 h3 h4 k h5 (by rw [cell_of_blk hblk]; exact hv) (frozen_of_blk hblk) (by simp [Op.intArith])
/-- sync/atomic.CompareAndSwapT, where it swaps -/
theorem r_xcas {x y z : Operand} {tys : Array TypeId} {k : IntKind} {b p : Nat} {a c : Int} {bt : TypeId} {cs : Array Value} {mk : Array Value → List Ck} (H : Hp B w0 w L) (ho : o.op = .call { callee := .value (.func g), args := #[x, y, z], argTypes := tys } := by rfl)
    (hx : ev n f x = .pointer (some ⟨b, p, none⟩) := by rfl) (hy : ev n f y = .int k a := by rfl) (hz : ev n f z = .int k c := by rfl) (hX : XF P g (Extern.Atomic.casT (.int k)) := by infer_instance) (hb : HasB L b bt cs mk := by infer_instance) (hv : cs[p]? = some (.int k a) := by rfl) :
    ∃ w', (execOp (ev n f) o).run P w = .ok (.value (.bool true)) w' ∧ Hp B w0 w' (mk (cs.setIfInBounds p (.int k c))) := by
  obtain ⟨fn, h1, h2, h3, h4, h5⟩ := hX.eq
  have hblk := H.getB (h := hb)
  refine ⟨_, ?_, H.store (hb := hb) _⟩
  rw [r_x (xs := [x, y, z]) (vs := [.pointer (some ⟨b, p, none⟩), .int k a, .int k c]) ho (by simp [hx, hy, hz])]
  exact run_call_cas_hit h1 h2 h3 h4 k h5 (by rw [cell_of_blk hblk]; exact hv) (frozen_of_blk hblk)
/-- internal/race.Enable, Disable -/
theorem r_xm0 {tys : Array TypeId} {m : Mark} (ho : o.op = .call { callee := .value (.func g), args := #[], argTypes := tys } := by rfl) (hX : XF P g (fun _ => do mark m; pure Extern.Race.none_) := by infer_instance) :
    (execOp (ev n f) o).run P w = .ok (.value (.tuple #[])) w := by
  obtain ⟨fn, h1, h2, h3, h4, h5⟩ := hX.eq
  rw [r_x (xs := []) (vs := []) ho (by simp)]
  exact run_call_mark0 h1 h2 h3 h4 m h5 w
/-- internal/race.Acquire, ReleaseMerge -/
theorem r_xm1 {x : Operand} {a : Addr} {tys : Array TypeId} {m : Addr → Mark} (ho : o.op = .call { callee := .value (.func g), args := #[x], argTypes := tys } := by rfl) (hx : ev n f x = .pointer (some a) := by rfl) (hX : XF P g (Extern.Race.marked m) := by infer_instance) :
    (execOp (ev n f) o).run P w = .ok (.value (.tuple #[])) w := by
  obtain ⟨fn, h1, h2, h3, h4, h5⟩ := hX.eq
  rw [r_x (xs := [x]) (vs := [.pointer (some a)]) ho (by simp [hx])]
  exact run_call_marked h1 h2 h3 h4 m h5 a w
/-- a pointer as an unsafe one -/
theorem r_cvu {s d t : TypeId} {x : Operand} {b p : Nat} {bt : TypeId} {cs : Array Value} {mk : Array Value → List Ck} {v : Value} (H : Hp B w0 w L) (ho : o.op = .convert s d x := by rfl) (hx : ev n f x = .pointer (some ⟨b, p, none⟩) := by rfl)
    (hs : UT P s (.pointer t) := by infer_instance) (hd : UT P d .unsafePointer := by infer_instance) (hz : (P.info? t).map (fun i => decide (i.size = 0)) = some false := by kernel_rfl) (hb : HasB L b bt cs mk := by infer_instance) (hv : cs[p]? = some v := by rfl) :
    (execOp (ev n f) o).run P w = .ok (.value (.pointer (some ⟨b, p, none⟩))) w := by
  have := run_convert_to_unsafe (P := P) hs.eq hd.eq hz (a := ⟨b, p, none⟩) (v := v) (w := w) (by rw [cell_of_blk (H.getB (h := hb))]; exact hv)
  simp [execOp, ho, hx, this]
theorem r_dfr {g : FuncId} {xs : List Operand} {tys : Array TypeId} {vs : List Value} (ho : o.op = .defer { callee := .value (.func g), args := xs.toArray, argTypes := tys }) (hv : xs.map (ev n f) = vs) :
    (execOp (ev n f) o).run P w = .ok (.defer { target := .fn (.func g) #[], args := vs.toArray }) w := by
  simp [execOp, ho, resolve, ev, Deferred.ofValue, hv]

/-! ### literals of slices; append -/
theorem r_bs {t e : TypeId} {len : Nat} {parts : Array (Nat × Operand)} {ps : List (Nat × Value)} {cells : Array Value} {size bytes : Nat} {zero : Value} (H : Hp B w0 w L) (ho : o.op = .buildSlice t len parts := by rfl)
    (hp : parts.toList.map (fun x => (x.1, ev n f x.2)) = ps) (hT : UT P t (.slice e) := by infer_instance) (hS : TI P e size zero bytes := by infer_instance)
    (hc : Instr.fill (fun i => some (i * size, size)) ((Array.range (len * size)).map (zero.cells[· % zero.cells.size]!)) ps = some cells) (hl : (Nat.ble 1 (len * size) && Nat.ble (len * size) 16777216) = true := by rfl) :
    ∃ g w', (execOp (ev n f) o).run P w = .ok (.value (.slice (some ⟨g, 0, none⟩) len len)) w' ∧ Hp B w0 w' (Blk g e cells :: L) := by
  refine ⟨w.heap.size, _, ?_, H.alloc e cells⟩
  simp only [Bool.and_eq_true] at hl
  have h1 : ¬ len * size = 0 := by have := Nat.le_of_ble_eq_true hl.1; omega
  have h2 : ¬ (len * size > 2 ^ 24) := by have := Nat.le_of_ble_eq_true hl.2; omega
  simp [execOp, ho, Instr.buildSlice, run_underlying' hT, run_sizeOf hS, run_zeroValue hS, h1, h2, hp, hc, newRow]
theorem foldSet (off : Nat) : ∀ (l : List Value) (k : Nat) (cs : Array Value), off + k + l.length ≤ cs.size →
    ((l.zipIdx k).foldl (fun (cs : Array Value) (p : Value × Nat) => cs.setIfInBounds (off + p.2) p.1) cs).toList = cs.toList.take (off + k) ++ l ++ cs.toList.drop (off + k + l.length)
  | [], k, cs, h => by simp
  | v :: l, k, cs, h => by
    simp only [List.length_cons] at h
    rw [List.zipIdx_cons, List.foldl_cons, foldSet off l (k + 1) _ (by simp; omega)]
    simp only [Array.toList_setIfInBounds, List.length_cons]
    have h1 : off + k < cs.toList.length := by simp; omega
    rw [show off + (k + 1) = off + k + 1 by omega, List.take_set, List.drop_set_of_lt (by omega), List.take_add_one, List.getElem?_eq_getElem h1]
    rw [show off + k + 1 + l.length = off + k + (l.length + 1) by omega]
    have h2 : min (off + k) cs.size = off + k := Nat.min_eq_left (by omega)
    simp [h2]
theorem fill_all (size : Nat) : ∀ (vs : List Value) (k : Nat) (cs : Array Value), (∀ v ∈ vs, v.cells.size = size) → k * size + vs.length * size = cs.size →
    ∃ r, Instr.fill (fun i => some (i * size, size)) cs ((vs.zipIdx k).map fun p => (p.2, p.1)) = some r ∧ r.toList = cs.toList.take (k * size) ++ vs.flatMap (fun v => v.cells.toList)
  | [], k, cs, _, h => ⟨cs, rfl, by simp at h; rw [h]; simp [List.take_of_length_le]⟩
  | v :: vs, k, cs, hv, h => by
    have h1 := hv v List.mem_cons_self
    simp only [List.length_cons, Nat.add_mul, Nat.one_mul] at h
    have hf := foldSet (k * size) v.cells.toList 0 cs (by simp [h1]; omega)
    have hs : ((v.cells.toList.zipIdx 0).foldl (fun (cs : Array Value) (p : Value × Nat) => cs.setIfInBounds (k * size + p.2) p.1) cs).size = cs.size := by
      have := congrArg List.length hf
      simp only [List.length_append, List.length_take, List.length_drop, Array.length_toList, h1, Nat.add_zero] at this
      omega
    have h9 : (k + 1) * size + vs.length * size = cs.size := by rw [Nat.add_mul]; omega
    obtain ⟨r, hr, e⟩ := fill_all size vs (k + 1) ((v.cells.toList.zipIdx 0).foldl (fun (cs : Array Value) (p : Value × Nat) => cs.setIfInBounds (k * size + p.2) p.1) cs) (fun u hu => hv u (List.mem_cons_of_mem _ hu)) (h9.trans hs.symm)
    refine ⟨r, ?_, ?_⟩
    · simp only [List.zipIdx_cons, List.map_cons, Instr.fill, h1]
      have hc : ¬ ((decide (size ≠ size) || decide (k * size + size > cs.size)) = true) := by simp; omega
      rw [if_neg hc, ← hr, ← Array.foldl_toList, Array.toList_zipIdx]
    · rw [e, hf]
      have h2 : (cs.toList.take (k * size)).length = k * size := by simp; omega
      have h3 : (k + 1) * size = (cs.toList.take (k * size) ++ v.cells.toList).length := by rw [List.length_append, h2]; simp [h1, Nat.add_mul]
      simp only [Nat.add_zero, List.flatMap_cons]
      rw [h3, List.take_left, List.append_assoc]
/-- a literal slice -/
theorem r_bsl {t e : TypeId} {len : Nat} {parts : Array (Nat × Operand)} {size bytes : Nat} {zero : Value} (H : Hp B w0 w L) (vs : List Value) (cells : List Value) (hc : vs.flatMap (fun v => v.cells.toList) = cells) (hp : parts.toList.map (fun x => (x.1, ev n f x.2)) = vs.zipIdx.map fun p => (p.2, p.1))
    (ho : o.op = .buildSlice t len parts := by rfl) (hT : UT P t (.slice e) := by infer_instance) (hS : TI P e size zero bytes := by infer_instance)
    (hv : ∀ v ∈ vs, v.cells.size = size) (hn : vs.length = len := by rfl) (hl : (Nat.ble 1 (len * size) && Nat.ble (len * size) 16777216) = true := by rfl) :
    ∃ g w', (execOp (ev n f) o).run P w = .ok (.value (.slice (some ⟨g, 0, none⟩) len len)) w' ∧ Hp B w0 w' (Blk g e cells.toArray :: L) := by
  subst hc
  obtain ⟨r, hr, er⟩ := fill_all size vs 0 ((Array.range (len * size)).map (zero.cells[· % zero.cells.size]!)) hv (by simp [hn])
  have er' : r = (vs.flatMap (fun v => v.cells.toList)).toArray := by
    apply Array.toList_inj.1; rw [er]; simp
  exact er' ▸ r_bs H ho hp hT hS hr hl
/-- where a row of a slice stands -/
class HasR (L : List Ck) (v : Value) (e : outParam TypeId) (size : outParam Nat) (m : outParam Nat) (xs : outParam (List Value)) (mk : outParam (Ck → List Ck)) : Prop where
  perm : ∃ R, L.Perm (Row e size v m xs :: R) ∧ ∀ c', (c' :: R).Perm (mk c')
instance HasR.here {L : List Ck} {v : Value} {e : TypeId} {size m : Nat} {xs : List Value} : HasR (Row e size v m xs :: L) v e size m xs (fun x => x :: L) := ⟨⟨L, List.Perm.refl _, fun _ => List.Perm.refl _⟩⟩
instance (priority := low) HasR.there {L : List Ck} {c : Ck} {v : Value} {e : TypeId} {size m : Nat} {xs : List Value} {mk : Ck → List Ck} [h : HasR L v e size m xs mk] : HasR (c :: L) v e size m xs (fun x => c :: mk x) := by
  obtain ⟨R, h1, h2⟩ := h.perm
  exact ⟨⟨c :: R, (List.Perm.cons c h1).trans (List.Perm.swap _ _ _), fun cs' => (List.Perm.swap _ _ _).trans (List.Perm.cons c (h2 cs'))⟩⟩
theorem Hp.getR {v : Value} {e : TypeId} {size m : Nat} {xs : List Value} {mk : Ck → List Ck} (h : HasR L v e size m xs mk) (H : Hp B w0 w L) : w.ownsRow 0 e size v m xs := by
  obtain ⟨R, h1, _⟩ := h.perm
  exact (H.perm h1).holds _ List.mem_cons_self
/-- append of cells that can be read, onto a row of the call's own -/
theorem run_append_row {t ty e : TypeId} {v : Value} {size m bytes : Nat} {zero : Value} {xs news : List Value} {mk : Ck → List Ck} {a : Addr} {k c : Nat} (H : Hp B w0 w L) (hT : UT P t (.slice e)) (hS : TI P e size zero bytes) (hR : HasR L v e size m xs mk)
    (hzs : zero.cells.size = size) (hsz : 0 < size) (hl : news.length = k * size) (hnews : ∀ j u, news[j]? = some u → w.cell? (a.add j) = some u) (h1 : ∀ u ∈ news, u.oneCell' = true) (hb : (m + k) * bytes ≤ 140737488355328) (hmax : m + k ≤ 9223372036854775807) :
    ∃ v' w', (Builtin.append_ #[t, t] ty #[v, .slice (some a) k c]).run P w = .ok v' w' ∧ Hp B w0 w' (mk (Row e size v' (m + k) (xs ++ news))) := by
  obtain ⟨i, hi, h2, h3, h4⟩ := info_of hS
  obtain ⟨R, hp1, hp2⟩ := hR.perm
  have H1 := H.perm hp1
  have hown := H1.holds _ List.mem_cons_self
  obtain ⟨v', w', hrun, hown', hg, _, hblk⟩ := run_append_own_at (P := P) (w := w) 0 t ty e i zero size bytes hT.eq hi h3 h2 h4 hzs hsz v m xs hown a k c news hl hnews h1 (by simp only [maxLen]; exact hmax) hb (Nat.zero_le _)
  refine ⟨v', w', hrun, (H1.upd (c' := Row e size v' (m + k) (xs ++ news)) (Chg.of_grown hg) hown' ?_).perm (hp2 _)⟩
  intro j hj
  rcases hblk with e1 | e1
  · exact .inl (e1.symm.trans hj)
  · refine .inr ?_
    have : some w.heap.size = some j := e1.symm.trans hj
    exact Nat.le_of_eq (Option.some.inj this)
theorem r_app {t e : TypeId} {x y : Operand} {v : Value} {size m bytes : Nat} {zero : Value} {xs news : List Value} {mk : Ck → List Ck} {a : Addr} {k c : Nat} (H : Hp B w0 w L) (ho : o.op = .call { callee := .builtin .append, args := #[x, y], argTypes := #[t, t] } := by rfl)
    (hx : ev n f x = v := by first | ((conv => lhs; whnf); done) | rfl) (hy : ev n f y = .slice (some a) k c := by rfl) (hT : UT P t (.slice e) := by infer_instance) (hS : TI P e size zero bytes := by infer_instance) (hR : HasR L v e size m xs mk := by infer_instance)
    (hzs : Nat.beq zero.cells.size size = true := by rfl) (hsz : Nat.blt 0 size = true := by rfl) (hl : news.length = k * size) (hnews : ∀ j u, news[j]? = some u → w.cell? (a.add j) = some u) (h1 : ∀ u ∈ news, u.oneCell' = true) (hb : (m + k) * bytes ≤ 140737488355328) (hmax : m + k ≤ 9223372036854775807) :
    ∃ v' w', (execOp (ev n f) o).run P w = .ok (.value v') w' ∧ Hp B w0 w' (mk (Row e size v' (m + k) (xs ++ news))) := by
  obtain ⟨v', w', hrun, H'⟩ := run_append_row (P := P) (ty := o.type) (c := c) H hT hS hR (Nat.eq_of_beq_eq_true hzs) (blt_iff.1 hsz) hl hnews h1 hb hmax
  refine ⟨v', w', ?_, H'⟩
  simp [execOp, ho, resolve, invoke, builtin, hx, hy, hrun]
/-- cells of a block that is known whole can be read -/
theorem news_of_blk {g : Nat} {bt : TypeId} {cs : Array Value} {mk : Array Value → List Ck} (H : Hp B w0 w L) (hb : HasB L g bt cs mk := by infer_instance) : ∀ j u, cs.toList[j]? = some u → w.cell? ((⟨g, 0, none⟩ : Addr).add j) = some u := by
  intro j u hj
  rw [add_of, Nat.zero_add, cell_of_blk (H.getB (h := hb))]
  simpa using hj
theorem LW.newv {ops : Array Oper} {K : Fr → List Deferred → World → Prop} {Q : Post} {rest : List Oper} {ds : List Deferred} {c : Value → List Ck} {d : Nat} (hr : ∃ v w', (execOp (ev n f) o).run P w = .ok (.value v) w' ∧ Hp B w0 w' (c v))
    (h : ∀ v w', Hp B w0 w' (c v) → LW P n ops K Q rest (upd f d v) ds w') (hd : o.dst = some d := by rfl) (hg : o.guard = none := by rfl) :
    LW P n ops K Q (o :: rest) f ds w := by
  obtain ⟨g, w', hr, hH⟩ := hr
  exact LW.vw hr (h g w' hH) hd hg
/-- an operation that changes memory and yields a known value -/
theorem LW.vm {ops : Array Oper} {K : Fr → List Deferred → World → Prop} {Q : Post} {rest : List Oper} {ds : List Deferred} {L' : List Ck} {v : Value} {d : Nat} (hr : ∃ w', (execOp (ev n f) o).run P w = .ok (.value v) w' ∧ Hp B w0 w' L')
    (h : ∀ w', Hp B w0 w' L' → LW P n ops K Q rest (upd f d v) ds w') (hd : o.dst = some d := by rfl) (hg : o.guard = none := by rfl) :
    LW P n ops K Q (o :: rest) f ds w := by
  obtain ⟨w', hr, hH⟩ := hr
  exact LW.vw hr (h w' hH) hd hg
/-- a call is deferred -/
theorem LW.dfr {ops : Array Oper} {K : Fr → List Deferred → World → Prop} {Q : Post} {rest : List Oper} {ds : List Deferred} {d : Deferred} (hr : (execOp (ev n f) o).run P w = .ok (.defer d) w) (h : LW P n ops K Q rest f (d :: ds) w) (hd : o.dst = none := by rfl) (hg : o.guard = none := by rfl) :
    LW P n ops K Q (o :: rest) f ds w := LW.defer hg hr (by rw [hd]; exact h)
theorem r_d1 {x : Operand} {tys : Array TypeId} {a : Value} (ho : o.op = .defer { callee := .value (.func g), args := #[x], argTypes := tys } := by rfl) (hx : ev n f x = a := by first | ((conv => lhs; whnf); done) | rfl) :
    (execOp (ev n f) o).run P w = .ok (.defer { target := .fn (.func g) #[], args := #[a] }) w := r_dfr (xs := [x]) (vs := [a]) ho (by simp [hx])
theorem r_d2 {x y : Operand} {tys : Array TypeId} {a b : Value} (ho : o.op = .defer { callee := .value (.func g), args := #[x, y], argTypes := tys } := by rfl) (hx : ev n f x = a := by first | ((conv => lhs; whnf); done) | rfl) (hy : ev n f y = b := by first | ((conv => lhs; whnf); done) | rfl) :
    (execOp (ev n f) o).run P w = .ok (.defer { target := .fn (.func g) #[], args := #[a, b] }) w := r_dfr (xs := [x, y]) (vs := [a, b]) ho (by simp [hx, hy])
theorem retD_end {R : Ending → World → Prop} {ds : List Deferred} (h : ∀ tmps, (∀ w', (results fn tmps).run P w' = .ok (.tuple #[]) w') → Leaves P fn tmps R ds .returning w) (hrs : fn.results = #[] := by rfl) : RetD P fn n R .normal f ds w := by
  intro a _
  refine h a.tmps (fun w' => ?_)
  rw [results_eq, hrs]
  simp
theorem leaves_nil {R : Ending → World → Prop} {tmps : Array Value} {v : Value} (h : (results fn tmps).run P w = .ok v w) (hR : R (.returned v) w) : Leaves P fn tmps R [] .returning w := ⟨v, h, hR⟩
end
end Wh
