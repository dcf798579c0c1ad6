/- Deferred calls; functions without a body (atomics); maps; literals of slices; append. -/
import Derived.Test.YtjdckpeoinkafaaGreatDoorFwF
import Derived.Maps.AppendAt
import Derived.MapKept
set_option linter.all false
namespace Wh
open Go
section
variable {P : Program} {n : Nat} {f : Fr} {w : World} {o : Oper} {fn : Func} {g : FuncId}

/-! ### deferred calls -/
def RetD (P : Program) (fn : Func) (n : Nat) (R : Ending → World → Prop) : Post
  | .normal, f, ds, w | .ret, f, ds, w => ∀ a, Rep a n f ds → Leaves P fn a.tmps R ds .returning w
  | .panic ch, f, ds, w => ∀ a, Rep a n f ds → Leaves P fn a.tmps R ds (.panicking ch) w
  | .outgrown, _, _, w => R .outgrown w
  | _, _, _, _ => False

theorem calls_goD {c : Code} {args : List Value} {R : Ending → World → Prop} (hf : P.funcs[g]? = some fn) (hn : fn.ntmps = n) (hb : fn.body = some c) (hl : Nat.ble args.length n = true)
    (h : TW P n (RetD P fn n R) [.code c] (frOf args) [] w) : Calls P g args.toArray w R := by
  subst hn
  have hn' : args.length ≤ fn.ntmps := Nat.le_of_ble_eq_true hl
  intro cs
  let b : Frame := { (default : Frame) with fn := g, kind := .normal }
  have henter : Frame.enter P g args.toArray .normal =
      b.at { tmps := args.toArray ++ Array.replicate (fn.ntmps - args.toArray.size) undef, defers := [] } [.code c] := by
    simp [Frame.enter, Frame.at, hf, hb, b]
  obtain ⟨e, a', w', f', ds', hr', hq, harr⟩ := h _ (rep_enter args fn.ntmps hn') b cs
  rw [← henter] at harr
  cases e with
  | normal =>
    have hq := hq a' hr'
    rw [← hr'.defers] at hq
    obtain ⟨e', w'', fr', hR, hs, hfn, hl⟩ := leaves_steps a'.defers .returning w' { b.at a' [] with mode := .returning } cs rfl rfl rfl hf rfl hq
    exact ⟨e', w'', fr', hR, Comes.of_steps (Steps.trans harr (.one step_end)) hs, hfn, hl⟩
  | ret =>
    have hq := hq a' hr'
    rw [← hr'.defers] at hq
    obtain ⟨todo, hs₀⟩ := harr
    obtain ⟨e', w'', fr', hR, hs, hfn, hl⟩ := leaves_steps a'.defers .returning w' { b.at a' todo with mode := .returning } cs rfl rfl rfl hf rfl hq
    exact ⟨e', w'', fr', hR, Comes.of_steps hs₀ hs, hfn, hl⟩
  | panic chain =>
    have hq := hq a' hr'
    rw [← hr'.defers] at hq
    obtain ⟨todo, hs₀⟩ := harr
    obtain ⟨e', w'', fr', hR, hs, hfn, hl⟩ := leaves_steps a'.defers (.panicking chain) w' { b.at a' todo with mode := .panicking chain } cs rfl rfl rfl hf rfl hq
    exact ⟨e', w'', fr', hR, Comes.of_steps hs₀ hs, hfn, hl⟩
  | exit id => exact hq.elim
  | goto l => exact hq.elim
  | outgrown => exact ⟨.outgrown, w', b, hq, harr.resolve_left (by simp [b]), rfl, trivial⟩

theorem callsD_go {c : Code} {args : List Value} {u : FrameMode} {R : Ending → World → Prop} (hf : P.funcs[g]? = some fn) (hn : fn.ntmps = n) (hb : fn.body = some c) (hl : Nat.ble args.length n = true)
    (h : TW P n (Ret P fn n R) [.code c] (frOf args) [] w) : CallsD P g args.toArray u w fun e u' w' => u' = u ∧ R e w' := by
  subst hn
  have hn' : args.length ≤ fn.ntmps := Nat.le_of_ble_eq_true hl
  intro c₀ cs hu
  let b : Frame := { (default : Frame) with fn := g, kind := .deferred }
  have henter : Frame.enter P g args.toArray .deferred =
      b.at { tmps := args.toArray ++ Array.replicate (fn.ntmps - args.toArray.size) undef, defers := [] } [.code c] := by
    simp [Frame.enter, Frame.at, hf, hb, b]
  have hc : ({ c₀ with mode := u } : Frame) = c₀ := by subst hu; rfl
  obtain ⟨e, a', w', f', ds', hr', hq, harr⟩ := h _ (rep_enter args fn.ntmps hn') b (c₀ :: cs)
  rw [← henter] at harr
  cases e with
  | normal =>
    obtain ⟨hd, v, hr, hR⟩ := hq
    exact ⟨.returned v, u, w', _, ⟨rfl, hR⟩, (by rw [hc]; exact Steps.trans harr (.one step_end)), rfl, rfl, hr'.defers.trans hd, fn, hf, hr a' hr'⟩
  | ret =>
    obtain ⟨hd, v, hr, hR⟩ := hq
    obtain ⟨todo, hs⟩ := harr
    exact ⟨.returned v, u, w', _, ⟨rfl, hR⟩, (by rw [hc]; exact hs), rfl, rfl, hr'.defers.trans hd, fn, hf, hr a' hr'⟩
  | panic chain =>
    obtain ⟨hd, hR⟩ := hq
    obtain ⟨todo, hs⟩ := harr
    exact ⟨.panicked chain, u, w', _, ⟨rfl, hR⟩, (by rw [hc]; exact hs), rfl, rfl, hr'.defers.trans hd, fn, hf⟩
  | exit id => exact hq.elim
  | goto l => exact hq.elim
  | outgrown => exact ⟨.outgrown, u, w', b, ⟨rfl, hq⟩, harr.resolve_left (by simp [b]), rfl, trivial⟩

/-- a deferred call of a named function, handed on -/
theorem leaves_go {R : Ending → World → Prop} {tmps : Array Value} {dargs : Array Value} {ds : List Deferred} [h : FN P g] (hc : CallsD P g dargs .returning w fun e u' w' => u' = .returning ∧ ∃ v, e = .returned v ∧ Leaves P fn tmps R ds .returning w') :
    Leaves P fn tmps R ({ target := .fn (.func g) #[], args := dargs } :: ds) .returning w := by
  refine leaves_cons (f := g) (args := dargs) (by simp) ?_ (hc.mono ?_)
  · simp [invoke, run_callFunc]
  · rintro e u' w' ⟨rfl, v, rfl, hl⟩
    exact hl

/-! ### functions without a body -/
class XF (P : Program) (g : FuncId) (e : outParam (Array Value → Sem Value)) : Prop where
  eq : ∃ fn, P.funcs[g]? = some fn ∧ (fn.name == "runtime.NumGoroutine") = false ∧ fn.body.isNone = true ∧ Extern.findNext fn = none ∧ Extern.find fn = some e
theorem r_x {xs : List Operand} {tys : Array TypeId} {vs : List Value} (ho : o.op = .call { callee := .value (.func g), args := xs.toArray, argTypes := tys }) (hv : xs.map (ev n f) = vs) :
    (execOp (ev n f) o).run P w = (callFunc g vs.toArray).run P w := by
  simp [execOp, ho, resolve, ev, Deferred.ofValue, invoke, hv]
variable {B : Nat} {w0 : World} {L : List Ck}
/-- sync/atomic.LoadT -/
theorem r_xld {x : Operand} {tys : Array TypeId} {k : IntKind} {b p : Nat} {a : Int} {bt : TypeId} {cs : Array Value} {mk : Array Value → List Ck} (H : Hp B w0 w L) (ho : o.op = .call { callee := .value (.func g), args := #[x], argTypes := tys } := by rfl)
    (hx : ev n f x = .pointer (some ⟨b, p, none⟩) := by rfl) (hX : XF P g (Extern.Atomic.loadT (.int k)) := by infer_instance) (hb : HasB L b bt cs mk := by infer_instance) (hv : cs[p]? = some (.int k a) := by rfl) :
    (execOp (ev n f) o).run P w = .ok (.value (.int k a)) w := by
  obtain ⟨fn, h1, h2, h3, h4, h5⟩ := hX.eq
  rw [r_x (xs := [x]) (vs := [.pointer (some ⟨b, p, none⟩)]) ho (by simp [hx])]
  exact run_call_load h1 h2 h3 h4 k h5 (by rw [cell_of_blk (H.getB (h := hb))]; exact hv)
/-- sync/atomic.StoreT -/
theorem r_xst {x y : Operand} {tys : Array TypeId} {k : IntKind} {b p : Nat} {a : Int} {u : Value} {bt : TypeId} {cs : Array Value} {mk : Array Value → List Ck} (H : Hp B w0 w L) (ho : o.op = .call { callee := .value (.func g), args := #[x, y], argTypes := tys } := by rfl)
    (hx : ev n f x = .pointer (some ⟨b, p, none⟩) := by rfl) (hy : ev n f y = .int k a := by rfl) (hX : XF P g Extern.Atomic.storeT := by infer_instance) (hb : HasB L b bt cs mk := by infer_instance) (hv : cs[p]? = some u := by rfl) :
    ∃ w', (execOp (ev n f) o).run P w = .ok (.value (.tuple #[])) w' ∧ Hp B w0 w' (mk (cs.setIfInBounds p (.int k a))) := by
  obtain ⟨fn, h1, h2, h3, h4, h5⟩ := hX.eq
  have hblk := H.getB (h := hb)
  refine ⟨_, ?_, H.store (hb := hb) _⟩
  rw [r_x (xs := [x, y]) (vs := [.pointer (some ⟨b, p, none⟩), .int k a]) ho (by simp [hx, hy])]
  exact run_call_store h1 h2 h3 h4 h5 (by rw [cell_of_blk hblk]; exact hv) (frozen_of_blk hblk)
/-- sync/atomic.AddT -/
theorem r_xadd {x y : Operand} {tys : Array TypeId} {k : IntKind} {b p : Nat} {a c : Int} {bt : TypeId} {cs : Array Value} {mk : Array Value → List Ck} (H : Hp B w0 w L) (ho : o.op = .call { callee := .value (.func g), args := #[x, y], argTypes := tys } := by rfl)
    (hx : ev n f x = .pointer (some ⟨b, p, none⟩) := by rfl) (hy : ev n f y = .int k a := by rfl) (hX : XF P g (Extern.Atomic.update (Op.intArith .add) k true) := by infer_instance) (hb : HasB L b bt cs mk := by infer_instance) (hv : cs[p]? = some (.int k c) := by rfl) :
    ∃ w', (execOp (ev n f) o).run P w = .ok (.value (.int k (k.wrap (c + a)))) w' ∧ Hp B w0 w' (mk (cs.setIfInBounds p (.int k (k.wrap (c + a))))) := by
  obtain ⟨fn, h1, h2, h3, h4, h5⟩ := hX.eq
  have hblk := H.getB (h := hb)
  refine ⟨_, ?_, H.store (hb := hb) _⟩
  rw [r_x (xs := [x, y]) (vs := [.pointer (some ⟨b, p, none⟩), .int k a]) ho (by simp [hx, hy])]
  exact run_call_add h1 h2 h3 h4 k h5 (by rw [cell_of_blk hblk]; exact hv) (frozen_of_blk hblk) (by simp [Op.intArith])
/-- sync/atomic.CompareAndSwapT, where it swaps -/
theorem r_xcas {x y z : Operand} {tys : Array TypeId} {k : IntKind} {b p : Nat} {a c : Int} {bt : TypeId} {cs : Array Value} {mk : Array Value → List Ck} (H : Hp B w0 w L) (ho : o.op = .call { callee := .value (.func g), args := #[x, y, z], argTypes := tys } := by rfl)
    (hx : ev n f x = .pointer (some ⟨b, p, none⟩) := by rfl) (hy : ev n f y = .int k a := by rfl) (hz : ev n f z = .int k c := by rfl) (hX : XF P g (Extern.Atomic.casT (.int k)) := by infer_instance) (hb : HasB L b bt cs mk := by infer_instance) (hv : cs[p]? = some (.int k a) := by rfl) :
    ∃ w', (execOp (ev n f) o).run P w = .ok (.value (.bool true)) w' ∧ Hp B w0 w' (mk (cs.setIfInBounds p (.int k c))) := by
  obtain ⟨fn, h1, h2, h3, h4, h5⟩ := hX.eq
  have hblk := H.getB (h := hb)
  refine ⟨_, ?_, H.store (hb := hb) _⟩
  rw [r_x (xs := [x, y, z]) (vs := [.pointer (some ⟨b, p, none⟩), .int k a, .int k c]) ho (by simp [hx, hy, hz])]
  exact run_call_cas_hit h1 h2 h3 h4 k h5 (by rw [cell_of_blk hblk]; exact hv) (frozen_of_blk hblk)
/-- internal/race.Enable, Disable -/
theorem r_xm0 {tys : Array TypeId} {m : Mark} (ho : o.op = .call { callee := .value (.func g), args := #[], argTypes := tys } := by rfl) (hX : XF P g (fun _ => do mark m; pure Extern.Race.none_) := by infer_instance) :
    (execOp (ev n f) o).run P w = .ok (.value (.tuple #[])) w := by
  obtain ⟨fn, h1, h2, h3, h4, h5⟩ := hX.eq
  rw [r_x (xs := []) (vs := []) ho (by simp)]
  exact run_call_mark0 h1 h2 h3 h4 m h5 w
/-- internal/race.Acquire, ReleaseMerge -/
theorem r_xm1 {x : Operand} {a : Addr} {tys : Array TypeId} {m : Addr → Mark} (ho : o.op = .call { callee := .value (.func g), args := #[x], argTypes := tys } := by rfl) (hx : ev n f x = .pointer (some a) := by rfl) (hX : XF P g (Extern.Race.marked m) := by infer_instance) :
    (execOp (ev n f) o).run P w = .ok (.value (.tuple #[])) w := by
  obtain ⟨fn, h1, h2, h3, h4, h5⟩ := hX.eq
  rw [r_x (xs := [x]) (vs := [.pointer (some a)]) ho (by simp [hx])]
  exact run_call_marked h1 h2 h3 h4 m h5 a w
/-- a pointer as an unsafe one -/
theorem r_cvu {s d t : TypeId} {x : Operand} {b p : Nat} {bt : TypeId} {cs : Array Value} {mk : Array Value → List Ck} {v : Value} (H : Hp B w0 w L) (ho : o.op = .convert s d x := by rfl) (hx : ev n f x = .pointer (some ⟨b, p, none⟩) := by rfl)
    (hs : UT P s (.pointer t) := by infer_instance) (hd : UT P d .unsafePointer := by infer_instance) (hz : (P.info? t).map (fun i => decide (i.size = 0)) = some false := by kernel_rfl) (hb : HasB L b bt cs mk := by infer_instance) (hv : cs[p]? = some v := by rfl) :
    (execOp (ev n f) o).run P w = .ok (.value (.pointer (some ⟨b, p, none⟩))) w := by
  have := run_convert_to_unsafe (P := P) hs.eq hd.eq hz (a := ⟨b, p, none⟩) (v := v) (w := w) (by rw [cell_of_blk (H.getB (h := hb))]; exact hv)
  simp [execOp, ho, hx, this]
theorem r_dfr {g : FuncId} {xs : List Operand} {tys : Array TypeId} {vs : List Value} (ho : o.op = .defer { callee := .value (.func g), args := xs.toArray, argTypes := tys }) (hv : xs.map (ev n f) = vs) :
    (execOp (ev n f) o).run P w = .ok (.defer { target := .fn (.func g) #[], args := vs.toArray }) w := by
  simp [execOp, ho, resolve, ev, Deferred.ofValue, hv]

/-! ### literals of slices; append -/
theorem r_bs {t e : TypeId} {len : Nat} {parts : Array (Nat × Operand)} {ps : List (Nat × Value)} {cells : Array Value} {size bytes : Nat} {zero : Value} (H : Hp B w0 w L) (ho : o.op = .buildSlice t len parts := by rfl)
    (hp : parts.toList.map (fun x => (x.1, ev n f x.2)) = ps) (hT : UT P t (.slice e) := by infer_instance) (hS : TI P e size zero bytes := by infer_instance)
    (hc : Instr.fill (fun i => some (i * size, size)) ((Array.range (len * size)).map (zero.cells[· % zero.cells.size]!)) ps = some cells) (hl : (Nat.ble 1 (len * size) && Nat.ble (len * size) 16777216) = true := by rfl) :
    ∃ g w', (execOp (ev n f) o).run P w = .ok (.value (.slice (some ⟨g, 0, none⟩) len len)) w' ∧ Hp B w0 w' (Blk g e cells :: L) := by
  refine ⟨w.heap.size, _, ?_, H.alloc e cells⟩
  simp only [Bool.and_eq_true] at hl
  have h1 : ¬ len * size = 0 := by have := Nat.le_of_ble_eq_true hl.1; omega
  have h2 : ¬ (len * size > 2 ^ 24) := by have := Nat.le_of_ble_eq_true hl.2; omega
  simp [execOp, ho, Instr.buildSlice, run_underlying' hT, run_sizeOf hS, run_zeroValue hS, h1, h2, hp, hc, newRow]
theorem foldSet (off : Nat) : ∀ (l : List Value) (k : Nat) (cs : Array Value), off + k + l.length ≤ cs.size →
    ((l.zipIdx k).foldl (fun (cs : Array Value) (p : Value × Nat) => cs.setIfInBounds (off + p.2) p.1) cs).toList = cs.toList.take (off + k) ++ l ++ cs.toList.drop (off + k + l.length)
  | [], k, cs, h => by simp
  | v :: l, k, cs, h => by
    simp only [List.length_cons] at h
    rw [List.zipIdx_cons, List.foldl_cons, foldSet off l (k + 1) _ (by simp; omega)]
    simp only [Array.toList_setIfInBounds, List.length_cons]
    have h1 : off + k < cs.toList.length := by simp; omega
    rw [show off + (k + 1) = off + k + 1 by omega, List.take_set, List.drop_set_of_lt (by omega), List.take_add_one, List.getElem?_eq_getElem h1]
    rw [show off + k + 1 + l.length = off + k + (l.length + 1) by omega]
    have h2 : min (off + k) cs.size = off + k := Nat.min_eq_left (by omega)
    simp [h2]
theorem fill_all (size : Nat) : ∀ (vs : List Value) (k : Nat) (cs : Array Value), (∀ v ∈ vs, v.cells.size = size) → k * size + vs.length * size = cs.size →
    ∃ r, Instr.fill (fun i => some (i * size, size)) cs ((vs.zipIdx k).map fun p => (p.2, p.1)) = some r ∧ r.toList = cs.toList.take (k * size) ++ vs.flatMap (fun v => v.cells.toList)
  | [], k, cs, _, h => ⟨cs, rfl, by simp at h; rw [h]; simp [List.take_of_length_le]⟩
  | v :: vs, k, cs, hv, h => by
    have h1 := hv v List.mem_cons_self
    simp only [List.length_cons, Nat.add_mul, Nat.one_mul] at h
    have hf := foldSet (k * size) v.cells.toList 0 cs (by simp [h1]; omega)
    have hs : ((v.cells.toList.zipIdx 0).foldl (fun (cs : Array Value) (p : Value × Nat) => cs.setIfInBounds (k * size + p.2) p.1) cs).size = cs.size := by
      have := congrArg List.length hf
      simp only [List.length_append, List.length_take, List.length_drop, Array.length_toList, h1, Nat.add_zero] at this
      omega
    have h9 : (k + 1) * size + vs.length * size = cs.size := by rw [Nat.add_mul]; omega
    obtain ⟨r, hr, e⟩ := fill_all size vs (k + 1) ((v.cells.toList.zipIdx 0).foldl (fun (cs : Array Value) (p : Value × Nat) => cs.setIfInBounds (k * size + p.2) p.1) cs) (fun u hu => hv u (List.mem_cons_of_mem _ hu)) (h9.trans hs.symm)
    refine ⟨r, ?_, ?_⟩
    · simp only [List.zipIdx_cons, List.map_cons, Instr.fill, h1]
      have hc : ¬ ((decide (size ≠ size) || decide (k * size + size > cs.size)) = true) := by simp; omega
      rw [if_neg hc, ← hr, ← Array.foldl_toList, Array.toList_zipIdx]
    · rw [e, hf]
      have h2 : (cs.toList.take (k * size)).length = k * size := by simp; omega
      have h3 : (k + 1) * size = (cs.toList.take (k * size) ++ v.cells.toList).length := by rw [List.length_append, h2]; simp [h1, Nat.add_mul]
      simp only [Nat.add_zero, List.flatMap_cons]
      rw [h3, List.take_left, List.append_assoc]
/-- a literal slice -/
theorem r_bsl {t e : TypeId} {len : Nat} {parts : Array (Nat × Operand)} {size bytes : Nat} {zero : Value} (H : Hp B w0 w L) (vs : List Value) (cells : List Value) (hc : vs.flatMap (fun v => v.cells.toList) = cells) (hp : parts.toList.map (fun x => (x.1, ev n f x.2)) = vs.zipIdx.map fun p => (p.2, p.1))
    (ho : o.op = .buildSlice t len parts := by rfl) (hT : UT P t (.slice e) := by infer_instance) (hS : TI P e size zero bytes := by infer_instance)
    (hv : ∀ v ∈ vs, v.cells.size = size) (hn : vs.length = len := by rfl) (hl : (Nat.ble 1 (len * size) && Nat.ble (len * size) 16777216) = true := by rfl) :
    ∃ g w', (execOp (ev n f) o).run P w = .ok (.value (.slice (some ⟨g, 0, none⟩) len len)) w' ∧ Hp B w0 w' (Blk g e cells.toArray :: L) := by
  subst hc
  obtain ⟨r, hr, er⟩ := fill_all size vs 0 ((Array.range (len * size)).map (zero.cells[· % zero.cells.size]!)) hv (by simp [hn])
  have er' : r = (vs.flatMap (fun v => v.cells.toList)).toArray := by
    apply Array.toList_inj.1; rw [er]; simp
  exact er' ▸ r_bs H ho hp hT hS hr hl
/-- where a row of a slice stands -/
class HasR (L : List Ck) (v : Value) (e : outParam TypeId) (size : outParam Nat) (m : outParam Nat) (xs : outParam (List Value)) (mk : outParam (Ck → List Ck)) : Prop where
  perm : ∃ R, L.Perm (Row e size v m xs :: R) ∧ ∀ c', (c' :: R).Perm (mk c')
instance HasR.here {L : List Ck} {v : Value} {e : TypeId} {size m : Nat} {xs : List Value} : HasR (Row e size v m xs :: L) v e size m xs (fun x => x :: L) := ⟨⟨L, List.Perm.refl _, fun _ => List.Perm.refl _⟩⟩
instance (priority := low) HasR.there {L : List Ck} {c : Ck} {v : Value} {e : TypeId} {size m : Nat} {xs : List Value} {mk : Ck → List Ck} [h : HasR L v e size m xs mk] : HasR (c :: L) v e size m xs (fun x => c :: mk x) := by
  obtain ⟨R, h1, h2⟩ := h.perm
  exact ⟨⟨c :: R, (List.Perm.cons c h1).trans (List.Perm.swap _ _ _), fun cs' => (List.Perm.swap _ _ _).trans (List.Perm.cons c (h2 cs'))⟩⟩
theorem Hp.getR {v : Value} {e : TypeId} {size m : Nat} {xs : List Value} {mk : Ck → List Ck} (h : HasR L v e size m xs mk) (H : Hp B w0 w L) : w.ownsRow 0 e size v m xs := by
  obtain ⟨R, h1, _⟩ := h.perm
  exact (H.perm h1).holds _ List.mem_cons_self
/-- append of cells that can be read, onto a row of the call's own -/
theorem run_append_row {t ty e : TypeId} {v : Value} {size m bytes : Nat} {zero : Value} {xs news : List Value} {mk : Ck → List Ck} {a : Addr} {k c : Nat} (H : Hp B w0 w L) (hT : UT P t (.slice e)) (hS : TI P e size zero bytes) (hR : HasR L v e size m xs mk)
    (hzs : zero.cells.size = size) (hsz : 0 < size) (hl : news.length = k * size) (hnews : ∀ j u, news[j]? = some u → w.cell? (a.add j) = some u) (h1 : ∀ u ∈ news, u.oneCell' = true) (hb : (m + k) * bytes ≤ 140737488355328) (hmax : m + k ≤ 9223372036854775807) :
    ∃ v' w', (Builtin.append_ #[t, t] ty #[v, .slice (some a) k c]).run P w = .ok v' w' ∧ Hp B w0 w' (mk (Row e size v' (m + k) (xs ++ news))) := by
  obtain ⟨i, hi, h2, h3, h4⟩ := info_of hS
  obtain ⟨R, hp1, hp2⟩ := hR.perm
  have H1 := H.perm hp1
  have hown := H1.holds _ List.mem_cons_self
  obtain ⟨v', w', hrun, hown', hg, _, hblk⟩ := run_append_own_at (P := P) (w := w) 0 t ty e i zero size bytes hT.eq hi h3 h2 h4 hzs hsz v m xs hown a k c news hl hnews h1 (by simp only [maxLen]; exact hmax) hb (Nat.zero_le _)
  refine ⟨v', w', hrun, (H1.upd (c' := Row e size v' (m + k) (xs ++ news)) (Chg.of_grown hg) hown' ?_).perm (hp2 _)⟩
  intro j hj
  rcases hblk with e1 | e1
  · exact .inl (e1.symm.trans hj)
  · refine .inr ?_
    have : some w.heap.size = some j := e1.symm.trans hj
    exact Nat.le_of_eq (Option.some.inj this)
theorem r_app {t e : TypeId} {x y : Operand} {v : Value} {size m bytes : Nat} {zero : Value} {xs news : List Value} {mk : Ck → List Ck} {a : Addr} {k c : Nat} (H : Hp B w0 w L) (ho : o.op = .call { callee := .builtin .append, args := #[x, y], argTypes := #[t, t] } := by rfl)
    (hx : ev n f x = v := by first | ((conv => lhs; whnf); done) | rfl) (hy : ev n f y = .slice (some a) k c := by rfl) (hT : UT P t (.slice e) := by infer_instance) (hS : TI P e size zero bytes := by infer_instance) (hR : HasR L v e size m xs mk := by infer_instance)
    (hzs : Nat.beq zero.cells.size size = true := by rfl) (hsz : Nat.blt 0 size = true := by rfl) (hl : news.length = k * size) (hnews : ∀ j u, news[j]? = some u → w.cell? (a.add j) = some u) (h1 : ∀ u ∈ news, u.oneCell' = true) (hb : (m + k) * bytes ≤ 140737488355328) (hmax : m + k ≤ 9223372036854775807) :
    ∃ v' w', (execOp (ev n f) o).run P w = .ok (.value v') w' ∧ Hp B w0 w' (mk (Row e size v' (m + k) (xs ++ news))) := by
  obtain ⟨v', w', hrun, H'⟩ := run_append_row (P := P) (ty := o.type) (c := c) H hT hS hR (Nat.eq_of_beq_eq_true hzs) (blt_iff.1 hsz) hl hnews h1 hb hmax
  refine ⟨v', w', ?_, H'⟩
  simp [execOp, ho, resolve, invoke, builtin, hx, hy, hrun]
/-- cells of a block that is known whole can be read -/
theorem news_of_blk {g : Nat} {bt : TypeId} {cs : Array Value} {mk : Array Value → List Ck} (H : Hp B w0 w L) (hb : HasB L g bt cs mk := by infer_instance) : ∀ j u, cs.toList[j]? = some u → w.cell? ((⟨g, 0, none⟩ : Addr).add j) = some u := by
  intro j u hj
  rw [add_of, Nat.zero_add, cell_of_blk (H.getB (h := hb))]
  simpa using hj
theorem LW.newv {ops : Array Oper} {K : Fr → List Deferred → World → Prop} {Q : Post} {rest : List Oper} {ds : List Deferred} {c : Value → List Ck} {d : Nat} (hr : ∃ v w', (execOp (ev n f) o).run P w = .ok (.value v) w' ∧ Hp B w0 w' (c v))
    (h : ∀ v w', Hp B w0 w' (c v) → LW P n ops K Q rest (upd f d v) ds w') (hd : o.dst = some d := by rfl) (hg : o.guard = none := by rfl) :
    LW P n ops K Q (o :: rest) f ds w := by
  obtain ⟨g, w', hr, hH⟩ := hr
  exact LW.vw hr (h g w' hH) hd hg
/-- an operation that changes memory and yields a known value -/
theorem LW.vm {ops : Array Oper} {K : Fr → List Deferred → World → Prop} {Q : Post} {rest : List Oper} {ds : List Deferred} {L' : List Ck} {v : Value} {d : Nat} (hr : ∃ w', (execOp (ev n f) o).run P w = .ok (.value v) w' ∧ Hp B w0 w' L')
    (h : ∀ w', Hp B w0 w' L' → LW P n ops K Q rest (upd f d v) ds w') (hd : o.dst = some d := by rfl) (hg : o.guard = none := by rfl) :
    LW P n ops K Q (o :: rest) f ds w := by
  obtain ⟨w', hr, hH⟩ := hr
  exact LW.vw hr (h w' hH) hd hg
/-- a call is deferred -/
theorem LW.dfr {ops : Array Oper} {K : Fr → List Deferred → World → Prop} {Q : Post} {rest : List Oper} {ds : List Deferred} {d : Deferred} (hr : (execOp (ev n f) o).run P w = .ok (.defer d) w) (h : LW P n ops K Q rest f (d :: ds) w) (hd : o.dst = none := by rfl) (hg : o.guard = none := by rfl) :
    LW P n ops K Q (o :: rest) f ds w := LW.defer hg hr (by rw [hd]; exact h)
theorem r_d1 {x : Operand} {tys : Array TypeId} {a : Value} (ho : o.op = .defer { callee := .value (.func g), args := #[x], argTypes := tys } := by rfl) (hx : ev n f x = a := by first | ((conv => lhs; whnf); done) | rfl) :
    (execOp (ev n f) o).run P w = .ok (.defer { target := .fn (.func g) #[], args := #[a] }) w := r_dfr (xs := [x]) (vs := [a]) ho (by simp [hx])
theorem r_d2 {x y : Operand} {tys : Array TypeId} {a b : Value} (ho : o.op = .defer { callee := .value (.func g), args := #[x, y], argTypes := tys } := by rfl) (hx : ev n f x = a := by first | ((conv => lhs; whnf); done) | rfl) (hy : ev n f y = b := by first | ((conv => lhs; whnf); done) | rfl) :
    (execOp (ev n f) o).run P w = .ok (.defer { target := .fn (.func g) #[], args := #[a, b] }) w := r_dfr (xs := [x, y]) (vs := [a, b]) ho (by simp [hx, hy])
theorem retD_end {R : Ending → World → Prop} {ds : List Deferred} (h : ∀ tmps, (∀ w', (results fn tmps).run P w' = .ok (.tuple #[]) w') → Leaves P fn tmps R ds .returning w) (hrs : fn.results = #[] := by rfl) : RetD P fn n R .normal f ds w := by
  intro a _
  refine h a.tmps (fun w' => ?_)
  rw [results_eq, hrs]
  simp
theorem leaves_nil {R : Ending → World → Prop} {tmps : Array Value} {v : Value} (h : (results fn tmps).run P w = .ok v w) (hR : R (.returned v) w) : Leaves P fn tmps R [] .returning w := ⟨v, h, hR⟩
end
end Wh
namespace Wh
open Go

def alook {α β : Type} [DecidableEq α] (a : α) : List (α × β) → Option β
  | [] => none
  | (k, v) :: l => if k = a then some v else alook a l
def aput {α β : Type} [DecidableEq α] (a : α) (b : β) : List (α × β) → List (α × β)
  | [] => [(a, b)]
  | (k, v) :: l => if k = a then (a, b) :: l else (k, v) :: aput a b l
def adel {α β : Type} [DecidableEq α] (a : α) : List (α × β) → List (α × β)
  | [] => []
  | (k, v) :: l => if k = a then l else (k, v) :: adel a l

/-- keys of a type, told by plain data -/
structure KeyT (P : Program) (kt : TypeId) {α : Type} [DecidableEq α] (enc : α → Value) : Prop where
  check : ∀ (em : Bool) (a : α) (w : World), (Instr.checkKey em 10000 kt (enc a)).run P w = .ok () w
  now : ∀ d, P.underlying kt = some d → (∀ a b, Instr.sameNow d (enc a) (enc b) = some (decide (a = b))) ∨ (∀ a b, Instr.sameNow d (enc a) (enc b) = none)
  und : ∃ d, P.underlying kt = some d
  eq : ∀ (a b : α) (w : World), (Op.equal kt (enc a) (enc b)).run P w = .ok (decide (a = b)) w
  same : ∀ a, Instr.sameBits 10000 (enc a) (enc a) = true
theorem KeyT.inj {P : Program} {kt : TypeId} {α : Type} [DecidableEq α] {enc : α → Value} (K : KeyT P kt enc) (w : World) {a b : α} (h : enc a = enc b) : a = b := by
  have h1 := K.eq a b w
  have h2 := K.eq a a w
  rw [← h, h2] at h1
  simpa using h1

section
variable {P : Program} {kt : TypeId} {α β : Type} {enc : α → Value} {encv : β → Value}

def MapRep (enc : α → Value) (encv : β → Value) (es : List MapEntry) (l : List (α × β)) : Prop := es.map (fun e => (e.key, e.val)) = l.map (fun p => (enc p.1, encv p.2))

theorem MapRep.cons {e : MapEntry} {es : List MapEntry} {l : List (α × β)} (h : MapRep enc encv (e :: es) l) : ∃ a b l', l = (a, b) :: l' ∧ e.key = enc a ∧ e.val = encv b ∧ MapRep enc encv es l' := by
  cases l with
  | nil => simp [MapRep] at h
  | cons p l =>
    simp only [MapRep, List.map_cons, List.cons.injEq, Prod.mk.injEq] at h
    exact ⟨p.1, p.2, l, rfl, h.1.1, h.1.2, h.2⟩

theorem findAsking_spec [DecidableEq α] (K : KeyT P kt enc) (a : α) (w : World) : ∀ (es : List MapEntry) (l : List (α × β)) (i : Nat), MapRep enc encv es l →
    ∃ r, (Instr.findAsking kt (enc a) es i).run P w = .ok r w ∧
      ((alook a l = none ∧ r = none) ∨ (∃ b j, alook a l = some b ∧ r = some (i + j, encv b) ∧ j < es.length ∧
        (∃ e, es[j]? = some e ∧ e.key = enc a) ∧ ∀ (v : β) (f : MapEntry → MapEntry), (∀ e, es[j]? = some e → (f e).key = enc a ∧ (f e).val = encv v) → MapRep enc encv (es.modify j f) (aput a v l)))
  | [], l, i, h => by
    cases l with
    | nil => exact ⟨none, by simp [Instr.findAsking], .inl ⟨rfl, rfl⟩⟩
    | cons p l => simp [MapRep] at h
  | e :: es, l, i, h => by
    obtain ⟨k, b, l', rfl, hk, hv, h'⟩ := h.cons
    by_cases e1 : k = a
    · subst e1
      refine ⟨some (i, e.val), by simp [Instr.findAsking, hk, K.eq], .inr ⟨b, 0, by simp [alook], by simp [hv], by simp, ⟨e, rfl, hk⟩, ?_⟩⟩
      intro v f hf
      have hf := hf e rfl
      simp only [List.modify_zero_cons, aput, if_true, MapRep, List.map_cons, List.cons.injEq, Prod.mk.injEq]
      exact ⟨⟨hf.1, hf.2⟩, h'⟩
    · obtain ⟨r, hr, hh⟩ := findAsking_spec K a w es l' (i + 1) h'
      have hne : ¬ a = k := fun x => e1 x.symm
      refine ⟨r, by simp [Instr.findAsking, hk, K.eq, hne, hr], ?_⟩
      rcases hh with ⟨h1, h2⟩ | ⟨b', j, h1, h2, h3, h5, h4⟩
      · exact .inl ⟨by simp [alook, e1, h1], h2⟩
      · refine .inr ⟨b', j + 1, by simp [alook, e1, h1], by rw [h2]; simp; omega, by simp; omega, by simpa using h5, ?_⟩
        intro v f hf
        have := h4 v f (fun e he => hf e (by simpa using he))
        simp only [List.modify_succ_cons, aput, e1, if_false, MapRep, List.map_cons, List.cons.injEq, Prod.mk.injEq]
        exact ⟨⟨hk, hv⟩, this⟩

theorem findNow_spec [DecidableEq α] {d : TypeDesc} (hd : (∀ a b, Instr.sameNow d (enc a) (enc b) = some (decide (a = b)))) (a : α) : ∀ (es : List MapEntry) (l : List (α × β)) (i : Nat), MapRep enc encv es l →
    ∃ r, Instr.findNow d (enc a) es i = some r ∧
      ((alook a l = none ∧ r = none) ∨ (∃ b j, alook a l = some b ∧ r = some (i + j, encv b) ∧ j < es.length ∧
        (∃ e, es[j]? = some e ∧ e.key = enc a) ∧ ∀ (v : β) (f : MapEntry → MapEntry), (∀ e, es[j]? = some e → (f e).key = enc a ∧ (f e).val = encv v) → MapRep enc encv (es.modify j f) (aput a v l)))
  | [], l, i, h => by
    cases l with
    | nil => exact ⟨none, by simp [Instr.findNow], .inl ⟨rfl, rfl⟩⟩
    | cons p l => simp [MapRep] at h
  | e :: es, l, i, h => by
    obtain ⟨k, b, l', rfl, hk, hv, h'⟩ := h.cons
    by_cases e1 : k = a
    · subst e1
      refine ⟨some (i, e.val), by simp [Instr.findNow, hk, hd], .inr ⟨b, 0, by simp [alook], by simp [hv], by simp, ⟨e, rfl, hk⟩, ?_⟩⟩
      intro v f hf
      have hf := hf e rfl
      simp only [List.modify_zero_cons, aput, if_true, MapRep, List.map_cons, List.cons.injEq, Prod.mk.injEq]
      exact ⟨⟨hf.1, hf.2⟩, h'⟩
    · obtain ⟨r, hr, hh⟩ := findNow_spec hd a es l' (i + 1) h'
      have hne : ¬ a = k := fun x => e1 x.symm
      refine ⟨r, by simp [Instr.findNow, hk, hd, hne, hr], ?_⟩
      rcases hh with ⟨h1, h2⟩ | ⟨b', j, h1, h2, h3, h5, h4⟩
      · exact .inl ⟨by simp [alook, e1, h1], h2⟩
      · refine .inr ⟨b', j + 1, by simp [alook, e1, h1], by rw [h2]; simp; omega, by simp; omega, by simpa using h5, ?_⟩
        intro v f hf
        have := h4 v f (fun e he => hf e (by simpa using he))
        simp only [List.modify_succ_cons, aput, e1, if_false, MapRep, List.map_cons, List.cons.injEq, Prod.mk.injEq]
        exact ⟨⟨hk, hv⟩, this⟩

theorem findKey_spec [DecidableEq α] (K : KeyT P kt enc) (a : α) (w : World) (es : List MapEntry) (l : List (α × β)) (h : MapRep enc encv es l) :
    ∃ r, (Instr.findKey kt (enc a) es).run P w = .ok r w ∧
      ((alook a l = none ∧ r = none) ∨ (∃ b j, alook a l = some b ∧ r = some (j, encv b) ∧ j < es.length ∧
        (∃ e, es[j]? = some e ∧ e.key = enc a) ∧ ∀ (v : β) (f : MapEntry → MapEntry), (∀ e, es[j]? = some e → (f e).key = enc a ∧ (f e).val = encv v) → MapRep enc encv (es.modify j f) (aput a v l))) := by
  obtain ⟨d, hd⟩ := K.und
  rcases K.now d hd with hn | hn
  · obtain ⟨r, hr, hh⟩ := findNow_spec hn a es l 0 h
    refine ⟨r, by simp [Instr.findKey, run_underlying hd, hr], ?_⟩
    simpa using hh
  · cases es with
    | nil =>
      cases l with
      | nil => exact ⟨none, by simp [Instr.findKey, run_underlying hd, Instr.findNow], .inl ⟨rfl, rfl⟩⟩
      | cons p l => simp [MapRep] at h
    | cons e es =>
      obtain ⟨r, hr, hh⟩ := findAsking_spec K a w (e :: es) l 0 h
      obtain ⟨k, b, l', rfl, hk, hv, h'⟩ := h.cons
      refine ⟨r, by simp [Instr.findKey, run_underlying hd, Instr.findNow, hk, hn, hr], ?_⟩
      simpa using hh

theorem MapRep.fresh [DecidableEq α] (K : KeyT P kt enc) (w : World) {a : α} : ∀ {es : List MapEntry} {l : List (α × β)}, MapRep enc encv es l → alook a l = none → ∀ x ∈ es, x.key ≠ enc a
  | [], l, h, _, x, hx => by cases hx
  | e :: es, l, h, hn, x, hx => by
    obtain ⟨k, b', l', rfl, hk', hv', h'⟩ := h.cons
    by_cases e1 : k = a
    · simp [alook, e1] at hn
    · simp only [alook, e1, if_false] at hn
      rcases List.mem_cons.1 hx with rfl | hx
      · rw [hk']
        exact fun e => e1 (K.inj w e)
      · exact MapRep.fresh K w h' hn x hx
theorem MapRep.put_new [DecidableEq α] {a : α} {b : β} : ∀ {es : List MapEntry} {l : List (α × β)} {e : MapEntry}, MapRep enc encv es l → alook a l = none → e.key = enc a → e.val = encv b → MapRep enc encv (es ++ [e]) (aput a b l)
  | [], l, e, h, _, hk, hv => by
    cases l with
    | nil => simp [MapRep, aput, hk, hv]
    | cons p l => simp [MapRep] at h
  | e' :: es, l, e, h, hn, hk, hv => by
    obtain ⟨k, b', l', rfl, hk', hv', h'⟩ := h.cons
    by_cases e1 : k = a
    · simp [alook, e1] at hn
    · simp only [alook, e1, if_false] at hn
      have := MapRep.put_new h' hn hk hv
      simp only [List.cons_append, aput, e1, if_false, MapRep, List.map_cons, List.cons.injEq, Prod.mk.injEq]
      exact ⟨⟨hk', hv'⟩, this⟩

/-- a map in memory -/
def MapC (enc : α → Value) (encv : β → Value) (r : Nat) (l : List (α × β)) : Ck where
  foot k := k = r
  holds w := ∃ es ck, w.heap[r]? = some (.map es ck) ∧ MapRep enc encv es.toList l ∧ MapKept.Stamped es ck
  stable := by
    rintro w w' h ⟨es, ck, h1, h2⟩
    exact ⟨es, ck, (h r rfl).trans h1, h2⟩
  ins := by
    rintro w ⟨es, ck, h1, h2⟩ k hk
    exact hk ▸ lt_of_block h1
end

class HasM (L : List Ck) (r : Nat) (α : outParam Type) (β : outParam Type) (enc : outParam (α → Value)) (encv : outParam (β → Value)) (l : outParam (List (α × β))) (mk : outParam (List (α × β) → List Ck)) : Prop where
  perm : ∃ R, L.Perm (MapC enc encv r l :: R) ∧ ∀ l', (MapC enc encv r l' :: R).Perm (mk l')
instance HasM.here {L : List Ck} {r : Nat} {α β : Type} {enc : α → Value} {encv : β → Value} {l : List (α × β)} : HasM (MapC enc encv r l :: L) r α β enc encv l (fun x => MapC enc encv r x :: L) := ⟨⟨L, List.Perm.refl _, fun _ => List.Perm.refl _⟩⟩
instance (priority := low) HasM.there {L : List Ck} {c : Ck} {r : Nat} {α β : Type} {enc : α → Value} {encv : β → Value} {l : List (α × β)} {mk : List (α × β) → List Ck} [h : HasM L r α β enc encv l mk] : HasM (c :: L) r α β enc encv l (fun x => c :: mk x) := by
  obtain ⟨R, h1, h2⟩ := h.perm
  exact ⟨⟨c :: R, (List.Perm.cons c h1).trans (List.Perm.swap _ _ _), fun cs' => (List.Perm.swap _ _ _).trans (List.Perm.cons c (h2 cs'))⟩⟩

section
variable {P : Program} {n : Nat} {f : Fr} {w : World} {o : Oper} {B : Nat} {w0 : World} {L : List Ck}
variable {α β : Type} {enc : α → Value} {encv : β → Value} {r : Nat} {l : List (α × β)} {mk : List (α × β) → List Ck}

theorem Hp.getM (hb : HasM L r α β enc encv l mk) (H : Hp B w0 w L) : ∃ es ck, w.heap[r]? = some (.map es ck) ∧ MapRep enc encv es.toList l ∧ MapKept.Stamped es ck := by
  obtain ⟨R, h1, _⟩ := hb.perm
  exact (H.perm h1).holds _ List.mem_cons_self
theorem run_getObj {o : Obj} (h : w.heap[r]? = some o) (hc : ∀ cs t fr, o ≠ .cells cs t fr) : (getObj r).run P w = .ok o w := by
  cases o <;> first | exact absurd rfl (hc _ _ _) | simp [getObj, Sem.run, h]

/-- what a look-up comes to -/
def mget (encv : β → Value) (zero : Value) (o : Option β) : Value := match o with | some b => encv b | none => zero
theorem run_lookup [DecidableEq α] {t kt et : TypeId} {size bytes : Nat} {zero : Value} (H : Hp B w0 w L) (hT : UT P t (.map kt et)) (hS : TI P et size zero bytes) (K : KeyT P kt enc) (hb : HasM L r α β enc encv l mk) (a : α) (ok : Bool) :
    (Instr.lookup t (.map (some r)) (enc a) ok).run P w = .ok (if ok then .tuple #[mget encv zero (alook a l), .bool (alook a l).isSome] else mget encv zero (alook a l)) w := by
  obtain ⟨es, ck, hes, hrep, hst⟩ := H.getM hb
  obtain ⟨rr, hrr, hh⟩ := findKey_spec K a w es.toList l hrep
  have hg : (getObj r).run P w = .ok (.map es ck) w := run_getObj hes (by intros; simp)
  rcases hh with ⟨h1, h2⟩ | ⟨b, j, h1, h2, _, _, _⟩
  · subst h2
    cases ok <;> simp [Instr.lookup, run_underlying' hT, hg, K.check, hrr, run_zeroValue hS, h1, mget]
  · subst h2
    cases ok <;> simp [Instr.lookup, run_underlying' hT, hg, K.check, hrr, h1, mget]
theorem r_lk2 [DecidableEq α] {t kt et : TypeId} {x y : Operand} {size bytes : Nat} {zero : Value} {a : α} (H : Hp B w0 w L) (K : KeyT P kt enc) (hy : ev n f y = enc a) (ho : o.op = .lookup t x y true := by rfl) (hx : ev n f x = .map (some r) := by rfl)
    (hT : UT P t (.map kt et) := by infer_instance) (hS : TI P et size zero bytes := by infer_instance) (hb : HasM L r α β enc encv l mk := by infer_instance) :
    (execOp (ev n f) o).run P w = .ok (.value (.tuple #[mget encv zero (alook a l), .bool (alook a l).isSome])) w := by
  simp [execOp, ho, hx, hy, run_lookup H hT hS K hb]
theorem r_lk [DecidableEq α] {t kt et : TypeId} {x y : Operand} {size bytes : Nat} {zero : Value} {a : α} (H : Hp B w0 w L) (K : KeyT P kt enc) (hy : ev n f y = enc a) (ho : o.op = .lookup t x y false := by rfl) (hx : ev n f x = .map (some r) := by rfl)
    (hT : UT P t (.map kt et) := by infer_instance) (hS : TI P et size zero bytes := by infer_instance) (hb : HasM L r α β enc encv l mk := by infer_instance) :
    (execOp (ev n f) o).run P w = .ok (.value (mget encv zero (alook a l))) w := by
  simp [execOp, ho, hx, hy, run_lookup H hT hS K hb]
theorem r_lk2s [DecidableEq α] {t kt et : TypeId} {x y : Operand} {size bytes : Nat} {zero : Value} {a : α} {b : β} (H : Hp B w0 w L) (K : KeyT P kt enc) (hl : alook a l = some b) (hy : ev n f y = enc a) (ho : o.op = .lookup t x y true := by rfl) (hx : ev n f x = .map (some r) := by rfl)
    (hT : UT P t (.map kt et) := by infer_instance) (hS : TI P et size zero bytes := by infer_instance) (hb : HasM L r α β enc encv l mk := by infer_instance) :
    (execOp (ev n f) o).run P w = .ok (.value (.tuple #[encv b, .bool true])) w := by
  simp [execOp, ho, hx, hy, run_lookup H hT hS K hb, hl, mget]
theorem r_lk2n [DecidableEq α] {t kt et : TypeId} {x y : Operand} {size bytes : Nat} {zero : Value} {a : α} (H : Hp B w0 w L) (K : KeyT P kt enc) (hl : alook a l = none) (hy : ev n f y = enc a) (ho : o.op = .lookup t x y true := by rfl) (hx : ev n f x = .map (some r) := by rfl)
    (hT : UT P t (.map kt et) := by infer_instance) (hS : TI P et size zero bytes := by infer_instance) (hb : HasM L r α β enc encv l mk := by infer_instance) :
    (execOp (ev n f) o).run P w = .ok (.value (.tuple #[zero, .bool false])) w := by
  simp [execOp, ho, hx, hy, run_lookup H hT hS K hb, hl, mget]
theorem r_lks [DecidableEq α] {t kt et : TypeId} {x y : Operand} {size bytes : Nat} {zero : Value} {a : α} {b : β} (H : Hp B w0 w L) (K : KeyT P kt enc) (hl : alook a l = some b) (hy : ev n f y = enc a) (ho : o.op = .lookup t x y false := by rfl) (hx : ev n f x = .map (some r) := by rfl)
    (hT : UT P t (.map kt et) := by infer_instance) (hS : TI P et size zero bytes := by infer_instance) (hb : HasM L r α β enc encv l mk := by infer_instance) :
    (execOp (ev n f) o).run P w = .ok (.value (encv b)) w := by
  simp [execOp, ho, hx, hy, run_lookup H hT hS K hb, hl, mget]
theorem r_lkn [DecidableEq α] {t kt et : TypeId} {x y : Operand} {size bytes : Nat} {zero : Value} {a : α} (H : Hp B w0 w L) (K : KeyT P kt enc) (hl : alook a l = none) (hy : ev n f y = enc a) (ho : o.op = .lookup t x y false := by rfl) (hx : ev n f x = .map (some r) := by rfl)
    (hT : UT P t (.map kt et) := by infer_instance) (hS : TI P et size zero bytes := by infer_instance) (hb : HasM L r α β enc encv l mk := by infer_instance) :
    (execOp (ev n f) o).run P w = .ok (.value zero) w := by
  simp [execOp, ho, hx, hy, run_lookup H hT hS K hb, hl, mget]
theorem chg_setObj (w : World) (r : Nat) (o : Obj) : Chg (fun k => k = r) w { w with heap := w.heap.setIfInBounds r o } :=
  ⟨by simp, fun k _ hk => by simp only [Array.getElem?_setIfInBounds]; rw [if_neg (fun e => hk e.symm)], rfl, rfl, rfl⟩
theorem run_setObj {o o' : Obj} (h : w.heap[r]? = some o') (hc : ∀ cs t fr, o' ≠ .cells cs t fr) : (setObj r o).run P w = .ok () { w with heap := w.heap.setIfInBounds r o } := by
  cases o' <;> first | exact absurd rfl (hc _ _ _) | simp [setObj, Sem.run, h]
theorem Hp.setM (hb : HasM L r α β enc encv l mk) (H : Hp B w0 w L) {es : Array MapEntry} {ck : Nat} {l' : List (α × β)} (hrep : MapRep enc encv es.toList l') (hst : MapKept.Stamped es ck) : Hp B w0 { w with heap := w.heap.setIfInBounds r (.map es ck) } (mk l') := by
  obtain ⟨es0, ck0, hes, _, _⟩ := H.getM hb
  obtain ⟨R, h1, h2⟩ := hb.perm
  refine ((H.perm h1).upd (c' := MapC enc encv r l') (chg_setObj w r _) ⟨es, ck, ?_, hrep, hst⟩ (fun _ hk => .inl hk)).perm (h2 l')
  simp [lt_of_block hes]
theorem run_mapUpdate [DecidableEq α] {t kt et : TypeId} (H : Hp B w0 w L) (hT : UT P t (.map kt et)) (K : KeyT P kt enc) (hb : HasM L r α β enc encv l mk) (a : α) (b : β) :
    ∃ w', (Instr.mapUpdate t (.map (some r)) (enc a) (encv b)).run P w = .ok () w' ∧ Hp B w0 w' (mk (aput a b l)) := by
  obtain ⟨es, ck, hes, hrep, hst⟩ := H.getM hb
  obtain ⟨rr, hrr, hh⟩ := findKey_spec K a w es.toList l hrep
  have hg : (getObj r).run P w = .ok (.map es ck) w := run_getObj hes (by intros; simp)
  rcases hh with ⟨h1, h2⟩ | ⟨b', j, h1, h2, hj, ⟨e0, he0, hk0⟩, h4⟩
  · subst h2
    refine ⟨_, ?_, H.setM hb (es := es.push { key := enc a, val := encv b, born := ck }) (ck := ck + 1) ?_ (MapKept.stamped_push hst (hrep.fresh K w h1))⟩
    · simp [Instr.mapUpdate, run_underlying' hT, hg, K.check, hrr, run_setObj hes]
    · simpa using hrep.put_new (e := { key := enc a, val := encv b, born := ck }) h1 rfl rfl
  · subst h2
    have hj' : j < es.size := by simpa using hj
    have he0' : es[j]? = some e0 := by simpa using he0
    have hkey : ((es[j]?).map (·.key)).getD (enc a) = enc a := by rw [he0']; exact hk0
    have hsta : (Instr.keyThatStays (enc a) (enc a)).run P w = .ok (enc a) w := by simp [Instr.keyThatStays, K.same]
    refine ⟨_, ?_, H.setM hb (es := es.modify j fun e => { e with key := enc a, val := encv b }) (ck := ck) ?_ (MapKept.stamped_modify hst j _ (fun _ _ => rfl) (fun e _ he => by rw [he0'] at he; cases he; exact hk0.symm))⟩
    · have hso := run_setObj (P := P) (o := .map (es.modify j fun e => { e with key := enc a, val := encv b }) ck) hes (by intros; simp)
      simp only [Instr.mapUpdate, run_underlying' hT, Sem.run_bind, Result.andThen_ok, hg, K.check, hrr, hkey, hsta, hso]
    · rw [Array.toList_modify]
      exact h4 b _ (fun e he => ⟨rfl, rfl⟩)
theorem r_mu [DecidableEq α] {t kt et : TypeId} {x y z : Operand} {a : α} {b : β} (H : Hp B w0 w L) (K : KeyT P kt enc) (ho : o.op = .mapUpdate t x y z := by rfl) (hx : ev n f x = .map (some r) := by rfl)
    (hT : UT P t (.map kt et) := by infer_instance) (hb : HasM L r α β enc encv l mk := by infer_instance) (hy : ev n f y = enc a := by rfl) (hz : ev n f z = encv b := by rfl) :
    ∃ w', (execOp (ev n f) o).run P w = .ok .skip w' ∧ Hp B w0 w' (mk (aput a b l)) := by
  obtain ⟨w', h1, h2⟩ := run_mapUpdate H hT K hb a b
  exact ⟨w', by simp [execOp, ho, hx, hy, hz, h1], h2⟩
theorem MapRep.len {es : List MapEntry} (h : MapRep enc encv es l) : es.length = l.length := by
  have := congrArg List.length h
  simpa using this
theorem r_mlen {x : Operand} {t kt et : TypeId} (H : Hp B w0 w L) (ho : o.op = .call { callee := .builtin .len, args := #[x], argTypes := #[t] } := by rfl) (hx : ev n f x = .map (some r) := by rfl) (hT : UT P t (.map kt et) := by infer_instance) (hb : HasM L r α β enc encv l mk := by infer_instance) :
    (execOp (ev n f) o).run P w = .ok (.value (.int .i64 l.length)) w := by
  obtain ⟨es, ck, hes, hrep, hst⟩ := H.getM hb
  have hg : (getObj r).run P w = .ok (.map es ck) w := run_getObj hes (by intros; simp)
  have := hrep.len
  simp at this
  simp [execOp, ho, resolve, invoke, builtin, hx, Builtin.len_, run_underlying' hT, goInt, hg, this]
theorem r_mm (enc : α → Value) (encv : β → Value) {t : TypeId} (H : Hp B w0 w L) (ho : o.op = .makeMap t none := by rfl) :
    ∃ g w', (execOp (ev n f) o).run P w = .ok (.value (.map (some g))) w' ∧ Hp B w0 w' (MapC enc encv g [] :: L) := by
  refine ⟨w.heap.size, w.alloc (.map #[] 0), ?_, H.new (chg_alloc w _) ⟨#[], 0, heap_alloc_new w _, by simp [MapRep], MapKept.stamped_empty 0⟩ (fun _ hk => Nat.le_of_eq hk.symm)⟩
  simp [execOp, ho, Instr.makeMap]
end
end Wh
namespace Wh
open Go

def iv : List IntKind → List Int → List Value
  | k :: ks, n :: ns => .int k n :: iv ks ns
  | _, _ => []
def siFields (P : Program) : Nat → List Field → List IntKind → Bool
  | i, f :: fs, k :: ks => f.offset == i && (f.name != "_") && (match P.underlying f.type with | some (.int k') => k == k' | _ => false) && siFields P (i + 1) fs ks
  | _, [], [] => true
  | _, _, _ => false
/-- a struct of whole numbers -/
class SI (P : Program) (t : TypeId) (ks : outParam (List IntKind)) : Prop where
  eq : (match P.underlying t with | some (.struct fs) => siFields P 0 fs.toList ks | _ => false) = true
  held : P.stoodInHeld t = false
  grd : P.eqGuardType P.depth t = false

section
variable {P : Program} {w : World}
theorem iv_inj : ∀ (ks : List IntKind) (ns ms : List Int), ns.length = ks.length → ms.length = ks.length → iv ks ns = iv ks ms → ns = ms
  | [], [], [], _, _, _ => rfl
  | k :: ks, n :: ns, m :: ms, h1, h2, h => by
    simp only [iv, List.cons.injEq, Value.int.injEq, true_and] at h
    rw [h.1, iv_inj ks ns ms (by simpa using h1) (by simpa using h2) h.2]
  | [], _ :: _, _, h, _, _ => by simp at h
  | [], _, _ :: _, _, h, _ => by simp at h
  | _ :: _, [], _, h, _, _ => by simp at h
  | _ :: _, _, [], _, h, _ => by simp at h
theorem iv_length : ∀ (ks : List IntKind) (ns : List Int), ns.length = ks.length → (iv ks ns).length = ks.length
  | [], [], _ => rfl
  | k :: ks, n :: ns, h => by simp [iv, iv_length ks ns (by simpa using h)]
  | [], _ :: _, h => by simp at h
  | _ :: _, [], h => by simp at h

theorem run_part_int {t : TypeId} {k : IntKind} (ht : P.underlying t = some (.int k)) (xs : Array Value) (off : Nat) (v : Value) (h : xs[off]? = some v) : (part t xs off).run P w = .ok v w := by
  simp [part, isAgg, run_underlying ht, h]

theorem run_eqFields (d : Nat) (xs ys : Array Value) : ∀ (fs : List Field) (ks : List IntKind) (ns ms : List Int) (i : Nat), siFields P i fs ks = true → ns.length = ks.length → ms.length = ks.length →
    (∀ j, j < ks.length → xs[i + j]? = (iv ks ns)[j]?) → (∀ j, j < ks.length → ys[i + j]? = (iv ks ms)[j]?) → (Op.eqFields (d + 1) xs ys fs).run P w = .ok (decide (ns = ms)) w
  | [], [], [], [], _, _, _, _, _, _ => by simp [Op.eqFields]
  | f :: fs, k :: ks, n :: ns, m :: ms, i, h, h1, h2, hx, hy => by
    simp only [siFields, Bool.and_eq_true, beq_iff_eq, bne_iff_ne] at h
    obtain ⟨⟨⟨ho, hn⟩, hk⟩, hr⟩ := h
    have hu : P.underlying f.type = some (.int k) := by
      cases hu : P.underlying f.type with
      | none => rw [hu] at hk; simp at hk
      | some d' =>
        rw [hu] at hk
        cases d' <;> simp at hk
        rw [hk]
    have hx0 : xs[f.offset]? = some (.int k n) := by rw [ho]; simpa [iv] using hx 0 (by simp)
    have hy0 : ys[f.offset]? = some (.int k m) := by rw [ho]; simpa [iv] using hy 0 (by simp)
    have ih := run_eqFields d xs ys fs ks ns ms (i + 1) hr (by simpa using h1) (by simpa using h2)
      (fun j hj => by have := hx (j + 1) (by simpa using hj); simpa [iv, Nat.add_assoc, Nat.add_comm 1 j] using this)
      (fun j hj => by have := hy (j + 1) (by simpa using hj); simpa [iv, Nat.add_assoc, Nat.add_comm 1 j] using this)
    simp only [Op.eqFields, ne_eq, hn, not_false_eq_true, if_true, Sem.run_bind, run_part_int hu xs _ _ hx0, run_part_int hu ys _ _ hy0, Result.andThen_ok, run_equalIn_int (w := w) d f.type k k n m hu]
    by_cases e : n = m
    · subst e
      simp [ih]
    · simp [e]
  | [], [], _ :: _, _, _, _, h, _, _, _ => by simp at h
  | [], [], [], _ :: _, _, _, _, h, _, _ => by simp at h
  | [], _ :: _, _, _, _, h, _, _, _, _ => by simp [siFields] at h
  | _ :: _, [], _, _, _, h, _, _, _, _ => by simp [siFields] at h
  | _ :: _, _ :: _, [], _, _, _, h, _, _, _ => by simp at h
  | _ :: _, _ :: _, _ :: _, [], _, _, _, h, _, _ => by simp at h

theorem run_equalIn_SI (d : Nat) {t : TypeId} {ks : List IntKind} (h : SI P t ks) (ns ms : List Int) (h1 : ns.length = ks.length) (h2 : ms.length = ks.length) :
    (Op.equalIn (d + 2) t (.agg (iv ks ns).toArray) (.agg (iv ks ms).toArray)).run P w = .ok (decide (ns = ms)) w := by
  have he := h.eq
  cases hu : P.underlying t with
  | none => rw [hu] at he; simp at he
  | some dd =>
    rw [hu] at he
    cases dd <;> simp only [Bool.false_eq_true] at he
    rename_i fs
    have hf : P.fieldsOf t = fs := by simp [Program.fieldsOf, hu]
    rw [run_equalIn_agg (w := w) (d + 1) t _ _ (by rw [hf]; exact hu) h.held, hf]
    exact run_eqFields d _ _ fs.toList ks ns ms 0 he h1 h2 (fun j _ => by simp) (fun j _ => by simp)

theorem run_equal_SI {t : TypeId} {ks : List IntKind} (h : SI P t ks) (ns ms : List Int) (h1 : ns.length = ks.length) (h2 : ms.length = ks.length) :
    (Op.equal t (.agg (iv ks ns).toArray) (.agg (iv ks ms).toArray)).run P w = .ok (decide (ns = ms)) w := run_equalIn_SI 9998 h ns ms h1 h2

theorem checkKey_int (em : Bool) (d : Nat) {t : TypeId} {k : IntKind} (ht : P.underlying t = some (.int k)) (n : Int) : (Instr.checkKey em (d + 1) t (.int k n)).run P w = .ok () w := by
  simp [Instr.checkKey, run_underlying ht]

theorem run_checkFields (em : Bool) (d : Nat) (xs : Array Value) : ∀ (fs : List Field) (ks : List IntKind) (ns : List Int) (i : Nat), siFields P i fs ks = true → ns.length = ks.length →
    (∀ j, j < ks.length → xs[i + j]? = (iv ks ns)[j]?) →
    (forIn (m := Sem) fs PUnit.unit fun f _ => do
      if f.name ≠ "_" then
        Instr.checkKey em (d + 1) f.type (← part f.type xs f.offset)
        pure (ForInStep.yield PUnit.unit)
      else pure (ForInStep.yield PUnit.unit)).run P w = .ok PUnit.unit w
  | [], [], [], _, _, _, _ => by simp
  | f :: fs, k :: ks, n :: ns, i, h, h1, hx => by
    simp only [siFields, Bool.and_eq_true, beq_iff_eq, bne_iff_ne] at h
    obtain ⟨⟨⟨ho, hn⟩, hk⟩, hr⟩ := h
    have hu : P.underlying f.type = some (.int k) := by
      cases hu : P.underlying f.type with
      | none => rw [hu] at hk; simp at hk
      | some d' =>
        rw [hu] at hk
        cases d' <;> simp at hk
        rw [hk]
    have hx0 : xs[f.offset]? = some (.int k n) := by rw [ho]; simpa [iv] using hx 0 (by simp)
    have ih := run_checkFields em d xs fs ks ns (i + 1) hr (by simpa using h1)
      (fun j hj => by have := hx (j + 1) (by simpa using hj); simpa [iv, Nat.add_assoc, Nat.add_comm 1 j] using this)
    rw [List.forIn_cons]
    simp only [ne_eq, hn, not_false_eq_true, if_true, Sem.run_bind, run_part_int hu xs _ _ hx0, Result.andThen_ok, checkKey_int em d hu, Sem.run_pure]
    exact ih
  | [], [], _ :: _, _, _, h, _ => by simp at h
  | [], _ :: _, _, _, h, _, _ => by simp [siFields] at h
  | _ :: _, [], _, _, h, _, _ => by simp [siFields] at h
  | _ :: _, _ :: _, [], _, _, h, _ => by simp at h

theorem run_checkKey_SI (em : Bool) {t : TypeId} {ks : List IntKind} (h : SI P t ks) (ns : List Int) (h1 : ns.length = ks.length) : (Instr.checkKey em 10000 t (.agg (iv ks ns).toArray)).run P w = .ok () w := by
  have he := h.eq
  cases hu : P.underlying t with
  | none => rw [hu] at he; simp at he
  | some dd =>
    rw [hu] at he
    cases dd <;> simp only [Bool.false_eq_true] at he
    rename_i fs
    have := run_checkFields (P := P) (w := w) em 9998 (iv ks ns).toArray fs.toList ks ns 0 he h1 (fun j _ => by simp)
    show (Instr.checkKey em (9999 + 1) t _).run P w = _
    rw [Instr.checkKey]
    simp only [Sem.run_bind, run_underlying hu, Result.andThen_ok]
    rw [← Array.forIn_toList]
    have e : (9999 : Nat) = 9998 + 1 := rfl
    rw [e, this]
    rfl

theorem sameBits_int (d : Nat) (k : IntKind) (n : Int) : Instr.sameBits d (.int k n) (.int k n) = true := by simp [Instr.sameBits]
theorem sameBits_SI (ks : List IntKind) (ns : List Int) : Instr.sameBits 10000 (.agg (iv ks ns).toArray) (.agg (iv ks ns).toArray) = true := by
  show Instr.sameBits (9999 + 1) _ _ = true
  rw [Instr.sameBits]
  simp only [beq_self_eq_true, Bool.true_and]
  induction ks generalizing ns with
  | nil => simp [iv]
  | cons k ks ih =>
    cases ns with
    | nil => simp [iv]
    | cons n ns =>
      have := ih ns
      simp only [iv] at this ⊢
      simpa [sameBits_int] using this

/-- structs of whole numbers as keys -/
theorem keyT_SI {t : TypeId} {ks : List IntKind} {α : Type} [DecidableEq α] (h : SI P t ks) (num : α → List Int) (hl : ∀ a, (num a).length = ks.length) (hinj : ∀ a b, num a = num b → a = b) : KeyT P t (fun a => .agg (iv ks (num a)).toArray) where
  check := fun em a w => run_checkKey_SI em h (num a) (hl a)
  now := fun d hd => .inr fun a b => by
    have he := h.eq
    rw [hd] at he
    cases d <;> simp only [Bool.false_eq_true] at he
    rfl
  und := by
    have he := h.eq
    cases hu : P.underlying t with
    | none => rw [hu] at he; simp at he
    | some d => exact ⟨d, rfl⟩
  eq := fun a b w => by
    rw [run_equal_SI h (num a) (num b) (hl a) (hl b)]
    congr 1
    exact decide_eq_decide.2 ⟨hinj a b, fun e => by rw [e]⟩
  same := fun a => sameBits_SI ks (num a)
/-- whole numbers as keys -/
theorem keyT_int {t : TypeId} {k : IntKind} (ht : P.underlying t = some (.int k)) : KeyT P t (fun n : Int => .int k n) where
  check := fun em a w => checkKey_int em 9999 ht a
  now := fun d hd => .inl fun a b => by
    rw [ht] at hd
    injection hd with hd
    subst hd
    simp [Instr.sameNow]
    rfl
  und := ⟨_, ht⟩
  eq := fun a b w => by
    have := run_equalIn_int (P := P) (w := w) 9999 t k k a b ht
    show (Op.equalIn (9999 + 1) t _ _).run P w = _
    rw [this]
    congr 1
  same := fun a => sameBits_int _ _ _
variable {n : Nat} {f : Fr} {o : Oper}
theorem r_eqs {t t2 : TypeId} {x y : Operand} {ks : List IntKind} {ns ms : List Int} (hx : ev n f x = .agg (iv ks ns).toArray) (hy : ev n f y = .agg (iv ks ms).toArray) (ho : o.op = .binOp .eql t x y t2 := by rfl) (h : SI P t ks := by infer_instance)
    (h1 : ns.length = ks.length := by rfl) (h2 : ms.length = ks.length := by rfl) : (execOp (ev n f) o).run P w = .ok (.value (.bool (decide (ns = ms)))) w := by
  have hg := run_eqGuard_agg (P := P) (w := w) .eql t x y (iv ks ns).toArray (iv ks ms).toArray h.grd
  have hb := run_eql_struct (P := P) (w := w) t (iv ks ns).toArray (iv ks ms).toArray
  have he := run_equalIn_SI (P := P) (w := w) 9998 h ns ms h1 h2
  simp only [execOp, ho, hx, hy, Sem.run_bind, hg, hb, he, Result.andThen_ok, Sem.run_pure]
theorem r_nes {t t2 : TypeId} {x y : Operand} {ks : List IntKind} {ns ms : List Int} (hx : ev n f x = .agg (iv ks ns).toArray) (hy : ev n f y = .agg (iv ks ms).toArray) (ho : o.op = .binOp .neq t x y t2 := by rfl) (h : SI P t ks := by infer_instance)
    (h1 : ns.length = ks.length := by rfl) (h2 : ms.length = ks.length := by rfl) : (execOp (ev n f) o).run P w = .ok (.value (.bool (!decide (ns = ms)))) w := by
  have hg := run_eqGuard_agg (P := P) (w := w) .neq t x y (iv ks ns).toArray (iv ks ms).toArray h.grd
  have hb := run_neq_struct (P := P) (w := w) t (iv ks ns).toArray (iv ks ms).toArray
  have he := run_equalIn_SI (P := P) (w := w) 9998 h ns ms h1 h2
  simp only [execOp, ho, hx, hy, Sem.run_bind, hg, hb, he, Result.andThen_ok, Sem.run_pure]
end
end Wh
