/- What a function hands back; ways out of a body. -/
import Derived.Test.YtjdckpeoinkafaaGreatDoorFwD
set_option linter.all false
namespace Wh
open Go
section
variable {P : Program} {n : Nat} {f : Fr} {w : World} {fn : Func} {R : Ending → World → Prop} {e : Exit}

/-- one of a function's results -/
def ResV (P : Program) (n : Nat) (f : Fr) (w : World) : ResultVar → Value → Prop
  | .tmp t, v => Nat.blt t n = true ∧ f t = v
  | .cell t ty, v => Nat.blt t n = true ∧ ∃ a, f t = .pointer (some a) ∧ (loadVar ty a).run P w = .ok v w

def resOne (tmps : Array Value) : ResultVar → Sem Value
  | .tmp t => pure (tmps.getD t undef)
  | .cell a t => do loadVar t (← asAddr (tmps.getD a undef))

theorem results_eq (fn : Func) (tmps : Array Value) : results fn tmps = (do
    let vs ← fn.results.mapM (resOne tmps)
    pure (if h : vs.size = 1 then vs[0] else .tuple vs)) := by
  unfold results
  congr 1

theorem Rep.getD {a : Act} {ds : List Deferred} (h : Rep a n f ds) {t : Nat} (ht : Nat.blt t n = true) : a.tmps.getD t undef = f t := by
  rw [Array.getD_eq_getD_getElem?, h.cell t (blt_iff.1 ht)]; rfl

theorem run_resOne {a : Act} {ds : List Deferred} (h : Rep a n f ds) {r : ResultVar} {v : Value} (hr : ResV P n f w r v) : (resOne a.tmps r).run P w = .ok v w := by
  cases r with
  | tmp t => simp [resOne, h.getD hr.1, hr.2]
  | cell t ty =>
    obtain ⟨ht, ad, hf, hl⟩ := hr
    simp [resOne, h.getD ht, hf, asAddr, hl]

theorem run_mapM_res {a : Act} {ds : List Deferred} (h : Rep a n f ds) : ∀ (rs : List ResultVar) (vs : List Value), rs.length = vs.length → (∀ (i : Nat) (r : ResultVar) (v : Value), rs[i]? = some r → vs[i]? = some v → ResV P n f w r v) →
    (rs.mapM (resOne a.tmps)).run P w = .ok vs w
  | [], [], _, _ => by simp
  | [], _ :: _, hl, _ => by simp at hl
  | _ :: _, [], hl, _ => by simp at hl
  | r :: rs, v :: vs, hl, hh => by
    have h0 := run_resOne h (hh 0 r v rfl rfl)
    have ih := run_mapM_res h rs vs (by simpa using hl) (fun i r' v' h1 h2 => hh (i + 1) r' v' h1 h2)
    rw [List.mapM_cons]
    simp [h0, ih]

theorem run_results {a : Act} {ds : List Deferred} (h : Rep a n f ds) {rs : List ResultVar} {vs : List Value} (hrs : fn.results = rs.toArray) (hl : rs.length = vs.length)
    (hh : ∀ (i : Nat) (r : ResultVar) (v : Value), rs[i]? = some r → vs[i]? = some v → ResV P n f w r v) : (results fn a.tmps).run P w = .ok (match vs with | [v] => v | vs => .tuple vs.toArray) w := by
  have hm := run_mapM_res (P := P) (w := w) h rs vs hl hh
  rw [results_eq, hrs]
  have e : (rs.toArray.mapM (resOne a.tmps)) = (do let l ← rs.mapM (resOne a.tmps); pure l.toArray) := by
    rw [List.mapM_toArray]
    rfl
  rw [e]
  simp only [bind_assoc, pure_bind, Sem.run_bind, hm, Result.andThen_ok, Sem.run_pure]
  match vs with
  | [] => rfl
  | [v] => rfl
  | v :: v' :: vs => simp

theorem ret_ok (he : e = .ret ∨ e = .normal) {rs : List ResultVar} {vs : List Value} (hrs : fn.results = rs.toArray) (hl : rs.length = vs.length)
    (hh : ∀ (i : Nat) (r : ResultVar) (v : Value), rs[i]? = some r → vs[i]? = some v → ResV P n f w r v) (hR : R (.returned (match vs with | [v] => v | vs => .tuple vs.toArray)) w) : Ret P fn n R e f [] w := by
  have key : ∃ v, (∀ a, Rep a n f [] → (results fn a.tmps).run P w = .ok v w) ∧ R (.returned v) w := ⟨_, fun a ha => run_results ha hrs hl hh, hR⟩
  rcases he with rfl | rfl
  · exact ⟨rfl, key⟩
  · exact ⟨rfl, key⟩

theorem ret0 (hrs : fn.results = #[] := by rfl) (hR : R (.returned (.tuple #[])) w) : Ret P fn n R .normal f [] w :=
  ret_ok (rs := []) (vs := []) (.inr rfl) hrs rfl (by simp) hR
theorem ret0r (hrs : fn.results = #[] := by rfl) (hR : R (.returned (.tuple #[])) w) : Ret P fn n R .ret f [] w :=
  ret_ok (rs := []) (vs := []) (.inl rfl) hrs rfl (by simp) hR
theorem ret1 {r : ResultVar} {v : Value} (hrs : fn.results = #[r]) (h1 : ResV P n f w r v) (hR : R (.returned v) w) : Ret P fn n R .ret f [] w :=
  ret_ok (rs := [r]) (vs := [v]) (.inl rfl) hrs rfl (fun i r' v' h h' => by
    match i with
    | 0 => simp at h h'; subst h h'; exact h1
    | i + 1 => simp at h) hR
theorem ret2 {r s : ResultVar} {v u : Value} (hrs : fn.results = #[r, s]) (h1 : ResV P n f w r v) (h2 : ResV P n f w s u) (hR : R (.returned (.tuple #[v, u])) w) : Ret P fn n R .ret f [] w :=
  ret_ok (rs := [r, s]) (vs := [v, u]) (.inl rfl) hrs rfl (fun i r' v' h h' => by
    match i with
    | 0 => simp at h h'; subst h h'; exact h1
    | 1 => simp at h h'; subst h h'; exact h2
    | i + 2 => simp at h) hR
theorem ret3 {r s t : ResultVar} {v u x : Value} (hrs : fn.results = #[r, s, t]) (h1 : ResV P n f w r v) (h2 : ResV P n f w s u) (h3 : ResV P n f w t x) (hR : R (.returned (.tuple #[v, u, x])) w) : Ret P fn n R .ret f [] w :=
  ret_ok (rs := [r, s, t]) (vs := [v, u, x]) (.inl rfl) hrs rfl (fun i r' v' h h' => by
    match i with
    | 0 => simp at h h'; subst h h'; exact h1
    | 1 => simp at h h'; subst h h'; exact h2
    | 2 => simp at h h'; subst h h'; exact h3
    | i + 3 => simp at h) hR
theorem ret4 {r s t q : ResultVar} {v u x y : Value} (hrs : fn.results = #[r, s, t, q]) (h1 : ResV P n f w r v) (h2 : ResV P n f w s u) (h3 : ResV P n f w t x) (h4 : ResV P n f w q y) (hR : R (.returned (.tuple #[v, u, x, y])) w) : Ret P fn n R .ret f [] w :=
  ret_ok (rs := [r, s, t, q]) (vs := [v, u, x, y]) (.inl rfl) hrs rfl (fun i r' v' h h' => by
    match i with
    | 0 => simp at h h'; subst h h'; exact h1
    | 1 => simp at h h'; subst h h'; exact h2
    | 2 => simp at h h'; subst h h'; exact h3
    | 3 => simp at h h'; subst h h'; exact h4
    | i + 4 => simp at h) hR
theorem rT {t : Nat} {v : Value} (hn : Nat.blt t n = true := by rfl) (hv : f t = v := by first | ((conv => lhs; whnf); done) | rfl) : ResV P n f w (.tmp t) v := ⟨hn, hv⟩
/-- a result that lies in a block that is known whole -/
theorem rC {t : Nat} {ty : TypeId} {g : Nat} {B : Nat} {w0 : World} {L : List Ck} {bt : TypeId} {cs : Array Value} {mk : Array Value → List Ck} {size bytes : Nat} {zero : Value} (H : Hp B w0 w L) (hn : Nat.blt t n = true := by rfl) (hv : f t = .pointer (some ⟨g, 0, none⟩) := by rfl)
    (h1 : Agg P ty := by infer_instance) (hS : TI P ty size zero bytes := by infer_instance) (hb : HasB L g bt cs mk := by infer_instance) (hp : cs.size = size := by rfl) : ResV P n f w (.cell t ty) (.agg cs) := by
  refine ⟨hn, _, hv, ?_⟩
  rw [run_loadVarA (H.getB (h := hb)) (by omega), ← hp]
  simp
theorem rC1 {t : Nat} {ty : TypeId} {g : Nat} {B : Nat} {w0 : World} {L : List Ck} {bt : TypeId} {cs : Array Value} {mk : Array Value → List Ck} {v : Value} (H : Hp B w0 w L) (hn : Nat.blt t n = true := by rfl) (hv : f t = .pointer (some ⟨g, 0, none⟩) := by rfl)
    (h1 : One P ty := by infer_instance) (hb : HasB L g bt cs mk := by infer_instance) (hc : cs[0]? = some v := by rfl) : ResV P n f w (.cell t ty) v := by
  refine ⟨hn, _, hv, run_loadVar1 ?_⟩
  rw [cell_of_blk (H.getB (h := hb))]; exact hc

theorem calls_go {g : FuncId} {c : Code} {args : List Value} (hf : P.funcs[g]? = some fn) (hn : fn.ntmps = n) (hb : fn.body = some c) (hl : Nat.ble args.length n = true)
    (h : TW P n (Ret P fn n R) [.code c] (frOf args) [] w) : Calls P g args.toArray w R := by
  subst hn
  exact calls_of_TW hf hb (Nat.le_of_ble_eq_true hl) h
theorem retQ {ch : List PanicEntry} {f f' : Fr} {ds : List Deferred} {w : World} (h : Ret P fn n R (.panic ch) f ds w) : Ret P fn n R (.panic ch) f' ds w := h
end
/-- a number that is in the bounds of its kind -/
theorem w64 {a : Int} (h1 : -9223372036854775808 ≤ a) (h2 : a ≤ 9223372036854775807) : IntKind.i64.wrap a = a := by
  exact IntWalk.i64_in a ⟨h1, h2⟩
end Wh
