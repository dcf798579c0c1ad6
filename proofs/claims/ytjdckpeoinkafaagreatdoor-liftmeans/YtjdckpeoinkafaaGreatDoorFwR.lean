/- Arguments, read: whole numbers in structs and arrays, and slices of such. -/
import Derived.Test.YtjdckpeoinkafaaGreatDoorFwM
import Derived.Test.YtjdckpeoinkafaaGreatDoorIn
import Derived.Deep.Slices
import Derived.ChangeSame
import Derived.OpenShut
import Derived.ProofKit
set_option linter.all false
namespace Wh
open Go Go.ChangeShapes Go.WideShapes Go.Deep

/-- each number is of its kind -/
def KW : List IntKind → List Int → Prop
  | [], [] => True
  | k :: ks, n :: ns => (Lit.int k n).wf = true ∧ KW ks ns
  | _, _ => False
theorem KW.len : ∀ {ks : List IntKind} {ns : List Int}, KW ks ns → ns.length = ks.length
  | [], [], _ => rfl
  | _ :: _, _ :: _, h => by simp [KW.len h.2]
  | [], _ :: _, h => h.elim
  | _ :: _, [], h => h.elim
theorem KW.app : ∀ {ks ks' : List IntKind} {ns ns' : List Int}, KW ks ns → KW ks' ns' → KW (ks ++ ks') (ns ++ ns')
  | [], _, [], _, _, h' => h'
  | _ :: _, _, _ :: _, _, h, h' => ⟨h.1, KW.app h.2 h'⟩
  | [], _, _ :: _, _, h, _ => h.elim
  | _ :: _, _, [], _, h, _ => h.elim
theorem iv_app : ∀ {ks ks' : List IntKind} {ns ns' : List Int}, ns.length = ks.length → iv (ks ++ ks') (ns ++ ns') = iv ks ns ++ iv ks' ns'
  | [], _, [], _, _ => rfl
  | _ :: _, _, _ :: _, _, h => by
    simp only [List.length_cons, Nat.add_right_cancel_iff] at h
    simp [iv, iv_app h]
  | [], _, _ :: _, _, h => by simp at h
  | _ :: _, _, [], _, h => by simp at h
/-- the kinds of the cells of a type that holds whole numbers alone -/
def ikF (P : Program) (rec : TypeId → Option (List IntKind)) : Nat → List Field → Option (List IntKind)
  | _, [] => some []
  | off, f :: r => match rec f.type with
    | some ks => if f.offset == off && P.cellsOf f.type == ks.length then (ikF P rec (off + ks.length) r).map (ks ++ ·) else none
    | none => none
def ik (P : Program) : Nat → TypeId → Option (List IntKind)
  | 0, _ => none
  | m + 1, t => match P.underlying t with
    | some (.int k) => some [k]
    | some (.struct fs) => match ikF P (ik P m) 0 fs.toList with
      | some ks => if P.cellsOf t == ks.length then some ks else none
      | none => none
    | some (.array n e) => match ik P m e with
      | some ks => if P.cellsOf e == ks.length && P.cellsOf t == n * ks.length then some ((List.replicate n ks).flatten) else none
      | none => none
    | _ => none
section
variable {H : Type} {enc : TypeId × Value → H} {P : Program} {w : World} {base : Nat} {spare : Nat → Bool} {held : Bool}
theorem read_fields {rec : TypeId → Option (List IntKind)} (hrec : ∀ t ks fuel cs x, rec t = some ks → DataW.trod enc P w base spare held fuel t cs = some x → ∃ ns, cs = iv ks ns ∧ KW ks ns) (n : Nat) (cs : List Value) (xs : List (DataW H × List MemPlace)) :
    ∀ (fs : List Field) (i off : Nat) (ks : List IntKind), ikF P rec off fs = some ks → (∀ j f, fs[j]? = some f → i + j < xs.length ∧ DataW.trod enc P w base spare held n f.type ((cs.drop f.offset).take (P.cellsOf f.type)) = xs[i + j]?) →
    off + ks.length ≤ cs.length → ∃ ns, (cs.drop off).take ks.length = iv ks ns ∧ KW ks ns
  | [], _, _, ks, h, _, _ => by
    simp only [ikF, Option.some.injEq] at h
    subst h
    exact ⟨[], by simp [iv], trivial⟩
  | f :: r, i, off, ks, h, hx, hl => by
    simp only [ikF] at h
    split at h
    · rename_i k1 hk1
      split at h
      · rename_i hc
        simp only [Bool.and_eq_true, beq_iff_eq] at hc
        simp only [Option.map_eq_some_iff] at h
        obtain ⟨k2, hk2, rfl⟩ := h
        simp only [List.length_append] at hl
        obtain ⟨h00, h0⟩ := hx 0 f rfl
        rw [List.getElem?_eq_getElem h00, hc.1, hc.2] at h0
        obtain ⟨n1, e1, w1⟩ := hrec f.type k1 n _ _ hk1 h0
        obtain ⟨n2, e2, w2⟩ := read_fields hrec n cs xs r (i + 1) (off + k1.length) k2 hk2 (fun j g hg => by
          have := hx (j + 1) g (by simpa using hg)
          rw [show i + 1 + j = i + (j + 1) by omega]
          exact this) (by omega)
        refine ⟨n1 ++ n2, ?_, w1.app w2⟩
        rw [List.length_append, List.take_add, e1, List.drop_drop, e2, iv_app w1.len]
      · cases h
    · cases h
theorem read_elems {e : TypeId} {k1 : List IntKind} {m : Nat} (hrec : ∀ cs x, DataW.trod enc P w base spare held m e cs = some x → ∃ ns, cs = iv k1 ns ∧ KW k1 ns) (cs : List Value) (xs : List (DataW H × List MemPlace)) (hxs : ∀ i, i < xs.length → DataW.trod enc P w base spare held m e ((cs.drop (i * k1.length)).take k1.length) = xs[i]?) :
    ∀ (n i : Nat), i + n = xs.length → cs.length = xs.length * k1.length → ∃ ns, cs.drop (i * k1.length) = iv ((List.replicate n k1).flatten) ns ∧ KW ((List.replicate n k1).flatten) ns
  | 0, i, h, hl => ⟨[], by simp [iv]; rw [hl]; exact Nat.mul_le_mul_right _ (by omega), trivial⟩
  | n + 1, i, h, hl => by
    have h1 := hxs i (by omega)
    rw [List.getElem?_eq_getElem (by omega)] at h1
    obtain ⟨n1, e1, w1⟩ := hrec _ _ h1
    obtain ⟨n2, e2, w2⟩ := read_elems hrec cs xs hxs n (i + 1) (by omega) hl
    refine ⟨n1 ++ n2, ?_, by rw [List.replicate_succ, List.flatten_cons]; exact w1.app w2⟩
    rw [List.replicate_succ, List.flatten_cons, iv_app w1.len, ← e1, ← e2, Nat.add_mul, Nat.one_mul, ← List.drop_drop, List.take_append_drop]
theorem read_ik : ∀ (m : Nat) (t : TypeId) (ks : List IntKind) (fuel : Nat) (cs : List Value) (x : DataW H × List MemPlace), ik P m t = some ks → DataW.trod enc P w base spare held fuel t cs = some x → ∃ ns, cs = iv ks ns ∧ KW ks ns
  | 0, _, _, _, _, _, h, _ => by cases h
  | m + 1, t, ks, fuel, cs, x, h, ht => by
    unfold ik at h
    split at h
    · rename_i k hu
      obtain ⟨n, rfl, _, hw⟩ := DataW.trod_int hu ht
      cases h
      exact ⟨[n], rfl, hw, trivial⟩
    · rename_i fs hu
      split at h
      · rename_i k1 hk1
        split at h
        · rename_i hc
          cases h
          simp only [beq_iff_eq] at hc
          obtain ⟨xs, n, _, _, hcl, hxl, hf⟩ := DataW.trod_struct hu ht
          obtain ⟨ns, e, hw⟩ := read_fields (fun t ks fuel cs x => read_ik m t ks fuel cs x) n cs xs fs.toList 0 0 ks hk1 (fun j f hj => by
            have hj' : fs[j]? = some f := by simpa using hj
            have hjl : j < fs.size := (Array.getElem?_eq_some_iff.1 hj').1
            exact ⟨by omega, by rw [Nat.zero_add]; exact hf j f hj'⟩) (by omega)
          refine ⟨ns, ?_, hw⟩
          rw [← e, List.drop_zero, List.take_of_length_le (by omega)]
        · cases h
      · cases h
    · rename_i n e hu
      split at h
      · rename_i k1 hk1
        split at h
        · rename_i hc
          cases h
          simp only [Bool.and_eq_true, beq_iff_eq] at hc
          obtain ⟨xs, q, _, _, hcl, hxl, hf⟩ := DataW.trod_array hu ht
          obtain ⟨ns, e2, hw⟩ := read_elems (fun cs x => read_ik m e k1 q cs x hk1) cs xs (fun i hi => by
            have := hf i (by omega)
            rwa [hc.1] at this) n 0 (by omega) (by rw [hcl, hc.2, hxl])
          exact ⟨ns, by rw [← e2]; simp, hw⟩
        · cases h
      · cases h
    · cases h
/-- an argument that is a struct or an array of whole numbers -/
theorem open_ik {m : Nat} {t : TypeId} {ks : List IntKind} {r : Reach} {b0 : Nat} {v : Value} {d : DataW H} {p : List MemPlace} (hk : ik P m t = some ks) (ha : (match P.underlying t with | some (.struct _) => true | some (.array _ _) => true | _ => false) = true)
    (hv : Value.okWide P w r b0 t v) (h : DataW.Trod enc P w base spare held t v d p) : ∃ ns, v = .agg (iv ks ns).toArray ∧ KW ks ns := by
  have hagg : ∃ cs, v = .agg cs := by
    unfold Value.okWide at hv
    split at hv
    · obtain ⟨cs, h1, _⟩ := hv; exact ⟨cs, h1⟩
    · obtain ⟨cs, h1, _⟩ := hv; exact ⟨cs, h1⟩
    · rename_i h1 h2
      split at ha
      · rename_i fs e; exact absurd e (h1 fs)
      · rename_i n q e; exact absurd e (h2 n q)
      · cases ha
  obtain ⟨cs, rfl⟩ := hagg
  obtain ⟨fuel, hf⟩ := h
  obtain ⟨ns, e, hw⟩ := read_ik m t ks fuel _ _ hk hf
  refine ⟨ns, ?_, hw⟩
  simp only [Value.cells] at e
  rw [← e, Array.toArray_toList]
/-- a slice of such -/
theorem open_slik {m : Nat} {t e : TypeId} {ks : List IntKind} {r : Reach} {b0 : Nat} {v : Value} {d : DataW H} {p : List MemPlace} (ht : P.underlying t = some (.slice e)) (hk : ik P m e = some ks) (hc : P.cellsOf e = ks.length) (hks : ks ≠ [])
    (hv : Value.okWide P w r b0 t v) (h : DataW.Trod enc P w base spare held t v d p) :
    ∃ (a : Option Addr) (cap : Nat) (ls : List (List Int)), v = .slice a ls.length cap ∧ ls.length ≤ cap ∧ cap ≤ 9223372036854775807 ∧ (∀ ns ∈ ls, KW ks ns) ∧
      (ls = [] ∨ ∃ a', a = some a' ∧ a'.block < w.heap.size ∧ RowAt w a' (ls.flatMap (iv ks))) := by
  obtain ⟨a, len, cap, rfl⟩ := okWide_slice ht hv
  obtain ⟨fuel, hf⟩ := h
  rcases open_slice ht hf with ⟨h0, _⟩ | ⟨a', len', cap', mm, n, D, Pl, h0, _, hl, hcm, hm, _, hx⟩
  · simp [Value.cells] at h0
    obtain ⟨rfl, rfl, rfl⟩ := h0
    exact ⟨none, 0, [], rfl, Nat.zero_le _, by omega, by simp, .inl rfl⟩
  · simp [Value.cells] at h0
    obtain ⟨rfl, rfl, rfl⟩ := h0
    have hml : len ≤ mm := by rw [hm]; split <;> omega
    have hcm' : cap ≤ 9223372036854775807 := hcm
    rw [hc] at hx
    have key : ∀ i, i < len → ∃ ns, KW ks ns ∧ ∀ j, j < ks.length → w.cell? (a'.add (i * ks.length + j)) = (iv ks ns)[j]? := by
      intro i hi
      obtain ⟨cs, h1, h2⟩ := hx i (by omega)
      obtain ⟨ns, rfl, hw⟩ := read_ik m e ks n _ _ hk h2
      obtain ⟨_, _, hat⟩ := World.cells?_some h1
      exact ⟨ns, hw, fun j hj => by rw [← Addr.add_add]; exact hat j hj⟩
    have hls : ∀ q, q ≤ len → ∃ ls : List (List Int), ls.length = q ∧ (∀ ns ∈ ls, KW ks ns) ∧ RowAt w a' (ls.flatMap (iv ks)) := by
      intro q
      induction q with
      | zero => intro _; exact ⟨[], rfl, by simp, by intro j u hj; simp at hj⟩
      | succ q ih =>
        intro hq
        obtain ⟨ls, h1, h2, h3⟩ := ih (by omega)
        obtain ⟨ns, h4, h5⟩ := key q (by omega)
        refine ⟨ls ++ [ns], by simp [h1], ?_, ?_⟩
        · intro x hx
          rcases List.mem_append.1 hx with hx | hx
          · exact h2 x hx
          · simp at hx; subst hx; exact h4
        · have hlen : (ls.flatMap (iv ks)).length = q * ks.length := by
            have : ∀ ls : List (List Int), (∀ ns ∈ ls, KW ks ns) → (ls.flatMap (iv ks)).length = ls.length * ks.length := by
              intro ls
              induction ls with
              | nil => simp
              | cons x ls ih =>
                intro h
                rw [List.flatMap_cons, List.length_append, ih (fun ns hn => h ns (List.mem_cons_of_mem _ hn)), iv_length ks x (h x List.mem_cons_self).len, List.length_cons, Nat.add_mul]
                omega
            rw [this ls h2, h1]
          intro j u hj
          rw [List.flatMap_append] at hj
          simp only [List.flatMap_cons, List.flatMap_nil, List.append_nil] at hj
          rcases Nat.lt_or_ge j (q * ks.length) with hjl | hjl
          · rw [List.getElem?_append_left (by omega)] at hj
            exact h3 j u hj
          · rw [List.getElem?_append_right (by omega), hlen] at hj
            have hjk : j - q * ks.length < ks.length := by
              rcases Nat.lt_or_ge (j - q * ks.length) ks.length with h | h
              · exact h
              · rw [List.getElem?_eq_none (by rw [iv_length ks ns h4.len]; exact h)] at hj; cases hj
            have := h5 _ hjk
            rw [hj, show q * ks.length + (j - q * ks.length) = j by omega] at this
            exact this
    obtain ⟨ls, h1, h2, h3⟩ := hls len (Nat.le_refl _)
    refine ⟨some a', cap, ls, by rw [h1], by omega, hcm', h2, ?_⟩
    cases ls with
    | nil => exact .inl rfl
    | cons x ls =>
      refine .inr ⟨a', rfl, ?_, h3⟩
      have hk0 : 0 < ks.length := by cases ks with | nil => exact absurd rfl hks | cons _ _ => simp
      have hxl := iv_length ks x (h2 x List.mem_cons_self).len
      have hu : ((x :: ls).flatMap (iv ks))[0]? = some ((iv ks x)[0]'(by omega)) := by
        rw [List.flatMap_cons, List.getElem?_append_left (by omega), List.getElem?_eq_getElem]
      have := h3 0 _ hu
      rw [Addr.add_zero'] at this
      unfold World.cell? at this
      cases hh : w.heap[a'.block]? with
      | none => rw [hh] at this; simp at this
      | some o => exact (Array.getElem?_eq_some_iff.1 hh).1
end
/-- a table of numbers that lies as the text lays it -/
theorem laid_ints {H : Type} {enc : TypeId × Value → H} {P : Program} {w : World} {base : Nat} {spare : Nat → Bool} {held : Bool} {t e : TypeId} {n fuel : Nat} {k : IntKind} {cs : List Value} {ds : List Int} {p : List MemPlace} (ht : P.underlying t = some (.array n e)) (he : P.underlying e = some (.int k)) (hc : P.cellsOf e = 1) (hct : P.cellsOf t = n)
    (h : DataW.trod enc P w base spare held fuel t cs = some (.agg (ds.map fun i => .lit (.int k i)), p)) : cs = ds.map (Value.int k) := by
  obtain ⟨xs, m, _, hx, hl, hxl, hel⟩ := DataW.trod_array ht h
  simp only [Prod.mk.injEq, DataW.agg.injEq] at hx
  have hdl : ds.length = xs.length := by simpa using congrArg List.length hx.1
  apply List.ext_getElem
  · simp; omega
  · intro i h1 h2
    have h3 := hel i (by omega)
    rw [hc, Nat.mul_one, List.drop_eq_getElem_cons h1] at h3
    simp only [List.take_succ_cons, List.take_zero] at h3
    rw [List.getElem?_eq_getElem (by omega)] at h3
    obtain ⟨q, e1, e2, _⟩ := DataW.trod_int he h3
    simp only [List.cons.injEq, and_true] at e1
    have h4 := congrArg (fun l => l[i]?) hx.1
    simp only [List.getElem?_map, List.getElem?_eq_getElem (show i < ds.length by omega), List.getElem?_eq_getElem (show i < xs.length by omega), Option.map_some, Option.some.injEq] at h4
    rw [e2] at h4
    simp only [DataW.lit.injEq, Lit.int.injEq, true_and] at h4
    rw [e1, List.getElem_map, h4]
/-- instructions -/
theorem insts_of : ∀ {ls : List (List Int)}, (∀ ns ∈ ls, KW xks ns) → ∃ l : List X, ls = l.map X.nums ∧ ∀ x ∈ l, KW xks x.nums
  | [], _ => ⟨[], rfl, by simp⟩
  | ns :: ls, h => by
    obtain ⟨l, e, hl⟩ := insts_of (fun x hx => h x (List.mem_cons_of_mem _ hx))
    have h1 := h ns List.mem_cons_self
    have h2 := h1.len
    match ns, h2, h1 with
    | [a, b, c, d, f], _, h1 => exact ⟨⟨a, b, c, d, f⟩ :: l, by rw [e]; rfl, by
        intro x hx
        rcases List.mem_cons.1 hx with rfl | hx
        · exact h1
        · exact hl x hx⟩
theorem insts_row {w : World} {a : Option Addr} {l : List X} (h : l.map X.nums = [] ∨ ∃ a', a = some a' ∧ a'.block < w.heap.size ∧ RowAt w a' ((l.map X.nums).flatMap (iv xks))) : l = [] ∨ ∃ a', a = some a' ∧ a'.block < w.heap.size ∧ RowAt w a' (rowOf X.val l) := by
  rcases h with h | ⟨a', h1, h2, h3⟩
  · exact .inl (by simpa using h)
  · refine .inr ⟨a', h1, h2, ?_⟩
    have e : (l.map X.nums).flatMap (iv xks) = rowOf X.val l := by
      rw [List.flatMap_map]
      rfl
    rwa [e] at h3
theorem rng_u32 (n : Nat) {ns : List Int} (h : KW (List.replicate n .u32) ns) : ∀ v ∈ ns, 0 ≤ v ∧ v < 4294967296 := by
  induction n generalizing ns with
  | zero => cases ns with
    | nil => simp
    | cons _ _ => exact h.elim
  | succ n ih => cases ns with
    | nil => simp
    | cons x ns =>
      intro v hv
      rcases List.mem_cons.1 hv with rfl | hv
      · have := bounds_u32 h.1
        omega
      · exact ih h.2 v hv
theorem iv_rep (k : IntKind) : ∀ (n : Nat) (ns : List Int), ns.length = n → iv (List.replicate n k) ns = ns.map (Value.int k)
  | 0, [], _ => rfl
  | n + 1, x :: ns, h => by
    simp only [List.length_cons, Nat.add_right_cancel_iff] at h
    simp [List.replicate_succ, iv, iv_rep k n ns h]
  | 0, _ :: _, h => by simp at h
  | n + 1, [], h => by simp at h
/-- what a run has left below -/
theorem Hp.bel {w w' : World} {L : List Ck} (H : Hp w.heap.size w w' L) : Go.RowKit.Below w.heap.size w w' := ⟨H.os, H.tape, H.out, H.le, H.old⟩
end Wh
