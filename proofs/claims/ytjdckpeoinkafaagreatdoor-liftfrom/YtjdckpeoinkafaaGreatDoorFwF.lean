/- Steps with memory at hand; loops by their slots; regions whose order is open. -/
import Derived.Test.YtjdckpeoinkafaaGreatDoorFwC
import Derived.OrdersHeld
set_option linter.all false
namespace Wh
open Go
theorem getD_repl (m j : Nat) : (Array.replicate m false).getD j false = false := by
  rcases Nat.lt_or_ge j m with h | h
  · simp [h]
  · simp [h]

section
variable {P : Program} {n : Nat} {Q : Post} {k : List Item} {f : Fr} {ds : List Deferred} {w : World}
variable {ops : Array Oper} {K : Fr → List Deferred → World → Prop} {o : Oper} {rest : List Oper}

/-! ### one step in the text's order -/
theorem LW.v {v : Value} {d : Nat} (hr : (execOp (ev n f) o).run P w = .ok (.value v) w) (h : LW P n ops K Q rest (upd f d v) ds w) (hd : o.dst = some d := by rfl) (hg : o.guard = none := by rfl) :
    LW P n ops K Q (o :: rest) f ds w := LW.val hg hr (by rw [hd]; exact h)
/-- with a new world -/
theorem LW.vw {v : Value} {d : Nat} {w' : World} (hr : (execOp (ev n f) o).run P w = .ok (.value v) w') (h : LW P n ops K Q rest (upd f d v) ds w') (hd : o.dst = some d := by rfl) (hg : o.guard = none := by rfl) :
    LW P n ops K Q (o :: rest) f ds w := LW.val hg hr (by rw [hd]; exact h)
theorem LW.s {w' : World} (hr : (execOp (ev n f) o).run P w = .ok .skip w') (h : LW P n ops K Q rest f ds w') (hd : o.dst = none := by rfl) (hg : o.guard = none := by rfl) :
    LW P n ops K Q (o :: rest) f ds w := LW.noval hg hr (by rw [hd]; exact h)
variable {B : Nat} {w0 : World} {L : List Ck}
/-- a new piece of memory, named -/
theorem LW.new {V : Nat → Value} {c : Nat → Ck} {d : Nat} (hr : ∃ g w', (execOp (ev n f) o).run P w = .ok (.value (V g)) w' ∧ Hp B w0 w' (c g :: L))
    (h : ∀ g w', Hp B w0 w' (c g :: L) → LW P n ops K Q rest (upd f d (V g)) ds w') (hd : o.dst = some d := by rfl) (hg : o.guard = none := by rfl) :
    LW P n ops K Q (o :: rest) f ds w := by
  obtain ⟨g, w', hr, hH⟩ := hr
  exact LW.vw hr (h g w' hH) hd hg
theorem LW.sto {L' : List Ck} (hr : ∃ w', (execOp (ev n f) o).run P w = .ok .skip w' ∧ Hp B w0 w' L') (h : ∀ w', Hp B w0 w' L' → LW P n ops K Q rest f ds w') (hd : o.dst = none := by rfl) (hg : o.guard = none := by rfl) :
    LW P n ops K Q (o :: rest) f ds w := by
  obtain ⟨w', hr, hH⟩ := hr
  exact LW.s hr (h w' hH) hd hg
/-- a call -/
theorem LW.c {g : FuncId} {args : Array Value} {d : Nat} (hr : (execOp (ev n f) o).run P w = .ok (.enter g args) w)
    (h : Calls P g args w fun e w'' => ∃ v, e = .returned v ∧ LW P n ops K Q rest (upd f d v) ds w'') (hd : o.dst = some d := by rfl) (hg : o.guard = none := by rfl) : LW P n ops K Q (o :: rest) f ds w :=
  LW.call hg hr (by rw [hd]; exact h)
/-- a guarded operation that is passed over -/
theorem LW.no {j : Nat} {want b : Bool} {d d' : Nat} (hg : o.guard = some (j, want) := by rfl) (hd : (ops[j]?).bind (·.dst) = some d := by rfl) (hn : Nat.blt d n = true := by rfl) (hv : f d = .bool b := by rfl)
    (hb : Bool.xor b want = true := by rfl) (hd' : o.dst = some d' := by rfl) (h : LW P n ops K Q rest (upd f d' undef) ds w) : LW P n ops K Q (o :: rest) f ds w := by
  refine LW.guard hg hd hn hv (fun e => ?_) (fun _ => by rw [hd']; exact h)
  subst e; simp at hb
theorem LW.nou {j : Nat} {want : Bool} {d d' : Nat} (hg : o.guard = some (j, want) := by rfl) (hd : (ops[j]?).bind (·.dst) = some d := by rfl) (hn : Nat.blt d n = true := by rfl) (hv : f d = undef := by rfl)
    (hd' : o.dst = some d' := by rfl) (h : LW P n ops K Q rest (upd f d' undef) ds w) : LW P n ops K Q (o :: rest) f ds w :=
  LW.unrun hg hd hn hv (by rw [hd']; exact h)
theorem LW.yes {j : Nat} {want b : Bool} {d : Nat} (hg : o.guard = some (j, want) := by rfl) (hd : (ops[j]?).bind (·.dst) = some d := by rfl) (hn : Nat.blt d n = true := by rfl) (hv : f d = .bool b := by rfl)
    (hb : Bool.xor b want = false := by rfl) (h : LW P n ops K Q ({ o with guard := none } :: rest) f ds w) : LW P n ops K Q (o :: rest) f ds w := by
  refine LW.guard hg hd hn hv (fun _ => h) (fun e => ?_)
  cases b <;> cases want <;> simp at hb e
/-- a truth value under a name -/
theorem LW.gen {d : Nat} {b : Bool} (h : ∀ b', b' = b → LW P n ops K Q rest (upd f d (.bool b')) ds w) : LW P n ops K Q rest (upd f d (.bool b)) ds w := h b rfl
theorem TW.gen {d : Nat} {b : Bool} (h : ∀ b', b' = b → TW P n Q k (upd f d (.bool b')) ds w) : TW P n Q k (upd f d (.bool b)) ds w := h b rfl
theorem TW.c {c : Operand} {x y : Code} {t : Bool} (hc : ev n f c = .bool t := by rfl) (ht : t = true → TW P n Q (.code x :: k) f ds w) (hf : t = false → TW P n Q (.code y :: k) f ds w) : TW P n Q (.code (.cond c x y) :: k) f ds w :=
  TW.cond hc ht hf

/-! ### loops by their slots -/
def upds (f : Fr) : List (Nat × Value) → Fr
  | [] => f
  | (d, v) :: l => upd (upds f l) d v
def Has (f : Fr) : List (Nat × Value) → Prop
  | [] => True
  | (d, v) :: l => f d = v ∧ Has f l
theorem upds_of_has {f : Fr} : ∀ {l : List (Nat × Value)}, Has f l → upds f l = f
  | [], _ => rfl
  | (d, v) :: l, h => by
    have h1 : upds f l = f := upds_of_has h.2
    simp only [upds, h1]
    funext i
    by_cases e : i = d
    · subst e; rw [upd_eq]; exact h.1.symm
    · exact upd_ne e
/-- S: what holds at each round's head (of the loop's own unknowns s, and of the world); fr: the slots then; μ falls -/
theorem TW.lp {σ : Type} {c : Code} (S : σ → World → Prop) (fr : σ → List (Nat × Value)) (μ : σ → Nat) (s₀ : σ) (h₀ : S s₀ w) (hf₀ : Has f (fr s₀))
    (round : ∀ s f w, S s w → (∀ s' f' w', S s' w' → Has f' (fr s') → μ s' < μ s → TW P n Q (.inLoop c :: k) f' ds w') → TW P n Q (.code c :: .inLoop c :: k) (upds f (fr s)) ds w) :
    TW P n Q (.code (.loop c) :: k) f ds w := by
  refine TW.step (fun _ _ _ => step_loop) ?_
  have key : ∀ m s f w, μ s = m → S s w → Has f (fr s) → TW P n Q (.code c :: .inLoop c :: k) f ds w := by
    intro m
    induction m using Nat.strongRecOn with
    | _ m ih =>
      intro s f w hm hS hf
      have := round s f w hS fun s' f' w' hS' hf' hlt => TW.step (fun _ _ _ => step_inLoop) (ih _ (hm ▸ hlt) s' f' w' rfl hS' hf')
      rwa [upds_of_has hf] at this
  exact key _ s₀ f w rfl h₀ hf₀

/-- cases that meet again: what is known of the slots and of memory then -/
theorem TW.join1 {L : List Ck} {B : Nat} {w0 : World} {c : Code} (H : Hp B w0 w L) (l : List (Nat × Value)) (h1 : (∀ f' w', Hp B w0 w' L → Has f' l → TW P n Q k f' ds w') → TW P n Q (.code c :: k) f ds w)
    (h2 : ∀ f w', Hp B w0 w' L → TW P n Q k (upds f l) ds w') : TW P n Q (.code c :: k) f ds w := h1 fun f' w' H' hf => upds_of_has hf ▸ h2 f' w' H'
theorem TW.join2 {L : List Ck} {B : Nat} {w0 : World} {c d : Code} (H : Hp B w0 w L) (l : List (Nat × Value)) (h1 : (∀ f' w', Hp B w0 w' L → Has f' l → TW P n Q k f' ds w') → TW P n Q (.code c :: .code d :: k) f ds w)
    (h2 : ∀ f w', Hp B w0 w' L → TW P n Q k (upds f l) ds w') : TW P n Q (.code c :: .code d :: k) f ds w := h1 fun f' w' H' hf => upds_of_has hf ▸ h2 f' w' H'
/-! ### a region whose order is open -/
def waitsB (ops : Array Oper) (j i : Nat) : Bool := match ops[j]? with | some oj => oj.after.any fun e => Region.binds .any e && e.on == i | none => false
/-- does e wait for i, through others perhaps? -/
def reachB (ops : Array Oper) : Nat → Nat → Nat → Bool
  | 0, _, _ => false
  | m + 1, i, e => waitsB ops e i || (List.range ops.size).any fun k => waitsB ops k i && reachB ops m k e
def lit (listed : Array Bool) (i : Nat) : Bool := listed.getD i false

structure Inv (ops : Array Oper) (loud : List Nat) (listed : Array Bool) (m : Nat) : Prop where
  size : listed.size = ops.size
  closed : ∀ j oj, ops[j]? = some oj → lit listed j = true → ∀ e ∈ oj.after, Region.binds .any e = true → lit listed e.on = true
  cnt : ∀ k e, loud[k]? = some e → (lit listed e = true ↔ k < m)

theorem waitsB_spec {ops : Array Oper} {j i : Nat} (h : waitsB ops j i = true) : ∃ oj, ops[j]? = some oj ∧ ∃ e ∈ oj.after, Region.binds .any e = true ∧ e.on = i := by
  unfold waitsB at h
  split at h
  · rename_i oj hj
    obtain ⟨e, he, hb⟩ := Array.any_eq_true'.1 h
    simp only [Bool.and_eq_true, beq_iff_eq] at hb
    exact ⟨oj, hj, e, he, hb.1, hb.2⟩
  · cases h

theorem lit_of_unready {listed : Array Bool} {i : Nat} (h : listed.getD i true = false) : lit listed i = false := by
  unfold lit
  rcases Nat.lt_or_ge i listed.size with h' | h'
  · simp [h'] at h ⊢; exact h
  · simp [Array.getElem?_eq_none h'] at h

theorem reach_un {ops : Array Oper} {loud : List Nat} {listed : Array Bool} {m : Nat} (inv : Inv ops loud listed m) : ∀ (q i e : Nat), reachB ops q i e = true → lit listed i = false → lit listed e = false ∧ e ∉ Region.ready .any ops listed
  | 0, _, _, h, _ => by simp [reachB] at h
  | q + 1, i, e, h, hi => by
    have direct : ∀ k, waitsB ops k i = true → lit listed k = false ∧ k ∉ Region.ready .any ops listed := by
      intro k hk
      obtain ⟨ok, hok, ed, hed, hb, hon⟩ := waitsB_spec hk
      constructor
      · cases hl : lit listed k with
        | false => rfl
        | true =>
          have := inv.closed k ok hok hl ed hed hb
          rw [hon, hi] at this
          cases this
      · intro hr
        obtain ⟨_, o, ho, hall⟩ := mem_ready.1 hr
        have e1 : ok = o := Option.some.inj (hok.symm.trans ho)
        subst e1
        have := hall ed hed hb
        rw [hon] at this
        unfold lit at hi
        rw [hi] at this
        cases this
    simp only [reachB, Bool.or_eq_true, List.any_eq_true, Bool.and_eq_true] at h
    rcases h with h | ⟨k, _, hk, hr⟩
    · exact direct e h
    · exact reach_un inv q k e hr (direct k hk).1

/-- the loud ones wait for each other, in this order, and are told apart -/
def loudOk (ops : Array Oper) (loud : List Nat) : Bool :=
  (List.range loud.length).all fun k => match loud[k]? with
    | some e => Nat.blt e ops.size && (List.range loud.length).all fun q => match loud[q]? with
      | some d => Nat.ble k q || (reachB ops ops.size d e && !(d == e))
      | none => true
    | none => true

theorem loud_next {ops : Array Oper} {loud : List Nat} (hok : loudOk ops loud = true) {listed : Array Bool} {m : Nat} (inv : Inv ops loud listed m) {k e : Nat} (he : loud[k]? = some e) (hr : e ∈ Region.ready .any ops listed) : k = m := by
  have hun := lit_of_unready (mem_ready.1 hr).1
  have h1 : ¬ k < m := fun h => by rw [(inv.cnt k e he).2 h] at hun; cases hun
  rcases Nat.lt_or_ge m k with h2 | h2
  · exfalso
    have hk : k < loud.length := (List.getElem?_eq_some_iff.1 he).1
    have hm : m < loud.length := by omega
    have hd : loud[m]? = some loud[m] := List.getElem?_eq_getElem hm
    have hl := List.all_eq_true.1 hok k (List.mem_range.2 hk)
    rw [he] at hl
    simp only [Bool.and_eq_true] at hl
    have := List.all_eq_true.1 hl.2 m (List.mem_range.2 hm)
    rw [hd] at this
    simp only [Bool.or_eq_true, Bool.and_eq_true] at this
    rcases this with h3 | h3
    · have := Nat.le_of_ble_eq_true h3; omega
    · have hdm : lit listed loud[m] = false := by
        cases hq : lit listed loud[m] with
        | false => rfl
        | true => have := (inv.cnt m _ hd).1 hq; omega
      exact (reach_un inv _ _ _ h3.1 hdm).2 hr
  · omega

theorem Inv.set {ops : Array Oper} {loud : List Nat} (hok : loudOk ops loud = true) {listed : Array Bool} {m : Nat} (inv : Inv ops loud listed m) {j : Nat} (hr : j ∈ Region.ready .any ops listed) :
    Inv ops loud (listed.setIfInBounds j true) (m + if loud.contains j then 1 else 0) := by
  obtain ⟨hun, oj, hoj, hall⟩ := mem_ready.1 hr
  have hjs : j < ops.size := (Array.getElem?_eq_some_iff.1 hoj).1
  refine ⟨by simp [inv.size], fun i oi hoi hl e he hb => ?_, fun k e he => ?_⟩
  · by_cases hij : j = i
    · subst hij
      have e1 : oj = oi := Option.some.inj (hoj.symm.trans hoi)
      subst e1
      exact getD_set_true (hall e he hb)
    · unfold lit at hl
      rw [getD_set_ne false hij] at hl
      exact getD_set_true (inv.closed i oi hoi hl e he hb)
  · by_cases hje : j = e
    · subst hje
      have hkm : k = m := loud_next hok inv he hr
      have hc : loud.contains j = true := by
        rw [List.contains_iff_mem]
        exact List.mem_of_getElem? he
      rw [hc]
      have : lit (listed.setIfInBounds j true) j = true := by
        unfold lit
        have : j < listed.size := by rw [inv.size]; exact hjs
        simp [this]
      simp [this, hkm]
    · have h1 : lit (listed.setIfInBounds j true) e = lit listed e := getD_set_ne false hje
      rw [h1, inv.cnt k e he]
      by_cases hc : loud.contains j = true
      · rw [hc]
        have hmem : j ∈ loud := List.contains_iff_mem.1 hc
        obtain ⟨q, hq, hqe⟩ := List.getElem_of_mem hmem
        have hqm : q = m := loud_next hok inv (by rw [List.getElem?_eq_getElem hq, hqe]) hr
        have hkq : k ≠ m := by
          intro h
          subst h
          subst hqm
          rw [List.getElem?_eq_getElem hq, hqe] at he
          exact hje (Option.some.inj he)
        simp
        omega
      · rw [Bool.not_eq_true] at hc
        rw [hc]
        simp

def wpAnyM (P : Program) (ops : Array Oper) (Q : Exit → Act → World → Prop) (loud : List Nat) (S : Nat → World → Prop) : Nat → Nat → Array Bool → Act → World → Prop
  | 0, _, listed, a, w => Region.ready .any ops listed = [] ∧ Q .normal a w
  | fuel + 1, m, listed, a, w =>
    (Region.ready .any ops listed = [] → Q .normal a w) ∧
    ∀ i ∈ Region.ready .any ops listed, wpOp P ops Q i (fun a' w' => S (m + if loud.contains i then 1 else 0) w' ∧ wpAnyM P ops Q loud S fuel (m + if loud.contains i then 1 else 0) (listed.setIfInBounds i true) a' w') a w

theorem wpAny_of_M {P : Program} {ops : Array Oper} {Q : Exit → Act → World → Prop} {loud : List Nat} {S : Nat → World → Prop} : ∀ (fuel m : Nat) (listed : Array Bool) (a : Act) (w : World), wpAnyM P ops Q loud S fuel m listed a w → wpAny P .any ops Q fuel listed a w
  | 0, _, _, _, _, h => h
  | fuel + 1, _, _, _, _, h => ⟨h.1, fun i hi => wpOp_mono (fun a' w' h' => wpAny_of_M fuel _ _ a' w' h'.2) (h.2 i hi)⟩

/-- an operation that may come now may be taken first: it yields its value in all worlds in which it can come -/
theorem wpAnyM_first {P : Program} {ops : Array Oper} {Q : Exit → Act → World → Prop} {loud : List Nat} {S : Nat → World → Prop} {i bnd : Nat} {oi : Oper} {v : Value} {S' : World → Prop} (hok : loudOk ops loud = true) (hi : ops[i]? = some oi)
    (hsel : ∀ (j : Nat) (o : Oper) cs b, ops[j]? = some o → o.op ≠ .select cs b) (hQ : ∀ c a w, Q (.panic c) (a.put oi.dst v) w → Q (.panic c) a w) (hil : loud.contains i = false)
    (hbnd : ∀ e, loud[bnd]? = some e → reachB ops ops.size i e = true) :
    ∀ (fuel m : Nat) (listed : Array Bool) (a : Act) (w : World), Inv ops loud listed m → m ≤ bnd → (∀ m' w, m ≤ m' → m' ≤ bnd → S m' w → S' w) →
      (∀ j oj, ops[j]? = some oj → j ≠ i → listed.getD j true = false → (∀ e ∈ oj.after, Region.binds .any e = true → e.on ≠ i) → oi.apart ops oj = true) →
      i ∈ Region.ready .any ops listed → YieldsIf P ops S' oi v a → S m w →
      wpAnyM P ops Q loud S fuel m (listed.setIfInBounds i true) (a.put oi.dst v) w → wpAnyM P ops Q loud S (fuel + 1) m listed a w := by
  intro fuel
  have hc0 : (if loud.contains i = true then 1 else 0) = 0 := by rw [hil]; rfl
  induction fuel with
  | zero =>
    intro m listed a w inv hm hSS _ hr hy hS H
    refine ⟨fun h => (by rw [h] at hr; cases hr), fun j hj => ?_⟩
    by_cases hji : j = i
    · subst hji
      refine hy.wpOp hi (hSS m w (Nat.le_refl _) hm hS) ?_
      simp only [hc0, Nat.add_zero]
      exact ⟨hS, H⟩
    · have := ready_mono hj hji
      rw [H.1] at this
      cases this
  | succ fuel ih =>
    intro m listed a w inv hm hSS hfree hr hy hS H
    refine ⟨fun h => (by rw [h] at hr; cases hr), fun j hj => ?_⟩
    by_cases hji : j = i
    · subst hji
      refine hy.wpOp hi (hSS m w (Nat.le_refl _) hm hS) ?_
      simp only [hc0, Nat.add_zero]
      exact ⟨hS, H⟩
    · have h1 := H.2 j (ready_mono hj hji)
      obtain ⟨hjun, oj, hoj, hall⟩ := mem_ready.1 hj
      have hiun := lit_of_unready (mem_ready.1 hr).1
      have hnot : ∀ e ∈ oj.after, Region.binds .any e = true → e.on ≠ i := fun e he hb heq => by
        have h1 := hall e he hb
        rw [heq] at h1
        unfold lit at hiun
        rw [hiun] at h1
        cases h1
      have h2 := wpOp_putIf hoj (hfree j oj hoj hji hjun hnot) (fun cs b => hsel i oi cs b hi) (fun cs b => hsel j oj cs b hoj) hQ hy h1
      have hfree' : ∀ k ok, ops[k]? = some ok → k ≠ i → (listed.setIfInBounds j true).getD k true = false →
          (∀ e ∈ ok.after, Region.binds .any e = true → e.on ≠ i) → oi.apart ops ok = true := fun k ok hk hki hun hno => by
        refine hfree k ok hk hki ?_ hno
        by_cases hjk : j = k
        · subst hjk; exact hjun
        · rw [getD_set_ne true hjk] at hun; exact hun
      have hm' : m + (if loud.contains j = true then 1 else 0) ≤ bnd := by
        by_cases hc : loud.contains j = true
        · rw [if_pos hc]
          have hmem : j ∈ loud := List.contains_iff_mem.1 hc
          obtain ⟨q, hq, hqe⟩ := List.getElem_of_mem hmem
          have hqe' : loud[q]? = some j := by rw [List.getElem?_eq_getElem hq, hqe]
          have hqm : q = m := loud_next hok inv hqe' hj
          rcases Nat.lt_or_ge m bnd with h | h
          · omega
          · exfalso
            have : m = bnd := by omega
            have hre := hbnd j (by rw [← this, ← hqm]; exact hqe')
            exact (reach_un inv _ _ _ hre hiun).2 hj
        · rw [if_neg hc]; omega
      refine wpOp_mono (fun a' w' h3 => ⟨h3.2.1, ih _ (listed.setIfInBounds j true) a' w' (inv.set hok hj) hm' (fun m2 w2 h4 h5 h6 => hSS m2 w2 (by omega) h5 h6) hfree' (ready_mono hr (Ne.symm hji)) h3.1 h3.2.1 ?_⟩) h2
      rw [Array.setIfInBounds_comm _ _ hji]
      exact h3.2.2

/-- the run of an operation if it is asked for, in every world of a kind, by the name of its value; or it is passed over -/
def Quiet (P : Program) (n : Nat) (ops : Array Oper) (S : World → Prop) (o : Oper) (f : Fr) (v : Value) : Prop :=
  (o.guard = none ∧ ∀ w, S w → (execOp (ev n f) o).run P w = .ok (.value v) w) ∨
  (∃ j want b d, o.guard = some (j, want) ∧ (ops[j]?).bind (·.dst) = some d ∧ d < n ∧ f d = .bool b ∧
    ((b = want ∧ ∀ w, S w → (execOp (ev n f) o).run P w = .ok (.value v) w) ∨ (b ≠ want ∧ v = undef)))

/-- a step of an order: the operation; quiet: up to how many loud ones may have come before it; loud: none -/
abbrev Stp := Nat × Option Nat
/-- is an order one that serves for all orders? -/
def schedOk (ops : Array Oper) (loud : List Nat) (m : Nat) (listed : Array Bool) : List Stp → Bool
  | [] => Region.ready .any ops listed == []
  | (i, some b) :: l => (Region.ready .any ops listed).contains i && Region.free .any ops listed i && !loud.contains i && Nat.ble m b && (match loud[b]? with | some e => reachB ops ops.size i e | none => true) && schedOk ops loud m (listed.setIfInBounds i true) l
  | (i, none) :: l => Region.ready .any ops listed == [i] && loud.contains i && schedOk ops loud (m + 1) (listed.setIfInBounds i true) l

structure Ctx (ops : Array Oper) (loud : List Nat) (Q : Post) : Prop where
  ok : loudOk ops loud = true
  sel : Region.noSelect ops = true
  q : ∀ ch f f' ds w, Q (.panic ch) f ds w → Q (.panic ch) f' ds w

def DW (P : Program) (n : Nat) (ops : Array Oper) (K : Fr → List Deferred → World → Prop) (Q : Post) (loud : List Nat) (S : Nat → World → Prop) (m : Nat) (sched : List Stp) (f : Fr) (ds : List Deferred) (w : World) : Prop :=
  Ctx ops loud Q → ∀ fuel listed, Inv ops loud listed m → schedOk ops loud m listed sched = true → sched.length ≤ fuel → S m w →
    ∀ a, Rep a n f ds → wpAnyM P ops (postOf K Q n) loud S fuel m listed a w

variable {S : Nat → World → Prop} {sched : List Stp} {loud : List Nat} {m : Nat}

theorem DW.nil (h : S m w → K f ds w) : DW P n ops K Q loud S m [] f ds w := by
  intro _ fuel listed _ hok hfuel hS a ha
  simp only [schedOk, beq_iff_eq] at hok
  have hn : postOf K Q n .normal a w := ⟨f, ds, ha, h hS⟩
  cases fuel with
  | zero => exact ⟨hok, hn⟩
  | succ fuel => exact ⟨fun _ => hn, by rw [hok]; simp⟩

theorem rep_any (a : Act) (n : Nat) (h : a.tmps.size = n) : ∃ f, Rep a n f a.defers :=
  ⟨fun i => a.tmps.getD i undef, h, fun i hi => by simp [Array.getD, hi, h], rfl⟩

theorem DW.q {i b : Nat} {v : Value} {S' : World → Prop} (hi : ops[i]? = some o) (hSS : ∀ m' w, m ≤ m' → m' ≤ b → S m' w → S' w) (hy : Quiet P n ops S' o f v) (h : DW P n ops K Q loud S m sched (updO f o.dst v) ds w) : DW P n ops K Q loud S m ((i, some b) :: sched) f ds w := by
  intro C fuel listed inv hok hfuel hS a ha
  simp only [schedOk, Bool.and_eq_true, Bool.not_eq_true'] at hok
  obtain ⟨⟨⟨⟨⟨hr, hfree⟩, hil⟩, hmb⟩, hbnd⟩, hrest⟩ := hok
  obtain ⟨fuel, rfl⟩ : ∃ m, fuel = m + 1 := ⟨fuel - 1, by simp at hfuel; omega⟩
  have hri : i ∈ Region.ready .any ops listed := by simpa using hr
  have inv' : Inv ops loud (listed.setIfInBounds i true) m := by
    have := inv.set C.ok hri
    rwa [hil] at this
  refine wpAnyM_first C.ok hi (Region.noSelect_spec C.sel) ?_ hil (fun e he => by rw [he] at hbnd; exact hbnd) fuel m listed a w inv (Nat.le_of_ble_eq_true hmb) hSS (Region.free_spec hi hfree) hri ?_ hS
    (h C fuel _ inv' hrest (by simp at hfuel; omega) hS _ (ha.put o.dst v))
  · rintro c a' w' ⟨f', ds', hr, hq⟩
    have hsz : a'.tmps.size = n := by
      have := hr.size
      cases hd : o.dst <;> simpa [hd, Act.put] using this
    obtain ⟨g, hg⟩ := rep_any a' n hsz
    have hde : a'.defers = ds' := by
      have := hr.defers
      cases hd : o.dst <;> simpa [hd, Act.put] using this
    exact ⟨g, ds', hde ▸ hg, C.q _ _ _ _ _ hq⟩
  · rcases hy with ⟨hg, hv⟩ | ⟨j, want, b, d, hg, hd, hn, hfd, hv⟩
    · exact .inl ⟨by simp [Region.wanted, hg], fun w' hw' => by rw [ha.eval]; exact hv w' hw'⟩
    · have hyd : yielded ops a.tmps j = some b := by
        unfold yielded
        rw [hd]
        simp only [Option.bind_some]
        rw [ha.cell d hn, hfd]
      rcases hv with ⟨e, hv⟩ | ⟨e, hv⟩
      · exact .inl ⟨by simp [Region.wanted, hg, hyd, e], fun w' hw' => by rw [ha.eval]; exact hv w' hw'⟩
      · exact .inr ⟨by simp [Region.wanted, hg, hyd, e], hv⟩

/-- a loud operation, by the laws for one in the text's order -/
theorem DW.l {i : Nat} (hi : ops[i]? = some o) (h : LW P n ops (fun f ds w => S (m + 1) w ∧ DW P n ops K Q loud S (m + 1) sched f ds w) Q [o] f ds w) : DW P n ops K Q loud S m ((i, none) :: sched) f ds w := by
  intro C fuel listed inv hok hfuel hS a ha
  simp only [schedOk, Bool.and_eq_true, beq_iff_eq] at hok
  obtain ⟨fuel, rfl⟩ : ∃ m, fuel = m + 1 := ⟨fuel - 1, by simp at hfuel; omega⟩
  refine ⟨fun h0 => by rw [hok.1.1] at h0; simp at h0, fun j hj => ?_⟩
  have hri := hj
  rw [hok.1.1] at hj
  obtain rfl : j = i := by simpa using hj
  have hci : (if loud.contains j = true then 1 else 0) = 1 := by rw [if_pos hok.1.2]
  have inv' : Inv ops loud (listed.setIfInBounds j true) (m + 1) := by
    have := inv.set C.ok hri
    rwa [hci] at this
  rw [hci]
  have h1 := h a ha
  unfold wpOp
  rw [hi]
  simp only
  have go : ∀ (K' : Act → World → Prop), (∀ a w, postOf (fun f ds w => S (m + 1) w ∧ DW P n ops K Q loud S (m + 1) sched f ds w) Q n .normal a w → K' a w) → ∀ a w,
      wpList P ops (postOf (fun f ds w => S (m + 1) w ∧ DW P n ops K Q loud S (m + 1) sched f ds w) Q n) [o] a w →
      if Region.wanted o (yielded ops a.tmps) = true then o.wp P a w K' (postOf K Q n) ∨ (o.asks P a w ∧ LetsOut (postOf K Q n)) else K' (a.put o.dst undef) w := by
    intro K' hK a w h
    unfold wpList at h
    split
    · rename_i hw
      rw [if_pos hw] at h
      rcases h with h | ⟨h, a0, w0, hq⟩
      · refine .inl ?_
        unfold Oper.wp at *
        generalize (execOp a.eval o).run P w = r at *
        cases r with
        | ok x w' =>
          cases x <;> simp only [Oper.upon] at h ⊢ <;> first
            | exact hK _ _ h
            | exact h.elim
            | (refine Calls.mono h fun e w'' he => ?_
               cases e with
               | returned u => exact hK _ _ he
               | panicked c => exact he
               | outgrown => obtain ⟨a0, w0, hq⟩ := he; exact ⟨a0, w0, hq⟩)
            | exact Rows.mono h fun u w'' he => hK _ _ he
        | halt x w' =>
          cases x <;> simp only [Oper.upon] at h ⊢ <;> first | exact h | exact h.elim
      · exact .inr ⟨h, a0, w0, hq⟩
    · rename_i hw
      rw [if_neg hw] at h
      exact hK _ _ h
  refine go _ ?_ a w h1
  rintro a' w' ⟨f', ds', hr, hS', hD⟩
  exact ⟨hS', hD C fuel _ inv' hok.2 (by simp at hfuel; omega) hS' a' hr⟩

theorem TW.draw {id : Nat} {l : List Oper} (sched : List Stp) (loud : List Nat) (hm : P.follows .mixedOrders = true)
    (hok : (schedOk l.toArray loud 0 (Array.replicate l.length false) sched && Region.noSelect l.toArray && Nat.ble sched.length l.length && loudOk l.toArray loud) = true)
    (hQ : ∀ ch f f' ds w, Q (.panic ch) f ds w → Q (.panic ch) f' ds w) (H : Hp B w0 w L) (S : Nat → World → Prop) (hS : ∀ w', Hp B w0 w' L → S 0 w')
    (h : ∀ w', Hp B w0 w' L → DW P n l.toArray (fun f ds w => TW P n Q k f ds w) Q loud S 0 sched f ds w') : TW P n Q (.code (.region id l.toArray true) :: k) f ds w := by
  have H' : Hp B w0 { w with drawn := w.drawn + 1 } L := H.keep (chg_drew w)
  simp only [Bool.and_eq_true] at hok
  refine TW.of_wp fun a ha => wp_region_any hm (wpAny_of_M (loud := loud) (S := S) _ 0 _ _ _ ?_)
  have inv0 : Inv l.toArray loud (Array.replicate l.toArray.size false) 0 := by
    refine ⟨by simp, fun j oj _ hl => ?_, fun k e _ => ?_⟩
    · unfold lit at hl
      rw [getD_repl] at hl
      cases hl
    · unfold lit
      rw [getD_repl]
      simp
  exact h _ H' ⟨hok.2, hok.1.1.2, hQ⟩ l.toArray.size (Array.replicate l.toArray.size false) inv0 (by simpa using hok.1.1.1) (by have := Nat.le_of_ble_eq_true hok.1.2; simpa using this) (hS _ H') a ha

/-- quiet, unguarded -/
theorem Quiet.y {S' : World → Prop} {v : Value} (h : ∀ w, S' w → (execOp (ev n f) o).run P w = .ok (.value v) w) (hg : o.guard = none := by rfl) : Quiet P n ops S' o f v := .inl ⟨hg, h⟩
theorem Quiet.gy {S' : World → Prop} {j : Nat} {want b : Bool} {d : Nat} {v : Value} (hg : o.guard = some (j, want)) (hd : (ops[j]?).bind (·.dst) = some d) (hn : Nat.blt d n = true) (hv : f d = .bool b)
    (hb : Bool.xor b want = false) (h : ∀ w, S' w → (execOp (ev n f) o).run P w = .ok (.value v) w) : Quiet P n ops S' o f v :=
  .inr ⟨j, want, b, d, hg, hd, blt_iff.1 hn, hv, .inl ⟨by cases b <;> cases want <;> simp at hb ⊢, h⟩⟩
theorem Quiet.gn {S' : World → Prop} {j : Nat} {want b : Bool} {d : Nat} (hg : o.guard = some (j, want)) (hd : (ops[j]?).bind (·.dst) = some d) (hn : Nat.blt d n = true) (hv : f d = .bool b)
    (hb : Bool.xor b want = true) : Quiet P n ops S' o f undef :=
  .inr ⟨j, want, b, d, hg, hd, blt_iff.1 hn, hv, .inr ⟨by cases b <;> cases want <;> simp at hb ⊢, rfl⟩⟩
/-- one quiet step that needs no memory -/
theorem DW.v {i b d : Nat} {v : Value} (hi : ops[i]? = some o) (hy : Quiet P n ops (fun _ => True) o f v) (h : DW P n ops K Q loud S m sched (upd f d v) ds w) (hd : o.dst = some d := by rfl) : DW P n ops K Q loud S m ((i, some b) :: sched) f ds w :=
  DW.q hi (fun _ _ _ _ _ => trivial) hy (by rw [hd]; exact h)
/-- one quiet step that needs what is known of memory now, and that comes before the next loud one -/
theorem DW.hm {i d : Nat} {v : Value} (hi : ops[i]? = some o) (hy : Quiet P n ops (S m) o f v) (h : DW P n ops K Q loud S m sched (upd f d v) ds w) (hd : o.dst = some d := by rfl) : DW P n ops K Q loud S m ((i, some m) :: sched) f ds w :=
  DW.q hi (fun m' _ h1 h2 h3 => by have : m' = m := Nat.le_antisymm h2 h1; rw [← this]; exact h3) hy (by rw [hd]; exact h)
/-- one that needs what is known of memory from now on -/
theorem DW.mb {i b d : Nat} {v : Value} {S' : World → Prop} (hi : ops[i]? = some o) (hSS : ∀ m' w, m ≤ m' → m' ≤ b → S m' w → S' w) (hy : Quiet P n ops S' o f v) (h : DW P n ops K Q loud S m sched (upd f d v) ds w) (hd : o.dst = some d := by rfl) : DW P n ops K Q loud S m ((i, some b) :: sched) f ds w :=
  DW.q hi hSS hy (by rw [hd]; exact h)
theorem DW.gen {d : Nat} {b : Bool} (h : ∀ b', b' = b → DW P n ops K Q loud S m sched (upd f d (.bool b')) ds w) : DW P n ops K Q loud S m sched (upd f d (.bool b)) ds w := h b rfl
end
end Wh
namespace Wh
open Go
section
variable {P : Program} {n : Nat} {f : Fr} {w : World} {fn : Func} {R : Ending → World → Prop} {e : Exit}

/-- one of a function's results -/
def ResV (P : Program) (n : Nat) (f : Fr) (w : World) : ResultVar → Value → Prop
  | .tmp t, v => Nat.blt t n = true ∧ f t = v
  | .cell t ty, v => Nat.blt t n = true ∧ ∃ a, f t = .pointer (some a) ∧ (loadVar ty a).run P w = .ok v w

def resOne (tmps : Array Value) : ResultVar → Sem Value
  | .tmp t => pure (tmps.getD t undef)
  | .cell a t => do loadVar t (← asAddr (tmps.getD a undef))

theorem results_eq (fn : Func) (tmps : Array Value) : results fn tmps = (do
    let vs ← fn.results.mapM (resOne tmps)
    pure (if h : vs.size = 1 then vs[0] else .tuple vs)) := by
  unfold results
  congr 1

theorem Rep.getD {a : Act} {ds : List Deferred} (h : Rep a n f ds) {t : Nat} (ht : Nat.blt t n = true) : a.tmps.getD t undef = f t := by
  rw [Array.getD_eq_getD_getElem?, h.cell t (blt_iff.1 ht)]; rfl

theorem run_resOne {a : Act} {ds : List Deferred} (h : Rep a n f ds) {r : ResultVar} {v : Value} (hr : ResV P n f w r v) : (resOne a.tmps r).run P w = .ok v w := by
  cases r with
  | tmp t => simp [resOne, h.getD hr.1, hr.2]
  | cell t ty =>
    obtain ⟨ht, ad, hf, hl⟩ := hr
    simp [resOne, h.getD ht, hf, asAddr, hl]

theorem run_mapM_res {a : Act} {ds : List Deferred} (h : Rep a n f ds) : ∀ (rs : List ResultVar) (vs : List Value), rs.length = vs.length → (∀ (i : Nat) (r : ResultVar) (v : Value), rs[i]? = some r → vs[i]? = some v → ResV P n f w r v) →
    (rs.mapM (resOne a.tmps)).run P w = .ok vs w
  | [], [], _, _ => by simp
  | [], _ :: _, hl, _ => by simp at hl
  | _ :: _, [], hl, _ => by simp at hl
  | r :: rs, v :: vs, hl, hh => by
    have h0 := run_resOne h (hh 0 r v rfl rfl)
    have ih := run_mapM_res h rs vs (by simpa using hl) (fun i r' v' h1 h2 => hh (i + 1) r' v' h1 h2)
    rw [List.mapM_cons]
    simp [h0, ih]

theorem run_results {a : Act} {ds : List Deferred} (h : Rep a n f ds) {rs : List ResultVar} {vs : List Value} (hrs : fn.results = rs.toArray) (hl : rs.length = vs.length)
    (hh : ∀ (i : Nat) (r : ResultVar) (v : Value), rs[i]? = some r → vs[i]? = some v → ResV P n f w r v) : (results fn a.tmps).run P w = .ok (match vs with | [v] => v | vs => .tuple vs.toArray) w := by
  have hm := run_mapM_res (P := P) (w := w) h rs vs hl hh
  rw [results_eq, hrs]
  have e : (rs.toArray.mapM (resOne a.tmps)) = (do let l ← rs.mapM (resOne a.tmps); pure l.toArray) := by
    rw [List.mapM_toArray]
    rfl
  rw [e]
  simp only [bind_assoc, pure_bind, Sem.run_bind, hm, Result.andThen_ok, Sem.run_pure]
  match vs with
  | [] => rfl
  | [v] => rfl
  | v :: v' :: vs => simp

theorem ret_ok (he : e = .ret ∨ e = .normal) {rs : List ResultVar} {vs : List Value} (hrs : fn.results = rs.toArray) (hl : rs.length = vs.length)
    (hh : ∀ (i : Nat) (r : ResultVar) (v : Value), rs[i]? = some r → vs[i]? = some v → ResV P n f w r v) (hR : R (.returned (match vs with | [v] => v | vs => .tuple vs.toArray)) w) : Ret P fn n R e f [] w := by
  have key : ∃ v, (∀ a, Rep a n f [] → (results fn a.tmps).run P w = .ok v w) ∧ R (.returned v) w := ⟨_, fun a ha => run_results ha hrs hl hh, hR⟩
  rcases he with rfl | rfl
  · exact ⟨rfl, key⟩
  · exact ⟨rfl, key⟩

theorem ret0 (hrs : fn.results = #[] := by rfl) (hR : R (.returned (.tuple #[])) w) : Ret P fn n R .normal f [] w :=
  ret_ok (rs := []) (vs := []) (.inr rfl) hrs rfl (by simp) hR
theorem ret0r (hrs : fn.results = #[] := by rfl) (hR : R (.returned (.tuple #[])) w) : Ret P fn n R .ret f [] w :=
  ret_ok (rs := []) (vs := []) (.inl rfl) hrs rfl (by simp) hR
theorem ret1 {r : ResultVar} {v : Value} (hrs : fn.results = #[r]) (h1 : ResV P n f w r v) (hR : R (.returned v) w) : Ret P fn n R .ret f [] w :=
  ret_ok (rs := [r]) (vs := [v]) (.inl rfl) hrs rfl (fun i r' v' h h' => by
    match i with
    | 0 => simp at h h'; subst h h'; exact h1
    | i + 1 => simp at h) hR
theorem ret2 {r s : ResultVar} {v u : Value} (hrs : fn.results = #[r, s]) (h1 : ResV P n f w r v) (h2 : ResV P n f w s u) (hR : R (.returned (.tuple #[v, u])) w) : Ret P fn n R .ret f [] w :=
  ret_ok (rs := [r, s]) (vs := [v, u]) (.inl rfl) hrs rfl (fun i r' v' h h' => by
    match i with
    | 0 => simp at h h'; subst h h'; exact h1
    | 1 => simp at h h'; subst h h'; exact h2
    | i + 2 => simp at h) hR
theorem ret3 {r s t : ResultVar} {v u x : Value} (hrs : fn.results = #[r, s, t]) (h1 : ResV P n f w r v) (h2 : ResV P n f w s u) (h3 : ResV P n f w t x) (hR : R (.returned (.tuple #[v, u, x])) w) : Ret P fn n R .ret f [] w :=
  ret_ok (rs := [r, s, t]) (vs := [v, u, x]) (.inl rfl) hrs rfl (fun i r' v' h h' => by
    match i with
    | 0 => simp at h h'; subst h h'; exact h1
    | 1 => simp at h h'; subst h h'; exact h2
    | 2 => simp at h h'; subst h h'; exact h3
    | i + 3 => simp at h) hR
theorem ret4 {r s t q : ResultVar} {v u x y : Value} (hrs : fn.results = #[r, s, t, q]) (h1 : ResV P n f w r v) (h2 : ResV P n f w s u) (h3 : ResV P n f w t x) (h4 : ResV P n f w q y) (hR : R (.returned (.tuple #[v, u, x, y])) w) : Ret P fn n R .ret f [] w :=
  ret_ok (rs := [r, s, t, q]) (vs := [v, u, x, y]) (.inl rfl) hrs rfl (fun i r' v' h h' => by
    match i with
    | 0 => simp at h h'; subst h h'; exact h1
    | 1 => simp at h h'; subst h h'; exact h2
    | 2 => simp at h h'; subst h h'; exact h3
    | 3 => simp at h h'; subst h h'; exact h4
    | i + 4 => simp at h) hR
theorem rT {t : Nat} {v : Value} (hn : Nat.blt t n = true := by rfl) (hv : f t = v := by first | ((conv => lhs; whnf); done) | rfl) : ResV P n f w (.tmp t) v := ⟨hn, hv⟩
/-- a result that lies in a block that is known whole -/
theorem rC {t : Nat} {ty : TypeId} {g : Nat} {B : Nat} {w0 : World} {L : List Ck} {bt : TypeId} {cs : Array Value} {mk : Array Value → List Ck} {size bytes : Nat} {zero : Value} (H : Hp B w0 w L) (hn : Nat.blt t n = true := by rfl) (hv : f t = .pointer (some ⟨g, 0, none⟩) := by rfl)
    (h1 : Agg P ty := by infer_instance) (hS : TI P ty size zero bytes := by infer_instance) (hb : HasB L g bt cs mk := by infer_instance) (hp : cs.size = size := by rfl) : ResV P n f w (.cell t ty) (.agg cs) := by
  refine ⟨hn, _, hv, ?_⟩
  rw [run_loadVarA (H.getB (h := hb)) (by omega), ← hp]
  simp
theorem rC1 {t : Nat} {ty : TypeId} {g : Nat} {B : Nat} {w0 : World} {L : List Ck} {bt : TypeId} {cs : Array Value} {mk : Array Value → List Ck} {v : Value} (H : Hp B w0 w L) (hn : Nat.blt t n = true := by rfl) (hv : f t = .pointer (some ⟨g, 0, none⟩) := by rfl)
    (h1 : One P ty := by infer_instance) (hb : HasB L g bt cs mk := by infer_instance) (hc : cs[0]? = some v := by rfl) : ResV P n f w (.cell t ty) v := by
  refine ⟨hn, _, hv, run_loadVar1 ?_⟩
  rw [cell_of_blk (H.getB (h := hb))]; exact hc

theorem calls_go {g : FuncId} {c : Code} {args : List Value} (hf : P.funcs[g]? = some fn) (hn : fn.ntmps = n) (hb : fn.body = some c) (hl : Nat.ble args.length n = true)
    (h : TW P n (Ret P fn n R) [.code c] (frOf args) [] w) : Calls P g args.toArray w R := by
  subst hn
  exact calls_of_TW hf hb (Nat.le_of_ble_eq_true hl) h
theorem retQ {ch : List PanicEntry} {f f' : Fr} {ds : List Deferred} {w : World} (h : Ret P fn n R (.panic ch) f ds w) : Ret P fn n R (.panic ch) f' ds w := h
end
/-- a number that is in the bounds of its kind -/
theorem w64 {a : Int} (h1 : -9223372036854775808 ≤ a) (h2 : a ≤ 9223372036854775807) : IntKind.i64.wrap a = a := by
  exact IntWalk.i64_in a ⟨h1, h2⟩
end Wh
namespace Wh
open Go
section
variable {P : Program} {n : Nat} {f : Fr} {w : World} {o : Oper}
theorem r_c0 {g : FuncId} {tys : Array TypeId} (ho : o.op = .call { callee := .value (.func g), args := #[], argTypes := tys } := by rfl) (h : FN P g := by infer_instance) :
    (execOp (ev n f) o).run P w = .ok (.enter g #[]) w := r_call (xs := []) (vs := []) ho (h := h) (hv := by simp [])
theorem r_k0 {t : Operand} {g : FuncId} {tys : Array TypeId} {first cap as : List Value} (ho : o.op = .call { callee := .value t, args := #[], argTypes := tys } := by rfl) (ht : ev n f t = .func (.func g) first.toArray cap.toArray := by rfl) (h : FN P g := by infer_instance) (has : first ++ [] ++ cap = as := by rfl) :
    (execOp (ev n f) o).run P w = .ok (.enter g as.toArray) w := has ▸ r_callV (xs := []) (vs := []) ho ht (h := h) (hv := by simp [])
theorem r_c1 {g : FuncId} {tys : Array TypeId} {x0 : Operand} {a0 : Value} (ho : o.op = .call { callee := .value (.func g), args := #[x0], argTypes := tys } := by rfl) (h : FN P g := by infer_instance) (h0 : ev n f x0 = a0 := by first | ((conv => lhs; whnf); done) | rfl) :
    (execOp (ev n f) o).run P w = .ok (.enter g #[a0]) w := r_call (xs := [x0]) (vs := [a0]) ho (h := h) (hv := by simp [h0])
theorem r_k1 {t : Operand} {g : FuncId} {tys : Array TypeId} {first cap as : List Value} {x0 : Operand} {a0 : Value} (ho : o.op = .call { callee := .value t, args := #[x0], argTypes := tys } := by rfl) (ht : ev n f t = .func (.func g) first.toArray cap.toArray := by rfl) (h : FN P g := by infer_instance) (h0 : ev n f x0 = a0 := by first | ((conv => lhs; whnf); done) | rfl) (has : first ++ [a0] ++ cap = as := by rfl) :
    (execOp (ev n f) o).run P w = .ok (.enter g as.toArray) w := has ▸ r_callV (xs := [x0]) (vs := [a0]) ho ht (h := h) (hv := by simp [h0])
theorem r_c2 {g : FuncId} {tys : Array TypeId} {x0 x1 : Operand} {a0 a1 : Value} (ho : o.op = .call { callee := .value (.func g), args := #[x0, x1], argTypes := tys } := by rfl) (h : FN P g := by infer_instance) (h0 : ev n f x0 = a0 := by first | ((conv => lhs; whnf); done) | rfl) (h1 : ev n f x1 = a1 := by first | ((conv => lhs; whnf); done) | rfl) :
    (execOp (ev n f) o).run P w = .ok (.enter g #[a0, a1]) w := r_call (xs := [x0, x1]) (vs := [a0, a1]) ho (h := h) (hv := by simp [h0, h1])
theorem r_k2 {t : Operand} {g : FuncId} {tys : Array TypeId} {first cap as : List Value} {x0 x1 : Operand} {a0 a1 : Value} (ho : o.op = .call { callee := .value t, args := #[x0, x1], argTypes := tys } := by rfl) (ht : ev n f t = .func (.func g) first.toArray cap.toArray := by rfl) (h : FN P g := by infer_instance) (h0 : ev n f x0 = a0 := by first | ((conv => lhs; whnf); done) | rfl) (h1 : ev n f x1 = a1 := by first | ((conv => lhs; whnf); done) | rfl) (has : first ++ [a0, a1] ++ cap = as := by rfl) :
    (execOp (ev n f) o).run P w = .ok (.enter g as.toArray) w := has ▸ r_callV (xs := [x0, x1]) (vs := [a0, a1]) ho ht (h := h) (hv := by simp [h0, h1])
theorem r_c3 {g : FuncId} {tys : Array TypeId} {x0 x1 x2 : Operand} {a0 a1 a2 : Value} (ho : o.op = .call { callee := .value (.func g), args := #[x0, x1, x2], argTypes := tys } := by rfl) (h : FN P g := by infer_instance) (h0 : ev n f x0 = a0 := by first | ((conv => lhs; whnf); done) | rfl) (h1 : ev n f x1 = a1 := by first | ((conv => lhs; whnf); done) | rfl) (h2 : ev n f x2 = a2 := by first | ((conv => lhs; whnf); done) | rfl) :
    (execOp (ev n f) o).run P w = .ok (.enter g #[a0, a1, a2]) w := r_call (xs := [x0, x1, x2]) (vs := [a0, a1, a2]) ho (h := h) (hv := by simp [h0, h1, h2])
theorem r_k3 {t : Operand} {g : FuncId} {tys : Array TypeId} {first cap as : List Value} {x0 x1 x2 : Operand} {a0 a1 a2 : Value} (ho : o.op = .call { callee := .value t, args := #[x0, x1, x2], argTypes := tys } := by rfl) (ht : ev n f t = .func (.func g) first.toArray cap.toArray := by rfl) (h : FN P g := by infer_instance) (h0 : ev n f x0 = a0 := by first | ((conv => lhs; whnf); done) | rfl) (h1 : ev n f x1 = a1 := by first | ((conv => lhs; whnf); done) | rfl) (h2 : ev n f x2 = a2 := by first | ((conv => lhs; whnf); done) | rfl) (has : first ++ [a0, a1, a2] ++ cap = as := by rfl) :
    (execOp (ev n f) o).run P w = .ok (.enter g as.toArray) w := has ▸ r_callV (xs := [x0, x1, x2]) (vs := [a0, a1, a2]) ho ht (h := h) (hv := by simp [h0, h1, h2])
theorem r_c4 {g : FuncId} {tys : Array TypeId} {x0 x1 x2 x3 : Operand} {a0 a1 a2 a3 : Value} (ho : o.op = .call { callee := .value (.func g), args := #[x0, x1, x2, x3], argTypes := tys } := by rfl) (h : FN P g := by infer_instance) (h0 : ev n f x0 = a0 := by first | ((conv => lhs; whnf); done) | rfl) (h1 : ev n f x1 = a1 := by first | ((conv => lhs; whnf); done) | rfl) (h2 : ev n f x2 = a2 := by first | ((conv => lhs; whnf); done) | rfl) (h3 : ev n f x3 = a3 := by first | ((conv => lhs; whnf); done) | rfl) :
    (execOp (ev n f) o).run P w = .ok (.enter g #[a0, a1, a2, a3]) w := r_call (xs := [x0, x1, x2, x3]) (vs := [a0, a1, a2, a3]) ho (h := h) (hv := by simp [h0, h1, h2, h3])
theorem r_k4 {t : Operand} {g : FuncId} {tys : Array TypeId} {first cap as : List Value} {x0 x1 x2 x3 : Operand} {a0 a1 a2 a3 : Value} (ho : o.op = .call { callee := .value t, args := #[x0, x1, x2, x3], argTypes := tys } := by rfl) (ht : ev n f t = .func (.func g) first.toArray cap.toArray := by rfl) (h : FN P g := by infer_instance) (h0 : ev n f x0 = a0 := by first | ((conv => lhs; whnf); done) | rfl) (h1 : ev n f x1 = a1 := by first | ((conv => lhs; whnf); done) | rfl) (h2 : ev n f x2 = a2 := by first | ((conv => lhs; whnf); done) | rfl) (h3 : ev n f x3 = a3 := by first | ((conv => lhs; whnf); done) | rfl) (has : first ++ [a0, a1, a2, a3] ++ cap = as := by rfl) :
    (execOp (ev n f) o).run P w = .ok (.enter g as.toArray) w := has ▸ r_callV (xs := [x0, x1, x2, x3]) (vs := [a0, a1, a2, a3]) ho ht (h := h) (hv := by simp [h0, h1, h2, h3])
theorem r_c5 {g : FuncId} {tys : Array TypeId} {x0 x1 x2 x3 x4 : Operand} {a0 a1 a2 a3 a4 : Value} (ho : o.op = .call { callee := .value (.func g), args := #[x0, x1, x2, x3, x4], argTypes := tys } := by rfl) (h : FN P g := by infer_instance) (h0 : ev n f x0 = a0 := by first | ((conv => lhs; whnf); done) | rfl) (h1 : ev n f x1 = a1 := by first | ((conv => lhs; whnf); done) | rfl) (h2 : ev n f x2 = a2 := by first | ((conv => lhs; whnf); done) | rfl) (h3 : ev n f x3 = a3 := by first | ((conv => lhs; whnf); done) | rfl) (h4 : ev n f x4 = a4 := by first | ((conv => lhs; whnf); done) | rfl) :
    (execOp (ev n f) o).run P w = .ok (.enter g #[a0, a1, a2, a3, a4]) w := r_call (xs := [x0, x1, x2, x3, x4]) (vs := [a0, a1, a2, a3, a4]) ho (h := h) (hv := by simp [h0, h1, h2, h3, h4])
theorem r_k5 {t : Operand} {g : FuncId} {tys : Array TypeId} {first cap as : List Value} {x0 x1 x2 x3 x4 : Operand} {a0 a1 a2 a3 a4 : Value} (ho : o.op = .call { callee := .value t, args := #[x0, x1, x2, x3, x4], argTypes := tys } := by rfl) (ht : ev n f t = .func (.func g) first.toArray cap.toArray := by rfl) (h : FN P g := by infer_instance) (h0 : ev n f x0 = a0 := by first | ((conv => lhs; whnf); done) | rfl) (h1 : ev n f x1 = a1 := by first | ((conv => lhs; whnf); done) | rfl) (h2 : ev n f x2 = a2 := by first | ((conv => lhs; whnf); done) | rfl) (h3 : ev n f x3 = a3 := by first | ((conv => lhs; whnf); done) | rfl) (h4 : ev n f x4 = a4 := by first | ((conv => lhs; whnf); done) | rfl) (has : first ++ [a0, a1, a2, a3, a4] ++ cap = as := by rfl) :
    (execOp (ev n f) o).run P w = .ok (.enter g as.toArray) w := has ▸ r_callV (xs := [x0, x1, x2, x3, x4]) (vs := [a0, a1, a2, a3, a4]) ho ht (h := h) (hv := by simp [h0, h1, h2, h3, h4])
theorem r_c6 {g : FuncId} {tys : Array TypeId} {x0 x1 x2 x3 x4 x5 : Operand} {a0 a1 a2 a3 a4 a5 : Value} (ho : o.op = .call { callee := .value (.func g), args := #[x0, x1, x2, x3, x4, x5], argTypes := tys } := by rfl) (h : FN P g := by infer_instance) (h0 : ev n f x0 = a0 := by first | ((conv => lhs; whnf); done) | rfl) (h1 : ev n f x1 = a1 := by first | ((conv => lhs; whnf); done) | rfl) (h2 : ev n f x2 = a2 := by first | ((conv => lhs; whnf); done) | rfl) (h3 : ev n f x3 = a3 := by first | ((conv => lhs; whnf); done) | rfl) (h4 : ev n f x4 = a4 := by first | ((conv => lhs; whnf); done) | rfl) (h5 : ev n f x5 = a5 := by first | ((conv => lhs; whnf); done) | rfl) :
    (execOp (ev n f) o).run P w = .ok (.enter g #[a0, a1, a2, a3, a4, a5]) w := r_call (xs := [x0, x1, x2, x3, x4, x5]) (vs := [a0, a1, a2, a3, a4, a5]) ho (h := h) (hv := by simp [h0, h1, h2, h3, h4, h5])
theorem r_k6 {t : Operand} {g : FuncId} {tys : Array TypeId} {first cap as : List Value} {x0 x1 x2 x3 x4 x5 : Operand} {a0 a1 a2 a3 a4 a5 : Value} (ho : o.op = .call { callee := .value t, args := #[x0, x1, x2, x3, x4, x5], argTypes := tys } := by rfl) (ht : ev n f t = .func (.func g) first.toArray cap.toArray := by rfl) (h : FN P g := by infer_instance) (h0 : ev n f x0 = a0 := by first | ((conv => lhs; whnf); done) | rfl) (h1 : ev n f x1 = a1 := by first | ((conv => lhs; whnf); done) | rfl) (h2 : ev n f x2 = a2 := by first | ((conv => lhs; whnf); done) | rfl) (h3 : ev n f x3 = a3 := by first | ((conv => lhs; whnf); done) | rfl) (h4 : ev n f x4 = a4 := by first | ((conv => lhs; whnf); done) | rfl) (h5 : ev n f x5 = a5 := by first | ((conv => lhs; whnf); done) | rfl) (has : first ++ [a0, a1, a2, a3, a4, a5] ++ cap = as := by rfl) :
    (execOp (ev n f) o).run P w = .ok (.enter g as.toArray) w := has ▸ r_callV (xs := [x0, x1, x2, x3, x4, x5]) (vs := [a0, a1, a2, a3, a4, a5]) ho ht (h := h) (hv := by simp [h0, h1, h2, h3, h4, h5])
theorem r_c7 {g : FuncId} {tys : Array TypeId} {x0 x1 x2 x3 x4 x5 x6 : Operand} {a0 a1 a2 a3 a4 a5 a6 : Value} (ho : o.op = .call { callee := .value (.func g), args := #[x0, x1, x2, x3, x4, x5, x6], argTypes := tys } := by rfl) (h : FN P g := by infer_instance) (h0 : ev n f x0 = a0 := by first | ((conv => lhs; whnf); done) | rfl) (h1 : ev n f x1 = a1 := by first | ((conv => lhs; whnf); done) | rfl) (h2 : ev n f x2 = a2 := by first | ((conv => lhs; whnf); done) | rfl) (h3 : ev n f x3 = a3 := by first | ((conv => lhs; whnf); done) | rfl) (h4 : ev n f x4 = a4 := by first | ((conv => lhs; whnf); done) | rfl) (h5 : ev n f x5 = a5 := by first | ((conv => lhs; whnf); done) | rfl) (h6 : ev n f x6 = a6 := by first | ((conv => lhs; whnf); done) | rfl) :
    (execOp (ev n f) o).run P w = .ok (.enter g #[a0, a1, a2, a3, a4, a5, a6]) w := r_call (xs := [x0, x1, x2, x3, x4, x5, x6]) (vs := [a0, a1, a2, a3, a4, a5, a6]) ho (h := h) (hv := by simp [h0, h1, h2, h3, h4, h5, h6])
theorem r_k7 {t : Operand} {g : FuncId} {tys : Array TypeId} {first cap as : List Value} {x0 x1 x2 x3 x4 x5 x6 : Operand} {a0 a1 a2 a3 a4 a5 a6 : Value} (ho : o.op = .call { callee := .value t, args := #[x0, x1, x2, x3, x4, x5, x6], argTypes := tys } := by rfl) (ht : ev n f t = .func (.func g) first.toArray cap.toArray := by rfl) (h : FN P g := by infer_instance) (h0 : ev n f x0 = a0 := by first | ((conv => lhs; whnf); done) | rfl) (h1 : ev n f x1 = a1 := by first | ((conv => lhs; whnf); done) | rfl) (h2 : ev n f x2 = a2 := by first | ((conv => lhs; whnf); done) | rfl) (h3 : ev n f x3 = a3 := by first | ((conv => lhs; whnf); done) | rfl) (h4 : ev n f x4 = a4 := by first | ((conv => lhs; whnf); done) | rfl) (h5 : ev n f x5 = a5 := by first | ((conv => lhs; whnf); done) | rfl) (h6 : ev n f x6 = a6 := by first | ((conv => lhs; whnf); done) | rfl) (has : first ++ [a0, a1, a2, a3, a4, a5, a6] ++ cap = as := by rfl) :
    (execOp (ev n f) o).run P w = .ok (.enter g as.toArray) w := has ▸ r_callV (xs := [x0, x1, x2, x3, x4, x5, x6]) (vs := [a0, a1, a2, a3, a4, a5, a6]) ho ht (h := h) (hv := by simp [h0, h1, h2, h3, h4, h5, h6])
theorem r_eqn {t t2 e : TypeId} {x y : Operand} {a : Addr} (ho : o.op = .binOp .eql t x y t2 := by rfl) (hx : ev n f x = .pointer (some a) := by rfl) (hy : ev n f y = .pointer none := by rfl) (ht : UT P t (.pointer e) := by infer_instance) :
    (execOp (ev n f) o).run P w = .ok (.value (.bool false)) w := by
  have hg : eqGuard .eql t x y (.pointer (some a)) (.pointer none) = pure () := rfl
  have h1 : binOp .eql t (.pointer (some a)) (.pointer none) = (do pure (.bool (← Op.equal t (.pointer (some a)) (.pointer none)))) := rfl
  have h2 : (Op.equal t (.pointer (some a)) (.pointer none)).run P w = .ok false w := by
    have e : Op.maxDepth = 9999 + 1 := rfl
    rw [Op.equal, e, Op.equalIn, Sem.run_bind, run_underlying' ht]
    rfl
  simp [execOp, ho, hx, hy, hg, h1, h2]
theorem r_nen {t t2 e : TypeId} {x y : Operand} {a : Addr} (ho : o.op = .binOp .neq t x y t2 := by rfl) (hx : ev n f x = .pointer (some a) := by rfl) (hy : ev n f y = .pointer none := by rfl) (ht : UT P t (.pointer e) := by infer_instance) :
    (execOp (ev n f) o).run P w = .ok (.value (.bool true)) w := by
  have hg : eqGuard .neq t x y (.pointer (some a)) (.pointer none) = pure () := rfl
  have h1 : binOp .neq t (.pointer (some a)) (.pointer none) = (do pure (.bool (!(← Op.equal t (.pointer (some a)) (.pointer none))))) := rfl
  have h2 : (Op.equal t (.pointer (some a)) (.pointer none)).run P w = .ok false w := by
    have e : Op.maxDepth = 9999 + 1 := rfl
    rw [Op.equal, e, Op.equalIn, Sem.run_bind, run_underlying' ht]
    rfl
  simp [execOp, ho, hx, hy, hg, h1, h2]
end
end Wh
