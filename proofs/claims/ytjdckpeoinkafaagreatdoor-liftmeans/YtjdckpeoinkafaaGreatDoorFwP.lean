/- Regions whose order is open, where operations that change memory may come in several orders. -/
import Derived.Test.YtjdckpeoinkafaaGreatDoorFwO
set_option linter.all false
namespace Wh
open Go
structure Clo (ops : Array Oper) (listed : Array Bool) : Prop where
  size : listed.size = ops.size
  closed : ∀ j oj, ops[j]? = some oj → lit listed j = true → ∀ e ∈ oj.after, Region.binds .any e = true → lit listed e.on = true
theorem Clo.set {ops : Array Oper} {listed : Array Bool} (c : Clo ops listed) {j : Nat} (hr : j ∈ Region.ready .any ops listed) : Clo ops (listed.setIfInBounds j true) := by
  obtain ⟨hun, oj, hoj, hall⟩ := mem_ready.1 hr
  refine ⟨by simp [c.size], fun i oi hoi hl e he hb => ?_⟩
  by_cases hij : j = i
  · subst hij
    have e1 : oj = oi := Option.some.inj (hoj.symm.trans hoi)
    subst e1
    exact getD_set_true (hall e he hb)
  · unfold lit at hl
    rw [getD_set_ne false hij] at hl
    exact getD_set_true (c.closed i oi hoi hl e he hb)
theorem clo_un {ops : Array Oper} {listed : Array Bool} (c : Clo ops listed) : ∀ (q i e : Nat), reachB ops q i e = true → lit listed i = false → lit listed e = false
  | 0, _, _, h, _ => by simp [reachB] at h
  | q + 1, i, e, h, hi => by
    have direct : ∀ k, waitsB ops k i = true → lit listed k = false := by
      intro k hk
      obtain ⟨ok, hok, ed, hed, hb, hon⟩ := waitsB_spec hk
      cases hl : lit listed k with
      | false => rfl
      | true =>
        have := c.closed k ok hok hl ed hed hb
        rw [hon, hi] at this
        cases this
    simp only [reachB, Bool.or_eq_true, List.any_eq_true, Bool.and_eq_true] at h
    rcases h with h | ⟨k, _, hk, hr⟩
    · exact direct e h
    · exact clo_un c q k e hr (direct k hk)
/-- what is known of memory behind one operation and until another one: (from, until, what) -/
abbrev Fct := Option Nat × Option Nat × (World → Prop)
def Sat (SF : List Fct) (listed : Array Bool) (w : World) : Prop := ∀ p ∈ SF, (∀ e, p.1 = some e → lit listed e = true) → (∀ e, p.2.1 = some e → lit listed e = false) → p.2.2 w
def wpAnyL (P : Program) (ops : Array Oper) (Q : Exit → Act → World → Prop) (SF : List Fct) : Nat → Array Bool → Act → World → Prop
  | 0, listed, a, w => Region.ready .any ops listed = [] ∧ Q .normal a w
  | fuel + 1, listed, a, w =>
    (Region.ready .any ops listed = [] → Q .normal a w) ∧
    ∀ i ∈ Region.ready .any ops listed, wpOp P ops Q i (fun a' w' => Sat SF (listed.setIfInBounds i true) w' ∧ wpAnyL P ops Q SF fuel (listed.setIfInBounds i true) a' w') a w
theorem wpAny_of_L {P : Program} {ops : Array Oper} {Q : Exit → Act → World → Prop} {SF : List Fct} : ∀ (fuel : Nat) (listed : Array Bool) (a : Act) (w : World), wpAnyL P ops Q SF fuel listed a w → wpAny P .any ops Q fuel listed a w
  | 0, _, _, _, h => h
  | fuel + 1, _, _, _, h => ⟨h.1, fun i hi => wpOp_mono (fun a' w' h' => wpAny_of_L fuel _ a' w' h'.2) (h.2 i hi)⟩
theorem lit_set_ne {listed : Array Bool} {i e : Nat} (h : i ≠ e) : lit (listed.setIfInBounds i true) e = lit listed e := getD_set_ne false h
theorem Sat.unset {SF : List Fct} {listed : Array Bool} {w : World} {i : Nat} (hi : ∀ p ∈ SF, p.1 ≠ some i ∧ p.2.1 ≠ some i) (h : Sat SF (listed.setIfInBounds i true) w) : Sat SF listed w := by
  intro p hp h1 h2
  refine h p hp (fun e he => ?_) (fun e he => ?_)
  · rw [lit_set_ne (fun x => (hi p hp).1 (by rw [he, x]))]; exact h1 e he
  · rw [lit_set_ne (fun x => (hi p hp).2 (by rw [he, x]))]; exact h2 e he
theorem Sat.set {SF : List Fct} {listed : Array Bool} {w : World} {i : Nat} (hi : ∀ p ∈ SF, p.1 ≠ some i ∧ p.2.1 ≠ some i) (h : Sat SF listed w) : Sat SF (listed.setIfInBounds i true) w := by
  intro p hp h1 h2
  refine h p hp (fun e he => ?_) (fun e he => ?_)
  · have := h1 e he; rwa [lit_set_ne (fun x => (hi p hp).1 (by rw [he, x]))] at this
  · have := h2 e he; rwa [lit_set_ne (fun x => (hi p hp).2 (by rw [he, x]))] at this
/-- a quiet operation may be taken first -/
theorem wpAnyL_first {P : Program} {ops : Array Oper} {Q : Exit → Act → World → Prop} {SF : List Fct} {i : Nat} {oi : Oper} {v : Value} {S' : World → Prop} (hi : ops[i]? = some oi)
    (hsel : ∀ (j : Nat) (o : Oper) cs b, ops[j]? = some o → o.op ≠ .select cs b) (hQ : ∀ c a w, Q (.panic c) (a.put oi.dst v) w → Q (.panic c) a w) (hnf : ∀ p ∈ SF, p.1 ≠ some i ∧ p.2.1 ≠ some i) :
    ∀ (fuel : Nat) (listed : Array Bool) (a : Act) (w : World), Clo ops listed → (∀ l w, Clo ops l → (∀ e, lit listed e = true → lit l e = true) → lit l i = false → Sat SF l w → S' w) →
      (∀ j oj, ops[j]? = some oj → j ≠ i → listed.getD j true = false → (∀ e ∈ oj.after, Region.binds .any e = true → e.on ≠ i) → oi.apart ops oj = true) →
      i ∈ Region.ready .any ops listed → YieldsIf P ops S' oi v a → Sat SF listed w →
      wpAnyL P ops Q SF fuel (listed.setIfInBounds i true) (a.put oi.dst v) w → wpAnyL P ops Q SF (fuel + 1) listed a w := by
  intro fuel
  induction fuel with
  | zero =>
    intro listed a w clo hSS _ hr hy hS H
    refine ⟨fun h => (by rw [h] at hr; cases hr), fun j hj => ?_⟩
    by_cases hji : j = i
    · subst hji
      exact hy.wpOp hi (hSS listed w clo (fun _ h => h) (lit_of_unready (mem_ready.1 hr).1) hS) ⟨hS.set hnf, H⟩
    · have := ready_mono hj hji
      rw [H.1] at this
      cases this
  | succ fuel ih =>
    intro listed a w clo hSS hfree hr hy hS H
    refine ⟨fun h => (by rw [h] at hr; cases hr), fun j hj => ?_⟩
    by_cases hji : j = i
    · subst hji
      exact hy.wpOp hi (hSS listed w clo (fun _ h => h) (lit_of_unready (mem_ready.1 hr).1) hS) ⟨hS.set hnf, H⟩
    · have h1 := H.2 j (ready_mono hj hji)
      obtain ⟨hjun, oj, hoj, hall⟩ := mem_ready.1 hj
      have hiun := lit_of_unready (mem_ready.1 hr).1
      have hnot : ∀ e ∈ oj.after, Region.binds .any e = true → e.on ≠ i := fun e he hb heq => by
        have h1 := hall e he hb
        rw [heq] at h1
        unfold lit at hiun
        rw [hiun] at h1
        cases h1
      have h2 := wpOp_putIf hoj (hfree j oj hoj hji hjun hnot) (fun cs b => hsel i oi cs b hi) (fun cs b => hsel j oj cs b hoj) hQ hy h1
      have hfree' : ∀ k ok, ops[k]? = some ok → k ≠ i → (listed.setIfInBounds j true).getD k true = false →
          (∀ e ∈ ok.after, Region.binds .any e = true → e.on ≠ i) → oi.apart ops ok = true := fun k ok hk hki hun hno => by
        refine hfree k ok hk hki ?_ hno
        by_cases hjk : j = k
        · subst hjk; exact hjun
        · rw [getD_set_ne true hjk] at hun; exact hun
      refine wpOp_mono (fun a' w' h3 => ?_) h2
      have hsj : Sat SF (listed.setIfInBounds j true) w' := Sat.unset hnf (by rw [Array.setIfInBounds_comm _ _ (Ne.symm hji)] at *; exact h3.2.1)
      refine ⟨hsj, ih (listed.setIfInBounds j true) a' w' (clo.set hj) (fun l w hc hle hl hs => hSS l w hc (fun e he => ?_) hl hs) hfree' (ready_mono hr (Ne.symm hji)) h3.1 hsj ?_⟩
      · exact hle e (getD_set_true he)
      · rw [Array.setIfInBounds_comm _ _ hji]
        exact h3.2.2
section
variable {P : Program} {n : Nat} {Q : Post} {k : List Item} {f : Fr} {ds : List Deferred} {w : World}
variable {ops : Array Oper} {K : Fr → List Deferred → World → Prop} {o : Oper} {B : Nat} {w0 : World} {L : List Ck}
def EW (P : Program) (n : Nat) (ops : Array Oper) (K : Fr → List Deferred → World → Prop) (Q : Post) (SF : List Fct) (listed : Array Bool) (f : Fr) (ds : List Deferred) (w : World) : Prop :=
  Region.noSelect ops = true → (∀ ch f f' ds w, Q (.panic ch) f ds w → Q (.panic ch) f' ds w) → Clo ops listed → Sat SF listed w → ∀ fuel, (listed.toList.filter (!·)).length ≤ fuel → ∀ a, Rep a n f ds → wpAnyL P ops (postOf K Q n) SF fuel listed a w
variable {SF : List Fct} {listed : Array Bool}
theorem left_set {l : List Bool} {i : Nat} (h : l[i]? = some false) : ((l.set i true).filter (!·)).length + 1 = (l.filter (!·)).length := by
  induction l generalizing i with
  | nil => simp at h
  | cons b l ih =>
    cases i with
    | zero =>
      simp only [List.getElem?_cons_zero, Option.some.injEq] at h
      subst h
      simp
    | succ i =>
      simp only [List.getElem?_cons_succ] at h
      have := ih h
      simp only [List.set_cons_succ, List.filter_cons]
      cases b <;> simp <;> omega
theorem left_ready {i : Nat} (hr : i ∈ Region.ready .any ops listed) {fuel : Nat} (h : (listed.toList.filter (!·)).length ≤ fuel) : ∃ m, fuel = m + 1 ∧ ((listed.setIfInBounds i true).toList.filter (!·)).length ≤ m := by
  have h1 := (mem_ready.1 hr).1
  have hi : listed.toList[i]? = some false := by
    rcases Nat.lt_or_ge i listed.size with h' | h'
    · simp [h'] at h1 ⊢; exact h1
    · simp [Array.getElem?_eq_none h'] at h1
  have := left_set hi
  refine ⟨fuel - 1, by omega, ?_⟩
  rw [Array.toList_setIfInBounds]
  omega
theorem EW.nil (hr : (Region.ready .any ops listed == []) = true) (h : Sat SF listed w → K f ds w) : EW P n ops K Q SF listed f ds w := by
  intro _ _ _ hS fuel _ a ha
  have hr' : Region.ready .any ops listed = [] := by simpa using hr
  have hn : postOf K Q n .normal a w := ⟨f, ds, ha, h hS⟩
  cases fuel with
  | zero => exact ⟨hr', hn⟩
  | succ fuel => exact ⟨fun _ => hn, by rw [hr']; simp⟩
def okQ (ops : Array Oper) (listed : Array Bool) (i : Nat) : Bool := (Region.ready .any ops listed).contains i && Region.free .any ops listed i
def noF (SF : List Fct) (i : Nat) : Bool := SF.all fun p => p.1 != some i && p.2.1 != some i
theorem EW.q {i : Nat} {v : Value} {S' : World → Prop} (hok : okQ ops listed i = true) (hi : ops[i]? = some o) (hnf : noF SF i = true) (hSS : ∀ l w, Clo ops l → (∀ e, lit listed e = true → lit l e = true) → lit l i = false → Sat SF l w → S' w) (hy : Quiet P n ops S' o f v)
    (h : EW P n ops K Q SF (listed.setIfInBounds i true) (updO f o.dst v) ds w) : EW P n ops K Q SF listed f ds w := by
  intro hsel hq clo hS fuel hfuel a ha
  simp only [okQ, Bool.and_eq_true] at hok
  have hri : i ∈ Region.ready .any ops listed := by simpa using hok.1
  obtain ⟨m, rfl, hm⟩ := left_ready hri hfuel
  have hnf' : ∀ p ∈ SF, p.1 ≠ some i ∧ p.2.1 ≠ some i := by
    intro p hp
    have := List.all_eq_true.1 hnf p hp
    simpa using this
  refine wpAnyL_first hi (Region.noSelect_spec hsel) ?_ hnf' m listed a w clo hSS (Region.free_spec hi hok.2) hri ?_ hS
    (h hsel hq (clo.set hri) (hS.set hnf') m hm _ (ha.put o.dst v))
  · rintro c a' w' ⟨f', ds', hr, hqq⟩
    have hsz : a'.tmps.size = n := by
      have := hr.size
      cases hd : o.dst <;> simpa [hd, Act.put] using this
    obtain ⟨g, hg⟩ := rep_any a' n hsz
    have hde : a'.defers = ds' := by
      have := hr.defers
      cases hd : o.dst <;> simpa [hd, Act.put] using this
    exact ⟨g, ds', hde ▸ hg, hq _ _ _ _ _ hqq⟩
  · rcases hy with ⟨hg, hv⟩ | ⟨j, want, b, d, hg, hd, hn, hfd, hv⟩
    · exact .inl ⟨by simp [Region.wanted, hg], fun w' hw' => by rw [ha.eval]; exact hv w' hw'⟩
    · have hyd : yielded ops a.tmps j = some b := by
        unfold yielded
        rw [hd]
        simp only [Option.bind_some]
        rw [ha.cell d hn, hfd]
      rcases hv with ⟨e, hv⟩ | ⟨e, hv⟩
      · exact .inl ⟨by simp [Region.wanted, hg, hyd, e], fun w' hw' => by rw [ha.eval]; exact hv w' hw'⟩
      · exact .inr ⟨by simp [Region.wanted, hg, hyd, e], hv⟩
/-- no memory is needed -/
theorem EW.v {i d : Nat} {v : Value} (hok : okQ ops listed i = true) (hi : ops[i]? = some o) (hnf : noF SF i = true) (hy : Quiet P n ops (fun _ => True) o f v) (h : EW P n ops K Q SF (listed.setIfInBounds i true) (upd f d v) ds w) (hd : o.dst = some d := by rfl) : EW P n ops K Q SF listed f ds w :=
  EW.q hok hi hnf (fun _ _ _ _ _ _ => trivial) hy (by rw [hd]; exact h)
/-- a fact on memory is used: its number; what it waits for has come; what ends it waits for this operation -/
theorem EW.m {i d j : Nat} {v : Value} {S' : World → Prop} {fr un : Option Nat} (hok : okQ ops listed i = true) (hi : ops[i]? = some o) (hnf : noF SF i = true) (hj : SF[j]? = some (fr, un, S')) (hf : (match fr with | some e => lit listed e | none => true) = true) (hu : (match un with | some e => reachB ops ops.size i e | none => true) = true)
    (hy : Quiet P n ops S' o f v) (h : EW P n ops K Q SF (listed.setIfInBounds i true) (upd f d v) ds w) (hd : o.dst = some d := by rfl) : EW P n ops K Q SF listed f ds w :=
  EW.q hok hi hnf (fun l w hc hle hl hs => hs _ (List.mem_of_getElem? hj) (fun e he => hle e (by subst he; exact hf)) (fun e he => by subst he; exact clo_un hc _ _ _ hu hl)) hy (by rw [hd]; exact h)
/-- what may come now are loud ones alone: each of them -/
theorem EW.loud (i0 : Nat) (is' : List Nat) (hr : (Region.ready .any ops listed == i0 :: is') = true) (h : ∀ i ∈ i0 :: is', ∃ o, ops[i]? = some o ∧ LW P n ops (fun f ds w => Sat SF (listed.setIfInBounds i true) w ∧ EW P n ops K Q SF (listed.setIfInBounds i true) f ds w) Q [o] f ds w) : EW P n ops K Q SF listed f ds w := by
  intro hsel hq clo hS fuel hfuel a ha
  have hr' : Region.ready .any ops listed = i0 :: is' := by simpa using hr
  have hr0 : i0 ∈ Region.ready .any ops listed := by rw [hr']; exact List.mem_cons_self
  obtain ⟨m, rfl, _⟩ := left_ready hr0 hfuel
  refine ⟨fun h0 => (by rw [hr'] at h0; cases h0), fun j hj => ?_⟩
  obtain ⟨m', e, hm⟩ := left_ready hj hfuel
  obtain rfl : m = m' := by omega
  have hjr := hj
  rw [hr'] at hj
  obtain ⟨o, hi, h⟩ := h j hj
  have h1 := h a ha
  unfold wpOp
  rw [hi]
  simp only
  have go : ∀ (K' : Act → World → Prop), (∀ a w, postOf (fun f ds w => Sat SF (listed.setIfInBounds j true) w ∧ EW P n ops K Q SF (listed.setIfInBounds j true) f ds w) Q n .normal a w → K' a w) → ∀ a w,
      wpList P ops (postOf (fun f ds w => Sat SF (listed.setIfInBounds j true) w ∧ EW P n ops K Q SF (listed.setIfInBounds j true) f ds w) Q n) [o] a w →
      if Region.wanted o (yielded ops a.tmps) = true then o.wp P a w K' (postOf K Q n) ∨ (o.asks P a w ∧ LetsOut (postOf K Q n)) else K' (a.put o.dst undef) w := by
    intro K' hK a w h
    unfold wpList at h
    split
    · rename_i hw
      rw [if_pos hw] at h
      rcases h with h | ⟨h, a0, w0, hq⟩
      · refine .inl ?_
        unfold Oper.wp at *
        generalize (execOp a.eval o).run P w = r at *
        cases r with
        | ok x w' =>
          cases x <;> simp only [Oper.upon] at h ⊢ <;> first
            | exact hK _ _ h
            | exact h.elim
            | (refine Calls.mono h fun e w'' he => ?_
               cases e with
               | returned u => exact hK _ _ he
               | panicked c => exact he
               | outgrown => obtain ⟨a0, w0, hq⟩ := he; exact ⟨a0, w0, hq⟩)
            | exact Rows.mono h fun u w'' he => hK _ _ he
        | halt x w' =>
          cases x <;> simp only [Oper.upon] at h ⊢ <;> first | exact h | exact h.elim
      · exact .inr ⟨h, a0, w0, hq⟩
    · rename_i hw
      rw [if_neg hw] at h
      exact hK _ _ h
  refine go _ ?_ a w h1
  rintro a' w' ⟨f', ds', hr, hS', hD⟩
  exact ⟨hS', hD hsel hq (clo.set hjr) hS' m hm a' hr⟩
theorem EW.gen {d : Nat} {b : Bool} (h : ∀ b', b' = b → EW P n ops K Q SF listed (upd f d (.bool b')) ds w) : EW P n ops K Q SF listed (upd f d (.bool b)) ds w := h b rfl
theorem TW.drawE {id : Nat} {l : List Oper} (SF : List Fct) (hm : P.follows .mixedOrders = true) (hsel : Region.noSelect l.toArray = true)
    (hQ : ∀ ch f f' ds w, Q (.panic ch) f ds w → Q (.panic ch) f' ds w) (H : Hp B w0 w L) (hS : ∀ w', Hp B w0 w' L → Sat SF (Array.replicate l.length false) w')
    (h : ∀ w', Hp B w0 w' L → EW P n l.toArray (fun f ds w => TW P n Q k f ds w) Q SF (Array.replicate l.length false) f ds w') : TW P n Q (.code (.region id l.toArray true) :: k) f ds w := by
  have H' : Hp B w0 { w with drawn := w.drawn + 1 } L := H.keep (chg_drew w)
  refine TW.of_wp fun a ha => wp_region_any hm (wpAny_of_L (SF := SF) _ _ _ _ ?_)
  have hc : Clo l.toArray (Array.replicate l.length false) := by
    refine ⟨by simp, fun j oj _ hl => ?_⟩
    unfold lit at hl
    rw [getD_repl] at hl
    cases hl
  have := h _ H' hsel hQ hc (hS _ H') l.toArray.size (by simp) a ha
  simpa using this
/-- ways that meet again, by a ghost state -/
theorem TW.joinG {σ : Type} {c : Code} (S : σ → World → Prop) (fr : σ → List (Nat × Value)) (h1 : (∀ s f' w', S s w' → Has f' (fr s) → TW P n Q k f' ds w') → TW P n Q (.code c :: k) f ds w)
    (h2 : ∀ s f w', S s w' → TW P n Q k (upds f (fr s)) ds w') : TW P n Q (.code c :: k) f ds w := h1 fun s f' w' H' hf => upds_of_has hf ▸ h2 s f' w' H'
end
end Wh
namespace Wh
open Go
theorem Sat.nil {listed : Array Bool} {w : World} : Sat [] listed w := by intro p hp; cases hp
theorem Sat.cons {listed : Array Bool} {w : World} {a b : Option Nat} {S : World → Prop} {SF : List Fct} (h : (∀ e, a = some e → lit listed e = true) → (∀ e, b = some e → lit listed e = false) → S w) (h2 : Sat SF listed w) : Sat ((a, b, S) :: SF) listed w := by
  intro p hp
  rcases List.mem_cons.1 hp with rfl | hp
  · exact h
  · exact h2 p hp
end Wh
