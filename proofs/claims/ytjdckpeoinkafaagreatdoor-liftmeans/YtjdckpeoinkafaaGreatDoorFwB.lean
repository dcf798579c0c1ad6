/- What is known of memory: pieces, each with the blocks in which it lies, no block in two pieces; all that was there before is as it was. -/
import Derived.Test.YtjdckpeoinkafaaGreatDoorFwA
set_option linter.all false
namespace Wh
open Go

structure Ck where
  foot : Nat → Prop
  holds : World → Prop
  stable : ∀ w w' : World, (∀ k, foot k → w'.heap[k]? = w.heap[k]?) → holds w → holds w'
  ins : ∀ w : World, holds w → ∀ k, foot k → k < w.heap.size

theorem lt_of_block {w : World} {g : Nat} {o : Obj} (h : w.heap[g]? = some o) : g < w.heap.size := (Array.getElem?_eq_some_iff.1 h).1

/-- a block of cells, known whole -/
def Blk (g : Nat) (t : TypeId) (cs : Array Value) : Ck where
  foot k := k = g
  holds w := w.heap[g]? = some (.cells cs t (0, 0))
  stable := fun _ _ h hw => (h g rfl).trans hw
  ins := fun _ hw _ hk => hk ▸ lt_of_block hw

/-- an object that is no row of cells -/
def Ob (g : Nat) (o : Obj) : Ck where
  foot k := k = g
  holds w := w.heap[g]? = some o
  stable := fun _ _ h hw => (h g rfl).trans hw
  ins := fun _ hw _ hk => hk ▸ lt_of_block hw

/-- a slice of the call's own, that may grow -/
def Row (e : TypeId) (size : Nat) (v : Value) (n : Nat) (xs : List Value) : Ck where
  foot k := v.ownBlock = some k
  holds w := w.ownsRow 0 e size v n xs
  stable := by
    intro w w' h hw
    refine ⟨hw.1, ?_⟩
    rcases hw.2 with h0 | ⟨g, cap, cur, rfl, hb, hh, rest⟩
    · exact .inl h0
    · exact .inr ⟨g, cap, cur, rfl, hb, (h g rfl).trans hh, rest⟩
  ins := fun w hw k hk => (World.ownsRow.lt hw k hk).2

/-- something that is no memory -/
def Pu (p : Prop) : Ck where
  foot _ := False
  holds _ := p
  stable := fun _ _ _ h => h
  ins := fun _ _ _ h => h.elim

/-- many in one -/
def Ck.all (l : List Ck) : Ck where
  foot k := ∃ c ∈ l, c.foot k
  holds w := (∀ c ∈ l, c.holds w) ∧ l.Pairwise (fun c d : Ck => ∀ k, c.foot k → ¬ d.foot k)
  stable := fun w w' h hw => ⟨fun c hc => c.stable w w' (fun k hk => h k ⟨c, hc, hk⟩) (hw.1 c hc), hw.2⟩
  ins := fun w hw k ⟨c, hc, hk⟩ => c.ins w (hw.1 c hc) k hk

structure Hp (B : Nat) (w0 w : World) (L : List Ck) : Prop where
  le : B ≤ w.heap.size
  old : ∀ k, k < B → w.heap[k]? = w0.heap[k]?
  holds : ∀ c ∈ L, c.holds w
  lo : ∀ c ∈ L, ∀ k, c.foot k → B ≤ k
  disj : L.Pairwise (fun c d => ∀ k, c.foot k → ¬ d.foot k)
  tape : w.tape = w0.tape
  os : w.os = w0.os
  out : w.output = w0.output

section
variable {B : Nat} {w0 w w' : World} {L L' : List Ck} {c c' : Ck}

theorem Hp.refl (w : World) : Hp w.heap.size w w [] := ⟨Nat.le_refl _, fun _ _ => rfl, by simp, by simp, by simp, rfl, rfl, rfl⟩

/-- what a step changes: a piece's blocks, and new ones -/
structure Chg (F : Nat → Prop) (w w' : World) : Prop where
  size : w.heap.size ≤ w'.heap.size
  same : ∀ k, k < w.heap.size → ¬ F k → w'.heap[k]? = w.heap[k]?
  tape : w'.tape = w.tape
  os : w'.os = w.os
  out : w'.output = w.output

theorem Chg.refl (F : Nat → Prop) (w : World) : Chg F w w := ⟨Nat.le_refl _, fun _ _ _ => rfl, rfl, rfl, rfl⟩

theorem Hp.upd (h : Hp B w0 w (c :: L)) (hc : Chg c.foot w w') (hh : c'.holds w') (hf : ∀ k, c'.foot k → c.foot k ∨ w.heap.size ≤ k) : Hp B w0 w' (c' :: L) := by
  have hd := List.pairwise_cons.1 h.disj
  have keep : ∀ d ∈ L, ∀ k, d.foot k → k < w.heap.size ∧ ¬ c.foot k := fun d hdm k hk =>
    ⟨d.ins w (h.holds d (List.mem_cons_of_mem _ hdm)) k hk, fun hck => hd.1 d hdm k hck hk⟩
  refine ⟨Nat.le_trans h.le hc.size, fun k hk => ?_, ?_, ?_, ?_, hc.tape.trans h.tape, hc.os.trans h.os, hc.out.trans h.out⟩
  · rw [hc.same k (Nat.lt_of_lt_of_le hk h.le) (fun hck => absurd (h.lo c List.mem_cons_self k hck) (by omega)), h.old k hk]
  · intro d hdm
    rcases List.mem_cons.1 hdm with rfl | hdm
    · exact hh
    · exact d.stable w w' (fun k hk => hc.same k (keep d hdm k hk).1 (keep d hdm k hk).2) (h.holds d (List.mem_cons_of_mem _ hdm))
  · intro d hdm k hk
    rcases List.mem_cons.1 hdm with rfl | hdm
    · rcases hf k hk with h1 | h1
      · exact h.lo c List.mem_cons_self k h1
      · exact Nat.le_trans h.le h1
    · exact h.lo d (List.mem_cons_of_mem _ hdm) k hk
  · refine List.pairwise_cons.2 ⟨fun d hdm k hk hdk => ?_, hd.2⟩
    rcases hf k hk with h1 | h1
    · exact hd.1 d hdm k h1 hdk
    · have := (keep d hdm k hdk).1
      omega

/-- something new -/
theorem Hp.new (h : Hp B w0 w L) (hc : Chg (fun _ => False) w w') (hh : c'.holds w') (hf : ∀ k, c'.foot k → w.heap.size ≤ k) : Hp B w0 w' (c' :: L) := by
  have h1 : Hp B w0 w (Pu True :: L) := by
    refine ⟨h.le, h.old, ?_, ?_, ?_, h.tape, h.os, h.out⟩
    · intro d hd
      rcases List.mem_cons.1 hd with rfl | hd
      · exact trivial
      · exact h.holds d hd
    · intro d hd k hk
      rcases List.mem_cons.1 hd with rfl | hd
      · exact hk.elim
      · exact h.lo d hd k hk
    · exact List.pairwise_cons.2 ⟨fun _ _ _ hk => hk.elim, h.disj⟩
  exact h1.upd hc hh (fun k hk => .inr (hf k hk))

theorem Hp.drop (h : Hp B w0 w (c :: L)) : Hp B w0 w L :=
  ⟨h.le, h.old, fun d hd => h.holds d (List.mem_cons_of_mem _ hd), fun d hd => h.lo d (List.mem_cons_of_mem _ hd), (List.pairwise_cons.1 h.disj).2, h.tape, h.os, h.out⟩

/-- nothing that was there has changed -/
theorem Hp.keep (h : Hp B w0 w L) (hc : Chg (fun _ => False) w w') : Hp B w0 w' L := (h.new (c' := Pu True) hc trivial (fun _ hk => hk.elim)).drop

theorem Hp.perm (h : Hp B w0 w L) (hp : L.Perm L') : Hp B w0 w L' :=
  ⟨h.le, h.old, fun d hd => h.holds d (hp.mem_iff.2 hd), fun d hd => h.lo d (hp.mem_iff.2 hd),
    (hp.pairwise_iff (R := fun c d : Ck => ∀ k, c.foot k → ¬ d.foot k) (fun {_ _} hxy k hk hk' => hxy k hk' hk)).1 h.disj, h.tape, h.os, h.out⟩

theorem perm_front {α : Type} : ∀ (l : List α) (i : Nat) (x : α), l[i]? = some x → l.Perm (x :: l.eraseIdx i)
  | [], _, _, h => by simp at h
  | y :: l, 0, x, h => by simp at h; subst h; exact List.Perm.refl _
  | y :: l, i + 1, x, h => by
    have := perm_front l i x (by simpa using h)
    exact (List.Perm.cons y this).trans (List.Perm.swap x y _)

/-- a piece to the front -/
theorem Hp.front (i : Nat) (h : Hp B w0 w L) (hi : L[i]? = some c) : Hp B w0 w (c :: L.eraseIdx i) := h.perm (perm_front L i c hi)

theorem Hp.dropAt (i : Nat) (h : Hp B w0 w L) : Hp B w0 w (L.eraseIdx i) := by
  cases hi : L[i]? with
  | none =>
    have : L.eraseIdx i = L := List.eraseIdx_of_length_le (by simpa using hi)
    rw [this]; exact h
  | some c => exact (h.front i hi).drop

theorem Hp.swap (h : Hp B w0 w (c :: c' :: L)) : Hp B w0 w (c' :: c :: L) := h.perm (List.Perm.swap _ _ _)

theorem Hp.all_of {l : List Ck} (h : Hp B w0 w (l ++ L)) : Hp B w0 w (Ck.all l :: L) := by
  have hd := List.pairwise_append.1 h.disj
  refine ⟨h.le, h.old, ?_, ?_, ?_, h.tape, h.os, h.out⟩
  · intro d hdm
    rcases List.mem_cons.1 hdm with rfl | hdm
    · exact ⟨fun c hc => h.holds c (List.mem_append_left _ hc), hd.1⟩
    · exact h.holds d (List.mem_append_right _ hdm)
  · intro d hdm k hk
    rcases List.mem_cons.1 hdm with rfl | hdm
    · obtain ⟨c, hc, hck⟩ := hk
      exact h.lo c (List.mem_append_left _ hc) k hck
    · exact h.lo d (List.mem_append_right _ hdm) k hk
  · refine List.pairwise_cons.2 ⟨?_, hd.2.1⟩
    rintro d hdm k ⟨c, hc, hck⟩ hdk
    exact hd.2.2 c hc d hdm k hck hdk

theorem Hp.of_all {l : List Ck} (h : Hp B w0 w (Ck.all l :: L)) : Hp B w0 w (l ++ L) := by
  have hd := List.pairwise_cons.1 h.disj
  have ha := h.holds (Ck.all l) List.mem_cons_self
  refine ⟨h.le, h.old, ?_, ?_, ?_, h.tape, h.os, h.out⟩
  · intro d hdm
    rcases List.mem_append.1 hdm with hdm | hdm
    · exact ha.1 d hdm
    · exact h.holds d (List.mem_cons_of_mem _ hdm)
  · intro d hdm k hk
    rcases List.mem_append.1 hdm with hdm | hdm
    · exact h.lo _ List.mem_cons_self k ⟨d, hdm, hk⟩
    · exact h.lo d (List.mem_cons_of_mem _ hdm) k hk
  · exact List.pairwise_append.2 ⟨ha.2, hd.2, fun c hc d hdm k hck hdk => hd.1 d hdm k ⟨c, hc, hck⟩ hdk⟩

theorem Hp.blk {g : Nat} {t : TypeId} {cs : Array Value} (h : Hp B w0 w L) (hm : Blk g t cs ∈ L) : w.heap[g]? = some (.cells cs t (0, 0)) := h.holds _ hm
theorem Hp.ob {g : Nat} {o : Obj} (h : Hp B w0 w L) (hm : Ob g o ∈ L) : w.heap[g]? = some o := h.holds _ hm
end

/-- where a piece stands, and the pieces with another one in its place -/
class HasB (L : List Ck) (g : Nat) (t : outParam TypeId) (cs : outParam (Array Value)) (mk : outParam (Array Value → List Ck)) : Prop where
  perm : ∃ R, L.Perm (Blk g t cs :: R) ∧ ∀ cs', (Blk g t cs' :: R).Perm (mk cs')
instance HasB.here {L : List Ck} {g : Nat} {t : TypeId} {cs : Array Value} : HasB (Blk g t cs :: L) g t cs (fun x => Blk g t x :: L) :=
  ⟨⟨L, List.Perm.refl _, fun _ => List.Perm.refl _⟩⟩
instance (priority := low) HasB.there {L : List Ck} {c : Ck} {g : Nat} {t : TypeId} {cs : Array Value} {mk : Array Value → List Ck} [h : HasB L g t cs mk] : HasB (c :: L) g t cs (fun x => c :: mk x) := by
  obtain ⟨R, h1, h2⟩ := h.perm
  exact ⟨⟨c :: R, (List.Perm.cons c h1).trans (List.Perm.swap _ _ _), fun cs' => (List.Perm.swap _ _ _).trans (List.Perm.cons c (h2 cs'))⟩⟩
class HasO (L : List Ck) (g : Nat) (o : outParam Obj) (mk : outParam (Obj → List Ck)) : Prop where
  perm : ∃ R, L.Perm (Ob g o :: R) ∧ ∀ o', (Ob g o' :: R).Perm (mk o')
instance HasO.here {L : List Ck} {g : Nat} {o : Obj} : HasO (Ob g o :: L) g o (fun x => Ob g x :: L) :=
  ⟨⟨L, List.Perm.refl _, fun _ => List.Perm.refl _⟩⟩
instance (priority := low) HasO.there {L : List Ck} {c : Ck} {g : Nat} {o : Obj} {mk : Obj → List Ck} [h : HasO L g o mk] : HasO (c :: L) g o (fun x => c :: mk x) := by
  obtain ⟨R, h1, h2⟩ := h.perm
  exact ⟨⟨c :: R, (List.Perm.cons c h1).trans (List.Perm.swap _ _ _), fun cs' => (List.Perm.swap _ _ _).trans (List.Perm.cons c (h2 cs'))⟩⟩
class HasC (L : List Ck) (c : Ck) (mk : outParam (Ck → List Ck)) : Prop where
  perm : ∃ R, L.Perm (c :: R) ∧ ∀ c', (c' :: R).Perm (mk c')
instance HasC.here {L : List Ck} {c : Ck} : HasC (c :: L) c (fun x => x :: L) :=
  ⟨⟨L, List.Perm.refl _, fun _ => List.Perm.refl _⟩⟩
instance (priority := low) HasC.there {L : List Ck} {d c : Ck} {mk : Ck → List Ck} [h : HasC L c mk] : HasC (d :: L) c (fun x => d :: mk x) := by
  obtain ⟨R, h1, h2⟩ := h.perm
  exact ⟨⟨d :: R, (List.Perm.cons d h1).trans (List.Perm.swap _ _ _), fun cs' => (List.Perm.swap _ _ _).trans (List.Perm.cons d (h2 cs'))⟩⟩

section
variable {B : Nat} {w0 w w' : World} {L : List Ck}
theorem Hp.getB {g : Nat} {t : TypeId} {cs : Array Value} {mk : Array Value → List Ck} [h : HasB L g t cs mk] (H : Hp B w0 w L) : w.heap[g]? = some (.cells cs t (0, 0)) := by
  obtain ⟨R, h1, _⟩ := h.perm
  exact (H.perm h1).holds _ List.mem_cons_self
theorem Hp.setB {g : Nat} {t : TypeId} {cs : Array Value} {mk : Array Value → List Ck} [h : HasB L g t cs mk] (H : Hp B w0 w L) (cs' : Array Value) (hc : Chg (fun k => k = g) w w')
    (hh : w'.heap[g]? = some (.cells cs' t (0, 0))) : Hp B w0 w' (mk cs') := by
  obtain ⟨R, h1, h2⟩ := h.perm
  exact ((H.perm h1).upd (c' := Blk g t cs') hc hh (fun _ hk => .inl hk)).perm (h2 cs')
theorem Hp.getO {g : Nat} {o : Obj} {mk : Obj → List Ck} [h : HasO L g o mk] (H : Hp B w0 w L) : w.heap[g]? = some o := by
  obtain ⟨R, h1, _⟩ := h.perm
  exact (H.perm h1).holds _ List.mem_cons_self
theorem Hp.setO {g : Nat} {o : Obj} {mk : Obj → List Ck} [h : HasO L g o mk] (H : Hp B w0 w L) (o' : Obj) (hc : Chg (fun k => k = g) w w')
    (hh : w'.heap[g]? = some o') : Hp B w0 w' (mk o') := by
  obtain ⟨R, h1, h2⟩ := h.perm
  exact ((H.perm h1).upd (c' := Ob g o') hc hh (fun _ hk => .inl hk)).perm (h2 o')
/-- to the front, and back -/
theorem Hp.pick {c : Ck} {mk : Ck → List Ck} [h : HasC L c mk] (H : Hp B w0 w L) : ∃ R, Hp B w0 w (c :: R) ∧ ∀ w' c', Hp B w0 w' (c' :: R) → Hp B w0 w' (mk c') := by
  obtain ⟨R, h1, h2⟩ := h.perm
  exact ⟨R, H.perm h1, fun _ c' H' => H'.perm (h2 c')⟩
theorem Hp.pickB {g : Nat} {t : TypeId} {cs : Array Value} {mk : Array Value → List Ck} [h : HasB L g t cs mk] (H : Hp B w0 w L) :
    ∃ R, Hp B w0 w (Blk g t cs :: R) ∧ ∀ w' cs', Hp B w0 w' (Blk g t cs' :: R) → Hp B w0 w' (mk cs') := by
  obtain ⟨R, h1, h2⟩ := h.perm
  exact ⟨R, H.perm h1, fun _ c' H' => H'.perm (h2 c')⟩

theorem chg_alloc (w : World) (o : Obj) : Chg (fun _ => False) w (w.alloc o) :=
  ⟨by simp, fun k hk _ => Go.RowKit.Below.heap_alloc w o k hk, rfl, rfl, rfl⟩
theorem chg_setCell (w : World) (g i : Nat) (v : Value) : Chg (fun k => k = g) w (w.setCell ⟨g, i, none⟩ v) :=
  ⟨by simp [World.setCell], fun k _ hk => Go.RowKit.Below.heap_setCell w ⟨g, i, none⟩ v k hk, rfl, rfl, rfl⟩
theorem chg_drew (w : World) : Chg (fun _ => False) w { w with drawn := w.drawn + 1 } := ⟨Nat.le_refl _, fun _ _ _ => rfl, rfl, rfl, rfl⟩
theorem Chg.trans {F : Nat → Prop} {a b c : World} (h : Chg F a b) (k : Chg F b c) : Chg F a c :=
  ⟨Nat.le_trans h.size k.size, fun i hi hf => (k.same i (Nat.lt_of_lt_of_le hi h.size) hf).trans (h.same i hi hf), k.tape.trans h.tape, k.os.trans h.os, k.out.trans h.out⟩
theorem Chg.mono {F G : Nat → Prop} {a b : World} (h : Chg F a b) (hFG : ∀ k, F k → G k) : Chg G a b := ⟨h.size, fun k hk hg => h.same k hk (fun hf => hg (hFG k hf)), h.tape, h.os, h.out⟩
theorem Chg.of_below {w w' : World} (h : Go.RowKit.Below w.heap.size w w') : Chg (fun _ => False) w w' := ⟨h.size, fun k hk _ => h.block k hk, h.tape, h.os, h.output⟩
theorem Chg.of_grown {w w' : World} {row : Option Nat} (h : w.grownBy w' row) : Chg (fun k => row = some k) w w' := ⟨h.size, fun k hk hr => h.block k hk (fun e => hr e.symm), h.tape, h.os, h.output⟩
/-- a new block -/
theorem Hp.alloc (H : Hp B w0 w L) (t : TypeId) (cs : Array Value) : Hp B w0 (w.alloc (.cells cs t)) (Blk w.heap.size t cs :: L) :=
  H.new (chg_alloc w _) (heap_alloc_new w _) (fun _ hk => Nat.le_of_eq hk.symm)
theorem Hp.allocO (H : Hp B w0 w L) (o : Obj) : Hp B w0 (w.alloc o) (Ob w.heap.size o :: L) :=
  H.new (chg_alloc w _) (heap_alloc_new w _) (fun _ hk => Nat.le_of_eq hk.symm)
end
end Wh
