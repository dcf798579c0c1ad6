/- made comes to an end, and keeps the terms in order. -/
import Derived.Test.YtjdckpeoinkafaaGreatDoorSp
import Derived.KernelRfl
set_option linter.all false
namespace Wh.WhS
open Go
def Ext (D D' : List T) : Prop := ∃ E, D' = D ++ E
theorem Ext.refl (D : List T) : Ext D D := ⟨[], by simp⟩
theorem Ext.trans {A B C : List T} (h : Ext A B) (k : Ext B C) : Ext A C := by
  obtain ⟨E, rfl⟩ := h
  obtain ⟨F, rfl⟩ := k
  exact ⟨E ++ F, by simp⟩
theorem addT_ext (D : List T) (t : T) : Ext D (addT D t).2 := by
  unfold addT
  split
  · exact Ext.refl D
  · exact ⟨[t], rfl⟩
def In (D : List T) (n : Int) : Prop := 0 ≤ n ∧ n < D.length
theorem In.is {D : List T} {n : Int} (h : In D n) : WhD.is D n = true := by simp [WhD.is, h.1, h.2]
theorem Ext.len {D D' : List T} (h : Ext D D') : D.length ≤ D'.length := by
  obtain ⟨E, rfl⟩ := h
  simp
theorem In.ext {D D' : List T} {n : Int} (h : In D n) (e : Ext D D') : In D' n := ⟨h.1, by have := e.len; have := h.2; omega⟩
theorem node_ext {D D' : List T} {n : Int} (e : Ext D D') (h : In D n) : WhD.node D' n = WhD.node D n := by
  have h' := h.ext e
  obtain ⟨E, rfl⟩ := e
  have hl : n.toNat < D.length := by have := h.1; have := h.2; omega
  simp only [WhD.node, h.is, h'.is, if_true]
  rw [List.getElem?_append_left hl]
theorem addT_in (D : List T) (t : T) : In (addT D t).2 (addT D t).1 ∧ WhD.node (addT D t).2 (addT D t).1 = (t, 0) := by
  unfold addT
  split
  · rename_i i hi
    have := numb_some 0 D t i hi
    have h3 : D[i.toNat]? = some t := by simpa using this.2.2
    have hin : In D i := ⟨by have := this.1; omega, by have := this.2.1; omega⟩
    refine ⟨hin, ?_⟩
    simp [WhD.node, hin.is, h3]
  · have hin : In (D ++ [t]) (D.length : Int) := ⟨by omega, by simp; omega⟩
    refine ⟨hin, ?_⟩
    simp [WhD.node, hin.is]
/-- a term that may stand at a place -/
def TOk (i : Nat) (t : T) : Prop := t.kind = 0 ∨ (t.kind = 1 ∧ t.v < 32) ∨ (t.kind = 2 ∧ WhP.isOp t.op = true ∧ 0 ≤ t.a ∧ t.a < i ∧ 0 ≤ t.b ∧ t.b < i)
def Wf (D : List T) : Prop := ∀ i t, D[i]? = some t → TOk i t
theorem Wf.add {D : List T} (h : Wf D) {t : T} (ht : TOk D.length t) : Wf (addT D t).2 := by
  unfold addT
  split
  · exact h
  · intro i u hu
    rcases Nat.lt_or_ge i D.length with hi | hi
    · exact h i u (by rwa [List.getElem?_append_left hi] at hu)
    · rw [List.getElem?_append_right hi] at hu
      rcases Nat.lt_or_ge (i - D.length) 1 with h1 | h1
      · have : i = D.length := by omega
        subst this
        simp at hu
        subst hu
        exact ht
      · rw [List.getElem?_eq_none (by simpa using h1)] at hu
        cases hu
theorem Wf.node {D : List T} (h : Wf D) {n : Int} (hn : In D n) : TOk n.toNat (WhD.node D n).1 := by
  have hl : n.toNat < D.length := by have := hn.1; have := hn.2; omega
  simp only [WhD.node, hn.is, if_true]
  rw [List.getElem?_eq_getElem hl]
  exact h _ _ (List.getElem?_eq_getElem hl)
theorem known_ext {D D' : List T} {n : Int} (e : Ext D D') (h : In D n) : known D' n = known D n := by simp only [known, node_ext e h]
theorem known_K (D : List T) (w : Int) : known (addT D (K w)).2 (addT D (K w)).1 = (w, true) := by
  simp only [known, (addT_in D (K w)).2]
  rfl
theorem isOp_wdo {op : Int} (h : WhP.isOp op = true) : (WhI.wdo op 0 0).2 = 0 := by
  simp only [WhP.isOp, Bool.and_eq_true, decide_eq_true_eq] at h
  have : op = 27 ∨ op = 28 ∨ op = 29 ∨ op = 30 ∨ op = 31 ∨ op = 32 ∨ op = 33 ∨ op = 34 ∨ op = 35 ∨ op = 36 ∨ op = 37 ∨ op = 38 ∨ op = 39 ∨ op = 40 ∨ op = 41 ∨ op = 42 ∨ op = 43 ∨ op = 44 := by omega
  rcases this with h | h | h | h | h | h | h | h | h | h | h | h | h | h | h | h | h | h <;> subst h <;> rfl
/-- a term that is a reckoning with a word -/
def Lk (D : List T) (op n : Int) : Prop := (WhD.node D n).1.kind = 2 ∧ (WhD.node D n).1.op = op ∧ (known D (WhD.node D n).1.b).2 = true
/-- at most so many of one kind, one upon another -/
def ChLe (D : List T) (op : Int) : Nat → Int → Prop
  | 0, n => ¬ Lk D op n
  | k + 1, n => Lk D op n → ChLe D op k (WhD.node D n).1.a
def ChAll (D : List T) (M : Nat) : Prop := ∀ op n, In D n → ChLe D op M n
theorem ChLe.mono {D : List T} {op : Int} : ∀ {k m : Nat} {n : Int}, k ≤ m → ChLe D op k n → ChLe D op m n
  | 0, 0, _, _, h => h
  | 0, m + 1, _, _, h => fun hl => absurd hl h
  | k + 1, 0, _, hkm, _ => by omega
  | k + 1, m + 1, _, hkm, h => fun hl => ChLe.mono (by omega) (h hl)
theorem ChLe.ext {D D' : List T} (hD : Wf D) (e : Ext D D') {op : Int} : ∀ {k : Nat} {n : Int}, In D n → ChLe D op k n → ChLe D' op k n
  | 0, n, hn, h => by
    intro hl
    refine h ?_
    unfold Lk at hl ⊢
    rw [node_ext e hn] at hl
    refine ⟨hl.1, hl.2.1, ?_⟩
    rcases hD.node hn with h1 | ⟨h1, _⟩ | ⟨_, _, h1, h2, h3, h4⟩
    · omega
    · omega
    · have := hn.2; have := hn.1
      rw [← known_ext e ⟨h3, by omega⟩]
      exact hl.2.2
  | k + 1, n, hn, h => by
    intro hl
    have hl' : Lk D op n ∧ In D (WhD.node D n).1.a := by
      unfold Lk at hl ⊢
      rw [node_ext e hn] at hl
      rcases hD.node hn with h1 | ⟨h1, _⟩ | ⟨_, _, h1, h2, h3, h4⟩
      · omega
      · omega
      · have := hn.2; have := hn.1
        refine ⟨⟨hl.1, hl.2.1, ?_⟩, ⟨h1, by omega⟩⟩
        rw [← known_ext e ⟨h3, by omega⟩]
        exact hl.2.2
    rw [node_ext e hn]
    exact ChLe.ext hD e hl'.2 (h hl'.1)
theorem addT_all {D : List T} (t : T) {n : Int} (h : In (addT D t).2 n) : In D n ∨ WhD.node (addT D t).2 n = (t, 0) := by
  have hin := addT_in D t
  revert hin h
  unfold addT
  split
  · intro h _; exact .inl h
  · intro h hin
    rcases Int.lt_or_le n D.length with hl | hl
    · exact .inl ⟨h.1, hl⟩
    · have h2 := h.2
      simp only [List.length_append, List.length_cons, List.length_nil] at h2
      have : n = D.length := by omega
      subst this
      exact .inr hin.2
theorem ChAll.addK {D : List T} {M : Nat} (hD : Wf D) (h : ChAll D M) (w : Int) : ChAll (addT D (K w)).2 M := by
  intro op n hn
  rcases addT_all (K w) hn with h1 | h1
  · exact (h op n h1).ext hD (addT_ext D _) h1
  · have : ¬ Lk (addT D (K w)).2 op n := by
      unfold Lk
      rw [h1]
      simp [K]
    exact ChLe.mono (Nat.zero_le _) this
theorem ChAll.add {D : List T} {M : Nat} (hD : Wf D) (h : ChAll D M) {t : T} (ha : t.kind = 2 → In D t.a) : ChAll (addT D t).2 (M + 1) := by
  intro op n hn
  rcases addT_all t hn with h1 | h1
  · exact ((h op n h1).ext hD (addT_ext D _) h1).mono (by omega)
  · intro hl
    rw [h1]
    have hk : t.kind = 2 := by
      have := hl.1
      rwa [h1] at this
    exact (h op _ (ha hk)).ext hD (addT_ext D _) (ha hk)
/-- what a reckoning with a word may still cost -/
def psi (op v : Int) : Nat := if shift op = true ∧ 32 ≤ v then 1 else 0
theorem psi_le (op v : Int) : psi op v ≤ 1 := by unfold psi; split <;> omega
def big (op : Int) : Bool := decide (op = 44) || decide (op = 37) || decide (op = 42)
def FuW (D : List T) (M : Nat) (op a v : Int) (N : Nat) : Prop :=
  if (known D a).2 then 1 ≤ N else if big op then 2 * M + 3 ≤ N else ∃ k, k ≤ M ∧ ChLe D op k a ∧ 2 * k + psi op v + 1 ≤ N
/-- so many steps are enough -/
def Fu (D : List T) (M : Nat) (op a b : Int) (N : Nat) : Prop :=
  if (known D b).2 && !decide (op = 28) then FuW D M op a (known D b).1 N
  else if (known D a).2 && (known D b).2 then 1 ≤ N
  else if turns op && (((known D a).2 && !(known D b).2) || (!(known D a).2 && !(known D b).2 && decide (a > b))) then 2 * M + 5 ≤ N
  else 2 * M + 4 ≤ N
theorem Fu.big {D : List T} {M : Nat} (hM : ChAll D M) {op a b : Int} (ha : In D a) : Fu D M op a b (2 * M + 5) := by
  unfold Fu FuW
  have := psi_le op (known D b).1
  repeat' split
  all_goals first | omega | exact ⟨M, Nat.le_refl _, hM op a ha, by omega⟩
theorem Fu.pos {D : List T} {M : Nat} {op a b : Int} {N : Nat} (h : Fu D M op a b N) : 1 ≤ N := by
  revert h
  unfold Fu FuW
  repeat' split
  all_goals intro h
  all_goals first | omega | (obtain ⟨k, _, _, h⟩ := h; omega)
/-- a step that goes on: what it goes on with may be, and costs less -/
structure Good (D : List T) (M : Nat) (r : Int × List T) (N : Nat) : Prop where
  ch : ChAll r.2 (M + 1)
  ext : Ext D r.2
  wf : Wf r.2
  rng : Rng r.2
  inn : In r.2 r.1
  len : r.2.length ≤ D.length + N
theorem K_ok (i : Nat) (w : Int) : TOk i (K w) := .inl rfl
theorem add_good {D : List T} (hw : Wf D) (hg : Rng D) {t : T} (ht : TOk D.length t) (hv : 0 ≤ t.v ∧ t.v < 4294967296) {M : Nat} (hM : ChAll D M) {N : Nat} (hN : 1 ≤ N) : Good D M (addT D t) N :=
  ⟨hM.add hw (fun hk => by
    rcases ht with h | ⟨h, _⟩ | ⟨_, _, h1, h2, _⟩
    · omega
    · omega
    · exact ⟨h1, h2⟩), addT_ext D t, hw.add ht, hg.add hv, (addT_in D t).1, by have := addT_len D t; omega⟩
/-- what a step of made may be -/
def StepOk (D : List T) (M : Nat) (op : Int) (N : Nat) : St → Prop
  | .no => False
  | .ret n => In D n
  | .const w => 0 ≤ w ∧ w < 4294967296
  | .goes o x w => (0 ≤ w ∧ w < 4294967296) ∧ WhP.isOp o = true ∧ o ≠ 28 ∧ In D x ∧ FuW D M o x w (N - 1)
  | .call o x y => o = op ∧ In D x ∧ In D y ∧ Fu D M o x y (N - 1)
  | .opr => True
theorem step_go {D : List T} {M : Nat} {op a b : Int} {N : Nat} (hN : 1 ≤ N) (hD : Wf D) (hg : Rng D) (hM : ChAll D M) (ha : In D a) (hb : In D b) (ho : WhP.isOp op = true) (hs : StepOk D M op N (made D op a b))
    (ih : ∀ D' o x y, Wf D' → Rng D' → ChAll D' M → In D' x → In D' y → WhP.isOp o = true → Fu D' M o x y (N - 1) → ∃ r, madeF (N - 1) D' o x y = some r ∧ Good D' M r (N - 1)) :
    ∃ r, exec (madeF (N - 1)) D op a b (made D op a b) = some r ∧ Good D M r N := by
  cases hm : made D op a b with
  | no => rw [hm] at hs; exact hs.elim
  | ret n => rw [hm] at hs; exact ⟨_, rfl, ⟨fun o m hm => (hM o m hm).mono (by omega), Ext.refl D, hD, hg, hs, by simp⟩⟩
  | const w => rw [hm] at hs; exact ⟨_, rfl, add_good hD hg (K_ok _ w) hs hM hN⟩
  | goes o x w =>
    rw [hm] at hs
    obtain ⟨hw, ho', h28, hx, hfu⟩ := hs
    have hk := known_K D w
    have hn : Fu (addT D (K w)).2 M o x (addT D (K w)).1 (N - 1) := by
      unfold Fu
      rw [hk]
      simp only [h28, decide_false, Bool.not_false, Bool.and_self, if_true]
      unfold FuW at hfu ⊢
      rw [known_ext (addT_ext D (K w)) hx]
      split
      · rename_i h; rwa [if_pos h] at hfu
      · rename_i h
        rw [if_neg h] at hfu
        split
        · rename_i h2; rwa [if_pos h2] at hfu
        · rename_i h2
          rw [if_neg h2] at hfu
          obtain ⟨k, h3, h4, h5⟩ := hfu
          exact ⟨k, h3, h4.ext hD (addT_ext D _) hx, h5⟩
    obtain ⟨r, hr, h⟩ := ih _ o x _ (hD.add (K_ok _ w)) (hg.add hw) (hM.addK hD w) (hx.ext (addT_ext D (K w))) (addT_in D (K w)).1 ho' hn
    exact ⟨r, hr, ⟨h.ch, (addT_ext D (K w)).trans h.ext, h.wf, h.rng, h.inn, by have := h.len; have := addT_len D (K w); omega⟩⟩
  | call o x y =>
    rw [hm] at hs
    obtain ⟨rfl, hx, hy, hfu⟩ := hs
    obtain ⟨r, hr, h⟩ := ih D o x y hD hg hM hx hy ho hfu
    exact ⟨r, hr, ⟨h.ch, h.ext, h.wf, h.rng, h.inn, by have := h.len; omega⟩⟩
  | opr =>
    refine ⟨_, rfl, ?_⟩
    have e : WhD.op D op a b = ((addT D ⟨2, 0, op, a, b⟩).1, 0, (addT D ⟨2, 0, op, a, b⟩).2) := by
      simp [WhD.op, ha.is, hb.is, isOp_wdo ho]
    simp only [e]
    have := ha.1; have := ha.2; have := hb.1; have := hb.2
    exact add_good hD hg (.inr (.inr ⟨rfl, ho, by omega, by omega, by omega, by omega⟩)) ⟨Int.le_refl 0, (by decide : (0 : Int) < 4294967296)⟩ hM hN
/-- the steps are what they may be -/
theorem byWord_ok {D : List T} {M : Nat} {op a b : Int} {N : Nat} (hD : Wf D) (hg : Rng D) (hM : ChAll D M) (ha : In D a) (hb : In D b) (ho : WhP.isOp op = true) (h28 : op ≠ 28) (hka : (known D a).2 = false) (hkb : (known D b).2 = true)
    (hfu : Fu D M op a b N) (hno : (byWord D op a b (known D b).1).isNo = false) : StepOk D M op N (byWord D op a b (known D b).1) := by
  have hv := hg.known b
  have hneed : if big op then 2 * M + 3 ≤ N else ∃ k, k ≤ M ∧ ChLe D op k a ∧ 2 * k + psi op (known D b).1 + 1 ≤ N := by
    simpa [Fu, FuW, hka, hkb, h28] using hfu
  clear hfu
  generalize hvv : (known D b).1 = v at *
  have hdeep : ∀ w, 0 ≤ w ∧ w < 4294967296 → (WhD.node D a).1.kind = 2 → (WhD.node D a).1.op = op → (known D (WhD.node D a).1.b).2 = true → (among op [27, 36, 35, 32] = true ∨ shift op = true) → StepOk D M op N (.goes op (WhD.node D a).1.a w) := by
    intro w hw hk1 hk2 hk3 hk4
    have ht := hD.node ha
    rcases ht with h | ⟨h, _⟩ | ⟨_, _, h1, h2, _⟩
    · omega
    · omega
    · have := ha.1; have := ha.2
      refine ⟨hw, ho, h28, ⟨h1, by omega⟩, ?_⟩
      have hps := psi_le op w
      have hbg : big op = false := by
        simp [among, shift] at hk4
        simp [big]
        omega
      rw [hbg] at hneed
      simp only [Bool.false_eq_true, if_false] at hneed
      obtain ⟨k, h3, h4, h5⟩ := hneed
      unfold FuW
      rw [hbg]
      simp only [Bool.false_eq_true, if_false]
      cases k with
      | zero => exact absurd ⟨hk1, hk2, hk3⟩ h4
      | succ k =>
        split
        · omega
        · exact ⟨k, by omega, h4 ⟨hk1, hk2, hk3⟩, by omega⟩
  have key : ∀ (c : Bool) (x y : St), (c = true → x.isNo = false → StepOk D M op N x) → (c = false → y.isNo = false → StepOk D M op N y) → (if c = true then x else y).isNo = false → StepOk D M op N (if c = true then x else y) := by
    intro c x y h1 h2 h
    cases c
    · exact h2 rfl h
    · exact h1 rfl h
  have htz : ∀ w, one w = true → 0 ≤ tz w ∧ tz w < 32 := by
    intro w hw
    simp only [one, Bool.and_eq_true, Bool.not_eq_true', decide_eq_false_iff_not] at hw
    have hz := tzi_rng w
    have hall : ∀ i, i < 32 → 0 ≤ tabN i ∧ tabN i < 32 := by decide
    simp only [tz, if_neg hw.1]
    exact hall _ (by omega)
  have hpw : ∀ o w, 0 ≤ w ∧ w < 4294967296 → WhP.isOp o = true → o ≠ 28 → big o = false → (shift o = true → w < 32) → big op = true → StepOk D M op N (.goes o a w) := by
    intro o w hw h3 h4 h5 h6 h7
    refine ⟨hw, h3, h4, ha, ?_⟩
    unfold FuW
    rw [hka, h5]
    simp only [Bool.false_eq_true, if_false]
    rw [h7] at hneed
    simp only [if_true] at hneed
    have : psi o w = 0 := by
      unfold psi
      rw [if_neg]
      rintro ⟨h8, h9⟩
      have := h6 h8
      omega
    exact ⟨M, Nat.le_refl _, hM o a ha, by omega⟩
  have hu : ∀ w, one w = true → IntKind.u32.wrap (tz w) < 32 := by
    intro w hw
    have h32 := htz w hw
    have h : (2 : Int) ^ 32 = 4294967296 := by decide
    simp only [IntKind.wrap, IntKind.bits, IntKind.signed, h, Bool.false_and]
    simp
    omega
  unfold byWord at hno ⊢
  revert hno
  refine key _ _ _ (fun _ _ => ha) fun _ => ?_
  refine key _ _ _ (fun _ _ => ⟨by decide, by decide⟩) fun _ => ?_
  refine key _ _ _ (fun _ _ => hb) fun _ => ?_
  refine key _ _ _ (fun _ _ => ha) fun h4 => ?_
  refine key _ _ _ (fun h5 _ => ?_) fun _ => ?_
  · simp only [Bool.and_eq_true, decide_eq_true_eq] at h5
    refine ⟨tmod_rng hv, ho, h28, ha, ?_⟩
    have hbg : big op = false := by
      have := h5.1
      simp [shift, among] at this
      simp [big]
      omega
    rw [hbg] at hneed
    simp only [Bool.false_eq_true, if_false] at hneed
    obtain ⟨k, h6, h7, h8⟩ := hneed
    have e1 : psi op (v.tmod 32) = 0 := by
      unfold psi
      rw [if_neg]
      rw [Int.tmod_eq_emod_of_nonneg hv.1]
      omega
    have e2 : psi op v = 1 := by unfold psi; rw [if_pos h5]
    unfold FuW
    rw [hka, hbg]
    simp only [Bool.false_eq_true, if_false]
    exact ⟨k, h6, h7, by omega⟩
  refine key _ _ _ (fun h _ => ?_) fun _ => ?_
  · simp only [Bool.and_eq_true, decide_eq_true_eq] at h
    exact hpw 29 _ (u32_rng _) (by decide) (by decide) (by decide) (fun _ => hu v h.1.1) (by rw [h.2]; rfl)
  refine key _ _ _ (fun h _ => ?_) fun _ => ?_
  · simp only [Bool.and_eq_true, decide_eq_true_eq] at h
    exact hpw 33 _ (u32_rng _) (by decide) (by decide) (by decide) (fun _ => hu v h.1.1) (by rw [h.2]; rfl)
  refine key _ _ _ (fun h _ => ?_) fun _ => ?_
  · simp only [Bool.and_eq_true, decide_eq_true_eq] at h
    exact hpw 36 _ (u32_rng _) (by decide) (by decide) (by decide) (fun h => absurd h (by decide)) (by rw [h.2]; rfl)
  refine key _ _ _ (fun _ h => by cases h) fun hk => ?_
  simp only [Bool.or_eq_false_iff, Bool.not_eq_false', decide_eq_true_eq] at hk
  refine key _ _ _ (fun _ h => by cases h) fun hk3 => ?_
  simp only [Bool.not_eq_false'] at hk3
  refine key _ _ _ (fun h _ => hdeep _ (wdo_rng (hg.known _) hv) hk.1 hk.2 hk3 (.inl h)) fun _ => ?_
  refine key _ _ _ (fun _ h => by cases h) fun hs => ?_
  simp only [Bool.or_eq_false_iff, Bool.not_eq_false'] at hs
  refine key _ _ _ (fun _ _ => hdeep _ (u32_rng _) hk.1 hk.2 hk3 (.inr hs.1.1)) fun _ => ?_
  refine key _ _ _ (fun _ _ => hdeep _ ⟨by decide, by decide⟩ hk.1 hk.2 hk3 (.inr hs.1.1)) fun _ _ => ⟨by decide, by decide⟩
theorem tail_ok {D : List T} {M : Nat} {op a b : Int} {N : Nat} (hM : ChAll D M) (ha : In D a) (hnb : ((known D a).2 && (known D b).2) = false) (hN : (known D b).2 = false → 2 * M + 4 ≤ N) : StepOk D M op N (tail op a b) := by
  unfold tail
  split
  · rename_i h
    simp only [Bool.and_eq_true, decide_eq_true_eq, Bool.not_eq_true'] at h
    obtain ⟨rfl, h⟩ := h
    simp only [Bool.and_self] at hnb
    unfold twice at h ⊢
    split
    · exact ⟨by decide, by decide⟩
    · split
      · exact ha
      · split
        · refine ⟨⟨by decide, by decide⟩, by decide, by decide, ha, ?_⟩
          have e : psi 29 1 = 0 := by decide
          have := hN hnb
          unfold FuW
          rw [hnb]
          simp only [Bool.false_eq_true, if_false]
          exact ⟨M, Nat.le_refl _, hM _ _ ha, by rw [e]; omega⟩
        · rename_i h1 h2 h3
          simp [h1, h2, h3, St.isNo] at h
  · trivial
theorem made_stepOk {D : List T} {M : Nat} {op a b : Int} {N : Nat} (hD : Wf D) (hg : Rng D) (hM : ChAll D M) (ha : In D a) (hb : In D b) (ho : WhP.isOp op = true) (hfu : Fu D M op a b N) : StepOk D M op N (made D op a b) := by
  have hfu0 := hfu
  unfold Fu at hfu
  unfold made
  cases hl : (known D a).2 <;> cases hr : (known D b).2
  · rw [hl, hr] at hfu
    simp only [Bool.false_and, Bool.and_false, Bool.false_eq_true, if_false, Bool.not_false, Bool.true_and, Bool.false_or] at hfu ⊢
    split
    · rename_i h
      rw [if_pos h] at hfu
      simp only [Bool.and_eq_true, decide_eq_true_eq] at h
      refine ⟨rfl, hb, ha, ?_⟩
      have : ¬ b > a := by omega
      unfold Fu
      rw [hl, hr]
      simp only [Bool.false_and, Bool.and_false, Bool.false_eq_true, if_false, Bool.not_false, Bool.true_and, Bool.false_or, this, decide_false]
      omega
    · rename_i h
      rw [if_neg h] at hfu
      exact tail_ok hM ha (by rw [hl]; rfl) (fun _ => hfu)
  · rw [hl, hr] at hfu
    simp only [Bool.false_and, Bool.and_false, Bool.false_eq_true, if_false, Bool.not_false, Bool.not_true, Bool.false_or, Bool.and_true, Bool.true_and, Bool.false_and] at hfu ⊢
    split
    · rename_i h
      simp only [decide_eq_true_eq] at h
      refine ⟨u32_rng _, by decide, by decide, ha, ?_⟩
      subst h
      simp only [decide_true, Bool.not_true, Bool.false_eq_true, if_false] at hfu
      have := psi_le 27 (IntKind.u32.wrap (0 - (known D b).1))
      unfold FuW
      rw [hl]
      simp only [Bool.false_eq_true, if_false]
      exact ⟨M, Nat.le_refl _, hM _ _ ha, by omega⟩
    · rename_i h
      simp only [decide_eq_true_eq] at h
      split
      · rename_i hno
        simp only [Bool.not_eq_true'] at hno
        exact byWord_ok hD hg hM ha hb ho h hl hr hfu0 hno
      · exact tail_ok hM ha (by rw [hl]; rfl) (fun h => by rw [hr] at h; cases h)
  · rw [hl, hr] at hfu
    simp only [Bool.true_and, Bool.false_and, Bool.and_false, Bool.false_eq_true, if_false, Bool.not_false, Bool.not_true, Bool.false_and, Bool.or_false, Bool.and_true] at hfu ⊢
    split
    · rename_i h
      rw [if_pos h] at hfu
      refine ⟨rfl, hb, ha, ?_⟩
      have hbk := Fu.big hM (op := op) (a := b) (b := a) hb
      unfold Fu at hbk ⊢
      rw [hl, hr] at hbk ⊢
      simp only [Bool.false_and, Bool.true_and, Bool.false_eq_true, if_false, Bool.not_true, Bool.not_false, Bool.and_false, Bool.or_false, Bool.and_true] at hbk ⊢
      split
      · rename_i h2
        have := psi_le op (known D a).1
        unfold FuW
        rw [hr]
        simp only [Bool.false_eq_true, if_false]
        split
        · omega
        · exact ⟨M, Nat.le_refl _, hM _ _ hb, by omega⟩
      · omega
    · rename_i h
      rw [if_neg h] at hfu
      exact tail_ok hM ha (by rw [hr]; simp) (fun _ => hfu)
  · simp only [Bool.and_self, if_true]
    exact wdo_rng (hg.known a) (hg.known b)
theorem good : ∀ (N : Nat) (M : Nat) (D : List T) (op a b : Int), Wf D → Rng D → ChAll D M → In D a → In D b → WhP.isOp op = true → Fu D M op a b N → ∃ r, madeF N D op a b = some r ∧ Good D M r N
  | 0, M, D, op, a, b, _, _, _, _, _, _, h => by have := h.pos; omega
  | N + 1, M, D, op, a, b, hD, hg, hM, ha, hb, ho, h =>
    step_go (by omega) hD hg hM ha hb ho (made_stepOk hD hg hM ha hb ho h) fun D' o x y h1 h2 h3 h4 h5 h6 h7 => good N M D' o x y h1 h2 h3 h4 h5 h6 h7
theorem madeF_mono : ∀ (N M : Nat) (D : List T) (op a b : Int) (r : Int × List T), N ≤ M → madeF N D op a b = some r → madeF M D op a b = some r
  | 0, _, _, _, _, _, _, _, h => by cases h
  | N + 1, 0, _, _, _, _, _, hl, _ => by omega
  | N + 1, M + 1, D, op, a, b, r, hl, h => by
    simp only [madeF] at h ⊢
    cases hm : made D op a b with
    | no => rw [hm] at h; cases h
    | ret n => rw [hm] at h; exact h
    | const w => rw [hm] at h; exact h
    | opr => rw [hm] at h; exact h
    | goes o x w => rw [hm] at h; exact madeF_mono N M _ _ _ _ _ (by omega) h
    | call o x y => rw [hm] at h; exact madeF_mono N M _ _ _ _ _ (by omega) h
/-- what made answers, of terms that are not too deep -/
def mk (D : List T) (op a b : Int) : Int × List T := (madeF 405 D op a b).getD (0, D)
theorem mk_good {D : List T} {M : Nat} {op a b : Int} (hM2 : M ≤ 200) (hD : Wf D) (hg : Rng D) (hM : ChAll D M) (ha : In D a) (hb : In D b) (ho : WhP.isOp op = true) : madeF 405 D op a b = some (mk D op a b) ∧ Good D M (mk D op a b) (2 * M + 5) := by
  obtain ⟨r, hr, h⟩ := good _ M D op a b hD hg hM ha hb ho (Fu.big hM ha)
  have hr' := madeF_mono _ 405 D op a b r (by omega) hr
  unfold mk
  rw [hr']
  exact ⟨rfl, h⟩
end Wh.WhS
namespace Wh.WhL
open Go WhS
def startN (D : List T) : Nat → List Int × List T
  | 0 => ([], D)
  | n + 1 => ((startN D n).1 ++ [(WhD.var (startN D n).2 n).1], (WhD.var (startN D n).2 n).2.2)
def reg (xs : List Int) (r : Int) : Int := (xs[r.toNat]?).getD 0
def up (i : X) : Int := IntKind.u32.wrap (IntKind.u32.wrap i.imm * 2 ^ 12)
def oneF (D : List T) (xs : List Int) (i : X) (pc : Int) : Int × List T :=
  if i.op = 0 then addT D (K (up i)) else if i.op = 1 then addT D (K (IntKind.u32.wrap (up i + pc)))
  else if (WhI.plain i.op).2 then mk (addT D (K (IntKind.u32.wrap i.imm))).2 (WhI.plain i.op).1 (reg xs i.rs1) (addT D (K (IntKind.u32.wrap i.imm))).1
  else mk D i.op (reg xs i.rs1) (reg xs i.rs2)
def setF (xs : List Int) (i : X) (n : Int) : List Int := if i.rd = 0 then xs else xs.set i.rd.toNat n
/-- terms, registers, a place: behind an instruction -/
def stepF (s : List T × List Int × Int) (i : X) : List T × List Int × Int := ((oneF s.1 s.2.1 i s.2.2).2, setF s.2.1 i (oneF s.1 s.2.1 i s.2.2).1, IntKind.u32.wrap (s.2.2 + 4))
def runF (l : List X) (D : List T) (xs : List Int) (pc : Int) : List T × List Int × Int := l.foldl stepF (D, xs, pc)
theorem runF_take (l : List X) (D : List T) (xs : List Int) (pc : Int) {j : Nat} {x : X} (h : l[j]? = some x) : runF (l.take (j + 1)) D xs pc = stepF (runF (l.take j) D xs pc) x := by
  rw [List.take_add_one, h]
  simp [runF, List.foldl_append]
/-- registers' terms that may be -/
structure Ok (D : List T) (M : Nat) (xs : List Int) : Prop where
  wf : Wf D
  rng : Rng D
  ch : ChAll D M
  len : xs.length = 32
  inn : ∀ n ∈ xs, In D n
theorem Ok.reg {D : List T} {M : Nat} {xs : List Int} (h : Ok D M xs) {r : Int} (h0 : 0 ≤ r) (h1 : r ≤ 31) : xs[r.toNat]? = some (reg xs r) ∧ In D (reg xs r) := by
  have hl : r.toNat < xs.length := by have := h.len; omega
  have e : xs[r.toNat]? = some xs[r.toNat] := List.getElem?_eq_getElem hl
  simp only [WhL.reg, e, Option.getD_some, true_and]
  exact h.inn _ (List.getElem_mem hl)
theorem register_rng {b : Bool} {n : Int} (h : WhI.register b n = true) : 0 ≤ n ∧ n ≤ 31 := by
  simp [WhI.register, WhI.between] at h
  omega
theorem lplain_regs {i : X} (h : WhI.lplain i = true) : (0 ≤ i.rd ∧ i.rd ≤ 31) ∧ (0 ≤ i.rs1 ∧ i.rs1 ≤ 31) ∧ (0 ≤ i.rs2 ∧ i.rs2 ≤ 31) := by
  simp only [WhI.lplain, WhI.right, Bool.and_eq_true] at h
  exact ⟨register_rng h.1.1.1.1.2, register_rng h.1.1.1.2, register_rng h.1.1.2⟩
theorem plain_isOp {op : Int} (h : (WhI.plain op).2 = true) : WhP.isOp (WhI.plain op).1 = true := by
  unfold WhI.plain at h ⊢
  have key : ∀ (c : Prop) [Decidable c] (x y : Int × Bool), (x.2 = true → WhP.isOp x.1 = true) → (y.2 = true → WhP.isOp y.1 = true) → (if c then x else y).2 = true → WhP.isOp (if c then x else y).1 = true := by
    intro c _ x y hx hy
    split
    · exact hx
    · exact hy
  revert h
  repeat' refine key _ _ _ ?_ ?_
  all_goals intro h
  all_goals first | decide | cases h
theorem form_isOp {op : Int} (h : WhI.form op = 82) : WhP.isOp op = true := by
  unfold WhI.form at h
  split at h
  · omega
  · rename_i hn
    have hall : ∀ n : Nat, n < 47 → WhI.formN n = 82 → 27 ≤ n ∧ n ≤ 44 := by decide
    have := hall op.toNat (by omega) h
    simp [WhP.isOp]
    omega
theorem lplain_op {i : X} (h : WhI.lplain i = true) (h0 : i.op ≠ 0) (h1 : i.op ≠ 1) (hp : (WhI.plain i.op).2 = false) : WhP.isOp i.op = true := by
  simp only [WhI.lplain, Bool.and_eq_true, Bool.or_eq_true, decide_eq_true_eq, hp, Bool.false_eq_true, false_or] at h
  rcases h.2 with (h2 | h2) | h2
  · exact absurd h2 h0
  · exact absurd h2 h1
  · exact form_isOp h2
theorem Ok.addK {D : List T} {M : Nat} {xs : List Int} (h : Ok D M xs) {w : Int} (hw : 0 ≤ w ∧ w < 4294967296) : Ok (addT D (K w)).2 M xs :=
  ⟨h.wf.add (K_ok _ w), h.rng.add hw, h.ch.addK h.wf w, h.len, fun n hn => (h.inn n hn).ext (addT_ext _ _)⟩
theorem Ok.mono {D : List T} {M M' : Nat} {xs : List Int} (h : Ok D M xs) (hm : M ≤ M') : Ok D M' xs := ⟨h.wf, h.rng, fun o n hn => (h.ch o n hn).mono hm, h.len, h.inn⟩
/-- one instruction -/
theorem one_ok {D : List T} {M : Nat} {xs : List Int} (hM : M ≤ 200) (h : Ok D M xs) {i : X} (hi : WhI.lplain i = true) (pc : Int) :
    Good D M (oneF D xs i pc) (2 * M + 6) := by
  obtain ⟨hrd, hr1, hr2⟩ := lplain_regs hi
  unfold oneF
  split
  · exact add_good h.wf h.rng (K_ok _ _) (u32_rng _) h.ch (by omega)
  · split
    · exact add_good h.wf h.rng (K_ok _ _) (u32_rng _) h.ch (by omega)
    · split
      · rename_i hp
        have h' := h.addK (u32_rng i.imm)
        have g := (mk_good hM h'.wf h'.rng h'.ch (h'.reg hr1.1 hr1.2).2 (addT_in D (K (IntKind.u32.wrap i.imm))).1 (plain_isOp hp)).2
        exact ⟨g.ch, (addT_ext _ _).trans g.ext, g.wf, g.rng, g.inn, by have := g.len; have := addT_len D (K (IntKind.u32.wrap i.imm)); omega⟩
      · rename_i h0 h1 hp
        have g := (mk_good hM h.wf h.rng h.ch (h.reg hr1.1 hr1.2).2 (h.reg hr2.1 hr2.2).2 (lplain_op hi h0 h1 (by simpa using hp))).2
        exact ⟨g.ch, g.ext, g.wf, g.rng, g.inn, by have := g.len; omega⟩
theorem Ok.step {D : List T} {M : Nat} {xs : List Int} (hM : M ≤ 200) (h : Ok D M xs) {i : X} (hi : WhI.lplain i = true) (pc : Int) : Ok (oneF D xs i pc).2 (M + 1) (setF xs i (oneF D xs i pc).1) := by
  have g := one_ok hM h hi pc
  refine ⟨g.wf, g.rng, g.ch, ?_, ?_⟩
  · unfold setF
    split <;> simp [h.len]
  · intro n hn
    unfold setF at hn
    split at hn
    · exact (h.inn n hn).ext g.ext
    · rcases List.mem_or_eq_of_mem_set hn with h1 | rfl
      · exact (h.inn n h1).ext g.ext
      · exact g.inn
theorem startN_len (D : List T) : ∀ n, (startN D n).1.length = n
  | 0 => rfl
  | n + 1 => by simp [startN, startN_len D n]
theorem var_len (D : List T) (n : Int) : (WhD.var D n).2.2.length ≤ D.length + 1 := by
  unfold WhD.var
  repeat' split
  all_goals first | exact addT_len _ _ | simp
theorem startN_dlen (D : List T) : ∀ n, (startN D n).2.length ≤ D.length + n
  | 0 => by simp [startN]
  | n + 1 => by have := startN_dlen D n; have := var_len (startN D n).2 n; simp only [startN]; omega
/-- what stands in the array on the way -/
def startX (D : List T) (n : Nat) : List Int := (startN D n).1 ++ List.replicate (32 - n) 0
theorem startX_set (D : List T) {n : Nat} (h : n < 32) : (startX D n).set n (WhD.var (startN D n).2 n).1 = startX D (n + 1) := by
  unfold startX
  have hl := startN_len D n
  rw [List.set_append_right _ _ (by omega), hl, Nat.sub_self]
  have e : 32 - n = (32 - (n + 1)) + 1 := by omega
  rw [e, List.replicate_succ, List.set_cons_zero]
  simp [startN]
theorem startX_len (D : List T) {n : Nat} (h : n ≤ 32) : (startX D n).length = 32 := by
  simp [startX, startN_len]
  omega
theorem startX_end (D : List T) : startX D 32 = (startN D 32).1 := by simp [startX]
theorem vI_one (xs : List Int) : (vI xs).toList.all (·.oneCell') = true := by
  simp [vI, i64v, Value.oneCell']
theorem var_ok {D : List T} {M : Nat} (hD : Wf D) (hg : Rng D) (hc : ChAll D M) {n : Int} (h0 : 0 ≤ n) (h1 : n < 32) :
    Wf (WhD.var D n).2.2 ∧ Rng (WhD.var D n).2.2 ∧ ChAll (WhD.var D n).2.2 M ∧ Ext D (WhD.var D n).2.2 ∧ In (WhD.var D n).2.2 (WhD.var D n).1 := by
  unfold WhD.var
  rw [if_neg (by omega)]
  split
  · exact ⟨hD.add (K_ok _ 0), hg.add ⟨by decide, by decide⟩, hc.addK hD 0, addT_ext _ _, (addT_in _ _).1⟩
  · have hw : IntKind.u32.wrap n = n := by
      have h : (2 : Int) ^ 32 = 4294967296 := by decide
      simp only [IntKind.wrap, IntKind.bits, IntKind.signed, h, Bool.false_and]
      simp
      omega
    refine ⟨hD.add (.inr (.inl ⟨rfl, by rw [hw]; exact h1⟩)), hg.add (u32_rng _), ?_, addT_ext _ _, (addT_in _ _).1⟩
    intro op m hm
    rcases addT_all _ hm with h2 | h2
    · exact (hc op m h2).ext hD (addT_ext D _) h2
    · refine ChLe.mono (Nat.zero_le _) (?_ : ¬ Lk _ op m)
      unfold Lk
      rw [h2]
      simp
theorem startN_ok {D : List T} {M : Nat} (hD : Wf D) (hg : Rng D) (hc : ChAll D M) : ∀ n, n ≤ 32 → Wf (startN D n).2 ∧ Rng (startN D n).2 ∧ ChAll (startN D n).2 M ∧ Ext D (startN D n).2 ∧ ∀ m ∈ (startN D n).1, In (startN D n).2 m
  | 0, _ => ⟨hD, hg, hc, Ext.refl D, by simp [startN]⟩
  | n + 1, h => by
    obtain ⟨h1, h2, h3, h4, h5⟩ := startN_ok hD hg hc n (by omega)
    obtain ⟨k1, k2, k3, k4, k5⟩ := var_ok h1 h2 h3 (n := n) (by omega) (by omega)
    refine ⟨k1, k2, k3, h4.trans k4, ?_⟩
    intro m hm
    simp only [startN, List.mem_append, List.mem_singleton] at hm
    rcases hm with hm | rfl
    · exact (h5 m hm).ext k4
    · exact k5
theorem start_ok {D : List T} {M : Nat} (hD : Wf D) (hg : Rng D) (hc : ChAll D M) : Ok (startN D 32).2 M (startN D 32).1 := by
  obtain ⟨h1, h2, h3, _, h5⟩ := startN_ok hD hg hc 32 (Nat.le_refl _)
  exact ⟨h1, h2, h3, startN_len D 32, h5⟩
theorem runF_ok {M : Nat} : ∀ (l : List X) (D : List T) (xs : List Int) (pc : Int), M + l.length ≤ 200 → Ok D M xs → l.all WhI.lplain = true →
    Ok (runF l D xs pc).1 (M + l.length) (runF l D xs pc).2.1 ∧ (runF l D xs pc).1.length ≤ D.length + 500 * l.length ∧ Ext D (runF l D xs pc).1 := by
  intro l D xs pc hM h hall
  have key : ∀ j, j ≤ l.length → Ok (runF (l.take j) D xs pc).1 (M + j) (runF (l.take j) D xs pc).2.1 ∧ (runF (l.take j) D xs pc).1.length ≤ D.length + 500 * j ∧ Ext D (runF (l.take j) D xs pc).1 := by
    intro j
    induction j with
    | zero => intro _; exact ⟨h, by simp [runF], by simpa [runF] using Ext.refl D⟩
    | succ j ih =>
      intro hj
      obtain ⟨h1, h2, h3⟩ := ih (by omega)
      have hg : l[j]? = some l[j] := List.getElem?_eq_getElem (by omega)
      have hp : WhI.lplain l[j] = true := (List.all_eq_true.1 hall) _ (List.getElem_mem _)
      rw [runF_take l D xs pc hg]
      have g := one_ok (by omega) h1 hp (runF (l.take j) D xs pc).2.2
      refine ⟨h1.step (by omega) hp _, ?_, h3.trans g.ext⟩
      have := g.len
      simp only [stepF]
      omega
  have := key l.length (Nat.le_refl _)
  rwa [List.take_length] at this
def fromF (D : List T) (xs : List Int) (l : List X) (pc : Int) : List Int × Int × List T :=
  if !xs.all (WhD.is D) then (List.replicate 32 0, 100, D) else if !l.all WhI.lplain then (List.replicate 32 0, 120, D) else ((runF l D xs pc).2.1, 0, (runF l D xs pc).1)
def blockF (D : List T) (l : List X) (pc : Int) : List Int × Int × List T :=
  if !l.all WhI.lplain then (List.replicate 32 0, 120, D) else fromF (startN D 32).2 (startN D 32).1 l pc
theorem setF_get {xs : List Int} {i : X} {n : Int} {r : Nat} (h : i.rd = 0 ∨ i.rd.toNat ≠ r) : (setF xs i n)[r]? = xs[r]? := by
  unfold setF
  split
  · rfl
  · rename_i h0
    rcases h with h | h
    · exact absurd h h0
    · rw [List.getElem?_set_ne h]
theorem foldF_get {r : Nat} : ∀ (l : List X) (s : List T × List Int × Int), (∀ i ∈ l, i.rd = 0 ∨ i.rd.toNat ≠ r) → (l.foldl stepF s).2.1[r]? = s.2.1[r]?
  | [], s, _ => rfl
  | i :: l, s, h => by
    rw [List.foldl_cons, foldF_get l (stepF s i) (fun j hj => h j (List.mem_cons_of_mem _ hj))]
    exact setF_get (h i List.mem_cons_self)
theorem runF_get {r : Nat} (l : List X) (D : List T) (xs : List Int) (pc : Int) (h : ∀ i ∈ l, i.rd = 0 ∨ i.rd.toNat ≠ r) : (runF l D xs pc).2.1[r]? = xs[r]? := foldF_get l (D, xs, pc) h
end Wh.WhL
namespace Wh.WhX
open Go WhL WhS
def l3 : List X := [⟨18, 1, 0, 0, 5⟩, ⟨27, 2, 1, 1, 0⟩, ⟨1, 3, 0, 0, 1⟩]
def xsC : List Int := [0, 32, 33, 34, 4, 5, 6, 7, 8, 9, 10, 11, 12, 13, 14, 15, 16, 17, 18, 19, 20, 21, 22, 23, 24, 25, 26, 27, 28, 29, 30, 31]
def dC : List T := [⟨0, 0, 0, 0, 0⟩, ⟨1, 1, 0, 0, 0⟩, ⟨1, 2, 0, 0, 0⟩, ⟨1, 3, 0, 0, 0⟩, ⟨1, 4, 0, 0, 0⟩, ⟨1, 5, 0, 0, 0⟩, ⟨1, 6, 0, 0, 0⟩, ⟨1, 7, 0, 0, 0⟩, ⟨1, 8, 0, 0, 0⟩, ⟨1, 9, 0, 0, 0⟩, ⟨1, 10, 0, 0, 0⟩, ⟨1, 11, 0, 0, 0⟩, ⟨1, 12, 0, 0, 0⟩, ⟨1, 13, 0, 0, 0⟩, ⟨1, 14, 0, 0, 0⟩, ⟨1, 15, 0, 0, 0⟩, ⟨1, 16, 0, 0, 0⟩, ⟨1, 17, 0, 0, 0⟩, ⟨1, 18, 0, 0, 0⟩, ⟨1, 19, 0, 0, 0⟩, ⟨1, 20, 0, 0, 0⟩, ⟨1, 21, 0, 0, 0⟩, ⟨1, 22, 0, 0, 0⟩, ⟨1, 23, 0, 0, 0⟩, ⟨1, 24, 0, 0, 0⟩, ⟨1, 25, 0, 0, 0⟩, ⟨1, 26, 0, 0, 0⟩, ⟨1, 27, 0, 0, 0⟩, ⟨1, 28, 0, 0, 0⟩, ⟨1, 29, 0, 0, 0⟩, ⟨1, 30, 0, 0, 0⟩, ⟨1, 31, 0, 0, 0⟩, ⟨0, 5, 0, 0, 0⟩, ⟨0, 10, 0, 0, 0⟩, ⟨0, 4360, 0, 0, 0⟩]
theorem block3 : blockF [] l3 256 = (xsC, 0, dC) := by kernel_rfl
theorem block1 : blockF dC [⟨45, 0, 0, 0, 0⟩] 0 = (List.replicate 32 0, 120, dC) := by kernel_rfl
theorem from0 : fromF dC (-1 :: List.replicate 31 0) [] 0 = (List.replicate 32 0, 100, dC) := by kernel_rfl
theorem wf0 : Wf [] := by intro i t h; simp at h
theorem rng0 : Rng [] := by intro t h; simp at h
theorem ch0 (M : Nat) : ChAll [] M := by intro op n h; have h1 := h.1; have h2 := h.2; simp at h2; omega
theorem rngC : Rng dC := by
  have h : dC.all (fun t => decide (0 ≤ t.v) && decide (t.v < 4294967296)) = true := by kernel_rfl
  intro t ht
  have := (List.all_eq_true.1 h) t ht
  simpa using this
theorem kindC : dC.all (fun t => decide (t.kind = 0) || (decide (t.kind = 1) && decide (t.v < 32))) = true := by kernel_rfl
theorem wfC : Wf dC := by
  intro i t ht
  have := (List.all_eq_true.1 kindC) t (List.mem_of_getElem? ht)
  simp only [Bool.or_eq_true, Bool.and_eq_true, decide_eq_true_eq] at this
  rcases this with h | h
  · exact .inl h
  · exact .inr (.inl h)
theorem chC (M : Nat) : ChAll dC M := by
  intro op n h
  refine ChLe.mono (Nat.zero_le _) (?_ : ¬ Lk _ op n)
  rintro ⟨hk, _⟩
  have hl : n.toNat < dC.length := by have := h.1; have := h.2; omega
  have hg : dC[n.toNat]? = some dC[n.toNat] := List.getElem?_eq_getElem hl
  have e : (WhD.node dC n).1 = dC[n.toNat] := by simp [WhD.node, h.is, hg]
  rw [e] at hk
  have := (List.all_eq_true.1 kindC) _ (List.getElem_mem hl)
  simp only [Bool.or_eq_true, Bool.and_eq_true, decide_eq_true_eq] at this
  omega
end Wh.WhX
