/- made comes to an end, and keeps the terms in order. -/
import Derived.Test.YtjdckpeoinkafaaGreatDoorSp
import Derived.Test.YtjdckpeoinkafaaGreatDoorPlainW1
set_option linter.all false
namespace Wh.WhS
open Go
def Ext (D D' : List T) : Prop := ∃ E, D' = D ++ E
theorem Ext.refl (D : List T) : Ext D D := ⟨[], by simp⟩
theorem Ext.trans {A B C : List T} (h : Ext A B) (k : Ext B C) : Ext A C := by
  obtain ⟨E, rfl⟩ := h
  obtain ⟨F, rfl⟩ := k
  exact ⟨E ++ F, by simp⟩
theorem addT_ext (D : List T) (t : T) : Ext D (addT D t).2 := by
  unfold addT
  split
  · exact Ext.refl D
  · exact ⟨[t], rfl⟩
def In (D : List T) (n : Int) : Prop := 0 ≤ n ∧ n < D.length
theorem In.is {D : List T} {n : Int} (h : In D n) : WhD.is D n = true := by simp [WhD.is, h.1, h.2]
theorem Ext.len {D D' : List T} (h : Ext D D') : D.length ≤ D'.length := by
  obtain ⟨E, rfl⟩ := h
  simp
theorem In.ext {D D' : List T} {n : Int} (h : In D n) (e : Ext D D') : In D' n := ⟨h.1, by have := e.len; have := h.2; omega⟩
theorem node_ext {D D' : List T} {n : Int} (e : Ext D D') (h : In D n) : WhD.node D' n = WhD.node D n := by
  have h' := h.ext e
  obtain ⟨E, rfl⟩ := e
  have hl : n.toNat < D.length := by have := h.1; have := h.2; omega
  simp only [WhD.node, h.is, h'.is, if_true]
  rw [List.getElem?_append_left hl]
theorem addT_in (D : List T) (t : T) : In (addT D t).2 (addT D t).1 ∧ WhD.node (addT D t).2 (addT D t).1 = (t, 0) := by
  unfold addT
  split
  · rename_i i hi
    have := numb_some 0 D t i hi
    have h3 : D[i.toNat]? = some t := by simpa using this.2.2
    have hin : In D i := ⟨by have := this.1; omega, by have := this.2.1; omega⟩
    refine ⟨hin, ?_⟩
    simp [WhD.node, hin.is, h3]
  · have hin : In (D ++ [t]) (D.length : Int) := ⟨by omega, by simp; omega⟩
    refine ⟨hin, ?_⟩
    simp [WhD.node, hin.is]
/-- a term that may stand at a place -/
def TOk (i : Nat) (t : T) : Prop := t.kind = 0 ∨ (t.kind = 1 ∧ t.v < 32) ∨ (t.kind = 2 ∧ WhP.isOp t.op = true ∧ 0 ≤ t.a ∧ t.a < i ∧ 0 ≤ t.b ∧ t.b < i)
def Wf (D : List T) : Prop := ∀ i t, D[i]? = some t → TOk i t
theorem Wf.add {D : List T} (h : Wf D) {t : T} (ht : TOk D.length t) : Wf (addT D t).2 := by
  unfold addT
  split
  · exact h
  · intro i u hu
    rcases Nat.lt_or_ge i D.length with hi | hi
    · exact h i u (by rwa [List.getElem?_append_left hi] at hu)
    · rw [List.getElem?_append_right hi] at hu
      rcases Nat.lt_or_ge (i - D.length) 1 with h1 | h1
      · have : i = D.length := by omega
        subst this
        simp at hu
        subst hu
        exact ht
      · rw [List.getElem?_eq_none (by simpa using h1)] at hu
        cases hu
theorem Wf.node {D : List T} (h : Wf D) {n : Int} (hn : In D n) : TOk n.toNat (WhD.node D n).1 := by
  have hl : n.toNat < D.length := by have := hn.1; have := hn.2; omega
  simp only [WhD.node, hn.is, if_true]
  rw [List.getElem?_eq_getElem hl]
  exact h _ _ (List.getElem?_eq_getElem hl)
theorem known_ext {D D' : List T} {n : Int} (e : Ext D D') (h : In D n) : known D' n = known D n := by simp only [known, node_ext e h]
theorem known_K (D : List T) (w : Int) : known (addT D (K w)).2 (addT D (K w)).1 = (w, true) := by
  simp only [known, (addT_in D (K w)).2]
  rfl
theorem isOp_wdo {op : Int} (h : WhP.isOp op = true) : (WhI.wdo op 0 0).2 = 0 := by
  simp only [WhP.isOp, Bool.and_eq_true, decide_eq_true_eq] at h
  have : op = 27 ∨ op = 28 ∨ op = 29 ∨ op = 30 ∨ op = 31 ∨ op = 32 ∨ op = 33 ∨ op = 34 ∨ op = 35 ∨ op = 36 ∨ op = 37 ∨ op = 38 ∨ op = 39 ∨ op = 40 ∨ op = 41 ∨ op = 42 ∨ op = 43 ∨ op = 44 := by omega
  rcases this with h | h | h | h | h | h | h | h | h | h | h | h | h | h | h | h | h | h <;> subst h <;> rfl
/-- a term that is a reckoning with a word -/
def Lk (D : List T) (op n : Int) : Prop := (WhD.node D n).1.kind = 2 ∧ (WhD.node D n).1.op = op ∧ (known D (WhD.node D n).1.b).2 = true
/-- at most so many of one kind, one upon another -/
def ChLe (D : List T) (op : Int) : Nat → Int → Prop
  | 0, n => ¬ Lk D op n
  | k + 1, n => Lk D op n → ChLe D op k (WhD.node D n).1.a
def ChAll (D : List T) (M : Nat) : Prop := ∀ op n, In D n → ChLe D op M n
theorem ChLe.mono {D : List T} {op : Int} : ∀ {k m : Nat} {n : Int}, k ≤ m → ChLe D op k n → ChLe D op m n
  | 0, 0, _, _, h => h
  | 0, m + 1, _, _, h => fun hl => absurd hl h
  | k + 1, 0, _, hkm, _ => by omega
  | k + 1, m + 1, _, hkm, h => fun hl => ChLe.mono (by omega) (h hl)
theorem ChLe.ext {D D' : List T} (hD : Wf D) (e : Ext D D') {op : Int} : ∀ {k : Nat} {n : Int}, In D n → ChLe D op k n → ChLe D' op k n
  | 0, n, hn, h => by
    intro hl
    refine h ?_
    unfold Lk at hl ⊢
    rw [node_ext e hn] at hl
    refine ⟨hl.1, hl.2.1, ?_⟩
    rcases hD.node hn with h1 | ⟨h1, _⟩ | ⟨_, _, h1, h2, h3, h4⟩
    · omega
    · omega
    · have := hn.2; have := hn.1
      rw [← known_ext e ⟨h3, by omega⟩]
      exact hl.2.2
  | k + 1, n, hn, h => by
    intro hl
    have hl' : Lk D op n ∧ In D (WhD.node D n).1.a := by
      unfold Lk at hl ⊢
      rw [node_ext e hn] at hl
      rcases hD.node hn with h1 | ⟨h1, _⟩ | ⟨_, _, h1, h2, h3, h4⟩
      · omega
      · omega
      · have := hn.2; have := hn.1
        refine ⟨⟨hl.1, hl.2.1, ?_⟩, ⟨h1, by omega⟩⟩
        rw [← known_ext e ⟨h3, by omega⟩]
        exact hl.2.2
    rw [node_ext e hn]
    exact ChLe.ext hD e hl'.2 (h hl'.1)
theorem addT_all {D : List T} (t : T) {n : Int} (h : In (addT D t).2 n) : In D n ∨ WhD.node (addT D t).2 n = (t, 0) := by
  have hin := addT_in D t
  revert hin h
  unfold addT
  split
  · intro h _; exact .inl h
  · intro h hin
    rcases Int.lt_or_le n D.length with hl | hl
    · exact .inl ⟨h.1, hl⟩
    · have h2 := h.2
      simp only [List.length_append, List.length_cons, List.length_nil] at h2
      have : n = D.length := by omega
      subst this
      exact .inr hin.2
theorem ChAll.addK {D : List T} {M : Nat} (hD : Wf D) (h : ChAll D M) (w : Int) : ChAll (addT D (K w)).2 M := by
  intro op n hn
  rcases addT_all (K w) hn with h1 | h1
  · exact (h op n h1).ext hD (addT_ext D _) h1
  · have : ¬ Lk (addT D (K w)).2 op n := by
      unfold Lk
      rw [h1]
      simp [K]
    exact ChLe.mono (Nat.zero_le _) this
theorem ChAll.add {D : List T} {M : Nat} (hD : Wf D) (h : ChAll D M) {t : T} (ha : t.kind = 2 → In D t.a) : ChAll (addT D t).2 (M + 1) := by
  intro op n hn
  rcases addT_all t hn with h1 | h1
  · exact ((h op n h1).ext hD (addT_ext D _) h1).mono (by omega)
  · intro hl
    rw [h1]
    have hk : t.kind = 2 := by
      have := hl.1
      rwa [h1] at this
    exact (h op _ (ha hk)).ext hD (addT_ext D _) (ha hk)
/-- what a reckoning with a word may still cost -/
def psi (op v : Int) : Nat := if shift op = true ∧ 32 ≤ v then 1 else 0
theorem psi_le (op v : Int) : psi op v ≤ 1 := by unfold psi; split <;> omega
def big (op : Int) : Bool := decide (op = 44) || decide (op = 37) || decide (op = 42)
def FuW (D : List T) (M : Nat) (op a v : Int) (N : Nat) : Prop :=
  if (known D a).2 then 1 ≤ N else if big op then 2 * M + 3 ≤ N else ∃ k, k ≤ M ∧ ChLe D op k a ∧ 2 * k + psi op v + 1 ≤ N
/-- so many steps are enough -/
def Fu (D : List T) (M : Nat) (op a b : Int) (N : Nat) : Prop :=
  if (known D b).2 && !decide (op = 28) then FuW D M op a (known D b).1 N
  else if (known D a).2 && (known D b).2 then 1 ≤ N
  else if turns op && (((known D a).2 && !(known D b).2) || (!(known D a).2 && !(known D b).2 && decide (a > b))) then 2 * M + 5 ≤ N
  else 2 * M + 4 ≤ N
theorem Fu.big {D : List T} {M : Nat} (hM : ChAll D M) {op a b : Int} (ha : In D a) : Fu D M op a b (2 * M + 5) := by
  unfold Fu FuW
  have := psi_le op (known D b).1
  repeat' split
  all_goals first | omega | exact ⟨M, Nat.le_refl _, hM op a ha, by omega⟩
theorem Fu.pos {D : List T} {M : Nat} {op a b : Int} {N : Nat} (h : Fu D M op a b N) : 1 ≤ N := by
  revert h
  unfold Fu FuW
  repeat' split
  all_goals intro h
  all_goals first | omega | (obtain ⟨k, _, _, h⟩ := h; omega)
/-- a step that goes on: what it goes on with may be, and costs less -/
structure Good (D : List T) (M : Nat) (r : Int × List T) (N : Nat) : Prop where
  ch : ChAll r.2 (M + 1)
  ext : Ext D r.2
  wf : Wf r.2
  rng : Rng r.2
  inn : In r.2 r.1
  len : r.2.length ≤ D.length + N
theorem K_ok (i : Nat) (w : Int) : TOk i (K w) := .inl rfl
theorem add_good {D : List T} (hw : Wf D) (hg : Rng D) {t : T} (ht : TOk D.length t) (hv : 0 ≤ t.v ∧ t.v < 4294967296) {M : Nat} (hM : ChAll D M) {N : Nat} (hN : 1 ≤ N) : Good D M (addT D t) N :=
  ⟨hM.add hw (fun hk => by
    rcases ht with h | ⟨h, _⟩ | ⟨_, _, h1, h2, _⟩
    · omega
    · omega
    · exact ⟨h1, h2⟩), addT_ext D t, hw.add ht, hg.add hv, (addT_in D t).1, by have := addT_len D t; omega⟩
/-- what a step of made may be -/
def StepOk (D : List T) (M : Nat) (op : Int) (N : Nat) : St → Prop
  | .no => False
  | .ret n => In D n
  | .const w => 0 ≤ w ∧ w < 4294967296
  | .goes o x w => (0 ≤ w ∧ w < 4294967296) ∧ WhP.isOp o = true ∧ o ≠ 28 ∧ In D x ∧ FuW D M o x w (N - 1)
  | .call o x y => o = op ∧ In D x ∧ In D y ∧ Fu D M o x y (N - 1)
  | .opr => True
theorem step_go {D : List T} {M : Nat} {op a b : Int} {N : Nat} (hN : 1 ≤ N) (hD : Wf D) (hg : Rng D) (hM : ChAll D M) (ha : In D a) (hb : In D b) (ho : WhP.isOp op = true) (hs : StepOk D M op N (made D op a b))
    (ih : ∀ D' o x y, Wf D' → Rng D' → ChAll D' M → In D' x → In D' y → WhP.isOp o = true → Fu D' M o x y (N - 1) → ∃ r, madeF (N - 1) D' o x y = some r ∧ Good D' M r (N - 1)) :
    ∃ r, exec (madeF (N - 1)) D op a b (made D op a b) = some r ∧ Good D M r N := by
  cases hm : made D op a b with
  | no => rw [hm] at hs; exact hs.elim
  | ret n => rw [hm] at hs; exact ⟨_, rfl, ⟨fun o m hm => (hM o m hm).mono (by omega), Ext.refl D, hD, hg, hs, by simp⟩⟩
  | const w => rw [hm] at hs; exact ⟨_, rfl, add_good hD hg (K_ok _ w) hs hM hN⟩
  | goes o x w =>
    rw [hm] at hs
    obtain ⟨hw, ho', h28, hx, hfu⟩ := hs
    have hk := known_K D w
    have hn : Fu (addT D (K w)).2 M o x (addT D (K w)).1 (N - 1) := by
      unfold Fu
      rw [hk]
      simp only [h28, decide_false, Bool.not_false, Bool.and_self, if_true]
      unfold FuW at hfu ⊢
      rw [known_ext (addT_ext D (K w)) hx]
      split
      · rename_i h; rwa [if_pos h] at hfu
      · rename_i h
        rw [if_neg h] at hfu
        split
        · rename_i h2; rwa [if_pos h2] at hfu
        · rename_i h2
          rw [if_neg h2] at hfu
          obtain ⟨k, h3, h4, h5⟩ := hfu
          exact ⟨k, h3, h4.ext hD (addT_ext D _) hx, h5⟩
    obtain ⟨r, hr, h⟩ := ih _ o x _ (hD.add (K_ok _ w)) (hg.add hw) (hM.addK hD w) (hx.ext (addT_ext D (K w))) (addT_in D (K w)).1 ho' hn
    exact ⟨r, hr, ⟨h.ch, (addT_ext D (K w)).trans h.ext, h.wf, h.rng, h.inn, by have := h.len; have := addT_len D (K w); omega⟩⟩
  | call o x y =>
    rw [hm] at hs
    obtain ⟨rfl, hx, hy, hfu⟩ := hs
    obtain ⟨r, hr, h⟩ := ih D o x y hD hg hM hx hy ho hfu
    exact ⟨r, hr, ⟨h.ch, h.ext, h.wf, h.rng, h.inn, by have := h.len; omega⟩⟩
  | opr =>
    refine ⟨_, rfl, ?_⟩
    have e : WhD.op D op a b = ((addT D ⟨2, 0, op, a, b⟩).1, 0, (addT D ⟨2, 0, op, a, b⟩).2) := by
      simp [WhD.op, ha.is, hb.is, isOp_wdo ho]
    simp only [e]
    have := ha.1; have := ha.2; have := hb.1; have := hb.2
    exact add_good hD hg (.inr (.inr ⟨rfl, ho, by omega, by omega, by omega, by omega⟩)) ⟨Int.le_refl 0, (by decide : (0 : Int) < 4294967296)⟩ hM hN
/-- the steps are what they may be -/
theorem byWord_ok {D : List T} {M : Nat} {op a b : Int} {N : Nat} (hD : Wf D) (hg : Rng D) (hM : ChAll D M) (ha : In D a) (hb : In D b) (ho : WhP.isOp op = true) (h28 : op ≠ 28) (hka : (known D a).2 = false) (hkb : (known D b).2 = true)
    (hfu : Fu D M op a b N) (hno : (byWord D op a b (known D b).1).isNo = false) : StepOk D M op N (byWord D op a b (known D b).1) := by
  have hv := hg.known b
  have hneed : if big op then 2 * M + 3 ≤ N else ∃ k, k ≤ M ∧ ChLe D op k a ∧ 2 * k + psi op (known D b).1 + 1 ≤ N := by
    simpa [Fu, FuW, hka, hkb, h28] using hfu
  clear hfu
  generalize hvv : (known D b).1 = v at *
  have hdeep : ∀ w, 0 ≤ w ∧ w < 4294967296 → (WhD.node D a).1.kind = 2 → (WhD.node D a).1.op = op → (known D (WhD.node D a).1.b).2 = true → (among op [27, 36, 35, 32] = true ∨ shift op = true) → StepOk D M op N (.goes op (WhD.node D a).1.a w) := by
    intro w hw hk1 hk2 hk3 hk4
    have ht := hD.node ha
    rcases ht with h | ⟨h, _⟩ | ⟨_, _, h1, h2, _⟩
    · omega
    · omega
    · have := ha.1; have := ha.2
      refine ⟨hw, ho, h28, ⟨h1, by omega⟩, ?_⟩
      have hps := psi_le op w
      have hbg : big op = false := by
        simp [among, shift] at hk4
        simp [big]
        omega
      rw [hbg] at hneed
      simp only [Bool.false_eq_true, if_false] at hneed
      obtain ⟨k, h3, h4, h5⟩ := hneed
      unfold FuW
      rw [hbg]
      simp only [Bool.false_eq_true, if_false]
      cases k with
      | zero => exact absurd ⟨hk1, hk2, hk3⟩ h4
      | succ k =>
        split
        · omega
        · exact ⟨k, by omega, h4 ⟨hk1, hk2, hk3⟩, by omega⟩
  have key : ∀ (c : Bool) (x y : St), (c = true → x.isNo = false → StepOk D M op N x) → (c = false → y.isNo = false → StepOk D M op N y) → (if c = true then x else y).isNo = false → StepOk D M op N (if c = true then x else y) := by
    intro c x y h1 h2 h
    cases c
    · exact h2 rfl h
    · exact h1 rfl h
  have htz : ∀ w, one w = true → 0 ≤ tz w ∧ tz w < 32 := by
    intro w hw
    simp only [one, Bool.and_eq_true, Bool.not_eq_true', decide_eq_false_iff_not] at hw
    have hz := tzi_rng w
    have hall : ∀ i, i < 32 → 0 ≤ tabN i ∧ tabN i < 32 := by decide
    simp only [tz, if_neg hw.1]
    exact hall _ (by omega)
  have hpw : ∀ o w, 0 ≤ w ∧ w < 4294967296 → WhP.isOp o = true → o ≠ 28 → big o = false → (shift o = true → w < 32) → big op = true → StepOk D M op N (.goes o a w) := by
    intro o w hw h3 h4 h5 h6 h7
    refine ⟨hw, h3, h4, ha, ?_⟩
    unfold FuW
    rw [hka, h5]
    simp only [Bool.false_eq_true, if_false]
    rw [h7] at hneed
    simp only [if_true] at hneed
    have : psi o w = 0 := by
      unfold psi
      rw [if_neg]
      rintro ⟨h8, h9⟩
      have := h6 h8
      omega
    exact ⟨M, Nat.le_refl _, hM o a ha, by omega⟩
  have hu : ∀ w, one w = true → IntKind.u32.wrap (tz w) < 32 := by
    intro w hw
    have h32 := htz w hw
    have h : (2 : Int) ^ 32 = 4294967296 := by decide
    simp only [IntKind.wrap, IntKind.bits, IntKind.signed, h, Bool.false_and]
    simp
    omega
  unfold byWord at hno ⊢
  revert hno
  refine key _ _ _ (fun _ _ => ha) fun _ => ?_
  refine key _ _ _ (fun _ _ => ⟨by decide, by decide⟩) fun _ => ?_
  refine key _ _ _ (fun _ _ => hb) fun _ => ?_
  refine key _ _ _ (fun _ _ => ha) fun h4 => ?_
  refine key _ _ _ (fun h5 _ => ?_) fun _ => ?_
  · simp only [Bool.and_eq_true, decide_eq_true_eq] at h5
    refine ⟨tmod_rng hv, ho, h28, ha, ?_⟩
    have hbg : big op = false := by
      have := h5.1
      simp [shift, among] at this
      simp [big]
      omega
    rw [hbg] at hneed
    simp only [Bool.false_eq_true, if_false] at hneed
    obtain ⟨k, h6, h7, h8⟩ := hneed
    have e1 : psi op (v.tmod 32) = 0 := by
      unfold psi
      rw [if_neg]
      rw [Int.tmod_eq_emod_of_nonneg hv.1]
      omega
    have e2 : psi op v = 1 := by unfold psi; rw [if_pos h5]
    unfold FuW
    rw [hka, hbg]
    simp only [Bool.false_eq_true, if_false]
    exact ⟨k, h6, h7, by omega⟩
  refine key _ _ _ (fun h _ => ?_) fun _ => ?_
  · simp only [Bool.and_eq_true, decide_eq_true_eq] at h
    exact hpw 29 _ (u32_rng _) (by decide) (by decide) (by decide) (fun _ => hu v h.1.1) (by rw [h.2]; rfl)
  refine key _ _ _ (fun h _ => ?_) fun _ => ?_
  · simp only [Bool.and_eq_true, decide_eq_true_eq] at h
    exact hpw 33 _ (u32_rng _) (by decide) (by decide) (by decide) (fun _ => hu v h.1.1) (by rw [h.2]; rfl)
  refine key _ _ _ (fun h _ => ?_) fun _ => ?_
  · simp only [Bool.and_eq_true, decide_eq_true_eq] at h
    exact hpw 36 _ (u32_rng _) (by decide) (by decide) (by decide) (fun h => absurd h (by decide)) (by rw [h.2]; rfl)
  refine key _ _ _ (fun _ h => by cases h) fun hk => ?_
  simp only [Bool.or_eq_false_iff, Bool.not_eq_false', decide_eq_true_eq] at hk
  refine key _ _ _ (fun _ h => by cases h) fun hk3 => ?_
  simp only [Bool.not_eq_false'] at hk3
  refine key _ _ _ (fun h _ => hdeep _ (wdo_rng (hg.known _) hv) hk.1 hk.2 hk3 (.inl h)) fun _ => ?_
  refine key _ _ _ (fun _ h => by cases h) fun hs => ?_
  simp only [Bool.or_eq_false_iff, Bool.not_eq_false'] at hs
  refine key _ _ _ (fun _ _ => hdeep _ (u32_rng _) hk.1 hk.2 hk3 (.inr hs.1.1)) fun _ => ?_
  refine key _ _ _ (fun _ _ => hdeep _ ⟨by decide, by decide⟩ hk.1 hk.2 hk3 (.inr hs.1.1)) fun _ _ => ⟨by decide, by decide⟩
theorem tail_ok {D : List T} {M : Nat} {op a b : Int} {N : Nat} (hM : ChAll D M) (ha : In D a) (hnb : ((known D a).2 && (known D b).2) = false) (hN : (known D b).2 = false → 2 * M + 4 ≤ N) : StepOk D M op N (tail op a b) := by
  unfold tail
  split
  · rename_i h
    simp only [Bool.and_eq_true, decide_eq_true_eq, Bool.not_eq_true'] at h
    obtain ⟨rfl, h⟩ := h
    simp only [Bool.and_self] at hnb
    unfold twice at h ⊢
    split
    · exact ⟨by decide, by decide⟩
    · split
      · exact ha
      · split
        · refine ⟨⟨by decide, by decide⟩, by decide, by decide, ha, ?_⟩
          have e : psi 29 1 = 0 := by decide
          have := hN hnb
          unfold FuW
          rw [hnb]
          simp only [Bool.false_eq_true, if_false]
          exact ⟨M, Nat.le_refl _, hM _ _ ha, by rw [e]; omega⟩
        · rename_i h1 h2 h3
          simp [h1, h2, h3, St.isNo] at h
  · trivial
theorem made_stepOk {D : List T} {M : Nat} {op a b : Int} {N : Nat} (hD : Wf D) (hg : Rng D) (hM : ChAll D M) (ha : In D a) (hb : In D b) (ho : WhP.isOp op = true) (hfu : Fu D M op a b N) : StepOk D M op N (made D op a b) := by
  have hfu0 := hfu
  unfold Fu at hfu
  unfold made
  cases hl : (known D a).2 <;> cases hr : (known D b).2
  · rw [hl, hr] at hfu
    simp only [Bool.false_and, Bool.and_false, Bool.false_eq_true, if_false, Bool.not_false, Bool.true_and, Bool.false_or] at hfu ⊢
    split
    · rename_i h
      rw [if_pos h] at hfu
      simp only [Bool.and_eq_true, decide_eq_true_eq] at h
      refine ⟨rfl, hb, ha, ?_⟩
      have : ¬ b > a := by omega
      unfold Fu
      rw [hl, hr]
      simp only [Bool.false_and, Bool.and_false, Bool.false_eq_true, if_false, Bool.not_false, Bool.true_and, Bool.false_or, this, decide_false]
      omega
    · rename_i h
      rw [if_neg h] at hfu
      exact tail_ok hM ha (by rw [hl]; rfl) (fun _ => hfu)
  · rw [hl, hr] at hfu
    simp only [Bool.false_and, Bool.and_false, Bool.false_eq_true, if_false, Bool.not_false, Bool.not_true, Bool.false_or, Bool.and_true, Bool.true_and, Bool.false_and] at hfu ⊢
    split
    · rename_i h
      simp only [decide_eq_true_eq] at h
      refine ⟨u32_rng _, by decide, by decide, ha, ?_⟩
      subst h
      simp only [decide_true, Bool.not_true, Bool.false_eq_true, if_false] at hfu
      have := psi_le 27 (IntKind.u32.wrap (0 - (known D b).1))
      unfold FuW
      rw [hl]
      simp only [Bool.false_eq_true, if_false]
      exact ⟨M, Nat.le_refl _, hM _ _ ha, by omega⟩
    · rename_i h
      simp only [decide_eq_true_eq] at h
      split
      · rename_i hno
        simp only [Bool.not_eq_true'] at hno
        exact byWord_ok hD hg hM ha hb ho h hl hr hfu0 hno
      · exact tail_ok hM ha (by rw [hl]; rfl) (fun h => by rw [hr] at h; cases h)
  · rw [hl, hr] at hfu
    simp only [Bool.true_and, Bool.false_and, Bool.and_false, Bool.false_eq_true, if_false, Bool.not_false, Bool.not_true, Bool.false_and, Bool.or_false, Bool.and_true] at hfu ⊢
    split
    · rename_i h
      rw [if_pos h] at hfu
      refine ⟨rfl, hb, ha, ?_⟩
      have hbk := Fu.big hM (op := op) (a := b) (b := a) hb
      unfold Fu at hbk ⊢
      rw [hl, hr] at hbk ⊢
      simp only [Bool.false_and, Bool.true_and, Bool.false_eq_true, if_false, Bool.not_true, Bool.not_false, Bool.and_false, Bool.or_false, Bool.and_true] at hbk ⊢
      split
      · rename_i h2
        have := psi_le op (known D a).1
        unfold FuW
        rw [hr]
        simp only [Bool.false_eq_true, if_false]
        split
        · omega
        · exact ⟨M, Nat.le_refl _, hM _ _ hb, by omega⟩
      · omega
    · rename_i h
      rw [if_neg h] at hfu
      exact tail_ok hM ha (by rw [hr]; simp) (fun _ => hfu)
  · simp only [Bool.and_self, if_true]
    exact wdo_rng (hg.known a) (hg.known b)
theorem good : ∀ (N : Nat) (M : Nat) (D : List T) (op a b : Int), Wf D → Rng D → ChAll D M → In D a → In D b → WhP.isOp op = true → Fu D M op a b N → ∃ r, madeF N D op a b = some r ∧ Good D M r N
  | 0, M, D, op, a, b, _, _, _, _, _, _, h => by have := h.pos; omega
  | N + 1, M, D, op, a, b, hD, hg, hM, ha, hb, ho, h =>
    step_go (by omega) hD hg hM ha hb ho (made_stepOk hD hg hM ha hb ho h) fun D' o x y h1 h2 h3 h4 h5 h6 h7 => good N M D' o x y h1 h2 h3 h4 h5 h6 h7
theorem madeF_mono : ∀ (N M : Nat) (D : List T) (op a b : Int) (r : Int × List T), N ≤ M → madeF N D op a b = some r → madeF M D op a b = some r
  | 0, _, _, _, _, _, _, _, h => by cases h
  | N + 1, 0, _, _, _, _, _, hl, _ => by omega
  | N + 1, M + 1, D, op, a, b, r, hl, h => by
    simp only [madeF] at h ⊢
    cases hm : made D op a b with
    | no => rw [hm] at h; cases h
    | ret n => rw [hm] at h; exact h
    | const w => rw [hm] at h; exact h
    | opr => rw [hm] at h; exact h
    | goes o x w => rw [hm] at h; exact madeF_mono N M _ _ _ _ _ (by omega) h
    | call o x y => rw [hm] at h; exact madeF_mono N M _ _ _ _ _ (by omega) h
/-- what made answers, of terms that are not too deep -/
def mk (D : List T) (op a b : Int) : Int × List T := (madeF 405 D op a b).getD (0, D)
theorem mk_good {D : List T} {M : Nat} {op a b : Int} (hM2 : M ≤ 200) (hD : Wf D) (hg : Rng D) (hM : ChAll D M) (ha : In D a) (hb : In D b) (ho : WhP.isOp op = true) : madeF 405 D op a b = some (mk D op a b) ∧ Good D M (mk D op a b) (2 * M + 5) := by
  obtain ⟨r, hr, h⟩ := good _ M D op a b hD hg hM ha hb ho (Fu.big hM ha)
  have hr' := madeF_mono _ 405 D op a b r (by omega) hr
  unfold mk
  rw [hr']
  exact ⟨rfl, h⟩
end Wh.WhS
