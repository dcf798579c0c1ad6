/- What terms come to. -/
import Derived.Test.YtjdckpeoinkafaaGreatDoorFwM
import Derived.Test.YtjdckpeoinkafaaGreatDoorLw
set_option linter.all false
namespace Wh.WhE
open Go WhS
def look (l : List Int) (k : Int) : Int := (l[k.toNat]?).getD 0
def evT (x l : List Int) (t : T) : Int :=
  if t.kind = 0 then t.v else if t.kind = 1 then (x[t.v.toNat]?).getD 0 else (WhI.wdo t.op (look l t.a) (look l t.b)).1
/-- the values of terms, one after the other -/
def vals (x : List Int) : List T → List Int → List Int
  | [], l => l
  | t :: D, l => vals x D (l ++ [evT x l t])
def valF (D : List T) (x : List Int) (k : Int) : Int := look (vals x D []) k
theorem vals_app (x : List Int) : ∀ (D E : List T) (l : List Int), vals x (D ++ E) l = vals x E (vals x D l)
  | [], _, _ => rfl
  | t :: D, E, l => by simp [vals, vals_app x D E]
theorem vals_pre (x : List Int) : ∀ (D : List T) (l : List Int), ∃ m, vals x D l = l ++ m ∧ m.length = D.length
  | [], l => ⟨[], by simp [vals]⟩
  | t :: D, l => by
    obtain ⟨m, h1, h2⟩ := vals_pre x D (l ++ [evT x l t])
    exact ⟨evT x l t :: m, by simp [vals, h1], by simp [h2]⟩
theorem vals_len (x : List Int) (D : List T) : (vals x D []).length = D.length := by
  obtain ⟨m, h1, h2⟩ := vals_pre x D []
  rw [h1]; simpa using h2
theorem valF_ext {D D' : List T} {x : List Int} {n : Int} (e : Ext D D') (h : In D n) : valF D' x n = valF D x n := by
  obtain ⟨E, rfl⟩ := e
  have hl := vals_len x D
  have h1 := h.1; have h2 := h.2
  unfold valF look
  rw [vals_app]
  obtain ⟨m, h3, _⟩ := vals_pre x E (vals x D [])
  rw [h3, List.getElem?_append_left (by omega)]
theorem look_pre (x : List Int) (D E : List T) {k : Int} (h : In D k) : look (vals x (D ++ E) []) k = look (vals x D []) k := valF_ext ⟨E, rfl⟩ h
/-- what a term comes to, by its parts -/
theorem valF_node {D : List T} (hD : Wf D) (x : List Int) {n : Int} (h : In D n) : valF D x n =
    if (WhD.node D n).1.kind = 0 then (WhD.node D n).1.v else if (WhD.node D n).1.kind = 1 then (x[(WhD.node D n).1.v.toNat]?).getD 0
    else (WhI.wdo (WhD.node D n).1.op (valF D x (WhD.node D n).1.a) (valF D x (WhD.node D n).1.b)).1 := by
  have h1 := h.1; have h2 := h.2
  have hl : n.toNat < D.length := by omega
  have ht := hD.node h
  have hn : (WhD.node D n).1 = D[n.toNat] := by simp [WhD.node, h.is, List.getElem?_eq_getElem hl]
  rw [hn] at ht ⊢
  have hsplit : D = D.take n.toNat ++ (D[n.toNat] :: D.drop (n.toNat + 1)) := by
    rw [← List.drop_eq_getElem_cons hl, List.take_append_drop]
  have htl : (D.take n.toNat).length = n.toNat := by simp; omega
  have hv : valF D x n = evT x (vals x (D.take n.toNat) []) D[n.toNat] := by
    conv => lhs; rw [hsplit]
    unfold valF look
    rw [vals_app]
    simp only [vals]
    obtain ⟨m, h3, _⟩ := vals_pre x (D.drop (n.toNat + 1)) (vals x (D.take n.toNat) [] ++ [evT x (vals x (D.take n.toNat) []) D[n.toNat]])
    rw [h3]
    have hvl := vals_len x (D.take n.toNat)
    rw [List.append_assoc, List.getElem?_append_right (by omega), hvl, htl, Nat.sub_self]
    rfl
  rw [hv]
  unfold evT
  split
  · rfl
  · split
    · rfl
    · rename_i h0 h1'
      rcases ht with h3 | ⟨h3, _⟩ | ⟨_, _, ha, hb, hc, hd⟩
      · exact absurd h3 h0
      · exact absurd h3 h1'
      · have ka : look (vals x (D.take n.toNat) []) D[n.toNat].a = valF D x D[n.toNat].a := (valF_ext ⟨_, hsplit⟩ ⟨ha, by rw [htl]; omega⟩).symm
        have kb : look (vals x (D.take n.toNat) []) D[n.toNat].b = valF D x D[n.toNat].b := (valF_ext ⟨_, hsplit⟩ ⟨hc, by rw [htl]; omega⟩).symm
        rw [ka, kb]
theorem valF_rng {D : List T} (hD : Wf D) (hg : Rng D) {x : List Int} (hx : ∀ v ∈ x, 0 ≤ v ∧ v < 4294967296) : ∀ (m : Nat) (n : Int), n.toNat < m → In D n → 0 ≤ valF D x n ∧ valF D x n < 4294967296
  | 0, _, h, _ => by omega
  | m + 1, n, hm, h => by
    rw [valF_node hD x h]
    split
    · exact hg.node n
    · split
      · cases hq : x[(WhD.node D n).1.v.toNat]? with
        | none => simp
        | some v => simpa using hx v (List.mem_of_getElem? hq)
      · rename_i h0 h1'
        have h1 := h.1; have h2 := h.2
        rcases hD.node h with h3 | ⟨h3, _⟩ | ⟨_, _, ha, hb, hc, hd⟩
        · exact absurd h3 h0
        · exact absurd h3 h1'
        · exact wdo_rng (valF_rng hD hg hx m _ (by omega) ⟨ha, by omega⟩) (valF_rng hD hg hx m _ (by omega) ⟨hc, by omega⟩)
theorem valF_rng' {D : List T} (hD : Wf D) (hg : Rng D) {x : List Int} (hx : ∀ v ∈ x, 0 ≤ v ∧ v < 4294967296) {n : Int} (h : In D n) : 0 ≤ valF D x n ∧ valF D x n < 4294967296 := valF_rng hD hg hx (n.toNat + 1) n (by omega) h
/-! what is reckoned over the keys -/
def keys (l : List (Int × Bool)) : List Int := l.map (·.1)
theorem aput_keys {a : Int} {b : Bool} : ∀ (l : List (Int × Bool)) (k : Int), k ∈ keys (aput a b l) ↔ k = a ∨ k ∈ keys l
  | [], k => by simp [aput, keys]
  | (k', v) :: l, k => by
    simp only [aput]
    split
    · rename_i e
      subst e
      simp [keys]
    · have := aput_keys (a := a) (b := b) l k
      simp only [keys, List.map_cons, List.mem_cons] at this ⊢
      rw [this]
      constructor
      · rintro (h | h | h)
        · exact .inr (.inl h)
        · exact .inl h
        · exact .inr (.inr h)
      · rintro (h | h | h)
        · exact .inr (.inl h)
        · exact .inl h
        · exact .inr (.inr h)
theorem alook_true {l : List (Int × Bool)} (ht : ∀ q ∈ l, q.2 = true) {k : Int} (h : k ∈ keys l) : alook k l = some true := by
  induction l with
  | nil => simp [keys] at h
  | cons p l ih =>
    obtain ⟨k', v⟩ := p
    simp only [alook]
    split
    · have := ht _ List.mem_cons_self
      simp only at this
      rw [this]
    · rename_i e
      simp only [keys, List.map_cons, List.mem_cons] at h
      rcases h with h | h
      · exact absurd h.symm e
      · exact ih (fun q hq => ht q (List.mem_cons_of_mem _ hq)) h
theorem aput_true {a : Int} : ∀ {l : List (Int × Bool)}, (∀ q ∈ l, q.2 = true) → ∀ q ∈ aput a true l, q.2 = true
  | [], _, q, h => by simp [aput] at h; subst h; rfl
  | (k', v) :: l, ht, q, h => by
    simp only [aput] at h
    split at h
    · rcases List.mem_cons.1 h with rfl | h
      · rfl
      · exact ht q (List.mem_cons_of_mem _ h)
    · rcases List.mem_cons.1 h with rfl | h
      · exact ht _ List.mem_cons_self
      · exact aput_true (fun q hq => ht q (List.mem_cons_of_mem _ hq)) q h
/-- from a number on, what a key's term has is a key -/
def Cl (D : List T) (m : Int) (l : List (Int × Bool)) : Prop := ∀ k ∈ keys l, m ≤ k → (WhD.node D k).1.kind = 2 → (WhD.node D k).1.a ∈ keys l ∧ (WhD.node D k).1.b ∈ keys l
theorem seenG_cl {D : List T} (hD : Wf D) : ∀ (m : Nat) (l : List (Int × Bool)), (∀ q ∈ l, q.2 = true) → (∀ k ∈ keys l, In D k) → Cl D m l →
    Cl D 0 (seenG D m l) ∧ (∀ k ∈ keys l, k ∈ keys (seenG D m l)) ∧ ∀ k ∈ keys (seenG D m l), In D k
  | 0, l, _, hin, hc => ⟨hc, fun _ h => h, hin⟩
  | m + 1, l, ht, hin, hc => by
    have hstep : (∀ q ∈ seenStep D m l, q.2 = true) ∧ (∀ k ∈ keys l, k ∈ keys (seenStep D m l)) ∧ (∀ k ∈ keys (seenStep D m l), In D k) ∧ Cl D m (seenStep D m l) := by
      by_cases hcond : alook (m : Int) l = some true ∧ (WhD.node D m).1.kind = 2
      · have e : seenStep D m l = aput (WhD.node D m).1.b true (aput (WhD.node D m).1.a true l) := by unfold seenStep; rw [if_pos hcond]
        have hm : In D (m : Int) := hin _ (List.mem_map.2 ⟨_, by
          have : ∀ {l : List (Int × Bool)}, alook (m : Int) l = some true → ((m : Int), true) ∈ l := by
            intro l
            induction l with
            | nil => intro h; cases h
            | cons p l ih =>
              obtain ⟨k', v⟩ := p
              intro h
              simp only [alook] at h
              split at h
              · rename_i e; cases h; rw [e]; exact List.mem_cons_self
              · exact List.mem_cons_of_mem _ (ih h)
          exact this hcond.1, rfl⟩)
        have h2 := hm.2
        obtain ⟨ha, hb, hc', hd⟩ : 0 ≤ (WhD.node D m).1.a ∧ (WhD.node D m).1.a < m ∧ 0 ≤ (WhD.node D m).1.b ∧ (WhD.node D m).1.b < m := by
          rcases hD.node hm with h3 | ⟨h3, _⟩ | ⟨_, _, ha, hb, hc, hd⟩
          · omega
          · omega
          · simp at hb hd
            exact ⟨ha, hb, hc, hd⟩
        rw [e]
        refine ⟨aput_true (aput_true ht), fun k hk => ?_, fun k hk => ?_, fun k hk hmk hkind => ?_⟩
        · rw [aput_keys, aput_keys]; exact .inr (.inr hk)
        · rw [aput_keys, aput_keys] at hk
          rcases hk with rfl | rfl | hk
          · exact ⟨hc', by omega⟩
          · exact ⟨ha, by omega⟩
          · exact hin k hk
        · rw [aput_keys, aput_keys] at hk
          rcases hk with rfl | rfl | hk
          · omega
          · omega
          · by_cases hke : k = m
            · subst hke
              refine ⟨?_, ?_⟩ <;> rw [aput_keys, aput_keys]
              · exact .inr (.inl rfl)
              · exact .inl rfl
            · have := hc k hk (by omega) hkind
              refine ⟨?_, ?_⟩ <;> rw [aput_keys, aput_keys]
              · exact .inr (.inr this.1)
              · exact .inr (.inr this.2)
      · have e : seenStep D m l = l := by unfold seenStep; rw [if_neg hcond]
        rw [e]
        refine ⟨ht, fun _ h => h, hin, fun k hk hmk hkind => ?_⟩
        by_cases hke : k = m
        · subst hke
          exact absurd ⟨alook_true ht hk, hkind⟩ hcond
        · exact hc k hk (by omega) hkind
    obtain ⟨h1, h2, h3, h4⟩ := hstep
    obtain ⟨k1, k2, k3⟩ := seenG_cl hD m (seenStep D m l) h1 h3 h4
    exact ⟨k1, fun k hk => k2 k (h2 k hk), k3⟩
/-- reckoned in rising order over closed keys: the terms' values -/
theorem evalF_valF {D : List T} (hD : Wf D) {x : List Int} {ks : List Int} (hin : ∀ k ∈ ks, In D k) (hs : ks.Pairwise (fun a b => a ≤ b)) (hc : ∀ k ∈ ks, (WhD.node D k).1.kind = 2 → (WhD.node D k).1.a ∈ ks ∧ (WhD.node D k).1.b ∈ ks) :
    ∀ j, j ≤ ks.length → ∀ k ∈ ks.take j, mg (evalF D x (ks.take j)) k = valF D x k := by
  intro j
  induction j with
  | zero => intro _ k hk; simp at hk
  | succ j ih =>
    intro hj k hk
    have hg : ks[j]? = some ks[j] := List.getElem?_eq_getElem (by omega)
    have hih := ih (by omega)
    rw [evalF_take D x ks hg]
    unfold evStep
    rw [mg_put]
    split
    · rename_i e
      subst e
      have hkin : In D ks[j] := hin _ (List.getElem_mem _)
      rw [valF_node hD x hkin]
      unfold evVal
      split
      · rfl
      · split
        · rfl
        · rename_i h0 h1
          rcases hD.node hkin with h3 | ⟨h3, _⟩ | ⟨h3, _, ha, hb, hcc, hd⟩
          · exact absurd h3 h0
          · exact absurd h3 h1
          · have hcl := hc _ (List.getElem_mem (by omega)) h3
            have hlt : ∀ a ∈ ks, a < ks[j] → a ∈ ks.take j := by
              intro a ha hal
              obtain ⟨i, hi, rfl⟩ := List.getElem_of_mem ha
              rcases Nat.lt_or_ge i j with h | h
              · rw [List.mem_iff_getElem]
                exact ⟨i, by simp; omega, by simp⟩
              · exfalso
                rcases Nat.lt_or_ge j i with h' | h'
                · have := List.pairwise_iff_getElem.1 hs j i (by omega) hi h'
                  omega
                · have : i = j := by omega
                  subst this
                  omega
            have hk1 := hkin.1
            rw [hih _ (hlt _ hcl.1 (by omega)), hih _ (hlt _ hcl.2 (by omega))]
    · rename_i e
      rw [List.take_add_one, hg] at hk
      simp only [Option.toList_some, List.mem_append, List.mem_singleton] at hk
      rcases hk with hk | rfl
      · exact hih k hk
      · exact absurd rfl e
theorem eval_val {D : List T} (hD : Wf D) {x ss : List Int} {n : Int} (hn : In D n) (hp : ss.Perm ((seenG D (n.toNat + 1) [(n, true)]).map (·.1))) :
    mg (evalF D x (ss.mergeSort (fun x y => decide (x ≤ y)))) n = valF D x n := by
  have h1 := hn.1
  obtain ⟨c1, c2, c3⟩ := seenG_cl hD (n.toNat + 1) [(n, true)] (by simp) (by intro k hk; simp [keys] at hk; subst hk; exact hn) (by
    intro k hk hm _
    simp [keys] at hk
    omega)
  have hpm := List.mergeSort_perm ss (fun x y => decide (x ≤ y))
  have hmem : ∀ k, k ∈ ss.mergeSort (fun x y => decide (x ≤ y)) ↔ k ∈ keys (seenG D (n.toNat + 1) [(n, true)]) := fun k => (hpm.mem_iff).trans hp.mem_iff
  have hsort : (ss.mergeSort (fun x y => decide (x ≤ y))).Pairwise (fun a b => a ≤ b) := by
    have := List.pairwise_mergeSort (le := fun x y : Int => decide (x ≤ y)) (fun a b c h1 h2 => by simp at h1 h2 ⊢; omega) (fun a b => by simp; omega) ss
    exact this.imp (fun h => by simpa using h)
  have := evalF_valF hD (x := x) (ks := ss.mergeSort (fun x y => decide (x ≤ y))) (fun k hk => c3 k ((hmem k).1 hk)) hsort (fun k hk hkind => by
    have h := c1 k ((hmem k).1 hk) (c3 k ((hmem k).1 hk)).1 hkind
    exact ⟨(hmem _).2 h.1, (hmem _).2 h.2⟩) _ (Nat.le_refl _) n (by
    rw [List.take_length]
    exact (hmem n).2 (c2 n (by simp [keys])))
  rwa [List.take_length] at this
end Wh.WhE
