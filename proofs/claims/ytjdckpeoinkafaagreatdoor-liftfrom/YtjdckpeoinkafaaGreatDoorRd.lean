/- What terms come to. -/
import Derived.Test.YtjdckpeoinkafaaGreatDoorSp
import Derived.Test.YtjdckpeoinkafaaGreatDoorFx
import Derived.Test.YtjdckpeoinkafaaGreatDoorFwQ
set_option linter.all false
namespace Wh.WhE
open Go WhS
def look (l : List Int) (k : Int) : Int := (l[k.toNat]?).getD 0
def evT (x l : List Int) (t : T) : Int :=
  if t.kind = 0 then t.v else if t.kind = 1 then (x[t.v.toNat]?).getD 0 else (WhI.wdo t.op (look l t.a) (look l t.b)).1
/-- the values of terms, one after the other -/
def vals (x : List Int) : List T → List Int → List Int
  | [], l => l
  | t :: D, l => vals x D (l ++ [evT x l t])
def valF (D : List T) (x : List Int) (k : Int) : Int := look (vals x D []) k
theorem vals_app (x : List Int) : ∀ (D E : List T) (l : List Int), vals x (D ++ E) l = vals x E (vals x D l)
  | [], _, _ => rfl
  | t :: D, E, l => by simp [vals, vals_app x D E]
theorem vals_pre (x : List Int) : ∀ (D : List T) (l : List Int), ∃ m, vals x D l = l ++ m ∧ m.length = D.length
  | [], l => ⟨[], by simp [vals]⟩
  | t :: D, l => by
    obtain ⟨m, h1, h2⟩ := vals_pre x D (l ++ [evT x l t])
    exact ⟨evT x l t :: m, by simp [vals, h1], by simp [h2]⟩
theorem vals_len (x : List Int) (D : List T) : (vals x D []).length = D.length := by
  obtain ⟨m, h1, h2⟩ := vals_pre x D []
  rw [h1]; simpa using h2
theorem valF_ext {D D' : List T} {x : List Int} {n : Int} (e : Ext D D') (h : In D n) : valF D' x n = valF D x n := by
  obtain ⟨E, rfl⟩ := e
  have hl := vals_len x D
  have h1 := h.1; have h2 := h.2
  unfold valF look
  rw [vals_app]
  obtain ⟨m, h3, _⟩ := vals_pre x E (vals x D [])
  rw [h3, List.getElem?_append_left (by omega)]
theorem look_pre (x : List Int) (D E : List T) {k : Int} (h : In D k) : look (vals x (D ++ E) []) k = look (vals x D []) k := valF_ext ⟨E, rfl⟩ h
/-- what a term comes to, by its parts -/
theorem valF_node {D : List T} (hD : Wf D) (x : List Int) {n : Int} (h : In D n) : valF D x n =
    if (WhD.node D n).1.kind = 0 then (WhD.node D n).1.v else if (WhD.node D n).1.kind = 1 then (x[(WhD.node D n).1.v.toNat]?).getD 0
    else (WhI.wdo (WhD.node D n).1.op (valF D x (WhD.node D n).1.a) (valF D x (WhD.node D n).1.b)).1 := by
  have h1 := h.1; have h2 := h.2
  have hl : n.toNat < D.length := by omega
  have ht := hD.node h
  have hn : (WhD.node D n).1 = D[n.toNat] := by simp [WhD.node, h.is, List.getElem?_eq_getElem hl]
  rw [hn] at ht ⊢
  have hsplit : D = D.take n.toNat ++ (D[n.toNat] :: D.drop (n.toNat + 1)) := by
    rw [← List.drop_eq_getElem_cons hl, List.take_append_drop]
  have htl : (D.take n.toNat).length = n.toNat := by simp; omega
  have hv : valF D x n = evT x (vals x (D.take n.toNat) []) D[n.toNat] := by
    conv => lhs; rw [hsplit]
    unfold valF look
    rw [vals_app]
    simp only [vals]
    obtain ⟨m, h3, _⟩ := vals_pre x (D.drop (n.toNat + 1)) (vals x (D.take n.toNat) [] ++ [evT x (vals x (D.take n.toNat) []) D[n.toNat]])
    rw [h3]
    have hvl := vals_len x (D.take n.toNat)
    rw [List.append_assoc, List.getElem?_append_right (by omega), hvl, htl, Nat.sub_self]
    rfl
  rw [hv]
  unfold evT
  split
  · rfl
  · split
    · rfl
    · rename_i h0 h1'
      rcases ht with h3 | ⟨h3, _⟩ | ⟨_, _, ha, hb, hc, hd⟩
      · exact absurd h3 h0
      · exact absurd h3 h1'
      · have ka : look (vals x (D.take n.toNat) []) D[n.toNat].a = valF D x D[n.toNat].a := (valF_ext ⟨_, hsplit⟩ ⟨ha, by rw [htl]; omega⟩).symm
        have kb : look (vals x (D.take n.toNat) []) D[n.toNat].b = valF D x D[n.toNat].b := (valF_ext ⟨_, hsplit⟩ ⟨hc, by rw [htl]; omega⟩).symm
        rw [ka, kb]
theorem valF_rng {D : List T} (hD : Wf D) (hg : Rng D) {x : List Int} (hx : ∀ v ∈ x, 0 ≤ v ∧ v < 4294967296) : ∀ (m : Nat) (n : Int), n.toNat < m → In D n → 0 ≤ valF D x n ∧ valF D x n < 4294967296
  | 0, _, h, _ => by omega
  | m + 1, n, hm, h => by
    rw [valF_node hD x h]
    split
    · exact hg.node n
    · split
      · cases hq : x[(WhD.node D n).1.v.toNat]? with
        | none => simp
        | some v => simpa using hx v (List.mem_of_getElem? hq)
      · rename_i h0 h1'
        have h1 := h.1; have h2 := h.2
        rcases hD.node h with h3 | ⟨h3, _⟩ | ⟨_, _, ha, hb, hc, hd⟩
        · exact absurd h3 h0
        · exact absurd h3 h1'
        · exact wdo_rng (valF_rng hD hg hx m _ (by omega) ⟨ha, by omega⟩) (valF_rng hD hg hx m _ (by omega) ⟨hc, by omega⟩)
theorem valF_rng' {D : List T} (hD : Wf D) (hg : Rng D) {x : List Int} (hx : ∀ v ∈ x, 0 ≤ v ∧ v < 4294967296) {n : Int} (h : In D n) : 0 ≤ valF D x n ∧ valF D x n < 4294967296 := valF_rng hD hg hx (n.toNat + 1) n (by omega) h
/-! what is reckoned over the keys -/
def keys (l : List (Int × Bool)) : List Int := l.map (·.1)
theorem aput_keys {a : Int} {b : Bool} : ∀ (l : List (Int × Bool)) (k : Int), k ∈ keys (aput a b l) ↔ k = a ∨ k ∈ keys l
  | [], k => by simp [aput, keys]
  | (k', v) :: l, k => by
    simp only [aput]
    split
    · rename_i e
      subst e
      simp [keys]
    · have := aput_keys (a := a) (b := b) l k
      simp only [keys, List.map_cons, List.mem_cons] at this ⊢
      rw [this]
      constructor
      · rintro (h | h | h)
        · exact .inr (.inl h)
        · exact .inl h
        · exact .inr (.inr h)
      · rintro (h | h | h)
        · exact .inr (.inl h)
        · exact .inl h
        · exact .inr (.inr h)
theorem alook_true {l : List (Int × Bool)} (ht : ∀ q ∈ l, q.2 = true) {k : Int} (h : k ∈ keys l) : alook k l = some true := by
  induction l with
  | nil => simp [keys] at h
  | cons p l ih =>
    obtain ⟨k', v⟩ := p
    simp only [alook]
    split
    · have := ht _ List.mem_cons_self
      simp only at this
      rw [this]
    · rename_i e
      simp only [keys, List.map_cons, List.mem_cons] at h
      rcases h with h | h
      · exact absurd h.symm e
      · exact ih (fun q hq => ht q (List.mem_cons_of_mem _ hq)) h
theorem aput_true {a : Int} : ∀ {l : List (Int × Bool)}, (∀ q ∈ l, q.2 = true) → ∀ q ∈ aput a true l, q.2 = true
  | [], _, q, h => by simp [aput] at h; subst h; rfl
  | (k', v) :: l, ht, q, h => by
    simp only [aput] at h
    split at h
    · rcases List.mem_cons.1 h with rfl | h
      · rfl
      · exact ht q (List.mem_cons_of_mem _ h)
    · rcases List.mem_cons.1 h with rfl | h
      · exact ht _ List.mem_cons_self
      · exact aput_true (fun q hq => ht q (List.mem_cons_of_mem _ hq)) q h
/-- from a number on, what a key's term has is a key -/
def Cl (D : List T) (m : Int) (l : List (Int × Bool)) : Prop := ∀ k ∈ keys l, m ≤ k → (WhD.node D k).1.kind = 2 → (WhD.node D k).1.a ∈ keys l ∧ (WhD.node D k).1.b ∈ keys l
theorem seenG_cl {D : List T} (hD : Wf D) : ∀ (m : Nat) (l : List (Int × Bool)), (∀ q ∈ l, q.2 = true) → (∀ k ∈ keys l, In D k) → Cl D m l →
    Cl D 0 (seenG D m l) ∧ (∀ k ∈ keys l, k ∈ keys (seenG D m l)) ∧ ∀ k ∈ keys (seenG D m l), In D k
  | 0, l, _, hin, hc => ⟨hc, fun _ h => h, hin⟩
  | m + 1, l, ht, hin, hc => by
    have hstep : (∀ q ∈ seenStep D m l, q.2 = true) ∧ (∀ k ∈ keys l, k ∈ keys (seenStep D m l)) ∧ (∀ k ∈ keys (seenStep D m l), In D k) ∧ Cl D m (seenStep D m l) := by
      by_cases hcond : alook (m : Int) l = some true ∧ (WhD.node D m).1.kind = 2
      · have e : seenStep D m l = aput (WhD.node D m).1.b true (aput (WhD.node D m).1.a true l) := by unfold seenStep; rw [if_pos hcond]
        have hm : In D (m : Int) := hin _ (List.mem_map.2 ⟨_, by
          have : ∀ {l : List (Int × Bool)}, alook (m : Int) l = some true → ((m : Int), true) ∈ l := by
            intro l
            induction l with
            | nil => intro h; cases h
            | cons p l ih =>
              obtain ⟨k', v⟩ := p
              intro h
              simp only [alook] at h
              split at h
              · rename_i e; cases h; rw [e]; exact List.mem_cons_self
              · exact List.mem_cons_of_mem _ (ih h)
          exact this hcond.1, rfl⟩)
        have h2 := hm.2
        obtain ⟨ha, hb, hc', hd⟩ : 0 ≤ (WhD.node D m).1.a ∧ (WhD.node D m).1.a < m ∧ 0 ≤ (WhD.node D m).1.b ∧ (WhD.node D m).1.b < m := by
          rcases hD.node hm with h3 | ⟨h3, _⟩ | ⟨_, _, ha, hb, hc, hd⟩
          · omega
          · omega
          · simp at hb hd
            exact ⟨ha, hb, hc, hd⟩
        rw [e]
        refine ⟨aput_true (aput_true ht), fun k hk => ?_, fun k hk => ?_, fun k hk hmk hkind => ?_⟩
        · rw [aput_keys, aput_keys]; exact .inr (.inr hk)
        · rw [aput_keys, aput_keys] at hk
          rcases hk with rfl | rfl | hk
          · exact ⟨hc', by omega⟩
          · exact ⟨ha, by omega⟩
          · exact hin k hk
        · rw [aput_keys, aput_keys] at hk
          rcases hk with rfl | rfl | hk
          · omega
          · omega
          · by_cases hke : k = m
            · subst hke
              refine ⟨?_, ?_⟩ <;> rw [aput_keys, aput_keys]
              · exact .inr (.inl rfl)
              · exact .inl rfl
            · have := hc k hk (by omega) hkind
              refine ⟨?_, ?_⟩ <;> rw [aput_keys, aput_keys]
              · exact .inr (.inr this.1)
              · exact .inr (.inr this.2)
      · have e : seenStep D m l = l := by unfold seenStep; rw [if_neg hcond]
        rw [e]
        refine ⟨ht, fun _ h => h, hin, fun k hk hmk hkind => ?_⟩
        by_cases hke : k = m
        · subst hke
          exact absurd ⟨alook_true ht hk, hkind⟩ hcond
        · exact hc k hk (by omega) hkind
    obtain ⟨h1, h2, h3, h4⟩ := hstep
    obtain ⟨k1, k2, k3⟩ := seenG_cl hD m (seenStep D m l) h1 h3 h4
    exact ⟨k1, fun k hk => k2 k (h2 k hk), k3⟩
/-- reckoned in rising order over closed keys: the terms' values -/
theorem evalF_valF {D : List T} (hD : Wf D) {x : List Int} {ks : List Int} (hin : ∀ k ∈ ks, In D k) (hs : ks.Pairwise (fun a b => a ≤ b)) (hc : ∀ k ∈ ks, (WhD.node D k).1.kind = 2 → (WhD.node D k).1.a ∈ ks ∧ (WhD.node D k).1.b ∈ ks) :
    ∀ j, j ≤ ks.length → ∀ k ∈ ks.take j, mg (evalF D x (ks.take j)) k = valF D x k := by
  intro j
  induction j with
  | zero => intro _ k hk; simp at hk
  | succ j ih =>
    intro hj k hk
    have hg : ks[j]? = some ks[j] := List.getElem?_eq_getElem (by omega)
    have hih := ih (by omega)
    rw [evalF_take D x ks hg]
    unfold evStep
    rw [mg_put]
    split
    · rename_i e
      subst e
      have hkin : In D ks[j] := hin _ (List.getElem_mem _)
      rw [valF_node hD x hkin]
      unfold evVal
      split
      · rfl
      · split
        · rfl
        · rename_i h0 h1
          rcases hD.node hkin with h3 | ⟨h3, _⟩ | ⟨h3, _, ha, hb, hcc, hd⟩
          · exact absurd h3 h0
          · exact absurd h3 h1
          · have hcl := hc _ (List.getElem_mem (by omega)) h3
            have hlt : ∀ a ∈ ks, a < ks[j] → a ∈ ks.take j := by
              intro a ha hal
              obtain ⟨i, hi, rfl⟩ := List.getElem_of_mem ha
              rcases Nat.lt_or_ge i j with h | h
              · rw [List.mem_iff_getElem]
                exact ⟨i, by simp; omega, by simp⟩
              · exfalso
                rcases Nat.lt_or_ge j i with h' | h'
                · have := List.pairwise_iff_getElem.1 hs j i (by omega) hi h'
                  omega
                · have : i = j := by omega
                  subst this
                  omega
            have hk1 := hkin.1
            rw [hih _ (hlt _ hcl.1 (by omega)), hih _ (hlt _ hcl.2 (by omega))]
    · rename_i e
      rw [List.take_add_one, hg] at hk
      simp only [Option.toList_some, List.mem_append, List.mem_singleton] at hk
      rcases hk with hk | rfl
      · exact hih k hk
      · exact absurd rfl e
theorem eval_val {D : List T} (hD : Wf D) {x ss : List Int} {n : Int} (hn : In D n) (hp : ss.Perm ((seenG D (n.toNat + 1) [(n, true)]).map (·.1))) :
    mg (evalF D x (ss.mergeSort (fun x y => decide (x ≤ y)))) n = valF D x n := by
  have h1 := hn.1
  obtain ⟨c1, c2, c3⟩ := seenG_cl hD (n.toNat + 1) [(n, true)] (by simp) (by intro k hk; simp [keys] at hk; subst hk; exact hn) (by
    intro k hk hm _
    simp [keys] at hk
    omega)
  have hpm := List.mergeSort_perm ss (fun x y => decide (x ≤ y))
  have hmem : ∀ k, k ∈ ss.mergeSort (fun x y => decide (x ≤ y)) ↔ k ∈ keys (seenG D (n.toNat + 1) [(n, true)]) := fun k => (hpm.mem_iff).trans hp.mem_iff
  have hsort : (ss.mergeSort (fun x y => decide (x ≤ y))).Pairwise (fun a b => a ≤ b) := by
    have := List.pairwise_mergeSort (le := fun x y : Int => decide (x ≤ y)) (fun a b c h1 h2 => by simp at h1 h2 ⊢; omega) (fun a b => by simp; omega) ss
    exact this.imp (fun h => by simpa using h)
  have := evalF_valF hD (x := x) (ks := ss.mergeSort (fun x y => decide (x ≤ y))) (fun k hk => c3 k ((hmem k).1 hk)) hsort (fun k hk hkind => by
    have h := c1 k ((hmem k).1 hk) (c3 k ((hmem k).1 hk)).1 hkind
    exact ⟨(hmem _).2 h.1, (hmem _).2 h.2⟩) _ (Nat.le_refl _) n (by
    rw [List.take_length]
    exact (hmem n).2 (c2 n (by simp [keys])))
  rwa [List.take_length] at this
end Wh.WhE
namespace Wh.WhM
open Go WhS WhE
open WhR hiding shift one bit
abbrev W (op a b : Int) : Int := (WhI.wdo op a b).1
def InR (a : Int) : Prop := 0 ≤ a ∧ a < 4294967296
def bridged (op : Int) : Bool := op = 27 || op = 28 || op = 29 || op = 32 || op = 33 || op = 34 || op = 35 || op = 36 || op = 37 || op = 42 || op = 44
theorem toNat_toInt (x : BitVec 32) : (x.toNat : Int) = x.toInt % 4294967296 := by
  rw [BitVec.toInt_eq_toNat_cond]
  have := x.isLt
  have e : ((2 ^ 32 : Nat) : Int) = 4294967296 := by decide
  split <;> omega
theorem toInt_i32 {m : Nat} (h : m < 4294967296) : (BitVec.ofNat 32 m).toInt = IntKind.i32.wrap (m : Int) := by
  rw [i32_eq (by omega) (by omega), BitVec.toInt_eq_toNat_cond, WhB.toNat_ofNat h]
  have e : ((2 ^ 32 : Nat) : Int) = 4294967296 := by decide
  have e2 : (2 ^ 32 : Nat) = 4294967296 := by decide
  split <;> split <;> omega
/-- the code's reckoning is the one on bits -/
theorem wdo_bv {op : Int} {m n : Nat} (hm : m < 4294967296) (hn : n < 4294967296) (ho : bridged op = true) : W op m n = ((WhP.wdo op (BitVec.ofNat 32 m) (BitVec.ofNat 32 n)).toNat : Int) := by
  have tm := WhB.toNat_ofNat hm
  have tn := WhB.toNat_ofNat hn
  have e32 : (2 ^ 32 : Nat) = 4294967296 := by decide
  have hmin : min ((n % 32 : Nat) : Int).toNat 32 = n % 32 := by
    have : n % 32 < 32 := Nat.mod_lt _ (by decide)
    simp; omega
  simp only [bridged, Bool.or_eq_true, decide_eq_true_eq] at ho
  rcases ho with (((((((((h | h) | h) | h) | h) | h) | h) | h) | h) | h) | h <;> subst h
  · show IntKind.u32.wrap ((m : Int) + n) = ((BitVec.ofNat 32 m + BitVec.ofNat 32 n).toNat : Int)
    rw [BitVec.toNat_add, tm, tn, u32_mod, e32]; omega
  · show IntKind.u32.wrap ((m : Int) - n) = ((BitVec.ofNat 32 m - BitVec.ofNat 32 n).toNat : Int)
    rw [BitVec.toNat_sub, tm, tn, u32_mod, e32]; omega
  · rw [WhP.wdo_sll, BitVec.toNat_shiftLeft, tm, tn, e32, Nat.shiftLeft_eq]
    show IntKind.u32.wrap ((m : Int) * 2 ^ min (bits .and .u32 n 31).toNat 32) = _
    rw [and31_nat hn, hmin, u32_mod]
    have : ((2 ^ (n % 32) : Nat) : Int) = (2 : Int) ^ (n % 32) := by simp
    rw [← this, ← Int.natCast_mul]
    simp
  · show bits .xor .u32 m n = _
    rw [xor_nat hm hn]
    show _ = ((BitVec.ofNat 32 m ^^^ BitVec.ofNat 32 n).toNat : Int)
    rw [BitVec.toNat_xor, tm, tn]
  · rw [WhP.wdo_srl, BitVec.toNat_ushiftRight, tm, tn, Nat.shiftRight_eq_div_pow]
    show (m : Int).fdiv (2 ^ min (bits .and .u32 n 31).toNat 32) = _
    rw [and31_nat hn, hmin, fdiv_nat]
  · rw [WhP.wdo_sra, toNat_toInt, BitVec.toInt_sshiftRight, toInt_i32 hm, tn, Int.shiftRight_eq_div_pow]
    show IntKind.u32.wrap ((IntKind.i32.wrap (m : Int)).fdiv (2 ^ min (bits .and .u32 n 31).toNat 32)) = _
    rw [and31_nat hn, hmin, u32_mod, Int.fdiv_eq_ediv_of_nonneg _ (Int.le_of_lt (Int.pow_pos (by decide)))]
    simp
  · show bits .or .u32 m n = _
    rw [WhB.or_nat hm hn]
    show _ = ((BitVec.ofNat 32 m ||| BitVec.ofNat 32 n).toNat : Int)
    rw [BitVec.toNat_or, tm, tn]
  · show bits .and .u32 m n = _
    rw [WhB.and_nat hm hn]
    show _ = ((BitVec.ofNat 32 m &&& BitVec.ofNat 32 n).toNat : Int)
    rw [BitVec.toNat_and, tm, tn]
  · show IntKind.u32.wrap ((m : Int) * n) = ((BitVec.ofNat 32 m * BitVec.ofNat 32 n).toNat : Int)
    rw [BitVec.toNat_mul, tm, tn, u32_mod, e32, ← Int.natCast_mul]
    simp
  · show WhI.divided 42 m n = (((if BitVec.ofNat 32 n = 0#32 then BitVec.allOnes 32 else BitVec.udiv (BitVec.ofNat 32 m) (BitVec.ofNat 32 n)).toNat : Nat) : Int)
    by_cases h0 : n = 0
    · subst h0; rfl
    · have hb : ¬ BitVec.ofNat 32 n = 0#32 := by
        intro h
        have := congrArg BitVec.toNat h
        rw [tn] at this
        exact h0 this
      have hi : ¬ (n : Int) = 0 := by omega
      unfold WhI.divided
      rw [if_neg hb]
      have ed : (BitVec.udiv (BitVec.ofNat 32 m) (BitVec.ofNat 32 n)).toNat = m / n := by
        show ((BitVec.ofNat 32 m) / (BitVec.ofNat 32 n)).toNat = _
        rw [BitVec.toNat_udiv, tm, tn]
      rw [ed]
      simp only [hi, if_false, show ((42 : Int) = 42) = True by decide, if_true, WhI.u32]
      rw [Int.tdiv_eq_ediv_of_nonneg (by omega), u32_mod]
      have hle : m / n ≤ m := Nat.div_le_self _ _
      have : ((m : Int) / (n : Int)) = ((m / n : Nat) : Int) := by simp
      rw [this]
      generalize m / n = q at *
      omega
  · show WhI.divided 44 m n = (((if BitVec.ofNat 32 n = 0#32 then BitVec.ofNat 32 m else BitVec.umod (BitVec.ofNat 32 m) (BitVec.ofNat 32 n)).toNat : Nat) : Int)
    by_cases h0 : n = 0
    · subst h0
      simp only [if_true]
      rw [tm]
      rfl
    · have hb : ¬ BitVec.ofNat 32 n = 0#32 := by
        intro h
        have := congrArg BitVec.toNat h
        rw [tn] at this
        exact h0 this
      have hi : ¬ (n : Int) = 0 := by omega
      unfold WhI.divided
      rw [if_neg hb]
      have ed : (BitVec.umod (BitVec.ofNat 32 m) (BitVec.ofNat 32 n)).toNat = m % n := by
        show ((BitVec.ofNat 32 m) % (BitVec.ofNat 32 n)).toNat = _
        rw [BitVec.toNat_umod, tm, tn]
      rw [ed]
      simp only [hi, if_false, show ((44 : Int) = 42) = False by decide, if_true]
      rw [Int.tmod_eq_emod_of_nonneg (by omega)]
      simp
theorem InR.nat {a : Int} (h : InR a) : ∃ m : Nat, a = m ∧ m < 4294967296 := ⟨a.toNat, by have := h.1; omega, by have := h.1; have := h.2; omega⟩
/-- a law on bits is one of the code's -/
theorem lift2 {op op' a b a' b' : Int} (ho : bridged op = true) (ho' : bridged op' = true) (ha : InR a) (hb : InR b) (ha' : InR a') (hb' : InR b') (h : WhP.wdo op (BitVec.ofNat 32 a.toNat) (BitVec.ofNat 32 b.toNat) = WhP.wdo op' (BitVec.ofNat 32 a'.toNat) (BitVec.ofNat 32 b'.toNat)) : W op a b = W op' a' b' := by
  obtain ⟨m, rfl, hm⟩ := ha.nat
  obtain ⟨n, rfl, hn⟩ := hb.nat
  obtain ⟨m', rfl, hm'⟩ := ha'.nat
  obtain ⟨n', rfl, hn'⟩ := hb'.nat
  rw [wdo_bv hm hn ho, wdo_bv hm' hn' ho']
  simp only [Int.toNat_natCast] at h
  rw [h]
theorem lift1 {op a b c : Int} (ho : bridged op = true) (ha : InR a) (hb : InR b) (hc : InR c) (h : WhP.wdo op (BitVec.ofNat 32 a.toNat) (BitVec.ofNat 32 b.toNat) = BitVec.ofNat 32 c.toNat) : W op a b = c := by
  obtain ⟨m, rfl, hm⟩ := ha.nat
  obtain ⟨n, rfl, hn⟩ := hb.nat
  obtain ⟨k, rfl, hk⟩ := hc.nat
  rw [wdo_bv hm hn ho]
  simp only [Int.toNat_natCast] at h
  rw [h, WhB.toNat_ofNat hk]
theorem bvW {op a b : Int} (ho : bridged op = true) (ha : InR a) (hb : InR b) : BitVec.ofNat 32 (W op a b).toNat = WhP.wdo op (BitVec.ofNat 32 a.toNat) (BitVec.ofNat 32 b.toNat) := by
  obtain ⟨m, rfl, hm⟩ := ha.nat
  obtain ⟨n, rfl, hn⟩ := hb.nat
  rw [wdo_bv hm hn ho]
  simp
theorem W_rng {op a b : Int} (ha : InR a) (hb : InR b) : InR (W op a b) := wdo_rng ha hb
theorem R0 : InR 0 := ⟨by decide, by decide⟩
theorem R1 : InR 1 := ⟨by decide, by decide⟩
theorem RO : InR 4294967295 := ⟨by decide, by decide⟩
theorem bO : BitVec.ofNat 32 (4294967295 : Int).toNat = BitVec.allOnes 32 := by decide
theorem among_mem {op : Int} {l : List Int} (h : among op l = true) : op ∈ l := by simpa [among] using h
/-! the rules -/
theorem zero_r {op a : Int} (h : among op [27, 35, 32] = true) (ha : InR a) : W op a 0 = a := by
  have hm := among_mem h
  simp at hm
  have hb : bridged op = true := by simp [bridged]; omega
  exact lift1 hb ha R0 ha (WhP.wdo_zero_r op _ (by omega))
theorem one_r {op a : Int} (h : among op [37, 41, 42] = true) (ha : InR a) : W op a 1 = a := by
  have hm := among_mem h
  simp at hm
  rcases hm with rfl | rfl | rfl
  · exact lift1 rfl ha R1 ha (WhP.wdo_one_r 37 _ (by omega))
  · show WhI.divided 41 a 1 = a
    unfold WhI.divided
    have e1 : WhI.i32 1 = 1 := by decide
    have h1 : ¬ ((1 : Int) = 4294967295) := by decide
    simp [e1, h1]
    show IntKind.u32.wrap (IntKind.i32.wrap (IntKind.i32.wrap a)) = a
    have h1 := ha.1; have h2 := ha.2
    have hr := i32_rng h1 h2
    have : IntKind.i32.wrap (IntKind.i32.wrap a) = IntKind.i32.wrap a := IntWalk.i32_in _ ⟨by omega, by omega⟩
    rw [this, u32_mod, i32_eq h1 h2]
    split <;> omega
  · exact lift1 rfl ha R1 ha (WhP.wdo_one_r 42 _ (by omega))
theorem and_ones {a : Int} (ha : InR a) : W 36 a 4294967295 = a := lift1 rfl ha RO ha (by rw [bO]; exact WhP.wdo_and_ones _)
theorem or_ones {a : Int} (ha : InR a) : W 35 a 4294967295 = 4294967295 := lift1 rfl ha RO RO (by rw [bO]; exact WhP.wdo_or_ones _)
theorem zero_z {op a : Int} (h : among op [36, 37, 31] = true) (ha : InR a) : W op a 0 = 0 := by
  have hm := among_mem h
  simp at hm
  rcases hm with rfl | rfl | rfl
  · exact lift1 rfl ha R0 R0 (WhP.wdo_zero_z 36 _ (by omega))
  · exact lift1 rfl ha R0 R0 (WhP.wdo_zero_z 37 _ (by omega))
  · show WhI.flag (decide (a < 0)) = 0
    have := ha.1
    rw [decide_eq_false (by omega)]
    rfl
theorem rem_one {op a : Int} (h : among op [43, 44] = true) (ha : InR a) : W op a 1 = 0 := by
  have hm := among_mem h
  simp at hm
  rcases hm with rfl | rfl
  · show WhI.divided 43 a 1 = 0
    unfold WhI.divided
    have e1 : WhI.i32 1 = 1 := by decide
    have h1 : ¬ ((1 : Int) = 4294967295) := by decide
    simp [e1, h1]
    decide
  · exact lift1 rfl ha R1 R0 (WhP.wdo_rem_one 44 _ (by omega))
theorem isShift_of {op : Int} (h : shift op = true) : WhP.isShift op = true ∧ bridged op = true := by
  have hm := among_mem h
  simp at hm
  rcases hm with rfl | rfl | rfl <;> exact ⟨rfl, rfl⟩
theorem tn_of {v : Int} (h : InR v) : (BitVec.ofNat 32 v.toNat).toNat = v.toNat := WhB.toNat_ofNat (by have := h.1; have := h.2; omega)
theorem shift0 {op a v : Int} (h : shift op = true) (ha : InR a) (hv : InR v) (e : v.tmod 32 = 0) : W op a v = a := by
  obtain ⟨h1, h2⟩ := isShift_of h
  rw [Int.tmod_eq_emod_of_nonneg hv.1] at e
  exact lift1 h2 ha hv ha (WhP.wdo_shift0 op _ _ h1 (by rw [tn_of hv]; have := hv.1; omega))
theorem tmod_in {v : Int} (hv : InR v) : InR (v.tmod 32) := tmod_rng hv
theorem shift_mod {op a v : Int} (h : shift op = true) (ha : InR a) (hv : InR v) : W op a v = W op a (v.tmod 32) := by
  obtain ⟨h1, h2⟩ := isShift_of h
  refine lift2 h2 h2 ha hv ha (tmod_in hv) (WhP.wdo_shift op _ _ _ h1 ?_)
  rw [tn_of hv, tn_of (tmod_in hv), Int.tmod_eq_emod_of_nonneg hv.1]
  have := hv.1
  omega
theorem tz_pow : ∀ k : Nat, k < 32 → tz (2 ^ k) = k := by decide
theorem one_pow {v : Int} (hv : InR v) (h : one v = true) : ∃ k : Nat, k < 32 ∧ v = 2 ^ k ∧ IntKind.u32.wrap (tz v) = k := by
  obtain ⟨n, rfl, hn⟩ := hv.nat
  simp only [one, Bool.and_eq_true, Bool.not_eq_true', decide_eq_false_iff_not, decide_eq_true_eq] at h
  have hn0 : n ≠ 0 := by have := h.1; omega
  have e1 : IntKind.u32.wrap ((n : Int) - 1) = ((n - 1 : Nat) : Int) := by rw [u32_id (by omega) (by omega)]; omega
  have h2 := h.2
  rw [e1, WhB.and_nat hn (by omega)] at h2
  obtain ⟨k, hk⟩ := (Nat.and_sub_one_eq_zero_iff_isPowerOfTwo hn0).1 (by omega)
  have hk32 : k < 32 := by
    rcases Nat.lt_or_ge k 32 with h | h
    · exact h
    · have := Nat.pow_le_pow_right (n := 2) (by decide) h
      have e : 2 ^ 32 = 4294967296 := by decide
      omega
  subst hk
  have ep : ((2 ^ k : Nat) : Int) = (2 : Int) ^ k := by simp
  refine ⟨k, hk32, ep, ?_⟩
  rw [ep, tz_pow k hk32]
  exact u32_id (by omega) (by omega)
theorem pow_k {v : Int} {k : Nat} (hk : k < 32) (e : v = 2 ^ k) : (BitVec.ofNat 32 v.toNat).toNat = 2 ^ (BitVec.ofNat 32 ((k : Int)).toNat).toNat ∧ (BitVec.ofNat 32 ((k : Int)).toNat).toNat < 32 := by
  have h2 : 2 ^ k < 4294967296 := Nat.pow_lt_pow_right (by decide) (m := k) (n := 32) hk
  have ev : v.toNat = 2 ^ k := by
    subst e
    have ep : ((2 ^ k : Nat) : Int) = (2 : Int) ^ k := by simp
    rw [← ep, Int.toNat_natCast]
  rw [ev, WhB.toNat_ofNat h2, Int.toNat_natCast, WhB.toNat_ofNat (by omega)]
  exact ⟨rfl, hk⟩
theorem mul_pow {a v : Int} (ha : InR a) (hv : InR v) (h : one v = true) : W 37 a v = W 29 a (IntKind.u32.wrap (tz v)) := by
  obtain ⟨k, hk, e, et⟩ := one_pow hv h
  rw [et]
  obtain ⟨h1, h2⟩ := pow_k hk e
  exact lift2 rfl rfl ha hv ha ⟨by omega, by omega⟩ (WhP.wdo_mul_pow _ _ _ h2 h1)
theorem divu_pow {a v : Int} (ha : InR a) (hv : InR v) (h : one v = true) : W 42 a v = W 33 a (IntKind.u32.wrap (tz v)) := by
  obtain ⟨k, hk, e, et⟩ := one_pow hv h
  rw [et]
  obtain ⟨h1, h2⟩ := pow_k hk e
  exact lift2 rfl rfl ha hv ha ⟨by omega, by omega⟩ (WhP.wdo_divu_pow _ _ _ h2 h1)
theorem remu_pow {a v : Int} (ha : InR a) (hv : InR v) (h : one v = true) : W 44 a v = W 36 a (IntKind.u32.wrap (v - 1)) := by
  obtain ⟨k, hk, e, et⟩ := one_pow hv h
  obtain ⟨h1, h2⟩ := pow_k hk e
  have hv0 : 0 < v := by rw [e]; exact Int.pow_pos (by decide)
  have e1 : IntKind.u32.wrap (v - 1) = v - 1 := u32_id (by omega) (by have := hv.2; omega)
  rw [e1]
  refine lift2 rfl rfl ha hv ha ⟨by omega, by have := hv.2; omega⟩ ?_
  rw [WhP.wdo_remu_pow _ _ _ h2 h1]
  congr 1
  apply BitVec.eq_of_toNat_eq
  rw [BitVec.toNat_sub, tn_of hv, tn_of (v := v - 1) ⟨by omega, by have := hv.2; omega⟩]
  have := hv.2
  simp
  omega
theorem assoc {op x w v : Int} (h : among op [27, 36, 35, 32] = true) (hx : InR x) (hw : InR w) (hv : InR v) : W op (W op x w) v = W op x (W op w v) := by
  have hm := among_mem h
  simp at hm
  have hb : bridged op = true := by simp [bridged]; omega
  refine lift2 hb hb (W_rng hx hw) hv hx (W_rng hw hv) ?_
  rw [bvW hb hx hw, bvW hb hw hv]
  exact WhP.wdo_assoc op _ _ _ (by omega)
theorem shift_twice {op x w v : Int} (h : shift op = true) (hx : InR x) (hw : InR w) (hv : InR v) (hw2 : w < 32) (hs : w + v < 32) : W op (W op x w) v = W op x (w + v) := by
  obtain ⟨h1, h2⟩ := isShift_of h
  have a1 := hw.1; have a2 := hv.1
  have hwv : InR (w + v) := ⟨by omega, by omega⟩
  refine lift2 h2 h2 (W_rng hx hw) hv hx hwv ?_
  rw [bvW h2 hx hw, WhP.wdo_shift_twice op _ _ _ h1 (by rw [tn_of hw]; omega) (by rw [tn_of hv]; omega) (by rw [tn_of hw, tn_of hv]; omega)]
  congr 1
  apply BitVec.eq_of_toNat_eq
  rw [BitVec.toNat_add, tn_of hw, tn_of hv, tn_of hwv]
  omega
theorem shift_out {op x w v : Int} (h : shift op = true) (h34 : op ≠ 34) (hx : InR x) (hw : InR w) (hv : InR v) (hw2 : w < 32) (hv2 : v < 32) (hs : 32 ≤ w + v) : W op (W op x w) v = 0 := by
  obtain ⟨h1, h2⟩ := isShift_of h
  have a1 := hw.1; have a2 := hv.1
  have hm := among_mem h
  simp at hm
  refine lift1 h2 (W_rng hx hw) hv R0 ?_
  rw [bvW h2 hx hw]
  exact WhP.wdo_shift_out op _ _ _ (by omega) (by rw [tn_of hw]; omega) (by rw [tn_of hv]; omega) (by rw [tn_of hw, tn_of hv]; omega)
theorem sra_out {x w v : Int} (hx : InR x) (hw : InR w) (hv : InR v) (hw2 : w < 32) (hv2 : v < 32) (hs : 32 ≤ w + v) : W 34 (W 34 x w) v = W 34 x 31 := by
  have a1 := hw.1; have a2 := hv.1
  refine lift2 rfl rfl (W_rng hx hw) hv hx ⟨by decide, by decide⟩ ?_
  rw [bvW rfl hx hw]
  exact WhP.wdo_sra_out _ _ _ (by rw [tn_of hw]; omega) (by rw [tn_of hv]; omega) (by rw [tn_of hw, tn_of hv]; omega)
theorem self_zero {op a : Int} (h : op = 28 ∨ op = 32 ∨ op = 30 ∨ op = 31) (ha : InR a) : W op a a = 0 := by
  rcases h with rfl | rfl | rfl | rfl
  · exact lift1 rfl ha ha R0 (WhP.wdo_self_zero 28 _ (by omega))
  · exact lift1 rfl ha ha R0 (WhP.wdo_self_zero 32 _ (by omega))
  · show WhI.flag (decide (WhI.i32 a < WhI.i32 a)) = 0
    rw [decide_eq_false (by omega)]; rfl
  · show WhI.flag (decide (a < a)) = 0
    rw [decide_eq_false (by omega)]; rfl
theorem self_same {op a : Int} (h : op = 36 ∨ op = 35) (ha : InR a) : W op a a = a := by
  rcases h with rfl | rfl
  · exact lift1 rfl ha ha ha (WhP.wdo_self 36 _ (by omega))
  · exact lift1 rfl ha ha ha (WhP.wdo_self 35 _ (by omega))
theorem add_self {a : Int} (ha : InR a) : W 27 a a = W 29 a 1 := lift2 rfl rfl ha ha ha R1 (WhP.wdo_add_self _)
theorem sub_neg {a w : Int} (ha : InR a) (hw : InR w) : W 28 a w = W 27 a (IntKind.u32.wrap (0 - w)) := by
  refine lift2 rfl rfl ha hw ha (u32_rng _) ?_
  rw [WhP.wdo_sub]
  congr 1
  apply BitVec.eq_of_toNat_eq
  rw [BitVec.toNat_neg, tn_of hw, tn_of (u32_rng _), u32_mod]
  have := hw.1; have := hw.2
  have e32 : (2 ^ 32 : Nat) = 4294967296 := by decide
  omega
theorem turn {op a b : Int} (h : turns op = true) (ha : InR a) (hb : InR b) : W op a b = W op b a := by
  have hm := among_mem h
  simp at hm
  have h38 : ∀ op : Int, op = 38 ∨ op = 40 → WhI.high op a b = WhI.high op b a := by
    intro op ho
    unfold WhI.high
    rcases ho with rfl | rfl
    · simp
      rw [Int.mul_comm]
    · simp
      rw [Int.mul_comm]
  rcases hm with rfl | rfl | rfl | rfl | rfl | rfl | rfl
  · exact lift2 rfl rfl ha hb hb ha (WhP.wdo_comm 27 _ _ rfl)
  · exact lift2 rfl rfl ha hb hb ha (WhP.wdo_comm 36 _ _ rfl)
  · exact lift2 rfl rfl ha hb hb ha (WhP.wdo_comm 35 _ _ rfl)
  · exact lift2 rfl rfl ha hb hb ha (WhP.wdo_comm 32 _ _ rfl)
  · exact lift2 rfl rfl ha hb hb ha (WhP.wdo_comm 37 _ _ rfl)
  · exact h38 38 (.inl rfl)
  · exact h38 40 (.inr rfl)
end Wh.WhM
namespace Wh.WhM
open Go WhS WhE
structure Snd (D : List T) (x : List Int) (tg : Int) (r : Int × List T) : Prop where
  ext : Ext D r.2
  wf : Wf r.2
  rng : Rng r.2
  inn : In r.2 r.1
  val : valF r.2 x r.1 = tg
/-- a step that comes to the reckoning -/
def StepSnd (D : List T) (x : List Int) (tg : Int) : St → Prop
  | .no => False
  | .ret n => In D n ∧ valF D x n = tg
  | .const w => InR w ∧ w = tg
  | .goes o y w => InR w ∧ WhP.isOp o = true ∧ In D y ∧ W o (valF D x y) w = tg
  | .call o y z => WhP.isOp o = true ∧ In D y ∧ In D z ∧ W o (valF D x y) (valF D x z) = tg
  | .opr => True
section
variable {D : List T} {x : List Int}
theorem val_known (hD : Wf D) {n : Int} (h : In D n) (hk : (known D n).2 = true) : valF D x n = (known D n).1 := by
  rw [valF_node hD x h]
  have : (WhD.node D n).1.kind = 0 := by simpa [known] using hk
  rw [if_pos this]
  rfl
theorem add_snd (hD : Wf D) (hg : Rng D) {t : T} (ht : TOk D.length t) (hv : 0 ≤ t.v ∧ t.v < 4294967296) {tg : Int} (hval : valF (addT D t).2 x (addT D t).1 = tg) : Snd D x tg (addT D t) :=
  ⟨addT_ext D t, hD.add ht, hg.add hv, (addT_in D t).1, hval⟩
theorem val_K (hD : Wf D) (w : Int) : valF (addT D (K w)).2 x (addT D (K w)).1 = w := by
  have h := addT_in D (K w)
  rw [valF_node (hD.add (K_ok _ w)) x h.1, h.2]
  rfl
theorem key_if {Pr : St → Prop} (c : Bool) (a b : St) (h1 : c = true → a.isNo = false → Pr a) (h2 : c = false → b.isNo = false → Pr b) : (if c = true then a else b).isNo = false → Pr (if c = true then a else b) := by
  intro h
  cases c
  · exact h2 rfl h
  · exact h1 rfl h
theorem byWord_snd (hD : Wf D) (hg : Rng D) (hx : ∀ v ∈ x, 0 ≤ v ∧ v < 4294967296) {op a b : Int} (ha : In D a) (hb : In D b) (ho : WhP.isOp op = true) (hk : (known D b).2 = true) :
    (byWord D op a b (known D b).1).isNo = false → StepSnd D x (W op (valF D x a) (valF D x b)) (byWord D op a b (known D b).1) := by
  have hbv := val_known (x := x) hD hb hk
  have hv : InR (known D b).1 := hg.known b
  rw [hbv]
  generalize (known D b).1 = v at *
  have hA : InR (valF D x a) := valF_rng' hD hg hx ha
  have hone : ∀ {v : Int}, InR v → one v = true → InR (IntKind.u32.wrap (tz v)) := fun _ _ => u32_rng _
  unfold byWord
  refine key_if _ _ _ (fun h _ => ?_) fun _ => ?_
  · refine ⟨ha, ?_⟩
    simp only [Bool.or_eq_true, Bool.and_eq_true, decide_eq_true_eq] at h
    rcases h with (⟨rfl, h⟩ | ⟨rfl, h⟩) | ⟨rfl, rfl⟩
    · exact (zero_r h hA).symm
    · exact (one_r h hA).symm
    · exact (and_ones hA).symm
  refine key_if _ _ _ (fun h _ => ?_) fun _ => ?_
  · refine ⟨R0, ?_⟩
    simp only [Bool.or_eq_true, Bool.and_eq_true, decide_eq_true_eq] at h
    rcases h with ⟨rfl, h⟩ | ⟨rfl, h⟩
    · exact (zero_z h hA).symm
    · exact (rem_one h hA).symm
  refine key_if _ _ _ (fun h _ => ?_) fun _ => ?_
  · simp only [Bool.and_eq_true, decide_eq_true_eq] at h
    obtain ⟨rfl, rfl⟩ := h
    exact ⟨hb, by rw [hbv]; exact (or_ones hA).symm⟩
  refine key_if _ _ _ (fun h _ => ?_) fun _ => ?_
  · simp only [Bool.and_eq_true, decide_eq_true_eq] at h
    exact ⟨ha, (shift0 h.1 hA hv h.2).symm⟩
  refine key_if _ _ _ (fun h _ => ?_) fun h32 => ?_
  · simp only [Bool.and_eq_true, decide_eq_true_eq] at h
    exact ⟨tmod_in hv, ho, ha, (shift_mod h.1 hA hv).symm⟩
  refine key_if _ _ _ (fun h _ => ?_) fun _ => ?_
  · simp only [Bool.and_eq_true, decide_eq_true_eq] at h
    obtain ⟨⟨h1, _⟩, rfl⟩ := h
    exact ⟨u32_rng _, by decide, ha, (mul_pow hA hv h1).symm⟩
  refine key_if _ _ _ (fun h _ => ?_) fun _ => ?_
  · simp only [Bool.and_eq_true, decide_eq_true_eq] at h
    obtain ⟨⟨h1, _⟩, rfl⟩ := h
    exact ⟨u32_rng _, by decide, ha, (divu_pow hA hv h1).symm⟩
  refine key_if _ _ _ (fun h _ => ?_) fun _ => ?_
  · simp only [Bool.and_eq_true, decide_eq_true_eq] at h
    obtain ⟨⟨h1, _⟩, rfl⟩ := h
    exact ⟨u32_rng _, by decide, ha, (remu_pow hA hv h1).symm⟩
  refine key_if _ _ _ (fun _ h => by cases h) fun hk1 => ?_
  simp only [Bool.or_eq_false_iff, Bool.not_eq_false', decide_eq_true_eq] at hk1
  refine key_if _ _ _ (fun _ h => by cases h) fun hk3 => ?_
  simp only [Bool.not_eq_false'] at hk3
  have ht := hD.node ha
  obtain ⟨t1, t2, t3, t4⟩ : 0 ≤ (WhD.node D a).1.a ∧ (WhD.node D a).1.a < a.toNat ∧ 0 ≤ (WhD.node D a).1.b ∧ (WhD.node D a).1.b < a.toNat := by
    rcases ht with h | ⟨h, _⟩ | ⟨_, _, h⟩
    · omega
    · omega
    · exact h
  have a1 := ha.1; have a2 := ha.2
  have hta : In D (WhD.node D a).1.a := ⟨t1, by omega⟩
  have htb : In D (WhD.node D a).1.b := ⟨t3, by omega⟩
  have hav : valF D x a = W op (valF D x (WhD.node D a).1.a) (known D (WhD.node D a).1.b).1 := by
    rw [valF_node hD x ha, if_neg (by omega), if_neg (by omega), hk1.2, val_known hD htb hk3]
  have hW : InR (known D (WhD.node D a).1.b).1 := hg.known _
  have hX : InR (valF D x (WhD.node D a).1.a) := valF_rng' hD hg hx hta
  rw [hav]
  generalize (known D (WhD.node D a).1.b).1 = w at *
  refine key_if _ _ _ (fun h _ => ⟨W_rng hW hv, ho, hta, (assoc h hX hW hv).symm⟩) fun _ => ?_
  refine key_if _ _ _ (fun _ h => by cases h) fun hs => ?_
  simp only [Bool.or_eq_false_iff, Bool.not_eq_false', decide_eq_false_iff_not] at hs
  obtain ⟨⟨hsh, hw1⟩, hw2⟩ := hs
  have hv32 : v < 32 := by
    rw [hsh] at h32
    simp at h32
    omega
  have hw0 := hW.1; have hv0 := hv.1
  have hwr : IntKind.u32.wrap (w + v) = w + v := WhR.u32_id (by omega) (by omega)
  rw [hwr]
  refine key_if _ _ _ (fun h _ => ?_) fun h2 => ?_
  · simp only [decide_eq_true_eq] at h
    exact ⟨⟨by omega, by omega⟩, ho, hta, (shift_twice hsh hX hW hv (by omega) h).symm⟩
  · simp only [decide_eq_false_iff_not] at h2
    refine key_if _ _ _ (fun h _ => ?_) fun h34 _ => ?_
    · simp only [decide_eq_true_eq] at h
      subst h
      exact ⟨⟨by decide, by decide⟩, ho, hta, (sra_out hX hW hv (by omega) hv32 (by omega)).symm⟩
    · simp only [decide_eq_false_iff_not] at h34
      exact ⟨R0, (shift_out hsh h34 hX hW hv (by omega) hv32 (by omega)).symm⟩
theorem twice_snd (hD : Wf D) (hg : Rng D) (hx : ∀ v ∈ x, 0 ≤ v ∧ v < 4294967296) {op a : Int} (ha : In D a) : (twice op a).isNo = false → StepSnd D x (W op (valF D x a) (valF D x a)) (twice op a) := by
  have hA : InR (valF D x a) := valF_rng' hD hg hx ha
  unfold twice
  refine key_if _ _ _ (fun h _ => ?_) fun _ => ?_
  · simp only [Bool.or_eq_true, decide_eq_true_eq] at h
    exact ⟨R0, (self_zero (by omega) hA).symm⟩
  refine key_if _ _ _ (fun h _ => ?_) fun _ => ?_
  · simp only [Bool.or_eq_true, decide_eq_true_eq] at h
    exact ⟨ha, (self_same h hA).symm⟩
  refine key_if _ _ _ (fun h _ => ?_) fun _ h => by cases h
  simp only [decide_eq_true_eq] at h
  subst h
  exact ⟨R1, by decide, ha, (add_self hA).symm⟩
theorem made_snd (hD : Wf D) (hg : Rng D) (hx : ∀ v ∈ x, 0 ≤ v ∧ v < 4294967296) {op a b : Int} (ha : In D a) (hb : In D b) (ho : WhP.isOp op = true) : StepSnd D x (W op (valF D x a) (valF D x b)) (made D op a b) := by
  have hA : InR (valF D x a) := valF_rng' hD hg hx ha
  have hB : InR (valF D x b) := valF_rng' hD hg hx hb
  unfold made
  split
  · rename_i h
    simp only [Bool.and_eq_true] at h
    rw [val_known hD ha h.1, val_known hD hb h.2]
    exact ⟨W_rng (hg.known a) (hg.known b), rfl⟩
  · split
    · rename_i h
      simp only [Bool.and_eq_true] at h
      exact ⟨ho, hb, ha, turn h.1 hB hA⟩
    · split
      · rename_i h
        simp only [Bool.and_eq_true, decide_eq_true_eq] at h
        obtain ⟨rfl, hk⟩ := h
        refine ⟨u32_rng _, by decide, ha, ?_⟩
        rw [val_known hD hb hk]
        exact (sub_neg hA (hg.known b)).symm
      · split
        · rename_i h
          simp only [Bool.and_eq_true, Bool.not_eq_true'] at h
          exact byWord_snd hD hg hx ha hb ho h.1 h.2
        · unfold tail
          split
          · rename_i h
            simp only [Bool.and_eq_true, decide_eq_true_eq, Bool.not_eq_true'] at h
            obtain ⟨rfl, h⟩ := h
            exact twice_snd hD hg hx ha h
          · trivial
/-- the theorem of what is made simple -/
theorem madeF_snd (hx : ∀ v ∈ x, 0 ≤ v ∧ v < 4294967296) : ∀ (N : Nat) (D : List T) (op a b : Int) (r : Int × List T), Wf D → Rng D → In D a → In D b → WhP.isOp op = true → madeF N D op a b = some r → Snd D x (W op (valF D x a) (valF D x b)) r
  | 0, _, _, _, _, _, _, _, _, _, _, h => by cases h
  | N + 1, D, op, a, b, r, hD, hg, ha, hb, ho, h => by
    simp only [madeF] at h
    have hs := made_snd hD hg hx ha hb ho
    generalize htg : W op (valF D x a) (valF D x b) = tg at *
    cases hm : made D op a b with
    | no => rw [hm] at hs; exact hs.elim
    | ret n =>
      rw [hm] at h hs
      simp only [exec, Option.some.injEq] at h
      subst h
      exact ⟨Ext.refl D, hD, hg, hs.1, hs.2⟩
    | const w =>
      rw [hm] at h hs
      simp only [exec, Option.some.injEq] at h
      subst h
      exact add_snd hD hg (K_ok _ w) hs.1 (by rw [val_K hD, hs.2])
    | goes o y w =>
      rw [hm] at h hs
      simp only [exec] at h
      obtain ⟨hw, ho', hy, hv⟩ := hs
      have he := addT_ext D (K w)
      have := madeF_snd hx N _ o y _ r (hD.add (K_ok _ w)) (hg.add hw) (hy.ext he) (addT_in D (K w)).1 ho' h
      rw [val_K hD, valF_ext he hy, hv] at this
      exact ⟨he.trans this.ext, this.wf, this.rng, this.inn, this.val⟩
    | call o y z =>
      rw [hm] at h hs
      simp only [exec] at h
      obtain ⟨ho', hy, hz, hv⟩ := hs
      have := madeF_snd hx N D o y z r hD hg hy hz ho' h
      rw [hv] at this
      exact this
    | opr =>
      rw [hm] at h
      simp only [exec, Option.some.injEq] at h
      subst h
      have e : WhD.op D op a b = ((addT D ⟨2, 0, op, a, b⟩).1, 0, (addT D ⟨2, 0, op, a, b⟩).2) := by
        simp [WhD.op, ha.is, hb.is, isOp_wdo ho]
      simp only [e]
      have h1 := ha.1; have h2 := ha.2; have h3 := hb.1; have h4 := hb.2
      have hok : TOk D.length ⟨2, 0, op, a, b⟩ := .inr (.inr ⟨rfl, ho, by omega, by omega, by omega, by omega⟩)
      refine add_snd hD hg hok ⟨Int.le_refl 0, (by decide : (0 : Int) < 4294967296)⟩ ?_
      have hi := addT_in D ⟨2, 0, op, a, b⟩
      rw [valF_node (hD.add hok) x hi.1, hi.2]
      simp only [show ((2 : Int) = 0) = False by decide, show ((2 : Int) = 1) = False by decide, if_false]
      rw [valF_ext (addT_ext D _) ha, valF_ext (addT_ext D _) hb, ← htg]
end
/-- mk, of terms that are not too deep -/
theorem mk_snd {D : List T} {x : List Int} {M : Nat} {op a b : Int} (hM2 : M ≤ 200) (hD : Wf D) (hg : Rng D) (hM : ChAll D M) (hx : ∀ v ∈ x, 0 ≤ v ∧ v < 4294967296) (ha : In D a) (hb : In D b) (ho : WhP.isOp op = true) : Snd D x (W op (valF D x a) (valF D x b)) (mk D op a b) :=
  madeF_snd hx 405 D op a b _ hD hg ha hb ho (mk_good hM2 hD hg hM ha hb ho).1
theorem wdo_err (op a b : Int) : (WhI.wdo op a b).2 = if WhP.isOp op then 0 else 1 := by
  unfold WhI.wdo
  by_cases h : WhP.isOp op = true
  · rw [if_pos h]
    simp only [WhP.isOp, Bool.and_eq_true, decide_eq_true_eq] at h
    have : op = 27 ∨ op = 28 ∨ op = 29 ∨ op = 30 ∨ op = 31 ∨ op = 32 ∨ op = 33 ∨ op = 34 ∨ op = 35 ∨ op = 36 ∨ op = 37 ∨ op = 38 ∨ op = 39 ∨ op = 40 ∨ op = 41 ∨ op = 42 ∨ op = 43 ∨ op = 44 := by omega
    rcases this with h | h | h | h | h | h | h | h | h | h | h | h | h | h | h | h | h | h <;> subst h <;> rfl
  · rw [if_neg h]
    simp only [WhP.isOp, Bool.and_eq_true, decide_eq_true_eq] at h
    repeat rw [if_neg (by omega)]
end Wh.WhM
namespace Wh.WhS
open Go
def logN : Nat → Int → Int
  | 0, _ => 0
  | k + 1, v => if v = 2 ^ (31 - k) then ((31 - k : Nat) : Int) else logN k v
/-- the k with 2^k a word, from 1 to 31 -/
def logI (v : Int) : Int := logN 31 v
def rplain (op a b v : Int) : St :=
  if (decide (v = 0) && among op [27, 35, 32]) || (decide (v = 1) && among op [37, 41, 42]) || (decide (v = 4294967295) && decide (op = 36)) then .ret a
  else if (decide (v = 0) && among op [36, 37, 31]) || (decide (v = 1) && among op [43, 44]) then .const 0
  else if decide (v = 4294967295) && decide (op = 35) then .ret b
  else if among op [29, 33, 34] && decide (v.tmod 32 = 0) then .ret a
  else if among op [29, 33, 34] && decide (31 < v) then .goes op a (v.tmod 32)
  else if logI v = 0 then .no
  else if op = 37 then .goes 29 a (IntKind.u32.wrap (logI v))
  else if op = 42 then .goes 33 a (IntKind.u32.wrap (logI v))
  else if op = 44 then .goes 36 a (IntKind.u32.wrap (v - 1))
  else .no
def rdeep (D : List T) (op a v : Int) : St :=
  if !decide ((WhD.node D a).1.kind = 2) || !decide ((WhD.node D a).1.op = op) || !(known D (WhD.node D a).1.b).2 then .no
  else if among op [27, 36, 35, 32] then .goes op (WhD.node D a).1.a (WhI.wdo op (known D (WhD.node D a).1.b).1 v).1
  else if !among op [29, 33, 34] || decide ((known D (WhD.node D a).1.b).1 < 1) || decide (31 < (known D (WhD.node D a).1.b).1) then .no
  else if IntKind.u32.wrap ((known D (WhD.node D a).1.b).1 + v) < 32 then .goes op (WhD.node D a).1.a (IntKind.u32.wrap ((known D (WhD.node D a).1.b).1 + v))
  else if op = 34 then .goes op (WhD.node D a).1.a 31 else .const 0
def rword (D : List T) (op a b v : Int) : St := if (rplain op a b v).isNo then rdeep D op a v else rplain op a b v
def rtail (op a b : Int) : St :=
  if decide (a = b) && among op [28, 32, 30, 31] then .const 0
  else if decide (a = b) && among op [36, 35] then .ret a
  else if decide (a = b) && decide (op = 27) then .goes 29 a 1 else .opr
def rmade (D : List T) (op a b : Int) : St :=
  if (known D a).2 && (known D b).2 then .const (WhI.wdo op (known D a).1 (known D b).1).1
  else if among op [27, 36, 35, 32, 37, 38, 40] && !(known D b).2 && ((known D a).2 || decide (a > b)) then .call op b a
  else if decide (op = 28) && (known D b).2 then .goes 27 a (IntKind.u32.wrap (0 - (known D b).1))
  else if (known D b).2 && !(rword D op a b (known D b).1).isNo then rword D op a b (known D b).1
  else rtail op a b
theorem logN_hit : ∀ (n k : Nat), n ≤ 31 → 31 - n < k → k ≤ 31 → logN n (2 ^ k) = k
  | 0, k, h, h1, h2 => by omega
  | n + 1, k, h, h1, h2 => by
    simp only [logN]
    by_cases e : 31 - n = k
    · rw [e, if_pos rfl]
    · rw [if_neg, logN_hit n k (by omega) (by omega) h2]
      intro h3
      have h4 : (2 : Nat) ^ k = 2 ^ (31 - n) := by
        have e1 : ((2 ^ k : Nat) : Int) = (2 : Int) ^ k := by simp
        have e2 : ((2 ^ (31 - n) : Nat) : Int) = (2 : Int) ^ (31 - n) := by simp
        omega
      exact e ((Nat.pow_right_inj (by decide)).1 h4).symm
theorem logN_miss : ∀ (n : Nat) (v : Int), (∀ k : Nat, 1 ≤ k → k ≤ 31 → v ≠ 2 ^ k) → n ≤ 31 → logN n v = 0
  | 0, _, _, _ => rfl
  | n + 1, v, h, hn => by
    simp only [logN]
    by_cases e : n = 31
    · omega
    · rw [if_neg (h _ (by omega) (by omega)), logN_miss n v h (by omega)]
theorem one_two {k : Nat} (hk : k < 32) : one (2 ^ k) = true := by
  have : ∀ k : Nat, k < 32 → one (2 ^ k) = true := by decide
  exact this k hk
theorem logI_eq {v : Int} (hv : 0 ≤ v ∧ v < 4294967296) : logI v = if one v && decide (1 < v) then IntKind.u32.wrap (tz v) else 0 := by
  by_cases h : one v = true ∧ 1 < v
  · obtain ⟨k, hk, e, et⟩ := WhM.one_pow hv h.1
    have hk1 : 1 ≤ k := by
      rcases Nat.lt_or_ge k 1 with h0 | h0
      · have : k = 0 := by omega
        subst this
        rw [e] at h
        exact absurd h.2 (by decide)
      · exact h0
    rw [if_pos (by simp [h.1, h.2]), et]
    unfold logI
    rw [e]
    exact logN_hit 31 k (Nat.le_refl _) (by omega) (by omega)
  · rw [if_neg (by simpa using h)]
    refine logN_miss 31 v (fun k h1 h2 e => h ?_) (Nat.le_refl _)
    subst e
    refine ⟨one_two (by omega), ?_⟩
    have : 2 ^ 1 ≤ 2 ^ k := Nat.pow_le_pow_right (by decide) h1
    have e1 : ((2 ^ k : Nat) : Int) = (2 : Int) ^ k := by simp
    omega
theorem ite_cond {c d : Bool} (h : c = d) (a b : St) : (if c = true then a else b) = if d = true then a else b := by rw [h]
theorem rword_eq {D : List T} {op a b v : Int} (hv : 0 ≤ v ∧ v < 4294967296) : rword D op a b v = byWord D op a b v := by
  have hsh : shift op = among op [29, 33, 34] := rfl
  have h32 : decide (32 ≤ v) = decide (31 < v) := by rw [Bool.eq_iff_iff]; simp; omega
  have hl := logI_eq hv
  have hdeep : rdeep D op a v = if !decide ((WhD.node D a).1.kind = 2) || !decide ((WhD.node D a).1.op = op) then .no
      else if !(known D (WhD.node D a).1.b).2 then .no
      else if among op [27, 36, 35, 32] then .goes op (WhD.node D a).1.a (WhI.wdo op (known D (WhD.node D a).1.b).1 v).1
      else if !shift op || decide ((known D (WhD.node D a).1.b).1 < 1) || decide (32 ≤ (known D (WhD.node D a).1.b).1) then .no
      else if decide (IntKind.u32.wrap ((known D (WhD.node D a).1.b).1 + v) < 32) then .goes op (WhD.node D a).1.a (IntKind.u32.wrap ((known D (WhD.node D a).1.b).1 + v))
      else if decide (op = 34) then .goes op (WhD.node D a).1.a 31 else .const 0 := by
    have e32 : decide (32 ≤ (known D (WhD.node D a).1.b).1) = decide (31 < (known D (WhD.node D a).1.b).1) := by rw [Bool.eq_iff_iff]; simp; omega
    unfold rdeep
    rw [e32, hsh]
    by_cases h1 : (!decide ((WhD.node D a).1.kind = 2) || !decide ((WhD.node D a).1.op = op)) = true
    · rw [if_pos h1, if_pos (by rw [h1]; rfl)]
    · rw [if_neg h1, Bool.not_eq_true] at *
      rw [h1, Bool.false_or]
      simp only [decide_eq_true_eq]
  unfold rword byWord
  rw [hsh, h32]
  unfold rplain
  generalize hc1 : ((decide (v = 0) && among op [27, 35, 32]) || (decide (v = 1) && among op [37, 41, 42]) || (decide (v = 4294967295) && decide (op = 36))) = c1
  cases c1
  case true => rfl
  simp only [Bool.false_eq_true, if_false]
  generalize hc2 : ((decide (v = 0) && among op [36, 37, 31]) || (decide (v = 1) && among op [43, 44])) = c2
  cases c2
  case true => rfl
  simp only [Bool.false_eq_true, if_false]
  generalize hc3 : (decide (v = 4294967295) && decide (op = 35)) = c3
  cases c3
  case true => rfl
  simp only [Bool.false_eq_true, if_false]
  generalize hc4 : (among op [29, 33, 34] && decide (v.tmod 32 = 0)) = c4
  cases c4
  case true => rfl
  simp only [Bool.false_eq_true, if_false]
  generalize hc5 : (among op [29, 33, 34] && decide (31 < v)) = c5
  cases c5
  case true => rfl
  simp only [Bool.false_eq_true, if_false]
  rw [hdeep, hl, hsh]
  by_cases ho : (one v && decide (1 < v)) = true
  · rw [ho]
    simp only [if_true, Bool.true_and]
    obtain ⟨k, hk, e, et⟩ := WhM.one_pow hv (by simp at ho; exact ho.1)
    have hne : ¬ IntKind.u32.wrap (tz v) = 0 := by
      rw [et]
      intro h0
      have : k = 0 := by omega
      subst this
      simp at ho
      rw [e] at ho
      exact absurd ho.2 (by decide)
    rw [if_neg hne]
    have hww : IntKind.u32.wrap (IntKind.u32.wrap (tz v)) = IntKind.u32.wrap (tz v) := by
      rw [et]; exact WhR.u32_id (by omega) (by omega)
    rw [hww]
    by_cases h37 : op = 37
    · simp [h37, St.isNo]
    by_cases h42 : op = 42
    · simp [h42, St.isNo]
    by_cases h44 : op = 44
    · simp [h44, St.isNo]
    simp [h37, h42, h44, St.isNo]
  · rw [Bool.not_eq_true] at ho
    rw [ho]
    simp only [Bool.false_and, Bool.false_eq_true, if_false, if_true, St.isNo]
theorem rtail_eq (op a b : Int) : rtail op a b = tail op a b := by
  unfold rtail tail twice
  by_cases hab : a = b
  · simp only [hab, decide_true, Bool.true_and]
    by_cases h1 : op = 28
    · simp [h1, among, St.isNo]
    by_cases h2 : op = 32
    · simp [h2, among, St.isNo]
    by_cases h3 : op = 30
    · simp [h3, among, St.isNo]
    by_cases h4 : op = 31
    · simp [h4, among, St.isNo]
    by_cases h5 : op = 36
    · simp [h5, among, St.isNo]
    by_cases h6 : op = 35
    · simp [h6, among, St.isNo]
    by_cases h7 : op = 27
    · simp [h7, among, St.isNo]
    simp [h1, h2, h3, h4, h5, h6, h7, among, St.isNo]
  · simp [hab]
/-- the document's step is the code's -/
theorem rmade_eq {D : List T} (hg : Rng D) (op a b : Int) : rmade D op a b = made D op a b := by
  unfold rmade made
  rw [rword_eq (hg.known b), rtail_eq]
  have : (among op [27, 36, 35, 32, 37, 38, 40] && !(known D b).2 && ((known D a).2 || decide (a > b))) = (turns op && (((known D a).2 && !(known D b).2) || (!(known D a).2 && !(known D b).2 && decide (a > b)))) := by
    unfold turns
    cases (known D a).2 <;> cases (known D b).2 <;> simp
  rw [this]
end Wh.WhS
namespace Wh
open Go
theorem alook_first : ∀ (D : List T) (t : T) (b i : Nat), (∀ j : Nat, j < i → D[j]? ≠ some t) → D[i]? = some t → alook t (numb b D) = some ((b + i : Nat) : Int)
  | [], _, _, _, _, h => by simp at h
  | s :: D, t, b, 0, _, h => by
    simp at h
    subst h
    simp [numb, alook]
  | s :: D, t, b, i + 1, hn, h => by
    have h0 := hn 0 (by omega)
    simp at h0
    simp only [numb, alook, h0, if_false]
    rw [alook_first D t (b + 1) i (fun j hj => by have := hn (j + 1) (by omega); simpa using this) (by simpa using h)]
    congr 2
    omega
theorem alook_none : ∀ (D : List T) (t : T) (b : Nat), (∀ j : Nat, D[j]? ≠ some t) → alook t (numb b D) = none
  | [], _, _, _ => rfl
  | s :: D, t, b, hn => by
    have h0 := hn 0
    simp at h0
    simp only [numb, alook, h0, if_false]
    exact alook_none D t (b + 1) (fun j => by have := hn (j + 1); simpa using this)
theorem addT_first {D : List T} {t : T} {i : Nat} (hn : ∀ j : Nat, j < i → D[j]? ≠ some t) (h : D[i]? = some t) : addT D t = ((i : Int), D) := by
  have := alook_first D t 0 i hn h
  simp [addT, this]
theorem addT_none {D : List T} {t : T} (hn : ∀ j : Nat, D[j]? ≠ some t) : addT D t = ((D.length : Int), D ++ [t]) := by
  simp [addT, alook_none D t 0 hn]
end Wh
