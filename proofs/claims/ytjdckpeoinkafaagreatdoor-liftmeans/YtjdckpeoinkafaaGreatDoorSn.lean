/- made: what it answers comes to the reckoning. -/
import Derived.Test.YtjdckpeoinkafaaGreatDoorSm
set_option linter.all false
namespace Wh.WhM
open Go WhS WhE
structure Snd (D : List T) (x : List Int) (tg : Int) (r : Int × List T) : Prop where
  ext : Ext D r.2
  wf : Wf r.2
  rng : Rng r.2
  inn : In r.2 r.1
  val : valF r.2 x r.1 = tg
/-- a step that comes to the reckoning -/
def StepSnd (D : List T) (x : List Int) (tg : Int) : St → Prop
  | .no => False
  | .ret n => In D n ∧ valF D x n = tg
  | .const w => InR w ∧ w = tg
  | .goes o y w => InR w ∧ WhP.isOp o = true ∧ In D y ∧ W o (valF D x y) w = tg
  | .call o y z => WhP.isOp o = true ∧ In D y ∧ In D z ∧ W o (valF D x y) (valF D x z) = tg
  | .opr => True
section
variable {D : List T} {x : List Int}
theorem val_known (hD : Wf D) {n : Int} (h : In D n) (hk : (known D n).2 = true) : valF D x n = (known D n).1 := by
  rw [valF_node hD x h]
  have : (WhD.node D n).1.kind = 0 := by simpa [known] using hk
  rw [if_pos this]
  rfl
theorem add_snd (hD : Wf D) (hg : Rng D) {t : T} (ht : TOk D.length t) (hv : 0 ≤ t.v ∧ t.v < 4294967296) {tg : Int} (hval : valF (addT D t).2 x (addT D t).1 = tg) : Snd D x tg (addT D t) :=
  ⟨addT_ext D t, hD.add ht, hg.add hv, (addT_in D t).1, hval⟩
theorem val_K (hD : Wf D) (w : Int) : valF (addT D (K w)).2 x (addT D (K w)).1 = w := by
  have h := addT_in D (K w)
  rw [valF_node (hD.add (K_ok _ w)) x h.1, h.2]
  rfl
theorem key_if {Pr : St → Prop} (c : Bool) (a b : St) (h1 : c = true → a.isNo = false → Pr a) (h2 : c = false → b.isNo = false → Pr b) : (if c = true then a else b).isNo = false → Pr (if c = true then a else b) := by
  intro h
  cases c
  · exact h2 rfl h
  · exact h1 rfl h
theorem byWord_snd (hD : Wf D) (hg : Rng D) (hx : ∀ v ∈ x, 0 ≤ v ∧ v < 4294967296) {op a b : Int} (ha : In D a) (hb : In D b) (ho : WhP.isOp op = true) (hk : (known D b).2 = true) :
    (byWord D op a b (known D b).1).isNo = false → StepSnd D x (W op (valF D x a) (valF D x b)) (byWord D op a b (known D b).1) := by
  have hbv := val_known (x := x) hD hb hk
  have hv : InR (known D b).1 := hg.known b
  rw [hbv]
  generalize (known D b).1 = v at *
  have hA : InR (valF D x a) := valF_rng' hD hg hx ha
  have hone : ∀ {v : Int}, InR v → one v = true → InR (IntKind.u32.wrap (tz v)) := fun _ _ => u32_rng _
  unfold byWord
  refine key_if _ _ _ (fun h _ => ?_) fun _ => ?_
  · refine ⟨ha, ?_⟩
    simp only [Bool.or_eq_true, Bool.and_eq_true, decide_eq_true_eq] at h
    rcases h with (⟨rfl, h⟩ | ⟨rfl, h⟩) | ⟨rfl, rfl⟩
    · exact (zero_r h hA).symm
    · exact (one_r h hA).symm
    · exact (and_ones hA).symm
  refine key_if _ _ _ (fun h _ => ?_) fun _ => ?_
  · refine ⟨R0, ?_⟩
    simp only [Bool.or_eq_true, Bool.and_eq_true, decide_eq_true_eq] at h
    rcases h with ⟨rfl, h⟩ | ⟨rfl, h⟩
    · exact (zero_z h hA).symm
    · exact (rem_one h hA).symm
  refine key_if _ _ _ (fun h _ => ?_) fun _ => ?_
  · simp only [Bool.and_eq_true, decide_eq_true_eq] at h
    obtain ⟨rfl, rfl⟩ := h
    exact ⟨hb, by rw [hbv]; exact (or_ones hA).symm⟩
  refine key_if _ _ _ (fun h _ => ?_) fun _ => ?_
  · simp only [Bool.and_eq_true, decide_eq_true_eq] at h
    exact ⟨ha, (shift0 h.1 hA hv h.2).symm⟩
  refine key_if _ _ _ (fun h _ => ?_) fun h32 => ?_
  · simp only [Bool.and_eq_true, decide_eq_true_eq] at h
    exact ⟨tmod_in hv, ho, ha, (shift_mod h.1 hA hv).symm⟩
  refine key_if _ _ _ (fun h _ => ?_) fun _ => ?_
  · simp only [Bool.and_eq_true, decide_eq_true_eq] at h
    obtain ⟨⟨h1, _⟩, rfl⟩ := h
    exact ⟨u32_rng _, by decide, ha, (mul_pow hA hv h1).symm⟩
  refine key_if _ _ _ (fun h _ => ?_) fun _ => ?_
  · simp only [Bool.and_eq_true, decide_eq_true_eq] at h
    obtain ⟨⟨h1, _⟩, rfl⟩ := h
    exact ⟨u32_rng _, by decide, ha, (divu_pow hA hv h1).symm⟩
  refine key_if _ _ _ (fun h _ => ?_) fun _ => ?_
  · simp only [Bool.and_eq_true, decide_eq_true_eq] at h
    obtain ⟨⟨h1, _⟩, rfl⟩ := h
    exact ⟨u32_rng _, by decide, ha, (remu_pow hA hv h1).symm⟩
  refine key_if _ _ _ (fun _ h => by cases h) fun hk1 => ?_
  simp only [Bool.or_eq_false_iff, Bool.not_eq_false', decide_eq_true_eq] at hk1
  refine key_if _ _ _ (fun _ h => by cases h) fun hk3 => ?_
  simp only [Bool.not_eq_false'] at hk3
  have ht := hD.node ha
  obtain ⟨t1, t2, t3, t4⟩ : 0 ≤ (WhD.node D a).1.a ∧ (WhD.node D a).1.a < a.toNat ∧ 0 ≤ (WhD.node D a).1.b ∧ (WhD.node D a).1.b < a.toNat := by
    rcases ht with h | ⟨h, _⟩ | ⟨_, _, h⟩
    · omega
    · omega
    · exact h
  have a1 := ha.1; have a2 := ha.2
  have hta : In D (WhD.node D a).1.a := ⟨t1, by omega⟩
  have htb : In D (WhD.node D a).1.b := ⟨t3, by omega⟩
  have hav : valF D x a = W op (valF D x (WhD.node D a).1.a) (known D (WhD.node D a).1.b).1 := by
    rw [valF_node hD x ha, if_neg (by omega), if_neg (by omega), hk1.2, val_known hD htb hk3]
  have hW : InR (known D (WhD.node D a).1.b).1 := hg.known _
  have hX : InR (valF D x (WhD.node D a).1.a) := valF_rng' hD hg hx hta
  rw [hav]
  generalize (known D (WhD.node D a).1.b).1 = w at *
  refine key_if _ _ _ (fun h _ => ⟨W_rng hW hv, ho, hta, (assoc h hX hW hv).symm⟩) fun _ => ?_
  refine key_if _ _ _ (fun _ h => by cases h) fun hs => ?_
  simp only [Bool.or_eq_false_iff, Bool.not_eq_false', decide_eq_false_iff_not] at hs
  obtain ⟨⟨hsh, hw1⟩, hw2⟩ := hs
  have hv32 : v < 32 := by
    rw [hsh] at h32
    simp at h32
    omega
  have hw0 := hW.1; have hv0 := hv.1
  have hwr : IntKind.u32.wrap (w + v) = w + v := WhR.u32_id (by omega) (by omega)
  rw [hwr]
  refine key_if _ _ _ (fun h _ => ?_) fun h2 => ?_
  · simp only [decide_eq_true_eq] at h
    exact ⟨⟨by omega, by omega⟩, ho, hta, (shift_twice hsh hX hW hv (by omega) h).symm⟩
  · simp only [decide_eq_false_iff_not] at h2
    refine key_if _ _ _ (fun h _ => ?_) fun h34 _ => ?_
    · simp only [decide_eq_true_eq] at h
      subst h
      exact ⟨⟨by decide, by decide⟩, ho, hta, (sra_out hX hW hv (by omega) hv32 (by omega)).symm⟩
    · simp only [decide_eq_false_iff_not] at h34
      exact ⟨R0, (shift_out hsh h34 hX hW hv (by omega) hv32 (by omega)).symm⟩
theorem twice_snd (hD : Wf D) (hg : Rng D) (hx : ∀ v ∈ x, 0 ≤ v ∧ v < 4294967296) {op a : Int} (ha : In D a) : (twice op a).isNo = false → StepSnd D x (W op (valF D x a) (valF D x a)) (twice op a) := by
  have hA : InR (valF D x a) := valF_rng' hD hg hx ha
  unfold twice
  refine key_if _ _ _ (fun h _ => ?_) fun _ => ?_
  · simp only [Bool.or_eq_true, decide_eq_true_eq] at h
    exact ⟨R0, (self_zero (by omega) hA).symm⟩
  refine key_if _ _ _ (fun h _ => ?_) fun _ => ?_
  · simp only [Bool.or_eq_true, decide_eq_true_eq] at h
    exact ⟨ha, (self_same h hA).symm⟩
  refine key_if _ _ _ (fun h _ => ?_) fun _ h => by cases h
  simp only [decide_eq_true_eq] at h
  subst h
  exact ⟨R1, by decide, ha, (add_self hA).symm⟩
theorem made_snd (hD : Wf D) (hg : Rng D) (hx : ∀ v ∈ x, 0 ≤ v ∧ v < 4294967296) {op a b : Int} (ha : In D a) (hb : In D b) (ho : WhP.isOp op = true) : StepSnd D x (W op (valF D x a) (valF D x b)) (made D op a b) := by
  have hA : InR (valF D x a) := valF_rng' hD hg hx ha
  have hB : InR (valF D x b) := valF_rng' hD hg hx hb
  unfold made
  split
  · rename_i h
    simp only [Bool.and_eq_true] at h
    rw [val_known hD ha h.1, val_known hD hb h.2]
    exact ⟨W_rng (hg.known a) (hg.known b), rfl⟩
  · split
    · rename_i h
      simp only [Bool.and_eq_true] at h
      exact ⟨ho, hb, ha, turn h.1 hB hA⟩
    · split
      · rename_i h
        simp only [Bool.and_eq_true, decide_eq_true_eq] at h
        obtain ⟨rfl, hk⟩ := h
        refine ⟨u32_rng _, by decide, ha, ?_⟩
        rw [val_known hD hb hk]
        exact (sub_neg hA (hg.known b)).symm
      · split
        · rename_i h
          simp only [Bool.and_eq_true, Bool.not_eq_true'] at h
          exact byWord_snd hD hg hx ha hb ho h.1 h.2
        · unfold tail
          split
          · rename_i h
            simp only [Bool.and_eq_true, decide_eq_true_eq, Bool.not_eq_true'] at h
            obtain ⟨rfl, h⟩ := h
            exact twice_snd hD hg hx ha h
          · trivial
/-- the theorem of what is made simple -/
theorem madeF_snd (hx : ∀ v ∈ x, 0 ≤ v ∧ v < 4294967296) : ∀ (N : Nat) (D : List T) (op a b : Int) (r : Int × List T), Wf D → Rng D → In D a → In D b → WhP.isOp op = true → madeF N D op a b = some r → Snd D x (W op (valF D x a) (valF D x b)) r
  | 0, _, _, _, _, _, _, _, _, _, _, h => by cases h
  | N + 1, D, op, a, b, r, hD, hg, ha, hb, ho, h => by
    simp only [madeF] at h
    have hs := made_snd hD hg hx ha hb ho
    generalize htg : W op (valF D x a) (valF D x b) = tg at *
    cases hm : made D op a b with
    | no => rw [hm] at hs; exact hs.elim
    | ret n =>
      rw [hm] at h hs
      simp only [exec, Option.some.injEq] at h
      subst h
      exact ⟨Ext.refl D, hD, hg, hs.1, hs.2⟩
    | const w =>
      rw [hm] at h hs
      simp only [exec, Option.some.injEq] at h
      subst h
      exact add_snd hD hg (K_ok _ w) hs.1 (by rw [val_K hD, hs.2])
    | goes o y w =>
      rw [hm] at h hs
      simp only [exec] at h
      obtain ⟨hw, ho', hy, hv⟩ := hs
      have he := addT_ext D (K w)
      have := madeF_snd hx N _ o y _ r (hD.add (K_ok _ w)) (hg.add hw) (hy.ext he) (addT_in D (K w)).1 ho' h
      rw [val_K hD, valF_ext he hy, hv] at this
      exact ⟨he.trans this.ext, this.wf, this.rng, this.inn, this.val⟩
    | call o y z =>
      rw [hm] at h hs
      simp only [exec] at h
      obtain ⟨ho', hy, hz, hv⟩ := hs
      have := madeF_snd hx N D o y z r hD hg hy hz ho' h
      rw [hv] at this
      exact this
    | opr =>
      rw [hm] at h
      simp only [exec, Option.some.injEq] at h
      subst h
      have e : WhD.op D op a b = ((addT D ⟨2, 0, op, a, b⟩).1, 0, (addT D ⟨2, 0, op, a, b⟩).2) := by
        simp [WhD.op, ha.is, hb.is, isOp_wdo ho]
      simp only [e]
      have h1 := ha.1; have h2 := ha.2; have h3 := hb.1; have h4 := hb.2
      have hok : TOk D.length ⟨2, 0, op, a, b⟩ := .inr (.inr ⟨rfl, ho, by omega, by omega, by omega, by omega⟩)
      refine add_snd hD hg hok ⟨Int.le_refl 0, (by decide : (0 : Int) < 4294967296)⟩ ?_
      have hi := addT_in D ⟨2, 0, op, a, b⟩
      rw [valF_node (hD.add hok) x hi.1, hi.2]
      simp only [show ((2 : Int) = 0) = False by decide, show ((2 : Int) = 1) = False by decide, if_false]
      rw [valF_ext (addT_ext D _) ha, valF_ext (addT_ext D _) hb, ← htg]
end
/-- mk, of terms that are not too deep -/
theorem mk_snd {D : List T} {x : List Int} {M : Nat} {op a b : Int} (hM2 : M ≤ 200) (hD : Wf D) (hg : Rng D) (hM : ChAll D M) (hx : ∀ v ∈ x, 0 ≤ v ∧ v < 4294967296) (ha : In D a) (hb : In D b) (ho : WhP.isOp op = true) : Snd D x (W op (valF D x a) (valF D x b)) (mk D op a b) :=
  madeF_snd hx 405 D op a b _ hD hg ha hb ho (mk_good hM2 hD hg hM ha hb ho).1
end Wh.WhM
