/- lift: what its functions answer, plainly. -/
import Derived.Test.YtjdckpeoinkafaaGreatDoorLw
import Derived.Test.YtjdckpeoinkafaaGreatDoorIn
import Derived.Test.YtjdckpeoinkafaaGreatDoorFwL
set_option linter.all false
namespace Wh.WhL
open Go WhS
def startN (D : List T) : Nat → List Int × List T
  | 0 => ([], D)
  | n + 1 => ((startN D n).1 ++ [(WhD.var (startN D n).2 n).1], (WhD.var (startN D n).2 n).2.2)
def reg (xs : List Int) (r : Int) : Int := (xs[r.toNat]?).getD 0
def up (i : X) : Int := IntKind.u32.wrap (IntKind.u32.wrap i.imm * 2 ^ 12)
def oneF (D : List T) (xs : List Int) (i : X) (pc : Int) : Int × List T :=
  if i.op = 0 then addT D (K (up i)) else if i.op = 1 then addT D (K (IntKind.u32.wrap (up i + pc)))
  else if (WhI.plain i.op).2 then mk (addT D (K (IntKind.u32.wrap i.imm))).2 (WhI.plain i.op).1 (reg xs i.rs1) (addT D (K (IntKind.u32.wrap i.imm))).1
  else mk D i.op (reg xs i.rs1) (reg xs i.rs2)
def setF (xs : List Int) (i : X) (n : Int) : List Int := if i.rd = 0 then xs else xs.set i.rd.toNat n
/-- terms, registers, a place: behind an instruction -/
def stepF (s : List T × List Int × Int) (i : X) : List T × List Int × Int := ((oneF s.1 s.2.1 i s.2.2).2, setF s.2.1 i (oneF s.1 s.2.1 i s.2.2).1, IntKind.u32.wrap (s.2.2 + 4))
def runF (l : List X) (D : List T) (xs : List Int) (pc : Int) : List T × List Int × Int := l.foldl stepF (D, xs, pc)
theorem runF_take (l : List X) (D : List T) (xs : List Int) (pc : Int) {j : Nat} {x : X} (h : l[j]? = some x) : runF (l.take (j + 1)) D xs pc = stepF (runF (l.take j) D xs pc) x := by
  rw [List.take_add_one, h]
  simp [runF, List.foldl_append]
/-- registers' terms that may be -/
structure Ok (D : List T) (M : Nat) (xs : List Int) : Prop where
  wf : Wf D
  rng : Rng D
  ch : ChAll D M
  len : xs.length = 32
  inn : ∀ n ∈ xs, In D n
theorem Ok.reg {D : List T} {M : Nat} {xs : List Int} (h : Ok D M xs) {r : Int} (h0 : 0 ≤ r) (h1 : r ≤ 31) : xs[r.toNat]? = some (reg xs r) ∧ In D (reg xs r) := by
  have hl : r.toNat < xs.length := by have := h.len; omega
  have e : xs[r.toNat]? = some xs[r.toNat] := List.getElem?_eq_getElem hl
  simp only [WhL.reg, e, Option.getD_some, true_and]
  exact h.inn _ (List.getElem_mem hl)
theorem register_rng {b : Bool} {n : Int} (h : WhI.register b n = true) : 0 ≤ n ∧ n ≤ 31 := by
  simp [WhI.register, WhI.between] at h
  omega
theorem lplain_regs {i : X} (h : WhI.lplain i = true) : (0 ≤ i.rd ∧ i.rd ≤ 31) ∧ (0 ≤ i.rs1 ∧ i.rs1 ≤ 31) ∧ (0 ≤ i.rs2 ∧ i.rs2 ≤ 31) := by
  simp only [WhI.lplain, WhI.right, Bool.and_eq_true] at h
  exact ⟨register_rng h.1.1.1.1.2, register_rng h.1.1.1.2, register_rng h.1.1.2⟩
theorem plain_isOp {op : Int} (h : (WhI.plain op).2 = true) : WhP.isOp (WhI.plain op).1 = true := by
  unfold WhI.plain at h ⊢
  have key : ∀ (c : Prop) [Decidable c] (x y : Int × Bool), (x.2 = true → WhP.isOp x.1 = true) → (y.2 = true → WhP.isOp y.1 = true) → (if c then x else y).2 = true → WhP.isOp (if c then x else y).1 = true := by
    intro c _ x y hx hy
    split
    · exact hx
    · exact hy
  revert h
  repeat' refine key _ _ _ ?_ ?_
  all_goals intro h
  all_goals first | decide | cases h
theorem form_isOp {op : Int} (h : WhI.form op = 82) : WhP.isOp op = true := by
  unfold WhI.form at h
  split at h
  · omega
  · rename_i hn
    have hall : ∀ n : Nat, n < 47 → WhI.formN n = 82 → 27 ≤ n ∧ n ≤ 44 := by decide
    have := hall op.toNat (by omega) h
    simp [WhP.isOp]
    omega
theorem lplain_op {i : X} (h : WhI.lplain i = true) (h0 : i.op ≠ 0) (h1 : i.op ≠ 1) (hp : (WhI.plain i.op).2 = false) : WhP.isOp i.op = true := by
  simp only [WhI.lplain, Bool.and_eq_true, Bool.or_eq_true, decide_eq_true_eq, hp, Bool.false_eq_true, false_or] at h
  rcases h.2 with (h2 | h2) | h2
  · exact absurd h2 h0
  · exact absurd h2 h1
  · exact form_isOp h2
theorem Ok.addK {D : List T} {M : Nat} {xs : List Int} (h : Ok D M xs) {w : Int} (hw : 0 ≤ w ∧ w < 4294967296) : Ok (addT D (K w)).2 M xs :=
  ⟨h.wf.add (K_ok _ w), h.rng.add hw, h.ch.addK h.wf w, h.len, fun n hn => (h.inn n hn).ext (addT_ext _ _)⟩
theorem Ok.mono {D : List T} {M M' : Nat} {xs : List Int} (h : Ok D M xs) (hm : M ≤ M') : Ok D M' xs := ⟨h.wf, h.rng, fun o n hn => (h.ch o n hn).mono hm, h.len, h.inn⟩
/-- one instruction -/
theorem one_ok {D : List T} {M : Nat} {xs : List Int} (hM : M ≤ 200) (h : Ok D M xs) {i : X} (hi : WhI.lplain i = true) (pc : Int) :
    Good D M (oneF D xs i pc) (2 * M + 6) := by
  obtain ⟨hrd, hr1, hr2⟩ := lplain_regs hi
  unfold oneF
  split
  · exact add_good h.wf h.rng (K_ok _ _) (u32_rng _) h.ch (by omega)
  · split
    · exact add_good h.wf h.rng (K_ok _ _) (u32_rng _) h.ch (by omega)
    · split
      · rename_i hp
        have h' := h.addK (u32_rng i.imm)
        have g := (mk_good hM h'.wf h'.rng h'.ch (h'.reg hr1.1 hr1.2).2 (addT_in D (K (IntKind.u32.wrap i.imm))).1 (plain_isOp hp)).2
        exact ⟨g.ch, (addT_ext _ _).trans g.ext, g.wf, g.rng, g.inn, by have := g.len; have := addT_len D (K (IntKind.u32.wrap i.imm)); omega⟩
      · rename_i h0 h1 hp
        have g := (mk_good hM h.wf h.rng h.ch (h.reg hr1.1 hr1.2).2 (h.reg hr2.1 hr2.2).2 (lplain_op hi h0 h1 (by simpa using hp))).2
        exact ⟨g.ch, g.ext, g.wf, g.rng, g.inn, by have := g.len; omega⟩
theorem Ok.step {D : List T} {M : Nat} {xs : List Int} (hM : M ≤ 200) (h : Ok D M xs) {i : X} (hi : WhI.lplain i = true) (pc : Int) : Ok (oneF D xs i pc).2 (M + 1) (setF xs i (oneF D xs i pc).1) := by
  have g := one_ok hM h hi pc
  refine ⟨g.wf, g.rng, g.ch, ?_, ?_⟩
  · unfold setF
    split <;> simp [h.len]
  · intro n hn
    unfold setF at hn
    split at hn
    · exact (h.inn n hn).ext g.ext
    · rcases List.mem_or_eq_of_mem_set hn with h1 | rfl
      · exact (h.inn n h1).ext g.ext
      · exact g.inn
theorem startN_len (D : List T) : ∀ n, (startN D n).1.length = n
  | 0 => rfl
  | n + 1 => by simp [startN, startN_len D n]
theorem var_len (D : List T) (n : Int) : (WhD.var D n).2.2.length ≤ D.length + 1 := by
  unfold WhD.var
  repeat' split
  all_goals first | exact addT_len _ _ | simp
theorem startN_dlen (D : List T) : ∀ n, (startN D n).2.length ≤ D.length + n
  | 0 => by simp [startN]
  | n + 1 => by have := startN_dlen D n; have := var_len (startN D n).2 n; simp only [startN]; omega
/-- what stands in the array on the way -/
def startX (D : List T) (n : Nat) : List Int := (startN D n).1 ++ List.replicate (32 - n) 0
theorem startX_set (D : List T) {n : Nat} (h : n < 32) : (startX D n).set n (WhD.var (startN D n).2 n).1 = startX D (n + 1) := by
  unfold startX
  have hl := startN_len D n
  rw [List.set_append_right _ _ (by omega), hl, Nat.sub_self]
  have e : 32 - n = (32 - (n + 1)) + 1 := by omega
  rw [e, List.replicate_succ, List.set_cons_zero]
  simp [startN]
theorem startX_len (D : List T) {n : Nat} (h : n ≤ 32) : (startX D n).length = 32 := by
  simp [startX, startN_len]
  omega
theorem startX_end (D : List T) : startX D 32 = (startN D 32).1 := by simp [startX]
theorem vI_one (xs : List Int) : (vI xs).toList.all (·.oneCell') = true := by
  simp [vI, i64v, Value.oneCell']
theorem var_ok {D : List T} {M : Nat} (hD : Wf D) (hg : Rng D) (hc : ChAll D M) {n : Int} (h0 : 0 ≤ n) (h1 : n < 32) :
    Wf (WhD.var D n).2.2 ∧ Rng (WhD.var D n).2.2 ∧ ChAll (WhD.var D n).2.2 M ∧ Ext D (WhD.var D n).2.2 ∧ In (WhD.var D n).2.2 (WhD.var D n).1 := by
  unfold WhD.var
  rw [if_neg (by omega)]
  split
  · exact ⟨hD.add (K_ok _ 0), hg.add ⟨by decide, by decide⟩, hc.addK hD 0, addT_ext _ _, (addT_in _ _).1⟩
  · have hw : IntKind.u32.wrap n = n := by
      have h : (2 : Int) ^ 32 = 4294967296 := by decide
      simp only [IntKind.wrap, IntKind.bits, IntKind.signed, h, Bool.false_and]
      simp
      omega
    refine ⟨hD.add (.inr (.inl ⟨rfl, by rw [hw]; exact h1⟩)), hg.add (u32_rng _), ?_, addT_ext _ _, (addT_in _ _).1⟩
    intro op m hm
    rcases addT_all _ hm with h2 | h2
    · exact (hc op m h2).ext hD (addT_ext D _) h2
    · refine ChLe.mono (Nat.zero_le _) (?_ : ¬ Lk _ op m)
      unfold Lk
      rw [h2]
      simp
theorem startN_ok {D : List T} {M : Nat} (hD : Wf D) (hg : Rng D) (hc : ChAll D M) : ∀ n, n ≤ 32 → Wf (startN D n).2 ∧ Rng (startN D n).2 ∧ ChAll (startN D n).2 M ∧ Ext D (startN D n).2 ∧ ∀ m ∈ (startN D n).1, In (startN D n).2 m
  | 0, _ => ⟨hD, hg, hc, Ext.refl D, by simp [startN]⟩
  | n + 1, h => by
    obtain ⟨h1, h2, h3, h4, h5⟩ := startN_ok hD hg hc n (by omega)
    obtain ⟨k1, k2, k3, k4, k5⟩ := var_ok h1 h2 h3 (n := n) (by omega) (by omega)
    refine ⟨k1, k2, k3, h4.trans k4, ?_⟩
    intro m hm
    simp only [startN, List.mem_append, List.mem_singleton] at hm
    rcases hm with hm | rfl
    · exact (h5 m hm).ext k4
    · exact k5
theorem start_ok {D : List T} {M : Nat} (hD : Wf D) (hg : Rng D) (hc : ChAll D M) : Ok (startN D 32).2 M (startN D 32).1 := by
  obtain ⟨h1, h2, h3, _, h5⟩ := startN_ok hD hg hc 32 (Nat.le_refl _)
  exact ⟨h1, h2, h3, startN_len D 32, h5⟩
theorem runF_ok {M : Nat} : ∀ (l : List X) (D : List T) (xs : List Int) (pc : Int), M + l.length ≤ 200 → Ok D M xs → l.all WhI.lplain = true →
    Ok (runF l D xs pc).1 (M + l.length) (runF l D xs pc).2.1 ∧ (runF l D xs pc).1.length ≤ D.length + 500 * l.length ∧ Ext D (runF l D xs pc).1 := by
  intro l D xs pc hM h hall
  have key : ∀ j, j ≤ l.length → Ok (runF (l.take j) D xs pc).1 (M + j) (runF (l.take j) D xs pc).2.1 ∧ (runF (l.take j) D xs pc).1.length ≤ D.length + 500 * j ∧ Ext D (runF (l.take j) D xs pc).1 := by
    intro j
    induction j with
    | zero => intro _; exact ⟨h, by simp [runF], by simpa [runF] using Ext.refl D⟩
    | succ j ih =>
      intro hj
      obtain ⟨h1, h2, h3⟩ := ih (by omega)
      have hg : l[j]? = some l[j] := List.getElem?_eq_getElem (by omega)
      have hp : WhI.lplain l[j] = true := (List.all_eq_true.1 hall) _ (List.getElem_mem _)
      rw [runF_take l D xs pc hg]
      have g := one_ok (by omega) h1 hp (runF (l.take j) D xs pc).2.2
      refine ⟨h1.step (by omega) hp _, ?_, h3.trans g.ext⟩
      have := g.len
      simp only [stepF]
      omega
  have := key l.length (Nat.le_refl _)
  rwa [List.take_length] at this
def fromF (D : List T) (xs : List Int) (l : List X) (pc : Int) : List Int × Int × List T :=
  if !xs.all (WhD.is D) then (List.replicate 32 0, 100, D) else if !l.all WhI.lplain then (List.replicate 32 0, 120, D) else ((runF l D xs pc).2.1, 0, (runF l D xs pc).1)
def blockF (D : List T) (l : List X) (pc : Int) : List Int × Int × List T :=
  if !l.all WhI.lplain then (List.replicate 32 0, 120, D) else fromF (startN D 32).2 (startN D 32).1 l pc
theorem setF_get {xs : List Int} {i : X} {n : Int} {r : Nat} (h : i.rd = 0 ∨ i.rd.toNat ≠ r) : (setF xs i n)[r]? = xs[r]? := by
  unfold setF
  split
  · rfl
  · rename_i h0
    rcases h with h | h
    · exact absurd h h0
    · rw [List.getElem?_set_ne h]
theorem foldF_get {r : Nat} : ∀ (l : List X) (s : List T × List Int × Int), (∀ i ∈ l, i.rd = 0 ∨ i.rd.toNat ≠ r) → (l.foldl stepF s).2.1[r]? = s.2.1[r]?
  | [], s, _ => rfl
  | i :: l, s, h => by
    rw [List.foldl_cons, foldF_get l (stepF s i) (fun j hj => h j (List.mem_cons_of_mem _ hj))]
    exact setF_get (h i List.mem_cons_self)
theorem runF_get {r : Nat} (l : List X) (D : List T) (xs : List Int) (pc : Int) (h : ∀ i ∈ l, i.rd = 0 ∨ i.rd.toNat ≠ r) : (runF l D xs pc).2.1[r]? = xs[r]? := foldF_get l (D, xs, pc) h
end Wh.WhL
