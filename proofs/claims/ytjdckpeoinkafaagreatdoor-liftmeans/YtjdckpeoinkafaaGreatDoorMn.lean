/- The stage's theorem, plainly: registers' terms and the machine. -/
import Derived.Test.YtjdckpeoinkafaaGreatDoorSn
import Derived.Test.YtjdckpeoinkafaaGreatDoorCp
import Derived.KernelRfl
set_option linter.all false
namespace Wh.WhN
open Go WhS WhE WhL WhC WhM
theorem wdo_err (op a b : Int) : (WhI.wdo op a b).2 = if WhP.isOp op then 0 else 1 := by
  unfold WhI.wdo
  by_cases h : WhP.isOp op = true
  · rw [if_pos h]
    simp only [WhP.isOp, Bool.and_eq_true, decide_eq_true_eq] at h
    have : op = 27 ∨ op = 28 ∨ op = 29 ∨ op = 30 ∨ op = 31 ∨ op = 32 ∨ op = 33 ∨ op = 34 ∨ op = 35 ∨ op = 36 ∨ op = 37 ∨ op = 38 ∨ op = 39 ∨ op = 40 ∨ op = 41 ∨ op = 42 ∨ op = 43 ∨ op = 44 := by omega
    rcases this with h | h | h | h | h | h | h | h | h | h | h | h | h | h | h | h | h | h <;> subst h <;> rfl
  · rw [if_neg h]
    simp only [WhP.isOp, Bool.and_eq_true, decide_eq_true_eq] at h
    repeat rw [if_neg (by omega)]
theorem form_op {op : Int} (h : WhP.isOp op = true) : WhI.form op = 82 := by
  simp only [WhP.isOp, Bool.and_eq_true, decide_eq_true_eq] at h
  unfold WhI.form
  rw [if_neg (by omega)]
  have hall : ∀ n : Nat, n < 47 → 27 ≤ n → n ≤ 44 → WhI.formN n = 82 := by decide
  exact hall _ (by omega) (by omega) (by omega)
/-- an instruction is done just if it can be lifted -/
theorem does_lplain (cs : List Int) (i : X) : (doesF cs i).2 = WhI.lplain i := by
  unfold doesF WhI.lplain
  cases hr : WhI.right i
  · simp
  · simp only [Bool.not_true, Bool.false_eq_true, if_false, Bool.true_and]
    by_cases h0 : i.op = 0
    · simp [h0]
    by_cases h1 : i.op = 1
    · simp [h1]
    simp only [h0, h1, if_false, decide_false, Bool.or_false]
    rw [wdo_err]
    unfold opC
    cases hp : (WhI.plain i.op).2
    · simp only [Bool.false_eq_true, if_false, Bool.false_or]
      by_cases ho : WhP.isOp i.op = true
      · simp [ho, form_op ho]
      · have : ¬ WhI.form i.op = 82 := fun h => ho (form_isOp h)
        simp [ho, this]
    · simp [plain_isOp hp]
theorem up_eq (i : X) : up i = upC i := by
  unfold up upC
  have : (2 : Int) ^ 12 = 4096 := by decide
  rw [this]
theorem snd_K {D : List T} {x : List Int} (hD : Wf D) (hg : Rng D) {w : Int} (hw : InR w) : Snd D x w (addT D (K w)) := add_snd hD hg (K_ok _ w) hw (val_K hD w)
/-- what one instruction's term comes to -/
def tgt (cs : List Int) (i : X) : Int := if i.op = 0 then upC i else if i.op = 1 then IntKind.u32.wrap (pcOf cs + upC i) else W (opC i) (reg cs i.rs1) (bC cs i)
structure Rel (D : List T) (M : Nat) (xs : List Int) (pc : Int) (x cs : List Int) : Prop where
  ok : Ok D M xs
  wc : Wc cs
  zero : cs[0]? = some 0
  pc : pcOf cs = pc
  val : ∀ r : Nat, r < 32 → valF D x (reg xs r) = reg cs r
theorem one_snd {D : List T} {M : Nat} {xs : List Int} {pc : Int} {x cs : List Int} (hM : M ≤ 200) (hx : ∀ v ∈ x, 0 ≤ v ∧ v < 4294967296) (h : Rel D M xs pc x cs) {i : X} (hi : WhI.lplain i = true) : Snd D x (tgt cs i) (oneF D xs i pc) := by
  obtain ⟨hrd, hr1, hr2⟩ := lplain_regs hi
  have hD := h.ok.wf; have hg := h.ok.rng
  have hx1 := h.ok.reg hr1.1 hr1.2
  have hx2 := h.ok.reg hr2.1 hr2.2
  have v1 := h.val i.rs1.toNat (by omega)
  have v2 := h.val i.rs2.toNat (by omega)
  rw [show ((i.rs1.toNat : Nat) : Int) = i.rs1 by omega] at v1
  rw [show ((i.rs2.toNat : Nat) : Int) = i.rs2 by omega] at v2
  unfold oneF tgt
  split
  · rw [up_eq]; exact snd_K hD hg (u32_rng _)
  · split
    · rw [up_eq, ← h.pc, Int.add_comm]; exact snd_K hD hg (u32_rng _)
    · rename_i h0 h1
      split
      · rename_i hp
        have hk := h.ok.addK (w := IntKind.u32.wrap i.imm) (u32_rng _)
        have he := addT_ext D (K (IntKind.u32.wrap i.imm))
        have hs := mk_snd hM hk.wf hk.rng hk.ch hx (hk.reg hr1.1 hr1.2).2 (addT_in D (K (IntKind.u32.wrap i.imm))).1 (plain_isOp hp)
        rw [val_K hD, valF_ext he hx1.2, v1] at hs
        have : opC i = (WhI.plain i.op).1 := by unfold opC; rw [if_pos hp]
        have hb : bC cs i = IntKind.u32.wrap i.imm := by unfold bC; rw [if_pos hp]
        rw [this, hb]
        exact ⟨he.trans hs.ext, hs.wf, hs.rng, hs.inn, hs.val⟩
      · rename_i hp
        have hp' : (WhI.plain i.op).2 = false := by simpa using hp
        have hs := mk_snd hM hD hg h.ok.ch hx hx1.2 hx2.2 (lplain_op hi h0 h1 hp')
        rw [v1, v2] at hs
        have : opC i = i.op := by unfold opC; rw [if_neg hp]
        have hb : bC cs i = reg cs i.rs2 := by unfold bC; rw [if_neg hp]
        rw [this, hb]
        exact hs
theorem set0 {cs : List Int} (h : cs[0]? = some 0) : cs.set 0 0 = cs := by
  cases cs with
  | nil => rfl
  | cons a l => simp at h; simp [h]
theorem does_tgt {cs : List Int} (hz : cs[0]? = some 0) {i : X} (hi : WhI.lplain i = true) : (doesF cs i).1 = setC cs i.rd (tgt cs i) := by
  have h2 := does_lplain cs i
  rw [hi] at h2
  have hr : WhI.right i = true := by simp only [WhI.lplain, Bool.and_eq_true] at hi; exact hi.1
  unfold doesF at h2 ⊢
  unfold tgt
  rw [set0 hz] at h2 ⊢
  simp only [hr, Bool.not_true, Bool.false_eq_true, if_false] at h2 ⊢
  split
  · rfl
  · split
    · rfl
    · rename_i h0 h1
      rw [if_neg h0, if_neg h1] at h2
      split
      · rename_i he
        rw [if_pos he] at h2
        cases h2
      · rfl
theorem putC_get {cs : List Int} {rd v : Int} (h0 : 0 ≤ rd) {k : Nat} (hk : k < cs.length) : (putC cs rd v)[k]? = if 0 < rd ∧ rd.toNat = k then some v else cs[k]? := by
  unfold putC
  split
  · rename_i h
    rw [List.getElem?_set]
    by_cases e : rd.toNat = k
    · simp [e, h, hk]
    · simp [e]
  · rename_i h
    simp [h]
theorem setC_get {cs : List Int} (hc : Wc cs) {rd v : Int} (h0 : 0 ≤ rd) {k : Nat} (hk : k < 32) : (setC cs rd v)[k]? = if 0 < rd ∧ rd.toNat = k then some v else cs[k]? := by
  unfold setC
  rw [List.getElem?_set_ne (by omega)]
  exact putC_get h0 (by rw [hc.len]; omega)
theorem Rel.step {D : List T} {M : Nat} {xs : List Int} {pc : Int} {x cs : List Int} (hM : M ≤ 200) (hx : ∀ v ∈ x, 0 ≤ v ∧ v < 4294967296) (h : Rel D M xs pc x cs) {i : X} (hi : WhI.lplain i = true) :
    Rel (oneF D xs i pc).2 (M + 1) (setF xs i (oneF D xs i pc).1) (IntKind.u32.wrap (pc + 4)) x (doesF cs i).1 := by
  obtain ⟨hrd, hr1, hr2⟩ := lplain_regs hi
  have hs := one_snd hM hx h hi
  have hok := h.ok.step hM hi pc
  have hwc := doesF_wc h.wc i
  have hd := does_tgt h.zero hi
  have hg := hs.val
  have hpc : pcOf (putC cs i.rd (tgt cs i)) = pcOf cs := by
    unfold pcOf
    rw [putC_get hrd.1 (by rw [h.wc.len]; decide), if_neg (by omega)]
  refine ⟨hok, hwc, ?_, ?_, fun r hr => ?_⟩
  · rw [hd, setC_get h.wc hrd.1 (by decide), if_neg (by omega)]
    exact h.zero
  · rw [hd]
    have hp := h.wc.put (rd := i.rd) (v := tgt cs i) (by rw [← hs.val]; exact valF_rng' hs.wf hs.rng hx hs.inn)
    unfold setC
    rw [hpc, h.pc]
    unfold pcOf
    rw [List.getElem?_set_self (by rw [hp.len]; decide)]
    rfl
  · have hreg : reg (setF xs i (oneF D xs i pc).1) r = if i.rd ≠ 0 ∧ i.rd.toNat = r then (oneF D xs i pc).1 else reg xs r := by
      unfold reg setF
      split
      · rename_i e; simp [e]
      · rename_i e
        simp only [Int.toNat_natCast]
        rw [List.getElem?_set]
        by_cases e2 : i.rd.toNat = r
        · have : r < xs.length := by rw [h.ok.len]; exact hr
          simp [e, e2, this]
        · simp [e2]
    have hin : In D (reg xs r) := (h.ok.reg (r := (r : Int)) (by omega) (by omega)).2
    have hcr : reg (doesF cs i).1 r = if 0 < i.rd ∧ i.rd.toNat = r then tgt cs i else reg cs r := by
      rw [hd]
      unfold reg
      simp only [Int.toNat_natCast]
      rw [setC_get h.wc hrd.1 hr]
      split <;> rfl
    rw [hreg, hcr]
    by_cases e : i.rd = 0
    · rw [if_neg (by omega), if_neg (by omega), valF_ext hs.ext hin]
      exact h.val r hr
    · by_cases e2 : i.rd.toNat = r
      · rw [if_pos ⟨e, e2⟩, if_pos ⟨by omega, e2⟩]
        exact hs.val
      · rw [if_neg (fun h => e2 h.2), if_neg (fun h => e2 h.2), valF_ext hs.ext hin]
        exact h.val r hr
def runC (l : List X) (cs : List Int) : List Int := l.foldl (fun c i => (doesF c i).1) cs
theorem runC_take (l : List X) (cs : List Int) {j : Nat} {i : X} (h : l[j]? = some i) : runC (l.take (j + 1)) cs = (doesF (runC (l.take j) cs) i).1 := by
  rw [List.take_add_one, h]
  simp [runC, List.foldl_append]
theorem Rel.run {x : List Int} (hx : ∀ v ∈ x, 0 ≤ v ∧ v < 4294967296) : ∀ (l : List X) (D : List T) (M : Nat) (xs : List Int) (pc : Int) (cs : List Int), M + l.length ≤ 200 → Rel D M xs pc x cs → l.all WhI.lplain = true →
    Rel (runF l D xs pc).1 (M + l.length) (runF l D xs pc).2.1 (runF l D xs pc).2.2 x (runC l cs)
  | [], D, M, xs, pc, cs, _, h, _ => h
  | i :: l, D, M, xs, pc, cs, hM, h, hall => by
    simp only [List.length_cons] at hM
    simp only [List.all_cons, Bool.and_eq_true] at hall
    have := Rel.run hx l _ (M + 1) _ _ _ (by omega) (h.step (by omega) hx hall.1) hall.2
    rw [show M + (i :: l).length = M + 1 + l.length by simp; omega]
    exact this
theorem start_has : (List.range 32).all (fun r => decide ((startN [] 32).1[r]? = some (r : Int)) && decide ((WhD.node (startN [] 32).2 r).1 = if r = 0 then ⟨0, 0, 0, 0, 0⟩ else ⟨1, r, 0, 0, 0⟩)) = true := by kernel_rfl
/-- at the beginning -/
theorem Rel.start {c : List Int} (hc : Wc c) : Rel (startN [] 32).2 0 (startN [] 32).1 (pcOf c) (c.take 32) (c.set 0 0) := by
  have wf0 : Wf [] := by intro i t h; simp at h
  have rng0 : Rng [] := by intro t h; simp at h
  have ch0 : ChAll [] 0 := by intro op n h; have h1 := h.1; have h2 := h.2; simp at h2; omega
  have hk := start_ok wf0 rng0 ch0
  have h0 : Wc (c.set 0 0) := hc.set ⟨by decide, by decide⟩
  refine ⟨hk, h0, ?_, ?_, fun r hr => ?_⟩
  · rw [List.getElem?_set_self (by rw [hc.len]; decide)]
  · unfold pcOf
    rw [List.getElem?_set_ne (by decide)]
  · have h := (List.all_eq_true.1 start_has) r (List.mem_range.2 hr)
    simp only [Bool.and_eq_true, decide_eq_true_eq] at h
    have e : reg (startN [] 32).1 r = r := by unfold reg; rw [Int.toNat_natCast, h.1]; rfl
    have hin := (hk.reg (r := (r : Int)) (by omega) (by omega)).2
    rw [e] at hin ⊢
    rw [valF_node hk.wf _ hin, h.2]
    unfold reg
    rw [Int.toNat_natCast]
    by_cases hr0 : r = 0
    · subst hr0
      rw [List.getElem?_set_self (by rw [hc.len]; decide)]
      rfl
    · rw [if_neg hr0, List.getElem?_set_ne (by omega)]
      simp only [show ((1 : Int) = 0) = False by decide, if_false, if_true, Int.toNat_natCast]
      rw [List.getElem?_take_of_lt hr]
end Wh.WhN
