/- The document's machine on plain instructions: registers and a place as 33 words. -/
import Derived.Test.YtjdckpeoinkafaaGreatDoorLf
import Derived.Test.YtjdckpeoinkafaaGreatDoorRw
set_option linter.all false
namespace Wh.WhC
open Go WhL
def pcOf (cs : List Int) : Int := (cs[32]?).getD 0
def putC (cs : List Int) (rd v : Int) : List Int := if 0 < rd then cs.set rd.toNat v else cs
def setC (cs : List Int) (rd v : Int) : List Int := (putC cs rd v).set 32 (IntKind.u32.wrap (pcOf (putC cs rd v) + 4))
def upC (i : X) : Int := IntKind.u32.wrap (IntKind.u32.wrap i.imm * 4096)
def opC (i : X) : Int := if (WhI.plain i.op).2 then (WhI.plain i.op).1 else i.op
def bC (cs : List Int) (i : X) : Int := if (WhI.plain i.op).2 then IntKind.u32.wrap i.imm else reg cs i.rs2
def doesF (cs : List Int) (i : X) : List Int × Bool :=
  if !WhI.right i then (cs.set 0 0, false)
  else if i.op = 0 then (setC (cs.set 0 0) i.rd (upC i), true)
  else if i.op = 1 then (setC (cs.set 0 0) i.rd (IntKind.u32.wrap (pcOf (cs.set 0 0) + upC i)), true)
  else if (WhI.wdo (opC i) (reg (cs.set 0 0) i.rs1) (bC (cs.set 0 0) i)).2 ≠ 0 then (cs.set 0 0, false)
  else (setC (cs.set 0 0) i.rd (WhI.wdo (opC i) (reg (cs.set 0 0) i.rs1) (bC (cs.set 0 0) i)).1, true)
/-- 33 words -/
structure Wc (cs : List Int) : Prop where
  len : cs.length = 33
  rng : ∀ v ∈ cs, 0 ≤ v ∧ v < 4294967296
theorem Wc.set {cs : List Int} (h : Wc cs) {k : Nat} {v : Int} (hv : 0 ≤ v ∧ v < 4294967296) : Wc (cs.set k v) :=
  ⟨by simp [h.len], fun u hu => by
    rcases List.mem_or_eq_of_mem_set hu with h1 | rfl
    · exact h.rng u h1
    · exact hv⟩
theorem Wc.at {cs : List Int} (h : Wc cs) {k : Nat} (hk : k < 33) : cs[k]? = some ((cs[k]?).getD 0) ∧ 0 ≤ (cs[k]?).getD 0 ∧ (cs[k]?).getD 0 < 4294967296 := by
  have hl : k < cs.length := by rw [h.len]; exact hk
  rw [List.getElem?_eq_getElem hl]
  exact ⟨rfl, h.rng _ (List.getElem_mem hl)⟩
theorem Wc.put {cs : List Int} (h : Wc cs) {rd v : Int} (hv : 0 ≤ v ∧ v < 4294967296) : Wc (putC cs rd v) := by
  unfold putC
  split
  · exact h.set hv
  · exact h
theorem Wc.setC {cs : List Int} (h : Wc cs) {rd v : Int} (hv : 0 ≤ v ∧ v < 4294967296) : Wc (setC cs rd v) := (h.put hv).set (WhS.u32_rng _)
theorem Wc.reg {cs : List Int} (h : Wc cs) {r : Int} (h0 : 0 ≤ r) (h1 : r ≤ 31) : cs[r.toNat]? = some (WhL.reg cs r) ∧ 0 ≤ WhL.reg cs r ∧ WhL.reg cs r < 4294967296 := h.at (by omega)
theorem right_regs {i : X} (h : WhI.right i = true) : (0 ≤ i.rd ∧ i.rd ≤ 31) ∧ (0 ≤ i.rs1 ∧ i.rs1 ≤ 31) ∧ (0 ≤ i.rs2 ∧ i.rs2 ≤ 31) := by
  simp only [WhI.right, Bool.and_eq_true] at h
  exact ⟨register_rng h.1.1.1.2, register_rng h.1.1.2, register_rng h.1.2⟩
theorem bC_rng {cs : List Int} (h : Wc cs) {i : X} (hi : WhI.right i = true) : 0 ≤ bC cs i ∧ bC cs i < 4294967296 := by
  have hr := right_regs hi
  unfold bC
  split
  · exact WhS.u32_rng _
  · exact (h.reg hr.2.2.1 hr.2.2.2).2
theorem doesF_wc {cs : List Int} (h : Wc cs) (i : X) : Wc (doesF cs i).1 := by
  have h0 : Wc (cs.set 0 0) := h.set ⟨by decide, by decide⟩
  unfold doesF
  split
  · exact h0
  · rename_i hr
    have hr : WhI.right i = true := by simpa using hr
    have hrr := right_regs hr
    split
    · exact h0.setC (WhS.u32_rng _)
    · split
      · exact h0.setC (WhS.u32_rng _)
      · split
        · exact h0
        · exact h0.setC (WhS.wdo_rng (h0.reg hrr.2.1.1 hrr.2.1.2).2 (bC_rng h0 hr))
end Wh.WhC
