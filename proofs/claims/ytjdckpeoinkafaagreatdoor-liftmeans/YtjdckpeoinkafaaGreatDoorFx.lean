/- What the calls come to whose answers the document fixes. -/
import Derived.Test.YtjdckpeoinkafaaGreatDoorLf
import Derived.KernelRfl
set_option linter.all false
namespace Wh.WhX
open Go WhL WhS
def l3 : List X := [⟨18, 1, 0, 0, 5⟩, ⟨27, 2, 1, 1, 0⟩, ⟨1, 3, 0, 0, 1⟩]
def xsC : List Int := [0, 32, 33, 34, 4, 5, 6, 7, 8, 9, 10, 11, 12, 13, 14, 15, 16, 17, 18, 19, 20, 21, 22, 23, 24, 25, 26, 27, 28, 29, 30, 31]
def dC : List T := [⟨0, 0, 0, 0, 0⟩, ⟨1, 1, 0, 0, 0⟩, ⟨1, 2, 0, 0, 0⟩, ⟨1, 3, 0, 0, 0⟩, ⟨1, 4, 0, 0, 0⟩, ⟨1, 5, 0, 0, 0⟩, ⟨1, 6, 0, 0, 0⟩, ⟨1, 7, 0, 0, 0⟩, ⟨1, 8, 0, 0, 0⟩, ⟨1, 9, 0, 0, 0⟩, ⟨1, 10, 0, 0, 0⟩, ⟨1, 11, 0, 0, 0⟩, ⟨1, 12, 0, 0, 0⟩, ⟨1, 13, 0, 0, 0⟩, ⟨1, 14, 0, 0, 0⟩, ⟨1, 15, 0, 0, 0⟩, ⟨1, 16, 0, 0, 0⟩, ⟨1, 17, 0, 0, 0⟩, ⟨1, 18, 0, 0, 0⟩, ⟨1, 19, 0, 0, 0⟩, ⟨1, 20, 0, 0, 0⟩, ⟨1, 21, 0, 0, 0⟩, ⟨1, 22, 0, 0, 0⟩, ⟨1, 23, 0, 0, 0⟩, ⟨1, 24, 0, 0, 0⟩, ⟨1, 25, 0, 0, 0⟩, ⟨1, 26, 0, 0, 0⟩, ⟨1, 27, 0, 0, 0⟩, ⟨1, 28, 0, 0, 0⟩, ⟨1, 29, 0, 0, 0⟩, ⟨1, 30, 0, 0, 0⟩, ⟨1, 31, 0, 0, 0⟩, ⟨0, 5, 0, 0, 0⟩, ⟨0, 10, 0, 0, 0⟩, ⟨0, 4360, 0, 0, 0⟩]
theorem block3 : blockF [] l3 256 = (xsC, 0, dC) := by kernel_rfl
theorem block1 : blockF dC [⟨45, 0, 0, 0, 0⟩] 0 = (List.replicate 32 0, 120, dC) := by kernel_rfl
theorem from0 : fromF dC (-1 :: List.replicate 31 0) [] 0 = (List.replicate 32 0, 100, dC) := by kernel_rfl
theorem wf0 : Wf [] := by intro i t h; simp at h
theorem rng0 : Rng [] := by intro t h; simp at h
theorem ch0 (M : Nat) : ChAll [] M := by intro op n h; have h1 := h.1; have h2 := h.2; simp at h2; omega
theorem rngC : Rng dC := by
  have h : dC.all (fun t => decide (0 ≤ t.v) && decide (t.v < 4294967296)) = true := by kernel_rfl
  intro t ht
  have := (List.all_eq_true.1 h) t ht
  simpa using this
theorem kindC : dC.all (fun t => decide (t.kind = 0) || (decide (t.kind = 1) && decide (t.v < 32))) = true := by kernel_rfl
theorem wfC : Wf dC := by
  intro i t ht
  have := (List.all_eq_true.1 kindC) t (List.mem_of_getElem? ht)
  simp only [Bool.or_eq_true, Bool.and_eq_true, decide_eq_true_eq] at this
  rcases this with h | h
  · exact .inl h
  · exact .inr (.inl h)
theorem chC (M : Nat) : ChAll dC M := by
  intro op n h
  refine ChLe.mono (Nat.zero_le _) (?_ : ¬ Lk _ op n)
  rintro ⟨hk, _⟩
  have hl : n.toNat < dC.length := by have := h.1; have := h.2; omega
  have hg : dC[n.toNat]? = some dC[n.toNat] := List.getElem?_eq_getElem hl
  have e : (WhD.node dC n).1 = dC[n.toNat] := by simp [WhD.node, h.is, hg]
  rw [e] at hk
  have := (List.all_eq_true.1 kindC) _ (List.getElem_mem hl)
  simp only [Bool.or_eq_true, Bool.and_eq_true, decide_eq_true_eq] at this
  omega
end Wh.WhX
