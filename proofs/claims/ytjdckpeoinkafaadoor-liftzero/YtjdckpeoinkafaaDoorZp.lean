/- LiftZero, plainly: the registers' terms, asked for again. -/
import Derived.Test.YtjdckpeoinkafaaDoorFx
set_option linter.all false
namespace Wh.WhZ
open Go WhL WhS
theorem numb_app : ∀ (i : Nat) (D E : List T), numb i (D ++ E) = numb i D ++ numb (i + D.length) E
  | i, [], E => by simp [numb]
  | i, t :: D, E => by
    simp only [List.cons_append, numb, numb_app (i + 1) D E, List.length_cons]
    rw [show i + 1 + D.length = i + (D.length + 1) by omega]
theorem alook_app {α β : Type} [DecidableEq α] {a : α} {b : β} : ∀ {l m : List (α × β)}, alook a l = some b → alook a (l ++ m) = some b
  | [], _, h => by cases h
  | (k, v) :: l, m, h => by
    simp only [List.cons_append, alook] at h ⊢
    split
    · rename_i e; rw [if_pos e] at h; exact h
    · rename_i e; rw [if_neg e] at h; exact alook_app h
theorem addT_old {D : List T} {t : T} {i : Int} (h : alook t (numb 0 D) = some i) (E : List T) : addT (D ++ E) t = (i, D ++ E) := by
  have h2 : alook t (numb 0 (D ++ E)) = some i := by rw [numb_app]; exact alook_app h
  simp [addT, h2]
def d32 : List T := (startN [] 32).2
def x32 : List Int := (startN [] 32).1
def termN (r : Nat) : T := if r = 0 then ⟨0, 0, 0, 0, 0⟩ else ⟨1, IntKind.u32.wrap r, 0, 0, 0⟩
theorem d32_has : (List.range 32).all (fun r => decide (alook (termN r) (numb 0 d32) = x32[r]?)) = true := by kernel_rfl
theorem x32_len : x32.length = 32 := by kernel_rfl
theorem var_old (E : List T) {r : Nat} (h : r < 32) : ∃ i, x32[r]? = some i ∧ WhD.var (d32 ++ E) r = (i, 0, d32 ++ E) := by
  have h1 := (List.all_eq_true.1 d32_has) r (by simpa using h)
  simp only [decide_eq_true_eq] at h1
  have hl : r < x32.length := by rw [x32_len]; exact h
  rw [List.getElem?_eq_getElem hl] at h1 ⊢
  refine ⟨_, rfl, ?_⟩
  have h2 := addT_old h1 E
  unfold WhD.var
  rw [if_neg (by omega)]
  unfold termN at h2
  split
  · rename_i h0
    rw [if_pos (by omega)] at h2
    rw [h2]
  · rename_i h0
    rw [if_neg (by omega)] at h2
    rw [h2]
theorem start_again (E : List T) : ∀ n, n ≤ 32 → startN (d32 ++ E) n = (x32.take n, d32 ++ E)
  | 0, _ => by simp [startN]
  | n + 1, h => by
    obtain ⟨i, h1, h2⟩ := var_old E (r := n) (by omega)
    simp only [startN, start_again E n (by omega), h2]
    rw [List.take_add_one, h1]
    rfl
end Wh.WhZ
