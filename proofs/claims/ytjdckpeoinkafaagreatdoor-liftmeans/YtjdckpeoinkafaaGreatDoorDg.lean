/- The terms of a Dag, plainly. -/
import Derived.Test.YtjdckpeoinkafaaGreatDoorFwI
import Derived.Test.YtjdckpeoinkafaaGreatDoorWd
set_option linter.all false
namespace Wh
open Go
structure T where
  kind : Int
  v : Int
  op : Int
  a : Int
  b : Int
  deriving DecidableEq
def T.nums (t : T) : List Int := [t.kind, t.v, t.op, t.a, t.b]
abbrev tks : List IntKind := [.i64, .u32, .i64, .i64, .i64]
def T.cells (t : T) : List Value := iv tks t.nums
def T.val (t : T) : Value := .agg (iv tks t.nums).toArray
def numb : Nat → List T → List (T × Int)
  | _, [] => []
  | i, t :: l => (t, (i : Int)) :: numb (i + 1) l
def addT (D : List T) (t : T) : Int × List T := match alook t (numb 0 D) with | some i => (i, D) | none => ((D.length : Int), D ++ [t])
def i64v (n : Int) : Value := .int .i64 n
theorem T.val_cells (t : T) : t.val.cells = t.cells.toArray := rfl
theorem numb_put : ∀ (i : Nat) (D : List T) (t : T), alook t (numb i D) = none → aput t ((i + D.length : Nat) : Int) (numb i D) = numb i (D ++ [t])
  | i, [], t, _ => by simp [numb, aput]
  | i, s :: D, t, h => by
    simp only [numb, alook] at h
    by_cases e : s = t
    · simp [e] at h
    · simp only [e, if_false] at h
      have := numb_put (i + 1) D t h
      simp only [numb, aput, e, if_false, List.cons_append, List.length_cons]
      rw [← this]
      congr 2
      omega
theorem numb_some : ∀ (i : Nat) (D : List T) (t : T) (n : Int), alook t (numb i D) = some n → (i : Int) ≤ n ∧ n < i + D.length ∧ D[(n - i).toNat]? = some t
  | i, [], t, n, h => by simp [numb, alook] at h
  | i, s :: D, t, n, h => by
    simp only [numb, alook] at h
    by_cases e : s = t
    · simp only [e, if_true, Option.some.injEq] at h
      subst h
      simp [e]
      omega
    · simp only [e, if_false] at h
      have := numb_some (i + 1) D t n h
      refine ⟨by omega, by simp; omega, ?_⟩
      have e2 : (n - i).toNat = (n - (i + 1 : Nat)).toNat + 1 := by omega
      rw [e2, List.getElem?_cons_succ]
      exact this.2.2
theorem flat_cells_length (D : List T) : (D.flatMap T.cells).length = D.length * 5 := by
  induction D with
  | nil => rfl
  | cons t D ih => simp [List.flatMap_cons, ih, T.cells, T.nums, iv]; omega
theorem keyTerm {P : Program} {t : TypeId} (h : SI P t tks) : KeyT P t T.val :=
  keyT_SI h T.nums (fun _ => rfl) (fun a b e => by cases a; cases b; simpa [T.nums] using e)
theorem oneR {w : World} {B : Nat} {w0 : World} {L : List Ck} {e : TypeId} {size m : Nat} {v : Value} {xs : List Value} {mk : Ck → List Ck} (H : Hp B w0 w L) (h : HasR L v e size m xs mk := by infer_instance) : v.oneCell' = true := by
  obtain ⟨R, h1, _⟩ := h.perm
  rcases ((H.perm h1).holds _ List.mem_cons_self).2 with ⟨rfl, _⟩ | ⟨g, cap, cur, rfl, _⟩ <;> rfl
end Wh
namespace Wh.WhD
open Go
/-- Var's answer: a number, an error, the terms then -/
def var (D : List T) (n : Int) : Int × Int × List T :=
  if n < 0 ∨ 32 ≤ n then (0, 1, D) else if n = 0 then ((addT D ⟨0, 0, 0, 0, 0⟩).1, 0, (addT D ⟨0, 0, 0, 0, 0⟩).2)
  else ((addT D ⟨1, IntKind.u32.wrap n, 0, 0, 0⟩).1, 0, (addT D ⟨1, IntKind.u32.wrap n, 0, 0, 0⟩).2)
def is (D : List T) (n : Int) : Bool := decide (0 ≤ n) && decide (n < D.length)

def node (D : List T) (n : Int) : T × Int := if is D n then ((D[n.toNat]?).getD ⟨0, 0, 0, 0, 0⟩, 0) else (⟨0, 0, 0, 0, 0⟩, 100)
/-- Op's answer -/
def op (D : List T) (o a b : Int) : Int × Int × List T :=
  if ¬ is D a ∨ ¬ is D b then (0, 100, D) else if (WhI.wdo o 0 0).2 ≠ 0 then (0, (WhI.wdo o 0 0).2, D) else ((addT D ⟨2, 0, o, a, b⟩).1, 0, (addT D ⟨2, 0, o, a, b⟩).2)
end Wh.WhD
