/- simp: what its functions answer, a step at a time. -/
import Derived.Test.YtjdckpeoinkafaaGreatDoorDg
import Derived.Test.YtjdckpeoinkafaaGreatDoorWd
set_option linter.all false
namespace Wh.WhS
open Go
/-- a step of made: what it comes to at once -/
inductive St where
  | no
  | ret (n : Int)
  | const (w : Int)
  | goes (op a w : Int)
  | call (op a b : Int)
  | opr
def among (op : Int) (l : List Int) : Bool := l.contains op
def shift (op : Int) : Bool := among op [29, 33, 34]
def known (D : List T) (n : Int) : Int × Bool := ((WhD.node D n).1.v, decide ((WhD.node D n).1.kind = 0))
def tabN (i : Nat) : Int := (([0, 1, 28, 2, 29, 14, 24, 3, 30, 22, 20, 15, 25, 17, 4, 8, 31, 27, 13, 23, 21, 19, 16, 7, 26, 12, 18, 6, 11, 5, 10, 9] : List Int)[i]?).getD 0
def tzi (v : Int) : Int := (IntKind.u32.wrap (bits .and .u32 v (IntKind.u32.wrap (0 - v)) * 125613361)).fdiv (2 ^ 27)
def tz (v : Int) : Int := if v = 0 then 32 else tabN (tzi v).toNat
def one (v : Int) : Bool := !decide (v = 0) && decide (bits .and .u32 v (IntKind.u32.wrap (v - 1)) = 0)
def byWord (D : List T) (op a b v : Int) : St :=
  if (decide (v = 0) && among op [27, 35, 32]) || (decide (v = 1) && among op [37, 41, 42]) || (decide (v = 4294967295) && decide (op = 36)) then .ret a
  else if (decide (v = 0) && among op [36, 37, 31]) || (decide (v = 1) && among op [43, 44]) then .const 0
  else if decide (v = 4294967295) && decide (op = 35) then .ret b
  else if shift op && decide (v.tmod 32 = 0) then .ret a
  else if shift op && decide (32 ≤ v) then .goes op a (v.tmod 32)
  else if one v && decide (1 < v) && decide (op = 37) then .goes 29 a (IntKind.u32.wrap (tz v))
  else if one v && decide (1 < v) && decide (op = 42) then .goes 33 a (IntKind.u32.wrap (tz v))
  else if one v && decide (1 < v) && decide (op = 44) then .goes 36 a (IntKind.u32.wrap (v - 1))
  else if !decide ((WhD.node D a).1.kind = 2) || !decide ((WhD.node D a).1.op = op) then .no
  else if !(known D (WhD.node D a).1.b).2 then .no
  else if among op [27, 36, 35, 32] then .goes op (WhD.node D a).1.a (WhI.wdo op (known D (WhD.node D a).1.b).1 v).1
  else if !shift op || decide ((known D (WhD.node D a).1.b).1 < 1) || decide (32 ≤ (known D (WhD.node D a).1.b).1) then .no
  else if decide (IntKind.u32.wrap ((known D (WhD.node D a).1.b).1 + v) < 32) then .goes op (WhD.node D a).1.a (IntKind.u32.wrap ((known D (WhD.node D a).1.b).1 + v))
  else if decide (op = 34) then .goes op (WhD.node D a).1.a 31 else .const 0
def twice (op a : Int) : St :=
  if decide (op = 28) || decide (op = 32) || decide (op = 30) || decide (op = 31) then .const 0
  else if decide (op = 36) || decide (op = 35) then .ret a
  else if decide (op = 27) then .goes 29 a 1 else .no
def St.isNo : St → Bool
  | .no => true
  | _ => false
def turns (op : Int) : Bool := among op [27, 36, 35, 32, 37, 38, 40]
def tail (op a : Int) (b : Int) : St := if decide (a = b) && !(twice op a).isNo then twice op a else .opr
def made (D : List T) (op a b : Int) : St :=
  if (known D a).2 && (known D b).2 then .const (WhI.wdo op (known D a).1 (known D b).1).1
  else if turns op && (((known D a).2 && !(known D b).2) || (!(known D a).2 && !(known D b).2 && decide (a > b))) then .call op b a
  else if decide (op = 28) && (known D b).2 then .goes 27 a (IntKind.u32.wrap (0 - (known D b).1))
  else if (known D b).2 && !(byWord D op a b (known D b).1).isNo then byWord D op a b (known D b).1
  else tail op a b
abbrev Rec := List T → Int → Int → Int → Option (Int × List T)
def K (w : Int) : T := ⟨0, w, 0, 0, 0⟩
def exec (rec : Rec) (D : List T) (op a b : Int) : St → Option (Int × List T)
  | .no => none
  | .ret n => some (n, D)
  | .const w => some (addT D (K w))
  | .goes o x w => rec (addT D (K w)).2 o x (addT D (K w)).1
  | .call o x y => rec D o x y
  | .opr => some ((WhD.op D op a b).1, (WhD.op D op a b).2.2)
def madeF : Nat → Rec
  | 0, _, _, _, _ => none
  | n + 1, D, op, a, b => exec (madeF n) D op a b (made D op a b)
/-- words are in their bounds -/
def Rng (D : List T) : Prop := ∀ t ∈ D, 0 ≤ t.v ∧ t.v < 4294967296
theorem Rng.node {D : List T} (h : Rng D) (n : Int) : 0 ≤ (WhD.node D n).1.v ∧ (WhD.node D n).1.v < 4294967296 := by
  unfold WhD.node
  split
  · cases hg : D[n.toNat]? with
    | none => simp
    | some t => simpa using h t (List.mem_of_getElem? hg)
  · simp
theorem Rng.known {D : List T} (h : Rng D) (n : Int) : 0 ≤ (known D n).1 ∧ (known D n).1 < 4294967296 := h.node n
theorem Rng.add {D : List T} (h : Rng D) {t : T} (ht : 0 ≤ t.v ∧ t.v < 4294967296) : Rng (addT D t).2 := by
  intro u hu
  unfold addT at hu
  split at hu
  · exact h u hu
  · simp at hu
    rcases hu with hu | rfl
    · exact h u hu
    · exact ht
theorem Rng.op {D : List T} (h : Rng D) (o a b : Int) : Rng (WhD.op D o a b).2.2 := by
  unfold WhD.op
  split
  · exact h
  · split
    · exact h
    · exact h.add ⟨Int.le_refl 0, (by decide : (0 : Int) < 4294967296)⟩
theorem addT_len (D : List T) (t : T) : (addT D t).2.length ≤ D.length + 1 := by
  unfold addT
  split <;> simp
theorem u32_rng (a : Int) : 0 ≤ IntKind.u32.wrap a ∧ IntKind.u32.wrap a < 4294967296 := by
  have h : (2 : Int) ^ 32 = 4294967296 := by decide
  simp only [IntKind.wrap, IntKind.bits, IntKind.signed, h, Bool.false_and]
  simp
  omega
theorem tzi_rng (v : Int) : 0 ≤ tzi v ∧ tzi v < 32 := by
  have := u32_rng (bits .and .u32 v (IntKind.u32.wrap (0 - v)) * 125613361)
  have h : (2 : Int) ^ 27 = 134217728 := by decide
  simp only [tzi, h]
  rw [Int.fdiv_eq_ediv_of_nonneg _ (by decide)]
  omega
theorem tmod_rng {v : Int} (h : 0 ≤ v ∧ v < 4294967296) : 0 ≤ v.tmod 32 ∧ v.tmod 32 < 4294967296 := by
  rw [Int.tmod_eq_emod_of_nonneg h.1]
  omega
theorem bits_rng (op : BinOp) (a b : Int) : 0 ≤ bits op .u32 a b ∧ bits op .u32 a b < 4294967296 := by
  cases op <;> first | exact u32_rng _ | exact ⟨by decide, by decide⟩
theorem wdo_rng {op a b : Int} (ha : 0 ≤ a ∧ a < 4294967296) (hb : 0 ≤ b ∧ b < 4294967296) : 0 ≤ (WhI.wdo op a b).1 ∧ (WhI.wdo op a b).1 < 4294967296 := by
  have hf : ∀ b, 0 ≤ WhI.flag b ∧ WhI.flag b < 4294967296 := by intro b; cases b <;> exact ⟨by decide, by decide⟩
  have hd : 0 ≤ WhI.divided op a b ∧ WhI.divided op a b < 4294967296 := by
    unfold WhI.divided
    have h1 : 0 ≤ a.tmod b ∧ a.tmod b < 4294967296 := by
      rw [Int.tmod_eq_emod_of_nonneg ha.1]
      by_cases e : b = 0
      · subst e; simpa using ha
      · have := Int.emod_nonneg a e
        have := Int.emod_lt_of_pos a (by omega : 0 < b)
        omega
    simp only []
    repeat' split
    all_goals first | exact ha | exact ⟨by decide, by decide⟩ | exact u32_rng _ | exact h1
  have hh : 0 ≤ WhI.high op a b ∧ WhI.high op a b < 4294967296 := by
    unfold WhI.high
    split <;> exact u32_rng _
  have hq : ∀ k : Nat, 0 ≤ a.fdiv (2 ^ k) ∧ a.fdiv (2 ^ k) < 4294967296 := by
    intro k
    have h2 : (0 : Int) ≤ 2 ^ k := Int.le_of_lt (Int.pow_pos (by decide))
    rw [Int.fdiv_eq_ediv_of_nonneg _ h2]
    exact ⟨Int.ediv_nonneg ha.1 h2, Int.lt_of_le_of_lt (Int.ediv_le_self _ ha.1) ha.2⟩
  have key : ∀ (c : Prop) [Decidable c] (x y : Int × Int), (0 ≤ x.1 ∧ x.1 < 4294967296) → (0 ≤ y.1 ∧ y.1 < 4294967296) → (0 ≤ (if c then x else y).1 ∧ (if c then x else y).1 < 4294967296) := by
    intro c _ x y hx hy
    split
    · exact hx
    · exact hy
  unfold WhI.wdo
  repeat' refine key _ _ _ ?_ ?_
  all_goals first | exact u32_rng _ | exact bits_rng _ _ _ | exact hf _ | exact hd | exact hh | exact hq _ | exact ⟨by decide, by decide⟩
def outS (D : List T) (r : Int × List T) (s : St) : Int × Bool × List T := if s.isNo then (0, false, D) else (r.1, true, r.2)
end Wh.WhS
