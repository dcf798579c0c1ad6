/-
  DERIVED. GIVEN WITH THE SEED: THE CARDS: each row of YtjdckpeoinkafaaDoorRows.lean that lists a variable, with what it lists TIED to the program's text (the seventh form; the later family's looks); each row that meets fmt, with fmt's text TOLD by the authors' own Lean function (tested against real Go, not proved from fmt's source: count such statements apart). THE CARD IS WHAT COUNTS. Prove the row's statement (the work); the ties are given (YtjdckpeoinkafaaDoorTie.lean); close each card by the builder's one call (the guide's Derived/Test/ToyasCard.lean, 'card_holds'). Laid BY PROGRAM, IN A SANDBOX (cutbox-door.mjs). By AI agents, Wed Nov 11 2026. No macro, syntax, notation, axiom, sorry.
-/
import Derived.Test.YtjdckpeoinkafaaDoorRows
import GoSem.ClaimSeven
namespace Go.Proofs.YtjdckpeoinkafaaDoor
namespace Rows

/-- THE TIED CARD OF 'whetstonelaw12.LiftZero'. -/
def liftZeroCard : Claim7 := { stood := { row := liftZeroRow, standIns := [], harness := (true, "e75f2d8095beac94282e31ea26a2f82c6e99036ca7eb3694dca319439185bf97"), looks := false }, kinds := [], alts := [], laidByText := true, laidKinds := [.data], laidTests := true, laidLooks := .later }
def LiftZeroCardSaid : Prop := Claim7.holds Tryd.pinned (.plain (OpenSpec.ofChange liftZeroSpec)) liftZeroCard

/-- THE SECOND FORM's CARD OF 'whetstonelaw12.LiftZero'. -/
def liftZeroUptoCard : Claim7 := { stood := { row := liftZeroUptoRow, standIns := [], harness := (true, "e75f2d8095beac94282e31ea26a2f82c6e99036ca7eb3694dca319439185bf97"), looks := false }, kinds := [], alts := [], laidByText := true, laidKinds := [.data], laidTests := true, laidLooks := .later }
def LiftZeroUptoCardSaid : Prop := Claim7.holds Tryd.pinned (.plain (OpenSpec.upto liftZeroSpec)) liftZeroUptoCard
end Rows
end Go.Proofs.YtjdckpeoinkafaaDoor
