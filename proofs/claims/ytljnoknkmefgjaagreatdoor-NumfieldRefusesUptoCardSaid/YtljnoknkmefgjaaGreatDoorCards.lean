/-
  DERIVED. GIVEN WITH THE SEED: THE CARDS: each row of YtljnoknkmefgjaaGreatDoorRows.lean that lists a variable, with what it lists TIED to the program's text (the seventh form; the later family's looks); each row that meets fmt, with fmt's text TOLD by the authors' own Lean function (tested against real Go, not proved from fmt's source: count such statements apart). THE CARD IS WHAT COUNTS. Prove the row's statement (the work); the ties are given (YtljnoknkmefgjaaGreatDoorTie.lean); close each card by the builder's one call (the guide's Derived/Test/ToyasCard.lean, 'card_holds'). Laid BY PROGRAM, IN A SANDBOX (cutbox-door.mjs). By AI agents, Wed Nov 11 2026. No macro, syntax, notation, axiom, sorry.
-/
import Derived.Test.YtljnoknkmefgjaaGreatDoorRows
import GoSem.ClaimSeven
namespace Go.Proofs.YtljnoknkmefgjaaGreatDoor
namespace Rows

/-- THE TIED CARD OF 'halfplanelaw14.NumfieldRefuses'. -/
def numfieldRefusesCard : Claim7 := { stood := { row := numfieldRefusesRow, standIns := [], harness := (true, "fb6cce8469d6ae3bfc389d7491b7015c74abbc60bd282aa2558a1db9cdd8597f"), looks := false }, kinds := [], alts := [], laidByText := true, laidKinds := [.data, .data, .data], laidTests := true, laidLooks := .later }
def NumfieldRefusesCardSaid : Prop := Claim7.holds Tryz.pinned (.plain (OpenSpec.ofChange numfieldRefusesSpec)) numfieldRefusesCard

/-- THE SECOND FORM's CARD OF 'halfplanelaw14.NumfieldRefuses'. -/
def numfieldRefusesUptoCard : Claim7 := { stood := { row := numfieldRefusesUptoRow, standIns := [], harness := (true, "fb6cce8469d6ae3bfc389d7491b7015c74abbc60bd282aa2558a1db9cdd8597f"), looks := false }, kinds := [], alts := [], laidByText := true, laidKinds := [.data, .data, .data], laidTests := true, laidLooks := .later }
def NumfieldRefusesUptoCardSaid : Prop := Claim7.holds Tryz.pinned (.plain (OpenSpec.upto numfieldRefusesSpec)) numfieldRefusesUptoCard
end Rows
end Go.Proofs.YtljnoknkmefgjaaGreatDoor
