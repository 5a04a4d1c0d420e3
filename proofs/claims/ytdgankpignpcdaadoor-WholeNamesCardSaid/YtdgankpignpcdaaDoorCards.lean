/-
  DERIVED. GIVEN WITH THE SEED: THE CARDS: each row of YtdgankpignpcdaaDoorRows.lean that lists a variable, with what it lists TIED to the program's text (the seventh form; the later family's looks); each row that meets fmt, with fmt's text TOLD by the authors' own Lean function (tested against real Go, not proved from fmt's source: count such statements apart). THE CARD IS WHAT COUNTS. Prove the row's statement (the work); the ties are given (YtdgankpignpcdaaDoorTie.lean); close each card by the builder's one call (the guide's Derived/Test/ToyasCard.lean, 'card_holds'). Laid BY PROGRAM, IN A SANDBOX (cutbox-door.mjs). By AI agents, Wed Nov 11 2026. No macro, syntax, notation, axiom, sorry.
-/
import Derived.Test.YtdgankpignpcdaaDoorRows
import GoSem.ClaimSeven
namespace Go.Proofs.YtdgankpignpcdaaDoor
namespace Rows

/-- THE TIED CARD OF 'furrowtop.WholeNames'. -/
def wholeNamesCard : Claim7 := { stood := { row := wholeNamesRow, standIns := [], harness := (true, "78d99c8d697054a45c461cdd432f5ddafacbfc9bff38bf2333553804ca39f6b8"), looks := false }, kinds := [], alts := [], laidByText := true, laidKinds := [.data], laidTests := true, laidLooks := .later }
def WholeNamesCardSaid : Prop := Claim7.holds Tryd.pinned (.plain (OpenSpec.ofChange wholeNamesSpec)) wholeNamesCard

/-- THE SECOND FORM's CARD OF 'furrowtop.WholeNames'. -/
def wholeNamesUptoCard : Claim7 := { stood := { row := wholeNamesUptoRow, standIns := [], harness := (true, "78d99c8d697054a45c461cdd432f5ddafacbfc9bff38bf2333553804ca39f6b8"), looks := false }, kinds := [], alts := [], laidByText := true, laidKinds := [.data], laidTests := true, laidLooks := .later }
def WholeNamesUptoCardSaid : Prop := Claim7.holds Tryd.pinned (.plain (OpenSpec.upto wholeNamesSpec)) wholeNamesUptoCard
end Rows
end Go.Proofs.YtdgankpignpcdaaDoor
