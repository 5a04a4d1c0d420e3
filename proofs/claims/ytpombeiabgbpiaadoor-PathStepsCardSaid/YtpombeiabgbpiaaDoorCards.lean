/-
  DERIVED. GIVEN WITH THE SEED: THE CARDS: each row of YtpombeiabgbpiaaDoorRows.lean that lists a variable, with what it lists TIED to the program's text (the seventh form; the later family's looks); each row that meets fmt, with fmt's text TOLD by the authors' own Lean function (tested against real Go, not proved from fmt's source: count such statements apart). THE CARD IS WHAT COUNTS. Prove the row's statement (the work); the ties are given (YtpombeiabgbpiaaDoorTie.lean); close each card by the builder's one call (the guide's Derived/Test/ToyasCard.lean, 'card_holds'). Laid BY PROGRAM, IN A SANDBOX (cutbox-door.mjs). By AI agents, Wed Nov 11 2026. No macro, syntax, notation, axiom, sorry.
-/
import Derived.Test.YtpombeiabgbpiaaDoorRows
import GoSem.ClaimSeven
namespace Go.Proofs.YtpombeiabgbpiaaDoor
namespace Rows

/-- THE TIED CARD OF 'furrowlaw14.PathNames'. -/
def pathNamesCard : Claim7 := { stood := { row := pathNamesRow, standIns := [], harness := (true, "0416e25c5e65f8eb5cecb917c92f97d136cfb165c14ef0308eedb9c64aec12ba"), looks := false }, kinds := [], alts := [], laidByText := true, laidKinds := [.data, .pinned], laidTests := true, laidLooks := .later }
def PathNamesCardSaid : Prop := Claim7.holds Tryd.pinned (.plain (OpenSpec.ofChange pathNamesSpec)) pathNamesCard

/-- THE TIED CARD OF 'furrowlaw14.PathCuts'. -/
def pathCutsCard : Claim7 := { stood := { row := pathCutsRow, standIns := [], harness := (true, "0416e25c5e65f8eb5cecb917c92f97d136cfb165c14ef0308eedb9c64aec12ba"), looks := false }, kinds := [], alts := [], laidByText := true, laidKinds := [.data, .pinned], laidTests := true, laidLooks := .later }
def PathCutsCardSaid : Prop := Claim7.holds Tryd.pinned (.plain (OpenSpec.ofChange pathCutsSpec)) pathCutsCard

/-- THE TIED CARD OF 'furrowlaw14.PathBack'. -/
def pathBackCard : Claim7 := { stood := { row := pathBackRow, standIns := [], harness := (true, "0416e25c5e65f8eb5cecb917c92f97d136cfb165c14ef0308eedb9c64aec12ba"), looks := false }, kinds := [], alts := [], laidByText := true, laidKinds := [.data, .pinned], laidTests := true, laidLooks := .later }
def PathBackCardSaid : Prop := Claim7.holds Tryd.pinned (.plain (OpenSpec.ofChange pathBackSpec)) pathBackCard

/-- THE TIED CARD OF 'furrowlaw14.PathSteps'. -/
def pathStepsCard : Claim7 := { stood := { row := pathStepsRow, standIns := [], harness := (true, "0416e25c5e65f8eb5cecb917c92f97d136cfb165c14ef0308eedb9c64aec12ba"), looks := false }, kinds := [], alts := [], laidByText := true, laidKinds := [.data, .pinned], laidTests := true, laidLooks := .later }
def PathStepsCardSaid : Prop := Claim7.holds Tryd.pinned (.plain (OpenSpec.ofChange pathStepsSpec)) pathStepsCard

/-- THE TIED CARD OF 'furrowlaw14.PathUp'. -/
def pathUpCard : Claim7 := { stood := { row := pathUpRow, standIns := [], harness := (true, "0416e25c5e65f8eb5cecb917c92f97d136cfb165c14ef0308eedb9c64aec12ba"), looks := false }, kinds := [], alts := [], laidByText := true, laidKinds := [.data, .pinned], laidTests := true, laidLooks := .later }
def PathUpCardSaid : Prop := Claim7.holds Tryd.pinned (.plain (OpenSpec.ofChange pathUpSpec)) pathUpCard

/-- THE TIED CARD OF 'furrowlaw14.PathParents'. -/
def pathParentsCard : Claim7 := { stood := { row := pathParentsRow, standIns := [], harness := (true, "0416e25c5e65f8eb5cecb917c92f97d136cfb165c14ef0308eedb9c64aec12ba"), looks := false }, kinds := [], alts := [], laidByText := true, laidKinds := [.data, .pinned], laidTests := true, laidLooks := .later }
def PathParentsCardSaid : Prop := Claim7.holds Tryd.pinned (.plain (OpenSpec.ofChange pathParentsSpec)) pathParentsCard

/-- THE TIED CARD OF 'furrowlaw14.PathTables'. -/
def pathTablesCard : Claim7 := { stood := { row := pathTablesRow, standIns := [], harness := (true, "0416e25c5e65f8eb5cecb917c92f97d136cfb165c14ef0308eedb9c64aec12ba"), looks := false }, kinds := [], alts := [], laidByText := true, laidKinds := [.data, .pinned], laidTests := true, laidLooks := .later }
def PathTablesCardSaid : Prop := Claim7.holds Tryd.pinned (.plain (OpenSpec.ofChange pathTablesSpec)) pathTablesCard

/-- THE TIED CARD OF 'furrowlaw14.PathTexts'. -/
def pathTextsCard : Claim7 := { stood := { row := pathTextsRow, standIns := [], harness := (true, "0416e25c5e65f8eb5cecb917c92f97d136cfb165c14ef0308eedb9c64aec12ba"), looks := false }, kinds := [], alts := [], laidByText := true, laidKinds := [.data, .pinned], laidTests := true, laidLooks := .later }
def PathTextsCardSaid : Prop := Claim7.holds Tryd.pinned (.plain (OpenSpec.ofChange pathTextsSpec)) pathTextsCard

/-- THE TIED CARD OF 'furrowlaw14.PathLeads'. -/
def pathLeadsCard : Claim7 := { stood := { row := pathLeadsRow, standIns := [], harness := (true, "0416e25c5e65f8eb5cecb917c92f97d136cfb165c14ef0308eedb9c64aec12ba"), looks := false }, kinds := [], alts := [], laidByText := true, laidKinds := [.data, .pinned], laidTests := true, laidLooks := .later }
def PathLeadsCardSaid : Prop := Claim7.holds Tryd.pinned (.plain (OpenSpec.ofChange pathLeadsSpec)) pathLeadsCard

/-- THE TIED CARD OF 'furrowlaw14.PathAll'. -/
def pathAllCard : Claim7 := { stood := { row := pathAllRow, standIns := [], harness := (true, "0416e25c5e65f8eb5cecb917c92f97d136cfb165c14ef0308eedb9c64aec12ba"), looks := false }, kinds := [], alts := [], laidByText := true, laidKinds := [.data, .pinned], laidTests := true, laidLooks := .later }
def PathAllCardSaid : Prop := Claim7.holds Tryd.pinned (.plain (OpenSpec.ofChange pathAllSpec)) pathAllCard

/-- THE TIED CARD OF 'furrowlaw14.PathCleans'. -/
def pathCleansCard : Claim7 := { stood := { row := pathCleansRow, standIns := [], harness := (true, "0416e25c5e65f8eb5cecb917c92f97d136cfb165c14ef0308eedb9c64aec12ba"), looks := false }, kinds := [], alts := [], laidByText := true, laidKinds := [.data, .pinned], laidTests := true, laidLooks := .later }
def PathCleansCardSaid : Prop := Claim7.holds Tryd.pinned (.plain (OpenSpec.ofChange pathCleansSpec)) pathCleansCard

/-- THE TIED CARD OF 'furrowlaw14.PathFresh'. -/
def pathFreshCard : Claim7 := { stood := { row := pathFreshRow, standIns := [], harness := (true, "0416e25c5e65f8eb5cecb917c92f97d136cfb165c14ef0308eedb9c64aec12ba"), looks := false }, kinds := [], alts := [], laidByText := true, laidKinds := [.data, .pinned], laidTests := true, laidLooks := .later }
def PathFreshCardSaid : Prop := Claim7.holds Tryd.pinned (.plain (OpenSpec.ofChange pathFreshSpec)) pathFreshCard

/-- THE TIED CARD OF 'furrowlaw14.PathLent'. -/
def pathLentCard : Claim7 := { stood := { row := pathLentRow, standIns := [], harness := (true, "0416e25c5e65f8eb5cecb917c92f97d136cfb165c14ef0308eedb9c64aec12ba"), looks := false }, kinds := [], alts := [], laidByText := true, laidKinds := [.data, .pinned], laidTests := true, laidLooks := .later }
def PathLentCardSaid : Prop := Claim7.holds Tryd.pinned (.plain (OpenSpec.ofChange pathLentSpec)) pathLentCard

/-- THE SECOND FORM's CARD OF 'furrowlaw14.PathNames'. -/
def pathNamesUptoCard : Claim7 := { stood := { row := pathNamesUptoRow, standIns := [], harness := (true, "0416e25c5e65f8eb5cecb917c92f97d136cfb165c14ef0308eedb9c64aec12ba"), looks := false }, kinds := [], alts := [], laidByText := true, laidKinds := [.data, .pinned], laidTests := true, laidLooks := .later }
def PathNamesUptoCardSaid : Prop := Claim7.holds Tryd.pinned (.plain (OpenSpec.upto pathNamesSpec)) pathNamesUptoCard

/-- THE SECOND FORM's CARD OF 'furrowlaw14.PathCuts'. -/
def pathCutsUptoCard : Claim7 := { stood := { row := pathCutsUptoRow, standIns := [], harness := (true, "0416e25c5e65f8eb5cecb917c92f97d136cfb165c14ef0308eedb9c64aec12ba"), looks := false }, kinds := [], alts := [], laidByText := true, laidKinds := [.data, .pinned], laidTests := true, laidLooks := .later }
def PathCutsUptoCardSaid : Prop := Claim7.holds Tryd.pinned (.plain (OpenSpec.upto pathCutsSpec)) pathCutsUptoCard

/-- THE SECOND FORM's CARD OF 'furrowlaw14.PathBack'. -/
def pathBackUptoCard : Claim7 := { stood := { row := pathBackUptoRow, standIns := [], harness := (true, "0416e25c5e65f8eb5cecb917c92f97d136cfb165c14ef0308eedb9c64aec12ba"), looks := false }, kinds := [], alts := [], laidByText := true, laidKinds := [.data, .pinned], laidTests := true, laidLooks := .later }
def PathBackUptoCardSaid : Prop := Claim7.holds Tryd.pinned (.plain (OpenSpec.upto pathBackSpec)) pathBackUptoCard

/-- THE SECOND FORM's CARD OF 'furrowlaw14.PathSteps'. -/
def pathStepsUptoCard : Claim7 := { stood := { row := pathStepsUptoRow, standIns := [], harness := (true, "0416e25c5e65f8eb5cecb917c92f97d136cfb165c14ef0308eedb9c64aec12ba"), looks := false }, kinds := [], alts := [], laidByText := true, laidKinds := [.data, .pinned], laidTests := true, laidLooks := .later }
def PathStepsUptoCardSaid : Prop := Claim7.holds Tryd.pinned (.plain (OpenSpec.upto pathStepsSpec)) pathStepsUptoCard

/-- THE SECOND FORM's CARD OF 'furrowlaw14.PathUp'. -/
def pathUpUptoCard : Claim7 := { stood := { row := pathUpUptoRow, standIns := [], harness := (true, "0416e25c5e65f8eb5cecb917c92f97d136cfb165c14ef0308eedb9c64aec12ba"), looks := false }, kinds := [], alts := [], laidByText := true, laidKinds := [.data, .pinned], laidTests := true, laidLooks := .later }
def PathUpUptoCardSaid : Prop := Claim7.holds Tryd.pinned (.plain (OpenSpec.upto pathUpSpec)) pathUpUptoCard

/-- THE SECOND FORM's CARD OF 'furrowlaw14.PathParents'. -/
def pathParentsUptoCard : Claim7 := { stood := { row := pathParentsUptoRow, standIns := [], harness := (true, "0416e25c5e65f8eb5cecb917c92f97d136cfb165c14ef0308eedb9c64aec12ba"), looks := false }, kinds := [], alts := [], laidByText := true, laidKinds := [.data, .pinned], laidTests := true, laidLooks := .later }
def PathParentsUptoCardSaid : Prop := Claim7.holds Tryd.pinned (.plain (OpenSpec.upto pathParentsSpec)) pathParentsUptoCard

/-- THE SECOND FORM's CARD OF 'furrowlaw14.PathTables'. -/
def pathTablesUptoCard : Claim7 := { stood := { row := pathTablesUptoRow, standIns := [], harness := (true, "0416e25c5e65f8eb5cecb917c92f97d136cfb165c14ef0308eedb9c64aec12ba"), looks := false }, kinds := [], alts := [], laidByText := true, laidKinds := [.data, .pinned], laidTests := true, laidLooks := .later }
def PathTablesUptoCardSaid : Prop := Claim7.holds Tryd.pinned (.plain (OpenSpec.upto pathTablesSpec)) pathTablesUptoCard

/-- THE SECOND FORM's CARD OF 'furrowlaw14.PathTexts'. -/
def pathTextsUptoCard : Claim7 := { stood := { row := pathTextsUptoRow, standIns := [], harness := (true, "0416e25c5e65f8eb5cecb917c92f97d136cfb165c14ef0308eedb9c64aec12ba"), looks := false }, kinds := [], alts := [], laidByText := true, laidKinds := [.data, .pinned], laidTests := true, laidLooks := .later }
def PathTextsUptoCardSaid : Prop := Claim7.holds Tryd.pinned (.plain (OpenSpec.upto pathTextsSpec)) pathTextsUptoCard

/-- THE SECOND FORM's CARD OF 'furrowlaw14.PathLeads'. -/
def pathLeadsUptoCard : Claim7 := { stood := { row := pathLeadsUptoRow, standIns := [], harness := (true, "0416e25c5e65f8eb5cecb917c92f97d136cfb165c14ef0308eedb9c64aec12ba"), looks := false }, kinds := [], alts := [], laidByText := true, laidKinds := [.data, .pinned], laidTests := true, laidLooks := .later }
def PathLeadsUptoCardSaid : Prop := Claim7.holds Tryd.pinned (.plain (OpenSpec.upto pathLeadsSpec)) pathLeadsUptoCard

/-- THE SECOND FORM's CARD OF 'furrowlaw14.PathAll'. -/
def pathAllUptoCard : Claim7 := { stood := { row := pathAllUptoRow, standIns := [], harness := (true, "0416e25c5e65f8eb5cecb917c92f97d136cfb165c14ef0308eedb9c64aec12ba"), looks := false }, kinds := [], alts := [], laidByText := true, laidKinds := [.data, .pinned], laidTests := true, laidLooks := .later }
def PathAllUptoCardSaid : Prop := Claim7.holds Tryd.pinned (.plain (OpenSpec.upto pathAllSpec)) pathAllUptoCard

/-- THE SECOND FORM's CARD OF 'furrowlaw14.PathCleans'. -/
def pathCleansUptoCard : Claim7 := { stood := { row := pathCleansUptoRow, standIns := [], harness := (true, "0416e25c5e65f8eb5cecb917c92f97d136cfb165c14ef0308eedb9c64aec12ba"), looks := false }, kinds := [], alts := [], laidByText := true, laidKinds := [.data, .pinned], laidTests := true, laidLooks := .later }
def PathCleansUptoCardSaid : Prop := Claim7.holds Tryd.pinned (.plain (OpenSpec.upto pathCleansSpec)) pathCleansUptoCard

/-- THE SECOND FORM's CARD OF 'furrowlaw14.PathFresh'. -/
def pathFreshUptoCard : Claim7 := { stood := { row := pathFreshUptoRow, standIns := [], harness := (true, "0416e25c5e65f8eb5cecb917c92f97d136cfb165c14ef0308eedb9c64aec12ba"), looks := false }, kinds := [], alts := [], laidByText := true, laidKinds := [.data, .pinned], laidTests := true, laidLooks := .later }
def PathFreshUptoCardSaid : Prop := Claim7.holds Tryd.pinned (.plain (OpenSpec.upto pathFreshSpec)) pathFreshUptoCard

/-- THE SECOND FORM's CARD OF 'furrowlaw14.PathLent'. -/
def pathLentUptoCard : Claim7 := { stood := { row := pathLentUptoRow, standIns := [], harness := (true, "0416e25c5e65f8eb5cecb917c92f97d136cfb165c14ef0308eedb9c64aec12ba"), looks := false }, kinds := [], alts := [], laidByText := true, laidKinds := [.data, .pinned], laidTests := true, laidLooks := .later }
def PathLentUptoCardSaid : Prop := Claim7.holds Tryd.pinned (.plain (OpenSpec.upto pathLentSpec)) pathLentUptoCard
end Rows
end Go.Proofs.YtpombeiabgbpiaaDoor
