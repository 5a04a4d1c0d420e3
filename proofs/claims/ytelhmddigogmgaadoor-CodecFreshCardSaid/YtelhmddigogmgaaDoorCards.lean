/-
  DERIVED. GIVEN WITH THE SEED: THE CARDS: each row of YtelhmddigogmgaaDoorRows.lean that lists a variable, with what it lists TIED to the program's text (the seventh form; the later family's looks); each row that meets fmt, with fmt's text TOLD by the authors' own Lean function (tested against real Go, not proved from fmt's source: count such statements apart). THE CARD IS WHAT COUNTS. Prove the row's statement (the work); the ties are given (YtelhmddigogmgaaDoorTie.lean); close each card by the builder's one call (the guide's Derived/Test/ToyasCard.lean, 'card_holds'). Laid BY PROGRAM, IN A SANDBOX (cutbox-door.mjs). By AI agents, Wed Nov 11 2026. No macro, syntax, notation, axiom, sorry.
-/
import Derived.Test.YtelhmddigogmgaaDoorRows
import GoSem.ClaimSeven
namespace Go.Proofs.YtelhmddigogmgaaDoor
namespace Rows

/-- THE TIED CARD OF 'furrowlaw02.CodecNames'. -/
def codecNamesCard : Claim7 := { stood := { row := codecNamesRow, standIns := [], harness := (true, "bafcd030927deda181c21b34095effdde7a773a5554637cd95c81083cb8acddf"), looks := false }, kinds := [], alts := [], laidByText := true, laidKinds := [.data], laidTests := true, laidLooks := .later }
def CodecNamesCardSaid : Prop := Claim7.holds Tryd.pinned (.plain (OpenSpec.ofChange codecNamesSpec)) codecNamesCard

/-- THE TIED CARD OF 'furrowlaw02.CodecGoesOn'. -/
def codecGoesOnCard : Claim7 := { stood := { row := codecGoesOnRow, standIns := [], harness := (true, "bafcd030927deda181c21b34095effdde7a773a5554637cd95c81083cb8acddf"), looks := false }, kinds := [], alts := [], laidByText := true, laidKinds := [.data], laidTests := true, laidLooks := .later }
def CodecGoesOnCardSaid : Prop := Claim7.holds Tryd.pinned (.plain (OpenSpec.ofChange codecGoesOnSpec)) codecGoesOnCard

/-- THE TIED CARD OF 'furrowlaw02.CodecLinear'. -/
def codecLinearCard : Claim7 := { stood := { row := codecLinearRow, standIns := [], harness := (true, "bafcd030927deda181c21b34095effdde7a773a5554637cd95c81083cb8acddf"), looks := false }, kinds := [], alts := [], laidByText := true, laidKinds := [.data], laidTests := true, laidLooks := .later }
def CodecLinearCardSaid : Prop := Claim7.holds Tryd.pinned (.plain (OpenSpec.ofChange codecLinearSpec)) codecLinearCard

/-- THE TIED CARD OF 'furrowlaw02.CodecTells'. -/
def codecTellsCard : Claim7 := { stood := { row := codecTellsRow, standIns := [], harness := (true, "bafcd030927deda181c21b34095effdde7a773a5554637cd95c81083cb8acddf"), looks := false }, kinds := [], alts := [], laidByText := true, laidKinds := [.data], laidTests := true, laidLooks := .later }
def CodecTellsCardSaid : Prop := Claim7.holds Tryd.pinned (.plain (OpenSpec.ofChange codecTellsSpec)) codecTellsCard

/-- THE TIED CARD OF 'furrowlaw02.CodecClosed'. -/
def codecClosedCard : Claim7 := { stood := { row := codecClosedRow, standIns := [], harness := (true, "bafcd030927deda181c21b34095effdde7a773a5554637cd95c81083cb8acddf"), looks := false }, kinds := [], alts := [], laidByText := true, laidKinds := [.data], laidTests := true, laidLooks := .later }
def CodecClosedCardSaid : Prop := Claim7.holds Tryd.pinned (.plain (OpenSpec.ofChange codecClosedSpec)) codecClosedCard

/-- THE TIED CARD OF 'furrowlaw02.CodecSpoilt'. -/
def codecSpoiltCard : Claim7 := { stood := { row := codecSpoiltRow, standIns := [], harness := (true, "bafcd030927deda181c21b34095effdde7a773a5554637cd95c81083cb8acddf"), looks := false }, kinds := [], alts := [], laidByText := true, laidKinds := [.data], laidTests := true, laidLooks := .later }
def CodecSpoiltCardSaid : Prop := Claim7.holds Tryd.pinned (.plain (OpenSpec.ofChange codecSpoiltSpec)) codecSpoiltCard

/-- THE TIED CARD OF 'furrowlaw02.CodecSealed'. -/
def codecSealedCard : Claim7 := { stood := { row := codecSealedRow, standIns := [], harness := (true, "bafcd030927deda181c21b34095effdde7a773a5554637cd95c81083cb8acddf"), looks := false }, kinds := [], alts := [], laidByText := true, laidKinds := [.data], laidTests := true, laidLooks := .later }
def CodecSealedCardSaid : Prop := Claim7.holds Tryd.pinned (.plain (OpenSpec.ofChange codecSealedSpec)) codecSealedCard

/-- THE TIED CARD OF 'furrowlaw02.CodecTorn'. -/
def codecTornCard : Claim7 := { stood := { row := codecTornRow, standIns := [], harness := (true, "bafcd030927deda181c21b34095effdde7a773a5554637cd95c81083cb8acddf"), looks := false }, kinds := [], alts := [], laidByText := true, laidKinds := [.data], laidTests := true, laidLooks := .later }
def CodecTornCardSaid : Prop := Claim7.holds Tryd.pinned (.plain (OpenSpec.ofChange codecTornSpec)) codecTornCard

/-- THE TIED CARD OF 'furrowlaw02.CodecOnly'. -/
def codecOnlyCard : Claim7 := { stood := { row := codecOnlyRow, standIns := [], harness := (true, "bafcd030927deda181c21b34095effdde7a773a5554637cd95c81083cb8acddf"), looks := false }, kinds := [], alts := [], laidByText := true, laidKinds := [.data], laidTests := true, laidLooks := .later }
def CodecOnlyCardSaid : Prop := Claim7.holds Tryd.pinned (.plain (OpenSpec.ofChange codecOnlySpec)) codecOnlyCard

/-- THE TIED CARD OF 'furrowlaw02.CodecEnds'. -/
def codecEndsCard : Claim7 := { stood := { row := codecEndsRow, standIns := [], harness := (true, "bafcd030927deda181c21b34095effdde7a773a5554637cd95c81083cb8acddf"), looks := false }, kinds := [], alts := [], laidByText := true, laidKinds := [.data], laidTests := true, laidLooks := .later }
def CodecEndsCardSaid : Prop := Claim7.holds Tryd.pinned (.plain (OpenSpec.ofChange codecEndsSpec)) codecEndsCard

/-- THE TIED CARD OF 'furrowlaw02.CodecFresh'. -/
def codecFreshCard : Claim7 := { stood := { row := codecFreshRow, standIns := [], harness := (true, "bafcd030927deda181c21b34095effdde7a773a5554637cd95c81083cb8acddf"), looks := false }, kinds := [], alts := [], laidByText := true, laidKinds := [.data], laidTests := true, laidLooks := .later }
def CodecFreshCardSaid : Prop := Claim7.holds Tryd.pinned (.plain (OpenSpec.ofChange codecFreshSpec)) codecFreshCard

/-- THE TIED CARD OF 'furrowlaw02.CodecBack'. -/
def codecBackCard : Claim7 := { stood := { row := codecBackRow, standIns := [], harness := (true, "bafcd030927deda181c21b34095effdde7a773a5554637cd95c81083cb8acddf"), looks := false }, kinds := [], alts := [], laidByText := true, laidKinds := [.data], laidTests := true, laidLooks := .later }
def CodecBackCardSaid : Prop := Claim7.holds Tryd.pinned (.plain (OpenSpec.ofChange codecBackSpec)) codecBackCard

/-- THE TIED CARD OF 'furrowlaw02.CodecLent'. -/
def codecLentCard : Claim7 := { stood := { row := codecLentRow, standIns := [], harness := (true, "bafcd030927deda181c21b34095effdde7a773a5554637cd95c81083cb8acddf"), looks := false }, kinds := [], alts := [], laidByText := true, laidKinds := [.data], laidTests := true, laidLooks := .later }
def CodecLentCardSaid : Prop := Claim7.holds Tryd.pinned (.plain (OpenSpec.ofChange codecLentSpec)) codecLentCard

/-- THE TIED CARD OF 'furrowlaw02.CodecSums'. -/
def codecSumsCard : Claim7 := { stood := { row := codecSumsRow, standIns := [], harness := (true, "bafcd030927deda181c21b34095effdde7a773a5554637cd95c81083cb8acddf"), looks := false }, kinds := [], alts := [], laidByText := true, laidKinds := [.data], laidTests := true, laidLooks := .later }
def CodecSumsCardSaid : Prop := Claim7.holds Tryd.pinned (.plain (OpenSpec.ofChange codecSumsSpec)) codecSumsCard

/-- THE TIED CARD OF 'furrowlaw02.CodecNumbers'. -/
def codecNumbersCard : Claim7 := { stood := { row := codecNumbersRow, standIns := [], harness := (true, "bafcd030927deda181c21b34095effdde7a773a5554637cd95c81083cb8acddf"), looks := false }, kinds := [], alts := [], laidByText := true, laidKinds := [.data], laidTests := true, laidLooks := .later }
def CodecNumbersCardSaid : Prop := Claim7.holds Tryd.pinned (.plain (OpenSpec.ofChange codecNumbersSpec)) codecNumbersCard

/-- THE TIED CARD OF 'furrowlaw02.CodecLines'. -/
def codecLinesCard : Claim7 := { stood := { row := codecLinesRow, standIns := [], harness := (true, "bafcd030927deda181c21b34095effdde7a773a5554637cd95c81083cb8acddf"), looks := false }, kinds := [], alts := [], laidByText := true, laidKinds := [.data], laidTests := true, laidLooks := .later }
def CodecLinesCardSaid : Prop := Claim7.holds Tryd.pinned (.plain (OpenSpec.ofChange codecLinesSpec)) codecLinesCard

/-- THE TIED CARD OF 'furrowlaw02.CodecSeals'. -/
def codecSealsCard : Claim7 := { stood := { row := codecSealsRow, standIns := [], harness := (true, "bafcd030927deda181c21b34095effdde7a773a5554637cd95c81083cb8acddf"), looks := false }, kinds := [], alts := [], laidByText := true, laidKinds := [.data], laidTests := true, laidLooks := .later }
def CodecSealsCardSaid : Prop := Claim7.holds Tryd.pinned (.plain (OpenSpec.ofChange codecSealsSpec)) codecSealsCard

/-- THE TIED CARD OF 'furrowlaw02.CodecAll'. -/
def codecAllCard : Claim7 := { stood := { row := codecAllRow, standIns := [], harness := (true, "bafcd030927deda181c21b34095effdde7a773a5554637cd95c81083cb8acddf"), looks := false }, kinds := [], alts := [], laidByText := true, laidKinds := [.data], laidTests := true, laidLooks := .later }
def CodecAllCardSaid : Prop := Claim7.holds Tryd.pinned (.plain (OpenSpec.ofChange codecAllSpec)) codecAllCard

/-- THE SECOND FORM's CARD OF 'furrowlaw02.CodecNames'. -/
def codecNamesUptoCard : Claim7 := { stood := { row := codecNamesUptoRow, standIns := [], harness := (true, "bafcd030927deda181c21b34095effdde7a773a5554637cd95c81083cb8acddf"), looks := false }, kinds := [], alts := [], laidByText := true, laidKinds := [.data], laidTests := true, laidLooks := .later }
def CodecNamesUptoCardSaid : Prop := Claim7.holds Tryd.pinned (.plain (OpenSpec.upto codecNamesSpec)) codecNamesUptoCard

/-- THE SECOND FORM's CARD OF 'furrowlaw02.CodecGoesOn'. -/
def codecGoesOnUptoCard : Claim7 := { stood := { row := codecGoesOnUptoRow, standIns := [], harness := (true, "bafcd030927deda181c21b34095effdde7a773a5554637cd95c81083cb8acddf"), looks := false }, kinds := [], alts := [], laidByText := true, laidKinds := [.data], laidTests := true, laidLooks := .later }
def CodecGoesOnUptoCardSaid : Prop := Claim7.holds Tryd.pinned (.plain (OpenSpec.upto codecGoesOnSpec)) codecGoesOnUptoCard

/-- THE SECOND FORM's CARD OF 'furrowlaw02.CodecLinear'. -/
def codecLinearUptoCard : Claim7 := { stood := { row := codecLinearUptoRow, standIns := [], harness := (true, "bafcd030927deda181c21b34095effdde7a773a5554637cd95c81083cb8acddf"), looks := false }, kinds := [], alts := [], laidByText := true, laidKinds := [.data], laidTests := true, laidLooks := .later }
def CodecLinearUptoCardSaid : Prop := Claim7.holds Tryd.pinned (.plain (OpenSpec.upto codecLinearSpec)) codecLinearUptoCard

/-- THE SECOND FORM's CARD OF 'furrowlaw02.CodecTells'. -/
def codecTellsUptoCard : Claim7 := { stood := { row := codecTellsUptoRow, standIns := [], harness := (true, "bafcd030927deda181c21b34095effdde7a773a5554637cd95c81083cb8acddf"), looks := false }, kinds := [], alts := [], laidByText := true, laidKinds := [.data], laidTests := true, laidLooks := .later }
def CodecTellsUptoCardSaid : Prop := Claim7.holds Tryd.pinned (.plain (OpenSpec.upto codecTellsSpec)) codecTellsUptoCard

/-- THE SECOND FORM's CARD OF 'furrowlaw02.CodecClosed'. -/
def codecClosedUptoCard : Claim7 := { stood := { row := codecClosedUptoRow, standIns := [], harness := (true, "bafcd030927deda181c21b34095effdde7a773a5554637cd95c81083cb8acddf"), looks := false }, kinds := [], alts := [], laidByText := true, laidKinds := [.data], laidTests := true, laidLooks := .later }
def CodecClosedUptoCardSaid : Prop := Claim7.holds Tryd.pinned (.plain (OpenSpec.upto codecClosedSpec)) codecClosedUptoCard

/-- THE SECOND FORM's CARD OF 'furrowlaw02.CodecSpoilt'. -/
def codecSpoiltUptoCard : Claim7 := { stood := { row := codecSpoiltUptoRow, standIns := [], harness := (true, "bafcd030927deda181c21b34095effdde7a773a5554637cd95c81083cb8acddf"), looks := false }, kinds := [], alts := [], laidByText := true, laidKinds := [.data], laidTests := true, laidLooks := .later }
def CodecSpoiltUptoCardSaid : Prop := Claim7.holds Tryd.pinned (.plain (OpenSpec.upto codecSpoiltSpec)) codecSpoiltUptoCard

/-- THE SECOND FORM's CARD OF 'furrowlaw02.CodecSealed'. -/
def codecSealedUptoCard : Claim7 := { stood := { row := codecSealedUptoRow, standIns := [], harness := (true, "bafcd030927deda181c21b34095effdde7a773a5554637cd95c81083cb8acddf"), looks := false }, kinds := [], alts := [], laidByText := true, laidKinds := [.data], laidTests := true, laidLooks := .later }
def CodecSealedUptoCardSaid : Prop := Claim7.holds Tryd.pinned (.plain (OpenSpec.upto codecSealedSpec)) codecSealedUptoCard

/-- THE SECOND FORM's CARD OF 'furrowlaw02.CodecTorn'. -/
def codecTornUptoCard : Claim7 := { stood := { row := codecTornUptoRow, standIns := [], harness := (true, "bafcd030927deda181c21b34095effdde7a773a5554637cd95c81083cb8acddf"), looks := false }, kinds := [], alts := [], laidByText := true, laidKinds := [.data], laidTests := true, laidLooks := .later }
def CodecTornUptoCardSaid : Prop := Claim7.holds Tryd.pinned (.plain (OpenSpec.upto codecTornSpec)) codecTornUptoCard

/-- THE SECOND FORM's CARD OF 'furrowlaw02.CodecOnly'. -/
def codecOnlyUptoCard : Claim7 := { stood := { row := codecOnlyUptoRow, standIns := [], harness := (true, "bafcd030927deda181c21b34095effdde7a773a5554637cd95c81083cb8acddf"), looks := false }, kinds := [], alts := [], laidByText := true, laidKinds := [.data], laidTests := true, laidLooks := .later }
def CodecOnlyUptoCardSaid : Prop := Claim7.holds Tryd.pinned (.plain (OpenSpec.upto codecOnlySpec)) codecOnlyUptoCard

/-- THE SECOND FORM's CARD OF 'furrowlaw02.CodecEnds'. -/
def codecEndsUptoCard : Claim7 := { stood := { row := codecEndsUptoRow, standIns := [], harness := (true, "bafcd030927deda181c21b34095effdde7a773a5554637cd95c81083cb8acddf"), looks := false }, kinds := [], alts := [], laidByText := true, laidKinds := [.data], laidTests := true, laidLooks := .later }
def CodecEndsUptoCardSaid : Prop := Claim7.holds Tryd.pinned (.plain (OpenSpec.upto codecEndsSpec)) codecEndsUptoCard

/-- THE SECOND FORM's CARD OF 'furrowlaw02.CodecFresh'. -/
def codecFreshUptoCard : Claim7 := { stood := { row := codecFreshUptoRow, standIns := [], harness := (true, "bafcd030927deda181c21b34095effdde7a773a5554637cd95c81083cb8acddf"), looks := false }, kinds := [], alts := [], laidByText := true, laidKinds := [.data], laidTests := true, laidLooks := .later }
def CodecFreshUptoCardSaid : Prop := Claim7.holds Tryd.pinned (.plain (OpenSpec.upto codecFreshSpec)) codecFreshUptoCard

/-- THE SECOND FORM's CARD OF 'furrowlaw02.CodecBack'. -/
def codecBackUptoCard : Claim7 := { stood := { row := codecBackUptoRow, standIns := [], harness := (true, "bafcd030927deda181c21b34095effdde7a773a5554637cd95c81083cb8acddf"), looks := false }, kinds := [], alts := [], laidByText := true, laidKinds := [.data], laidTests := true, laidLooks := .later }
def CodecBackUptoCardSaid : Prop := Claim7.holds Tryd.pinned (.plain (OpenSpec.upto codecBackSpec)) codecBackUptoCard

/-- THE SECOND FORM's CARD OF 'furrowlaw02.CodecLent'. -/
def codecLentUptoCard : Claim7 := { stood := { row := codecLentUptoRow, standIns := [], harness := (true, "bafcd030927deda181c21b34095effdde7a773a5554637cd95c81083cb8acddf"), looks := false }, kinds := [], alts := [], laidByText := true, laidKinds := [.data], laidTests := true, laidLooks := .later }
def CodecLentUptoCardSaid : Prop := Claim7.holds Tryd.pinned (.plain (OpenSpec.upto codecLentSpec)) codecLentUptoCard

/-- THE SECOND FORM's CARD OF 'furrowlaw02.CodecSums'. -/
def codecSumsUptoCard : Claim7 := { stood := { row := codecSumsUptoRow, standIns := [], harness := (true, "bafcd030927deda181c21b34095effdde7a773a5554637cd95c81083cb8acddf"), looks := false }, kinds := [], alts := [], laidByText := true, laidKinds := [.data], laidTests := true, laidLooks := .later }
def CodecSumsUptoCardSaid : Prop := Claim7.holds Tryd.pinned (.plain (OpenSpec.upto codecSumsSpec)) codecSumsUptoCard

/-- THE SECOND FORM's CARD OF 'furrowlaw02.CodecNumbers'. -/
def codecNumbersUptoCard : Claim7 := { stood := { row := codecNumbersUptoRow, standIns := [], harness := (true, "bafcd030927deda181c21b34095effdde7a773a5554637cd95c81083cb8acddf"), looks := false }, kinds := [], alts := [], laidByText := true, laidKinds := [.data], laidTests := true, laidLooks := .later }
def CodecNumbersUptoCardSaid : Prop := Claim7.holds Tryd.pinned (.plain (OpenSpec.upto codecNumbersSpec)) codecNumbersUptoCard

/-- THE SECOND FORM's CARD OF 'furrowlaw02.CodecLines'. -/
def codecLinesUptoCard : Claim7 := { stood := { row := codecLinesUptoRow, standIns := [], harness := (true, "bafcd030927deda181c21b34095effdde7a773a5554637cd95c81083cb8acddf"), looks := false }, kinds := [], alts := [], laidByText := true, laidKinds := [.data], laidTests := true, laidLooks := .later }
def CodecLinesUptoCardSaid : Prop := Claim7.holds Tryd.pinned (.plain (OpenSpec.upto codecLinesSpec)) codecLinesUptoCard

/-- THE SECOND FORM's CARD OF 'furrowlaw02.CodecSeals'. -/
def codecSealsUptoCard : Claim7 := { stood := { row := codecSealsUptoRow, standIns := [], harness := (true, "bafcd030927deda181c21b34095effdde7a773a5554637cd95c81083cb8acddf"), looks := false }, kinds := [], alts := [], laidByText := true, laidKinds := [.data], laidTests := true, laidLooks := .later }
def CodecSealsUptoCardSaid : Prop := Claim7.holds Tryd.pinned (.plain (OpenSpec.upto codecSealsSpec)) codecSealsUptoCard

/-- THE SECOND FORM's CARD OF 'furrowlaw02.CodecAll'. -/
def codecAllUptoCard : Claim7 := { stood := { row := codecAllUptoRow, standIns := [], harness := (true, "bafcd030927deda181c21b34095effdde7a773a5554637cd95c81083cb8acddf"), looks := false }, kinds := [], alts := [], laidByText := true, laidKinds := [.data], laidTests := true, laidLooks := .later }
def CodecAllUptoCardSaid : Prop := Claim7.holds Tryd.pinned (.plain (OpenSpec.upto codecAllSpec)) codecAllUptoCard
end Rows
end Go.Proofs.YtelhmddigogmgaaDoor
