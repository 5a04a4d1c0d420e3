/-
  No cell of these rows narrows 'for every input' (looked for: loops, veiled, ifaces, maps, wideKeys, modest, calm, conditions, laid).
  DERIVED. THE GIVEN ROWS OF THIS SEAT. 14 by the template 'for every input the law returns true; each argument reads behind the call as it read before'; 0 by the template 'total and deterministic' (their statements: YtfljnfmocmhhdaaTotals.lean).
  GIVEN WITH THE SEED: the statements are not yours to turn. If you find one false, say at which input.
  Laid BY PROGRAM, IN A SANDBOX (cutbox-rows.mjs): the forced cells as the released guide's own fill.sh prints them over the translation e42d7423177eb106… (all of the seat's roots in one cut). By AI agents, Wed Nov 11 2026. No macro, syntax, notation, axiom, sorry.
-/
import Derived.Test.YtfljnfmocmhhdaaChecked
import GoSem.Claim
import GoSem.ClaimJoined
import GoSem.ClaimMapViews
import Derived.JoinedTies
import Derived.KernelRfl
namespace Go.Proofs.Ytfljnfmocmhhdaa
/- THE CELL 'sum', in the pinned program and in every row, IS THE sha256 OF THE DUMP (.gsa) THAT YtfljnfmocmhhdaaProg.lean LOADS. Nothing in Lean hashes anything: it is a label: what it is worth is what the hold of that sum in a sandbox is worth. -/
noncomputable def Try.pinned : Pinned := { name := "ytfljnfmocmhhdaa", sum := "e42d7423177eb10640e0aa69f52adebb8cc00136a36170478d654b3464d3b81d", checked := Try.checked }
namespace Rows
def none {H : Type} : Left H := { results := [], args := [] }

/-- 'furrowlaw07.RadixAmid': WHATEVER THE INPUT: true; the input reads as it did. -/
def radixAmidSpec : ChangeSpec := { name := "radixAmid", fn := fun _ => fun
  | [d] => { results := [.lit (.bool true)], args := [d] }
  | _ => none }
def radixAmidRow : OpenClaim := { program := "ytfljnfmocmhhdaa", sum := "e42d7423177eb10640e0aa69f52adebb8cc00136a36170478d654b3464d3b81d", func := "furrow/furrowlaw07.RadixAmid", spec := "radixAmid", unfollowed := true, recurses := true, apart := false }
def RadixAmidSaid : Prop := radixAmidRow.holds Try.pinned (OpenSpec.ofChange radixAmidSpec)

/-- ITS FALSE NEIGHBOUR: 'it returns false'. Refute it at one input. -/
def radixAmidWrong : ChangeSpec := { name := "radixAmid", fn := fun _ => fun
  | [d] => { results := [.lit (.bool false)], args := [d] }
  | _ => none }
def RadixAmidWrongFalsely : Prop := radixAmidRow.holds Try.pinned (OpenSpec.ofChange radixAmidWrong)

/-- 'furrowlaw07.RadixLater': WHATEVER THE INPUT: true; the input reads as it did. -/
def radixLaterSpec : ChangeSpec := { name := "radixLater", fn := fun _ => fun
  | [d1, d2, d3] => { results := [.lit (.bool true)], args := [d1, d2, d3] }
  | _ => none }
def radixLaterRow : OpenClaim := { program := "ytfljnfmocmhhdaa", sum := "e42d7423177eb10640e0aa69f52adebb8cc00136a36170478d654b3464d3b81d", func := "furrow/furrowlaw07.RadixLater", spec := "radixLater", unfollowed := true, recurses := true, apart := false }
def RadixLaterSaid : Prop := radixLaterRow.holds Try.pinned (OpenSpec.ofChange radixLaterSpec)

/-- ITS FALSE NEIGHBOUR: 'it returns false'. Refute it at one input. -/
def radixLaterWrong : ChangeSpec := { name := "radixLater", fn := fun _ => fun
  | [d1, d2, d3] => { results := [.lit (.bool false)], args := [d1, d2, d3] }
  | _ => none }
def RadixLaterWrongFalsely : Prop := radixLaterRow.holds Try.pinned (OpenSpec.ofChange radixLaterWrong)

/-- 'furrowlaw07.RadixLast': WHATEVER THE INPUT: true; the input reads as it did. -/
def radixLastSpec : ChangeSpec := { name := "radixLast", fn := fun _ => fun
  | [d1, d2, d3] => { results := [.lit (.bool true)], args := [d1, d2, d3] }
  | _ => none }
def radixLastRow : OpenClaim := { program := "ytfljnfmocmhhdaa", sum := "e42d7423177eb10640e0aa69f52adebb8cc00136a36170478d654b3464d3b81d", func := "furrow/furrowlaw07.RadixLast", spec := "radixLast", unfollowed := true, recurses := true, apart := false }
def RadixLastSaid : Prop := radixLastRow.holds Try.pinned (OpenSpec.ofChange radixLastSpec)

/-- ITS FALSE NEIGHBOUR: 'it returns false'. Refute it at one input. -/
def radixLastWrong : ChangeSpec := { name := "radixLast", fn := fun _ => fun
  | [d1, d2, d3] => { results := [.lit (.bool false)], args := [d1, d2, d3] }
  | _ => none }
def RadixLastWrongFalsely : Prop := radixLastRow.holds Try.pinned (OpenSpec.ofChange radixLastWrong)

/-- 'furrowlaw07.RadixTexts': WHATEVER THE INPUT: true; the input reads as it did. -/
def radixTextsSpec : ChangeSpec := { name := "radixTexts", fn := fun _ => fun
  | [d] => { results := [.lit (.bool true)], args := [d] }
  | _ => none }
def radixTextsRow : OpenClaim := { program := "ytfljnfmocmhhdaa", sum := "e42d7423177eb10640e0aa69f52adebb8cc00136a36170478d654b3464d3b81d", func := "furrow/furrowlaw07.RadixTexts", spec := "radixTexts", unfollowed := true, recurses := true, apart := false }
def RadixTextsSaid : Prop := radixTextsRow.holds Try.pinned (OpenSpec.ofChange radixTextsSpec)

/-- ITS FALSE NEIGHBOUR: 'it returns false'. Refute it at one input. -/
def radixTextsWrong : ChangeSpec := { name := "radixTexts", fn := fun _ => fun
  | [d] => { results := [.lit (.bool false)], args := [d] }
  | _ => none }
def RadixTextsWrongFalsely : Prop := radixTextsRow.holds Try.pinned (OpenSpec.ofChange radixTextsWrong)

/-- 'furrowlaw07.RadixSpans': WHATEVER THE INPUT: true; the input reads as it did. -/
def radixSpansSpec : ChangeSpec := { name := "radixSpans", fn := fun _ => fun
  | [d1, d2] => { results := [.lit (.bool true)], args := [d1, d2] }
  | _ => none }
def radixSpansRow : OpenClaim := { program := "ytfljnfmocmhhdaa", sum := "e42d7423177eb10640e0aa69f52adebb8cc00136a36170478d654b3464d3b81d", func := "furrow/furrowlaw07.RadixSpans", spec := "radixSpans", unfollowed := true, recurses := true, apart := false }
def RadixSpansSaid : Prop := radixSpansRow.holds Try.pinned (OpenSpec.ofChange radixSpansSpec)

/-- ITS FALSE NEIGHBOUR: 'it returns false'. Refute it at one input. -/
def radixSpansWrong : ChangeSpec := { name := "radixSpans", fn := fun _ => fun
  | [d1, d2] => { results := [.lit (.bool false)], args := [d1, d2] }
  | _ => none }
def RadixSpansWrongFalsely : Prop := radixSpansRow.holds Try.pinned (OpenSpec.ofChange radixSpansWrong)

/-- 'furrowlaw07.RadixLongest': WHATEVER THE INPUT: true; the input reads as it did. -/
def radixLongestSpec : ChangeSpec := { name := "radixLongest", fn := fun _ => fun
  | [d] => { results := [.lit (.bool true)], args := [d] }
  | _ => none }
def radixLongestRow : OpenClaim := { program := "ytfljnfmocmhhdaa", sum := "e42d7423177eb10640e0aa69f52adebb8cc00136a36170478d654b3464d3b81d", func := "furrow/furrowlaw07.RadixLongest", spec := "radixLongest", unfollowed := true, recurses := true, apart := false }
def RadixLongestSaid : Prop := radixLongestRow.holds Try.pinned (OpenSpec.ofChange radixLongestSpec)

/-- ITS FALSE NEIGHBOUR: 'it returns false'. Refute it at one input. -/
def radixLongestWrong : ChangeSpec := { name := "radixLongest", fn := fun _ => fun
  | [d] => { results := [.lit (.bool false)], args := [d] }
  | _ => none }
def RadixLongestWrongFalsely : Prop := radixLongestRow.holds Try.pinned (OpenSpec.ofChange radixLongestWrong)

/-- 'furrowlaw07.RadixRound': WHATEVER THE INPUT: true; the input reads as it did. -/
def radixRoundSpec : ChangeSpec := { name := "radixRound", fn := fun _ => fun
  | [d1, d2] => { results := [.lit (.bool true)], args := [d1, d2] }
  | _ => none }
def radixRoundRow : OpenClaim := { program := "ytfljnfmocmhhdaa", sum := "e42d7423177eb10640e0aa69f52adebb8cc00136a36170478d654b3464d3b81d", func := "furrow/furrowlaw07.RadixRound", spec := "radixRound", unfollowed := true, recurses := true, apart := false }
def RadixRoundSaid : Prop := radixRoundRow.holds Try.pinned (OpenSpec.ofChange radixRoundSpec)

/-- ITS FALSE NEIGHBOUR: 'it returns false'. Refute it at one input. -/
def radixRoundWrong : ChangeSpec := { name := "radixRound", fn := fun _ => fun
  | [d1, d2] => { results := [.lit (.bool false)], args := [d1, d2] }
  | _ => none }
def RadixRoundWrongFalsely : Prop := radixRoundRow.holds Try.pinned (OpenSpec.ofChange radixRoundWrong)

/-- 'furrowlaw07.RadixSets': WHATEVER THE INPUT: true; the input reads as it did. -/
def radixSetsSpec : ChangeSpec := { name := "radixSets", fn := fun _ => fun
  | [d] => { results := [.lit (.bool true)], args := [d] }
  | _ => none }
def radixSetsRow : OpenClaim := { program := "ytfljnfmocmhhdaa", sum := "e42d7423177eb10640e0aa69f52adebb8cc00136a36170478d654b3464d3b81d", func := "furrow/furrowlaw07.RadixSets", spec := "radixSets", unfollowed := true, recurses := true, apart := false }
def RadixSetsSaid : Prop := radixSetsRow.holds Try.pinned (OpenSpec.ofChange radixSetsSpec)

/-- ITS FALSE NEIGHBOUR: 'it returns false'. Refute it at one input. -/
def radixSetsWrong : ChangeSpec := { name := "radixSets", fn := fun _ => fun
  | [d] => { results := [.lit (.bool false)], args := [d] }
  | _ => none }
def RadixSetsWrongFalsely : Prop := radixSetsRow.holds Try.pinned (OpenSpec.ofChange radixSetsWrong)

/-- 'furrowlaw07.RadixCuts': WHATEVER THE INPUT: true; the input reads as it did. -/
def radixCutsSpec : ChangeSpec := { name := "radixCuts", fn := fun _ => fun
  | [d] => { results := [.lit (.bool true)], args := [d] }
  | _ => none }
def radixCutsRow : OpenClaim := { program := "ytfljnfmocmhhdaa", sum := "e42d7423177eb10640e0aa69f52adebb8cc00136a36170478d654b3464d3b81d", func := "furrow/furrowlaw07.RadixCuts", spec := "radixCuts", unfollowed := true, recurses := true, apart := false }
def RadixCutsSaid : Prop := radixCutsRow.holds Try.pinned (OpenSpec.ofChange radixCutsSpec)

/-- ITS FALSE NEIGHBOUR: 'it returns false'. Refute it at one input. -/
def radixCutsWrong : ChangeSpec := { name := "radixCuts", fn := fun _ => fun
  | [d] => { results := [.lit (.bool false)], args := [d] }
  | _ => none }
def RadixCutsWrongFalsely : Prop := radixCutsRow.holds Try.pinned (OpenSpec.ofChange radixCutsWrong)

/-- 'furrowlaw07.RadixRuns': WHATEVER THE INPUT: true; the input reads as it did. -/
def radixRunsSpec : ChangeSpec := { name := "radixRuns", fn := fun _ => fun
  | [d] => { results := [.lit (.bool true)], args := [d] }
  | _ => none }
def radixRunsRow : OpenClaim := { program := "ytfljnfmocmhhdaa", sum := "e42d7423177eb10640e0aa69f52adebb8cc00136a36170478d654b3464d3b81d", func := "furrow/furrowlaw07.RadixRuns", spec := "radixRuns", unfollowed := true, recurses := true, apart := false }
def RadixRunsSaid : Prop := radixRunsRow.holds Try.pinned (OpenSpec.ofChange radixRunsSpec)

/-- ITS FALSE NEIGHBOUR: 'it returns false'. Refute it at one input. -/
def radixRunsWrong : ChangeSpec := { name := "radixRuns", fn := fun _ => fun
  | [d] => { results := [.lit (.bool false)], args := [d] }
  | _ => none }
def RadixRunsWrongFalsely : Prop := radixRunsRow.holds Try.pinned (OpenSpec.ofChange radixRunsWrong)

/-- 'furrowlaw07.RadixLoads': WHATEVER THE INPUT: true; the input reads as it did. -/
def radixLoadsSpec : ChangeSpec := { name := "radixLoads", fn := fun _ => fun
  | [d] => { results := [.lit (.bool true)], args := [d] }
  | _ => none }
def radixLoadsRow : OpenClaim := { program := "ytfljnfmocmhhdaa", sum := "e42d7423177eb10640e0aa69f52adebb8cc00136a36170478d654b3464d3b81d", func := "furrow/furrowlaw07.RadixLoads", spec := "radixLoads", unfollowed := true, recurses := true, apart := false }
def RadixLoadsSaid : Prop := radixLoadsRow.holds Try.pinned (OpenSpec.ofChange radixLoadsSpec)

/-- ITS FALSE NEIGHBOUR: 'it returns false'. Refute it at one input. -/
def radixLoadsWrong : ChangeSpec := { name := "radixLoads", fn := fun _ => fun
  | [d] => { results := [.lit (.bool false)], args := [d] }
  | _ => none }
def RadixLoadsWrongFalsely : Prop := radixLoadsRow.holds Try.pinned (OpenSpec.ofChange radixLoadsWrong)

/-- 'furrowlaw07.RadixAll': WHATEVER THE INPUT: true; the input reads as it did. -/
def radixAllSpec : ChangeSpec := { name := "radixAll", fn := fun _ => fun
  | [d] => { results := [.lit (.bool true)], args := [d] }
  | _ => none }
def radixAllRow : OpenClaim := { program := "ytfljnfmocmhhdaa", sum := "e42d7423177eb10640e0aa69f52adebb8cc00136a36170478d654b3464d3b81d", func := "furrow/furrowlaw07.RadixAll", spec := "radixAll", unfollowed := true, recurses := true, apart := false }
def RadixAllSaid : Prop := radixAllRow.holds Try.pinned (OpenSpec.ofChange radixAllSpec)

/-- ITS FALSE NEIGHBOUR: 'it returns false'. Refute it at one input. -/
def radixAllWrong : ChangeSpec := { name := "radixAll", fn := fun _ => fun
  | [d] => { results := [.lit (.bool false)], args := [d] }
  | _ => none }
def RadixAllWrongFalsely : Prop := radixAllRow.holds Try.pinned (OpenSpec.ofChange radixAllWrong)

/-- 'furrowlaw07.RadixFroms': WHATEVER THE INPUT: true; the input reads as it did. -/
def radixFromsSpec : ChangeSpec := { name := "radixFroms", fn := fun _ => fun
  | [d] => { results := [.lit (.bool true)], args := [d] }
  | _ => none }
def radixFromsRow : OpenClaim := { program := "ytfljnfmocmhhdaa", sum := "e42d7423177eb10640e0aa69f52adebb8cc00136a36170478d654b3464d3b81d", func := "furrow/furrowlaw07.RadixFroms", spec := "radixFroms", unfollowed := true, recurses := true, apart := false }
def RadixFromsSaid : Prop := radixFromsRow.holds Try.pinned (OpenSpec.ofChange radixFromsSpec)

/-- ITS FALSE NEIGHBOUR: 'it returns false'. Refute it at one input. -/
def radixFromsWrong : ChangeSpec := { name := "radixFroms", fn := fun _ => fun
  | [d] => { results := [.lit (.bool false)], args := [d] }
  | _ => none }
def RadixFromsWrongFalsely : Prop := radixFromsRow.holds Try.pinned (OpenSpec.ofChange radixFromsWrong)

/-- 'furrowlaw07.RadixApart': WHATEVER THE INPUT: true; the input reads as it did. -/
def radixApartSpec : ChangeSpec := { name := "radixApart", fn := fun _ => fun
  | [d1, d2] => { results := [.lit (.bool true)], args := [d1, d2] }
  | _ => none }
def radixApartRow : OpenClaim := { program := "ytfljnfmocmhhdaa", sum := "e42d7423177eb10640e0aa69f52adebb8cc00136a36170478d654b3464d3b81d", func := "furrow/furrowlaw07.RadixApart", spec := "radixApart", unfollowed := true, recurses := true, apart := false }
def RadixApartSaid : Prop := radixApartRow.holds Try.pinned (OpenSpec.ofChange radixApartSpec)

/-- ITS FALSE NEIGHBOUR: 'it returns false'. Refute it at one input. -/
def radixApartWrong : ChangeSpec := { name := "radixApart", fn := fun _ => fun
  | [d1, d2] => { results := [.lit (.bool false)], args := [d1, d2] }
  | _ => none }
def RadixApartWrongFalsely : Prop := radixApartRow.holds Try.pinned (OpenSpec.ofChange radixApartWrong)

/- THE SECOND FORM. 'bulk': how many values and letters a reading holds, each counted each time it is reached (what is shared counts as often as it is met; a slice's spare places count too). A statement '..UptoSaid' is the law's where the arguments, and the package variables that the reading takes, are together of bulk at most 1048576: NARROWER than '..Said'. Prove '..Said' where nothing that the law and all that it calls make is longer than what came in: it says more and counts as full. Else prove '..UptoSaid'. A law counts once. -/
mutual
def uptoBulk {H : Type} : DataW H → Nat
  | .lit (.string bytes) => bytes.length + 1
  | .lit _ => 1
  | .nil => 1
  | .ptr d => uptoBulk d + 1
  | .slice elems spare => uptoBulkAll elems + uptoBulkAll spare + 1
  | .agg parts => uptoBulkAll parts + 1
  | .iface _ d => uptoBulk d + 1
  | .map entries => uptoBulkEntries entries + 1
  | .held _ => 1
def uptoBulkAll {H : Type} : List (DataW H) → Nat
  | [] => 0
  | d :: r => uptoBulk d + uptoBulkAll r
def uptoBulkEntries {H : Type} : List (Lit × DataW H) → Nat
  | [] => 0
  | x :: r => uptoBulkEntry x + uptoBulkEntries r
def uptoBulkEntry {H : Type} : Lit × DataW H → Nat
  | (.string bytes, d) => bytes.length + uptoBulk d + 1
  | (_, d) => uptoBulk d + 1
 end
def uptoSmall : (H : Type) → List (DataW H) → Bool := fun _ ds => decide (uptoBulkAll ds ≤ 1048576)
def OpenSpec.upto (s : _root_.Go.ChangeSpec) : _root_.Go.OpenSpec := { _root_.Go.OpenSpec.ofChange s with cond := some uptoSmall }

/-- 'furrowlaw07.RadixAmid', WHERE WHAT IT READS IS OF BULK AT MOST 1048576: true; the input reads as it did. -/
def radixAmidUptoRow : OpenClaim := { program := "ytfljnfmocmhhdaa", sum := "e42d7423177eb10640e0aa69f52adebb8cc00136a36170478d654b3464d3b81d", func := "furrow/furrowlaw07.RadixAmid", spec := "radixAmid", unfollowed := true, recurses := true, apart := false, narrowed := true }
def RadixAmidUptoSaid : Prop := radixAmidUptoRow.holds Try.pinned (OpenSpec.upto radixAmidSpec)

/-- 'furrowlaw07.RadixLater', WHERE WHAT IT READS IS OF BULK AT MOST 1048576: true; the input reads as it did. -/
def radixLaterUptoRow : OpenClaim := { program := "ytfljnfmocmhhdaa", sum := "e42d7423177eb10640e0aa69f52adebb8cc00136a36170478d654b3464d3b81d", func := "furrow/furrowlaw07.RadixLater", spec := "radixLater", unfollowed := true, recurses := true, apart := false, narrowed := true }
def RadixLaterUptoSaid : Prop := radixLaterUptoRow.holds Try.pinned (OpenSpec.upto radixLaterSpec)

/-- 'furrowlaw07.RadixLast', WHERE WHAT IT READS IS OF BULK AT MOST 1048576: true; the input reads as it did. -/
def radixLastUptoRow : OpenClaim := { program := "ytfljnfmocmhhdaa", sum := "e42d7423177eb10640e0aa69f52adebb8cc00136a36170478d654b3464d3b81d", func := "furrow/furrowlaw07.RadixLast", spec := "radixLast", unfollowed := true, recurses := true, apart := false, narrowed := true }
def RadixLastUptoSaid : Prop := radixLastUptoRow.holds Try.pinned (OpenSpec.upto radixLastSpec)

/-- 'furrowlaw07.RadixTexts', WHERE WHAT IT READS IS OF BULK AT MOST 1048576: true; the input reads as it did. -/
def radixTextsUptoRow : OpenClaim := { program := "ytfljnfmocmhhdaa", sum := "e42d7423177eb10640e0aa69f52adebb8cc00136a36170478d654b3464d3b81d", func := "furrow/furrowlaw07.RadixTexts", spec := "radixTexts", unfollowed := true, recurses := true, apart := false, narrowed := true }
def RadixTextsUptoSaid : Prop := radixTextsUptoRow.holds Try.pinned (OpenSpec.upto radixTextsSpec)

/-- 'furrowlaw07.RadixSpans', WHERE WHAT IT READS IS OF BULK AT MOST 1048576: true; the input reads as it did. -/
def radixSpansUptoRow : OpenClaim := { program := "ytfljnfmocmhhdaa", sum := "e42d7423177eb10640e0aa69f52adebb8cc00136a36170478d654b3464d3b81d", func := "furrow/furrowlaw07.RadixSpans", spec := "radixSpans", unfollowed := true, recurses := true, apart := false, narrowed := true }
def RadixSpansUptoSaid : Prop := radixSpansUptoRow.holds Try.pinned (OpenSpec.upto radixSpansSpec)

/-- 'furrowlaw07.RadixLongest', WHERE WHAT IT READS IS OF BULK AT MOST 1048576: true; the input reads as it did. -/
def radixLongestUptoRow : OpenClaim := { program := "ytfljnfmocmhhdaa", sum := "e42d7423177eb10640e0aa69f52adebb8cc00136a36170478d654b3464d3b81d", func := "furrow/furrowlaw07.RadixLongest", spec := "radixLongest", unfollowed := true, recurses := true, apart := false, narrowed := true }
def RadixLongestUptoSaid : Prop := radixLongestUptoRow.holds Try.pinned (OpenSpec.upto radixLongestSpec)

/-- 'furrowlaw07.RadixRound', WHERE WHAT IT READS IS OF BULK AT MOST 1048576: true; the input reads as it did. -/
def radixRoundUptoRow : OpenClaim := { program := "ytfljnfmocmhhdaa", sum := "e42d7423177eb10640e0aa69f52adebb8cc00136a36170478d654b3464d3b81d", func := "furrow/furrowlaw07.RadixRound", spec := "radixRound", unfollowed := true, recurses := true, apart := false, narrowed := true }
def RadixRoundUptoSaid : Prop := radixRoundUptoRow.holds Try.pinned (OpenSpec.upto radixRoundSpec)

/-- 'furrowlaw07.RadixSets', WHERE WHAT IT READS IS OF BULK AT MOST 1048576: true; the input reads as it did. -/
def radixSetsUptoRow : OpenClaim := { program := "ytfljnfmocmhhdaa", sum := "e42d7423177eb10640e0aa69f52adebb8cc00136a36170478d654b3464d3b81d", func := "furrow/furrowlaw07.RadixSets", spec := "radixSets", unfollowed := true, recurses := true, apart := false, narrowed := true }
def RadixSetsUptoSaid : Prop := radixSetsUptoRow.holds Try.pinned (OpenSpec.upto radixSetsSpec)

/-- 'furrowlaw07.RadixCuts', WHERE WHAT IT READS IS OF BULK AT MOST 1048576: true; the input reads as it did. -/
def radixCutsUptoRow : OpenClaim := { program := "ytfljnfmocmhhdaa", sum := "e42d7423177eb10640e0aa69f52adebb8cc00136a36170478d654b3464d3b81d", func := "furrow/furrowlaw07.RadixCuts", spec := "radixCuts", unfollowed := true, recurses := true, apart := false, narrowed := true }
def RadixCutsUptoSaid : Prop := radixCutsUptoRow.holds Try.pinned (OpenSpec.upto radixCutsSpec)

/-- 'furrowlaw07.RadixRuns', WHERE WHAT IT READS IS OF BULK AT MOST 1048576: true; the input reads as it did. -/
def radixRunsUptoRow : OpenClaim := { program := "ytfljnfmocmhhdaa", sum := "e42d7423177eb10640e0aa69f52adebb8cc00136a36170478d654b3464d3b81d", func := "furrow/furrowlaw07.RadixRuns", spec := "radixRuns", unfollowed := true, recurses := true, apart := false, narrowed := true }
def RadixRunsUptoSaid : Prop := radixRunsUptoRow.holds Try.pinned (OpenSpec.upto radixRunsSpec)

/-- 'furrowlaw07.RadixLoads', WHERE WHAT IT READS IS OF BULK AT MOST 1048576: true; the input reads as it did. -/
def radixLoadsUptoRow : OpenClaim := { program := "ytfljnfmocmhhdaa", sum := "e42d7423177eb10640e0aa69f52adebb8cc00136a36170478d654b3464d3b81d", func := "furrow/furrowlaw07.RadixLoads", spec := "radixLoads", unfollowed := true, recurses := true, apart := false, narrowed := true }
def RadixLoadsUptoSaid : Prop := radixLoadsUptoRow.holds Try.pinned (OpenSpec.upto radixLoadsSpec)

/-- 'furrowlaw07.RadixAll', WHERE WHAT IT READS IS OF BULK AT MOST 1048576: true; the input reads as it did. -/
def radixAllUptoRow : OpenClaim := { program := "ytfljnfmocmhhdaa", sum := "e42d7423177eb10640e0aa69f52adebb8cc00136a36170478d654b3464d3b81d", func := "furrow/furrowlaw07.RadixAll", spec := "radixAll", unfollowed := true, recurses := true, apart := false, narrowed := true }
def RadixAllUptoSaid : Prop := radixAllUptoRow.holds Try.pinned (OpenSpec.upto radixAllSpec)

/-- 'furrowlaw07.RadixFroms', WHERE WHAT IT READS IS OF BULK AT MOST 1048576: true; the input reads as it did. -/
def radixFromsUptoRow : OpenClaim := { program := "ytfljnfmocmhhdaa", sum := "e42d7423177eb10640e0aa69f52adebb8cc00136a36170478d654b3464d3b81d", func := "furrow/furrowlaw07.RadixFroms", spec := "radixFroms", unfollowed := true, recurses := true, apart := false, narrowed := true }
def RadixFromsUptoSaid : Prop := radixFromsUptoRow.holds Try.pinned (OpenSpec.upto radixFromsSpec)

/-- 'furrowlaw07.RadixApart', WHERE WHAT IT READS IS OF BULK AT MOST 1048576: true; the input reads as it did. -/
def radixApartUptoRow : OpenClaim := { program := "ytfljnfmocmhhdaa", sum := "e42d7423177eb10640e0aa69f52adebb8cc00136a36170478d654b3464d3b81d", func := "furrow/furrowlaw07.RadixApart", spec := "radixApart", unfollowed := true, recurses := true, apart := false, narrowed := true }
def RadixApartUptoSaid : Prop := radixApartUptoRow.holds Try.pinned (OpenSpec.upto radixApartSpec)

end Rows
end Go.Proofs.Ytfljnfmocmhhdaa
