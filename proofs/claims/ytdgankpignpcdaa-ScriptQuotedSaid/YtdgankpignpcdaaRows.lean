/-
  No cell of these rows narrows 'for every input' (looked for: loops, veiled, ifaces, maps, wideKeys, modest, calm, conditions, laid).
  DERIVED. THE GIVEN ROWS OF THIS SEAT. 3 by the template 'for every input the law returns true; each argument reads behind the call as it read before'; 0 by the template 'total and deterministic' (their statements: YtdgankpignpcdaaTotals.lean).
  GIVEN WITH THE SEED: the statements are not yours to turn. If you find one false, say at which input.
  Laid BY PROGRAM, IN A SANDBOX (cutbox-rows.mjs): the forced cells as the released guide's own fill.sh prints them over the translation 80429dbfd3a24bfd… (all of the seat's roots in one cut). By AI agents, Wed Nov 11 2026. No macro, syntax, notation, axiom, sorry.
-/
import Derived.Test.YtdgankpignpcdaaChecked
import GoSem.Claim
import GoSem.ClaimJoined
import GoSem.ClaimMapViews
import Derived.JoinedTies
import Derived.KernelRfl
namespace Go.Proofs.Ytdgankpignpcdaa
/- THE CELL 'sum', in the pinned program and in every row, IS THE sha256 OF THE DUMP (.gsa) THAT YtdgankpignpcdaaProg.lean LOADS. Nothing in Lean hashes anything: it is a label: what it is worth is what the hold of that sum in a sandbox is worth. -/
noncomputable def Try.pinned : Pinned := { name := "ytdgankpignpcdaa", sum := "80429dbfd3a24bfdeafb475c4f2e0916e79cc0777432012a598012d3067a46c5", checked := Try.checked }
namespace Rows
def none {H : Type} : Left H := { results := [], args := [] }

/-- 'furrowlaw19.ScriptQuotes': WHATEVER THE INPUT: true; the input reads as it did. -/
def scriptQuotesSpec : ChangeSpec := { name := "scriptQuotes", fn := fun _ => fun
  | [d] => { results := [.lit (.bool true)], args := [d] }
  | _ => none }
def scriptQuotesRow : OpenClaim := { program := "ytdgankpignpcdaa", sum := "80429dbfd3a24bfdeafb475c4f2e0916e79cc0777432012a598012d3067a46c5", func := "furrow/furrowlaw19.ScriptQuotes", spec := "scriptQuotes", apart := false }
def ScriptQuotesSaid : Prop := scriptQuotesRow.holds Try.pinned (OpenSpec.ofChange scriptQuotesSpec)

/-- ITS FALSE NEIGHBOUR: 'it returns false'. Refute it at one input. -/
def scriptQuotesWrong : ChangeSpec := { name := "scriptQuotes", fn := fun _ => fun
  | [d] => { results := [.lit (.bool false)], args := [d] }
  | _ => none }
def ScriptQuotesWrongFalsely : Prop := scriptQuotesRow.holds Try.pinned (OpenSpec.ofChange scriptQuotesWrong)

/-- 'furrowlaw19.ScriptUnquotes': WHATEVER THE INPUT: true; the input reads as it did. -/
def scriptUnquotesSpec : ChangeSpec := { name := "scriptUnquotes", fn := fun _ => fun
  | [d] => { results := [.lit (.bool true)], args := [d] }
  | _ => none }
def scriptUnquotesRow : OpenClaim := { program := "ytdgankpignpcdaa", sum := "80429dbfd3a24bfdeafb475c4f2e0916e79cc0777432012a598012d3067a46c5", func := "furrow/furrowlaw19.ScriptUnquotes", spec := "scriptUnquotes", inPlace := ["internal/bytealg.IndexByteString"], apart := false }
def ScriptUnquotesSaid : Prop := scriptUnquotesRow.holds Try.pinned (OpenSpec.ofChange scriptUnquotesSpec)

/-- ITS FALSE NEIGHBOUR: 'it returns false'. Refute it at one input. -/
def scriptUnquotesWrong : ChangeSpec := { name := "scriptUnquotes", fn := fun _ => fun
  | [d] => { results := [.lit (.bool false)], args := [d] }
  | _ => none }
def ScriptUnquotesWrongFalsely : Prop := scriptUnquotesRow.holds Try.pinned (OpenSpec.ofChange scriptUnquotesWrong)

/-- 'furrowlaw19.ScriptQuoted': WHATEVER THE INPUT: true; the input reads as it did. -/
def scriptQuotedSpec : ChangeSpec := { name := "scriptQuoted", fn := fun _ => fun
  | [d1, d2] => { results := [.lit (.bool true)], args := [d1, d2] }
  | _ => none }
def scriptQuotedRow : OpenClaim := { program := "ytdgankpignpcdaa", sum := "80429dbfd3a24bfdeafb475c4f2e0916e79cc0777432012a598012d3067a46c5", func := "furrow/furrowlaw19.ScriptQuoted", spec := "scriptQuoted", inPlace := ["internal/bytealg.IndexByteString"], apart := false }
def ScriptQuotedSaid : Prop := scriptQuotedRow.holds Try.pinned (OpenSpec.ofChange scriptQuotedSpec)

/-- ITS FALSE NEIGHBOUR: 'it returns false'. Refute it at one input. -/
def scriptQuotedWrong : ChangeSpec := { name := "scriptQuoted", fn := fun _ => fun
  | [d1, d2] => { results := [.lit (.bool false)], args := [d1, d2] }
  | _ => none }
def ScriptQuotedWrongFalsely : Prop := scriptQuotedRow.holds Try.pinned (OpenSpec.ofChange scriptQuotedWrong)

/- THE SECOND FORM. 'bulk': how many values and letters a reading holds, each counted each time it is reached (what is shared counts as often as it is met; a slice's spare places count too). A statement '..UptoSaid' is the law's where the arguments, and the package variables that the reading takes, are together of bulk at most 1048576: NARROWER than '..Said'. Prove '..Said' where nothing that the law and all that it calls make is longer than what came in: it says more and counts as full. Else prove '..UptoSaid'. A law counts once. -/
mutual
def uptoBulk {H : Type} : DataW H → Nat
  | .lit (.string bytes) => bytes.length + 1
  | .lit _ => 1
  | .nil => 1
  | .ptr d => uptoBulk d + 1
  | .slice elems spare => uptoBulkAll elems + uptoBulkAll spare + 1
  | .agg parts => uptoBulkAll parts + 1
  | .iface _ d => uptoBulk d + 1
  | .map entries => uptoBulkEntries entries + 1
  | .held _ => 1
def uptoBulkAll {H : Type} : List (DataW H) → Nat
  | [] => 0
  | d :: r => uptoBulk d + uptoBulkAll r
def uptoBulkEntries {H : Type} : List (Lit × DataW H) → Nat
  | [] => 0
  | x :: r => uptoBulkEntry x + uptoBulkEntries r
def uptoBulkEntry {H : Type} : Lit × DataW H → Nat
  | (.string bytes, d) => bytes.length + uptoBulk d + 1
  | (_, d) => uptoBulk d + 1
 end
def uptoSmall : (H : Type) → List (DataW H) → Bool := fun _ ds => decide (uptoBulkAll ds ≤ 1048576)
def OpenSpec.upto (s : _root_.Go.ChangeSpec) : _root_.Go.OpenSpec := { _root_.Go.OpenSpec.ofChange s with cond := some uptoSmall }

/-- 'furrowlaw19.ScriptQuotes', WHERE WHAT IT READS IS OF BULK AT MOST 1048576: true; the input reads as it did. -/
def scriptQuotesUptoRow : OpenClaim := { program := "ytdgankpignpcdaa", sum := "80429dbfd3a24bfdeafb475c4f2e0916e79cc0777432012a598012d3067a46c5", func := "furrow/furrowlaw19.ScriptQuotes", spec := "scriptQuotes", apart := false, narrowed := true }
def ScriptQuotesUptoSaid : Prop := scriptQuotesUptoRow.holds Try.pinned (OpenSpec.upto scriptQuotesSpec)

/-- 'furrowlaw19.ScriptUnquotes', WHERE WHAT IT READS IS OF BULK AT MOST 1048576: true; the input reads as it did. -/
def scriptUnquotesUptoRow : OpenClaim := { program := "ytdgankpignpcdaa", sum := "80429dbfd3a24bfdeafb475c4f2e0916e79cc0777432012a598012d3067a46c5", func := "furrow/furrowlaw19.ScriptUnquotes", spec := "scriptUnquotes", inPlace := ["internal/bytealg.IndexByteString"], apart := false, narrowed := true }
def ScriptUnquotesUptoSaid : Prop := scriptUnquotesUptoRow.holds Try.pinned (OpenSpec.upto scriptUnquotesSpec)

/-- 'furrowlaw19.ScriptQuoted', WHERE WHAT IT READS IS OF BULK AT MOST 1048576: true; the input reads as it did. -/
def scriptQuotedUptoRow : OpenClaim := { program := "ytdgankpignpcdaa", sum := "80429dbfd3a24bfdeafb475c4f2e0916e79cc0777432012a598012d3067a46c5", func := "furrow/furrowlaw19.ScriptQuoted", spec := "scriptQuoted", inPlace := ["internal/bytealg.IndexByteString"], apart := false, narrowed := true }
def ScriptQuotedUptoSaid : Prop := scriptQuotedUptoRow.holds Try.pinned (OpenSpec.upto scriptQuotedSpec)

end Rows
end Go.Proofs.Ytdgankpignpcdaa
