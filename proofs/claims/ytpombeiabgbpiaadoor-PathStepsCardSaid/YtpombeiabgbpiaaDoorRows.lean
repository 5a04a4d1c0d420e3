/-
  NARROWER THAN 'FOR EVERY INPUT', by the rows' own cells (each row's printed sentence says how): PathNames: laid · PathCuts: laid · PathBack: laid · PathSteps: laid · PathUp: laid · PathParents: laid · PathTables: laid · PathTexts: laid · PathLeads: laid · PathAll: laid · PathCleans: laid · PathFresh: laid · PathLent: laid.
  DERIVED. THE GIVEN ROWS OF THIS SEAT. 13 by the template 'for every input the law returns true; each argument reads behind the call as it read before'; 0 by the template 'total and deterministic' (their statements: YtpombeiabgbpiaaDoorTotals.lean).
  GIVEN WITH THE SEED: the statements are not yours to turn. If you find one false, say at which input.
  Laid BY PROGRAM, IN A SANDBOX (cutbox-rows.mjs): the forced cells as the released guide's own fill.sh prints them over the translation bd902cba0109a6f5… (all of the seat's roots in one cut). By AI agents, Wed Nov 11 2026. No macro, syntax, notation, axiom, sorry.
-/
import Derived.Test.YtpombeiabgbpiaaDoorChecked
import GoSem.PinnedTables
import GoSem.Claim
import GoSem.ClaimJoined
import GoSem.ClaimMapViews
import Derived.JoinedTies
import Derived.KernelRfl
namespace Go.Proofs.YtpombeiabgbpiaaDoor
/- THE CELL 'sum', in the pinned program and in every row, IS THE sha256 OF THE DUMP (.gsa) THAT YtpombeiabgbpiaaDoorProg.lean LOADS. Nothing in Lean hashes anything: it is a label: what it is worth is what the hold of that sum in a sandbox is worth. -/
noncomputable def Tryd.pinned : Pinned := { name := "ytpombeiabgbpiaadoor", sum := "bd902cba0109a6f5652e7e4ef40f90126a1666bc2e1ab956360d2b8e0976dcd0", checked := Tryd.checked }
namespace Rows
def none {H : Type} : Left H := { results := [], args := [] }

/- WHAT THE LISTED PACKAGE-LEVEL VARIABLES READ AS WHEN THE CALL BEGINS. Each datum BY PROGRAM (the guide's laid-datum.mjs) off the statement by which the dump's own 'gosem.cut.vars' lays the variable. In a bare row this is a premise. The card (YtpombeiabgbpiaaDoorCards.lean) ties it to the program's text. -/
def laid_unicode_utf8_acceptRanges {H : Type} : DataW H := .agg [.agg [.lit (.int .u8 128), .lit (.int .u8 191)], .agg [.lit (.int .u8 160), .lit (.int .u8 191)], .agg [.lit (.int .u8 128), .lit (.int .u8 159)], .agg [.lit (.int .u8 144), .lit (.int .u8 191)], .agg [.lit (.int .u8 128), .lit (.int .u8 143)], .agg [.lit (.int .u8 0), .lit (.int .u8 0)], .agg [.lit (.int .u8 0), .lit (.int .u8 0)], .agg [.lit (.int .u8 0), .lit (.int .u8 0)], .agg [.lit (.int .u8 0), .lit (.int .u8 0)], .agg [.lit (.int .u8 0), .lit (.int .u8 0)], .agg [.lit (.int .u8 0), .lit (.int .u8 0)], .agg [.lit (.int .u8 0), .lit (.int .u8 0)], .agg [.lit (.int .u8 0), .lit (.int .u8 0)], .agg [.lit (.int .u8 0), .lit (.int .u8 0)], .agg [.lit (.int .u8 0), .lit (.int .u8 0)], .agg [.lit (.int .u8 0), .lit (.int .u8 0)]]
/-- One of Go's own tables, pinned by name: the form's constant. -/
def laid_unicode_utf8_first : DataW Unit := Go.Pinned.utf8First

/-- 'furrowlaw14.PathNames': WHATEVER THE INPUT: true; the input reads as it did. -/
def pathNamesSpec : ChangeSpec := { name := "pathNames", fn := fun _ => fun
  | [] => { results := [.lit (.bool true)], args := [] }
  | _ => none }
def pathNamesRow : OpenClaim := { program := "ytpombeiabgbpiaadoor", sum := "bd902cba0109a6f5652e7e4ef40f90126a1666bc2e1ab956360d2b8e0976dcd0", func := "furrow/furrowlaw14.PathNames", spec := "pathNames", inPlace := ["internal/bytealg.IndexByteString", "internal/bytealg.IndexString", "internal/abi.NoEscape"], unfollowed := true, recurses := true, named := ["unicode/utf8.first", "unicode/utf8.acceptRanges", "internal/bytealg.MaxLen"], plainKeys := false, apart := false, laid := [("unicode/utf8.acceptRanges", laid_unicode_utf8_acceptRanges), ("unicode/utf8.first", laid_unicode_utf8_first)] }
def PathNamesSaid : Prop := pathNamesRow.holds Tryd.pinned (OpenSpec.ofChange pathNamesSpec)

/-- ITS FALSE NEIGHBOUR: 'it returns false'. Refute it at one input. -/
def pathNamesWrong : ChangeSpec := { name := "pathNames", fn := fun _ => fun
  | [] => { results := [.lit (.bool false)], args := [] }
  | _ => none }
def PathNamesWrongFalsely : Prop := pathNamesRow.holds Tryd.pinned (OpenSpec.ofChange pathNamesWrong)

/-- 'furrowlaw14.PathCuts': WHATEVER THE INPUT: true; the input reads as it did. -/
def pathCutsSpec : ChangeSpec := { name := "pathCuts", fn := fun _ => fun
  | [d] => { results := [.lit (.bool true)], args := [d] }
  | _ => none }
def pathCutsRow : OpenClaim := { program := "ytpombeiabgbpiaadoor", sum := "bd902cba0109a6f5652e7e4ef40f90126a1666bc2e1ab956360d2b8e0976dcd0", func := "furrow/furrowlaw14.PathCuts", spec := "pathCuts", inPlace := ["internal/bytealg.IndexByteString", "internal/bytealg.IndexString", "internal/abi.NoEscape"], unfollowed := true, recurses := true, named := ["unicode/utf8.first", "unicode/utf8.acceptRanges", "internal/bytealg.MaxLen"], plainKeys := false, apart := false, laid := [("unicode/utf8.acceptRanges", laid_unicode_utf8_acceptRanges), ("unicode/utf8.first", laid_unicode_utf8_first)] }
def PathCutsSaid : Prop := pathCutsRow.holds Tryd.pinned (OpenSpec.ofChange pathCutsSpec)

/-- ITS FALSE NEIGHBOUR: 'it returns false'. Refute it at one input. -/
def pathCutsWrong : ChangeSpec := { name := "pathCuts", fn := fun _ => fun
  | [d] => { results := [.lit (.bool false)], args := [d] }
  | _ => none }
def PathCutsWrongFalsely : Prop := pathCutsRow.holds Tryd.pinned (OpenSpec.ofChange pathCutsWrong)

/-- 'furrowlaw14.PathBack': WHATEVER THE INPUT: true; the input reads as it did. -/
def pathBackSpec : ChangeSpec := { name := "pathBack", fn := fun _ => fun
  | [d1, d2] => { results := [.lit (.bool true)], args := [d1, d2] }
  | _ => none }
def pathBackRow : OpenClaim := { program := "ytpombeiabgbpiaadoor", sum := "bd902cba0109a6f5652e7e4ef40f90126a1666bc2e1ab956360d2b8e0976dcd0", func := "furrow/furrowlaw14.PathBack", spec := "pathBack", inPlace := ["internal/bytealg.IndexByteString", "internal/bytealg.IndexString", "internal/abi.NoEscape"], unfollowed := true, recurses := true, named := ["unicode/utf8.first", "unicode/utf8.acceptRanges", "internal/bytealg.MaxLen"], plainKeys := false, apart := false, laid := [("unicode/utf8.acceptRanges", laid_unicode_utf8_acceptRanges), ("unicode/utf8.first", laid_unicode_utf8_first)] }
def PathBackSaid : Prop := pathBackRow.holds Tryd.pinned (OpenSpec.ofChange pathBackSpec)

/-- ITS FALSE NEIGHBOUR: 'it returns false'. Refute it at one input. -/
def pathBackWrong : ChangeSpec := { name := "pathBack", fn := fun _ => fun
  | [d1, d2] => { results := [.lit (.bool false)], args := [d1, d2] }
  | _ => none }
def PathBackWrongFalsely : Prop := pathBackRow.holds Tryd.pinned (OpenSpec.ofChange pathBackWrong)

/-- 'furrowlaw14.PathSteps': WHATEVER THE INPUT: true; the input reads as it did. -/
def pathStepsSpec : ChangeSpec := { name := "pathSteps", fn := fun _ => fun
  | [d1, d2] => { results := [.lit (.bool true)], args := [d1, d2] }
  | _ => none }
def pathStepsRow : OpenClaim := { program := "ytpombeiabgbpiaadoor", sum := "bd902cba0109a6f5652e7e4ef40f90126a1666bc2e1ab956360d2b8e0976dcd0", func := "furrow/furrowlaw14.PathSteps", spec := "pathSteps", inPlace := ["internal/bytealg.IndexByteString", "internal/bytealg.IndexString", "internal/abi.NoEscape"], unfollowed := true, recurses := true, named := ["unicode/utf8.first", "unicode/utf8.acceptRanges", "internal/bytealg.MaxLen"], plainKeys := false, apart := false, laid := [("unicode/utf8.acceptRanges", laid_unicode_utf8_acceptRanges), ("unicode/utf8.first", laid_unicode_utf8_first)] }
def PathStepsSaid : Prop := pathStepsRow.holds Tryd.pinned (OpenSpec.ofChange pathStepsSpec)

/-- ITS FALSE NEIGHBOUR: 'it returns false'. Refute it at one input. -/
def pathStepsWrong : ChangeSpec := { name := "pathSteps", fn := fun _ => fun
  | [d1, d2] => { results := [.lit (.bool false)], args := [d1, d2] }
  | _ => none }
def PathStepsWrongFalsely : Prop := pathStepsRow.holds Tryd.pinned (OpenSpec.ofChange pathStepsWrong)

/-- 'furrowlaw14.PathUp': WHATEVER THE INPUT: true; the input reads as it did. -/
def pathUpSpec : ChangeSpec := { name := "pathUp", fn := fun _ => fun
  | [d1, d2, d3] => { results := [.lit (.bool true)], args := [d1, d2, d3] }
  | _ => none }
def pathUpRow : OpenClaim := { program := "ytpombeiabgbpiaadoor", sum := "bd902cba0109a6f5652e7e4ef40f90126a1666bc2e1ab956360d2b8e0976dcd0", func := "furrow/furrowlaw14.PathUp", spec := "pathUp", inPlace := ["internal/bytealg.IndexByteString", "internal/bytealg.IndexString", "internal/abi.NoEscape"], unfollowed := true, recurses := true, named := ["unicode/utf8.first", "unicode/utf8.acceptRanges", "internal/bytealg.MaxLen"], plainKeys := false, apart := false, laid := [("unicode/utf8.acceptRanges", laid_unicode_utf8_acceptRanges), ("unicode/utf8.first", laid_unicode_utf8_first)] }
def PathUpSaid : Prop := pathUpRow.holds Tryd.pinned (OpenSpec.ofChange pathUpSpec)

/-- ITS FALSE NEIGHBOUR: 'it returns false'. Refute it at one input. -/
def pathUpWrong : ChangeSpec := { name := "pathUp", fn := fun _ => fun
  | [d1, d2, d3] => { results := [.lit (.bool false)], args := [d1, d2, d3] }
  | _ => none }
def PathUpWrongFalsely : Prop := pathUpRow.holds Tryd.pinned (OpenSpec.ofChange pathUpWrong)

/-- 'furrowlaw14.PathParents': WHATEVER THE INPUT: true; the input reads as it did. -/
def pathParentsSpec : ChangeSpec := { name := "pathParents", fn := fun _ => fun
  | [d1, d2] => { results := [.lit (.bool true)], args := [d1, d2] }
  | _ => none }
def pathParentsRow : OpenClaim := { program := "ytpombeiabgbpiaadoor", sum := "bd902cba0109a6f5652e7e4ef40f90126a1666bc2e1ab956360d2b8e0976dcd0", func := "furrow/furrowlaw14.PathParents", spec := "pathParents", inPlace := ["internal/bytealg.IndexByteString", "internal/bytealg.IndexString", "internal/abi.NoEscape"], unfollowed := true, recurses := true, named := ["unicode/utf8.first", "unicode/utf8.acceptRanges", "internal/bytealg.MaxLen"], plainKeys := false, apart := false, laid := [("unicode/utf8.acceptRanges", laid_unicode_utf8_acceptRanges), ("unicode/utf8.first", laid_unicode_utf8_first)] }
def PathParentsSaid : Prop := pathParentsRow.holds Tryd.pinned (OpenSpec.ofChange pathParentsSpec)

/-- ITS FALSE NEIGHBOUR: 'it returns false'. Refute it at one input. -/
def pathParentsWrong : ChangeSpec := { name := "pathParents", fn := fun _ => fun
  | [d1, d2] => { results := [.lit (.bool false)], args := [d1, d2] }
  | _ => none }
def PathParentsWrongFalsely : Prop := pathParentsRow.holds Tryd.pinned (OpenSpec.ofChange pathParentsWrong)

/-- 'furrowlaw14.PathTables': WHATEVER THE INPUT: true; the input reads as it did. -/
def pathTablesSpec : ChangeSpec := { name := "pathTables", fn := fun _ => fun
  | [d1, d2] => { results := [.lit (.bool true)], args := [d1, d2] }
  | _ => none }
def pathTablesRow : OpenClaim := { program := "ytpombeiabgbpiaadoor", sum := "bd902cba0109a6f5652e7e4ef40f90126a1666bc2e1ab956360d2b8e0976dcd0", func := "furrow/furrowlaw14.PathTables", spec := "pathTables", inPlace := ["internal/bytealg.IndexByteString", "internal/bytealg.IndexString", "internal/abi.NoEscape"], unfollowed := true, recurses := true, named := ["unicode/utf8.first", "unicode/utf8.acceptRanges", "internal/bytealg.MaxLen"], plainKeys := false, apart := false, laid := [("unicode/utf8.acceptRanges", laid_unicode_utf8_acceptRanges), ("unicode/utf8.first", laid_unicode_utf8_first)] }
def PathTablesSaid : Prop := pathTablesRow.holds Tryd.pinned (OpenSpec.ofChange pathTablesSpec)

/-- ITS FALSE NEIGHBOUR: 'it returns false'. Refute it at one input. -/
def pathTablesWrong : ChangeSpec := { name := "pathTables", fn := fun _ => fun
  | [d1, d2] => { results := [.lit (.bool false)], args := [d1, d2] }
  | _ => none }
def PathTablesWrongFalsely : Prop := pathTablesRow.holds Tryd.pinned (OpenSpec.ofChange pathTablesWrong)

/-- 'furrowlaw14.PathTexts': WHATEVER THE INPUT: true; the input reads as it did. -/
def pathTextsSpec : ChangeSpec := { name := "pathTexts", fn := fun _ => fun
  | [d] => { results := [.lit (.bool true)], args := [d] }
  | _ => none }
def pathTextsRow : OpenClaim := { program := "ytpombeiabgbpiaadoor", sum := "bd902cba0109a6f5652e7e4ef40f90126a1666bc2e1ab956360d2b8e0976dcd0", func := "furrow/furrowlaw14.PathTexts", spec := "pathTexts", inPlace := ["internal/bytealg.IndexByteString", "internal/bytealg.IndexString", "internal/abi.NoEscape"], unfollowed := true, recurses := true, named := ["unicode/utf8.first", "unicode/utf8.acceptRanges", "internal/bytealg.MaxLen"], plainKeys := false, apart := false, laid := [("unicode/utf8.acceptRanges", laid_unicode_utf8_acceptRanges), ("unicode/utf8.first", laid_unicode_utf8_first)] }
def PathTextsSaid : Prop := pathTextsRow.holds Tryd.pinned (OpenSpec.ofChange pathTextsSpec)

/-- ITS FALSE NEIGHBOUR: 'it returns false'. Refute it at one input. -/
def pathTextsWrong : ChangeSpec := { name := "pathTexts", fn := fun _ => fun
  | [d] => { results := [.lit (.bool false)], args := [d] }
  | _ => none }
def PathTextsWrongFalsely : Prop := pathTextsRow.holds Tryd.pinned (OpenSpec.ofChange pathTextsWrong)

/-- 'furrowlaw14.PathLeads': WHATEVER THE INPUT: true; the input reads as it did. -/
def pathLeadsSpec : ChangeSpec := { name := "pathLeads", fn := fun _ => fun
  | [d1, d2] => { results := [.lit (.bool true)], args := [d1, d2] }
  | _ => none }
def pathLeadsRow : OpenClaim := { program := "ytpombeiabgbpiaadoor", sum := "bd902cba0109a6f5652e7e4ef40f90126a1666bc2e1ab956360d2b8e0976dcd0", func := "furrow/furrowlaw14.PathLeads", spec := "pathLeads", inPlace := ["internal/bytealg.IndexByteString", "internal/bytealg.IndexString", "internal/abi.NoEscape"], unfollowed := true, recurses := true, named := ["unicode/utf8.first", "unicode/utf8.acceptRanges", "internal/bytealg.MaxLen"], plainKeys := false, apart := false, laid := [("unicode/utf8.acceptRanges", laid_unicode_utf8_acceptRanges), ("unicode/utf8.first", laid_unicode_utf8_first)] }
def PathLeadsSaid : Prop := pathLeadsRow.holds Tryd.pinned (OpenSpec.ofChange pathLeadsSpec)

/-- ITS FALSE NEIGHBOUR: 'it returns false'. Refute it at one input. -/
def pathLeadsWrong : ChangeSpec := { name := "pathLeads", fn := fun _ => fun
  | [d1, d2] => { results := [.lit (.bool false)], args := [d1, d2] }
  | _ => none }
def PathLeadsWrongFalsely : Prop := pathLeadsRow.holds Tryd.pinned (OpenSpec.ofChange pathLeadsWrong)

/-- 'furrowlaw14.PathAll': WHATEVER THE INPUT: true; the input reads as it did. -/
def pathAllSpec : ChangeSpec := { name := "pathAll", fn := fun _ => fun
  | [d1, d2] => { results := [.lit (.bool true)], args := [d1, d2] }
  | _ => none }
def pathAllRow : OpenClaim := { program := "ytpombeiabgbpiaadoor", sum := "bd902cba0109a6f5652e7e4ef40f90126a1666bc2e1ab956360d2b8e0976dcd0", func := "furrow/furrowlaw14.PathAll", spec := "pathAll", inPlace := ["internal/bytealg.IndexByteString", "internal/bytealg.IndexString", "internal/abi.NoEscape"], unfollowed := true, recurses := true, named := ["unicode/utf8.first", "unicode/utf8.acceptRanges", "internal/bytealg.MaxLen"], plainKeys := false, apart := false, laid := [("unicode/utf8.acceptRanges", laid_unicode_utf8_acceptRanges), ("unicode/utf8.first", laid_unicode_utf8_first)] }
def PathAllSaid : Prop := pathAllRow.holds Tryd.pinned (OpenSpec.ofChange pathAllSpec)

/-- ITS FALSE NEIGHBOUR: 'it returns false'. Refute it at one input. -/
def pathAllWrong : ChangeSpec := { name := "pathAll", fn := fun _ => fun
  | [d1, d2] => { results := [.lit (.bool false)], args := [d1, d2] }
  | _ => none }
def PathAllWrongFalsely : Prop := pathAllRow.holds Tryd.pinned (OpenSpec.ofChange pathAllWrong)

/-- 'furrowlaw14.PathCleans': WHATEVER THE INPUT: true; the input reads as it did. -/
def pathCleansSpec : ChangeSpec := { name := "pathCleans", fn := fun _ => fun
  | [d1, d2] => { results := [.lit (.bool true)], args := [d1, d2] }
  | _ => none }
def pathCleansRow : OpenClaim := { program := "ytpombeiabgbpiaadoor", sum := "bd902cba0109a6f5652e7e4ef40f90126a1666bc2e1ab956360d2b8e0976dcd0", func := "furrow/furrowlaw14.PathCleans", spec := "pathCleans", inPlace := ["internal/bytealg.IndexByteString", "internal/bytealg.IndexString", "internal/abi.NoEscape"], unfollowed := true, recurses := true, named := ["unicode/utf8.first", "unicode/utf8.acceptRanges", "internal/bytealg.MaxLen"], plainKeys := false, apart := false, laid := [("unicode/utf8.acceptRanges", laid_unicode_utf8_acceptRanges), ("unicode/utf8.first", laid_unicode_utf8_first)] }
def PathCleansSaid : Prop := pathCleansRow.holds Tryd.pinned (OpenSpec.ofChange pathCleansSpec)

/-- ITS FALSE NEIGHBOUR: 'it returns false'. Refute it at one input. -/
def pathCleansWrong : ChangeSpec := { name := "pathCleans", fn := fun _ => fun
  | [d1, d2] => { results := [.lit (.bool false)], args := [d1, d2] }
  | _ => none }
def PathCleansWrongFalsely : Prop := pathCleansRow.holds Tryd.pinned (OpenSpec.ofChange pathCleansWrong)

/-- 'furrowlaw14.PathFresh': WHATEVER THE INPUT: true; the input reads as it did. -/
def pathFreshSpec : ChangeSpec := { name := "pathFresh", fn := fun _ => fun
  | [d1, d2] => { results := [.lit (.bool true)], args := [d1, d2] }
  | _ => none }
def pathFreshRow : OpenClaim := { program := "ytpombeiabgbpiaadoor", sum := "bd902cba0109a6f5652e7e4ef40f90126a1666bc2e1ab956360d2b8e0976dcd0", func := "furrow/furrowlaw14.PathFresh", spec := "pathFresh", inPlace := ["internal/bytealg.IndexByteString", "internal/bytealg.IndexString", "internal/abi.NoEscape"], unfollowed := true, recurses := true, named := ["unicode/utf8.first", "unicode/utf8.acceptRanges", "internal/bytealg.MaxLen"], plainKeys := false, apart := false, laid := [("unicode/utf8.acceptRanges", laid_unicode_utf8_acceptRanges), ("unicode/utf8.first", laid_unicode_utf8_first)] }
def PathFreshSaid : Prop := pathFreshRow.holds Tryd.pinned (OpenSpec.ofChange pathFreshSpec)

/-- ITS FALSE NEIGHBOUR: 'it returns false'. Refute it at one input. -/
def pathFreshWrong : ChangeSpec := { name := "pathFresh", fn := fun _ => fun
  | [d1, d2] => { results := [.lit (.bool false)], args := [d1, d2] }
  | _ => none }
def PathFreshWrongFalsely : Prop := pathFreshRow.holds Tryd.pinned (OpenSpec.ofChange pathFreshWrong)

/-- 'furrowlaw14.PathLent': WHATEVER THE INPUT: true; the input reads as it did. -/
def pathLentSpec : ChangeSpec := { name := "pathLent", fn := fun _ => fun
  | [d1, d2] => { results := [.lit (.bool true)], args := [d1, d2] }
  | _ => none }
def pathLentRow : OpenClaim := { program := "ytpombeiabgbpiaadoor", sum := "bd902cba0109a6f5652e7e4ef40f90126a1666bc2e1ab956360d2b8e0976dcd0", func := "furrow/furrowlaw14.PathLent", spec := "pathLent", inPlace := ["internal/bytealg.IndexByteString", "internal/bytealg.IndexString", "internal/abi.NoEscape"], unfollowed := true, recurses := true, named := ["unicode/utf8.first", "unicode/utf8.acceptRanges", "internal/bytealg.MaxLen"], plainKeys := false, apart := false, laid := [("unicode/utf8.acceptRanges", laid_unicode_utf8_acceptRanges), ("unicode/utf8.first", laid_unicode_utf8_first)] }
def PathLentSaid : Prop := pathLentRow.holds Tryd.pinned (OpenSpec.ofChange pathLentSpec)

/-- ITS FALSE NEIGHBOUR: 'it returns false'. Refute it at one input. -/
def pathLentWrong : ChangeSpec := { name := "pathLent", fn := fun _ => fun
  | [d1, d2] => { results := [.lit (.bool false)], args := [d1, d2] }
  | _ => none }
def PathLentWrongFalsely : Prop := pathLentRow.holds Tryd.pinned (OpenSpec.ofChange pathLentWrong)

/- THE SECOND FORM. 'bulk': how many values and letters a reading holds, each counted each time it is reached (what is shared counts as often as it is met; a slice's spare places count too). A statement '..UptoSaid' is the law's where the arguments, and the package variables that the reading takes, are together of bulk at most 1048576: NARROWER than '..Said'. Prove '..Said' where nothing that the law and all that it calls make is longer than what came in: it says more and counts as full. Else prove '..UptoSaid'. A law counts once. -/
mutual
def uptoBulk {H : Type} : DataW H → Nat
  | .lit (.string bytes) => bytes.length + 1
  | .lit _ => 1
  | .nil => 1
  | .ptr d => uptoBulk d + 1
  | .slice elems spare => uptoBulkAll elems + uptoBulkAll spare + 1
  | .agg parts => uptoBulkAll parts + 1
  | .iface _ d => uptoBulk d + 1
  | .map entries => uptoBulkEntries entries + 1
  | .held _ => 1
def uptoBulkAll {H : Type} : List (DataW H) → Nat
  | [] => 0
  | d :: r => uptoBulk d + uptoBulkAll r
def uptoBulkEntries {H : Type} : List (Lit × DataW H) → Nat
  | [] => 0
  | x :: r => uptoBulkEntry x + uptoBulkEntries r
def uptoBulkEntry {H : Type} : Lit × DataW H → Nat
  | (.string bytes, d) => bytes.length + uptoBulk d + 1
  | (_, d) => uptoBulk d + 1
 end
def uptoSmall : (H : Type) → List (DataW H) → Bool := fun _ ds => decide (uptoBulkAll ds ≤ 1048576)
def OpenSpec.upto (s : _root_.Go.ChangeSpec) : _root_.Go.OpenSpec := { _root_.Go.OpenSpec.ofChange s with cond := some uptoSmall }

/-- 'furrowlaw14.PathNames', WHERE WHAT IT READS IS OF BULK AT MOST 1048576: true; the input reads as it did. -/
def pathNamesUptoRow : OpenClaim := { program := "ytpombeiabgbpiaadoor", sum := "bd902cba0109a6f5652e7e4ef40f90126a1666bc2e1ab956360d2b8e0976dcd0", func := "furrow/furrowlaw14.PathNames", spec := "pathNames", inPlace := ["internal/bytealg.IndexByteString", "internal/bytealg.IndexString", "internal/abi.NoEscape"], unfollowed := true, recurses := true, named := ["unicode/utf8.first", "unicode/utf8.acceptRanges", "internal/bytealg.MaxLen"], plainKeys := false, apart := false, laid := [("unicode/utf8.acceptRanges", laid_unicode_utf8_acceptRanges), ("unicode/utf8.first", laid_unicode_utf8_first)], narrowed := true }
def PathNamesUptoSaid : Prop := pathNamesUptoRow.holds Tryd.pinned (OpenSpec.upto pathNamesSpec)

/-- 'furrowlaw14.PathCuts', WHERE WHAT IT READS IS OF BULK AT MOST 1048576: true; the input reads as it did. -/
def pathCutsUptoRow : OpenClaim := { program := "ytpombeiabgbpiaadoor", sum := "bd902cba0109a6f5652e7e4ef40f90126a1666bc2e1ab956360d2b8e0976dcd0", func := "furrow/furrowlaw14.PathCuts", spec := "pathCuts", inPlace := ["internal/bytealg.IndexByteString", "internal/bytealg.IndexString", "internal/abi.NoEscape"], unfollowed := true, recurses := true, named := ["unicode/utf8.first", "unicode/utf8.acceptRanges", "internal/bytealg.MaxLen"], plainKeys := false, apart := false, laid := [("unicode/utf8.acceptRanges", laid_unicode_utf8_acceptRanges), ("unicode/utf8.first", laid_unicode_utf8_first)], narrowed := true }
def PathCutsUptoSaid : Prop := pathCutsUptoRow.holds Tryd.pinned (OpenSpec.upto pathCutsSpec)

/-- 'furrowlaw14.PathBack', WHERE WHAT IT READS IS OF BULK AT MOST 1048576: true; the input reads as it did. -/
def pathBackUptoRow : OpenClaim := { program := "ytpombeiabgbpiaadoor", sum := "bd902cba0109a6f5652e7e4ef40f90126a1666bc2e1ab956360d2b8e0976dcd0", func := "furrow/furrowlaw14.PathBack", spec := "pathBack", inPlace := ["internal/bytealg.IndexByteString", "internal/bytealg.IndexString", "internal/abi.NoEscape"], unfollowed := true, recurses := true, named := ["unicode/utf8.first", "unicode/utf8.acceptRanges", "internal/bytealg.MaxLen"], plainKeys := false, apart := false, laid := [("unicode/utf8.acceptRanges", laid_unicode_utf8_acceptRanges), ("unicode/utf8.first", laid_unicode_utf8_first)], narrowed := true }
def PathBackUptoSaid : Prop := pathBackUptoRow.holds Tryd.pinned (OpenSpec.upto pathBackSpec)

/-- 'furrowlaw14.PathSteps', WHERE WHAT IT READS IS OF BULK AT MOST 1048576: true; the input reads as it did. -/
def pathStepsUptoRow : OpenClaim := { program := "ytpombeiabgbpiaadoor", sum := "bd902cba0109a6f5652e7e4ef40f90126a1666bc2e1ab956360d2b8e0976dcd0", func := "furrow/furrowlaw14.PathSteps", spec := "pathSteps", inPlace := ["internal/bytealg.IndexByteString", "internal/bytealg.IndexString", "internal/abi.NoEscape"], unfollowed := true, recurses := true, named := ["unicode/utf8.first", "unicode/utf8.acceptRanges", "internal/bytealg.MaxLen"], plainKeys := false, apart := false, laid := [("unicode/utf8.acceptRanges", laid_unicode_utf8_acceptRanges), ("unicode/utf8.first", laid_unicode_utf8_first)], narrowed := true }
def PathStepsUptoSaid : Prop := pathStepsUptoRow.holds Tryd.pinned (OpenSpec.upto pathStepsSpec)

/-- 'furrowlaw14.PathUp', WHERE WHAT IT READS IS OF BULK AT MOST 1048576: true; the input reads as it did. -/
def pathUpUptoRow : OpenClaim := { program := "ytpombeiabgbpiaadoor", sum := "bd902cba0109a6f5652e7e4ef40f90126a1666bc2e1ab956360d2b8e0976dcd0", func := "furrow/furrowlaw14.PathUp", spec := "pathUp", inPlace := ["internal/bytealg.IndexByteString", "internal/bytealg.IndexString", "internal/abi.NoEscape"], unfollowed := true, recurses := true, named := ["unicode/utf8.first", "unicode/utf8.acceptRanges", "internal/bytealg.MaxLen"], plainKeys := false, apart := false, laid := [("unicode/utf8.acceptRanges", laid_unicode_utf8_acceptRanges), ("unicode/utf8.first", laid_unicode_utf8_first)], narrowed := true }
def PathUpUptoSaid : Prop := pathUpUptoRow.holds Tryd.pinned (OpenSpec.upto pathUpSpec)

/-- 'furrowlaw14.PathParents', WHERE WHAT IT READS IS OF BULK AT MOST 1048576: true; the input reads as it did. -/
def pathParentsUptoRow : OpenClaim := { program := "ytpombeiabgbpiaadoor", sum := "bd902cba0109a6f5652e7e4ef40f90126a1666bc2e1ab956360d2b8e0976dcd0", func := "furrow/furrowlaw14.PathParents", spec := "pathParents", inPlace := ["internal/bytealg.IndexByteString", "internal/bytealg.IndexString", "internal/abi.NoEscape"], unfollowed := true, recurses := true, named := ["unicode/utf8.first", "unicode/utf8.acceptRanges", "internal/bytealg.MaxLen"], plainKeys := false, apart := false, laid := [("unicode/utf8.acceptRanges", laid_unicode_utf8_acceptRanges), ("unicode/utf8.first", laid_unicode_utf8_first)], narrowed := true }
def PathParentsUptoSaid : Prop := pathParentsUptoRow.holds Tryd.pinned (OpenSpec.upto pathParentsSpec)

/-- 'furrowlaw14.PathTables', WHERE WHAT IT READS IS OF BULK AT MOST 1048576: true; the input reads as it did. -/
def pathTablesUptoRow : OpenClaim := { program := "ytpombeiabgbpiaadoor", sum := "bd902cba0109a6f5652e7e4ef40f90126a1666bc2e1ab956360d2b8e0976dcd0", func := "furrow/furrowlaw14.PathTables", spec := "pathTables", inPlace := ["internal/bytealg.IndexByteString", "internal/bytealg.IndexString", "internal/abi.NoEscape"], unfollowed := true, recurses := true, named := ["unicode/utf8.first", "unicode/utf8.acceptRanges", "internal/bytealg.MaxLen"], plainKeys := false, apart := false, laid := [("unicode/utf8.acceptRanges", laid_unicode_utf8_acceptRanges), ("unicode/utf8.first", laid_unicode_utf8_first)], narrowed := true }
def PathTablesUptoSaid : Prop := pathTablesUptoRow.holds Tryd.pinned (OpenSpec.upto pathTablesSpec)

/-- 'furrowlaw14.PathTexts', WHERE WHAT IT READS IS OF BULK AT MOST 1048576: true; the input reads as it did. -/
def pathTextsUptoRow : OpenClaim := { program := "ytpombeiabgbpiaadoor", sum := "bd902cba0109a6f5652e7e4ef40f90126a1666bc2e1ab956360d2b8e0976dcd0", func := "furrow/furrowlaw14.PathTexts", spec := "pathTexts", inPlace := ["internal/bytealg.IndexByteString", "internal/bytealg.IndexString", "internal/abi.NoEscape"], unfollowed := true, recurses := true, named := ["unicode/utf8.first", "unicode/utf8.acceptRanges", "internal/bytealg.MaxLen"], plainKeys := false, apart := false, laid := [("unicode/utf8.acceptRanges", laid_unicode_utf8_acceptRanges), ("unicode/utf8.first", laid_unicode_utf8_first)], narrowed := true }
def PathTextsUptoSaid : Prop := pathTextsUptoRow.holds Tryd.pinned (OpenSpec.upto pathTextsSpec)

/-- 'furrowlaw14.PathLeads', WHERE WHAT IT READS IS OF BULK AT MOST 1048576: true; the input reads as it did. -/
def pathLeadsUptoRow : OpenClaim := { program := "ytpombeiabgbpiaadoor", sum := "bd902cba0109a6f5652e7e4ef40f90126a1666bc2e1ab956360d2b8e0976dcd0", func := "furrow/furrowlaw14.PathLeads", spec := "pathLeads", inPlace := ["internal/bytealg.IndexByteString", "internal/bytealg.IndexString", "internal/abi.NoEscape"], unfollowed := true, recurses := true, named := ["unicode/utf8.first", "unicode/utf8.acceptRanges", "internal/bytealg.MaxLen"], plainKeys := false, apart := false, laid := [("unicode/utf8.acceptRanges", laid_unicode_utf8_acceptRanges), ("unicode/utf8.first", laid_unicode_utf8_first)], narrowed := true }
def PathLeadsUptoSaid : Prop := pathLeadsUptoRow.holds Tryd.pinned (OpenSpec.upto pathLeadsSpec)

/-- 'furrowlaw14.PathAll', WHERE WHAT IT READS IS OF BULK AT MOST 1048576: true; the input reads as it did. -/
def pathAllUptoRow : OpenClaim := { program := "ytpombeiabgbpiaadoor", sum := "bd902cba0109a6f5652e7e4ef40f90126a1666bc2e1ab956360d2b8e0976dcd0", func := "furrow/furrowlaw14.PathAll", spec := "pathAll", inPlace := ["internal/bytealg.IndexByteString", "internal/bytealg.IndexString", "internal/abi.NoEscape"], unfollowed := true, recurses := true, named := ["unicode/utf8.first", "unicode/utf8.acceptRanges", "internal/bytealg.MaxLen"], plainKeys := false, apart := false, laid := [("unicode/utf8.acceptRanges", laid_unicode_utf8_acceptRanges), ("unicode/utf8.first", laid_unicode_utf8_first)], narrowed := true }
def PathAllUptoSaid : Prop := pathAllUptoRow.holds Tryd.pinned (OpenSpec.upto pathAllSpec)

/-- 'furrowlaw14.PathCleans', WHERE WHAT IT READS IS OF BULK AT MOST 1048576: true; the input reads as it did. -/
def pathCleansUptoRow : OpenClaim := { program := "ytpombeiabgbpiaadoor", sum := "bd902cba0109a6f5652e7e4ef40f90126a1666bc2e1ab956360d2b8e0976dcd0", func := "furrow/furrowlaw14.PathCleans", spec := "pathCleans", inPlace := ["internal/bytealg.IndexByteString", "internal/bytealg.IndexString", "internal/abi.NoEscape"], unfollowed := true, recurses := true, named := ["unicode/utf8.first", "unicode/utf8.acceptRanges", "internal/bytealg.MaxLen"], plainKeys := false, apart := false, laid := [("unicode/utf8.acceptRanges", laid_unicode_utf8_acceptRanges), ("unicode/utf8.first", laid_unicode_utf8_first)], narrowed := true }
def PathCleansUptoSaid : Prop := pathCleansUptoRow.holds Tryd.pinned (OpenSpec.upto pathCleansSpec)

/-- 'furrowlaw14.PathFresh', WHERE WHAT IT READS IS OF BULK AT MOST 1048576: true; the input reads as it did. -/
def pathFreshUptoRow : OpenClaim := { program := "ytpombeiabgbpiaadoor", sum := "bd902cba0109a6f5652e7e4ef40f90126a1666bc2e1ab956360d2b8e0976dcd0", func := "furrow/furrowlaw14.PathFresh", spec := "pathFresh", inPlace := ["internal/bytealg.IndexByteString", "internal/bytealg.IndexString", "internal/abi.NoEscape"], unfollowed := true, recurses := true, named := ["unicode/utf8.first", "unicode/utf8.acceptRanges", "internal/bytealg.MaxLen"], plainKeys := false, apart := false, laid := [("unicode/utf8.acceptRanges", laid_unicode_utf8_acceptRanges), ("unicode/utf8.first", laid_unicode_utf8_first)], narrowed := true }
def PathFreshUptoSaid : Prop := pathFreshUptoRow.holds Tryd.pinned (OpenSpec.upto pathFreshSpec)

/-- 'furrowlaw14.PathLent', WHERE WHAT IT READS IS OF BULK AT MOST 1048576: true; the input reads as it did. -/
def pathLentUptoRow : OpenClaim := { program := "ytpombeiabgbpiaadoor", sum := "bd902cba0109a6f5652e7e4ef40f90126a1666bc2e1ab956360d2b8e0976dcd0", func := "furrow/furrowlaw14.PathLent", spec := "pathLent", inPlace := ["internal/bytealg.IndexByteString", "internal/bytealg.IndexString", "internal/abi.NoEscape"], unfollowed := true, recurses := true, named := ["unicode/utf8.first", "unicode/utf8.acceptRanges", "internal/bytealg.MaxLen"], plainKeys := false, apart := false, laid := [("unicode/utf8.acceptRanges", laid_unicode_utf8_acceptRanges), ("unicode/utf8.first", laid_unicode_utf8_first)], narrowed := true }
def PathLentUptoSaid : Prop := pathLentUptoRow.holds Tryd.pinned (OpenSpec.upto pathLentSpec)

end Rows
end Go.Proofs.YtpombeiabgbpiaaDoor
