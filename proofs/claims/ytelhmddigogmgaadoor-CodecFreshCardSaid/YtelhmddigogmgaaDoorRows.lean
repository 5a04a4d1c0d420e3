/-
  NARROWER THAN 'FOR EVERY INPUT', by the rows' own cells (each row's printed sentence says how): CodecNames: laid · CodecGoesOn: laid · CodecLinear: laid · CodecTells: laid · CodecClosed: laid · CodecSpoilt: laid · CodecSealed: laid · CodecTorn: laid · CodecOnly: laid · CodecEnds: laid · CodecFresh: laid · CodecBack: laid · CodecLent: laid · CodecSums: laid · CodecNumbers: laid · CodecLines: laid · CodecSeals: laid · CodecAll: laid.
  DERIVED. THE GIVEN ROWS OF THIS SEAT. 18 by the template 'for every input the law returns true; each argument reads behind the call as it read before'; 0 by the template 'total and deterministic' (their statements: YtelhmddigogmgaaDoorTotals.lean).
  GIVEN WITH THE SEED: the statements are not yours to turn. If you find one false, say at which input.
  Laid BY PROGRAM, IN A SANDBOX (cutbox-rows.mjs): the forced cells as the released guide's own fill.sh prints them over the translation cd42568ff1383c9e… (all of the seat's roots in one cut). By AI agents, Wed Nov 11 2026. No macro, syntax, notation, axiom, sorry.
-/
import Derived.Test.YtelhmddigogmgaaDoorChecked
import GoSem.Claim
import GoSem.ClaimJoined
import GoSem.ClaimMapViews
import Derived.JoinedTies
import Derived.KernelRfl
namespace Go.Proofs.YtelhmddigogmgaaDoor
/- THE CELL 'sum', in the pinned program and in every row, IS THE sha256 OF THE DUMP (.gsa) THAT YtelhmddigogmgaaDoorProg.lean LOADS. Nothing in Lean hashes anything: it is a label: what it is worth is what the hold of that sum in a sandbox is worth. -/
noncomputable def Tryd.pinned : Pinned := { name := "ytelhmddigogmgaadoor", sum := "cd42568ff1383c9e1f40a523bd30d56fe0656d2b101ed33db78251a1e912e29a", checked := Tryd.checked }
namespace Rows
def none {H : Type} : Left H := { results := [], args := [] }

/- WHAT THE LISTED PACKAGE-LEVEL VARIABLES READ AS WHEN THE CALL BEGINS. Each datum BY PROGRAM (the guide's laid-datum.mjs) off the statement by which the dump's own 'gosem.cut.vars' lays the variable. In a bare row this is a premise. The card (YtelhmddigogmgaaDoorCards.lean) ties it to the program's text. -/
def laid_furrow_codec_steps {H : Type} : DataW H := .agg [.lit (.int .u32 0), .lit (.int .u32 498536548), .lit (.int .u32 997073096), .lit (.int .u32 651767980), .lit (.int .u32 1994146192), .lit (.int .u32 1802195444), .lit (.int .u32 1303535960), .lit (.int .u32 1342533948), .lit (.int .u32 3988292384), .lit (.int .u32 4027552580), .lit (.int .u32 3604390888), .lit (.int .u32 3412177804), .lit (.int .u32 2607071920), .lit (.int .u32 2262029012), .lit (.int .u32 2685067896), .lit (.int .u32 3183342108)]

/-- 'furrowlaw02.CodecNames': WHATEVER THE INPUT: true; the input reads as it did. -/
def codecNamesSpec : ChangeSpec := { name := "codecNames", fn := fun _ => fun
  | [] => { results := [.lit (.bool true)], args := [] }
  | _ => none }
def codecNamesRow : OpenClaim := { program := "ytelhmddigogmgaadoor", sum := "cd42568ff1383c9e1f40a523bd30d56fe0656d2b101ed33db78251a1e912e29a", func := "furrow/furrowlaw02.CodecNames", spec := "codecNames", named := ["furrow/codec.steps"], apart := false, laid := [("furrow/codec.steps", laid_furrow_codec_steps)] }
def CodecNamesSaid : Prop := codecNamesRow.holds Tryd.pinned (OpenSpec.ofChange codecNamesSpec)

/-- ITS FALSE NEIGHBOUR: 'it returns false'. Refute it at one input. -/
def codecNamesWrong : ChangeSpec := { name := "codecNames", fn := fun _ => fun
  | [] => { results := [.lit (.bool false)], args := [] }
  | _ => none }
def CodecNamesWrongFalsely : Prop := codecNamesRow.holds Tryd.pinned (OpenSpec.ofChange codecNamesWrong)

/-- 'furrowlaw02.CodecGoesOn': WHATEVER THE INPUT: true; the input reads as it did. -/
def codecGoesOnSpec : ChangeSpec := { name := "codecGoesOn", fn := fun _ => fun
  | [d1, d2] => { results := [.lit (.bool true)], args := [d1, d2] }
  | _ => none }
def codecGoesOnRow : OpenClaim := { program := "ytelhmddigogmgaadoor", sum := "cd42568ff1383c9e1f40a523bd30d56fe0656d2b101ed33db78251a1e912e29a", func := "furrow/furrowlaw02.CodecGoesOn", spec := "codecGoesOn", named := ["furrow/codec.steps"], apart := false, laid := [("furrow/codec.steps", laid_furrow_codec_steps)] }
def CodecGoesOnSaid : Prop := codecGoesOnRow.holds Tryd.pinned (OpenSpec.ofChange codecGoesOnSpec)

/-- ITS FALSE NEIGHBOUR: 'it returns false'. Refute it at one input. -/
def codecGoesOnWrong : ChangeSpec := { name := "codecGoesOn", fn := fun _ => fun
  | [d1, d2] => { results := [.lit (.bool false)], args := [d1, d2] }
  | _ => none }
def CodecGoesOnWrongFalsely : Prop := codecGoesOnRow.holds Tryd.pinned (OpenSpec.ofChange codecGoesOnWrong)

/-- 'furrowlaw02.CodecLinear': WHATEVER THE INPUT: true; the input reads as it did. -/
def codecLinearSpec : ChangeSpec := { name := "codecLinear", fn := fun _ => fun
  | [d1, d2, d3] => { results := [.lit (.bool true)], args := [d1, d2, d3] }
  | _ => none }
def codecLinearRow : OpenClaim := { program := "ytelhmddigogmgaadoor", sum := "cd42568ff1383c9e1f40a523bd30d56fe0656d2b101ed33db78251a1e912e29a", func := "furrow/furrowlaw02.CodecLinear", spec := "codecLinear", named := ["furrow/codec.steps"], apart := false, laid := [("furrow/codec.steps", laid_furrow_codec_steps)] }
def CodecLinearSaid : Prop := codecLinearRow.holds Tryd.pinned (OpenSpec.ofChange codecLinearSpec)

/-- ITS FALSE NEIGHBOUR: 'it returns false'. Refute it at one input. -/
def codecLinearWrong : ChangeSpec := { name := "codecLinear", fn := fun _ => fun
  | [d1, d2, d3] => { results := [.lit (.bool false)], args := [d1, d2, d3] }
  | _ => none }
def CodecLinearWrongFalsely : Prop := codecLinearRow.holds Tryd.pinned (OpenSpec.ofChange codecLinearWrong)

/-- 'furrowlaw02.CodecTells': WHATEVER THE INPUT: true; the input reads as it did. -/
def codecTellsSpec : ChangeSpec := { name := "codecTells", fn := fun _ => fun
  | [d1, d2, d3] => { results := [.lit (.bool true)], args := [d1, d2, d3] }
  | _ => none }
def codecTellsRow : OpenClaim := { program := "ytelhmddigogmgaadoor", sum := "cd42568ff1383c9e1f40a523bd30d56fe0656d2b101ed33db78251a1e912e29a", func := "furrow/furrowlaw02.CodecTells", spec := "codecTells", named := ["furrow/codec.steps"], apart := false, laid := [("furrow/codec.steps", laid_furrow_codec_steps)] }
def CodecTellsSaid : Prop := codecTellsRow.holds Tryd.pinned (OpenSpec.ofChange codecTellsSpec)

/-- ITS FALSE NEIGHBOUR: 'it returns false'. Refute it at one input. -/
def codecTellsWrong : ChangeSpec := { name := "codecTells", fn := fun _ => fun
  | [d1, d2, d3] => { results := [.lit (.bool false)], args := [d1, d2, d3] }
  | _ => none }
def CodecTellsWrongFalsely : Prop := codecTellsRow.holds Tryd.pinned (OpenSpec.ofChange codecTellsWrong)

/-- 'furrowlaw02.CodecClosed': WHATEVER THE INPUT: true; the input reads as it did. -/
def codecClosedSpec : ChangeSpec := { name := "codecClosed", fn := fun _ => fun
  | [d] => { results := [.lit (.bool true)], args := [d] }
  | _ => none }
def codecClosedRow : OpenClaim := { program := "ytelhmddigogmgaadoor", sum := "cd42568ff1383c9e1f40a523bd30d56fe0656d2b101ed33db78251a1e912e29a", func := "furrow/furrowlaw02.CodecClosed", spec := "codecClosed", named := ["furrow/codec.steps"], apart := false, laid := [("furrow/codec.steps", laid_furrow_codec_steps)] }
def CodecClosedSaid : Prop := codecClosedRow.holds Tryd.pinned (OpenSpec.ofChange codecClosedSpec)

/-- ITS FALSE NEIGHBOUR: 'it returns false'. Refute it at one input. -/
def codecClosedWrong : ChangeSpec := { name := "codecClosed", fn := fun _ => fun
  | [d] => { results := [.lit (.bool false)], args := [d] }
  | _ => none }
def CodecClosedWrongFalsely : Prop := codecClosedRow.holds Tryd.pinned (OpenSpec.ofChange codecClosedWrong)

/-- 'furrowlaw02.CodecSpoilt': WHATEVER THE INPUT: true; the input reads as it did. -/
def codecSpoiltSpec : ChangeSpec := { name := "codecSpoilt", fn := fun _ => fun
  | [d1, d2, d3] => { results := [.lit (.bool true)], args := [d1, d2, d3] }
  | _ => none }
def codecSpoiltRow : OpenClaim := { program := "ytelhmddigogmgaadoor", sum := "cd42568ff1383c9e1f40a523bd30d56fe0656d2b101ed33db78251a1e912e29a", func := "furrow/furrowlaw02.CodecSpoilt", spec := "codecSpoilt", named := ["furrow/codec.steps"], apart := false, laid := [("furrow/codec.steps", laid_furrow_codec_steps)] }
def CodecSpoiltSaid : Prop := codecSpoiltRow.holds Tryd.pinned (OpenSpec.ofChange codecSpoiltSpec)

/-- ITS FALSE NEIGHBOUR: 'it returns false'. Refute it at one input. -/
def codecSpoiltWrong : ChangeSpec := { name := "codecSpoilt", fn := fun _ => fun
  | [d1, d2, d3] => { results := [.lit (.bool false)], args := [d1, d2, d3] }
  | _ => none }
def CodecSpoiltWrongFalsely : Prop := codecSpoiltRow.holds Tryd.pinned (OpenSpec.ofChange codecSpoiltWrong)

/-- 'furrowlaw02.CodecSealed': WHATEVER THE INPUT: true; the input reads as it did. -/
def codecSealedSpec : ChangeSpec := { name := "codecSealed", fn := fun _ => fun
  | [d1, d2, d3] => { results := [.lit (.bool true)], args := [d1, d2, d3] }
  | _ => none }
def codecSealedRow : OpenClaim := { program := "ytelhmddigogmgaadoor", sum := "cd42568ff1383c9e1f40a523bd30d56fe0656d2b101ed33db78251a1e912e29a", func := "furrow/furrowlaw02.CodecSealed", spec := "codecSealed", named := ["furrow/codec.steps"], apart := false, laid := [("furrow/codec.steps", laid_furrow_codec_steps)] }
def CodecSealedSaid : Prop := codecSealedRow.holds Tryd.pinned (OpenSpec.ofChange codecSealedSpec)

/-- ITS FALSE NEIGHBOUR: 'it returns false'. Refute it at one input. -/
def codecSealedWrong : ChangeSpec := { name := "codecSealed", fn := fun _ => fun
  | [d1, d2, d3] => { results := [.lit (.bool false)], args := [d1, d2, d3] }
  | _ => none }
def CodecSealedWrongFalsely : Prop := codecSealedRow.holds Tryd.pinned (OpenSpec.ofChange codecSealedWrong)

/-- 'furrowlaw02.CodecTorn': WHATEVER THE INPUT: true; the input reads as it did. -/
def codecTornSpec : ChangeSpec := { name := "codecTorn", fn := fun _ => fun
  | [d1, d2, d3] => { results := [.lit (.bool true)], args := [d1, d2, d3] }
  | _ => none }
def codecTornRow : OpenClaim := { program := "ytelhmddigogmgaadoor", sum := "cd42568ff1383c9e1f40a523bd30d56fe0656d2b101ed33db78251a1e912e29a", func := "furrow/furrowlaw02.CodecTorn", spec := "codecTorn", named := ["furrow/codec.steps"], apart := false, laid := [("furrow/codec.steps", laid_furrow_codec_steps)] }
def CodecTornSaid : Prop := codecTornRow.holds Tryd.pinned (OpenSpec.ofChange codecTornSpec)

/-- ITS FALSE NEIGHBOUR: 'it returns false'. Refute it at one input. -/
def codecTornWrong : ChangeSpec := { name := "codecTorn", fn := fun _ => fun
  | [d1, d2, d3] => { results := [.lit (.bool false)], args := [d1, d2, d3] }
  | _ => none }
def CodecTornWrongFalsely : Prop := codecTornRow.holds Tryd.pinned (OpenSpec.ofChange codecTornWrong)

/-- 'furrowlaw02.CodecOnly': WHATEVER THE INPUT: true; the input reads as it did. -/
def codecOnlySpec : ChangeSpec := { name := "codecOnly", fn := fun _ => fun
  | [d1, d2, d3] => { results := [.lit (.bool true)], args := [d1, d2, d3] }
  | _ => none }
def codecOnlyRow : OpenClaim := { program := "ytelhmddigogmgaadoor", sum := "cd42568ff1383c9e1f40a523bd30d56fe0656d2b101ed33db78251a1e912e29a", func := "furrow/furrowlaw02.CodecOnly", spec := "codecOnly", named := ["furrow/codec.steps"], apart := false, laid := [("furrow/codec.steps", laid_furrow_codec_steps)] }
def CodecOnlySaid : Prop := codecOnlyRow.holds Tryd.pinned (OpenSpec.ofChange codecOnlySpec)

/-- ITS FALSE NEIGHBOUR: 'it returns false'. Refute it at one input. -/
def codecOnlyWrong : ChangeSpec := { name := "codecOnly", fn := fun _ => fun
  | [d1, d2, d3] => { results := [.lit (.bool false)], args := [d1, d2, d3] }
  | _ => none }
def CodecOnlyWrongFalsely : Prop := codecOnlyRow.holds Tryd.pinned (OpenSpec.ofChange codecOnlyWrong)

/-- 'furrowlaw02.CodecEnds': WHATEVER THE INPUT: true; the input reads as it did. -/
def codecEndsSpec : ChangeSpec := { name := "codecEnds", fn := fun _ => fun
  | [d1, d2] => { results := [.lit (.bool true)], args := [d1, d2] }
  | _ => none }
def codecEndsRow : OpenClaim := { program := "ytelhmddigogmgaadoor", sum := "cd42568ff1383c9e1f40a523bd30d56fe0656d2b101ed33db78251a1e912e29a", func := "furrow/furrowlaw02.CodecEnds", spec := "codecEnds", named := ["furrow/codec.steps"], apart := false, laid := [("furrow/codec.steps", laid_furrow_codec_steps)] }
def CodecEndsSaid : Prop := codecEndsRow.holds Tryd.pinned (OpenSpec.ofChange codecEndsSpec)

/-- ITS FALSE NEIGHBOUR: 'it returns false'. Refute it at one input. -/
def codecEndsWrong : ChangeSpec := { name := "codecEnds", fn := fun _ => fun
  | [d1, d2] => { results := [.lit (.bool false)], args := [d1, d2] }
  | _ => none }
def CodecEndsWrongFalsely : Prop := codecEndsRow.holds Tryd.pinned (OpenSpec.ofChange codecEndsWrong)

/-- 'furrowlaw02.CodecFresh': WHATEVER THE INPUT: true; the input reads as it did. -/
def codecFreshSpec : ChangeSpec := { name := "codecFresh", fn := fun _ => fun
  | [d] => { results := [.lit (.bool true)], args := [d] }
  | _ => none }
def codecFreshRow : OpenClaim := { program := "ytelhmddigogmgaadoor", sum := "cd42568ff1383c9e1f40a523bd30d56fe0656d2b101ed33db78251a1e912e29a", func := "furrow/furrowlaw02.CodecFresh", spec := "codecFresh", named := ["furrow/codec.steps"], apart := false, laid := [("furrow/codec.steps", laid_furrow_codec_steps)] }
def CodecFreshSaid : Prop := codecFreshRow.holds Tryd.pinned (OpenSpec.ofChange codecFreshSpec)

/-- ITS FALSE NEIGHBOUR: 'it returns false'. Refute it at one input. -/
def codecFreshWrong : ChangeSpec := { name := "codecFresh", fn := fun _ => fun
  | [d] => { results := [.lit (.bool false)], args := [d] }
  | _ => none }
def CodecFreshWrongFalsely : Prop := codecFreshRow.holds Tryd.pinned (OpenSpec.ofChange codecFreshWrong)

/-- 'furrowlaw02.CodecBack': WHATEVER THE INPUT: true; the input reads as it did. -/
def codecBackSpec : ChangeSpec := { name := "codecBack", fn := fun _ => fun
  | [d] => { results := [.lit (.bool true)], args := [d] }
  | _ => none }
def codecBackRow : OpenClaim := { program := "ytelhmddigogmgaadoor", sum := "cd42568ff1383c9e1f40a523bd30d56fe0656d2b101ed33db78251a1e912e29a", func := "furrow/furrowlaw02.CodecBack", spec := "codecBack", named := ["furrow/codec.steps"], apart := false, laid := [("furrow/codec.steps", laid_furrow_codec_steps)] }
def CodecBackSaid : Prop := codecBackRow.holds Tryd.pinned (OpenSpec.ofChange codecBackSpec)

/-- ITS FALSE NEIGHBOUR: 'it returns false'. Refute it at one input. -/
def codecBackWrong : ChangeSpec := { name := "codecBack", fn := fun _ => fun
  | [d] => { results := [.lit (.bool false)], args := [d] }
  | _ => none }
def CodecBackWrongFalsely : Prop := codecBackRow.holds Tryd.pinned (OpenSpec.ofChange codecBackWrong)

/-- 'furrowlaw02.CodecLent': WHATEVER THE INPUT: true; the input reads as it did. -/
def codecLentSpec : ChangeSpec := { name := "codecLent", fn := fun _ => fun
  | [d1, d2, d3] => { results := [.lit (.bool true)], args := [d1, d2, d3] }
  | _ => none }
def codecLentRow : OpenClaim := { program := "ytelhmddigogmgaadoor", sum := "cd42568ff1383c9e1f40a523bd30d56fe0656d2b101ed33db78251a1e912e29a", func := "furrow/furrowlaw02.CodecLent", spec := "codecLent", named := ["furrow/codec.steps"], apart := false, laid := [("furrow/codec.steps", laid_furrow_codec_steps)] }
def CodecLentSaid : Prop := codecLentRow.holds Tryd.pinned (OpenSpec.ofChange codecLentSpec)

/-- ITS FALSE NEIGHBOUR: 'it returns false'. Refute it at one input. -/
def codecLentWrong : ChangeSpec := { name := "codecLent", fn := fun _ => fun
  | [d1, d2, d3] => { results := [.lit (.bool false)], args := [d1, d2, d3] }
  | _ => none }
def CodecLentWrongFalsely : Prop := codecLentRow.holds Tryd.pinned (OpenSpec.ofChange codecLentWrong)

/-- 'furrowlaw02.CodecSums': WHATEVER THE INPUT: true; the input reads as it did. -/
def codecSumsSpec : ChangeSpec := { name := "codecSums", fn := fun _ => fun
  | [d] => { results := [.lit (.bool true)], args := [d] }
  | _ => none }
def codecSumsRow : OpenClaim := { program := "ytelhmddigogmgaadoor", sum := "cd42568ff1383c9e1f40a523bd30d56fe0656d2b101ed33db78251a1e912e29a", func := "furrow/furrowlaw02.CodecSums", spec := "codecSums", named := ["furrow/codec.steps"], apart := false, laid := [("furrow/codec.steps", laid_furrow_codec_steps)] }
def CodecSumsSaid : Prop := codecSumsRow.holds Tryd.pinned (OpenSpec.ofChange codecSumsSpec)

/-- ITS FALSE NEIGHBOUR: 'it returns false'. Refute it at one input. -/
def codecSumsWrong : ChangeSpec := { name := "codecSums", fn := fun _ => fun
  | [d] => { results := [.lit (.bool false)], args := [d] }
  | _ => none }
def CodecSumsWrongFalsely : Prop := codecSumsRow.holds Tryd.pinned (OpenSpec.ofChange codecSumsWrong)

/-- 'furrowlaw02.CodecNumbers': WHATEVER THE INPUT: true; the input reads as it did. -/
def codecNumbersSpec : ChangeSpec := { name := "codecNumbers", fn := fun _ => fun
  | [d] => { results := [.lit (.bool true)], args := [d] }
  | _ => none }
def codecNumbersRow : OpenClaim := { program := "ytelhmddigogmgaadoor", sum := "cd42568ff1383c9e1f40a523bd30d56fe0656d2b101ed33db78251a1e912e29a", func := "furrow/furrowlaw02.CodecNumbers", spec := "codecNumbers", named := ["furrow/codec.steps"], apart := false, laid := [("furrow/codec.steps", laid_furrow_codec_steps)] }
def CodecNumbersSaid : Prop := codecNumbersRow.holds Tryd.pinned (OpenSpec.ofChange codecNumbersSpec)

/-- ITS FALSE NEIGHBOUR: 'it returns false'. Refute it at one input. -/
def codecNumbersWrong : ChangeSpec := { name := "codecNumbers", fn := fun _ => fun
  | [d] => { results := [.lit (.bool false)], args := [d] }
  | _ => none }
def CodecNumbersWrongFalsely : Prop := codecNumbersRow.holds Tryd.pinned (OpenSpec.ofChange codecNumbersWrong)

/-- 'furrowlaw02.CodecLines': WHATEVER THE INPUT: true; the input reads as it did. -/
def codecLinesSpec : ChangeSpec := { name := "codecLines", fn := fun _ => fun
  | [d] => { results := [.lit (.bool true)], args := [d] }
  | _ => none }
def codecLinesRow : OpenClaim := { program := "ytelhmddigogmgaadoor", sum := "cd42568ff1383c9e1f40a523bd30d56fe0656d2b101ed33db78251a1e912e29a", func := "furrow/furrowlaw02.CodecLines", spec := "codecLines", named := ["furrow/codec.steps"], apart := false, laid := [("furrow/codec.steps", laid_furrow_codec_steps)] }
def CodecLinesSaid : Prop := codecLinesRow.holds Tryd.pinned (OpenSpec.ofChange codecLinesSpec)

/-- ITS FALSE NEIGHBOUR: 'it returns false'. Refute it at one input. -/
def codecLinesWrong : ChangeSpec := { name := "codecLines", fn := fun _ => fun
  | [d] => { results := [.lit (.bool false)], args := [d] }
  | _ => none }
def CodecLinesWrongFalsely : Prop := codecLinesRow.holds Tryd.pinned (OpenSpec.ofChange codecLinesWrong)

/-- 'furrowlaw02.CodecSeals': WHATEVER THE INPUT: true; the input reads as it did. -/
def codecSealsSpec : ChangeSpec := { name := "codecSeals", fn := fun _ => fun
  | [d] => { results := [.lit (.bool true)], args := [d] }
  | _ => none }
def codecSealsRow : OpenClaim := { program := "ytelhmddigogmgaadoor", sum := "cd42568ff1383c9e1f40a523bd30d56fe0656d2b101ed33db78251a1e912e29a", func := "furrow/furrowlaw02.CodecSeals", spec := "codecSeals", named := ["furrow/codec.steps"], apart := false, laid := [("furrow/codec.steps", laid_furrow_codec_steps)] }
def CodecSealsSaid : Prop := codecSealsRow.holds Tryd.pinned (OpenSpec.ofChange codecSealsSpec)

/-- ITS FALSE NEIGHBOUR: 'it returns false'. Refute it at one input. -/
def codecSealsWrong : ChangeSpec := { name := "codecSeals", fn := fun _ => fun
  | [d] => { results := [.lit (.bool false)], args := [d] }
  | _ => none }
def CodecSealsWrongFalsely : Prop := codecSealsRow.holds Tryd.pinned (OpenSpec.ofChange codecSealsWrong)

/-- 'furrowlaw02.CodecAll': WHATEVER THE INPUT: true; the input reads as it did. -/
def codecAllSpec : ChangeSpec := { name := "codecAll", fn := fun _ => fun
  | [d] => { results := [.lit (.bool true)], args := [d] }
  | _ => none }
def codecAllRow : OpenClaim := { program := "ytelhmddigogmgaadoor", sum := "cd42568ff1383c9e1f40a523bd30d56fe0656d2b101ed33db78251a1e912e29a", func := "furrow/furrowlaw02.CodecAll", spec := "codecAll", named := ["furrow/codec.steps"], apart := false, laid := [("furrow/codec.steps", laid_furrow_codec_steps)] }
def CodecAllSaid : Prop := codecAllRow.holds Tryd.pinned (OpenSpec.ofChange codecAllSpec)

/-- ITS FALSE NEIGHBOUR: 'it returns false'. Refute it at one input. -/
def codecAllWrong : ChangeSpec := { name := "codecAll", fn := fun _ => fun
  | [d] => { results := [.lit (.bool false)], args := [d] }
  | _ => none }
def CodecAllWrongFalsely : Prop := codecAllRow.holds Tryd.pinned (OpenSpec.ofChange codecAllWrong)

/- THE SECOND FORM. 'bulk': how many values and letters a reading holds, each counted each time it is reached (what is shared counts as often as it is met; a slice's spare places count too). A statement '..UptoSaid' is the law's where the arguments, and the package variables that the reading takes, are together of bulk at most 1048576: NARROWER than '..Said'. Prove '..Said' where nothing that the law and all that it calls make is longer than what came in: it says more and counts as full. Else prove '..UptoSaid'. A law counts once. -/
mutual
def uptoBulk {H : Type} : DataW H → Nat
  | .lit (.string bytes) => bytes.length + 1
  | .lit _ => 1
  | .nil => 1
  | .ptr d => uptoBulk d + 1
  | .slice elems spare => uptoBulkAll elems + uptoBulkAll spare + 1
  | .agg parts => uptoBulkAll parts + 1
  | .iface _ d => uptoBulk d + 1
  | .map entries => uptoBulkEntries entries + 1
  | .held _ => 1
def uptoBulkAll {H : Type} : List (DataW H) → Nat
  | [] => 0
  | d :: r => uptoBulk d + uptoBulkAll r
def uptoBulkEntries {H : Type} : List (Lit × DataW H) → Nat
  | [] => 0
  | x :: r => uptoBulkEntry x + uptoBulkEntries r
def uptoBulkEntry {H : Type} : Lit × DataW H → Nat
  | (.string bytes, d) => bytes.length + uptoBulk d + 1
  | (_, d) => uptoBulk d + 1
 end
def uptoSmall : (H : Type) → List (DataW H) → Bool := fun _ ds => decide (uptoBulkAll ds ≤ 1048576)
def OpenSpec.upto (s : _root_.Go.ChangeSpec) : _root_.Go.OpenSpec := { _root_.Go.OpenSpec.ofChange s with cond := some uptoSmall }

/-- 'furrowlaw02.CodecNames', WHERE WHAT IT READS IS OF BULK AT MOST 1048576: true; the input reads as it did. -/
def codecNamesUptoRow : OpenClaim := { program := "ytelhmddigogmgaadoor", sum := "cd42568ff1383c9e1f40a523bd30d56fe0656d2b101ed33db78251a1e912e29a", func := "furrow/furrowlaw02.CodecNames", spec := "codecNames", named := ["furrow/codec.steps"], apart := false, laid := [("furrow/codec.steps", laid_furrow_codec_steps)], narrowed := true }
def CodecNamesUptoSaid : Prop := codecNamesUptoRow.holds Tryd.pinned (OpenSpec.upto codecNamesSpec)

/-- 'furrowlaw02.CodecGoesOn', WHERE WHAT IT READS IS OF BULK AT MOST 1048576: true; the input reads as it did. -/
def codecGoesOnUptoRow : OpenClaim := { program := "ytelhmddigogmgaadoor", sum := "cd42568ff1383c9e1f40a523bd30d56fe0656d2b101ed33db78251a1e912e29a", func := "furrow/furrowlaw02.CodecGoesOn", spec := "codecGoesOn", named := ["furrow/codec.steps"], apart := false, laid := [("furrow/codec.steps", laid_furrow_codec_steps)], narrowed := true }
def CodecGoesOnUptoSaid : Prop := codecGoesOnUptoRow.holds Tryd.pinned (OpenSpec.upto codecGoesOnSpec)

/-- 'furrowlaw02.CodecLinear', WHERE WHAT IT READS IS OF BULK AT MOST 1048576: true; the input reads as it did. -/
def codecLinearUptoRow : OpenClaim := { program := "ytelhmddigogmgaadoor", sum := "cd42568ff1383c9e1f40a523bd30d56fe0656d2b101ed33db78251a1e912e29a", func := "furrow/furrowlaw02.CodecLinear", spec := "codecLinear", named := ["furrow/codec.steps"], apart := false, laid := [("furrow/codec.steps", laid_furrow_codec_steps)], narrowed := true }
def CodecLinearUptoSaid : Prop := codecLinearUptoRow.holds Tryd.pinned (OpenSpec.upto codecLinearSpec)

/-- 'furrowlaw02.CodecTells', WHERE WHAT IT READS IS OF BULK AT MOST 1048576: true; the input reads as it did. -/
def codecTellsUptoRow : OpenClaim := { program := "ytelhmddigogmgaadoor", sum := "cd42568ff1383c9e1f40a523bd30d56fe0656d2b101ed33db78251a1e912e29a", func := "furrow/furrowlaw02.CodecTells", spec := "codecTells", named := ["furrow/codec.steps"], apart := false, laid := [("furrow/codec.steps", laid_furrow_codec_steps)], narrowed := true }
def CodecTellsUptoSaid : Prop := codecTellsUptoRow.holds Tryd.pinned (OpenSpec.upto codecTellsSpec)

/-- 'furrowlaw02.CodecClosed', WHERE WHAT IT READS IS OF BULK AT MOST 1048576: true; the input reads as it did. -/
def codecClosedUptoRow : OpenClaim := { program := "ytelhmddigogmgaadoor", sum := "cd42568ff1383c9e1f40a523bd30d56fe0656d2b101ed33db78251a1e912e29a", func := "furrow/furrowlaw02.CodecClosed", spec := "codecClosed", named := ["furrow/codec.steps"], apart := false, laid := [("furrow/codec.steps", laid_furrow_codec_steps)], narrowed := true }
def CodecClosedUptoSaid : Prop := codecClosedUptoRow.holds Tryd.pinned (OpenSpec.upto codecClosedSpec)

/-- 'furrowlaw02.CodecSpoilt', WHERE WHAT IT READS IS OF BULK AT MOST 1048576: true; the input reads as it did. -/
def codecSpoiltUptoRow : OpenClaim := { program := "ytelhmddigogmgaadoor", sum := "cd42568ff1383c9e1f40a523bd30d56fe0656d2b101ed33db78251a1e912e29a", func := "furrow/furrowlaw02.CodecSpoilt", spec := "codecSpoilt", named := ["furrow/codec.steps"], apart := false, laid := [("furrow/codec.steps", laid_furrow_codec_steps)], narrowed := true }
def CodecSpoiltUptoSaid : Prop := codecSpoiltUptoRow.holds Tryd.pinned (OpenSpec.upto codecSpoiltSpec)

/-- 'furrowlaw02.CodecSealed', WHERE WHAT IT READS IS OF BULK AT MOST 1048576: true; the input reads as it did. -/
def codecSealedUptoRow : OpenClaim := { program := "ytelhmddigogmgaadoor", sum := "cd42568ff1383c9e1f40a523bd30d56fe0656d2b101ed33db78251a1e912e29a", func := "furrow/furrowlaw02.CodecSealed", spec := "codecSealed", named := ["furrow/codec.steps"], apart := false, laid := [("furrow/codec.steps", laid_furrow_codec_steps)], narrowed := true }
def CodecSealedUptoSaid : Prop := codecSealedUptoRow.holds Tryd.pinned (OpenSpec.upto codecSealedSpec)

/-- 'furrowlaw02.CodecTorn', WHERE WHAT IT READS IS OF BULK AT MOST 1048576: true; the input reads as it did. -/
def codecTornUptoRow : OpenClaim := { program := "ytelhmddigogmgaadoor", sum := "cd42568ff1383c9e1f40a523bd30d56fe0656d2b101ed33db78251a1e912e29a", func := "furrow/furrowlaw02.CodecTorn", spec := "codecTorn", named := ["furrow/codec.steps"], apart := false, laid := [("furrow/codec.steps", laid_furrow_codec_steps)], narrowed := true }
def CodecTornUptoSaid : Prop := codecTornUptoRow.holds Tryd.pinned (OpenSpec.upto codecTornSpec)

/-- 'furrowlaw02.CodecOnly', WHERE WHAT IT READS IS OF BULK AT MOST 1048576: true; the input reads as it did. -/
def codecOnlyUptoRow : OpenClaim := { program := "ytelhmddigogmgaadoor", sum := "cd42568ff1383c9e1f40a523bd30d56fe0656d2b101ed33db78251a1e912e29a", func := "furrow/furrowlaw02.CodecOnly", spec := "codecOnly", named := ["furrow/codec.steps"], apart := false, laid := [("furrow/codec.steps", laid_furrow_codec_steps)], narrowed := true }
def CodecOnlyUptoSaid : Prop := codecOnlyUptoRow.holds Tryd.pinned (OpenSpec.upto codecOnlySpec)

/-- 'furrowlaw02.CodecEnds', WHERE WHAT IT READS IS OF BULK AT MOST 1048576: true; the input reads as it did. -/
def codecEndsUptoRow : OpenClaim := { program := "ytelhmddigogmgaadoor", sum := "cd42568ff1383c9e1f40a523bd30d56fe0656d2b101ed33db78251a1e912e29a", func := "furrow/furrowlaw02.CodecEnds", spec := "codecEnds", named := ["furrow/codec.steps"], apart := false, laid := [("furrow/codec.steps", laid_furrow_codec_steps)], narrowed := true }
def CodecEndsUptoSaid : Prop := codecEndsUptoRow.holds Tryd.pinned (OpenSpec.upto codecEndsSpec)

/-- 'furrowlaw02.CodecFresh', WHERE WHAT IT READS IS OF BULK AT MOST 1048576: true; the input reads as it did. -/
def codecFreshUptoRow : OpenClaim := { program := "ytelhmddigogmgaadoor", sum := "cd42568ff1383c9e1f40a523bd30d56fe0656d2b101ed33db78251a1e912e29a", func := "furrow/furrowlaw02.CodecFresh", spec := "codecFresh", named := ["furrow/codec.steps"], apart := false, laid := [("furrow/codec.steps", laid_furrow_codec_steps)], narrowed := true }
def CodecFreshUptoSaid : Prop := codecFreshUptoRow.holds Tryd.pinned (OpenSpec.upto codecFreshSpec)

/-- 'furrowlaw02.CodecBack', WHERE WHAT IT READS IS OF BULK AT MOST 1048576: true; the input reads as it did. -/
def codecBackUptoRow : OpenClaim := { program := "ytelhmddigogmgaadoor", sum := "cd42568ff1383c9e1f40a523bd30d56fe0656d2b101ed33db78251a1e912e29a", func := "furrow/furrowlaw02.CodecBack", spec := "codecBack", named := ["furrow/codec.steps"], apart := false, laid := [("furrow/codec.steps", laid_furrow_codec_steps)], narrowed := true }
def CodecBackUptoSaid : Prop := codecBackUptoRow.holds Tryd.pinned (OpenSpec.upto codecBackSpec)

/-- 'furrowlaw02.CodecLent', WHERE WHAT IT READS IS OF BULK AT MOST 1048576: true; the input reads as it did. -/
def codecLentUptoRow : OpenClaim := { program := "ytelhmddigogmgaadoor", sum := "cd42568ff1383c9e1f40a523bd30d56fe0656d2b101ed33db78251a1e912e29a", func := "furrow/furrowlaw02.CodecLent", spec := "codecLent", named := ["furrow/codec.steps"], apart := false, laid := [("furrow/codec.steps", laid_furrow_codec_steps)], narrowed := true }
def CodecLentUptoSaid : Prop := codecLentUptoRow.holds Tryd.pinned (OpenSpec.upto codecLentSpec)

/-- 'furrowlaw02.CodecSums', WHERE WHAT IT READS IS OF BULK AT MOST 1048576: true; the input reads as it did. -/
def codecSumsUptoRow : OpenClaim := { program := "ytelhmddigogmgaadoor", sum := "cd42568ff1383c9e1f40a523bd30d56fe0656d2b101ed33db78251a1e912e29a", func := "furrow/furrowlaw02.CodecSums", spec := "codecSums", named := ["furrow/codec.steps"], apart := false, laid := [("furrow/codec.steps", laid_furrow_codec_steps)], narrowed := true }
def CodecSumsUptoSaid : Prop := codecSumsUptoRow.holds Tryd.pinned (OpenSpec.upto codecSumsSpec)

/-- 'furrowlaw02.CodecNumbers', WHERE WHAT IT READS IS OF BULK AT MOST 1048576: true; the input reads as it did. -/
def codecNumbersUptoRow : OpenClaim := { program := "ytelhmddigogmgaadoor", sum := "cd42568ff1383c9e1f40a523bd30d56fe0656d2b101ed33db78251a1e912e29a", func := "furrow/furrowlaw02.CodecNumbers", spec := "codecNumbers", named := ["furrow/codec.steps"], apart := false, laid := [("furrow/codec.steps", laid_furrow_codec_steps)], narrowed := true }
def CodecNumbersUptoSaid : Prop := codecNumbersUptoRow.holds Tryd.pinned (OpenSpec.upto codecNumbersSpec)

/-- 'furrowlaw02.CodecLines', WHERE WHAT IT READS IS OF BULK AT MOST 1048576: true; the input reads as it did. -/
def codecLinesUptoRow : OpenClaim := { program := "ytelhmddigogmgaadoor", sum := "cd42568ff1383c9e1f40a523bd30d56fe0656d2b101ed33db78251a1e912e29a", func := "furrow/furrowlaw02.CodecLines", spec := "codecLines", named := ["furrow/codec.steps"], apart := false, laid := [("furrow/codec.steps", laid_furrow_codec_steps)], narrowed := true }
def CodecLinesUptoSaid : Prop := codecLinesUptoRow.holds Tryd.pinned (OpenSpec.upto codecLinesSpec)

/-- 'furrowlaw02.CodecSeals', WHERE WHAT IT READS IS OF BULK AT MOST 1048576: true; the input reads as it did. -/
def codecSealsUptoRow : OpenClaim := { program := "ytelhmddigogmgaadoor", sum := "cd42568ff1383c9e1f40a523bd30d56fe0656d2b101ed33db78251a1e912e29a", func := "furrow/furrowlaw02.CodecSeals", spec := "codecSeals", named := ["furrow/codec.steps"], apart := false, laid := [("furrow/codec.steps", laid_furrow_codec_steps)], narrowed := true }
def CodecSealsUptoSaid : Prop := codecSealsUptoRow.holds Tryd.pinned (OpenSpec.upto codecSealsSpec)

/-- 'furrowlaw02.CodecAll', WHERE WHAT IT READS IS OF BULK AT MOST 1048576: true; the input reads as it did. -/
def codecAllUptoRow : OpenClaim := { program := "ytelhmddigogmgaadoor", sum := "cd42568ff1383c9e1f40a523bd30d56fe0656d2b101ed33db78251a1e912e29a", func := "furrow/furrowlaw02.CodecAll", spec := "codecAll", named := ["furrow/codec.steps"], apart := false, laid := [("furrow/codec.steps", laid_furrow_codec_steps)], narrowed := true }
def CodecAllUptoSaid : Prop := codecAllUptoRow.holds Tryd.pinned (OpenSpec.upto codecAllSpec)

end Rows
end Go.Proofs.YtelhmddigogmgaaDoor
