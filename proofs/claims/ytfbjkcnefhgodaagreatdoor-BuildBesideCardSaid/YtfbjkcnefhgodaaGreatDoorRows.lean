/-
  NARROWER THAN 'FOR EVERY INPUT', by the rows' own cells (each row's printed sentence says how): DenoteLeast: laid · DenoteMore: laid · BuildBoards: laid · BuildMoves: laid · BuildBeside: laid · BuildPlaces: laid · BuildPart: laid.
  DERIVED. THE GIVEN ROWS OF THIS SEAT. 7 by the template 'for every input the law returns true; each argument reads behind the call as it read before'; 0 by the template 'total and deterministic' (their statements: YtfbjkcnefhgodaaGreatDoorTotals.lean).
  GIVEN WITH THE SEED: the statements are not yours to turn. If you find one false, say at which input.
  Laid BY PROGRAM, IN A SANDBOX (cutbox-rows.mjs): the forced cells as the released guide's own fill.sh prints them over the translation 907a69c86f7487fc… (all of the seat's roots in one cut). By AI agents, Wed Nov 11 2026. No macro, syntax, notation, axiom, sorry.
-/
import Derived.Test.YtfbjkcnefhgodaaGreatDoorChecked
import GoSem.Claim
import GoSem.ClaimJoined
import GoSem.ClaimMapViews
import Derived.JoinedTies
import Derived.KernelRfl
namespace Go.Proofs.YtfbjkcnefhgodaaGreatDoor
/- THE CELL 'sum', in the pinned program and in every row, IS THE sha256 OF THE DUMP (.gsa) THAT YtfbjkcnefhgodaaGreatDoorProg.lean LOADS. Nothing in Lean hashes anything: it is a label: what it is worth is what the hold of that sum in a sandbox is worth. -/
noncomputable def Tryz.pinned : Pinned := { name := "ytfbjkcnefhgodaagreatdoor", sum := "907a69c86f7487fc544ba60c7135464d55a1da9e77f3e3f3e32455c9103ba06e", checked := Tryz.checked }
namespace Rows
def none {H : Type} : Left H := { results := [], args := [] }

/- WHAT THE LISTED PACKAGE-LEVEL VARIABLES READ AS WHEN THE CALL BEGINS. Each datum BY PROGRAM (the guide's laid-datum.mjs) off the statement by which the dump's own 'gosem.cut.vars' lays the variable. In a bare row this is a premise. The card (YtfbjkcnefhgodaaGreatDoorCards.lean) ties it to the program's text. -/
def laid_math_bits_deBruijn64tab {H : Type} : DataW H := .agg [.lit (.int .u8 0), .lit (.int .u8 1), .lit (.int .u8 56), .lit (.int .u8 2), .lit (.int .u8 57), .lit (.int .u8 49), .lit (.int .u8 28), .lit (.int .u8 3), .lit (.int .u8 61), .lit (.int .u8 58), .lit (.int .u8 42), .lit (.int .u8 50), .lit (.int .u8 38), .lit (.int .u8 29), .lit (.int .u8 17), .lit (.int .u8 4), .lit (.int .u8 62), .lit (.int .u8 47), .lit (.int .u8 59), .lit (.int .u8 36), .lit (.int .u8 45), .lit (.int .u8 43), .lit (.int .u8 51), .lit (.int .u8 22), .lit (.int .u8 53), .lit (.int .u8 39), .lit (.int .u8 33), .lit (.int .u8 30), .lit (.int .u8 24), .lit (.int .u8 18), .lit (.int .u8 12), .lit (.int .u8 5), .lit (.int .u8 63), .lit (.int .u8 55), .lit (.int .u8 48), .lit (.int .u8 27), .lit (.int .u8 60), .lit (.int .u8 41), .lit (.int .u8 37), .lit (.int .u8 16), .lit (.int .u8 46), .lit (.int .u8 35), .lit (.int .u8 44), .lit (.int .u8 21), .lit (.int .u8 52), .lit (.int .u8 32), .lit (.int .u8 23), .lit (.int .u8 11), .lit (.int .u8 54), .lit (.int .u8 26), .lit (.int .u8 40), .lit (.int .u8 15), .lit (.int .u8 34), .lit (.int .u8 20), .lit (.int .u8 31), .lit (.int .u8 10), .lit (.int .u8 25), .lit (.int .u8 14), .lit (.int .u8 19), .lit (.int .u8 9), .lit (.int .u8 13), .lit (.int .u8 8), .lit (.int .u8 7), .lit (.int .u8 6)]

/-- 'bailifflaw08.DenoteLeast': WHATEVER THE INPUT: true; the input reads as it did. -/
def denoteLeastSpec : ChangeSpec := { name := "denoteLeast", fn := fun _ => fun
  | [d1, d2, d3] => { results := [.lit (.bool true)], args := [d1, d2, d3] }
  | _ => none }
def denoteLeastRow : OpenClaim := { program := "ytfbjkcnefhgodaagreatdoor", sum := "907a69c86f7487fc544ba60c7135464d55a1da9e77f3e3f3e32455c9103ba06e", func := "bailiff/bailifflaw08.DenoteLeast", spec := "denoteLeast", inPlace := ["internal/bytealg.IndexByteString", "internal/bytealg.abigen_runtime_cmpstring"], unfollowed := true, recurses := true, named := ["math/bits.deBruijn64tab"], plainKeys := false, apart := false, laid := [("math/bits.deBruijn64tab", laid_math_bits_deBruijn64tab)] }
def DenoteLeastSaid : Prop := denoteLeastRow.holds Tryz.pinned (OpenSpec.ofChange denoteLeastSpec)

/-- ITS FALSE NEIGHBOUR: 'it returns false'. Refute it at one input. -/
def denoteLeastWrong : ChangeSpec := { name := "denoteLeast", fn := fun _ => fun
  | [d1, d2, d3] => { results := [.lit (.bool false)], args := [d1, d2, d3] }
  | _ => none }
def DenoteLeastWrongFalsely : Prop := denoteLeastRow.holds Tryz.pinned (OpenSpec.ofChange denoteLeastWrong)

/-- 'bailifflaw08.DenoteMore': WHATEVER THE INPUT: true; the input reads as it did. -/
def denoteMoreSpec : ChangeSpec := { name := "denoteMore", fn := fun _ => fun
  | [d1, d2, d3, d4] => { results := [.lit (.bool true)], args := [d1, d2, d3, d4] }
  | _ => none }
def denoteMoreRow : OpenClaim := { program := "ytfbjkcnefhgodaagreatdoor", sum := "907a69c86f7487fc544ba60c7135464d55a1da9e77f3e3f3e32455c9103ba06e", func := "bailiff/bailifflaw08.DenoteMore", spec := "denoteMore", inPlace := ["internal/bytealg.IndexByteString", "internal/bytealg.abigen_runtime_cmpstring"], unfollowed := true, recurses := true, named := ["math/bits.deBruijn64tab"], plainKeys := false, apart := false, laid := [("math/bits.deBruijn64tab", laid_math_bits_deBruijn64tab)] }
def DenoteMoreSaid : Prop := denoteMoreRow.holds Tryz.pinned (OpenSpec.ofChange denoteMoreSpec)

/-- ITS FALSE NEIGHBOUR: 'it returns false'. Refute it at one input. -/
def denoteMoreWrong : ChangeSpec := { name := "denoteMore", fn := fun _ => fun
  | [d1, d2, d3, d4] => { results := [.lit (.bool false)], args := [d1, d2, d3, d4] }
  | _ => none }
def DenoteMoreWrongFalsely : Prop := denoteMoreRow.holds Tryz.pinned (OpenSpec.ofChange denoteMoreWrong)

/-- 'bailifflaw11.BuildBoards': WHATEVER THE INPUT: true; the input reads as it did. -/
def buildBoardsSpec : ChangeSpec := { name := "buildBoards", fn := fun _ => fun
  | [d1, d2, d3] => { results := [.lit (.bool true)], args := [d1, d2, d3] }
  | _ => none }
def buildBoardsRow : OpenClaim := { program := "ytfbjkcnefhgodaagreatdoor", sum := "907a69c86f7487fc544ba60c7135464d55a1da9e77f3e3f3e32455c9103ba06e", func := "bailiff/bailifflaw11.BuildBoards", spec := "buildBoards", inPlace := ["internal/bytealg.IndexByteString", "internal/bytealg.abigen_runtime_cmpstring"], unfollowed := true, recurses := true, named := ["math/bits.deBruijn64tab"], plainKeys := false, apart := false, laid := [("math/bits.deBruijn64tab", laid_math_bits_deBruijn64tab)] }
def BuildBoardsSaid : Prop := buildBoardsRow.holds Tryz.pinned (OpenSpec.ofChange buildBoardsSpec)

/-- ITS FALSE NEIGHBOUR: 'it returns false'. Refute it at one input. -/
def buildBoardsWrong : ChangeSpec := { name := "buildBoards", fn := fun _ => fun
  | [d1, d2, d3] => { results := [.lit (.bool false)], args := [d1, d2, d3] }
  | _ => none }
def BuildBoardsWrongFalsely : Prop := buildBoardsRow.holds Tryz.pinned (OpenSpec.ofChange buildBoardsWrong)

/-- 'bailifflaw11.BuildMoves': WHATEVER THE INPUT: true; the input reads as it did. -/
def buildMovesSpec : ChangeSpec := { name := "buildMoves", fn := fun _ => fun
  | [d1, d2, d3] => { results := [.lit (.bool true)], args := [d1, d2, d3] }
  | _ => none }
def buildMovesRow : OpenClaim := { program := "ytfbjkcnefhgodaagreatdoor", sum := "907a69c86f7487fc544ba60c7135464d55a1da9e77f3e3f3e32455c9103ba06e", func := "bailiff/bailifflaw11.BuildMoves", spec := "buildMoves", inPlace := ["internal/bytealg.IndexByteString", "internal/bytealg.abigen_runtime_cmpstring"], unfollowed := true, recurses := true, named := ["math/bits.deBruijn64tab"], plainKeys := false, apart := false, laid := [("math/bits.deBruijn64tab", laid_math_bits_deBruijn64tab)] }
def BuildMovesSaid : Prop := buildMovesRow.holds Tryz.pinned (OpenSpec.ofChange buildMovesSpec)

/-- ITS FALSE NEIGHBOUR: 'it returns false'. Refute it at one input. -/
def buildMovesWrong : ChangeSpec := { name := "buildMoves", fn := fun _ => fun
  | [d1, d2, d3] => { results := [.lit (.bool false)], args := [d1, d2, d3] }
  | _ => none }
def BuildMovesWrongFalsely : Prop := buildMovesRow.holds Tryz.pinned (OpenSpec.ofChange buildMovesWrong)

/-- 'bailifflaw11.BuildBeside': WHATEVER THE INPUT: true; the input reads as it did. -/
def buildBesideSpec : ChangeSpec := { name := "buildBeside", fn := fun _ => fun
  | [d1, d2, d3] => { results := [.lit (.bool true)], args := [d1, d2, d3] }
  | _ => none }
def buildBesideRow : OpenClaim := { program := "ytfbjkcnefhgodaagreatdoor", sum := "907a69c86f7487fc544ba60c7135464d55a1da9e77f3e3f3e32455c9103ba06e", func := "bailiff/bailifflaw11.BuildBeside", spec := "buildBeside", inPlace := ["internal/bytealg.IndexByteString", "internal/bytealg.abigen_runtime_cmpstring"], unfollowed := true, recurses := true, named := ["math/bits.deBruijn64tab"], plainKeys := false, apart := false, laid := [("math/bits.deBruijn64tab", laid_math_bits_deBruijn64tab)] }
def BuildBesideSaid : Prop := buildBesideRow.holds Tryz.pinned (OpenSpec.ofChange buildBesideSpec)

/-- ITS FALSE NEIGHBOUR: 'it returns false'. Refute it at one input. -/
def buildBesideWrong : ChangeSpec := { name := "buildBeside", fn := fun _ => fun
  | [d1, d2, d3] => { results := [.lit (.bool false)], args := [d1, d2, d3] }
  | _ => none }
def BuildBesideWrongFalsely : Prop := buildBesideRow.holds Tryz.pinned (OpenSpec.ofChange buildBesideWrong)

/-- 'bailifflaw11.BuildPlaces': WHATEVER THE INPUT: true; the input reads as it did. -/
def buildPlacesSpec : ChangeSpec := { name := "buildPlaces", fn := fun _ => fun
  | [d1, d2] => { results := [.lit (.bool true)], args := [d1, d2] }
  | _ => none }
def buildPlacesRow : OpenClaim := { program := "ytfbjkcnefhgodaagreatdoor", sum := "907a69c86f7487fc544ba60c7135464d55a1da9e77f3e3f3e32455c9103ba06e", func := "bailiff/bailifflaw11.BuildPlaces", spec := "buildPlaces", inPlace := ["internal/bytealg.IndexByteString", "internal/bytealg.abigen_runtime_cmpstring"], unfollowed := true, recurses := true, named := ["math/bits.deBruijn64tab"], plainKeys := false, apart := false, laid := [("math/bits.deBruijn64tab", laid_math_bits_deBruijn64tab)] }
def BuildPlacesSaid : Prop := buildPlacesRow.holds Tryz.pinned (OpenSpec.ofChange buildPlacesSpec)

/-- ITS FALSE NEIGHBOUR: 'it returns false'. Refute it at one input. -/
def buildPlacesWrong : ChangeSpec := { name := "buildPlaces", fn := fun _ => fun
  | [d1, d2] => { results := [.lit (.bool false)], args := [d1, d2] }
  | _ => none }
def BuildPlacesWrongFalsely : Prop := buildPlacesRow.holds Tryz.pinned (OpenSpec.ofChange buildPlacesWrong)

/-- 'bailifflaw11.BuildPart': WHATEVER THE INPUT: true; the input reads as it did. -/
def buildPartSpec : ChangeSpec := { name := "buildPart", fn := fun _ => fun
  | [d1, d2, d3, d4] => { results := [.lit (.bool true)], args := [d1, d2, d3, d4] }
  | _ => none }
def buildPartRow : OpenClaim := { program := "ytfbjkcnefhgodaagreatdoor", sum := "907a69c86f7487fc544ba60c7135464d55a1da9e77f3e3f3e32455c9103ba06e", func := "bailiff/bailifflaw11.BuildPart", spec := "buildPart", inPlace := ["internal/bytealg.IndexByteString", "internal/bytealg.abigen_runtime_cmpstring"], unfollowed := true, recurses := true, named := ["math/bits.deBruijn64tab"], plainKeys := false, apart := false, laid := [("math/bits.deBruijn64tab", laid_math_bits_deBruijn64tab)] }
def BuildPartSaid : Prop := buildPartRow.holds Tryz.pinned (OpenSpec.ofChange buildPartSpec)

/-- ITS FALSE NEIGHBOUR: 'it returns false'. Refute it at one input. -/
def buildPartWrong : ChangeSpec := { name := "buildPart", fn := fun _ => fun
  | [d1, d2, d3, d4] => { results := [.lit (.bool false)], args := [d1, d2, d3, d4] }
  | _ => none }
def BuildPartWrongFalsely : Prop := buildPartRow.holds Tryz.pinned (OpenSpec.ofChange buildPartWrong)

/- THE SECOND FORM. 'bulk': how many values and letters a reading holds, each counted each time it is reached (what is shared counts as often as it is met; a slice's spare places count too). A statement '..UptoSaid' is the law's where the arguments, and the package variables that the reading takes, are together of bulk at most 1048576: NARROWER than '..Said'. Prove '..Said' where nothing that the law and all that it calls make is longer than what came in: it says more and counts as full. Else prove '..UptoSaid'. A law counts once. -/
mutual
def uptoBulk {H : Type} : DataW H → Nat
  | .lit (.string bytes) => bytes.length + 1
  | .lit _ => 1
  | .nil => 1
  | .ptr d => uptoBulk d + 1
  | .slice elems spare => uptoBulkAll elems + uptoBulkAll spare + 1
  | .agg parts => uptoBulkAll parts + 1
  | .iface _ d => uptoBulk d + 1
  | .map entries => uptoBulkEntries entries + 1
  | .held _ => 1
def uptoBulkAll {H : Type} : List (DataW H) → Nat
  | [] => 0
  | d :: r => uptoBulk d + uptoBulkAll r
def uptoBulkEntries {H : Type} : List (Lit × DataW H) → Nat
  | [] => 0
  | x :: r => uptoBulkEntry x + uptoBulkEntries r
def uptoBulkEntry {H : Type} : Lit × DataW H → Nat
  | (.string bytes, d) => bytes.length + uptoBulk d + 1
  | (_, d) => uptoBulk d + 1
 end
def uptoSmall : (H : Type) → List (DataW H) → Bool := fun _ ds => decide (uptoBulkAll ds ≤ 1048576)
def OpenSpec.upto (s : _root_.Go.ChangeSpec) : _root_.Go.OpenSpec := { _root_.Go.OpenSpec.ofChange s with cond := some uptoSmall }

/-- 'bailifflaw08.DenoteLeast', WHERE WHAT IT READS IS OF BULK AT MOST 1048576: true; the input reads as it did. -/
def denoteLeastUptoRow : OpenClaim := { program := "ytfbjkcnefhgodaagreatdoor", sum := "907a69c86f7487fc544ba60c7135464d55a1da9e77f3e3f3e32455c9103ba06e", func := "bailiff/bailifflaw08.DenoteLeast", spec := "denoteLeast", inPlace := ["internal/bytealg.IndexByteString", "internal/bytealg.abigen_runtime_cmpstring"], unfollowed := true, recurses := true, named := ["math/bits.deBruijn64tab"], plainKeys := false, apart := false, laid := [("math/bits.deBruijn64tab", laid_math_bits_deBruijn64tab)], narrowed := true }
def DenoteLeastUptoSaid : Prop := denoteLeastUptoRow.holds Tryz.pinned (OpenSpec.upto denoteLeastSpec)

/-- 'bailifflaw08.DenoteMore', WHERE WHAT IT READS IS OF BULK AT MOST 1048576: true; the input reads as it did. -/
def denoteMoreUptoRow : OpenClaim := { program := "ytfbjkcnefhgodaagreatdoor", sum := "907a69c86f7487fc544ba60c7135464d55a1da9e77f3e3f3e32455c9103ba06e", func := "bailiff/bailifflaw08.DenoteMore", spec := "denoteMore", inPlace := ["internal/bytealg.IndexByteString", "internal/bytealg.abigen_runtime_cmpstring"], unfollowed := true, recurses := true, named := ["math/bits.deBruijn64tab"], plainKeys := false, apart := false, laid := [("math/bits.deBruijn64tab", laid_math_bits_deBruijn64tab)], narrowed := true }
def DenoteMoreUptoSaid : Prop := denoteMoreUptoRow.holds Tryz.pinned (OpenSpec.upto denoteMoreSpec)

/-- 'bailifflaw11.BuildBoards', WHERE WHAT IT READS IS OF BULK AT MOST 1048576: true; the input reads as it did. -/
def buildBoardsUptoRow : OpenClaim := { program := "ytfbjkcnefhgodaagreatdoor", sum := "907a69c86f7487fc544ba60c7135464d55a1da9e77f3e3f3e32455c9103ba06e", func := "bailiff/bailifflaw11.BuildBoards", spec := "buildBoards", inPlace := ["internal/bytealg.IndexByteString", "internal/bytealg.abigen_runtime_cmpstring"], unfollowed := true, recurses := true, named := ["math/bits.deBruijn64tab"], plainKeys := false, apart := false, laid := [("math/bits.deBruijn64tab", laid_math_bits_deBruijn64tab)], narrowed := true }
def BuildBoardsUptoSaid : Prop := buildBoardsUptoRow.holds Tryz.pinned (OpenSpec.upto buildBoardsSpec)

/-- 'bailifflaw11.BuildMoves', WHERE WHAT IT READS IS OF BULK AT MOST 1048576: true; the input reads as it did. -/
def buildMovesUptoRow : OpenClaim := { program := "ytfbjkcnefhgodaagreatdoor", sum := "907a69c86f7487fc544ba60c7135464d55a1da9e77f3e3f3e32455c9103ba06e", func := "bailiff/bailifflaw11.BuildMoves", spec := "buildMoves", inPlace := ["internal/bytealg.IndexByteString", "internal/bytealg.abigen_runtime_cmpstring"], unfollowed := true, recurses := true, named := ["math/bits.deBruijn64tab"], plainKeys := false, apart := false, laid := [("math/bits.deBruijn64tab", laid_math_bits_deBruijn64tab)], narrowed := true }
def BuildMovesUptoSaid : Prop := buildMovesUptoRow.holds Tryz.pinned (OpenSpec.upto buildMovesSpec)

/-- 'bailifflaw11.BuildBeside', WHERE WHAT IT READS IS OF BULK AT MOST 1048576: true; the input reads as it did. -/
def buildBesideUptoRow : OpenClaim := { program := "ytfbjkcnefhgodaagreatdoor", sum := "907a69c86f7487fc544ba60c7135464d55a1da9e77f3e3f3e32455c9103ba06e", func := "bailiff/bailifflaw11.BuildBeside", spec := "buildBeside", inPlace := ["internal/bytealg.IndexByteString", "internal/bytealg.abigen_runtime_cmpstring"], unfollowed := true, recurses := true, named := ["math/bits.deBruijn64tab"], plainKeys := false, apart := false, laid := [("math/bits.deBruijn64tab", laid_math_bits_deBruijn64tab)], narrowed := true }
def BuildBesideUptoSaid : Prop := buildBesideUptoRow.holds Tryz.pinned (OpenSpec.upto buildBesideSpec)

/-- 'bailifflaw11.BuildPlaces', WHERE WHAT IT READS IS OF BULK AT MOST 1048576: true; the input reads as it did. -/
def buildPlacesUptoRow : OpenClaim := { program := "ytfbjkcnefhgodaagreatdoor", sum := "907a69c86f7487fc544ba60c7135464d55a1da9e77f3e3f3e32455c9103ba06e", func := "bailiff/bailifflaw11.BuildPlaces", spec := "buildPlaces", inPlace := ["internal/bytealg.IndexByteString", "internal/bytealg.abigen_runtime_cmpstring"], unfollowed := true, recurses := true, named := ["math/bits.deBruijn64tab"], plainKeys := false, apart := false, laid := [("math/bits.deBruijn64tab", laid_math_bits_deBruijn64tab)], narrowed := true }
def BuildPlacesUptoSaid : Prop := buildPlacesUptoRow.holds Tryz.pinned (OpenSpec.upto buildPlacesSpec)

/-- 'bailifflaw11.BuildPart', WHERE WHAT IT READS IS OF BULK AT MOST 1048576: true; the input reads as it did. -/
def buildPartUptoRow : OpenClaim := { program := "ytfbjkcnefhgodaagreatdoor", sum := "907a69c86f7487fc544ba60c7135464d55a1da9e77f3e3f3e32455c9103ba06e", func := "bailiff/bailifflaw11.BuildPart", spec := "buildPart", inPlace := ["internal/bytealg.IndexByteString", "internal/bytealg.abigen_runtime_cmpstring"], unfollowed := true, recurses := true, named := ["math/bits.deBruijn64tab"], plainKeys := false, apart := false, laid := [("math/bits.deBruijn64tab", laid_math_bits_deBruijn64tab)], narrowed := true }
def BuildPartUptoSaid : Prop := buildPartUptoRow.holds Tryz.pinned (OpenSpec.upto buildPartSpec)

end Rows
end Go.Proofs.YtfbjkcnefhgodaaGreatDoor
