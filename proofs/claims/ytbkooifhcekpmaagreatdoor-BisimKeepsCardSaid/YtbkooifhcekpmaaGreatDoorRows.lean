/-
  NARROWER THAN 'FOR EVERY INPUT', by the rows' own cells (each row's printed sentence says how): BisimClasses: laid · BisimOnce: laid · BisimAlike: laid · BisimTwin: laid · BisimTurned: laid · LtsPrints: laid · LtsLines: laid · LtsBack: laid · BisimKeeps: laid.
  DERIVED. THE GIVEN ROWS OF THIS SEAT. 9 by the template 'for every input the law returns true; each argument reads behind the call as it read before'; 0 by the template 'total and deterministic' (their statements: YtbkooifhcekpmaaGreatDoorTotals.lean).
  GIVEN WITH THE SEED: the statements are not yours to turn. If you find one false, say at which input.
  Laid BY PROGRAM, IN A SANDBOX (cutbox-rows.mjs): the forced cells as the released guide's own fill.sh prints them over the translation 38799b2eed23d001… (all of the seat's roots in one cut). By AI agents, Wed Nov 11 2026. No macro, syntax, notation, axiom, sorry.
-/
import Derived.Test.YtbkooifhcekpmaaGreatDoorChecked
import GoSem.Claim
import GoSem.ClaimJoined
import GoSem.ClaimMapViews
import Derived.JoinedTies
import Derived.KernelRfl
namespace Go.Proofs.YtbkooifhcekpmaaGreatDoor
/- THE CELL 'sum', in the pinned program and in every row, IS THE sha256 OF THE DUMP (.gsa) THAT YtbkooifhcekpmaaGreatDoorProg.lean LOADS. Nothing in Lean hashes anything: it is a label: what it is worth is what the hold of that sum in a sandbox is worth. -/
noncomputable def Tryz.pinned : Pinned := { name := "ytbkooifhcekpmaagreatdoor", sum := "38799b2eed23d0016f8e4be1ffb29243e1ca3e31a7aeec9333475ad85f9a88eb", checked := Tryz.checked }
namespace Rows
def none {H : Type} : Left H := { results := [], args := [] }

/- WHAT THE LISTED PACKAGE-LEVEL VARIABLES READ AS WHEN THE CALL BEGINS. Each datum BY PROGRAM (the guide's laid-datum.mjs) off the statement by which the dump's own 'gosem.cut.vars' lays the variable. In a bare row this is a premise. The card (YtbkooifhcekpmaaGreatDoorCards.lean) ties it to the program's text. -/
def laid_math_bits_deBruijn64tab {H : Type} : DataW H := .agg [.lit (.int .u8 0), .lit (.int .u8 1), .lit (.int .u8 56), .lit (.int .u8 2), .lit (.int .u8 57), .lit (.int .u8 49), .lit (.int .u8 28), .lit (.int .u8 3), .lit (.int .u8 61), .lit (.int .u8 58), .lit (.int .u8 42), .lit (.int .u8 50), .lit (.int .u8 38), .lit (.int .u8 29), .lit (.int .u8 17), .lit (.int .u8 4), .lit (.int .u8 62), .lit (.int .u8 47), .lit (.int .u8 59), .lit (.int .u8 36), .lit (.int .u8 45), .lit (.int .u8 43), .lit (.int .u8 51), .lit (.int .u8 22), .lit (.int .u8 53), .lit (.int .u8 39), .lit (.int .u8 33), .lit (.int .u8 30), .lit (.int .u8 24), .lit (.int .u8 18), .lit (.int .u8 12), .lit (.int .u8 5), .lit (.int .u8 63), .lit (.int .u8 55), .lit (.int .u8 48), .lit (.int .u8 27), .lit (.int .u8 60), .lit (.int .u8 41), .lit (.int .u8 37), .lit (.int .u8 16), .lit (.int .u8 46), .lit (.int .u8 35), .lit (.int .u8 44), .lit (.int .u8 21), .lit (.int .u8 52), .lit (.int .u8 32), .lit (.int .u8 23), .lit (.int .u8 11), .lit (.int .u8 54), .lit (.int .u8 26), .lit (.int .u8 40), .lit (.int .u8 15), .lit (.int .u8 34), .lit (.int .u8 20), .lit (.int .u8 31), .lit (.int .u8 10), .lit (.int .u8 25), .lit (.int .u8 14), .lit (.int .u8 19), .lit (.int .u8 9), .lit (.int .u8 13), .lit (.int .u8 8), .lit (.int .u8 7), .lit (.int .u8 6)]
def laid_math_bits_deBruijn32tab {H : Type} : DataW H := .agg [.lit (.int .u8 0), .lit (.int .u8 1), .lit (.int .u8 28), .lit (.int .u8 2), .lit (.int .u8 29), .lit (.int .u8 14), .lit (.int .u8 24), .lit (.int .u8 3), .lit (.int .u8 30), .lit (.int .u8 22), .lit (.int .u8 20), .lit (.int .u8 15), .lit (.int .u8 25), .lit (.int .u8 17), .lit (.int .u8 4), .lit (.int .u8 8), .lit (.int .u8 31), .lit (.int .u8 27), .lit (.int .u8 13), .lit (.int .u8 23), .lit (.int .u8 21), .lit (.int .u8 19), .lit (.int .u8 16), .lit (.int .u8 7), .lit (.int .u8 26), .lit (.int .u8 12), .lit (.int .u8 18), .lit (.int .u8 6), .lit (.int .u8 11), .lit (.int .u8 5), .lit (.int .u8 10), .lit (.int .u8 9)]
def laid_internal_strconv_uint64pow10 {H : Type} : DataW H := .agg [.lit (.int .u64 1), .lit (.int .u64 10), .lit (.int .u64 100), .lit (.int .u64 1000), .lit (.int .u64 10000), .lit (.int .u64 100000), .lit (.int .u64 1000000), .lit (.int .u64 10000000), .lit (.int .u64 100000000), .lit (.int .u64 1000000000), .lit (.int .u64 10000000000), .lit (.int .u64 100000000000), .lit (.int .u64 1000000000000), .lit (.int .u64 10000000000000), .lit (.int .u64 100000000000000), .lit (.int .u64 1000000000000000), .lit (.int .u64 10000000000000000), .lit (.int .u64 100000000000000000), .lit (.int .u64 1000000000000000000), .lit (.int .u64 10000000000000000000)]
def laid_errors_errorType {H : Type} : DataW H := .iface "internal/reflectlite.rtype" (.agg [.ptr (.lit (.string [101, 114, 114, 111, 114]))])

/-- 'bailifflaw18.BisimClasses': WHATEVER THE INPUT: true; the input reads as it did. -/
def bisimClassesSpec : ChangeSpec := { name := "bisimClasses", fn := fun _ => fun
  | [d] => { results := [.lit (.bool true)], args := [d] }
  | _ => none }
def bisimClassesRow : OpenClaim := { program := "ytbkooifhcekpmaagreatdoor", sum := "38799b2eed23d0016f8e4be1ffb29243e1ca3e31a7aeec9333475ad85f9a88eb", func := "bailiff/bailifflaw18.BisimClasses", spec := "bisimClasses", inPlace := ["internal/bytealg.IndexByteString", "internal/bytealg.abigen_runtime_cmpstring"], unfollowed := true, recurses := true, named := ["math/bits.deBruijn64tab"], plainKeys := false, apart := false, laid := [("math/bits.deBruijn64tab", laid_math_bits_deBruijn64tab)] }
def BisimClassesSaid : Prop := bisimClassesRow.holds Tryz.pinned (OpenSpec.ofChange bisimClassesSpec)

/-- ITS FALSE NEIGHBOUR: 'it returns false'. Refute it at one input. -/
def bisimClassesWrong : ChangeSpec := { name := "bisimClasses", fn := fun _ => fun
  | [d] => { results := [.lit (.bool false)], args := [d] }
  | _ => none }
def BisimClassesWrongFalsely : Prop := bisimClassesRow.holds Tryz.pinned (OpenSpec.ofChange bisimClassesWrong)

/-- 'bailifflaw18.BisimOnce': WHATEVER THE INPUT: true; the input reads as it did. -/
def bisimOnceSpec : ChangeSpec := { name := "bisimOnce", fn := fun _ => fun
  | [d] => { results := [.lit (.bool true)], args := [d] }
  | _ => none }
def bisimOnceRow : OpenClaim := { program := "ytbkooifhcekpmaagreatdoor", sum := "38799b2eed23d0016f8e4be1ffb29243e1ca3e31a7aeec9333475ad85f9a88eb", func := "bailiff/bailifflaw18.BisimOnce", spec := "bisimOnce", inPlace := ["internal/bytealg.IndexByteString", "internal/bytealg.abigen_runtime_cmpstring"], unfollowed := true, recurses := true, named := ["math/bits.deBruijn64tab"], plainKeys := false, apart := false, laid := [("math/bits.deBruijn64tab", laid_math_bits_deBruijn64tab)] }
def BisimOnceSaid : Prop := bisimOnceRow.holds Tryz.pinned (OpenSpec.ofChange bisimOnceSpec)

/-- ITS FALSE NEIGHBOUR: 'it returns false'. Refute it at one input. -/
def bisimOnceWrong : ChangeSpec := { name := "bisimOnce", fn := fun _ => fun
  | [d] => { results := [.lit (.bool false)], args := [d] }
  | _ => none }
def BisimOnceWrongFalsely : Prop := bisimOnceRow.holds Tryz.pinned (OpenSpec.ofChange bisimOnceWrong)

/-- 'bailifflaw18.BisimAlike': WHATEVER THE INPUT: true; the input reads as it did. -/
def bisimAlikeSpec : ChangeSpec := { name := "bisimAlike", fn := fun _ => fun
  | [d] => { results := [.lit (.bool true)], args := [d] }
  | _ => none }
def bisimAlikeRow : OpenClaim := { program := "ytbkooifhcekpmaagreatdoor", sum := "38799b2eed23d0016f8e4be1ffb29243e1ca3e31a7aeec9333475ad85f9a88eb", func := "bailiff/bailifflaw18.BisimAlike", spec := "bisimAlike", inPlace := ["internal/bytealg.IndexByteString", "internal/bytealg.abigen_runtime_cmpstring"], unfollowed := true, recurses := true, named := ["math/bits.deBruijn64tab"], plainKeys := false, apart := false, laid := [("math/bits.deBruijn64tab", laid_math_bits_deBruijn64tab)] }
def BisimAlikeSaid : Prop := bisimAlikeRow.holds Tryz.pinned (OpenSpec.ofChange bisimAlikeSpec)

/-- ITS FALSE NEIGHBOUR: 'it returns false'. Refute it at one input. -/
def bisimAlikeWrong : ChangeSpec := { name := "bisimAlike", fn := fun _ => fun
  | [d] => { results := [.lit (.bool false)], args := [d] }
  | _ => none }
def BisimAlikeWrongFalsely : Prop := bisimAlikeRow.holds Tryz.pinned (OpenSpec.ofChange bisimAlikeWrong)

/-- 'bailifflaw18.BisimTwin': WHATEVER THE INPUT: true; the input reads as it did. -/
def bisimTwinSpec : ChangeSpec := { name := "bisimTwin", fn := fun _ => fun
  | [d] => { results := [.lit (.bool true)], args := [d] }
  | _ => none }
def bisimTwinRow : OpenClaim := { program := "ytbkooifhcekpmaagreatdoor", sum := "38799b2eed23d0016f8e4be1ffb29243e1ca3e31a7aeec9333475ad85f9a88eb", func := "bailiff/bailifflaw18.BisimTwin", spec := "bisimTwin", inPlace := ["internal/bytealg.IndexByteString", "internal/bytealg.abigen_runtime_cmpstring"], unfollowed := true, recurses := true, named := ["math/bits.deBruijn64tab"], plainKeys := false, apart := false, laid := [("math/bits.deBruijn64tab", laid_math_bits_deBruijn64tab)] }
def BisimTwinSaid : Prop := bisimTwinRow.holds Tryz.pinned (OpenSpec.ofChange bisimTwinSpec)

/-- ITS FALSE NEIGHBOUR: 'it returns false'. Refute it at one input. -/
def bisimTwinWrong : ChangeSpec := { name := "bisimTwin", fn := fun _ => fun
  | [d] => { results := [.lit (.bool false)], args := [d] }
  | _ => none }
def BisimTwinWrongFalsely : Prop := bisimTwinRow.holds Tryz.pinned (OpenSpec.ofChange bisimTwinWrong)

/-- 'bailifflaw18.BisimTurned': WHATEVER THE INPUT: true; the input reads as it did. -/
def bisimTurnedSpec : ChangeSpec := { name := "bisimTurned", fn := fun _ => fun
  | [d] => { results := [.lit (.bool true)], args := [d] }
  | _ => none }
def bisimTurnedRow : OpenClaim := { program := "ytbkooifhcekpmaagreatdoor", sum := "38799b2eed23d0016f8e4be1ffb29243e1ca3e31a7aeec9333475ad85f9a88eb", func := "bailiff/bailifflaw18.BisimTurned", spec := "bisimTurned", inPlace := ["internal/bytealg.IndexByteString", "internal/bytealg.abigen_runtime_cmpstring"], unfollowed := true, recurses := true, named := ["math/bits.deBruijn64tab"], plainKeys := false, apart := false, laid := [("math/bits.deBruijn64tab", laid_math_bits_deBruijn64tab)] }
def BisimTurnedSaid : Prop := bisimTurnedRow.holds Tryz.pinned (OpenSpec.ofChange bisimTurnedSpec)

/-- ITS FALSE NEIGHBOUR: 'it returns false'. Refute it at one input. -/
def bisimTurnedWrong : ChangeSpec := { name := "bisimTurned", fn := fun _ => fun
  | [d] => { results := [.lit (.bool false)], args := [d] }
  | _ => none }
def BisimTurnedWrongFalsely : Prop := bisimTurnedRow.holds Tryz.pinned (OpenSpec.ofChange bisimTurnedWrong)

/-- 'bailifflaw03.LtsPrints': WHATEVER THE INPUT: true; the input reads as it did. -/
def ltsPrintsSpec : ChangeSpec := { name := "ltsPrints", fn := fun _ => fun
  | [d] => { results := [.lit (.bool true)], args := [d] }
  | _ => none }
def ltsPrintsRow : OpenClaim := { program := "ytbkooifhcekpmaagreatdoor", sum := "38799b2eed23d0016f8e4be1ffb29243e1ca3e31a7aeec9333475ad85f9a88eb", func := "bailiff/bailifflaw03.LtsPrints", spec := "ltsPrints", inPlace := ["internal/bytealg.IndexByteString", "internal/bytealg.abigen_runtime_cmpstring", "internal/abi.NoEscape"], unfollowed := true, recurses := true, named := ["internal/strconv.uint64pow10", "math/bits.deBruijn32tab", "math/bits.deBruijn64tab"], plainKeys := false, apart := false, laid := [("math/bits.deBruijn32tab", laid_math_bits_deBruijn32tab), ("math/bits.deBruijn64tab", laid_math_bits_deBruijn64tab), ("internal/strconv.uint64pow10", laid_internal_strconv_uint64pow10)] }
def LtsPrintsSaid : Prop := ltsPrintsRow.holds Tryz.pinned (OpenSpec.ofChange ltsPrintsSpec)

/-- ITS FALSE NEIGHBOUR: 'it returns false'. Refute it at one input. -/
def ltsPrintsWrong : ChangeSpec := { name := "ltsPrints", fn := fun _ => fun
  | [d] => { results := [.lit (.bool false)], args := [d] }
  | _ => none }
def LtsPrintsWrongFalsely : Prop := ltsPrintsRow.holds Tryz.pinned (OpenSpec.ofChange ltsPrintsWrong)

/-- 'bailifflaw03.LtsLines': WHATEVER THE INPUT: true; the input reads as it did. -/
def ltsLinesSpec : ChangeSpec := { name := "ltsLines", fn := fun _ => fun
  | [d1, d2, d3] => { results := [.lit (.bool true)], args := [d1, d2, d3] }
  | _ => none }
def ltsLinesRow : OpenClaim := { program := "ytbkooifhcekpmaagreatdoor", sum := "38799b2eed23d0016f8e4be1ffb29243e1ca3e31a7aeec9333475ad85f9a88eb", func := "bailiff/bailifflaw03.LtsLines", spec := "ltsLines", inPlace := ["internal/bytealg.IndexByteString", "internal/bytealg.abigen_runtime_cmpstring", "internal/abi.NoEscape"], unfollowed := true, recurses := true, named := ["internal/strconv.uint64pow10", "math/bits.deBruijn32tab", "math/bits.deBruijn64tab"], plainKeys := false, apart := false, laid := [("math/bits.deBruijn32tab", laid_math_bits_deBruijn32tab), ("math/bits.deBruijn64tab", laid_math_bits_deBruijn64tab), ("internal/strconv.uint64pow10", laid_internal_strconv_uint64pow10)] }
def LtsLinesSaid : Prop := ltsLinesRow.holds Tryz.pinned (OpenSpec.ofChange ltsLinesSpec)

/-- ITS FALSE NEIGHBOUR: 'it returns false'. Refute it at one input. -/
def ltsLinesWrong : ChangeSpec := { name := "ltsLines", fn := fun _ => fun
  | [d1, d2, d3] => { results := [.lit (.bool false)], args := [d1, d2, d3] }
  | _ => none }
def LtsLinesWrongFalsely : Prop := ltsLinesRow.holds Tryz.pinned (OpenSpec.ofChange ltsLinesWrong)

/-- 'bailifflaw03.LtsBack': WHATEVER THE INPUT: true; the input reads as it did. -/
def ltsBackSpec : ChangeSpec := { name := "ltsBack", fn := fun _ => fun
  | [d1, d2] => { results := [.lit (.bool true)], args := [d1, d2] }
  | _ => none }
def ltsBackRow : OpenClaim := { program := "ytbkooifhcekpmaagreatdoor", sum := "38799b2eed23d0016f8e4be1ffb29243e1ca3e31a7aeec9333475ad85f9a88eb", func := "bailiff/bailifflaw03.LtsBack", spec := "ltsBack", inPlace := ["internal/bytealg.IndexByteString", "internal/bytealg.abigen_runtime_cmpstring", "internal/abi.NoEscape", "internal/reflectlite.ValueOf", "(internal/reflectlite.Value).Type", "(internal/reflectlite.Value).IsNil", "internal/reflectlite.TypeOf", "(internal/reflectlite.Value).Elem", "(internal/reflectlite.Value).Set"], unfollowed := true, recurses := true, named := ["internal/strconv.uint64pow10", "math/bits.deBruijn32tab", "math/bits.deBruijn64tab", "errors.errorType"], plainKeys := false, apart := false, laid := [("math/bits.deBruijn32tab", laid_math_bits_deBruijn32tab), ("math/bits.deBruijn64tab", laid_math_bits_deBruijn64tab), ("internal/strconv.uint64pow10", laid_internal_strconv_uint64pow10), ("errors.errorType", laid_errors_errorType)] }
def LtsBackSaid : Prop := ltsBackRow.holds Tryz.pinned (OpenSpec.ofChange ltsBackSpec)

/-- ITS FALSE NEIGHBOUR: 'it returns false'. Refute it at one input. -/
def ltsBackWrong : ChangeSpec := { name := "ltsBack", fn := fun _ => fun
  | [d1, d2] => { results := [.lit (.bool false)], args := [d1, d2] }
  | _ => none }
def LtsBackWrongFalsely : Prop := ltsBackRow.holds Tryz.pinned (OpenSpec.ofChange ltsBackWrong)

/-- 'bailifflaw18.BisimKeeps': WHATEVER THE INPUT: true; the input reads as it did. -/
def bisimKeepsSpec : ChangeSpec := { name := "bisimKeeps", fn := fun _ => fun
  | [d1, d2] => { results := [.lit (.bool true)], args := [d1, d2] }
  | _ => none }
def bisimKeepsRow : OpenClaim := { program := "ytbkooifhcekpmaagreatdoor", sum := "38799b2eed23d0016f8e4be1ffb29243e1ca3e31a7aeec9333475ad85f9a88eb", func := "bailiff/bailifflaw18.BisimKeeps", spec := "bisimKeeps", inPlace := ["internal/bytealg.IndexByteString", "internal/bytealg.abigen_runtime_cmpstring"], unfollowed := true, recurses := true, named := ["math/bits.deBruijn64tab"], plainKeys := false, apart := false, laid := [("math/bits.deBruijn64tab", laid_math_bits_deBruijn64tab)] }
def BisimKeepsSaid : Prop := bisimKeepsRow.holds Tryz.pinned (OpenSpec.ofChange bisimKeepsSpec)

/-- ITS FALSE NEIGHBOUR: 'it returns false'. Refute it at one input. -/
def bisimKeepsWrong : ChangeSpec := { name := "bisimKeeps", fn := fun _ => fun
  | [d1, d2] => { results := [.lit (.bool false)], args := [d1, d2] }
  | _ => none }
def BisimKeepsWrongFalsely : Prop := bisimKeepsRow.holds Tryz.pinned (OpenSpec.ofChange bisimKeepsWrong)

/- THE SECOND FORM. 'bulk': how many values and letters a reading holds, each counted each time it is reached (what is shared counts as often as it is met; a slice's spare places count too). A statement '..UptoSaid' is the law's where the arguments, and the package variables that the reading takes, are together of bulk at most 1048576: NARROWER than '..Said'. Prove '..Said' where nothing that the law and all that it calls make is longer than what came in: it says more and counts as full. Else prove '..UptoSaid'. A law counts once. -/
mutual
def uptoBulk {H : Type} : DataW H → Nat
  | .lit (.string bytes) => bytes.length + 1
  | .lit _ => 1
  | .nil => 1
  | .ptr d => uptoBulk d + 1
  | .slice elems spare => uptoBulkAll elems + uptoBulkAll spare + 1
  | .agg parts => uptoBulkAll parts + 1
  | .iface _ d => uptoBulk d + 1
  | .map entries => uptoBulkEntries entries + 1
  | .held _ => 1
def uptoBulkAll {H : Type} : List (DataW H) → Nat
  | [] => 0
  | d :: r => uptoBulk d + uptoBulkAll r
def uptoBulkEntries {H : Type} : List (Lit × DataW H) → Nat
  | [] => 0
  | x :: r => uptoBulkEntry x + uptoBulkEntries r
def uptoBulkEntry {H : Type} : Lit × DataW H → Nat
  | (.string bytes, d) => bytes.length + uptoBulk d + 1
  | (_, d) => uptoBulk d + 1
 end
def uptoSmall : (H : Type) → List (DataW H) → Bool := fun _ ds => decide (uptoBulkAll ds ≤ 1048576)
def OpenSpec.upto (s : _root_.Go.ChangeSpec) : _root_.Go.OpenSpec := { _root_.Go.OpenSpec.ofChange s with cond := some uptoSmall }

/-- 'bailifflaw18.BisimClasses', WHERE WHAT IT READS IS OF BULK AT MOST 1048576: true; the input reads as it did. -/
def bisimClassesUptoRow : OpenClaim := { program := "ytbkooifhcekpmaagreatdoor", sum := "38799b2eed23d0016f8e4be1ffb29243e1ca3e31a7aeec9333475ad85f9a88eb", func := "bailiff/bailifflaw18.BisimClasses", spec := "bisimClasses", inPlace := ["internal/bytealg.IndexByteString", "internal/bytealg.abigen_runtime_cmpstring"], unfollowed := true, recurses := true, named := ["math/bits.deBruijn64tab"], plainKeys := false, apart := false, laid := [("math/bits.deBruijn64tab", laid_math_bits_deBruijn64tab)], narrowed := true }
def BisimClassesUptoSaid : Prop := bisimClassesUptoRow.holds Tryz.pinned (OpenSpec.upto bisimClassesSpec)

/-- 'bailifflaw18.BisimOnce', WHERE WHAT IT READS IS OF BULK AT MOST 1048576: true; the input reads as it did. -/
def bisimOnceUptoRow : OpenClaim := { program := "ytbkooifhcekpmaagreatdoor", sum := "38799b2eed23d0016f8e4be1ffb29243e1ca3e31a7aeec9333475ad85f9a88eb", func := "bailiff/bailifflaw18.BisimOnce", spec := "bisimOnce", inPlace := ["internal/bytealg.IndexByteString", "internal/bytealg.abigen_runtime_cmpstring"], unfollowed := true, recurses := true, named := ["math/bits.deBruijn64tab"], plainKeys := false, apart := false, laid := [("math/bits.deBruijn64tab", laid_math_bits_deBruijn64tab)], narrowed := true }
def BisimOnceUptoSaid : Prop := bisimOnceUptoRow.holds Tryz.pinned (OpenSpec.upto bisimOnceSpec)

/-- 'bailifflaw18.BisimAlike', WHERE WHAT IT READS IS OF BULK AT MOST 1048576: true; the input reads as it did. -/
def bisimAlikeUptoRow : OpenClaim := { program := "ytbkooifhcekpmaagreatdoor", sum := "38799b2eed23d0016f8e4be1ffb29243e1ca3e31a7aeec9333475ad85f9a88eb", func := "bailiff/bailifflaw18.BisimAlike", spec := "bisimAlike", inPlace := ["internal/bytealg.IndexByteString", "internal/bytealg.abigen_runtime_cmpstring"], unfollowed := true, recurses := true, named := ["math/bits.deBruijn64tab"], plainKeys := false, apart := false, laid := [("math/bits.deBruijn64tab", laid_math_bits_deBruijn64tab)], narrowed := true }
def BisimAlikeUptoSaid : Prop := bisimAlikeUptoRow.holds Tryz.pinned (OpenSpec.upto bisimAlikeSpec)

/-- 'bailifflaw18.BisimTwin', WHERE WHAT IT READS IS OF BULK AT MOST 1048576: true; the input reads as it did. -/
def bisimTwinUptoRow : OpenClaim := { program := "ytbkooifhcekpmaagreatdoor", sum := "38799b2eed23d0016f8e4be1ffb29243e1ca3e31a7aeec9333475ad85f9a88eb", func := "bailiff/bailifflaw18.BisimTwin", spec := "bisimTwin", inPlace := ["internal/bytealg.IndexByteString", "internal/bytealg.abigen_runtime_cmpstring"], unfollowed := true, recurses := true, named := ["math/bits.deBruijn64tab"], plainKeys := false, apart := false, laid := [("math/bits.deBruijn64tab", laid_math_bits_deBruijn64tab)], narrowed := true }
def BisimTwinUptoSaid : Prop := bisimTwinUptoRow.holds Tryz.pinned (OpenSpec.upto bisimTwinSpec)

/-- 'bailifflaw18.BisimTurned', WHERE WHAT IT READS IS OF BULK AT MOST 1048576: true; the input reads as it did. -/
def bisimTurnedUptoRow : OpenClaim := { program := "ytbkooifhcekpmaagreatdoor", sum := "38799b2eed23d0016f8e4be1ffb29243e1ca3e31a7aeec9333475ad85f9a88eb", func := "bailiff/bailifflaw18.BisimTurned", spec := "bisimTurned", inPlace := ["internal/bytealg.IndexByteString", "internal/bytealg.abigen_runtime_cmpstring"], unfollowed := true, recurses := true, named := ["math/bits.deBruijn64tab"], plainKeys := false, apart := false, laid := [("math/bits.deBruijn64tab", laid_math_bits_deBruijn64tab)], narrowed := true }
def BisimTurnedUptoSaid : Prop := bisimTurnedUptoRow.holds Tryz.pinned (OpenSpec.upto bisimTurnedSpec)

/-- 'bailifflaw03.LtsPrints', WHERE WHAT IT READS IS OF BULK AT MOST 1048576: true; the input reads as it did. -/
def ltsPrintsUptoRow : OpenClaim := { program := "ytbkooifhcekpmaagreatdoor", sum := "38799b2eed23d0016f8e4be1ffb29243e1ca3e31a7aeec9333475ad85f9a88eb", func := "bailiff/bailifflaw03.LtsPrints", spec := "ltsPrints", inPlace := ["internal/bytealg.IndexByteString", "internal/bytealg.abigen_runtime_cmpstring", "internal/abi.NoEscape"], unfollowed := true, recurses := true, named := ["internal/strconv.uint64pow10", "math/bits.deBruijn32tab", "math/bits.deBruijn64tab"], plainKeys := false, apart := false, laid := [("math/bits.deBruijn32tab", laid_math_bits_deBruijn32tab), ("math/bits.deBruijn64tab", laid_math_bits_deBruijn64tab), ("internal/strconv.uint64pow10", laid_internal_strconv_uint64pow10)], narrowed := true }
def LtsPrintsUptoSaid : Prop := ltsPrintsUptoRow.holds Tryz.pinned (OpenSpec.upto ltsPrintsSpec)

/-- 'bailifflaw03.LtsLines', WHERE WHAT IT READS IS OF BULK AT MOST 1048576: true; the input reads as it did. -/
def ltsLinesUptoRow : OpenClaim := { program := "ytbkooifhcekpmaagreatdoor", sum := "38799b2eed23d0016f8e4be1ffb29243e1ca3e31a7aeec9333475ad85f9a88eb", func := "bailiff/bailifflaw03.LtsLines", spec := "ltsLines", inPlace := ["internal/bytealg.IndexByteString", "internal/bytealg.abigen_runtime_cmpstring", "internal/abi.NoEscape"], unfollowed := true, recurses := true, named := ["internal/strconv.uint64pow10", "math/bits.deBruijn32tab", "math/bits.deBruijn64tab"], plainKeys := false, apart := false, laid := [("math/bits.deBruijn32tab", laid_math_bits_deBruijn32tab), ("math/bits.deBruijn64tab", laid_math_bits_deBruijn64tab), ("internal/strconv.uint64pow10", laid_internal_strconv_uint64pow10)], narrowed := true }
def LtsLinesUptoSaid : Prop := ltsLinesUptoRow.holds Tryz.pinned (OpenSpec.upto ltsLinesSpec)

/-- 'bailifflaw03.LtsBack', WHERE WHAT IT READS IS OF BULK AT MOST 1048576: true; the input reads as it did. -/
def ltsBackUptoRow : OpenClaim := { program := "ytbkooifhcekpmaagreatdoor", sum := "38799b2eed23d0016f8e4be1ffb29243e1ca3e31a7aeec9333475ad85f9a88eb", func := "bailiff/bailifflaw03.LtsBack", spec := "ltsBack", inPlace := ["internal/bytealg.IndexByteString", "internal/bytealg.abigen_runtime_cmpstring", "internal/abi.NoEscape", "internal/reflectlite.ValueOf", "(internal/reflectlite.Value).Type", "(internal/reflectlite.Value).IsNil", "internal/reflectlite.TypeOf", "(internal/reflectlite.Value).Elem", "(internal/reflectlite.Value).Set"], unfollowed := true, recurses := true, named := ["internal/strconv.uint64pow10", "math/bits.deBruijn32tab", "math/bits.deBruijn64tab", "errors.errorType"], plainKeys := false, apart := false, laid := [("math/bits.deBruijn32tab", laid_math_bits_deBruijn32tab), ("math/bits.deBruijn64tab", laid_math_bits_deBruijn64tab), ("internal/strconv.uint64pow10", laid_internal_strconv_uint64pow10), ("errors.errorType", laid_errors_errorType)], narrowed := true }
def LtsBackUptoSaid : Prop := ltsBackUptoRow.holds Tryz.pinned (OpenSpec.upto ltsBackSpec)

/-- 'bailifflaw18.BisimKeeps', WHERE WHAT IT READS IS OF BULK AT MOST 1048576: true; the input reads as it did. -/
def bisimKeepsUptoRow : OpenClaim := { program := "ytbkooifhcekpmaagreatdoor", sum := "38799b2eed23d0016f8e4be1ffb29243e1ca3e31a7aeec9333475ad85f9a88eb", func := "bailiff/bailifflaw18.BisimKeeps", spec := "bisimKeeps", inPlace := ["internal/bytealg.IndexByteString", "internal/bytealg.abigen_runtime_cmpstring"], unfollowed := true, recurses := true, named := ["math/bits.deBruijn64tab"], plainKeys := false, apart := false, laid := [("math/bits.deBruijn64tab", laid_math_bits_deBruijn64tab)], narrowed := true }
def BisimKeepsUptoSaid : Prop := bisimKeepsUptoRow.holds Tryz.pinned (OpenSpec.upto bisimKeepsSpec)

end Rows
end Go.Proofs.YtbkooifhcekpmaaGreatDoor
