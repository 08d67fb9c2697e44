/-
  No cell of these rows narrows 'for every input' (looked for: loops, veiled, ifaces, maps, wideKeys, modest, calm, conditions, laid).
  DERIVED. THE GIVEN ROWS OF THIS SEAT. 12 by the template 'for every input the law returns true; each argument reads behind the call as it read before'; 0 by the template 'total and deterministic' (their statements: YtmkidaijgdgcjaaTotals.lean).
  GIVEN WITH THE SEED: the statements are not yours to turn. If you find one false, say at which input.
  Laid BY PROGRAM, IN A SANDBOX (cutbox-rows.mjs): the forced cells as the released guide's own fill.sh prints them over the translation 213eb6d2a6383c05… (all of the seat's roots in one cut). By AI agents, Wed Nov 11 2026. No macro, syntax, notation, axiom, sorry.
-/
import Derived.Test.YtmkidaijgdgcjaaChecked
import GoSem.Claim
import GoSem.ClaimJoined
import GoSem.ClaimMapViews
import Derived.JoinedTies
import Derived.KernelRfl
namespace Go.Proofs.Ytmkidaijgdgcjaa
/- THE CELL 'sum', in the pinned program and in every row, IS THE sha256 OF THE DUMP (.gsa) THAT YtmkidaijgdgcjaaProg.lean LOADS. Nothing in Lean hashes anything: it is a label: what it is worth is what the hold of that sum in a sandbox is worth. -/
noncomputable def Try.pinned : Pinned := { name := "ytmkidaijgdgcjaa", sum := "213eb6d2a6383c05ce7ee8049f4bbcf89b9fdf837cfbbd6ce1305f447df14664", checked := Try.checked }
namespace Rows
def none {H : Type} : Left H := { results := [], args := [] }

/-- 'bailifflaw15.CyclesParts': WHATEVER THE INPUT: true; the input reads as it did. -/
def cyclesPartsSpec : ChangeSpec := { name := "cyclesParts", fn := fun _ => fun
  | [d] => { results := [.lit (.bool true)], args := [d] }
  | _ => none }
def cyclesPartsRow : OpenClaim := { program := "ytmkidaijgdgcjaa", sum := "213eb6d2a6383c05ce7ee8049f4bbcf89b9fdf837cfbbd6ce1305f447df14664", func := "bailiff/bailifflaw15.CyclesParts", spec := "cyclesParts", unfollowed := true, recurses := true, apart := false }
def CyclesPartsSaid : Prop := cyclesPartsRow.holds Try.pinned (OpenSpec.ofChange cyclesPartsSpec)

/-- ITS FALSE NEIGHBOUR: 'it returns false'. Refute it at one input. -/
def cyclesPartsWrong : ChangeSpec := { name := "cyclesParts", fn := fun _ => fun
  | [d] => { results := [.lit (.bool false)], args := [d] }
  | _ => none }
def CyclesPartsWrongFalsely : Prop := cyclesPartsRow.holds Try.pinned (OpenSpec.ofChange cyclesPartsWrong)

/-- 'bailifflaw15.CyclesBad': WHATEVER THE INPUT: true; the input reads as it did. -/
def cyclesBadSpec : ChangeSpec := { name := "cyclesBad", fn := fun _ => fun
  | [d1, d2, d3] => { results := [.lit (.bool true)], args := [d1, d2, d3] }
  | _ => none }
def cyclesBadRow : OpenClaim := { program := "ytmkidaijgdgcjaa", sum := "213eb6d2a6383c05ce7ee8049f4bbcf89b9fdf837cfbbd6ce1305f447df14664", func := "bailiff/bailifflaw15.CyclesBad", spec := "cyclesBad", unfollowed := true, recurses := true, apart := false }
def CyclesBadSaid : Prop := cyclesBadRow.holds Try.pinned (OpenSpec.ofChange cyclesBadSpec)

/-- ITS FALSE NEIGHBOUR: 'it returns false'. Refute it at one input. -/
def cyclesBadWrong : ChangeSpec := { name := "cyclesBad", fn := fun _ => fun
  | [d1, d2, d3] => { results := [.lit (.bool false)], args := [d1, d2, d3] }
  | _ => none }
def CyclesBadWrongFalsely : Prop := cyclesBadRow.holds Try.pinned (OpenSpec.ofChange cyclesBadWrong)

/-- 'bailifflaw15.CyclesTurned': WHATEVER THE INPUT: true; the input reads as it did. -/
def cyclesTurnedSpec : ChangeSpec := { name := "cyclesTurned", fn := fun _ => fun
  | [d] => { results := [.lit (.bool true)], args := [d] }
  | _ => none }
def cyclesTurnedRow : OpenClaim := { program := "ytmkidaijgdgcjaa", sum := "213eb6d2a6383c05ce7ee8049f4bbcf89b9fdf837cfbbd6ce1305f447df14664", func := "bailiff/bailifflaw15.CyclesTurned", spec := "cyclesTurned", unfollowed := true, recurses := true, apart := false }
def CyclesTurnedSaid : Prop := cyclesTurnedRow.holds Try.pinned (OpenSpec.ofChange cyclesTurnedSpec)

/-- ITS FALSE NEIGHBOUR: 'it returns false'. Refute it at one input. -/
def cyclesTurnedWrong : ChangeSpec := { name := "cyclesTurned", fn := fun _ => fun
  | [d] => { results := [.lit (.bool false)], args := [d] }
  | _ => none }
def CyclesTurnedWrongFalsely : Prop := cyclesTurnedRow.holds Try.pinned (OpenSpec.ofChange cyclesTurnedWrong)

/-- 'bailifflaw15.CyclesEither': WHATEVER THE INPUT: true; the input reads as it did. -/
def cyclesEitherSpec : ChangeSpec := { name := "cyclesEither", fn := fun _ => fun
  | [d1, d2] => { results := [.lit (.bool true)], args := [d1, d2] }
  | _ => none }
def cyclesEitherRow : OpenClaim := { program := "ytmkidaijgdgcjaa", sum := "213eb6d2a6383c05ce7ee8049f4bbcf89b9fdf837cfbbd6ce1305f447df14664", func := "bailiff/bailifflaw15.CyclesEither", spec := "cyclesEither", unfollowed := true, recurses := true, apart := false }
def CyclesEitherSaid : Prop := cyclesEitherRow.holds Try.pinned (OpenSpec.ofChange cyclesEitherSpec)

/-- ITS FALSE NEIGHBOUR: 'it returns false'. Refute it at one input. -/
def cyclesEitherWrong : ChangeSpec := { name := "cyclesEither", fn := fun _ => fun
  | [d1, d2] => { results := [.lit (.bool false)], args := [d1, d2] }
  | _ => none }
def CyclesEitherWrongFalsely : Prop := cyclesEitherRow.holds Try.pinned (OpenSpec.ofChange cyclesEitherWrong)

/-- 'bailifflaw15.CyclesLess': WHATEVER THE INPUT: true; the input reads as it did. -/
def cyclesLessSpec : ChangeSpec := { name := "cyclesLess", fn := fun _ => fun
  | [d1, d2, d3, d4] => { results := [.lit (.bool true)], args := [d1, d2, d3, d4] }
  | _ => none }
def cyclesLessRow : OpenClaim := { program := "ytmkidaijgdgcjaa", sum := "213eb6d2a6383c05ce7ee8049f4bbcf89b9fdf837cfbbd6ce1305f447df14664", func := "bailiff/bailifflaw15.CyclesLess", spec := "cyclesLess", unfollowed := true, recurses := true, apart := false }
def CyclesLessSaid : Prop := cyclesLessRow.holds Try.pinned (OpenSpec.ofChange cyclesLessSpec)

/-- ITS FALSE NEIGHBOUR: 'it returns false'. Refute it at one input. -/
def cyclesLessWrong : ChangeSpec := { name := "cyclesLess", fn := fun _ => fun
  | [d1, d2, d3, d4] => { results := [.lit (.bool false)], args := [d1, d2, d3, d4] }
  | _ => none }
def CyclesLessWrongFalsely : Prop := cyclesLessRow.holds Try.pinned (OpenSpec.ofChange cyclesLessWrong)

/-- 'bailifflaw15.CyclesTwo': WHATEVER THE INPUT: true; the input reads as it did. -/
def cyclesTwoSpec : ChangeSpec := { name := "cyclesTwo", fn := fun _ => fun
  | [d1, d2, d3, d4] => { results := [.lit (.bool true)], args := [d1, d2, d3, d4] }
  | _ => none }
def cyclesTwoRow : OpenClaim := { program := "ytmkidaijgdgcjaa", sum := "213eb6d2a6383c05ce7ee8049f4bbcf89b9fdf837cfbbd6ce1305f447df14664", func := "bailiff/bailifflaw15.CyclesTwo", spec := "cyclesTwo", unfollowed := true, recurses := true, apart := false }
def CyclesTwoSaid : Prop := cyclesTwoRow.holds Try.pinned (OpenSpec.ofChange cyclesTwoSpec)

/-- ITS FALSE NEIGHBOUR: 'it returns false'. Refute it at one input. -/
def cyclesTwoWrong : ChangeSpec := { name := "cyclesTwo", fn := fun _ => fun
  | [d1, d2, d3, d4] => { results := [.lit (.bool false)], args := [d1, d2, d3, d4] }
  | _ => none }
def CyclesTwoWrongFalsely : Prop := cyclesTwoRow.holds Try.pinned (OpenSpec.ofChange cyclesTwoWrong)

/-- 'bailifflaw16.JudgeSays': WHATEVER THE INPUT: true; the input reads as it did. -/
def judgeSaysSpec : ChangeSpec := { name := "judgeSays", fn := fun _ => fun
  | [d1, d2] => { results := [.lit (.bool true)], args := [d1, d2] }
  | _ => none }
def judgeSaysRow : OpenClaim := { program := "ytmkidaijgdgcjaa", sum := "213eb6d2a6383c05ce7ee8049f4bbcf89b9fdf837cfbbd6ce1305f447df14664", func := "bailiff/bailifflaw16.JudgeSays", spec := "judgeSays", unfollowed := true, recurses := true, apart := false }
def JudgeSaysSaid : Prop := judgeSaysRow.holds Try.pinned (OpenSpec.ofChange judgeSaysSpec)

/-- ITS FALSE NEIGHBOUR: 'it returns false'. Refute it at one input. -/
def judgeSaysWrong : ChangeSpec := { name := "judgeSays", fn := fun _ => fun
  | [d1, d2] => { results := [.lit (.bool false)], args := [d1, d2] }
  | _ => none }
def JudgeSaysWrongFalsely : Prop := judgeSaysRow.holds Try.pinned (OpenSpec.ofChange judgeSaysWrong)

/-- 'bailifflaw16.JudgeBlind': WHATEVER THE INPUT: true; the input reads as it did. -/
def judgeBlindSpec : ChangeSpec := { name := "judgeBlind", fn := fun _ => fun
  | [d1, d2, d3] => { results := [.lit (.bool true)], args := [d1, d2, d3] }
  | _ => none }
def judgeBlindRow : OpenClaim := { program := "ytmkidaijgdgcjaa", sum := "213eb6d2a6383c05ce7ee8049f4bbcf89b9fdf837cfbbd6ce1305f447df14664", func := "bailiff/bailifflaw16.JudgeBlind", spec := "judgeBlind", unfollowed := true, recurses := true, apart := false }
def JudgeBlindSaid : Prop := judgeBlindRow.holds Try.pinned (OpenSpec.ofChange judgeBlindSpec)

/-- ITS FALSE NEIGHBOUR: 'it returns false'. Refute it at one input. -/
def judgeBlindWrong : ChangeSpec := { name := "judgeBlind", fn := fun _ => fun
  | [d1, d2, d3] => { results := [.lit (.bool false)], args := [d1, d2, d3] }
  | _ => none }
def JudgeBlindWrongFalsely : Prop := judgeBlindRow.holds Try.pinned (OpenSpec.ofChange judgeBlindWrong)

/-- 'bailifflaw16.JudgeSpoilt': WHATEVER THE INPUT: true; the input reads as it did. -/
def judgeSpoiltSpec : ChangeSpec := { name := "judgeSpoilt", fn := fun _ => fun
  | [d1, d2, d3] => { results := [.lit (.bool true)], args := [d1, d2, d3] }
  | _ => none }
def judgeSpoiltRow : OpenClaim := { program := "ytmkidaijgdgcjaa", sum := "213eb6d2a6383c05ce7ee8049f4bbcf89b9fdf837cfbbd6ce1305f447df14664", func := "bailiff/bailifflaw16.JudgeSpoilt", spec := "judgeSpoilt", unfollowed := true, recurses := true, apart := false }
def JudgeSpoiltSaid : Prop := judgeSpoiltRow.holds Try.pinned (OpenSpec.ofChange judgeSpoiltSpec)

/-- ITS FALSE NEIGHBOUR: 'it returns false'. Refute it at one input. -/
def judgeSpoiltWrong : ChangeSpec := { name := "judgeSpoilt", fn := fun _ => fun
  | [d1, d2, d3] => { results := [.lit (.bool false)], args := [d1, d2, d3] }
  | _ => none }
def JudgeSpoiltWrongFalsely : Prop := judgeSpoiltRow.holds Try.pinned (OpenSpec.ofChange judgeSpoiltWrong)

/-- 'bailifflaw16.JudgeLeaves': WHATEVER THE INPUT: true; the input reads as it did. -/
def judgeLeavesSpec : ChangeSpec := { name := "judgeLeaves", fn := fun _ => fun
  | [d1, d2, d3, d4] => { results := [.lit (.bool true)], args := [d1, d2, d3, d4] }
  | _ => none }
def judgeLeavesRow : OpenClaim := { program := "ytmkidaijgdgcjaa", sum := "213eb6d2a6383c05ce7ee8049f4bbcf89b9fdf837cfbbd6ce1305f447df14664", func := "bailiff/bailifflaw16.JudgeLeaves", spec := "judgeLeaves", unfollowed := true, recurses := true, apart := false }
def JudgeLeavesSaid : Prop := judgeLeavesRow.holds Try.pinned (OpenSpec.ofChange judgeLeavesSpec)

/-- ITS FALSE NEIGHBOUR: 'it returns false'. Refute it at one input. -/
def judgeLeavesWrong : ChangeSpec := { name := "judgeLeaves", fn := fun _ => fun
  | [d1, d2, d3, d4] => { results := [.lit (.bool false)], args := [d1, d2, d3, d4] }
  | _ => none }
def JudgeLeavesWrongFalsely : Prop := judgeLeavesRow.holds Try.pinned (OpenSpec.ofChange judgeLeavesWrong)

/-- 'bailifflaw16.JudgeOne': WHATEVER THE INPUT: true; the input reads as it did. -/
def judgeOneSpec : ChangeSpec := { name := "judgeOne", fn := fun _ => fun
  | [d1, d2] => { results := [.lit (.bool true)], args := [d1, d2] }
  | _ => none }
def judgeOneRow : OpenClaim := { program := "ytmkidaijgdgcjaa", sum := "213eb6d2a6383c05ce7ee8049f4bbcf89b9fdf837cfbbd6ce1305f447df14664", func := "bailiff/bailifflaw16.JudgeOne", spec := "judgeOne", unfollowed := true, recurses := true, apart := false }
def JudgeOneSaid : Prop := judgeOneRow.holds Try.pinned (OpenSpec.ofChange judgeOneSpec)

/-- ITS FALSE NEIGHBOUR: 'it returns false'. Refute it at one input. -/
def judgeOneWrong : ChangeSpec := { name := "judgeOne", fn := fun _ => fun
  | [d1, d2] => { results := [.lit (.bool false)], args := [d1, d2] }
  | _ => none }
def JudgeOneWrongFalsely : Prop := judgeOneRow.holds Try.pinned (OpenSpec.ofChange judgeOneWrong)

/-- 'bailifflaw16.JudgeDual': WHATEVER THE INPUT: true; the input reads as it did. -/
def judgeDualSpec : ChangeSpec := { name := "judgeDual", fn := fun _ => fun
  | [d1, d2] => { results := [.lit (.bool true)], args := [d1, d2] }
  | _ => none }
def judgeDualRow : OpenClaim := { program := "ytmkidaijgdgcjaa", sum := "213eb6d2a6383c05ce7ee8049f4bbcf89b9fdf837cfbbd6ce1305f447df14664", func := "bailiff/bailifflaw16.JudgeDual", spec := "judgeDual", unfollowed := true, recurses := true, apart := false }
def JudgeDualSaid : Prop := judgeDualRow.holds Try.pinned (OpenSpec.ofChange judgeDualSpec)

/-- ITS FALSE NEIGHBOUR: 'it returns false'. Refute it at one input. -/
def judgeDualWrong : ChangeSpec := { name := "judgeDual", fn := fun _ => fun
  | [d1, d2] => { results := [.lit (.bool false)], args := [d1, d2] }
  | _ => none }
def JudgeDualWrongFalsely : Prop := judgeDualRow.holds Try.pinned (OpenSpec.ofChange judgeDualWrong)

/- THE SECOND FORM. 'bulk': how many values and letters a reading holds, each counted each time it is reached (what is shared counts as often as it is met; a slice's spare places count too). A statement '..UptoSaid' is the law's where the arguments, and the package variables that the reading takes, are together of bulk at most 1048576: NARROWER than '..Said'. Prove '..Said' where nothing that the law and all that it calls make is longer than what came in: it says more and counts as full. Else prove '..UptoSaid'. A law counts once. -/
mutual
def uptoBulk {H : Type} : DataW H → Nat
  | .lit (.string bytes) => bytes.length + 1
  | .lit _ => 1
  | .nil => 1
  | .ptr d => uptoBulk d + 1
  | .slice elems spare => uptoBulkAll elems + uptoBulkAll spare + 1
  | .agg parts => uptoBulkAll parts + 1
  | .iface _ d => uptoBulk d + 1
  | .map entries => uptoBulkEntries entries + 1
  | .held _ => 1
def uptoBulkAll {H : Type} : List (DataW H) → Nat
  | [] => 0
  | d :: r => uptoBulk d + uptoBulkAll r
def uptoBulkEntries {H : Type} : List (Lit × DataW H) → Nat
  | [] => 0
  | x :: r => uptoBulkEntry x + uptoBulkEntries r
def uptoBulkEntry {H : Type} : Lit × DataW H → Nat
  | (.string bytes, d) => bytes.length + uptoBulk d + 1
  | (_, d) => uptoBulk d + 1
 end
def uptoSmall : (H : Type) → List (DataW H) → Bool := fun _ ds => decide (uptoBulkAll ds ≤ 1048576)
def OpenSpec.upto (s : _root_.Go.ChangeSpec) : _root_.Go.OpenSpec := { _root_.Go.OpenSpec.ofChange s with cond := some uptoSmall }

/-- 'bailifflaw15.CyclesParts', WHERE WHAT IT READS IS OF BULK AT MOST 1048576: true; the input reads as it did. -/
def cyclesPartsUptoRow : OpenClaim := { program := "ytmkidaijgdgcjaa", sum := "213eb6d2a6383c05ce7ee8049f4bbcf89b9fdf837cfbbd6ce1305f447df14664", func := "bailiff/bailifflaw15.CyclesParts", spec := "cyclesParts", unfollowed := true, recurses := true, apart := false, narrowed := true }
def CyclesPartsUptoSaid : Prop := cyclesPartsUptoRow.holds Try.pinned (OpenSpec.upto cyclesPartsSpec)

/-- 'bailifflaw15.CyclesBad', WHERE WHAT IT READS IS OF BULK AT MOST 1048576: true; the input reads as it did. -/
def cyclesBadUptoRow : OpenClaim := { program := "ytmkidaijgdgcjaa", sum := "213eb6d2a6383c05ce7ee8049f4bbcf89b9fdf837cfbbd6ce1305f447df14664", func := "bailiff/bailifflaw15.CyclesBad", spec := "cyclesBad", unfollowed := true, recurses := true, apart := false, narrowed := true }
def CyclesBadUptoSaid : Prop := cyclesBadUptoRow.holds Try.pinned (OpenSpec.upto cyclesBadSpec)

/-- 'bailifflaw15.CyclesTurned', WHERE WHAT IT READS IS OF BULK AT MOST 1048576: true; the input reads as it did. -/
def cyclesTurnedUptoRow : OpenClaim := { program := "ytmkidaijgdgcjaa", sum := "213eb6d2a6383c05ce7ee8049f4bbcf89b9fdf837cfbbd6ce1305f447df14664", func := "bailiff/bailifflaw15.CyclesTurned", spec := "cyclesTurned", unfollowed := true, recurses := true, apart := false, narrowed := true }
def CyclesTurnedUptoSaid : Prop := cyclesTurnedUptoRow.holds Try.pinned (OpenSpec.upto cyclesTurnedSpec)

/-- 'bailifflaw15.CyclesEither', WHERE WHAT IT READS IS OF BULK AT MOST 1048576: true; the input reads as it did. -/
def cyclesEitherUptoRow : OpenClaim := { program := "ytmkidaijgdgcjaa", sum := "213eb6d2a6383c05ce7ee8049f4bbcf89b9fdf837cfbbd6ce1305f447df14664", func := "bailiff/bailifflaw15.CyclesEither", spec := "cyclesEither", unfollowed := true, recurses := true, apart := false, narrowed := true }
def CyclesEitherUptoSaid : Prop := cyclesEitherUptoRow.holds Try.pinned (OpenSpec.upto cyclesEitherSpec)

/-- 'bailifflaw15.CyclesLess', WHERE WHAT IT READS IS OF BULK AT MOST 1048576: true; the input reads as it did. -/
def cyclesLessUptoRow : OpenClaim := { program := "ytmkidaijgdgcjaa", sum := "213eb6d2a6383c05ce7ee8049f4bbcf89b9fdf837cfbbd6ce1305f447df14664", func := "bailiff/bailifflaw15.CyclesLess", spec := "cyclesLess", unfollowed := true, recurses := true, apart := false, narrowed := true }
def CyclesLessUptoSaid : Prop := cyclesLessUptoRow.holds Try.pinned (OpenSpec.upto cyclesLessSpec)

/-- 'bailifflaw15.CyclesTwo', WHERE WHAT IT READS IS OF BULK AT MOST 1048576: true; the input reads as it did. -/
def cyclesTwoUptoRow : OpenClaim := { program := "ytmkidaijgdgcjaa", sum := "213eb6d2a6383c05ce7ee8049f4bbcf89b9fdf837cfbbd6ce1305f447df14664", func := "bailiff/bailifflaw15.CyclesTwo", spec := "cyclesTwo", unfollowed := true, recurses := true, apart := false, narrowed := true }
def CyclesTwoUptoSaid : Prop := cyclesTwoUptoRow.holds Try.pinned (OpenSpec.upto cyclesTwoSpec)

/-- 'bailifflaw16.JudgeSays', WHERE WHAT IT READS IS OF BULK AT MOST 1048576: true; the input reads as it did. -/
def judgeSaysUptoRow : OpenClaim := { program := "ytmkidaijgdgcjaa", sum := "213eb6d2a6383c05ce7ee8049f4bbcf89b9fdf837cfbbd6ce1305f447df14664", func := "bailiff/bailifflaw16.JudgeSays", spec := "judgeSays", unfollowed := true, recurses := true, apart := false, narrowed := true }
def JudgeSaysUptoSaid : Prop := judgeSaysUptoRow.holds Try.pinned (OpenSpec.upto judgeSaysSpec)

/-- 'bailifflaw16.JudgeBlind', WHERE WHAT IT READS IS OF BULK AT MOST 1048576: true; the input reads as it did. -/
def judgeBlindUptoRow : OpenClaim := { program := "ytmkidaijgdgcjaa", sum := "213eb6d2a6383c05ce7ee8049f4bbcf89b9fdf837cfbbd6ce1305f447df14664", func := "bailiff/bailifflaw16.JudgeBlind", spec := "judgeBlind", unfollowed := true, recurses := true, apart := false, narrowed := true }
def JudgeBlindUptoSaid : Prop := judgeBlindUptoRow.holds Try.pinned (OpenSpec.upto judgeBlindSpec)

/-- 'bailifflaw16.JudgeSpoilt', WHERE WHAT IT READS IS OF BULK AT MOST 1048576: true; the input reads as it did. -/
def judgeSpoiltUptoRow : OpenClaim := { program := "ytmkidaijgdgcjaa", sum := "213eb6d2a6383c05ce7ee8049f4bbcf89b9fdf837cfbbd6ce1305f447df14664", func := "bailiff/bailifflaw16.JudgeSpoilt", spec := "judgeSpoilt", unfollowed := true, recurses := true, apart := false, narrowed := true }
def JudgeSpoiltUptoSaid : Prop := judgeSpoiltUptoRow.holds Try.pinned (OpenSpec.upto judgeSpoiltSpec)

/-- 'bailifflaw16.JudgeLeaves', WHERE WHAT IT READS IS OF BULK AT MOST 1048576: true; the input reads as it did. -/
def judgeLeavesUptoRow : OpenClaim := { program := "ytmkidaijgdgcjaa", sum := "213eb6d2a6383c05ce7ee8049f4bbcf89b9fdf837cfbbd6ce1305f447df14664", func := "bailiff/bailifflaw16.JudgeLeaves", spec := "judgeLeaves", unfollowed := true, recurses := true, apart := false, narrowed := true }
def JudgeLeavesUptoSaid : Prop := judgeLeavesUptoRow.holds Try.pinned (OpenSpec.upto judgeLeavesSpec)

/-- 'bailifflaw16.JudgeOne', WHERE WHAT IT READS IS OF BULK AT MOST 1048576: true; the input reads as it did. -/
def judgeOneUptoRow : OpenClaim := { program := "ytmkidaijgdgcjaa", sum := "213eb6d2a6383c05ce7ee8049f4bbcf89b9fdf837cfbbd6ce1305f447df14664", func := "bailiff/bailifflaw16.JudgeOne", spec := "judgeOne", unfollowed := true, recurses := true, apart := false, narrowed := true }
def JudgeOneUptoSaid : Prop := judgeOneUptoRow.holds Try.pinned (OpenSpec.upto judgeOneSpec)

/-- 'bailifflaw16.JudgeDual', WHERE WHAT IT READS IS OF BULK AT MOST 1048576: true; the input reads as it did. -/
def judgeDualUptoRow : OpenClaim := { program := "ytmkidaijgdgcjaa", sum := "213eb6d2a6383c05ce7ee8049f4bbcf89b9fdf837cfbbd6ce1305f447df14664", func := "bailiff/bailifflaw16.JudgeDual", spec := "judgeDual", unfollowed := true, recurses := true, apart := false, narrowed := true }
def JudgeDualUptoSaid : Prop := judgeDualUptoRow.holds Try.pinned (OpenSpec.upto judgeDualSpec)

end Rows
end Go.Proofs.Ytmkidaijgdgcjaa
