/-
  No cell of these rows narrows 'for every input' (looked for: loops, veiled, ifaces, maps, wideKeys, modest, calm, conditions, laid).
  DERIVED. THE GIVEN ROWS OF THIS SEAT. 3 by the template 'for every input the law returns true; each argument reads behind the call as it read before'; 0 by the template 'total and deterministic' (their statements: YtbkooifhcekpmaaGreatTotals.lean).
  GIVEN WITH THE SEED: the statements are not yours to turn. If you find one false, say at which input.
  Laid BY PROGRAM, IN A SANDBOX (cutbox-rows.mjs): the forced cells as the released guide's own fill.sh prints them over the translation 414d782ceee8e9cc… (all of the seat's roots in one cut). By AI agents, Wed Nov 11 2026. No macro, syntax, notation, axiom, sorry.
-/
import Derived.Test.YtbkooifhcekpmaaGreatChecked
import GoSem.Claim
import GoSem.ClaimJoined
import GoSem.ClaimMapViews
import Derived.JoinedTies
import Derived.KernelRfl
namespace Go.Proofs.YtbkooifhcekpmaaGreat
/- THE CELL 'sum', in the pinned program and in every row, IS THE sha256 OF THE DUMP (.gsa) THAT YtbkooifhcekpmaaGreatProg.lean LOADS. Nothing in Lean hashes anything: it is a label: what it is worth is what the hold of that sum in a sandbox is worth. -/
noncomputable def Tryz.pinned : Pinned := { name := "ytbkooifhcekpmaagreat", sum := "414d782ceee8e9cc0eb0324b440ff83bda74cc1cbaef96e65b86e7104a302e75", checked := Tryz.checked }
namespace Rows
def none {H : Type} : Left H := { results := [], args := [] }

/-- 'bailifflaw03.LtsRights': WHATEVER THE INPUT: true; the input reads as it did. -/
def ltsRightsSpec : ChangeSpec := { name := "ltsRights", fn := fun _ => fun
  | [d] => { results := [.lit (.bool true)], args := [d] }
  | _ => none }
def ltsRightsRow : OpenClaim := { program := "ytbkooifhcekpmaagreat", sum := "414d782ceee8e9cc0eb0324b440ff83bda74cc1cbaef96e65b86e7104a302e75", func := "bailiff/bailifflaw03.LtsRights", spec := "ltsRights", inPlace := ["internal/bytealg.IndexByteString", "internal/bytealg.abigen_runtime_cmpstring"], unfollowed := true, recurses := true, plainKeys := false, apart := false }
def LtsRightsSaid : Prop := ltsRightsRow.holds Tryz.pinned (OpenSpec.ofChange ltsRightsSpec)

/-- ITS FALSE NEIGHBOUR: 'it returns false'. Refute it at one input. -/
def ltsRightsWrong : ChangeSpec := { name := "ltsRights", fn := fun _ => fun
  | [d] => { results := [.lit (.bool false)], args := [d] }
  | _ => none }
def LtsRightsWrongFalsely : Prop := ltsRightsRow.holds Tryz.pinned (OpenSpec.ofChange ltsRightsWrong)

/-- 'bailifflaw03.LtsTables': WHATEVER THE INPUT: true; the input reads as it did. -/
def ltsTablesSpec : ChangeSpec := { name := "ltsTables", fn := fun _ => fun
  | [d1, d2] => { results := [.lit (.bool true)], args := [d1, d2] }
  | _ => none }
def ltsTablesRow : OpenClaim := { program := "ytbkooifhcekpmaagreat", sum := "414d782ceee8e9cc0eb0324b440ff83bda74cc1cbaef96e65b86e7104a302e75", func := "bailiff/bailifflaw03.LtsTables", spec := "ltsTables", inPlace := ["internal/bytealg.IndexByteString", "internal/bytealg.abigen_runtime_cmpstring"], unfollowed := true, recurses := true, plainKeys := false, apart := false }
def LtsTablesSaid : Prop := ltsTablesRow.holds Tryz.pinned (OpenSpec.ofChange ltsTablesSpec)

/-- ITS FALSE NEIGHBOUR: 'it returns false'. Refute it at one input. -/
def ltsTablesWrong : ChangeSpec := { name := "ltsTables", fn := fun _ => fun
  | [d1, d2] => { results := [.lit (.bool false)], args := [d1, d2] }
  | _ => none }
def LtsTablesWrongFalsely : Prop := ltsTablesRow.holds Tryz.pinned (OpenSpec.ofChange ltsTablesWrong)

/-- 'bailifflaw03.LtsTurned': WHATEVER THE INPUT: true; the input reads as it did. -/
def ltsTurnedSpec : ChangeSpec := { name := "ltsTurned", fn := fun _ => fun
  | [d1, d2] => { results := [.lit (.bool true)], args := [d1, d2] }
  | _ => none }
def ltsTurnedRow : OpenClaim := { program := "ytbkooifhcekpmaagreat", sum := "414d782ceee8e9cc0eb0324b440ff83bda74cc1cbaef96e65b86e7104a302e75", func := "bailiff/bailifflaw03.LtsTurned", spec := "ltsTurned", inPlace := ["internal/bytealg.IndexByteString", "internal/bytealg.abigen_runtime_cmpstring"], unfollowed := true, recurses := true, plainKeys := false, apart := false }
def LtsTurnedSaid : Prop := ltsTurnedRow.holds Tryz.pinned (OpenSpec.ofChange ltsTurnedSpec)

/-- ITS FALSE NEIGHBOUR: 'it returns false'. Refute it at one input. -/
def ltsTurnedWrong : ChangeSpec := { name := "ltsTurned", fn := fun _ => fun
  | [d1, d2] => { results := [.lit (.bool false)], args := [d1, d2] }
  | _ => none }
def LtsTurnedWrongFalsely : Prop := ltsTurnedRow.holds Tryz.pinned (OpenSpec.ofChange ltsTurnedWrong)

/- THE SECOND FORM. 'bulk': how many values and letters a reading holds, each counted each time it is reached (what is shared counts as often as it is met; a slice's spare places count too). A statement '..UptoSaid' is the law's where the arguments, and the package variables that the reading takes, are together of bulk at most 1048576: NARROWER than '..Said'. Prove '..Said' where nothing that the law and all that it calls make is longer than what came in: it says more and counts as full. Else prove '..UptoSaid'. A law counts once. -/
mutual
def uptoBulk {H : Type} : DataW H → Nat
  | .lit (.string bytes) => bytes.length + 1
  | .lit _ => 1
  | .nil => 1
  | .ptr d => uptoBulk d + 1
  | .slice elems spare => uptoBulkAll elems + uptoBulkAll spare + 1
  | .agg parts => uptoBulkAll parts + 1
  | .iface _ d => uptoBulk d + 1
  | .map entries => uptoBulkEntries entries + 1
  | .held _ => 1
def uptoBulkAll {H : Type} : List (DataW H) → Nat
  | [] => 0
  | d :: r => uptoBulk d + uptoBulkAll r
def uptoBulkEntries {H : Type} : List (Lit × DataW H) → Nat
  | [] => 0
  | x :: r => uptoBulkEntry x + uptoBulkEntries r
def uptoBulkEntry {H : Type} : Lit × DataW H → Nat
  | (.string bytes, d) => bytes.length + uptoBulk d + 1
  | (_, d) => uptoBulk d + 1
 end
def uptoSmall : (H : Type) → List (DataW H) → Bool := fun _ ds => decide (uptoBulkAll ds ≤ 1048576)
def OpenSpec.upto (s : _root_.Go.ChangeSpec) : _root_.Go.OpenSpec := { _root_.Go.OpenSpec.ofChange s with cond := some uptoSmall }

/-- 'bailifflaw03.LtsRights', WHERE WHAT IT READS IS OF BULK AT MOST 1048576: true; the input reads as it did. -/
def ltsRightsUptoRow : OpenClaim := { program := "ytbkooifhcekpmaagreat", sum := "414d782ceee8e9cc0eb0324b440ff83bda74cc1cbaef96e65b86e7104a302e75", func := "bailiff/bailifflaw03.LtsRights", spec := "ltsRights", inPlace := ["internal/bytealg.IndexByteString", "internal/bytealg.abigen_runtime_cmpstring"], unfollowed := true, recurses := true, plainKeys := false, apart := false, narrowed := true }
def LtsRightsUptoSaid : Prop := ltsRightsUptoRow.holds Tryz.pinned (OpenSpec.upto ltsRightsSpec)

/-- 'bailifflaw03.LtsTables', WHERE WHAT IT READS IS OF BULK AT MOST 1048576: true; the input reads as it did. -/
def ltsTablesUptoRow : OpenClaim := { program := "ytbkooifhcekpmaagreat", sum := "414d782ceee8e9cc0eb0324b440ff83bda74cc1cbaef96e65b86e7104a302e75", func := "bailiff/bailifflaw03.LtsTables", spec := "ltsTables", inPlace := ["internal/bytealg.IndexByteString", "internal/bytealg.abigen_runtime_cmpstring"], unfollowed := true, recurses := true, plainKeys := false, apart := false, narrowed := true }
def LtsTablesUptoSaid : Prop := ltsTablesUptoRow.holds Tryz.pinned (OpenSpec.upto ltsTablesSpec)

/-- 'bailifflaw03.LtsTurned', WHERE WHAT IT READS IS OF BULK AT MOST 1048576: true; the input reads as it did. -/
def ltsTurnedUptoRow : OpenClaim := { program := "ytbkooifhcekpmaagreat", sum := "414d782ceee8e9cc0eb0324b440ff83bda74cc1cbaef96e65b86e7104a302e75", func := "bailiff/bailifflaw03.LtsTurned", spec := "ltsTurned", inPlace := ["internal/bytealg.IndexByteString", "internal/bytealg.abigen_runtime_cmpstring"], unfollowed := true, recurses := true, plainKeys := false, apart := false, narrowed := true }
def LtsTurnedUptoSaid : Prop := ltsTurnedUptoRow.holds Tryz.pinned (OpenSpec.upto ltsTurnedSpec)

end Rows
end Go.Proofs.YtbkooifhcekpmaaGreat
