/-
  No cell of these rows narrows 'for every input' (looked for: loops, veiled, ifaces, maps, wideKeys, modest, calm, conditions, laid).
  DERIVED. THE GIVEN ROWS OF THIS SEAT. 5 by the template 'for every input the law returns true; each argument reads behind the call as it read before'; 0 by the template 'total and deterministic' (their statements: YtfbjkcnefhgodaaGreatTotals.lean).
  GIVEN WITH THE SEED: the statements are not yours to turn. If you find one false, say at which input.
  Laid BY PROGRAM, IN A SANDBOX (cutbox-rows.mjs): the forced cells as the released guide's own fill.sh prints them over the translation f2d1b9436b74bda3… (all of the seat's roots in one cut). By AI agents, Wed Nov 11 2026. No macro, syntax, notation, axiom, sorry.
-/
import Derived.Test.YtfbjkcnefhgodaaGreatChecked
import GoSem.Claim
import GoSem.ClaimJoined
import GoSem.ClaimMapViews
import Derived.JoinedTies
import Derived.KernelRfl
namespace Go.Proofs.YtfbjkcnefhgodaaGreat
/- THE CELL 'sum', in the pinned program and in every row, IS THE sha256 OF THE DUMP (.gsa) THAT YtfbjkcnefhgodaaGreatProg.lean LOADS. Nothing in Lean hashes anything: it is a label: what it is worth is what the hold of that sum in a sandbox is worth. -/
noncomputable def Tryz.pinned : Pinned := { name := "ytfbjkcnefhgodaagreat", sum := "f2d1b9436b74bda302232da35f2ae72827b81f1f43091e1ad872164a2c13182c", checked := Tryz.checked }
namespace Rows
def none {H : Type} : Left H := { results := [], args := [] }

/-- 'bailifflaw08.DenoteApart': WHATEVER THE INPUT: true; the input reads as it did. -/
def denoteApartSpec : ChangeSpec := { name := "denoteApart", fn := fun _ => fun
  | [d1, d2] => { results := [.lit (.bool true)], args := [d1, d2] }
  | _ => none }
def denoteApartRow : OpenClaim := { program := "ytfbjkcnefhgodaagreat", sum := "f2d1b9436b74bda302232da35f2ae72827b81f1f43091e1ad872164a2c13182c", func := "bailiff/bailifflaw08.DenoteApart", spec := "denoteApart", inPlace := ["internal/bytealg.IndexByteString", "internal/bytealg.abigen_runtime_cmpstring"], unfollowed := true, recurses := true, plainKeys := false, apart := false }
def DenoteApartSaid : Prop := denoteApartRow.holds Tryz.pinned (OpenSpec.ofChange denoteApartSpec)

/-- ITS FALSE NEIGHBOUR: 'it returns false'. Refute it at one input. -/
def denoteApartWrong : ChangeSpec := { name := "denoteApart", fn := fun _ => fun
  | [d1, d2] => { results := [.lit (.bool false)], args := [d1, d2] }
  | _ => none }
def DenoteApartWrongFalsely : Prop := denoteApartRow.holds Tryz.pinned (OpenSpec.ofChange denoteApartWrong)

/-- 'bailifflaw08.DenoteAll': WHATEVER THE INPUT: true; the input reads as it did. -/
def denoteAllSpec : ChangeSpec := { name := "denoteAll", fn := fun _ => fun
  | [d1, d2] => { results := [.lit (.bool true)], args := [d1, d2] }
  | _ => none }
def denoteAllRow : OpenClaim := { program := "ytfbjkcnefhgodaagreat", sum := "f2d1b9436b74bda302232da35f2ae72827b81f1f43091e1ad872164a2c13182c", func := "bailiff/bailifflaw08.DenoteAll", spec := "denoteAll", inPlace := ["internal/bytealg.IndexByteString", "internal/bytealg.abigen_runtime_cmpstring"], unfollowed := true, recurses := true, plainKeys := false, apart := false }
def DenoteAllSaid : Prop := denoteAllRow.holds Tryz.pinned (OpenSpec.ofChange denoteAllSpec)

/-- ITS FALSE NEIGHBOUR: 'it returns false'. Refute it at one input. -/
def denoteAllWrong : ChangeSpec := { name := "denoteAll", fn := fun _ => fun
  | [d1, d2] => { results := [.lit (.bool false)], args := [d1, d2] }
  | _ => none }
def DenoteAllWrongFalsely : Prop := denoteAllRow.holds Tryz.pinned (OpenSpec.ofChange denoteAllWrong)

/-- 'bailifflaw08.DenoteNodes': WHATEVER THE INPUT: true; the input reads as it did. -/
def denoteNodesSpec : ChangeSpec := { name := "denoteNodes", fn := fun _ => fun
  | [d1, d2] => { results := [.lit (.bool true)], args := [d1, d2] }
  | _ => none }
def denoteNodesRow : OpenClaim := { program := "ytfbjkcnefhgodaagreat", sum := "f2d1b9436b74bda302232da35f2ae72827b81f1f43091e1ad872164a2c13182c", func := "bailiff/bailifflaw08.DenoteNodes", spec := "denoteNodes", inPlace := ["internal/bytealg.IndexByteString", "internal/bytealg.abigen_runtime_cmpstring"], unfollowed := true, recurses := true, plainKeys := false, apart := false }
def DenoteNodesSaid : Prop := denoteNodesRow.holds Tryz.pinned (OpenSpec.ofChange denoteNodesSpec)

/-- ITS FALSE NEIGHBOUR: 'it returns false'. Refute it at one input. -/
def denoteNodesWrong : ChangeSpec := { name := "denoteNodes", fn := fun _ => fun
  | [d1, d2] => { results := [.lit (.bool false)], args := [d1, d2] }
  | _ => none }
def DenoteNodesWrongFalsely : Prop := denoteNodesRow.holds Tryz.pinned (OpenSpec.ofChange denoteNodesWrong)

/-- 'bailifflaw08.DenoteMoved': WHATEVER THE INPUT: true; the input reads as it did. -/
def denoteMovedSpec : ChangeSpec := { name := "denoteMoved", fn := fun _ => fun
  | [d1, d2] => { results := [.lit (.bool true)], args := [d1, d2] }
  | _ => none }
def denoteMovedRow : OpenClaim := { program := "ytfbjkcnefhgodaagreat", sum := "f2d1b9436b74bda302232da35f2ae72827b81f1f43091e1ad872164a2c13182c", func := "bailiff/bailifflaw08.DenoteMoved", spec := "denoteMoved", inPlace := ["internal/bytealg.IndexByteString", "internal/bytealg.abigen_runtime_cmpstring"], unfollowed := true, recurses := true, plainKeys := false, apart := false }
def DenoteMovedSaid : Prop := denoteMovedRow.holds Tryz.pinned (OpenSpec.ofChange denoteMovedSpec)

/-- ITS FALSE NEIGHBOUR: 'it returns false'. Refute it at one input. -/
def denoteMovedWrong : ChangeSpec := { name := "denoteMoved", fn := fun _ => fun
  | [d1, d2] => { results := [.lit (.bool false)], args := [d1, d2] }
  | _ => none }
def DenoteMovedWrongFalsely : Prop := denoteMovedRow.holds Tryz.pinned (OpenSpec.ofChange denoteMovedWrong)

/-- 'bailifflaw08.DenoteForms': WHATEVER THE INPUT: true; the input reads as it did. -/
def denoteFormsSpec : ChangeSpec := { name := "denoteForms", fn := fun _ => fun
  | [d1, d2] => { results := [.lit (.bool true)], args := [d1, d2] }
  | _ => none }
def denoteFormsRow : OpenClaim := { program := "ytfbjkcnefhgodaagreat", sum := "f2d1b9436b74bda302232da35f2ae72827b81f1f43091e1ad872164a2c13182c", func := "bailiff/bailifflaw08.DenoteForms", spec := "denoteForms", inPlace := ["internal/bytealg.IndexByteString", "internal/bytealg.abigen_runtime_cmpstring"], unfollowed := true, recurses := true, plainKeys := false, apart := false }
def DenoteFormsSaid : Prop := denoteFormsRow.holds Tryz.pinned (OpenSpec.ofChange denoteFormsSpec)

/-- ITS FALSE NEIGHBOUR: 'it returns false'. Refute it at one input. -/
def denoteFormsWrong : ChangeSpec := { name := "denoteForms", fn := fun _ => fun
  | [d1, d2] => { results := [.lit (.bool false)], args := [d1, d2] }
  | _ => none }
def DenoteFormsWrongFalsely : Prop := denoteFormsRow.holds Tryz.pinned (OpenSpec.ofChange denoteFormsWrong)

/- THE SECOND FORM. 'bulk': how many values and letters a reading holds, each counted each time it is reached (what is shared counts as often as it is met; a slice's spare places count too). A statement '..UptoSaid' is the law's where the arguments, and the package variables that the reading takes, are together of bulk at most 1048576: NARROWER than '..Said'. Prove '..Said' where nothing that the law and all that it calls make is longer than what came in: it says more and counts as full. Else prove '..UptoSaid'. A law counts once. -/
mutual
def uptoBulk {H : Type} : DataW H → Nat
  | .lit (.string bytes) => bytes.length + 1
  | .lit _ => 1
  | .nil => 1
  | .ptr d => uptoBulk d + 1
  | .slice elems spare => uptoBulkAll elems + uptoBulkAll spare + 1
  | .agg parts => uptoBulkAll parts + 1
  | .iface _ d => uptoBulk d + 1
  | .map entries => uptoBulkEntries entries + 1
  | .held _ => 1
def uptoBulkAll {H : Type} : List (DataW H) → Nat
  | [] => 0
  | d :: r => uptoBulk d + uptoBulkAll r
def uptoBulkEntries {H : Type} : List (Lit × DataW H) → Nat
  | [] => 0
  | x :: r => uptoBulkEntry x + uptoBulkEntries r
def uptoBulkEntry {H : Type} : Lit × DataW H → Nat
  | (.string bytes, d) => bytes.length + uptoBulk d + 1
  | (_, d) => uptoBulk d + 1
 end
def uptoSmall : (H : Type) → List (DataW H) → Bool := fun _ ds => decide (uptoBulkAll ds ≤ 1048576)
def OpenSpec.upto (s : _root_.Go.ChangeSpec) : _root_.Go.OpenSpec := { _root_.Go.OpenSpec.ofChange s with cond := some uptoSmall }

/-- 'bailifflaw08.DenoteApart', WHERE WHAT IT READS IS OF BULK AT MOST 1048576: true; the input reads as it did. -/
def denoteApartUptoRow : OpenClaim := { program := "ytfbjkcnefhgodaagreat", sum := "f2d1b9436b74bda302232da35f2ae72827b81f1f43091e1ad872164a2c13182c", func := "bailiff/bailifflaw08.DenoteApart", spec := "denoteApart", inPlace := ["internal/bytealg.IndexByteString", "internal/bytealg.abigen_runtime_cmpstring"], unfollowed := true, recurses := true, plainKeys := false, apart := false, narrowed := true }
def DenoteApartUptoSaid : Prop := denoteApartUptoRow.holds Tryz.pinned (OpenSpec.upto denoteApartSpec)

/-- 'bailifflaw08.DenoteAll', WHERE WHAT IT READS IS OF BULK AT MOST 1048576: true; the input reads as it did. -/
def denoteAllUptoRow : OpenClaim := { program := "ytfbjkcnefhgodaagreat", sum := "f2d1b9436b74bda302232da35f2ae72827b81f1f43091e1ad872164a2c13182c", func := "bailiff/bailifflaw08.DenoteAll", spec := "denoteAll", inPlace := ["internal/bytealg.IndexByteString", "internal/bytealg.abigen_runtime_cmpstring"], unfollowed := true, recurses := true, plainKeys := false, apart := false, narrowed := true }
def DenoteAllUptoSaid : Prop := denoteAllUptoRow.holds Tryz.pinned (OpenSpec.upto denoteAllSpec)

/-- 'bailifflaw08.DenoteNodes', WHERE WHAT IT READS IS OF BULK AT MOST 1048576: true; the input reads as it did. -/
def denoteNodesUptoRow : OpenClaim := { program := "ytfbjkcnefhgodaagreat", sum := "f2d1b9436b74bda302232da35f2ae72827b81f1f43091e1ad872164a2c13182c", func := "bailiff/bailifflaw08.DenoteNodes", spec := "denoteNodes", inPlace := ["internal/bytealg.IndexByteString", "internal/bytealg.abigen_runtime_cmpstring"], unfollowed := true, recurses := true, plainKeys := false, apart := false, narrowed := true }
def DenoteNodesUptoSaid : Prop := denoteNodesUptoRow.holds Tryz.pinned (OpenSpec.upto denoteNodesSpec)

/-- 'bailifflaw08.DenoteMoved', WHERE WHAT IT READS IS OF BULK AT MOST 1048576: true; the input reads as it did. -/
def denoteMovedUptoRow : OpenClaim := { program := "ytfbjkcnefhgodaagreat", sum := "f2d1b9436b74bda302232da35f2ae72827b81f1f43091e1ad872164a2c13182c", func := "bailiff/bailifflaw08.DenoteMoved", spec := "denoteMoved", inPlace := ["internal/bytealg.IndexByteString", "internal/bytealg.abigen_runtime_cmpstring"], unfollowed := true, recurses := true, plainKeys := false, apart := false, narrowed := true }
def DenoteMovedUptoSaid : Prop := denoteMovedUptoRow.holds Tryz.pinned (OpenSpec.upto denoteMovedSpec)

/-- 'bailifflaw08.DenoteForms', WHERE WHAT IT READS IS OF BULK AT MOST 1048576: true; the input reads as it did. -/
def denoteFormsUptoRow : OpenClaim := { program := "ytfbjkcnefhgodaagreat", sum := "f2d1b9436b74bda302232da35f2ae72827b81f1f43091e1ad872164a2c13182c", func := "bailiff/bailifflaw08.DenoteForms", spec := "denoteForms", inPlace := ["internal/bytealg.IndexByteString", "internal/bytealg.abigen_runtime_cmpstring"], unfollowed := true, recurses := true, plainKeys := false, apart := false, narrowed := true }
def DenoteFormsUptoSaid : Prop := denoteFormsUptoRow.holds Tryz.pinned (OpenSpec.upto denoteFormsSpec)

end Rows
end Go.Proofs.YtfbjkcnefhgodaaGreat
