/- LtsTurned at whatever comes in. Conditions: none. -/
import Derived.Test.YtbkooifhcekpmaaGreatBwLts3
import Derived.Test.YtbkooifhcekpmaaGreatBwOpenG
set_option linter.unusedVariables false
set_option linter.unusedSimpArgs false
set_option linter.unusedSectionVars false
namespace Go.Bw
open Go Go.RowKit
theorem bailifflaw03_LtsTurned_run {n : Int} {x : List Bs} {y : List api_Edge} {z : List api_Prop} {to : Int} (h : (Lit.int .i64 n).wf = true ∧ (x.length ≤ maxLen ∧ ∀ s ∈ x, s.length ≤ maxLen) ∧ (y.length ≤ maxLen ∧ ∀ e ∈ y, ((Lit.int .i64 e.From).wf = true ∧ (Lit.int .i64 e.Action).wf = true ∧ (Lit.int .i64 e.To).wf = true)) ∧
    (z.length ≤ maxLen ∧ ∀ p ∈ z, (p.Name.length ≤ maxLen ∧ (p.States.length ≤ maxLen ∧ ∀ s ∈ p.States, (Lit.int .i64 s).wf = true)))) (w : (Lit.int .u64 to).wf = true) : bailifflaw03_LtsTurned.f n x y z to = some true := by
  have : to = Wd (BitVec.ofInt 64 to) := word_of w
  rw [this]
  exact turned_run n x y z _ fun p hp => by
    have := (h.2.2.2.2 p hp).2.1
    have hm : maxLen ≤ 9223372036854775807 := by decide
    omega
end Go.Bw
