/- LtsRights at whatever comes in. Conditions: none. -/
import Derived.Test.YtbkooifhcekpmaaGreatBwTwinA
import Derived.Test.YtbkooifhcekpmaaGreatBwKept1
import Derived.Test.YtbkooifhcekpmaaGreatBwLts9
import Derived.Test.YtbkooifhcekpmaaGreatBwOpenZ
set_option linter.unusedVariables false
set_option linter.unusedSimpArgs false
set_option linter.unusedSectionVars false
namespace Go.Bw
open Go Go.RowKit
theorem rights_run {n : Int} {x : List Bs} {y : List api_Edge} {z : List api_Prop} (h : Fits x y z) : bailifflaw03_LtsRights.f n x y z = some true := by
  obtain ⟨a, b, c, hk⟩ := kept_run (n := n) h
  obtain ⟨r, h1, h2⟩ := right_eq n x y z (fun p hp => by have := h.s p hp; omega)
  have tx : (([] ++ x) ++ [([33] : Bs)]).take (x.length : Int).toNat = x := by simp
  have ty : (([] ++ y) ++ [(⟨-7, 0, 0⟩ : api_Edge)]).take (y.length : Int).toNat = y := by simp
  unfold bailifflaw03_LtsRights.f
  rw [bailifflaw03_shown_run, lent_run h]
  simp only [Option.bind_some, tx, ty, lentP_pl, h1, h2, hk, if_true, jn_inl, beq_self_eq_true]
theorem fits_of {x : List Bs} {y : List api_Edge} {z : List api_Prop} (hx : x.length * Go.Proofs.Tryz.prog.bytesOf 9 ≤ reachBytes) (hy : y.length * Go.Proofs.Tryz.prog.bytesOf 54 ≤ reachBytes) (hz : z.length * Go.Proofs.Tryz.prog.bytesOf 57 ≤ reachBytes) (hs : ∀ p ∈ z, p.States.length * Go.Proofs.Tryz.prog.bytesOf 3 ≤ reachBytes) : Fits x y z := by
  have b1 : Go.Proofs.Tryz.prog.bytesOf 9 = 16 := by kernel_rfl
  have b2 : Go.Proofs.Tryz.prog.bytesOf 54 = 24 := by kernel_rfl
  have b3 : Go.Proofs.Tryz.prog.bytesOf 57 = 40 := by kernel_rfl
  have b4 : Go.Proofs.Tryz.prog.bytesOf 3 = 8 := by kernel_rfl
  have hr : reachBytes = 140737488351232 := rfl
  rw [b1, hr] at hx
  rw [b2, hr] at hy
  rw [b3, hr] at hz
  rw [b4, hr] at hs
  exact ⟨by omega, by omega, by omega, fun p hp => by have := hs p hp; omega⟩
theorem bailifflaw03_LtsRights_run {n : Int} {x : List Bs} {y : List api_Edge} {z : List api_Prop} (_h : (Lit.int .i64 n).wf = true ∧ (x.length ≤ maxLen ∧ ∀ s ∈ x, s.length ≤ maxLen) ∧ (y.length ≤ maxLen ∧ ∀ e ∈ y, ((Lit.int .i64 e.From).wf = true ∧ (Lit.int .i64 e.Action).wf = true ∧ (Lit.int .i64 e.To).wf = true)) ∧
    (z.length ≤ maxLen ∧ ∀ p ∈ z, (p.Name.length ≤ maxLen ∧ (p.States.length ≤ maxLen ∧ ∀ s ∈ p.States, (Lit.int .i64 s).wf = true))))
    (w : True ∧ (x.length * Go.Proofs.Tryz.prog.bytesOf 9 ≤ reachBytes ∧ ∀ s ∈ x, True) ∧ (y.length * Go.Proofs.Tryz.prog.bytesOf 54 ≤ reachBytes ∧ ∀ e ∈ y, (True ∧ True ∧ True)) ∧ (z.length * Go.Proofs.Tryz.prog.bytesOf 57 ≤ reachBytes ∧ ∀ p ∈ z, (True ∧ (p.States.length * Go.Proofs.Tryz.prog.bytesOf 3 ≤ reachBytes ∧ ∀ s ∈ p.States, True)))) :
    bailifflaw03_LtsRights.f n x y z = some true := rights_run (fits_of w.2.1.1 w.2.2.1.1 w.2.2.2.1 fun p hp => (w.2.2.2.2 p hp).2.1)
end Go.Bw
