/- The law CyclesEither, for whatever comes in. Conditions: none. -/
import Derived.Test.YtmkidaijgdgcjaaRows
import Derived.Test.YtmkidaijgdgcjaaBwOpen
import Derived.Test.YtmkidaijgdgcjaaBwEnd
import Derived.WalkKit
import Derived.ProofKit
import Derived.OpenShut
import Derived.ChangeOld
import Derived.Below
import Derived.SizedLaws
set_option linter.unusedVariables false
set_option linter.unusedSimpArgs false
set_option linter.unusedSectionVars false
namespace Go.Proofs.Ytmkidaijgdgcjaa.cyclesEither
open Go.ChangeShapes Go.WideShapes Go.ChangeAt Go.RowKit Go.Bw
theorem own : ownKnob Try.prog.godebug = none := by kernel_rfl
theorem laidOut : laidOutB Try.prog = true := by kernel_rfl
set_option maxRecDepth 100000 in
theorem lifted (os : Os) (started : os.Started) (H : Type) (enc : TypeId × Value → H) :
    ReturnsInHanded {} Try.checked os 6 .any (Rows.cyclesEitherSpec.pre6 enc Try.prog Try.f6 Rows.cyclesEitherRow.domain false) (Rows.cyclesEitherSpec.post enc Try.prog Try.f6 false true false false) := by
  refine returnsInHanded_of_change_sized (C := Try.checked) own started (by kernel_rfl) Try.func6
    (ChangeSpec.witness6 (enc := enc) (C := Try.checked) false ⟨#[], #[.slice none 0 0, .slice none 0 0], []⟩ 8 (by kernel_rfl) (by kernel_rfl) (by kernel_rfl) (by kernel_rfl)) ?_
  intro W base args ds gs before hval0 hW hcnd hsz0 _
  have hval : ∀ (j : Nat) t v, Try.f6.params[j]? = some t → args[j]? = some v → Value.okWide Try.prog W .any base t v := hval0
  have hW' := hW
  obtain ⟨p, q, hA0, hV, rfl, hfz, hnd⟩ := hW
  have hA : DataW.TrodAll enc Try.prog W 0 (fun _ => true) true Try.f6.params.toList args.toList ds p := hA0
  rw [Try.params6] at hA hval
  obtain ⟨v0, vs0, d0, ds0, p0, q0, hargs, rfl, rfl, h0, r0⟩ := trodAll_cons hA
  obtain ⟨v1, vs1, d1, ds1, p1, q1, rfl, rfl, rfl, h1, r1⟩ := trodAll_cons r0
  obtain ⟨rfl, rfl, rfl⟩ := trodAll_nil r1
  obtain rfl : args = #[v0, v1] := by cases args; simp_all
  obtain ⟨rfl, rfl⟩ := trodVars_none hV
  have lt0 : ∀ x ∈ p0, x.block < W.heap.size := by obtain ⟨m, hm⟩ := h0; exact DataW.trod_lt m _ _ _ hm
  have k0 := h0
  obtain ⟨A0, c0, a0, rfl, hc0, hm0, hr0, hl0, hw0⟩ := open_ii Try.underlying22 Try.underlying26 Try.underlying3 (by kernel_rfl) (by kernel_rfl) (okWide_slice Try.underlying22 (hval 0 22 v0 rfl rfl)) h0
  have lt1 : ∀ x ∈ p1, x.block < W.heap.size := by obtain ⟨m, hm⟩ := h1; exact DataW.trod_lt m _ _ _ hm
  have k1 := h1
  obtain ⟨A1, c1, a1, rfl, hc1, hm1, hr1, hw1⟩ := open_i Try.underlying26 Try.underlying3 (by kernel_rfl) (okWide_slice Try.underlying26 (hval 1 26 v1 rfl rfl)) h1
  clear hA0 hval0 hsz0 hval
  refine (bailifflaw15_CyclesEither.spec (Res.of W) [] A0 a0.length c0 A1 a1.length c1 a0 a1 hr0 rfl hc0 hr1 rfl hc1 (bailifflaw15_CyclesEither_run hl0 hw0 hw1) W (sat_of W)).mono fun e W' he => ?_
  obtain ⟨v, l', rfl, hp, hs⟩ := he
  obtain ⟨rfl, _⟩ := hp
  have bel := below_of hs
  exact ⟨_, rfl, _, _, _, [], _, [], hW', trodAll_mk1 (shut_bool Try.underlying4 _), (trodAll_cons_mk (Below.trod laidOut (by kernel_rfl) (of_decide_eq_true (by kernel_rfl)) k0 bel lt0) (trodAll_cons_mk (Below.trod laidOut (by kernel_rfl) (of_decide_eq_true (by kernel_rfl)) k1 bel lt1) trodAll_mk0)), rfl, bel.frame _, fun h => by cases h⟩
theorem over : Rows.cyclesEitherRow.holds Try.pinned (OpenSpec.ofChange Rows.cyclesEitherSpec) :=
  OpenClaim.holds_of_wide 6 Try.f6 rfl rfl rfl rfl rfl rfl rfl ⟨rfl, rfl, rfl, rfl, rfl⟩ rfl rfl rfl rfl rfl (by kernel_rfl) Try.func6 (by kernel_rfl)
    (of_decide_eq_true (by kernel_rfl)) (by unfold Func.isWrapper; first | (rw [if_pos (by decide +kernel)]; kernel_rfl) | (rw [if_neg (by decide +kernel)]; exact ⟨rfl, rfl⟩))
    (fun os started H enc _ => lifted os started H enc)
theorem proved : Rows.CyclesEitherSaid := over
#print axioms proved
end Go.Proofs.Ytmkidaijgdgcjaa.cyclesEither
namespace Go.Proofs.Ytmkidaijgdgcjaa
/-- The row, under a short name, for the claim. -/
theorem cyclesEither_holds : Rows.CyclesEitherSaid := cyclesEither.proved
end Go.Proofs.Ytmkidaijgdgcjaa
