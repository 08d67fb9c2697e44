/- The law JudgeOne, for whatever comes in. Conditions: none. -/
import Derived.Test.YtmkidaijgdgcjaaRows
import Derived.Test.YtmkidaijgdgcjaaBwOpenS
import Derived.Test.YtmkidaijgdgcjaaBwEndOne
import Derived.WalkKit
import Derived.ProofKit
import Derived.OpenShut
import Derived.ChangeOld
import Derived.Below
import Derived.SizedLaws
set_option linter.unusedVariables false
set_option linter.unusedSimpArgs false
set_option linter.unusedSectionVars false
namespace Go.Proofs.Ytmkidaijgdgcjaa.judgeOne
open Go.ChangeShapes Go.WideShapes Go.ChangeAt Go.RowKit Go.Bw
theorem own : ownKnob Try.prog.godebug = none := by kernel_rfl
theorem laidOut : laidOutB Try.prog = true := by kernel_rfl
set_option maxRecDepth 100000 in
theorem lifted (os : Os) (started : os.Started) (H : Type) (enc : TypeId × Value → H) :
    ReturnsInHanded {} Try.checked os 13 .any (Rows.judgeOneSpec.pre6 enc Try.prog Try.f13 Rows.judgeOneRow.domain false) (Rows.judgeOneSpec.post enc Try.prog Try.f13 false true false false) := by
  refine returnsInHanded_of_change_sized (C := Try.checked) own started (by kernel_rfl) Try.func13
    (ChangeSpec.witness6 (enc := enc) (C := Try.checked) false ⟨#[], #[.agg #[.slice none 0 0, .slice none 0 0, .slice none 0 0], .agg #[.slice none 0 0, .slice none 0 0, .slice none 0 0, .slice none 0 0]], []⟩ 8 (by kernel_rfl) (by kernel_rfl) (by kernel_rfl) (by kernel_rfl)) ?_
  intro W base args ds gs before hval0 hW hcnd hsz0 _
  have hval : ∀ (j : Nat) t v, Try.f13.params[j]? = some t → args[j]? = some v → Value.okWide Try.prog W .any base t v := hval0
  have hW' := hW
  obtain ⟨p, q, hA0, hV, rfl, hfz, hnd⟩ := hW
  have hA : DataW.TrodAll enc Try.prog W 0 (fun _ => true) true Try.f13.params.toList args.toList ds p := hA0
  rw [Try.params13] at hA hval
  obtain ⟨v0, vs0, d0, ds0, p0, q0, hargs, rfl, rfl, h0, r0⟩ := trodAll_cons hA
  obtain ⟨v1, vs1, d1, ds1, p1, q1, rfl, rfl, rfl, h1, r1⟩ := trodAll_cons r0
  obtain ⟨rfl, rfl, rfl⟩ := trodAll_nil r1
  obtain rfl : args = #[v0, v1] := by cases args; simp_all
  obtain ⟨rfl, rfl⟩ := trodVars_none hV
  have lt0 : ∀ x ∈ p0, x.block < W.heap.size := by obtain ⟨m, hm⟩ := h0; exact DataW.trod_lt m _ _ _ hm
  have k0 := h0
  obtain ⟨A0_0, c0_0, a0_0, A0_1, c0_1, a0_1, A0_2, c0_2, a0_2, d0_0, d0_1, d0_2, l0_0, l0_1, l0_2, rfl, rfl, i0_0, i0_1, i0_2⟩ := open_s3 Try.underlying36 ⟨rfl, rfl⟩ ⟨rfl, rfl⟩ ⟨rfl, rfl⟩ Try.underlying22 Try.underlying26 Try.underlying3 (by kernel_rfl) (by kernel_rfl) (by kernel_rfl) (by kernel_rfl) (okWide_struct Try.underlying36 (hval 0 36 v0 rfl rfl)) h0
  have lt1 : ∀ x ∈ p1, x.block < W.heap.size := by obtain ⟨m, hm⟩ := h1; exact DataW.trod_lt m _ _ _ hm
  have k1 := h1
  obtain ⟨A1_0, c1_0, a1_0, A1_1, c1_1, a1_1, A1_2, c1_2, a1_2, A1_3, c1_3, a1_3, d1_0, d1_1, d1_2, d1_3, l1_0, l1_1, l1_2, l1_3, rfl, rfl, i1_0, i1_1, i1_2, i1_3⟩ := open_s22 Try.underlying39 ⟨rfl, rfl⟩ ⟨rfl, rfl⟩ Try.underlying37 Try.underlying26 Try.underlying3 (by kernel_rfl) (by kernel_rfl) (by kernel_rfl) (by kernel_rfl) (okWide_struct Try.underlying39 (hval 1 39 v1 rfl rfl)) h1
  clear hA0 hval0 hval hsz0
  refine (bailifflaw16_JudgeOne.spec (Res.of W) [] A0_0 a0_0.length c0_0 A0_1 a0_1.length c0_1 A0_2 a0_2.length c0_2 A1_0 a1_0.length c1_0 A1_1 a1_1.length c1_1 A1_2 a1_2.length c1_2 A1_3 a1_3.length c1_3 a0_0 a0_1 a0_2 a1_0 a1_1 a1_2 a1_3 i0_0.rd rfl i0_0.le i0_1.rd rfl i0_1.le i0_2.rd rfl i0_2.le i1_0.rd rfl i1_0.le i1_1.rd rfl i1_1.le i1_2.rd rfl i1_2.le i1_3.rd rfl i1_3.le (bailifflaw16_JudgeOne_run (Nat.le_trans i0_0.le i0_0.mx) i0_0.wf (Nat.le_trans i0_1.le i0_1.mx) i0_1.wf (Nat.le_trans i0_2.le i0_2.mx) i0_2.ln i0_2.wf (Nat.le_trans i1_0.le i1_0.mx) i1_0.wf (Nat.le_trans i1_1.le i1_1.mx) i1_1.wf (Nat.le_trans i1_2.le i1_2.mx) i1_2.wf (Nat.le_trans i1_3.le i1_3.mx) i1_3.wf) W (sat_of W)).mono fun e W' he => ?_
  obtain ⟨v, l', rfl, hp, hs⟩ := he
  obtain ⟨rfl, _⟩ := hp
  have bel := below_of hs
  exact ⟨_, rfl, _, _, _, [], _, [], hW', trodAll_mk1 (shut_bool Try.underlying4 _), (trodAll_cons_mk (Below.trod laidOut (by kernel_rfl) (of_decide_eq_true (by kernel_rfl)) k0 bel lt0) (trodAll_cons_mk (Below.trod laidOut (by kernel_rfl) (of_decide_eq_true (by kernel_rfl)) k1 bel lt1) trodAll_mk0)), rfl, bel.frame _, fun h => by cases h⟩
theorem over : Rows.judgeOneRow.holds Try.pinned (OpenSpec.ofChange Rows.judgeOneSpec) :=
  OpenClaim.holds_of_wide 13 Try.f13 rfl rfl rfl rfl rfl rfl rfl ⟨rfl, rfl, rfl, rfl, rfl⟩ rfl rfl rfl rfl rfl (by kernel_rfl) Try.func13 (by kernel_rfl)
    (of_decide_eq_true (by kernel_rfl)) (by unfold Func.isWrapper; first | (rw [if_pos (by decide +kernel)]; kernel_rfl) | (rw [if_neg (by decide +kernel)]; exact ⟨rfl, rfl⟩))
    (fun os started H enc _ => lifted os started H enc)
theorem proved : Rows.JudgeOneSaid := over
#print axioms proved
end Go.Proofs.Ytmkidaijgdgcjaa.judgeOne
namespace Go.Proofs.Ytmkidaijgdgcjaa
/-- The row, under a short name, for the claim. -/
theorem judgeOne_holds : Rows.JudgeOneSaid := judgeOne.proved
end Go.Proofs.Ytmkidaijgdgcjaa
