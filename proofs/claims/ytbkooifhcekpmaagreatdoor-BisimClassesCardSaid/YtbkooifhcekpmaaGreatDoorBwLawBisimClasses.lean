/- The law BisimClasses, for whatever comes in. Conditions: none. -/
import Derived.Test.YtbkooifhcekpmaaGreatDoorRows
import Derived.WalkKit
import Derived.ProofKit
import Derived.OpenShut
import Derived.ChangeOld
import Derived.Below
import Derived.SizedLaws
import Derived.Handed
import Derived.LaidMore
import Derived.SevenTiedAt
import Derived.SevenBuild
import Derived.Test.YtbkooifhcekpmaaGreatDoorTie
import Derived.Test.YtbkooifhcekpmaaGreatDoorCards
import Derived.Test.YtbkooifhcekpmaaGreatDoorBwBisimClassesF
set_option linter.unusedVariables false
set_option linter.unusedSimpArgs false
set_option linter.unusedSectionVars false
namespace Go.Proofs.YtbkooifhcekpmaaGreatDoor.bisimClasses
open Go.ChangeShapes Go.WideShapes Go.ChangeAt Go.RowKit Go.Bw
theorem own : ownKnob Tryz.prog.godebug = none := by kernel_rfl
theorem laidOut : laidOutB Tryz.prog = true := by kernel_rfl
set_option maxRecDepth 100000 in
set_option maxHeartbeats 2000000 in
-- tied
theorem lifted (os : Os) (started : os.Started) (H : Type) (enc : TypeId × Value → H) :
    ReturnsInHanded {} Tryz.checked os 3 .any (fun w args => (Rows.bisimClassesSpec.pre enc Tryz.prog Tryz.f3 Rows.bisimClassesRow.domain false w args ∧ laidMetH Tryz.prog laid64 w) ∧ sizedMet enc Tryz.prog Tryz.f3 (OpenSpec.ofChange Rows.bisimClassesSpec) false w args) (Rows.bisimClassesSpec.post enc Tryz.prog Tryz.f3 false true false false) := by
  refine returnsInHanded_of_change_and (C := Tryz.checked) (X := fun w _ => laidMetH Tryz.prog laid64 w) (fun _ _ _ hh h => h.of_heap hh) own started (by kernel_rfl) Tryz.func3
    (ChangeSpec.witness_shaped (enc := enc) (C := Tryz.checked) (os := os) (X := fun w _ => laidMetH Tryz.prog laid64 w) false (World.doorLaid Tryz.prog 31 os) #[.agg #[.int .i64 0, .slice none 0 0, .slice none 0 0, .slice none 0 0]] 8 rfl (World.shaped_of_RefB (by kernel_rfl) (by kernel_rfl)) (by kernel_rfl) (by kernel_rfl) (by kernel_rfl) (Q306 os _)) ?_
  intro W base args ds gs before hval0 hW hcnd hsz0 hL _
  have hval : ∀ (j : Nat) t v, Tryz.f3.params[j]? = some t → args[j]? = some v → Value.okWide Tryz.prog W .any base t v := hval0
  have hW' := hW
  obtain ⟨p, q, hA0, hV, rfl, hfz, hnd⟩ := hW
  have hA : DataW.TrodAll enc Tryz.prog W 0 (fun _ => true) true Tryz.f3.params.toList args.toList ds p := hA0
  rw [Tryz.params3] at hA hval
  obtain ⟨v0, vs0, d0, ds0, p0, q0, hargs, rfl, rfl, h0, r0⟩ := trodAll_cons hA
  obtain ⟨rfl, rfl, rfl⟩ := trodAll_nil r0
  obtain rfl : args = #[v0] := by cases args; simp_all
  obtain ⟨rfl, rfl⟩ := trodVars_none hV
  have lt0 : ∀ x ∈ p0, x.block < W.heap.size := by obtain ⟨m, hm⟩ := h0; exact DataW.trod_lt m _ _ _ hm
  have k0 := h0
  obtain ⟨cs0_, rfl, _⟩ := okWide_struct Tryz.underlying26 (hval 0 26 v0 rfl rfl)
  obtain ⟨l0_⟩ := cs0_
  obtain ⟨⟨a0_0, a0_1, a0_2, a0_3⟩, ⟨_, _, e0_, rfl, _, _, rfl, ⟨A0_1, c0_1, rfl, hca0_1, hra0_1⟩, _, _, rfl, ⟨A0_2, c0_2, rfl, hca0_2, hra0_2⟩, ⟨A0_3, c0_3, rfl, hca0_3, hra0_3⟩⟩, hs0⟩ := (Opens.st4 Tryz.underlying26 (Opens.int Tryz.underlying3 (by kernel_rfl)) (Opens.slice Tryz.underlying22 (by kernel_rfl) (Opens.str Tryz.underlying9 (by kernel_rfl))) (Opens.slice Tryz.underlying23 (by kernel_rfl) (Opens.mk (U := Q0.fl.rep) (Opens.st3 Tryz.underlying35 (Opens.int Tryz.underlying3 (by kernel_rfl)) (Opens.int Tryz.underlying3 (by kernel_rfl)) (Opens.int Tryz.underlying3 (by kernel_rfl)) rfl rfl rfl (by kernel_rfl)) (fun p => ⟨p.1, p.2.1, p.2.2⟩) rfl (by rintro H a cs ⟨_, _, rfl, rfl, ⟨_, _, rfl, rfl, rfl⟩⟩; rfl) (S' := fun x => ((Lit.int .i64 x.From).wf = true ∧ (Lit.int .i64 x.Action).wf = true ∧ (Lit.int .i64 x.To).wf = true)) (fun _ h => h))) (Opens.slice Tryz.underlying24 (by kernel_rfl) (Opens.mk (U := Q1.rep) (Opens.st2 Tryz.underlying37 (Opens.str Tryz.underlying9 (by kernel_rfl)) (Opens.slice Tryz.underlying28 (by kernel_rfl) (Opens.int Tryz.underlying3 (by kernel_rfl))) rfl rfl (by kernel_rfl)) (fun p => ⟨p.1, p.2⟩) rfl (fun h => h) (S' := fun x => (x.Name.length ≤ maxLen ∧ (x.States.length ≤ maxLen ∧ ∀ y8 ∈ x.States, (Lit.int .i64 y8).wf = true))) (fun _ h => h))) rfl rfl rfl rfl (by kernel_rfl)).get h0
  have e0_ : l0_ = _ := e0_
  subst e0_
  clear hA0 hval0 hval hsz0
  refine (Q8.spec (Res.of W) [] A0_1 a0_1.length c0_1 A0_2 a0_2.length c0_2 A0_3 a0_3.length c0_3 a0_0 a0_1 a0_2 a0_3 hra0_1 rfl hca0_1 hra0_2 rfl hca0_2 hra0_3 rfl hca0_3 (laid64_rd hL) (Q293 hs0) W (sat_of W)).mono fun e W' he => ?_
  obtain ⟨v, l', rfl, hp, hs⟩ := he
  obtain ⟨rfl, _⟩ := hp
  have bel := below_of hs
  exact ⟨_, rfl, _, _, _, [], _, [], hW', trodAll_mk1 (shut_bool Tryz.underlying4 _), (trodAll_cons_mk (Below.trod laidOut (by kernel_rfl) (of_decide_eq_true (by kernel_rfl)) k0 bel lt0) trodAll_mk0), rfl, bel.frame _, fun h => by cases h⟩
theorem over : Rows.bisimClassesRow.holds Tryz.pinned (OpenSpec.ofChange Rows.bisimClassesSpec) :=
  OpenClaim.holds_of_wide 3 Tryz.f3 rfl rfl rfl rfl rfl rfl rfl ⟨rfl, rfl, rfl, rfl, rfl⟩ rfl rfl rfl rfl rfl (by kernel_rfl) Tryz.func3 (by kernel_rfl)
    (of_decide_eq_true (by kernel_rfl)) (by unfold Func.isWrapper; first | (rw [if_pos (by decide +kernel)]; kernel_rfl) | (rw [if_neg (by decide +kernel)]; exact ⟨rfl, rfl⟩))
    (fun os started H enc _ => lifted os started H enc)
theorem proved : Rows.BisimClassesSaid := over
#print axioms proved
end Go.Proofs.YtbkooifhcekpmaaGreatDoor.bisimClasses
namespace Go.Proofs.YtbkooifhcekpmaaGreatDoor
theorem bisimClasses_holds : Rows.BisimClassesSaid := bisimClasses.proved
end Go.Proofs.YtbkooifhcekpmaaGreatDoor

namespace Go.Proofs.YtbkooifhcekpmaaGreatDoor
theorem bisimClasses_card : Rows.BisimClassesCardSaid :=
  Claim7.holds_tied_plain_at .later [] [.data] true (true, "f01f462d331c61cbdcae418cc0b94d40bb44ac99eb2f9debfafd1861d8e71bd4") true
    bisimClasses_holds (fun _ h => by cases h) (by kernel_rfl) (fun _ h => by cases h) bisimClasses_row_tie rfl ⟨rfl, rfl⟩ (by kernel_rfl) rfl
    (fun f fn hf hfn => by
      obtain rfl : f = 3 := Option.some.inj ((show Tryz.prog.funcNamed "bailiff/bailifflaw18.BisimClasses" = some 3 by kernel_rfl).symm.trans hf) |>.symm
      obtain rfl : fn = Tryz.f3 := (Option.some.inj (Tryz.func3.symm.trans hfn)).symm
      exact ⟨by kernel_rfl, fun j t ht => by
        rw [Tryz.params3] at ht
        have hm : t ∈ [26] := by simpa using Array.mem_of_getElem? ht
        have hall : ([26].all fun u => !Tryz.prog.wantsStandIn u) = true := by kernel_rfl
        exact (show Tryz.prog.wantsStandIn t = false by simpa using List.all_eq_true.1 hall t hm)⟩)
    (by kernel_rfl)
#print axioms bisimClasses_card
end Go.Proofs.YtbkooifhcekpmaaGreatDoor
