/- The law BuildBeside, for whatever comes in. Conditions: none. -/
import Derived.Test.YtfbjkcnefhgodaaGreatDoorRows
import Derived.WalkKit
import Derived.ProofKit
import Derived.OpenShut
import Derived.ChangeOld
import Derived.Below
import Derived.SizedLaws
import Derived.Handed
import Derived.LaidMore
import Derived.SevenTiedAt
import Derived.SevenBuild
import Derived.Test.YtfbjkcnefhgodaaGreatDoorTie
import Derived.Test.YtfbjkcnefhgodaaGreatDoorCards
import Derived.Test.YtfbjkcnefhgodaaGreatDoorBwBuildBesideF
set_option linter.unusedVariables false
set_option linter.unusedSimpArgs false
set_option linter.unusedSectionVars false
namespace Go.Proofs.YtfbjkcnefhgodaaGreatDoor.buildBeside
open Go.ChangeShapes Go.WideShapes Go.ChangeAt Go.RowKit Go.Bw
theorem own : ownKnob Tryz.prog.godebug = none := by kernel_rfl
theorem laidOut : laidOutB Tryz.prog = true := by kernel_rfl
set_option maxRecDepth 100000 in
set_option maxHeartbeats 2000000 in
-- tied
theorem lifted (os : Os) (started : os.Started) (H : Type) (enc : TypeId × Value → H) :
    ReturnsInHanded {} Tryz.checked os 7 .any (fun w args => (Rows.buildBesideSpec.pre enc Tryz.prog Tryz.f7 Rows.buildBesideRow.domain false w args ∧ laidMetH Tryz.prog laid64 w) ∧ sizedMet enc Tryz.prog Tryz.f7 (OpenSpec.ofChange Rows.buildBesideSpec) false w args) (Rows.buildBesideSpec.post enc Tryz.prog Tryz.f7 false true false false) := by
  refine returnsInHanded_of_change_and (C := Tryz.checked) (X := fun w _ => laidMetH Tryz.prog laid64 w) (fun _ _ _ hh h => h.of_heap hh) own started (by kernel_rfl) Tryz.func7
    (ChangeSpec.witness_shaped (enc := enc) (C := Tryz.checked) (os := os) (X := fun w _ => laidMetH Tryz.prog laid64 w) false (World.doorLaid Tryz.prog 31 os) #[.agg #[.int .i64 0, .slice none 0 0, .slice none 0 0, .slice none 0 0], .slice none 0 0, .int .i64 0] 8 rfl (World.shaped_of_RefB (by kernel_rfl) (by kernel_rfl)) (by kernel_rfl) (by kernel_rfl) (by kernel_rfl) (Q310 os _)) ?_
  intro W base args ds gs before hval0 hW hcnd hsz0 hL _
  have hval : ∀ (j : Nat) t v, Tryz.f7.params[j]? = some t → args[j]? = some v → Value.okWide Tryz.prog W .any base t v := hval0
  have hW' := hW
  obtain ⟨p, q, hA0, hV, rfl, hfz, hnd⟩ := hW
  have hA : DataW.TrodAll enc Tryz.prog W 0 (fun _ => true) true Tryz.f7.params.toList args.toList ds p := hA0
  rw [Tryz.params7] at hA hval
  obtain ⟨v0, vs0, d0, ds0, p0, q0, hargs, rfl, rfl, h0, r0⟩ := trodAll_cons hA
  obtain ⟨v1, vs1, d1, ds1, p1, q1, rfl, rfl, rfl, h1, r1⟩ := trodAll_cons r0
  obtain ⟨v2, vs2, d2, ds2, p2, q2, rfl, rfl, rfl, h2, r2⟩ := trodAll_cons r1
  obtain ⟨rfl, rfl, rfl⟩ := trodAll_nil r2
  obtain rfl : args = #[v0, v1, v2] := by cases args; simp_all
  obtain ⟨rfl, rfl⟩ := trodVars_none hV
  have hsz : (DataW.weightsEach Tryz.prog (Tryz.f7.params.toList ++ Rows.buildBesideSpec.plain.varTypes Tryz.prog) (_ ++ _)).all (· ≤ reachBytes) = true := hsz0
  rw [Tryz.params7] at hsz
  have lt0 : ∀ x ∈ p0, x.block < W.heap.size := by obtain ⟨m, hm⟩ := h0; exact DataW.trod_lt m _ _ _ hm
  have k0 := h0
  obtain ⟨cs0_, rfl, _⟩ := okWide_struct Tryz.underlying26 (hval 0 26 v0 rfl rfl)
  obtain ⟨l0_⟩ := cs0_
  obtain ⟨⟨a0_0, a0_1, a0_2, a0_3⟩, ⟨_, _, e0_, rfl, _, _, rfl, ⟨A0_1, c0_1, rfl, hca0_1, hra0_1⟩, _, _, rfl, ⟨A0_2, c0_2, rfl, hca0_2, hra0_2⟩, ⟨A0_3, c0_3, rfl, hca0_3, hra0_3⟩⟩, hs0, hz0⟩ := (OpensZ.st4 Tryz.underlying26 (OpensZ.int Tryz.underlying3 (by kernel_rfl)) (OpensZ.slice Tryz.underlying22 (by kernel_rfl) (OpensZ.str Tryz.underlying9 (by kernel_rfl))) (OpensZ.slice Tryz.underlying23 (by kernel_rfl) (OpensZ.mk (U := Q3.fl.rep) (OpensZ.st3 Tryz.underlying48 (OpensZ.int Tryz.underlying3 (by kernel_rfl)) (OpensZ.int Tryz.underlying3 (by kernel_rfl)) (OpensZ.int Tryz.underlying3 (by kernel_rfl)) rfl rfl rfl (by kernel_rfl)) (fun p => ⟨p.1, p.2.1, p.2.2⟩) rfl (by rintro H a cs ⟨_, _, rfl, rfl, ⟨_, _, rfl, rfl, rfl⟩⟩; rfl) (S' := fun x => ((Lit.int .i64 x.From).wf = true ∧ (Lit.int .i64 x.Action).wf = true ∧ (Lit.int .i64 x.To).wf = true)) (Z' := fun x => (True ∧ True ∧ True)) (fun _ h => h) (fun _ h => h))) (OpensZ.slice Tryz.underlying24 (by kernel_rfl) (OpensZ.mk (U := Q5.rep) (OpensZ.st2 Tryz.underlying41 (OpensZ.str Tryz.underlying9 (by kernel_rfl)) (OpensZ.slice Tryz.underlying39 (by kernel_rfl) (OpensZ.int Tryz.underlying3 (by kernel_rfl))) rfl rfl (by kernel_rfl)) (fun p => ⟨p.1, p.2⟩) rfl (fun h => h) (S' := fun x => (x.Name.length ≤ maxLen ∧ (x.States.length ≤ maxLen ∧ ∀ y8 ∈ x.States, (Lit.int .i64 y8).wf = true))) (Z' := fun x => (True ∧ (x.States.length * Go.Proofs.Tryz.prog.bytesOf 3 ≤ reachBytes ∧ ∀ y8 ∈ x.States, True))) (fun _ h => h) (fun _ h => h))) rfl rfl rfl rfl (by kernel_rfl)).get h0
  have e0_ : l0_ = _ := e0_
  subst e0_
  have hzz0 := hz0 (Q251 (j := 0) (t := 26) hsz rfl rfl)
  have lt1 : ∀ x ∈ p1, x.block < W.heap.size := by obtain ⟨m, hm⟩ := h1; exact DataW.trod_lt m _ _ _ hm
  have k1 := h1
  obtain ⟨z1_, zl1_, zc1_, rfl⟩ := okWide_slice Tryz.underlying27 (hval 1 27 v1 rfl rfl)
  obtain ⟨a1, ⟨A1, c1, e1_, hca1, hra1⟩, hs1, hz1⟩ := (OpensZ.slice Tryz.underlying27 (by kernel_rfl) (OpensZ.mk (U := Q0.fl.rep) (OpensZ.st5 Tryz.underlying33 (OpensZ.int Tryz.underlying3 (by kernel_rfl)) (OpensZ.int Tryz.underlying3 (by kernel_rfl)) (OpensZ.int Tryz.underlying3 (by kernel_rfl)) (OpensZ.str Tryz.underlying9 (by kernel_rfl)) (OpensZ.int Tryz.underlying3 (by kernel_rfl)) rfl rfl rfl rfl rfl (by kernel_rfl)) (fun p => ⟨p.1, p.2.1, p.2.2.1, p.2.2.2.1, p.2.2.2.2⟩) rfl (by rintro H a cs ⟨_, _, rfl, rfl, ⟨_, _, rfl, rfl, ⟨_, _, rfl, rfl, ⟨_, _, rfl, rfl, rfl⟩⟩⟩⟩; rfl) (S' := fun x => ((Lit.int .i64 x.Kind).wf = true ∧ (Lit.int .i64 x.A).wf = true ∧ (Lit.int .i64 x.B).wf = true ∧ x.Name.length ≤ maxLen ∧ (Lit.int .i64 x.At).wf = true)) (Z' := fun x => (True ∧ True ∧ True ∧ True ∧ True)) (fun _ h => h) (fun _ h => h))).get h1
  obtain ⟨rfl, rfl, rfl⟩ : A1 = z1_ ∧ zl1_ = a1.length ∧ c1 = zc1_ := by
    have h_ := e1_
    simp [Value.cells] at h_
    exact ⟨h_.1.symm, h_.2.1, h_.2.2.symm⟩
  have hzz1 := hz1 (Q251 (j := 1) (t := 27) hsz rfl rfl)
  obtain ⟨a2, rfl, rfl, rfl, w2⟩ := open_int Tryz.underlying3 (hval 2 3 v2 rfl rfl) h2
  clear hA0 hval0 hval hsz0 hsz
  refine (Q153.spec (Res.of W) [] A0_1 a0_1.length c0_1 A0_2 a0_2.length c0_2 A0_3 a0_3.length c0_3 A1 a1.length c1 a0_0 a0_1 a0_2 a0_3 a1 a2 hra0_1 rfl hca0_1 hra0_2 rfl hca0_2 hra0_3 rfl hca0_3 hra1 rfl hca1 (laid64_rd hL) (Q319 hs0 hzz0 hs1 hzz1 w2) W (sat_of W)).mono fun e W' he => ?_
  obtain ⟨v, l', rfl, hp, hs⟩ := he
  obtain ⟨rfl, _⟩ := hp
  have bel := below_of hs
  exact ⟨_, rfl, _, _, _, [], _, [], hW', trodAll_mk1 (shut_bool Tryz.underlying4 _), (trodAll_cons_mk (Below.trod laidOut (by kernel_rfl) (of_decide_eq_true (by kernel_rfl)) k0 bel lt0) (trodAll_cons_mk (Below.trod laidOut (by kernel_rfl) (of_decide_eq_true (by kernel_rfl)) k1 bel lt1) (trodAll_cons_mk (shut_int Tryz.underlying3 w2) trodAll_mk0))), rfl, bel.frame _, fun h => by cases h⟩
theorem over : Rows.buildBesideRow.holds Tryz.pinned (OpenSpec.ofChange Rows.buildBesideSpec) :=
  OpenClaim.holds_of_wide 7 Tryz.f7 rfl rfl rfl rfl rfl rfl rfl ⟨rfl, rfl, rfl, rfl, rfl⟩ rfl rfl rfl rfl rfl (by kernel_rfl) Tryz.func7 (by kernel_rfl)
    (of_decide_eq_true (by kernel_rfl)) (by unfold Func.isWrapper; first | (rw [if_pos (by decide +kernel)]; kernel_rfl) | (rw [if_neg (by decide +kernel)]; exact ⟨rfl, rfl⟩))
    (fun os started H enc _ => lifted os started H enc)
theorem proved : Rows.BuildBesideSaid := over
#print axioms proved
end Go.Proofs.YtfbjkcnefhgodaaGreatDoor.buildBeside
namespace Go.Proofs.YtfbjkcnefhgodaaGreatDoor
theorem buildBeside_holds : Rows.BuildBesideSaid := buildBeside.proved
end Go.Proofs.YtfbjkcnefhgodaaGreatDoor

namespace Go.Proofs.YtfbjkcnefhgodaaGreatDoor
theorem buildBeside_card : Rows.BuildBesideCardSaid :=
  Claim7.holds_tied_plain_at .later [] [.data] true (true, "ec77935e663ed847c375f28ad825a779de96ecb540d964e300591143e9007215") true
    buildBeside_holds (fun _ h => by cases h) (by kernel_rfl) (fun _ h => by cases h) buildBeside_row_tie rfl ⟨rfl, rfl⟩ (by kernel_rfl) rfl
    (fun f fn hf hfn => by
      obtain rfl : f = 7 := Option.some.inj ((show Tryz.prog.funcNamed "bailiff/bailifflaw11.BuildBeside" = some 7 by kernel_rfl).symm.trans hf) |>.symm
      obtain rfl : fn = Tryz.f7 := (Option.some.inj (Tryz.func7.symm.trans hfn)).symm
      exact ⟨by kernel_rfl, fun j t ht => by
        rw [Tryz.params7] at ht
        have hm : t ∈ [26, 27, 3] := by simpa using Array.mem_of_getElem? ht
        have hall : ([26, 27, 3].all fun u => !Tryz.prog.wantsStandIn u) = true := by kernel_rfl
        exact (show Tryz.prog.wantsStandIn t = false by simpa using List.all_eq_true.1 hall t hm)⟩)
    (by kernel_rfl)
#print axioms buildBeside_card
end Go.Proofs.YtfbjkcnefhgodaaGreatDoor
