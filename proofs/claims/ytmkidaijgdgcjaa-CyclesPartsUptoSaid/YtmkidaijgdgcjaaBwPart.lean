/- Walks: what the functions of the program compute, told by plain functions, and that the calls come to them. Conditions: none. -/
import Derived.Test.YtmkidaijgdgcjaaBwTyx
import Derived.Test.YtmkidaijgdgcjaaProg
import Derived.Test.YtmkidaijgdgcjaaBwLay
import Derived.Test.YtmkidaijgdgcjaaBwSortI
import Derived.Test.YtmkidaijgdgcjaaBwSortF
import Derived.Deep.QuietTactic
import Derived.Test.YtmkidaijgdgcjaaBwCycA
import Derived.Test.YtmkidaijgdgcjaaBwCyc
import Derived.Test.YtmkidaijgdgcjaaBwSame
import Derived.Test.YtmkidaijgdgcjaaBwRef
import Derived.Test.YtmkidaijgdgcjaaBwCBad
import Derived.Test.YtmkidaijgdgcjaaBwOpt
set_option linter.unusedVariables false
set_option linter.unusedSimpArgs false
set_option linter.unusedSectionVars false
namespace Go.Bw
open Go Go.RowKit Go.Proofs
noncomputable def bailifflaw15_CyclesParts.l2b (x2141 : List (Option (List Int))) (x2142 : Int) (x3004 : List Int) (x3005 : Int) : Option (((List Int) × Int) ⊕ (((List Int)) ⊕ (((List (Option (List Int))) × Int) ⊕ (((List (Option (List Int)))) ⊕ (Bool))))) :=
  if x3005 < ((((gt x2141 x2142).getD []) ++ ([5] : List Int)).length : Int) then
    if (0 : Int) ≤ x3005 ∧ x3005 < ((((gt x2141 x2142).getD []) ++ ([5] : List Int)).length : Int) then
      nx ((st x3004 x3005 (-5)), IntKind.i64.wrap (x3005 + 1))
    else none
  else
    dn (.inl x3004)
noncomputable def bailifflaw15_CyclesParts.l2 (x2141 : List (Option (List Int))) (x2142 : Int) (x3004 : List Int) (x3005 : Int) : Option (((List Int)) ⊕ (((List (Option (List Int))) × Int) ⊕ (((List (Option (List Int)))) ⊕ (Bool)))) := iter (fun t_ : (List Int) × Int => bailifflaw15_CyclesParts.l2b x2141 x2142 t_.1 t_.2) (x3004, x3005)
noncomputable def bailifflaw15_CyclesParts.l1b (t284 : (List (List Int))) (t1326 : (List (List Int))) (x2141 : List (Option (List Int))) (x2142 : Int) : Option (((List (Option (List Int))) × Int) ⊕ (((List (Option (List Int)))) ⊕ (Bool))) :=
  if x2142 < (t1326.length : Int) then
    if (0 : Int) ≤ x2142 ∧ x2142 < (t1326.length : Int) then
      if (gt x2141 x2142).isSome = true then
        if (0 : Int) ≤ x2142 ∧ x2142 < (t284.length : Int) then
          (bailiffref09_SameInts.f ((gt x2141 x2142).getD []) (gt t284 x2142)).bind fun t2390 =>
            if t2390 = true then
              if (((gt x2141 x2142).getD []).length + ([5] : List Int).length) * 8 ≤ 140737488355328 then
                jn (bailifflaw15_CyclesParts.l2 x2141 x2142 (((gt x2141 x2142).getD []) ++ ([5] : List Int)) 0) (fun (x3206 : List Int) =>
                  nx ((st x2141 x2142 none), IntKind.i64.wrap (x2142 + 1)))
              else none
            else
              upL (some false)
        else none
      else none
    else none
  else
    dn (.inl x2141)
noncomputable def bailifflaw15_CyclesParts.l1 (t284 : (List (List Int))) (t1326 : (List (List Int))) (x2141 : List (Option (List Int))) (x2142 : Int) : Option (((List (Option (List Int)))) ⊕ (Bool)) := iter (fun t_ : (List (Option (List Int))) × Int => bailifflaw15_CyclesParts.l1b t284 t1326 t_.1 t_.2) (x2141, x2142)
noncomputable def bailifflaw15_CyclesParts.l3b (x1112 : List (Option (List Int))) (x1113 : Int) (x3868 : List Int) (x3869 : Int) : Option (((List Int) × Int) ⊕ (((List Int)) ⊕ (((List (Option (List Int))) × Int) ⊕ (((List (Option (List Int)))) ⊕ (Bool))))) :=
  if x3869 < ((((gt x1112 x1113).getD []) ++ ([5] : List Int)).length : Int) then
    if (0 : Int) ≤ x3869 ∧ x3869 < ((((gt x1112 x1113).getD []) ++ ([5] : List Int)).length : Int) then
      nx ((st x3868 x3869 (-5)), IntKind.i64.wrap (x3869 + 1))
    else none
  else
    dn (.inl x3868)
noncomputable def bailifflaw15_CyclesParts.l3 (x1112 : List (Option (List Int))) (x1113 : Int) (x3868 : List Int) (x3869 : Int) : Option (((List Int)) ⊕ (((List (Option (List Int))) × Int) ⊕ (((List (Option (List Int)))) ⊕ (Bool)))) := iter (fun t_ : (List Int) × Int => bailifflaw15_CyclesParts.l3b x1112 x1113 t_.1 t_.2) (x3868, x3869)
noncomputable def bailifflaw15_CyclesParts.l0b (t284 : (List (List Int))) (t297 : (List (List Int))) (x1112 : List (Option (List Int))) (x1113 : Int) : Option (((List (Option (List Int))) × Int) ⊕ (((List (Option (List Int)))) ⊕ (Bool))) :=
  if x1113 < (t297.length : Int) then
    if (0 : Int) ≤ x1113 ∧ x1113 < (t297.length : Int) then
      if (gt x1112 x1113).isSome = true then
        if (0 : Int) ≤ x1113 ∧ x1113 < (t284.length : Int) then
          (bailiffref09_SameInts.f ((gt x1112 x1113).getD []) (gt t284 x1113)).bind fun t3254 =>
            if t3254 = true then
              if (((gt x1112 x1113).getD []).length + ([5] : List Int).length) * 8 ≤ 140737488355328 then
                jn (bailifflaw15_CyclesParts.l3 x1112 x1113 (((gt x1112 x1113).getD []) ++ ([5] : List Int)) 0) (fun (x4070 : List Int) =>
                  nx ((st x1112 x1113 none), IntKind.i64.wrap (x1113 + 1)))
              else none
            else
              upL (some false)
        else none
      else none
    else none
  else
    dn (.inl x1112)
noncomputable def bailifflaw15_CyclesParts.l0 (t284 : (List (List Int))) (t297 : (List (List Int))) (x1112 : List (Option (List Int))) (x1113 : Int) : Option (((List (Option (List Int)))) ⊕ (Bool)) := iter (fun t_ : (List (Option (List Int))) × Int => bailifflaw15_CyclesParts.l0b t284 t297 t_.1 t_.2) (x1112, x1113)
noncomputable def bailifflaw15_CyclesParts.f (a0 : List (List Int)) : Option Bool :=
  (bailifflaw15_shown.f ).bind fun t267 =>
    (bailifflaw15_cut.f a0).bind fun t269 =>
      (bailifflaw15_lent.f t269).bind fun t277 =>
        (bailiffref15_Components.f t269).bind fun t284 =>
          (cycles_Components.f (t277.map (·.1))).bind fun t297 =>
            jn (
              if t267 = true then
                some (.inl (!(decide ((t297.length : Int) = (t284.length : Int)))))
              else
                some (.inl true)) (fun (x504 : Bool) =>
              if x504 = true then
                some false
              else
                jn (bailifflaw15_CyclesParts.l0 t284 t297 (t297.map some) 0) (fun (x1314 : List (Option (List Int))) =>
                  (cycles_Components.f (t277.map (·.1))).bind fun t1326 =>
                    jn (
                      if t267 = true then
                        some (.inl (!(decide ((t1326.length : Int) = (t284.length : Int)))))
                      else
                        some (.inl true)) (fun (x1533 : Bool) =>
                      if x1533 = true then
                        some false
                      else
                        jn (bailifflaw15_CyclesParts.l1 t284 t1326 (t1326.map some) 0) (fun (x2343 : List (Option (List Int))) =>
                          (bailifflaw15_kept.f t277 t269).bind fun t2355 =>
                            some t2355))))
theorem bailifflaw15_CyclesParts.callee : Callee Go.Proofs.Try.prog 3 := ⟨_, Go.Proofs.Try.func3, by kernel_rfl, by kernel_rfl⟩
set_option maxRecDepth 100000 in
set_option maxHeartbeats 2000000 in
theorem bailifflaw15_CyclesParts.spec (R : Res) (Fr : List HProp) (A0 : Option Addr) (n0 : Nat) (c0 : Nat) (a0 : List (List Int)) (hr0 : RdS ((Fl.int .i64).rep).slice R.heap A0 a0) (hn0 : a0.length = n0) (hc0 : n0 ≤ c0) {r : Bool} (hrun : bailifflaw15_CyclesParts.f a0 = some r) :
    Spec Go.Proofs.Try.prog 3 [.slice A0 n0 c0] R (Fr) (fun v l' => v = .bool r ∧ Fr = l') := by
  subst hn0
  refine Spec.of Go.Proofs.Try.func3 rfl rfl ?_
  unfold bailifflaw15_CyclesParts.f at hrun
  have hrun := brun hrun
  refine At.seq ?_
  refine At.region ?_
  refine At.run 1 rfl ?_
  refine At.nil ?_
  refine At.thn ?_
  refine At.seq ?_
  refine At.region ?_
  obtain ⟨t267, hc268, hrun⟩ := bbind hrun
  refine At.call rfl bailifflaw15_shown.callee rfl rfl rfl (bailifflaw15_shown.spec _ _    hc268) ?_
  rintro _ _ ⟨rfl, rfl⟩
  refine At.run 1 rfl ?_
  refine At.nil ?_
  refine At.thn ?_
  refine At.seq ?_
  refine At.region ?_
  refine At.run 1 rfl ?_
  obtain ⟨t269, hc270, hrun⟩ := bbind hrun
  refine At.call rfl bailifflaw15_cut.callee rfl rfl rfl (bailifflaw15_cut.spec _ _ A0 a0.length c0 a0 hr0 rfl hc0 hc270) ?_
  rintro _ _ ⟨w271, w272, w273, rfl, rfl, hr274, rfl, hc276⟩
  refine At.run 1 rfl ?_
  refine At.nil ?_
  refine At.thn ?_
  refine At.seq ?_
  refine At.region ?_
  refine At.run 1 rfl ?_
  obtain ⟨t277, hc278, hrun⟩ := bbind hrun
  refine At.call rfl bailifflaw15_lent.callee rfl rfl rfl (bailifflaw15_lent.spec _ _ w271 t269.length w273 t269 hr274 rfl hc276 hc278) ?_
  rintro _ _ ⟨w279, w280, w281, rfl, rfl, rfl⟩
  refine At.run 1 rfl ?_
  refine At.nil ?_
  refine At.thn ?_
  refine At.seq ?_
  refine At.region ?_
  refine At.run 1 rfl ?_
  obtain ⟨t284, hc285, hrun⟩ := bbind hrun
  refine At.call rfl bailiffref15_Components.callee rfl rfl rfl (bailiffref15_Components.spec _ _ w271 t269.length w273 t269 hr274 rfl hc276 hc285) ?_
  rintro _ _ ⟨w286, w287, w288, rfl, rfl, rfl⟩
  refine At.run 1 rfl ?_
  refine At.nil ?_
  refine At.thn ?_
  refine At.seq ?_
  refine At.seq ?_
  refine At.region ?_
  refine At.run 1 rfl ?_
  refine At.nil ?_
  refine At.thn ?_
  refine At.block ?_
  refine At.rounds 3 ?_
  refine At.round ?_
  refine At.seq ?_
  refine At.seq ?_
  refine At.region ?_
  refine At.run 2 rfl ?_
  refine At.nil ?_
  refine At.thn ?_
  refine At.condT rfl rfl ?_
  refine At.skip ?_
  refine At.thn ?_
  refine At.seq ?_
  refine At.block ?_
  refine At.seq ?_
  refine At.region ?_
  refine At.run 1 rfl ?_
  refine At.freezeSrows (.s .z) fun R291 hr292 hn293 hc294 hs295 th296 => ?_
  obtain ⟨t297, hc298, hrun⟩ := bbind hrun
  refine At.call rfl cycles_Components.callee rfl rfl rfl (cycles_Components.spec _ _ w280 t277.length w281 (t277.map (·.1)) (RdS.fst hr292) ((List.length_map _).trans hn293) hc294 hc298) ?_
  rintro _ _ ⟨w299, w300, w301, rfl, rfl, rfl⟩
  refine At.run 1 rfl ?_
  refine At.nil ?_
  refine At.thn ?_
  refine At.seq ?_
  refine At.seq ?_
  refine At.region ?_
  refine At.run 3 rfl ?_
  obtain ⟨G505, hl506, hr507, hrun⟩ := bjoin hrun
  refine At.joinO 6 (X := Bool) (fun x504 => [(0, .slice w271 t269.length w273), (3, .bool t267), (4, .slice w280 t277.length w281), (5, .slice w287 t284.length w288), (6, .int .i64 0), (7, .slice w300 t297.length w301), (33, .bool x504)]) (fun x504 => rows (Fl.int .i64) 3 26 w300 t297.length w301 t297 :: rows (Fl.int .i64) 3 26 w287 t284.length w288 t284 :: Fr) (fun x504 => G505 (.inl x504) = some r) ?_ (fun J508 => ?_)
  · rintro x504 hrun
    have hrun := (hl506 _).symm.trans hrun
    · refine At.nil ?_
      refine At.thn ?_
      rcases bite hrun with ⟨h509, hrun⟩ | ⟨h509, hrun⟩
      · · refine At.condT rfl h509 ?_
          refine At.seq ?_
          refine At.region ?_
          refine At.run 1 rfl ?_
          refine At.nil ?_
          refine At.thn ?_
          refine At.ret ?_
          refine At.thr ?_
          refine At.ibr ?_
          refine At.thr ?_
          refine At.thr ?_
          refine At.ibr ?_
          refine At.thr ?_
          refine At.thaw th296 ?_
          refine At.drop .z ?_
          refine At.drop .z ?_
          refine At.drop .z ?_
          obtain rfl := (bret hrun).symm
          exact At.res (.inl rfl) rfl rfl ⟨rfl, rfl⟩
      · · refine At.condF rfl (bn h509) ?_
          refine At.skip ?_
          refine At.thn ?_
          refine At.seq ?_
          refine At.region ?_
          refine At.run 1 rfl ?_
          refine At.nil ?_
          refine At.thn ?_
          refine At.block ?_
          obtain ⟨G1315, hl1316, hr1317, hrun⟩ := bjoin hrun
          obtain ⟨o1318, hlo1319, ho1320⟩ := bsome hrun
          clear hrun
          unfold bailifflaw15_CyclesParts.l0 at hlo1319
          obtain ⟨m1321, hit1323⟩ := iter_some.1 hlo1319
          clear hlo1319
          refine At.toOrows .z ?_
          refine At.loopJ (X := (List (Option (List Int))) × Int) (Y := (List (Option (List Int)))) (e0 := 2) (fun s_ => [(0, .slice w271 t269.length w273), (3, .bool t267), (4, .slice w280 t277.length w281), (5, .slice w287 t284.length w288), (6, .int .i64 0), (7, .slice w300 t297.length w301), (8, .int .i64 s_.2)]) (fun s_ => orows (Fl.int .i64) 3 26 w300 t297.length w301 s_.1 :: rows (Fl.int .i64) 3 26 w287 t284.length w288 t284 :: Fr) (fun m_ => fun s_ => iterN (fun t_ : (List (Option (List Int))) × Int => bailifflaw15_CyclesParts.l0b t284 t297 t_.1 t_.2) m_ (s_.1, s_.2) = some o1318) m1321 ((t297.map some), 0) hit1323 (fun x1314 => [(0, .slice w271 t269.length w273), (3, .bool t267), (4, .slice w280 t277.length w281), (5, .slice w287 t284.length w288), (6, .int .i64 0)]) (fun x1314 => orows (Fl.int .i64) 3 26 w300 t297.length w301 x1314 :: rows (Fl.int .i64) 3 26 w287 t284.length w288 t284 :: Fr) (fun x1314 => G1315 (.inl x1314) = some r) (fun a w e hs => ⟨e.sub ⟨rfl, rfl, rfl, rfl, rfl, rfl, rfl, trivial⟩, hs⟩) ?_ (fun J1325 => ?_)
          · rintro x1314 hrun
            have hrun := (hl1316 _).symm.trans hrun
            · refine At.ibx ?_
              refine At.ibn ?_
              refine At.thn ?_
              refine At.region ?_
              refine At.run 3 rfl ?_
              refine At.nil ?_
              refine At.thn ?_
              refine At.round ?_
              refine At.seq ?_
              refine At.seq ?_
              refine At.region ?_
              refine At.run 2 rfl ?_
              refine At.nil ?_
              refine At.thn ?_
              refine At.condT rfl rfl ?_
              refine At.skip ?_
              refine At.thn ?_
              refine At.seq ?_
              refine At.block ?_
              refine At.seq ?_
              refine At.region ?_
              refine At.run 1 rfl ?_
              obtain ⟨t1326, hc1327, hrun⟩ := bbind hrun
              refine At.call rfl cycles_Components.callee rfl rfl rfl (cycles_Components.spec _ _ w280 t277.length w281 (t277.map (·.1)) (RdS.fst hr292) ((List.length_map _).trans hn293) hc294 hc1327) ?_
              rintro _ _ ⟨w1328, w1329, w1330, rfl, rfl, rfl⟩
              refine At.run 1 rfl ?_
              refine At.nil ?_
              refine At.thn ?_
              refine At.seq ?_
              refine At.seq ?_
              refine At.region ?_
              refine At.run 3 rfl ?_
              obtain ⟨G1534, hl1535, hr1536, hrun⟩ := bjoin hrun
              refine At.joinO 6 (X := Bool) (fun x1533 => [(0, .slice w271 t269.length w273), (3, .bool t267), (4, .slice w280 t277.length w281), (5, .slice w287 t284.length w288), (6, .int .i64 1), (7, .slice w1329 t1326.length w1330), (33, .bool x1533)]) (fun x1533 => rows (Fl.int .i64) 3 26 w1329 t1326.length w1330 t1326 :: orows (Fl.int .i64) 3 26 w300 t297.length w301 x1314 :: rows (Fl.int .i64) 3 26 w287 t284.length w288 t284 :: Fr) (fun x1533 => G1534 (.inl x1533) = some r) ?_ (fun J1537 => ?_)
              · rintro x1533 hrun
                have hrun := (hl1535 _).symm.trans hrun
                · refine At.nil ?_
                  refine At.thn ?_
                  rcases bite hrun with ⟨h1538, hrun⟩ | ⟨h1538, hrun⟩
                  · · refine At.condT rfl h1538 ?_
                      refine At.seq ?_
                      refine At.region ?_
                      refine At.run 1 rfl ?_
                      refine At.nil ?_
                      refine At.thn ?_
                      refine At.ret ?_
                      refine At.thr ?_
                      refine At.ibr ?_
                      refine At.thr ?_
                      refine At.thr ?_
                      refine At.ibr ?_
                      refine At.thr ?_
                      refine At.thaw th296 ?_
                      refine At.drop .z ?_
                      refine At.drop .z ?_
                      refine At.drop .z ?_
                      refine At.drop .z ?_
                      obtain rfl := (bret hrun).symm
                      exact At.res (.inl rfl) rfl rfl ⟨rfl, rfl⟩
                  · · refine At.condF rfl (bn h1538) ?_
                      refine At.skip ?_
                      refine At.thn ?_
                      refine At.seq ?_
                      refine At.region ?_
                      refine At.run 1 rfl ?_
                      refine At.nil ?_
                      refine At.thn ?_
                      refine At.block ?_
                      obtain ⟨G2344, hl2345, hr2346, hrun⟩ := bjoin hrun
                      obtain ⟨o2347, hlo2348, ho2349⟩ := bsome hrun
                      clear hrun
                      unfold bailifflaw15_CyclesParts.l1 at hlo2348
                      obtain ⟨m2350, hit2352⟩ := iter_some.1 hlo2348
                      clear hlo2348
                      refine At.toOrows .z ?_
                      refine At.loopJ (X := (List (Option (List Int))) × Int) (Y := (List (Option (List Int)))) (e0 := 2) (fun s_ => [(0, .slice w271 t269.length w273), (3, .bool t267), (4, .slice w280 t277.length w281), (5, .slice w287 t284.length w288), (6, .int .i64 1), (7, .slice w1329 t1326.length w1330), (8, .int .i64 s_.2)]) (fun s_ => orows (Fl.int .i64) 3 26 w1329 t1326.length w1330 s_.1 :: orows (Fl.int .i64) 3 26 w300 t297.length w301 x1314 :: rows (Fl.int .i64) 3 26 w287 t284.length w288 t284 :: Fr) (fun m_ => fun s_ => iterN (fun t_ : (List (Option (List Int))) × Int => bailifflaw15_CyclesParts.l1b t284 t1326 t_.1 t_.2) m_ (s_.1, s_.2) = some o2347) m2350 ((t1326.map some), 0) hit2352 (fun x2343 => [(0, .slice w271 t269.length w273), (3, .bool t267), (4, .slice w280 t277.length w281), (5, .slice w287 t284.length w288), (6, .int .i64 1)]) (fun x2343 => orows (Fl.int .i64) 3 26 w1329 t1326.length w1330 x2343 :: orows (Fl.int .i64) 3 26 w300 t297.length w301 x1314 :: rows (Fl.int .i64) 3 26 w287 t284.length w288 t284 :: Fr) (fun x2343 => G2344 (.inl x2343) = some r) (fun a w e hs => ⟨e.sub ⟨rfl, rfl, rfl, rfl, rfl, rfl, rfl, trivial⟩, hs⟩) ?_ (fun J2354 => ?_)
                      · rintro x2343 hrun
                        have hrun := (hl2345 _).symm.trans hrun
                        · refine At.ibx ?_
                          refine At.ibn ?_
                          refine At.thn ?_
                          refine At.region ?_
                          refine At.run 3 rfl ?_
                          refine At.nil ?_
                          refine At.thn ?_
                          refine At.round ?_
                          refine At.seq ?_
                          refine At.seq ?_
                          refine At.region ?_
                          refine At.run 2 rfl ?_
                          refine At.nil ?_
                          refine At.thn ?_
                          refine At.condF rfl rfl ?_
                          refine At.exit ?_
                          refine At.the ?_
                          refine At.the ?_
                          refine At.ibx ?_
                          refine At.thn ?_
                          refine At.seq ?_
                          refine At.region ?_
                          refine At.run 2 rfl ?_
                          obtain ⟨t2355, hc2356, hrun⟩ := bbind hrun
                          refine At.call rfl bailifflaw15_kept.callee rfl rfl rfl (bailifflaw15_kept.spec _ _ w280 t277.length w281 w271 t269.length w273 t277 t269 hr292 hn293 hc294 (RdS.mono hs295 hr274) rfl hc276 hc2356) ?_
                          rintro _ _ ⟨rfl, rfl⟩
                          refine At.run 1 rfl ?_
                          refine At.nil ?_
                          refine At.thn ?_
                          refine At.ret ?_
                          refine At.thaw th296 ?_
                          refine At.drop .z ?_
                          refine At.drop .z ?_
                          refine At.drop .z ?_
                          refine At.drop .z ?_
                          obtain rfl := (bret hrun).symm
                          exact At.res (.inl rfl) rfl rfl ⟨rfl, rfl⟩
                      · clear hit2352 m2350
                        rintro m2350 ⟨x2141, x2142⟩ hit2352
                        obtain ⟨m2351, f_, hlt2353, hf_, hrun⟩ := bit hit2352
                        clear hit2352
                        have hrun : (bailifflaw15_CyclesParts.l1b t284 t1326 x2141 x2142).bind _ = some o2347 := hrun
                        unfold bailifflaw15_CyclesParts.l1b at hrun
                        · refine At.seq ?_
                          refine At.seq ?_
                          refine At.region ?_
                          refine At.run 4 rfl ?_
                          refine At.nil ?_
                          refine At.thn ?_
                          rcases bite hrun with ⟨h2357, hrun⟩ | ⟨h2357, hrun⟩
                          · · refine At.condT rfl (decide_eq_true h2357) ?_
                              refine At.skip ?_
                              refine At.thn ?_
                              refine At.seq ?_
                              refine At.block ?_
                              refine At.seq ?_
                              refine At.freezeOrows .z fun R2358 hr2359 hn2360 hc2361 hs2362 th2363 => ?_
                              refine At.freezeRows (.s .z) fun R2371 hr2372 hn2373 hc2374 hs2375 th2376 => ?_
                              refine At.quiet (by kernel_rfl) ?_
                              refine At.Quiet.run 2 rfl ?_
                              obtain ⟨h2377, hrun⟩ := bnone hrun
                              refine At.Quiet.y (Y.ixRd (RdS.mono hs2375 hr2359) hn2360 rfl rfl rfl rfl rfl rfl h2377.1 h2377.2) rfl rfl rfl ?_
                              obtain ⟨h2378, hrun⟩ := bnone hrun
                              obtain ⟨A2379, c2380, hc2381, hr2382, hy2383⟩ := RdS.rowAtO (P := Go.Proofs.Try.prog) hr2359 hs2375 hn2360 h2377.1 h2377.2 h2378
                              refine At.Quiet.y (hy2383 rfl rfl rfl rfl) rfl rfl rfl ?_
                              refine At.Quiet.run 2 rfl ?_
                              obtain ⟨h2384, hrun⟩ := bnone hrun
                              refine At.Quiet.y (Y.ixRd hr2372 hn2373 rfl rfl rfl rfl rfl rfl h2384.1 h2384.2) rfl rfl rfl ?_
                              obtain ⟨A2385, c2386, hc2387, hr2388, hy2389⟩ := RdS.rowAt (P := Go.Proofs.Try.prog) hr2372 (Sub.refl _) hn2373 h2384.1 h2384.2
                              refine At.Quiet.y (hy2389 rfl rfl rfl rfl) rfl rfl rfl ?_
                              obtain ⟨t2390, hc2391, hrun⟩ := bbind hrun
                              refine At.Quiet.call rfl bailiffref09_SameInts.callee rfl rfl rfl (bailiffref09_SameInts.spec _ _ A2379 (((gt x2141 x2142).getD []).length) c2380 A2385 ((gt t284 x2142).length) c2386 ((gt x2141 x2142).getD []) (gt t284 x2142) (RdS.mono hs2375 hr2382) rfl hc2381 hr2388 rfl hc2387 hc2391) (fun _ _ h_ => ⟨h_.1, fun _ hs => h_.2 ▸ hs⟩) ?_
                              refine At.Quiet.run 1 rfl ?_
                              refine At.Quiet.nil ?_
                              refine At.thn ?_
                              refine At.seq ?_
                              refine At.seq ?_
                              refine At.region ?_
                              refine At.run 2 rfl ?_
                              refine At.nil ?_
                              refine At.thn ?_
                              rcases bite hrun with ⟨h2392, hrun⟩ | ⟨h2392, hrun⟩
                              · · refine At.condF rfl (nf h2392) ?_
                                  refine At.skip ?_
                                  refine At.thn ?_
                                  refine At.seq ?_
                                  refine At.region ?_
                                  refine At.run 2 rfl ?_
                                  refine At.thaw th2376 ?_
                                  refine At.thaw th2363 ?_
                                  refine At.y (Y.ixO .z rfl rfl rfl rfl rfl rfl h2377.1 h2377.2) rfl rfl rfl ?_
                                  refine At.openO rfl .z rfl rfl rfl rfl h2377.1 h2377.2 h2378 rfl (fun A2393 c2394 => ?_)
                                  refine At.lit rfl (xo := [.const (.int .i64 5)]) (ys := ([5] : List Int)) (Fl.int .i64) rfl rfl rfl rfl rfl rfl rfl rfl rfl rfl rfl (fun A2396 c2397 => ?_)
                                  obtain ⟨h2399, hrun⟩ := bnone hrun
                                  refine At.append rfl (.s (.s .z)) (Src.own .z (by simp)) rfl rfl rfl rfl rfl rfl rfl rfl h2399 (by decide) rfl (fun A2400 c2401 => ?_)
                                  refine At.drop (.s .z) ?_
                                  refine At.run 1 rfl ?_
                                  refine At.nil ?_
                                  refine At.thn ?_
                                  refine At.seq ?_
                                  refine At.region ?_
                                  refine At.run 1 rfl ?_
                                  refine At.nil ?_
                                  refine At.thn ?_
                                  refine At.block ?_
                                  obtain ⟨G3207, hl3208, hr3209, hrun⟩ := bjoin hrun
                                  obtain ⟨o3210, hlo3211, ho3212⟩ := bsome hrun
                                  clear hrun
                                  unfold bailifflaw15_CyclesParts.l2 at hlo3211
                                  obtain ⟨m3213, hit3215⟩ := iter_some.1 hlo3211
                                  clear hlo3211
                                  refine At.loopJ (X := (List Int) × Int) (Y := (List Int)) (e0 := 4) (fun s_ => [(0, .slice w271 t269.length w273), (3, .bool t267), (4, .slice w280 t277.length w281), (5, .slice w287 t284.length w288), (6, .int .i64 1), (7, .slice w1329 t1326.length w1330), (8, .int .i64 x2142), (10, .slice A2400 ((((gt x2141 x2142).getD []) ++ ([5] : List Int)).length) c2401), (11, .int .i64 s_.2)]) (fun s_ => row (Fl.int .i64) 3 A2400 ((((gt x2141 x2142).getD []) ++ ([5] : List Int)).length) c2401 s_.1 :: orows (Fl.int .i64) 3 26 w1329 t1326.length w1330 (st x2141 x2142 none) :: rows (Fl.int .i64) 3 26 w287 t284.length w288 t284 :: orows (Fl.int .i64) 3 26 w300 t297.length w301 x1314 :: Fr) (fun m_ => fun s_ => iterN (fun t_ : (List Int) × Int => bailifflaw15_CyclesParts.l2b x2141 x2142 t_.1 t_.2) m_ (s_.1, s_.2) = some o3210) m3213 ((((gt x2141 x2142).getD []) ++ ([5] : List Int)), 0) hit3215 (fun x3206 => [(0, .slice w271 t269.length w273), (3, .bool t267), (4, .slice w280 t277.length w281), (5, .slice w287 t284.length w288), (6, .int .i64 1), (7, .slice w1329 t1326.length w1330), (8, .int .i64 x2142)]) (fun x3206 => row (Fl.int .i64) 3 A2400 ((((gt x2141 x2142).getD []) ++ ([5] : List Int)).length) c2401 x3206 :: orows (Fl.int .i64) 3 26 w1329 t1326.length w1330 (st x2141 x2142 none) :: rows (Fl.int .i64) 3 26 w287 t284.length w288 t284 :: orows (Fl.int .i64) 3 26 w300 t297.length w301 x1314 :: Fr) (fun x3206 => G3207 (.inl x3206) = some o2347) (fun a w e hs => ⟨e.sub ⟨rfl, rfl, rfl, rfl, rfl, rfl, rfl, rfl, rfl, trivial⟩, hs⟩) ?_ (fun J3217 => ?_)
                                  · rintro x3206 hrun
                                    have hrun := (hl3208 _).symm.trans hrun
                                    · refine At.ibx ?_
                                      refine At.ibn ?_
                                      refine At.thn ?_
                                      refine At.region ?_
                                      refine At.run 3 rfl ?_
                                      refine At.nil ?_
                                      refine At.drop .z ?_
                                      refine At.frt (.s .z) ?_
                                      refine At.frt (.s (.s .z)) ?_
                                      refine At.frt (.s (.s .z)) ?_
                                      have hrun := bnx hf_ hrun
                                      exact fun a w e hs => ⟨m2351, ((st x2141 x2142 none), IntKind.i64.wrap (x2142 + 1)), hlt2353, hrun, e.sub ⟨rfl, rfl, rfl, rfl, rfl, rfl, rfl, trivial⟩, hs⟩
                                  · clear hit3215 m3213
                                    rintro m3213 ⟨x3004, x3005⟩ hit3215
                                    obtain ⟨m3214, f_, hlt3216, hf_, hrun⟩ := bit hit3215
                                    clear hit3215
                                    have hrun : (bailifflaw15_CyclesParts.l2b x2141 x2142 x3004 x3005).bind _ = some o3210 := hrun
                                    unfold bailifflaw15_CyclesParts.l2b at hrun
                                    · refine At.seq ?_
                                      refine At.seq ?_
                                      refine At.region ?_
                                      refine At.run 4 rfl ?_
                                      refine At.nil ?_
                                      refine At.thn ?_
                                      rcases bite hrun with ⟨h3218, hrun⟩ | ⟨h3218, hrun⟩
                                      · · refine At.condT rfl (decide_eq_true h3218) ?_
                                          refine At.skip ?_
                                          refine At.thn ?_
                                          refine At.seq ?_
                                          refine At.block ?_
                                          refine At.region ?_
                                          refine At.run 2 rfl ?_
                                          obtain ⟨h3219, hrun⟩ := bnone hrun
                                          refine At.y (Y.ix .z rfl rfl rfl rfl rfl rfl h3219.1 h3219.2) rfl rfl rfl ?_
                                          refine At.st rfl .z (q := 0) (z := (-5)) rfl rfl rfl h3219.1 h3219.2 rfl rfl (.c .n) ?_
                                          refine At.nil ?_
                                          refine At.ibn ?_
                                          refine At.thn ?_
                                          refine At.region ?_
                                          refine At.run 3 rfl ?_
                                          refine At.nil ?_
                                          have hrun := bnx hf_ hrun
                                          exact fun a w e hs => ⟨m3214, ((st x3004 x3005 (-5)), IntKind.i64.wrap (x3005 + 1)), hlt3216, hrun, e.sub ⟨rfl, rfl, rfl, rfl, rfl, rfl, rfl, rfl, rfl, trivial⟩, hs⟩
                                      · · refine At.condF rfl (decide_eq_false h3218) ?_
                                          refine At.exit ?_
                                          refine At.the ?_
                                          refine At.the ?_
                                          exact fun a w e hs => J3217 x3004 (bdn hrun ho3212) a w (e.sub ⟨rfl, rfl, rfl, rfl, rfl, rfl, rfl, trivial⟩) hs
                              · · refine At.condT rfl (nt (bn h2392)) ?_
                                  refine At.seq ?_
                                  refine At.region ?_
                                  refine At.run 1 rfl ?_
                                  refine At.nil ?_
                                  refine At.thn ?_
                                  refine At.ret ?_
                                  refine At.thr ?_
                                  refine At.ibr ?_
                                  refine At.thr ?_
                                  have hrun := bupL hr2346 ho2349 hrun
                                  refine At.thr ?_
                                  refine At.ibr ?_
                                  refine At.ibr ?_
                                  refine At.thr ?_
                                  refine At.thr ?_
                                  refine At.ibr ?_
                                  refine At.thr ?_
                                  refine At.thaw th2376 ?_
                                  refine At.thaw th2363 ?_
                                  refine At.thaw th296 ?_
                                  refine At.drop .z ?_
                                  refine At.drop .z ?_
                                  refine At.drop .z ?_
                                  refine At.drop .z ?_
                                  obtain rfl := (bret hrun).symm
                                  exact At.res (.inl rfl) rfl rfl ⟨rfl, rfl⟩
                          · · refine At.condF rfl (decide_eq_false h2357) ?_
                              refine At.exit ?_
                              refine At.the ?_
                              refine At.the ?_
                              exact fun a w e hs => J2354 x2141 (bdn hrun ho2349) a w (e.sub ⟨rfl, rfl, rfl, rfl, rfl, trivial⟩) hs
              · · rcases bite hrun with ⟨h3220, hrun⟩ | ⟨h3220, hrun⟩
                  · · refine At.know (t := 27) rfl (nf h3220) ?_
                      refine At.run 6 rfl ?_
                      exact At.of (J1537 (!(decide ((t1326.length : Int) = (t284.length : Int)))) hrun) ⟨rfl, rfl, rfl, rfl, rfl, rfl, rfl, trivial⟩
                  · · refine At.know (t := 27) rfl (nt (bn h3220)) ?_
                      refine At.run 6 rfl ?_
                      exact At.of (J1537 true hrun) ⟨rfl, rfl, rfl, rfl, rfl, rfl, rfl, trivial⟩
          · clear hit1323 m1321
            rintro m1321 ⟨x1112, x1113⟩ hit1323
            obtain ⟨m1322, f_, hlt1324, hf_, hrun⟩ := bit hit1323
            clear hit1323
            have hrun : (bailifflaw15_CyclesParts.l0b t284 t297 x1112 x1113).bind _ = some o1318 := hrun
            unfold bailifflaw15_CyclesParts.l0b at hrun
            · refine At.seq ?_
              refine At.seq ?_
              refine At.region ?_
              refine At.run 4 rfl ?_
              refine At.nil ?_
              refine At.thn ?_
              rcases bite hrun with ⟨h3221, hrun⟩ | ⟨h3221, hrun⟩
              · · refine At.condT rfl (decide_eq_true h3221) ?_
                  refine At.skip ?_
                  refine At.thn ?_
                  refine At.seq ?_
                  refine At.block ?_
                  refine At.seq ?_
                  refine At.freezeOrows .z fun R3222 hr3223 hn3224 hc3225 hs3226 th3227 => ?_
                  refine At.freezeRows .z fun R3235 hr3236 hn3237 hc3238 hs3239 th3240 => ?_
                  refine At.quiet (by kernel_rfl) ?_
                  refine At.Quiet.run 2 rfl ?_
                  obtain ⟨h3241, hrun⟩ := bnone hrun
                  refine At.Quiet.y (Y.ixRd (RdS.mono hs3239 hr3223) hn3224 rfl rfl rfl rfl rfl rfl h3241.1 h3241.2) rfl rfl rfl ?_
                  obtain ⟨h3242, hrun⟩ := bnone hrun
                  obtain ⟨A3243, c3244, hc3245, hr3246, hy3247⟩ := RdS.rowAtO (P := Go.Proofs.Try.prog) hr3223 hs3239 hn3224 h3241.1 h3241.2 h3242
                  refine At.Quiet.y (hy3247 rfl rfl rfl rfl) rfl rfl rfl ?_
                  refine At.Quiet.run 2 rfl ?_
                  obtain ⟨h3248, hrun⟩ := bnone hrun
                  refine At.Quiet.y (Y.ixRd hr3236 hn3237 rfl rfl rfl rfl rfl rfl h3248.1 h3248.2) rfl rfl rfl ?_
                  obtain ⟨A3249, c3250, hc3251, hr3252, hy3253⟩ := RdS.rowAt (P := Go.Proofs.Try.prog) hr3236 (Sub.refl _) hn3237 h3248.1 h3248.2
                  refine At.Quiet.y (hy3253 rfl rfl rfl rfl) rfl rfl rfl ?_
                  obtain ⟨t3254, hc3255, hrun⟩ := bbind hrun
                  refine At.Quiet.call rfl bailiffref09_SameInts.callee rfl rfl rfl (bailiffref09_SameInts.spec _ _ A3243 (((gt x1112 x1113).getD []).length) c3244 A3249 ((gt t284 x1113).length) c3250 ((gt x1112 x1113).getD []) (gt t284 x1113) (RdS.mono hs3239 hr3246) rfl hc3245 hr3252 rfl hc3251 hc3255) (fun _ _ h_ => ⟨h_.1, fun _ hs => h_.2 ▸ hs⟩) ?_
                  refine At.Quiet.run 1 rfl ?_
                  refine At.Quiet.nil ?_
                  refine At.thn ?_
                  refine At.seq ?_
                  refine At.seq ?_
                  refine At.region ?_
                  refine At.run 2 rfl ?_
                  refine At.nil ?_
                  refine At.thn ?_
                  rcases bite hrun with ⟨h3256, hrun⟩ | ⟨h3256, hrun⟩
                  · · refine At.condF rfl (nf h3256) ?_
                      refine At.skip ?_
                      refine At.thn ?_
                      refine At.seq ?_
                      refine At.region ?_
                      refine At.run 2 rfl ?_
                      refine At.thaw th3240 ?_
                      refine At.thaw th3227 ?_
                      refine At.y (Y.ixO .z rfl rfl rfl rfl rfl rfl h3241.1 h3241.2) rfl rfl rfl ?_
                      refine At.openO rfl .z rfl rfl rfl rfl h3241.1 h3241.2 h3242 rfl (fun A3257 c3258 => ?_)
                      refine At.lit rfl (xo := [.const (.int .i64 5)]) (ys := ([5] : List Int)) (Fl.int .i64) rfl rfl rfl rfl rfl rfl rfl rfl rfl rfl rfl (fun A3260 c3261 => ?_)
                      obtain ⟨h3263, hrun⟩ := bnone hrun
                      refine At.append rfl (.s (.s .z)) (Src.own .z (by simp)) rfl rfl rfl rfl rfl rfl rfl rfl h3263 (by decide) rfl (fun A3264 c3265 => ?_)
                      refine At.drop (.s .z) ?_
                      refine At.run 1 rfl ?_
                      refine At.nil ?_
                      refine At.thn ?_
                      refine At.seq ?_
                      refine At.region ?_
                      refine At.run 1 rfl ?_
                      refine At.nil ?_
                      refine At.thn ?_
                      refine At.block ?_
                      obtain ⟨G4071, hl4072, hr4073, hrun⟩ := bjoin hrun
                      obtain ⟨o4074, hlo4075, ho4076⟩ := bsome hrun
                      clear hrun
                      unfold bailifflaw15_CyclesParts.l3 at hlo4075
                      obtain ⟨m4077, hit4079⟩ := iter_some.1 hlo4075
                      clear hlo4075
                      refine At.loopJ (X := (List Int) × Int) (Y := (List Int)) (e0 := 4) (fun s_ => [(0, .slice w271 t269.length w273), (3, .bool t267), (4, .slice w280 t277.length w281), (5, .slice w287 t284.length w288), (6, .int .i64 0), (7, .slice w300 t297.length w301), (8, .int .i64 x1113), (10, .slice A3264 ((((gt x1112 x1113).getD []) ++ ([5] : List Int)).length) c3265), (11, .int .i64 s_.2)]) (fun s_ => row (Fl.int .i64) 3 A3264 ((((gt x1112 x1113).getD []) ++ ([5] : List Int)).length) c3265 s_.1 :: orows (Fl.int .i64) 3 26 w300 t297.length w301 (st x1112 x1113 none) :: rows (Fl.int .i64) 3 26 w287 t284.length w288 t284 :: Fr) (fun m_ => fun s_ => iterN (fun t_ : (List Int) × Int => bailifflaw15_CyclesParts.l3b x1112 x1113 t_.1 t_.2) m_ (s_.1, s_.2) = some o4074) m4077 ((((gt x1112 x1113).getD []) ++ ([5] : List Int)), 0) hit4079 (fun x4070 => [(0, .slice w271 t269.length w273), (3, .bool t267), (4, .slice w280 t277.length w281), (5, .slice w287 t284.length w288), (6, .int .i64 0), (7, .slice w300 t297.length w301), (8, .int .i64 x1113)]) (fun x4070 => row (Fl.int .i64) 3 A3264 ((((gt x1112 x1113).getD []) ++ ([5] : List Int)).length) c3265 x4070 :: orows (Fl.int .i64) 3 26 w300 t297.length w301 (st x1112 x1113 none) :: rows (Fl.int .i64) 3 26 w287 t284.length w288 t284 :: Fr) (fun x4070 => G4071 (.inl x4070) = some o1318) (fun a w e hs => ⟨e.sub ⟨rfl, rfl, rfl, rfl, rfl, rfl, rfl, rfl, rfl, trivial⟩, hs⟩) ?_ (fun J4081 => ?_)
                      · rintro x4070 hrun
                        have hrun := (hl4072 _).symm.trans hrun
                        · refine At.ibx ?_
                          refine At.ibn ?_
                          refine At.thn ?_
                          refine At.region ?_
                          refine At.run 3 rfl ?_
                          refine At.nil ?_
                          refine At.drop .z ?_
                          have hrun := bnx hf_ hrun
                          exact fun a w e hs => ⟨m1322, ((st x1112 x1113 none), IntKind.i64.wrap (x1113 + 1)), hlt1324, hrun, e.sub ⟨rfl, rfl, rfl, rfl, rfl, rfl, rfl, trivial⟩, hs⟩
                      · clear hit4079 m4077
                        rintro m4077 ⟨x3868, x3869⟩ hit4079
                        obtain ⟨m4078, f_, hlt4080, hf_, hrun⟩ := bit hit4079
                        clear hit4079
                        have hrun : (bailifflaw15_CyclesParts.l3b x1112 x1113 x3868 x3869).bind _ = some o4074 := hrun
                        unfold bailifflaw15_CyclesParts.l3b at hrun
                        · refine At.seq ?_
                          refine At.seq ?_
                          refine At.region ?_
                          refine At.run 4 rfl ?_
                          refine At.nil ?_
                          refine At.thn ?_
                          rcases bite hrun with ⟨h4082, hrun⟩ | ⟨h4082, hrun⟩
                          · · refine At.condT rfl (decide_eq_true h4082) ?_
                              refine At.skip ?_
                              refine At.thn ?_
                              refine At.seq ?_
                              refine At.block ?_
                              refine At.region ?_
                              refine At.run 2 rfl ?_
                              obtain ⟨h4083, hrun⟩ := bnone hrun
                              refine At.y (Y.ix .z rfl rfl rfl rfl rfl rfl h4083.1 h4083.2) rfl rfl rfl ?_
                              refine At.st rfl .z (q := 0) (z := (-5)) rfl rfl rfl h4083.1 h4083.2 rfl rfl (.c .n) ?_
                              refine At.nil ?_
                              refine At.ibn ?_
                              refine At.thn ?_
                              refine At.region ?_
                              refine At.run 3 rfl ?_
                              refine At.nil ?_
                              have hrun := bnx hf_ hrun
                              exact fun a w e hs => ⟨m4078, ((st x3868 x3869 (-5)), IntKind.i64.wrap (x3869 + 1)), hlt4080, hrun, e.sub ⟨rfl, rfl, rfl, rfl, rfl, rfl, rfl, rfl, rfl, trivial⟩, hs⟩
                          · · refine At.condF rfl (decide_eq_false h4082) ?_
                              refine At.exit ?_
                              refine At.the ?_
                              refine At.the ?_
                              exact fun a w e hs => J4081 x3868 (bdn hrun ho4076) a w (e.sub ⟨rfl, rfl, rfl, rfl, rfl, rfl, rfl, trivial⟩) hs
                  · · refine At.condT rfl (nt (bn h3256)) ?_
                      refine At.seq ?_
                      refine At.region ?_
                      refine At.run 1 rfl ?_
                      refine At.nil ?_
                      refine At.thn ?_
                      refine At.ret ?_
                      refine At.thr ?_
                      refine At.ibr ?_
                      refine At.thr ?_
                      have hrun := bupL hr1317 ho1320 hrun
                      refine At.thr ?_
                      refine At.ibr ?_
                      refine At.ibr ?_
                      refine At.thr ?_
                      refine At.thr ?_
                      refine At.ibr ?_
                      refine At.thr ?_
                      refine At.thaw th3240 ?_
                      refine At.thaw th3227 ?_
                      refine At.thaw th296 ?_
                      refine At.drop .z ?_
                      refine At.drop .z ?_
                      refine At.drop .z ?_
                      obtain rfl := (bret hrun).symm
                      exact At.res (.inl rfl) rfl rfl ⟨rfl, rfl⟩
              · · refine At.condF rfl (decide_eq_false h3221) ?_
                  refine At.exit ?_
                  refine At.the ?_
                  refine At.the ?_
                  exact fun a w e hs => J1325 x1112 (bdn hrun ho1320) a w (e.sub ⟨rfl, rfl, rfl, rfl, rfl, trivial⟩) hs
  · · rcases bite hrun with ⟨h4084, hrun⟩ | ⟨h4084, hrun⟩
      · · refine At.know (t := 27) rfl (nf h4084) ?_
          refine At.run 6 rfl ?_
          exact At.of (J508 (!(decide ((t297.length : Int) = (t284.length : Int)))) hrun) ⟨rfl, rfl, rfl, rfl, rfl, rfl, rfl, trivial⟩
      · · refine At.know (t := 27) rfl (nt (bn h4084)) ?_
          refine At.run 6 rfl ?_
          exact At.of (J508 true hrun) ⟨rfl, rfl, rfl, rfl, rfl, rfl, rfl, trivial⟩

end Go.Bw
