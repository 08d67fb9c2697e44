/- Walks: what the functions of the program compute, told by plain functions, and that the calls come to them. Conditions: none. -/
import Derived.Test.YtmkidaijgdgcjaaBwTyx
import Derived.Test.YtmkidaijgdgcjaaProg
import Derived.Test.YtmkidaijgdgcjaaBwLay
import Derived.Test.YtmkidaijgdgcjaaBwSortI
import Derived.Test.YtmkidaijgdgcjaaBwSortF
import Derived.Deep.QuietTactic
import Derived.Test.YtmkidaijgdgcjaaBwCycA
import Derived.Test.YtmkidaijgdgcjaaBwCyc
import Derived.Test.YtmkidaijgdgcjaaBwSame
set_option linter.unusedVariables false
set_option linter.unusedSimpArgs false
set_option linter.unusedSectionVars false
namespace Go.Bw
open Go Go.RowKit Go.Proofs
noncomputable def bailifflaw15_CyclesTurned.l2b (t269 : (List (List Int))) (x2131 : List Int) (x2744 : Int) : Option ((Int) ⊕ ((Unit) ⊕ (Bool))) :=
  if x2744 < ((List.replicate (t269.length : Int).toNat (0 : Int)).length : Int) then
    if (0 : Int) ≤ x2744 ∧ x2744 < ((List.replicate (t269.length : Int).toNat (0 : Int)).length : Int) then
      if gt x2131 x2744 = 1 then
        nx (IntKind.i64.wrap (x2744 + 1))
      else
        upL (some false)
    else none
  else
    dn (.inl ())
noncomputable def bailifflaw15_CyclesTurned.l2 (t269 : (List (List Int))) (x2131 : List Int) (x2744 : Int) : Option ((Unit) ⊕ (Bool)) := iter (fun t_ : Int => bailifflaw15_CyclesTurned.l2b t269 x2131 t_) x2744
noncomputable def bailifflaw15_CyclesTurned.l3b (t269 : (List (List Int))) (t1097 : (List (List Int))) (x1930 : Int) (x4005 : List Int) (x4006 : Int) : Option (((List Int) × Int) ⊕ (((List Int)) ⊕ (((List Int) × Int) ⊕ (((List Int)) ⊕ (Bool))))) :=
  if x4006 < ((gt t1097 x1930).length : Int) then
    if (0 : Int) ≤ x4006 ∧ x4006 < ((gt t1097 x1930).length : Int) then
      jn (
        if gt (gt t1097 x1930) x4006 < 0 then
          some (.inl true)
        else
          some (.inl (decide ((t269.length : Int) ≤ gt (gt t1097 x1930) x4006)))) (fun (x4431 : Bool) =>
        jn (
          if x4431 = true then
            some (.inl true)
          else
            jn (
              if 0 < x4006 then
                if (0 : Int) ≤ IntKind.i64.wrap (x4006 - 1) ∧ IntKind.i64.wrap (x4006 - 1) < ((gt t1097 x1930).length : Int) then
                  some (.inl (true, decide (gt (gt t1097 x1930) x4006 ≤ gt (gt t1097 x1930) (IntKind.i64.wrap (x4006 - 1)))))
                else none
              else
                some (.inl (false, false))) (fun (s_ : Bool × Bool) =>
              some (.inl s_.2))) (fun (x4636 : Bool) =>
          if x4636 = true then
            upL (upL (some false))
          else
            if (0 : Int) ≤ gt (gt t1097 x1930) x4006 ∧ gt (gt t1097 x1930) x4006 < ((List.replicate (t269.length : Int).toNat (0 : Int)).length : Int) then
              nx ((st x4005 (gt (gt t1097 x1930) x4006) (IntKind.i64.wrap (gt x4005 (gt (gt t1097 x1930) x4006) + 1))), IntKind.i64.wrap (x4006 + 1))
            else none))
    else none
  else
    dn (.inl x4005)
noncomputable def bailifflaw15_CyclesTurned.l3 (t269 : (List (List Int))) (t1097 : (List (List Int))) (x1930 : Int) (x4005 : List Int) (x4006 : Int) : Option (((List Int)) ⊕ (((List Int) × Int) ⊕ (((List Int)) ⊕ (Bool)))) := iter (fun t_ : (List Int) × Int => bailifflaw15_CyclesTurned.l3b t269 t1097 x1930 t_.1 t_.2) (x4005, x4006)
noncomputable def bailifflaw15_CyclesTurned.l1b (t269 : (List (List Int))) (t1097 : (List (List Int))) (t1110 : (List (List Int))) (x1929 : List Int) (x1930 : Int) : Option (((List Int) × Int) ⊕ (((List Int)) ⊕ (Bool))) :=
  if x1930 < (t1097.length : Int) then
    if (0 : Int) ≤ x1930 ∧ x1930 < (t1097.length : Int) then
      if (0 : Int) ≤ x1930 ∧ x1930 < (t1110.length : Int) then
        (bailiffref09_SameInts.f (gt t1097 x1930) (gt t1110 x1930)).bind fun t2990 =>
          jn (
            if t2990 = true then
              some (.inl (decide (((gt t1097 x1930).length : Int) = 0)))
            else
              some (.inl true)) (fun (x3192 : Bool) =>
            jn (
              if x3192 = true then
                some (.inl true)
              else
                jn (
                  if 0 < x1930 then
                    if (0 : Int) ≤ 0 ∧ 0 < ((gt t1097 x1930).length : Int) then
                      if (0 : Int) ≤ IntKind.i64.wrap (x1930 - 1) ∧ IntKind.i64.wrap (x1930 - 1) < (t1097.length : Int) then
                        if (0 : Int) ≤ 0 ∧ 0 < ((gt t1097 (IntKind.i64.wrap (x1930 - 1))).length : Int) then
                          some (.inl (true, decide (gt (gt t1097 x1930) 0 ≤ gt (gt t1097 (IntKind.i64.wrap (x1930 - 1))) 0)))
                        else none
                      else none
                    else none
                  else
                    some (.inl (false, false))) (fun (s_ : Bool × Bool) =>
                  some (.inl s_.2))) (fun (x3397 : Bool) =>
              if x3397 = true then
                upL (some false)
              else
                jn (bailifflaw15_CyclesTurned.l3 t269 t1097 x1930 x1929 0) (fun (x4207 : List Int) =>
                  nx (x4207, IntKind.i64.wrap (x1930 + 1)))))
      else none
    else none
  else
    dn (.inl x1929)
noncomputable def bailifflaw15_CyclesTurned.l1 (t269 : (List (List Int))) (t1097 : (List (List Int))) (t1110 : (List (List Int))) (x1929 : List Int) (x1930 : Int) : Option (((List Int)) ⊕ (Bool)) := iter (fun t_ : (List Int) × Int => bailifflaw15_CyclesTurned.l1b t269 t1097 t1110 t_.1 t_.2) (x1929, x1930)
noncomputable def bailifflaw15_CyclesTurned.l4b (t269 : (List (List Int))) (x884 : Int) (x5704 : List (List Int)) (x5705 : Int) : Option (((List (List Int)) × Int) ⊕ (((List (List Int))) ⊕ (((List (List Int)) × Int) ⊕ (((List (List Int))) ⊕ (Bool))))) :=
  if (0 : Int) ≤ x884 ∧ x884 < (t269.length : Int) then
    if x5705 < ((gt t269 x884).length : Int) then
      jn (
        if (0 : Int) ≤ x5705 ∧ x5705 < ((gt t269 x884).length : Int) then
          jn (
            if 0 ≤ gt (gt t269 x884) x5705 then
              some (.inl (decide (gt (gt t269 x884) x5705 < (t269.length : Int))))
            else
              some (.inl false)) (fun (x6336 : Bool) =>
            if x6336 = true then
              if (0 : Int) ≤ gt (gt t269 x884) x5705 ∧ gt (gt t269 x884) x5705 < ((List.replicate (t269.length : Int).toNat ([] : List Int)).length : Int) then
                if ((gt x5704 (gt (gt t269 x884) x5705)).length + ([x884] : List Int).length) * 8 ≤ 140737488355328 then
                  some (.inl (st x5704 (gt (gt t269 x884) x5705) ((gt x5704 (gt (gt t269 x884) x5705)) ++ ([x884] : List Int))))
                else none
              else none
            else
              some (.inl x5704))
        else none) (fun (x6129 : List (List Int)) =>
        nx (x6129, IntKind.i64.wrap (x5705 + 1)))
    else
      dn (.inl x5704)
  else none
noncomputable def bailifflaw15_CyclesTurned.l4 (t269 : (List (List Int))) (x884 : Int) (x5704 : List (List Int)) (x5705 : Int) : Option (((List (List Int))) ⊕ (((List (List Int)) × Int) ⊕ (((List (List Int))) ⊕ (Bool)))) := iter (fun t_ : (List (List Int)) × Int => bailifflaw15_CyclesTurned.l4b t269 x884 t_.1 t_.2) (x5704, x5705)
noncomputable def bailifflaw15_CyclesTurned.l0b (t269 : (List (List Int))) (x883 : List (List Int)) (x884 : Int) : Option (((List (List Int)) × Int) ⊕ (((List (List Int))) ⊕ (Bool))) :=
  if x884 < (t269.length : Int) then
    jn (bailifflaw15_CyclesTurned.l4 t269 x884 x883 0) (fun (x5906 : List (List Int)) =>
      nx (x5906, IntKind.i64.wrap (x884 + 1)))
  else
    dn (.inl x883)
noncomputable def bailifflaw15_CyclesTurned.l0 (t269 : (List (List Int))) (x883 : List (List Int)) (x884 : Int) : Option (((List (List Int))) ⊕ (Bool)) := iter (fun t_ : (List (List Int)) × Int => bailifflaw15_CyclesTurned.l0b t269 t_.1 t_.2) (x883, x884)
noncomputable def bailifflaw15_CyclesTurned.f (a0 : List (List Int)) : Option Bool :=
  (bailifflaw15_shown.f ).bind fun t267 =>
    (bailifflaw15_cut.f a0).bind fun t269 =>
      if (0 : Int) ≤ (t269.length : Int) ∧ (24 : Int) * (t269.length : Int) ≤ 281474976710656 then
        jn (bailifflaw15_CyclesTurned.l0 t269 (List.replicate (t269.length : Int).toNat ([] : List Int)) 0) (fun (x1085 : List (List Int)) =>
          (cycles_Components.f t269).bind fun t1097 =>
            (cycles_Components.f x1085).bind fun t1110 =>
              jn (
                if t267 = true then
                  some (.inl (!(decide ((t1097.length : Int) = (t1110.length : Int)))))
                else
                  some (.inl true)) (fun (x1317 : Bool) =>
                if x1317 = true then
                  some false
                else
                  if (0 : Int) ≤ (t269.length : Int) ∧ (8 : Int) * (t269.length : Int) ≤ 281474976710656 then
                    jn (bailifflaw15_CyclesTurned.l1 t269 t1097 t1110 (List.replicate (t269.length : Int).toNat (0 : Int)) 0) (fun (x2131 : List Int) =>
                      jn (bailifflaw15_CyclesTurned.l2 t269 x2131 0) (fun (_ : Unit) =>
                        some true))
                  else none))
      else none
theorem bailifflaw15_CyclesTurned.callee : Callee Go.Proofs.Try.prog 5 := ⟨_, Go.Proofs.Try.func5, by kernel_rfl, by kernel_rfl⟩
set_option maxRecDepth 100000 in
set_option maxHeartbeats 2000000 in
theorem bailifflaw15_CyclesTurned.spec (R : Res) (Fr : List HProp) (A0 : Option Addr) (n0 : Nat) (c0 : Nat) (a0 : List (List Int)) (hr0 : RdS ((Fl.int .i64).rep).slice R.heap A0 a0) (hn0 : a0.length = n0) (hc0 : n0 ≤ c0) {r : Bool} (hrun : bailifflaw15_CyclesTurned.f a0 = some r) :
    Spec Go.Proofs.Try.prog 5 [.slice A0 n0 c0] R (Fr) (fun v l' => v = .bool r ∧ Fr = l') := by
  subst hn0
  refine Spec.of Go.Proofs.Try.func5 rfl rfl ?_
  unfold bailifflaw15_CyclesTurned.f at hrun
  have hrun := brun hrun
  refine At.seq ?_
  refine At.region ?_
  refine At.run 1 rfl ?_
  refine At.nil ?_
  refine At.thn ?_
  refine At.seq ?_
  refine At.region ?_
  obtain ⟨t267, hc268, hrun⟩ := bbind hrun
  refine At.call rfl bailifflaw15_shown.callee rfl rfl rfl (bailifflaw15_shown.spec _ _    hc268) ?_
  rintro _ _ ⟨rfl, rfl⟩
  refine At.run 1 rfl ?_
  refine At.nil ?_
  refine At.thn ?_
  refine At.seq ?_
  refine At.region ?_
  refine At.run 1 rfl ?_
  obtain ⟨t269, hc270, hrun⟩ := bbind hrun
  refine At.call rfl bailifflaw15_cut.callee rfl rfl rfl (bailifflaw15_cut.spec _ _ A0 a0.length c0 a0 hr0 rfl hc0 hc270) ?_
  rintro _ _ ⟨w271, w272, w273, rfl, rfl, hr274, rfl, hc276⟩
  refine At.run 1 rfl ?_
  refine At.nil ?_
  refine At.thn ?_
  refine At.seq ?_
  refine At.region ?_
  refine At.run 2 rfl ?_
  obtain ⟨h277, hrun⟩ := bnone hrun
  refine At.makeRows (Fl.int .i64) 3 rfl rfl rfl rfl rfl rfl rfl rfl rfl h277.1 h277.2 (by decide) rfl (fun A278 c279 => ?_)
  refine At.run 1 rfl ?_
  refine At.nil ?_
  refine At.thn ?_
  refine At.seq ?_
  refine At.seq ?_
  refine At.region ?_
  refine At.run 1 rfl ?_
  refine At.nil ?_
  refine At.thn ?_
  refine At.block ?_
  obtain ⟨G1086, hl1087, hr1088, hrun⟩ := bjoin hrun
  obtain ⟨o1089, hlo1090, ho1091⟩ := bsome hrun
  clear hrun
  unfold bailifflaw15_CyclesTurned.l0 at hlo1090
  obtain ⟨m1092, hit1094⟩ := iter_some.1 hlo1090
  clear hlo1090
  refine At.loopJ (X := (List (List Int)) × Int) (Y := (List (List Int))) (e0 := 0) (fun s_ => [(0, .slice w271 t269.length w273), (3, .bool t267), (4, .slice A278 ((List.replicate (t269.length : Int).toNat ([] : List Int)).length) c279), (5, .int .i64 s_.2)]) (fun s_ => rows (Fl.int .i64) 3 26 A278 ((List.replicate (t269.length : Int).toNat ([] : List Int)).length) c279 s_.1 :: Fr) (fun m_ => fun s_ => iterN (fun t_ : (List (List Int)) × Int => bailifflaw15_CyclesTurned.l0b t269 t_.1 t_.2) m_ (s_.1, s_.2) = some o1089) m1092 ((List.replicate (t269.length : Int).toNat ([] : List Int)), 0) hit1094 (fun x1085 => [(0, .slice w271 t269.length w273), (3, .bool t267), (4, .slice A278 ((List.replicate (t269.length : Int).toNat ([] : List Int)).length) c279)]) (fun x1085 => rows (Fl.int .i64) 3 26 A278 ((List.replicate (t269.length : Int).toNat ([] : List Int)).length) c279 x1085 :: Fr) (fun x1085 => G1086 (.inl x1085) = some r) (fun a w e hs => ⟨e.sub ⟨rfl, rfl, rfl, rfl, trivial⟩, hs⟩) ?_ (fun J1096 => ?_)
  · rintro x1085 hrun
    have hrun := (hl1087 _).symm.trans hrun
    · refine At.ibx ?_
      refine At.thn ?_
      refine At.seq ?_
      refine At.region ?_
      refine At.run 1 rfl ?_
      obtain ⟨t1097, hc1098, hrun⟩ := bbind hrun
      refine At.call rfl cycles_Components.callee rfl rfl rfl (cycles_Components.spec _ _ w271 t269.length w273 t269 hr274 rfl hc276 hc1098) ?_
      rintro _ _ ⟨w1099, w1100, w1101, rfl, rfl, rfl⟩
      refine At.run 1 rfl ?_
      refine At.nil ?_
      refine At.thn ?_
      refine At.seq ?_
      refine At.region ?_
      refine At.run 1 rfl ?_
      refine At.freezeRows (.s .z) fun R1104 hr1105 hn1106 hc1107 hs1108 th1109 => ?_
      obtain ⟨t1110, hc1111, hrun⟩ := bbind hrun
      refine At.call rfl cycles_Components.callee rfl rfl rfl (cycles_Components.spec _ _ A278 ((List.replicate (t269.length : Int).toNat ([] : List Int)).length) c279 x1085 hr1105 hn1106 hc1107 hc1111) ?_
      rintro _ _ ⟨w1112, w1113, w1114, rfl, rfl, rfl⟩
      refine At.run 1 rfl ?_
      refine At.nil ?_
      refine At.thn ?_
      refine At.seq ?_
      refine At.seq ?_
      refine At.region ?_
      refine At.run 3 rfl ?_
      obtain ⟨G1318, hl1319, hr1320, hrun⟩ := bjoin hrun
      refine At.joinO 6 (X := Bool) (fun x1317 => [(0, .slice w271 t269.length w273), (8, .slice w1100 t1097.length w1101), (9, .slice w1113 t1110.length w1114), (73, .bool x1317)]) (fun x1317 => rows (Fl.int .i64) 3 26 w1113 t1110.length w1114 t1110 :: rows (Fl.int .i64) 3 26 w1100 t1097.length w1101 t1097 :: Fr) (fun x1317 => G1318 (.inl x1317) = some r) ?_ (fun J1321 => ?_)
      · rintro x1317 hrun
        have hrun := (hl1319 _).symm.trans hrun
        · refine At.nil ?_
          refine At.thn ?_
          rcases bite hrun with ⟨h1322, hrun⟩ | ⟨h1322, hrun⟩
          · · refine At.condT rfl h1322 ?_
              refine At.seq ?_
              refine At.region ?_
              refine At.run 1 rfl ?_
              refine At.nil ?_
              refine At.thn ?_
              refine At.ret ?_
              refine At.thr ?_
              refine At.thaw th1109 ?_
              refine At.drop .z ?_
              refine At.drop .z ?_
              refine At.drop .z ?_
              obtain rfl := (bret hrun).symm
              exact At.res (.inl rfl) rfl rfl ⟨rfl, rfl⟩
          · · refine At.condF rfl (bn h1322) ?_
              refine At.skip ?_
              refine At.thn ?_
              refine At.seq ?_
              refine At.region ?_
              refine At.run 2 rfl ?_
              obtain ⟨h1323, hrun⟩ := bnone hrun
              refine At.make (F := (Fl.int .i64)) (z := 0) rfl rfl rfl rfl rfl rfl rfl rfl rfl rfl h1323.1 h1323.2 (by decide) rfl (fun A1324 c1325 => ?_)
              refine At.run 1 rfl ?_
              refine At.nil ?_
              refine At.thn ?_
              refine At.seq ?_
              refine At.seq ?_
              refine At.region ?_
              refine At.run 1 rfl ?_
              refine At.nil ?_
              refine At.thn ?_
              refine At.block ?_
              obtain ⟨G2132, hl2133, hr2134, hrun⟩ := bjoin hrun
              obtain ⟨o2135, hlo2136, ho2137⟩ := bsome hrun
              clear hrun
              unfold bailifflaw15_CyclesTurned.l1 at hlo2136
              obtain ⟨m2138, hit2140⟩ := iter_some.1 hlo2136
              clear hlo2136
              refine At.loopJ (X := (List Int) × Int) (Y := (List Int)) (e0 := 4) (fun s_ => [(0, .slice w271 t269.length w273), (8, .slice w1100 t1097.length w1101), (9, .slice w1113 t1110.length w1114), (10, .slice A1324 ((List.replicate (t269.length : Int).toNat (0 : Int)).length) c1325), (11, .int .i64 s_.2)]) (fun s_ => row (Fl.int .i64) 3 A1324 ((List.replicate (t269.length : Int).toNat (0 : Int)).length) c1325 s_.1 :: rows (Fl.int .i64) 3 26 w1113 t1110.length w1114 t1110 :: rows (Fl.int .i64) 3 26 w1100 t1097.length w1101 t1097 :: Fr) (fun m_ => fun s_ => iterN (fun t_ : (List Int) × Int => bailifflaw15_CyclesTurned.l1b t269 t1097 t1110 t_.1 t_.2) m_ (s_.1, s_.2) = some o2135) m2138 ((List.replicate (t269.length : Int).toNat (0 : Int)), 0) hit2140 (fun x2131 => [(10, .slice A1324 ((List.replicate (t269.length : Int).toNat (0 : Int)).length) c1325)]) (fun x2131 => row (Fl.int .i64) 3 A1324 ((List.replicate (t269.length : Int).toNat (0 : Int)).length) c1325 x2131 :: rows (Fl.int .i64) 3 26 w1113 t1110.length w1114 t1110 :: rows (Fl.int .i64) 3 26 w1100 t1097.length w1101 t1097 :: Fr) (fun x2131 => G2132 (.inl x2131) = some r) (fun a w e hs => ⟨e.sub ⟨rfl, rfl, rfl, rfl, rfl, trivial⟩, hs⟩) ?_ (fun J2142 => ?_)
              · rintro x2131 hrun
                have hrun := (hl2133 _).symm.trans hrun
                · refine At.ibx ?_
                  refine At.thn ?_
                  refine At.seq ?_
                  refine At.seq ?_
                  refine At.region ?_
                  refine At.run 1 rfl ?_
                  refine At.nil ?_
                  refine At.thn ?_
                  refine At.block ?_
                  obtain ⟨G2945, hl2946, hr2947, hrun⟩ := bjoin hrun
                  obtain ⟨o2948, hlo2949, ho2950⟩ := bsome hrun
                  clear hrun
                  unfold bailifflaw15_CyclesTurned.l2 at hlo2949
                  obtain ⟨m2951, hit2953⟩ := iter_some.1 hlo2949
                  clear hlo2949
                  refine At.loopJ (X := Int) (Y := Unit) (e0 := 8) (fun x2744 => [(10, .slice A1324 ((List.replicate (t269.length : Int).toNat (0 : Int)).length) c1325), (14, .int .i64 x2744)]) (fun x2744 => row (Fl.int .i64) 3 A1324 ((List.replicate (t269.length : Int).toNat (0 : Int)).length) c1325 x2131 :: rows (Fl.int .i64) 3 26 w1113 t1110.length w1114 t1110 :: rows (Fl.int .i64) 3 26 w1100 t1097.length w1101 t1097 :: Fr) (fun m_ => fun x2744 => iterN (fun t_ : Int => bailifflaw15_CyclesTurned.l2b t269 x2131 t_) m_ x2744 = some o2948) m2951 0 hit2953 (fun _ => []) (fun _ => row (Fl.int .i64) 3 A1324 ((List.replicate (t269.length : Int).toNat (0 : Int)).length) c1325 x2131 :: rows (Fl.int .i64) 3 26 w1113 t1110.length w1114 t1110 :: rows (Fl.int .i64) 3 26 w1100 t1097.length w1101 t1097 :: Fr) (fun _ => G2945 (.inl ()) = some r) (fun a w e hs => ⟨e.sub ⟨rfl, rfl, trivial⟩, hs⟩) ?_ (fun J2955 => ?_)
                  · rintro _ hrun
                    have hrun := (hl2946 _).symm.trans hrun
                    · refine At.ibx ?_
                      refine At.thn ?_
                      refine At.seq ?_
                      refine At.region ?_
                      refine At.run 1 rfl ?_
                      refine At.nil ?_
                      refine At.thn ?_
                      refine At.ret ?_
                      refine At.thaw th1109 ?_
                      refine At.drop .z ?_
                      refine At.drop .z ?_
                      refine At.drop .z ?_
                      refine At.drop .z ?_
                      obtain rfl := (bret hrun).symm
                      exact At.res (.inl rfl) rfl rfl ⟨rfl, rfl⟩
                  · clear hit2953 m2951
                    rintro m2951 x2744 hit2953
                    obtain ⟨m2952, f_, hlt2954, hf_, hrun⟩ := bit hit2953
                    clear hit2953
                    have hrun : (bailifflaw15_CyclesTurned.l2b t269 x2131 x2744).bind _ = some o2948 := hrun
                    unfold bailifflaw15_CyclesTurned.l2b at hrun
                    · refine At.seq ?_
                      refine At.seq ?_
                      refine At.region ?_
                      refine At.run 4 rfl ?_
                      refine At.nil ?_
                      refine At.thn ?_
                      rcases bite hrun with ⟨h2956, hrun⟩ | ⟨h2956, hrun⟩
                      · · refine At.condT rfl (decide_eq_true h2956) ?_
                          refine At.skip ?_
                          refine At.thn ?_
                          refine At.seq ?_
                          refine At.block ?_
                          refine At.seq ?_
                          refine At.region ?_
                          refine At.run 2 rfl ?_
                          obtain ⟨h2957, hrun⟩ := bnone hrun
                          refine At.y (Y.ix .z rfl rfl rfl rfl rfl rfl h2957.1 h2957.2) rfl rfl rfl ?_
                          refine At.y (Y.ld .z (q := 0) rfl rfl h2957.1 h2957.2 rfl rfl rfl) rfl rfl rfl ?_
                          refine At.run 1 rfl ?_
                          refine At.nil ?_
                          refine At.thn ?_
                          rcases bite hrun with ⟨h2958, hrun⟩ | ⟨h2958, hrun⟩
                          · · refine At.condF rfl (nf (decide_eq_true h2958)) ?_
                              refine At.skip ?_
                              refine At.ibn ?_
                              refine At.thn ?_
                              refine At.region ?_
                              refine At.run 3 rfl ?_
                              refine At.nil ?_
                              have hrun := bnx hf_ hrun
                              exact fun a w e hs => ⟨m2952, (IntKind.i64.wrap (x2744 + 1)), hlt2954, hrun, e.sub ⟨rfl, rfl, trivial⟩, hs⟩
                          · · refine At.condT rfl (nt (decide_eq_false h2958)) ?_
                              refine At.seq ?_
                              refine At.region ?_
                              refine At.run 1 rfl ?_
                              refine At.nil ?_
                              refine At.thn ?_
                              refine At.ret ?_
                              refine At.ibr ?_
                              refine At.thr ?_
                              have hrun := bupL hr2947 ho2950 hrun
                              refine At.thr ?_
                              refine At.ibr ?_
                              refine At.thr ?_
                              refine At.thaw th1109 ?_
                              refine At.drop .z ?_
                              refine At.drop .z ?_
                              refine At.drop .z ?_
                              refine At.drop .z ?_
                              obtain rfl := (bret hrun).symm
                              exact At.res (.inl rfl) rfl rfl ⟨rfl, rfl⟩
                      · · refine At.condF rfl (decide_eq_false h2956) ?_
                          refine At.exit ?_
                          refine At.the ?_
                          refine At.the ?_
                          exact fun a w e hs => J2955 () (bdn hrun ho2950) a w (e.sub trivial) hs
              · clear hit2140 m2138
                rintro m2138 ⟨x1929, x1930⟩ hit2140
                obtain ⟨m2139, f_, hlt2141, hf_, hrun⟩ := bit hit2140
                clear hit2140
                have hrun : (bailifflaw15_CyclesTurned.l1b t269 t1097 t1110 x1929 x1930).bind _ = some o2135 := hrun
                unfold bailifflaw15_CyclesTurned.l1b at hrun
                · refine At.seq ?_
                  refine At.seq ?_
                  refine At.region ?_
                  refine At.run 4 rfl ?_
                  refine At.nil ?_
                  refine At.thn ?_
                  rcases bite hrun with ⟨h2959, hrun⟩ | ⟨h2959, hrun⟩
                  · · refine At.condT rfl (decide_eq_true h2959) ?_
                      refine At.skip ?_
                      refine At.thn ?_
                      refine At.seq ?_
                      refine At.block ?_
                      refine At.seq ?_
                      refine At.freezeRows (.s (.s .z)) fun R2960 hr2961 hn2962 hc2963 hs2964 th2965 => ?_
                      refine At.freezeRows (.s .z) fun R2972 hr2973 hn2974 hc2975 hs2976 th2977 => ?_
                      refine At.quiet (by kernel_rfl) ?_
                      refine At.Quiet.run 2 rfl ?_
                      obtain ⟨h2978, hrun⟩ := bnone hrun
                      refine At.Quiet.y (Y.ixRd (RdS.mono hs2976 hr2961) hn2962 rfl rfl rfl rfl rfl rfl h2978.1 h2978.2) rfl rfl rfl ?_
                      obtain ⟨A2979, c2980, hc2981, hr2982, hy2983⟩ := RdS.rowAt (P := Go.Proofs.Try.prog) hr2961 hs2976 hn2962 h2978.1 h2978.2
                      refine At.Quiet.y (hy2983 rfl rfl rfl rfl) rfl rfl rfl ?_
                      refine At.Quiet.run 2 rfl ?_
                      obtain ⟨h2984, hrun⟩ := bnone hrun
                      refine At.Quiet.y (Y.ixRd hr2973 hn2974 rfl rfl rfl rfl rfl rfl h2984.1 h2984.2) rfl rfl rfl ?_
                      obtain ⟨A2985, c2986, hc2987, hr2988, hy2989⟩ := RdS.rowAt (P := Go.Proofs.Try.prog) hr2973 (Sub.refl _) hn2974 h2984.1 h2984.2
                      refine At.Quiet.y (hy2989 rfl rfl rfl rfl) rfl rfl rfl ?_
                      obtain ⟨t2990, hc2991, hrun⟩ := bbind hrun
                      refine At.Quiet.call rfl bailiffref09_SameInts.callee rfl rfl rfl (bailiffref09_SameInts.spec _ _ A2979 ((gt t1097 x1930).length) c2980 A2985 ((gt t1110 x1930).length) c2986 (gt t1097 x1930) (gt t1110 x1930) (RdS.mono hs2976 hr2982) rfl hc2981 hr2988 rfl hc2987 hc2991) (fun _ _ h_ => ⟨h_.1, fun _ hs => h_.2 ▸ hs⟩) ?_
                      refine At.Quiet.run 1 rfl ?_
                      refine At.Quiet.nil ?_
                      refine At.thn ?_
                      refine At.seq ?_
                      refine At.seq ?_
                      refine At.quiet (by kernel_rfl) ?_
                      refine At.Quiet.run 3 rfl ?_
                      obtain ⟨G3193, hl3194, hr3195, hrun⟩ := bjoin hrun
                      refine At.Quiet.joinO 7 (X := Bool) (fun x3192 => [(0, .slice w271 t269.length w273), (8, .slice w1100 t1097.length w1101), (9, .slice w1113 t1110.length w1114), (10, .slice A1324 ((List.replicate (t269.length : Int).toNat (0 : Int)).length) c1325), (11, .int .i64 x1930), (101, .bool x3192)]) (fun x3192 => row (Fl.int .i64) 3 A1324 ((List.replicate (t269.length : Int).toNat (0 : Int)).length) c1325 x1929 :: Fr) (fun x3192 => G3193 (.inl x3192) = some o2135) ?_ (fun J3196 => ?_)
                      · rintro x3192 hrun
                        have hrun := (hl3194 _).symm.trans hrun
                        · refine At.Quiet.run 1 rfl ?_
                          obtain ⟨G3398, hl3399, hr3400, hrun⟩ := bjoin hrun
                          refine At.Quiet.joinO 19 (X := Bool) (fun x3397 => [(0, .slice w271 t269.length w273), (8, .slice w1100 t1097.length w1101), (9, .slice w1113 t1110.length w1114), (10, .slice A1324 ((List.replicate (t269.length : Int).toNat (0 : Int)).length) c1325), (11, .int .i64 x1930), (121, .bool x3397)]) (fun x3397 => row (Fl.int .i64) 3 A1324 ((List.replicate (t269.length : Int).toNat (0 : Int)).length) c1325 x1929 :: Fr) (fun x3397 => G3398 (.inl x3397) = some o2135) ?_ (fun J3401 => ?_)
                          · rintro x3397 hrun
                            have hrun := (hl3399 _).symm.trans hrun
                            · refine At.Quiet.nil ?_
                              refine At.thn ?_
                              rcases bite hrun with ⟨h3402, hrun⟩ | ⟨h3402, hrun⟩
                              · · refine At.condT rfl h3402 ?_
                                  refine At.seq ?_
                                  refine At.region ?_
                                  refine At.run 1 rfl ?_
                                  refine At.nil ?_
                                  refine At.thn ?_
                                  refine At.ret ?_
                                  refine At.thr ?_
                                  refine At.ibr ?_
                                  refine At.thr ?_
                                  have hrun := bupL hr2134 ho2137 hrun
                                  refine At.thr ?_
                                  refine At.ibr ?_
                                  refine At.thr ?_
                                  refine At.thaw th2977 ?_
                                  refine At.thaw th2965 ?_
                                  refine At.thaw th1109 ?_
                                  refine At.drop .z ?_
                                  refine At.drop .z ?_
                                  refine At.drop .z ?_
                                  refine At.drop .z ?_
                                  obtain rfl := (bret hrun).symm
                                  exact At.res (.inl rfl) rfl rfl ⟨rfl, rfl⟩
                              · · refine At.condF rfl (bn h3402) ?_
                                  refine At.skip ?_
                                  refine At.thn ?_
                                  refine At.seq ?_
                                  refine At.region ?_
                                  refine At.run 1 rfl ?_
                                  refine At.nil ?_
                                  refine At.thn ?_
                                  refine At.block ?_
                                  obtain ⟨G4208, hl4209, hr4210, hrun⟩ := bjoin hrun
                                  obtain ⟨o4211, hlo4212, ho4213⟩ := bsome hrun
                                  clear hrun
                                  unfold bailifflaw15_CyclesTurned.l3 at hlo4212
                                  obtain ⟨m4214, hit4216⟩ := iter_some.1 hlo4212
                                  clear hlo4212
                                  refine At.loopJ (X := (List Int) × Int) (Y := (List Int)) (e0 := 6) (fun s_ => [(0, .slice w271 t269.length w273), (8, .slice w1100 t1097.length w1101), (9, .slice w1113 t1110.length w1114), (10, .slice A1324 ((List.replicate (t269.length : Int).toNat (0 : Int)).length) c1325), (11, .int .i64 x1930), (13, .int .i64 s_.2)]) (fun s_ => row (Fl.int .i64) 3 A1324 ((List.replicate (t269.length : Int).toNat (0 : Int)).length) c1325 s_.1 :: Fr) (fun m_ => fun s_ => iterN (fun t_ : (List Int) × Int => bailifflaw15_CyclesTurned.l3b t269 t1097 x1930 t_.1 t_.2) m_ (s_.1, s_.2) = some o4211) m4214 (x1929, 0) hit4216 (fun x4207 => [(0, .slice w271 t269.length w273), (8, .slice w1100 t1097.length w1101), (9, .slice w1113 t1110.length w1114), (10, .slice A1324 ((List.replicate (t269.length : Int).toNat (0 : Int)).length) c1325), (11, .int .i64 x1930)]) (fun x4207 => row (Fl.int .i64) 3 A1324 ((List.replicate (t269.length : Int).toNat (0 : Int)).length) c1325 x4207 :: Fr) (fun x4207 => G4208 (.inl x4207) = some o2135) (fun a w e hs => ⟨e.sub ⟨rfl, rfl, rfl, rfl, rfl, rfl, trivial⟩, hs⟩) ?_ (fun J4218 => ?_)
                                  · rintro x4207 hrun
                                    have hrun := (hl4209 _).symm.trans hrun
                                    · refine At.ibx ?_
                                      refine At.ibn ?_
                                      refine At.thn ?_
                                      refine At.region ?_
                                      refine At.run 3 rfl ?_
                                      refine At.nil ?_
                                      refine At.thaw th2977 ?_
                                      refine At.thaw th2965 ?_
                                      refine At.frt (.s .z) ?_
                                      refine At.frt (.s (.s .z)) ?_
                                      have hrun := bnx hf_ hrun
                                      exact fun a w e hs => ⟨m2139, (x4207, IntKind.i64.wrap (x1930 + 1)), hlt2141, hrun, e.sub ⟨rfl, rfl, rfl, rfl, rfl, trivial⟩, hs⟩
                                  · clear hit4216 m4214
                                    rintro m4214 ⟨x4005, x4006⟩ hit4216
                                    obtain ⟨m4215, f_, hlt4217, hf_, hrun⟩ := bit hit4216
                                    clear hit4216
                                    have hrun : (bailifflaw15_CyclesTurned.l3b t269 t1097 x1930 x4005 x4006).bind _ = some o4211 := hrun
                                    unfold bailifflaw15_CyclesTurned.l3b at hrun
                                    · refine At.seq ?_
                                      refine At.seq ?_
                                      refine At.region ?_
                                      refine At.run 3 rfl ?_
                                      refine At.y (Y.ixRd (RdS.mono hs2976 hr2961) hn2962 rfl rfl rfl rfl rfl rfl h2978.1 h2978.2) rfl rfl rfl ?_
                                      obtain ⟨A4219, c4220, hc4221, hr4222, hy4223⟩ := RdS.rowAt (P := Go.Proofs.Try.prog) hr2961 hs2976 hn2962 h2978.1 h2978.2
                                      refine At.y (hy4223 rfl rfl rfl rfl) rfl rfl rfl ?_
                                      refine At.run 2 rfl ?_
                                      refine At.nil ?_
                                      refine At.thn ?_
                                      rcases bite hrun with ⟨h4224, hrun⟩ | ⟨h4224, hrun⟩
                                      · · refine At.condT rfl (decide_eq_true h4224) ?_
                                          refine At.skip ?_
                                          refine At.thn ?_
                                          refine At.seq ?_
                                          refine At.block ?_
                                          refine At.seq ?_
                                          refine At.seq ?_
                                          refine At.quiet (by kernel_rfl) ?_
                                          refine At.Quiet.run 2 rfl ?_
                                          refine At.Quiet.y (Y.ixRd (RdS.mono hs2976 hr2961) hn2962 rfl rfl rfl rfl rfl rfl h2978.1 h2978.2) rfl rfl rfl ?_
                                          obtain ⟨A4225, c4226, hc4227, hr4228, hy4229⟩ := RdS.rowAt (P := Go.Proofs.Try.prog) hr2961 hs2976 hn2962 h2978.1 h2978.2
                                          refine At.Quiet.y (hy4229 rfl rfl rfl rfl) rfl rfl rfl ?_
                                          refine At.Quiet.run 1 rfl ?_
                                          obtain ⟨h4230, hrun⟩ := bnone hrun
                                          refine At.Quiet.y (Y.ixRd (RdS.mono hs2976 hr4228) rfl rfl rfl rfl rfl rfl rfl h4230.1 h4230.2) rfl rfl rfl ?_
                                          refine At.Quiet.y (Y.ldFl (RdS.mono hs2976 hr4228) rfl (q := 0) rfl rfl h4230.1 h4230.2 rfl rfl rfl) rfl rfl rfl ?_
                                          refine At.Quiet.run 2 rfl ?_
                                          obtain ⟨G4432, hl4433, hr4434, hrun⟩ := bjoin hrun
                                          refine At.Quiet.joinO 11 (X := Bool) (fun x4431 => [(0, .slice w271 t269.length w273), (8, .slice w1100 t1097.length w1101), (9, .slice w1113 t1110.length w1114), (10, .slice A1324 ((List.replicate (t269.length : Int).toNat (0 : Int)).length) c1325), (11, .int .i64 x1930), (13, .int .i64 x4006), (150, .bool x4431)]) (fun x4431 => row (Fl.int .i64) 3 A1324 ((List.replicate (t269.length : Int).toNat (0 : Int)).length) c1325 x4005 :: Fr) (fun x4431 => G4432 (.inl x4431) = some o4211) ?_ (fun J4435 => ?_)
                                          · rintro x4431 hrun
                                            have hrun := (hl4433 _).symm.trans hrun
                                            · refine At.Quiet.run 1 rfl ?_
                                              obtain ⟨G4637, hl4638, hr4639, hrun⟩ := bjoin hrun
                                              refine At.Quiet.joinO 21 (X := Bool) (fun x4636 => [(0, .slice w271 t269.length w273), (8, .slice w1100 t1097.length w1101), (9, .slice w1113 t1110.length w1114), (10, .slice A1324 ((List.replicate (t269.length : Int).toNat (0 : Int)).length) c1325), (11, .int .i64 x1930), (13, .int .i64 x4006), (172, .bool x4636)]) (fun x4636 => row (Fl.int .i64) 3 A1324 ((List.replicate (t269.length : Int).toNat (0 : Int)).length) c1325 x4005 :: Fr) (fun x4636 => G4637 (.inl x4636) = some o4211) ?_ (fun J4640 => ?_)
                                              · rintro x4636 hrun
                                                have hrun := (hl4638 _).symm.trans hrun
                                                · refine At.Quiet.nil ?_
                                                  refine At.thn ?_
                                                  rcases bite hrun with ⟨h4641, hrun⟩ | ⟨h4641, hrun⟩
                                                  · · refine At.condT rfl h4641 ?_
                                                      refine At.seq ?_
                                                      refine At.region ?_
                                                      refine At.run 1 rfl ?_
                                                      refine At.nil ?_
                                                      refine At.thn ?_
                                                      refine At.ret ?_
                                                      refine At.thr ?_
                                                      refine At.ibr ?_
                                                      refine At.thr ?_
                                                      have hrun := bupL hr4210 ho4213 hrun
                                                      refine At.thr ?_
                                                      refine At.ibr ?_
                                                      refine At.ibr ?_
                                                      refine At.thr ?_
                                                      have hrun := bupL hr2134 ho2137 hrun
                                                      refine At.thr ?_
                                                      refine At.ibr ?_
                                                      refine At.thr ?_
                                                      refine At.thaw th2977 ?_
                                                      refine At.thaw th2965 ?_
                                                      refine At.thaw th1109 ?_
                                                      refine At.drop .z ?_
                                                      refine At.drop .z ?_
                                                      refine At.drop .z ?_
                                                      refine At.drop .z ?_
                                                      obtain rfl := (bret hrun).symm
                                                      exact At.res (.inl rfl) rfl rfl ⟨rfl, rfl⟩
                                                  · · refine At.condF rfl (bn h4641) ?_
                                                      refine At.skip ?_
                                                      refine At.thn ?_
                                                      refine At.region ?_
                                                      refine At.run 3 rfl ?_
                                                      refine At.y (Y.ixRd (RdS.mono hs2976 hr2961) hn2962 rfl rfl rfl rfl rfl rfl h2978.1 h2978.2) rfl rfl rfl ?_
                                                      obtain ⟨A4642, c4643, hc4644, hr4645, hy4646⟩ := RdS.rowAt (P := Go.Proofs.Try.prog) hr2961 hs2976 hn2962 h2978.1 h2978.2
                                                      refine At.y (hy4646 rfl rfl rfl rfl) rfl rfl rfl ?_
                                                      refine At.run 1 rfl ?_
                                                      refine At.y (Y.ixRd (RdS.mono hs2976 hr4645) rfl rfl rfl rfl rfl rfl rfl h4230.1 h4230.2) rfl rfl rfl ?_
                                                      refine At.y (Y.ldFl (RdS.mono hs2976 hr4645) rfl (q := 0) rfl rfl h4230.1 h4230.2 rfl rfl rfl) rfl rfl rfl ?_
                                                      obtain ⟨h4647, hrun⟩ := bnone hrun
                                                      refine At.y (Y.ix .z rfl rfl rfl rfl rfl rfl h4647.1 h4647.2) rfl rfl rfl ?_
                                                      refine At.y (Y.ld .z (q := 0) rfl rfl h4647.1 h4647.2 rfl rfl rfl) rfl rfl rfl ?_
                                                      refine At.run 1 rfl ?_
                                                      refine At.y (Y.ix .z rfl rfl rfl rfl rfl rfl h4647.1 h4647.2) rfl rfl rfl ?_
                                                      refine At.st rfl .z (q := 0) (z := (IntKind.i64.wrap (gt x4005 (gt (gt t1097 x1930) x4006) + 1))) rfl rfl rfl h4647.1 h4647.2 rfl rfl (.c .n) ?_
                                                      refine At.nil ?_
                                                      refine At.ibn ?_
                                                      refine At.thn ?_
                                                      refine At.region ?_
                                                      refine At.run 3 rfl ?_
                                                      refine At.nil ?_
                                                      have hrun := bnx hf_ hrun
                                                      exact fun a w e hs => ⟨m4215, ((st x4005 (gt (gt t1097 x1930) x4006) (IntKind.i64.wrap (gt x4005 (gt (gt t1097 x1930) x4006) + 1))), IntKind.i64.wrap (x4006 + 1)), hlt4217, hrun, e.sub ⟨rfl, rfl, rfl, rfl, rfl, rfl, trivial⟩, hs⟩
                                              · · rcases bite hrun with ⟨h4648, hrun⟩ | ⟨h4648, hrun⟩
                                                  · · refine At.Quiet.know (t := 151) rfl h4648 ?_
                                                      refine At.Quiet.run 21 rfl ?_
                                                      exact At.Quiet.of (J4640 true hrun) ⟨rfl, rfl, rfl, rfl, rfl, rfl, rfl, trivial⟩
                                                  · · refine At.Quiet.know (t := 151) rfl (bn h4648) ?_
                                                      refine At.Quiet.run 3 rfl ?_
                                                      obtain ⟨G4851, hl4852, hr4853, hrun⟩ := bjoin hrun
                                                      refine At.Quiet.joinO 17 (X := Bool × Bool) (fun s_ => [(0, .slice w271 t269.length w273), (8, .slice w1100 t1097.length w1101), (9, .slice w1113 t1110.length w1114), (10, .slice A1324 ((List.replicate (t269.length : Int).toNat (0 : Int)).length) c1325), (11, .int .i64 x1930), (13, .int .i64 x4006), (151, .bool false), (152, .int .i64 x4006), (153, .bool (decide (0 < x4006))), (154, .bool s_.1), (171, .bool s_.2)]) (fun s_ => row (Fl.int .i64) 3 A1324 ((List.replicate (t269.length : Int).toNat (0 : Int)).length) c1325 x4005 :: Fr) (fun s_ => G4851 (.inl (s_.1, s_.2)) = some o4211) ?_ (fun J4854 => ?_)
                                                      · rintro ⟨x4849, x4850⟩ hrun
                                                        have hrun := (hl4852 _).symm.trans hrun
                                                        · refine At.Quiet.run 1 rfl ?_
                                                          exact At.Quiet.of (J4640 x4850 hrun) ⟨rfl, rfl, rfl, rfl, rfl, rfl, rfl, trivial⟩
                                                      · · rcases bite hrun with ⟨h4855, hrun⟩ | ⟨h4855, hrun⟩
                                                          · · refine At.Quiet.know (t := 154) rfl (decide_eq_true h4855) ?_
                                                              refine At.Quiet.run 2 rfl ?_
                                                              refine At.Quiet.y (Y.ixRd (RdS.mono hs2976 hr2961) hn2962 rfl rfl rfl rfl rfl rfl h2978.1 h2978.2) rfl rfl rfl ?_
                                                              obtain ⟨A4856, c4857, hc4858, hr4859, hy4860⟩ := RdS.rowAt (P := Go.Proofs.Try.prog) hr2961 hs2976 hn2962 h2978.1 h2978.2
                                                              refine At.Quiet.y (hy4860 rfl rfl rfl rfl) rfl rfl rfl ?_
                                                              refine At.Quiet.run 1 rfl ?_
                                                              refine At.Quiet.y (Y.ixRd (RdS.mono hs2976 hr4859) rfl rfl rfl rfl rfl rfl rfl h4230.1 h4230.2) rfl rfl rfl ?_
                                                              refine At.Quiet.y (Y.ldFl (RdS.mono hs2976 hr4859) rfl (q := 0) rfl rfl h4230.1 h4230.2 rfl rfl rfl) rfl rfl rfl ?_
                                                              refine At.Quiet.run 2 rfl ?_
                                                              refine At.Quiet.y (Y.ixRd (RdS.mono hs2976 hr2961) hn2962 rfl rfl rfl rfl rfl rfl h2978.1 h2978.2) rfl rfl rfl ?_
                                                              obtain ⟨A4861, c4862, hc4863, hr4864, hy4865⟩ := RdS.rowAt (P := Go.Proofs.Try.prog) hr2961 hs2976 hn2962 h2978.1 h2978.2
                                                              refine At.Quiet.y (hy4865 rfl rfl rfl rfl) rfl rfl rfl ?_
                                                              refine At.Quiet.run 2 rfl ?_
                                                              obtain ⟨h4866, hrun⟩ := bnone hrun
                                                              refine At.Quiet.y (Y.ixRd (RdS.mono hs2976 hr4864) rfl rfl rfl rfl rfl rfl rfl h4866.1 h4866.2) rfl rfl rfl ?_
                                                              refine At.Quiet.y (Y.ldFl (RdS.mono hs2976 hr4864) rfl (q := 0) rfl rfl h4866.1 h4866.2 rfl rfl rfl) rfl rfl rfl ?_
                                                              refine At.Quiet.run 2 rfl ?_
                                                              exact At.Quiet.of (J4854 (true, decide (gt (gt t1097 x1930) x4006 ≤ gt (gt t1097 x1930) (IntKind.i64.wrap (x4006 - 1)))) hrun) ⟨rfl, rfl, rfl, rfl, rfl, rfl, rfl, rfl, rfl, rfl, rfl, trivial⟩
                                                          · · refine At.Quiet.know (t := 154) rfl (decide_eq_false h4855) ?_
                                                              refine At.Quiet.run 17 rfl ?_
                                                              exact At.Quiet.of (J4854 (false, false) hrun) ⟨rfl, rfl, rfl, rfl, rfl, rfl, rfl, rfl, rfl, rfl, rfl, trivial⟩
                                          · · rcases bite hrun with ⟨h4867, hrun⟩ | ⟨h4867, hrun⟩
                                              · · refine At.Quiet.know (t := 139) rfl (decide_eq_true h4867) ?_
                                                  refine At.Quiet.run 11 rfl ?_
                                                  exact At.Quiet.of (J4435 true hrun) ⟨rfl, rfl, rfl, rfl, rfl, rfl, rfl, trivial⟩
                                              · · refine At.Quiet.know (t := 139) rfl (decide_eq_false h4867) ?_
                                                  refine At.Quiet.run 2 rfl ?_
                                                  refine At.Quiet.y (Y.ixRd (RdS.mono hs2976 hr2961) hn2962 rfl rfl rfl rfl rfl rfl h2978.1 h2978.2) rfl rfl rfl ?_
                                                  obtain ⟨A4868, c4869, hc4870, hr4871, hy4872⟩ := RdS.rowAt (P := Go.Proofs.Try.prog) hr2961 hs2976 hn2962 h2978.1 h2978.2
                                                  refine At.Quiet.y (hy4872 rfl rfl rfl rfl) rfl rfl rfl ?_
                                                  refine At.Quiet.run 1 rfl ?_
                                                  refine At.Quiet.y (Y.ixRd (RdS.mono hs2976 hr4871) rfl rfl rfl rfl rfl rfl rfl h4230.1 h4230.2) rfl rfl rfl ?_
                                                  refine At.Quiet.y (Y.ldFl (RdS.mono hs2976 hr4871) rfl (q := 0) rfl rfl h4230.1 h4230.2 rfl rfl rfl) rfl rfl rfl ?_
                                                  refine At.Quiet.run 4 rfl ?_
                                                  exact At.Quiet.of (J4435 (decide ((t269.length : Int) ≤ gt (gt t1097 x1930) x4006)) hrun) ⟨rfl, rfl, rfl, rfl, rfl, rfl, rfl, trivial⟩
                                      · · refine At.condF rfl (decide_eq_false h4224) ?_
                                          refine At.exit ?_
                                          refine At.the ?_
                                          refine At.the ?_
                                          exact fun a w e hs => J4218 x4005 (bdn hrun ho4213) a w (e.sub ⟨rfl, rfl, rfl, rfl, rfl, trivial⟩) hs
                          · · rcases bite hrun with ⟨h4873, hrun⟩ | ⟨h4873, hrun⟩
                              · · refine At.Quiet.know (t := 102) rfl h4873 ?_
                                  refine At.Quiet.run 19 rfl ?_
                                  exact At.Quiet.of (J3401 true hrun) ⟨rfl, rfl, rfl, rfl, rfl, rfl, trivial⟩
                              · · refine At.Quiet.know (t := 102) rfl (bn h4873) ?_
                                  refine At.Quiet.run 3 rfl ?_
                                  obtain ⟨G5076, hl5077, hr5078, hrun⟩ := bjoin hrun
                                  refine At.Quiet.joinO 15 (X := Bool × Bool) (fun s_ => [(0, .slice w271 t269.length w273), (8, .slice w1100 t1097.length w1101), (9, .slice w1113 t1110.length w1114), (10, .slice A1324 ((List.replicate (t269.length : Int).toNat (0 : Int)).length) c1325), (11, .int .i64 x1930), (102, .bool false), (103, .int .i64 x1930), (104, .bool (decide (0 < x1930))), (105, .bool s_.1), (120, .bool s_.2)]) (fun s_ => row (Fl.int .i64) 3 A1324 ((List.replicate (t269.length : Int).toNat (0 : Int)).length) c1325 x1929 :: Fr) (fun s_ => G5076 (.inl (s_.1, s_.2)) = some o2135) ?_ (fun J5079 => ?_)
                                  · rintro ⟨x5074, x5075⟩ hrun
                                    have hrun := (hl5077 _).symm.trans hrun
                                    · refine At.Quiet.run 1 rfl ?_
                                      exact At.Quiet.of (J3401 x5075 hrun) ⟨rfl, rfl, rfl, rfl, rfl, rfl, trivial⟩
                                  · · rcases bite hrun with ⟨h5080, hrun⟩ | ⟨h5080, hrun⟩
                                      · · refine At.Quiet.know (t := 105) rfl (decide_eq_true h5080) ?_
                                          refine At.Quiet.run 2 rfl ?_
                                          refine At.Quiet.y (Y.ixRd (RdS.mono hs2976 hr2961) hn2962 rfl rfl rfl rfl rfl rfl h2978.1 h2978.2) rfl rfl rfl ?_
                                          obtain ⟨A5081, c5082, hc5083, hr5084, hy5085⟩ := RdS.rowAt (P := Go.Proofs.Try.prog) hr2961 hs2976 hn2962 h2978.1 h2978.2
                                          refine At.Quiet.y (hy5085 rfl rfl rfl rfl) rfl rfl rfl ?_
                                          obtain ⟨h5086, hrun⟩ := bnone hrun
                                          refine At.Quiet.y (Y.ixRd (RdS.mono hs2976 hr5084) rfl rfl rfl rfl rfl rfl rfl h5086.1 h5086.2) rfl rfl rfl ?_
                                          refine At.Quiet.y (Y.ldFl (RdS.mono hs2976 hr5084) rfl (q := 0) rfl rfl h5086.1 h5086.2 rfl rfl rfl) rfl rfl rfl ?_
                                          refine At.Quiet.run 3 rfl ?_
                                          obtain ⟨h5087, hrun⟩ := bnone hrun
                                          refine At.Quiet.y (Y.ixRd (RdS.mono hs2976 hr2961) hn2962 rfl rfl rfl rfl rfl rfl h5087.1 h5087.2) rfl rfl rfl ?_
                                          obtain ⟨A5088, c5089, hc5090, hr5091, hy5092⟩ := RdS.rowAt (P := Go.Proofs.Try.prog) hr2961 hs2976 hn2962 h5087.1 h5087.2
                                          refine At.Quiet.y (hy5092 rfl rfl rfl rfl) rfl rfl rfl ?_
                                          obtain ⟨h5093, hrun⟩ := bnone hrun
                                          refine At.Quiet.y (Y.ixRd (RdS.mono hs2976 hr5091) rfl rfl rfl rfl rfl rfl rfl h5093.1 h5093.2) rfl rfl rfl ?_
                                          refine At.Quiet.y (Y.ldFl (RdS.mono hs2976 hr5091) rfl (q := 0) rfl rfl h5093.1 h5093.2 rfl rfl rfl) rfl rfl rfl ?_
                                          refine At.Quiet.run 2 rfl ?_
                                          exact At.Quiet.of (J5079 (true, decide (gt (gt t1097 x1930) 0 ≤ gt (gt t1097 (IntKind.i64.wrap (x1930 - 1))) 0)) hrun) ⟨rfl, rfl, rfl, rfl, rfl, rfl, rfl, rfl, rfl, rfl, trivial⟩
                                      · · refine At.Quiet.know (t := 105) rfl (decide_eq_false h5080) ?_
                                          refine At.Quiet.run 15 rfl ?_
                                          exact At.Quiet.of (J5079 (false, false) hrun) ⟨rfl, rfl, rfl, rfl, rfl, rfl, rfl, rfl, rfl, rfl, trivial⟩
                      · · rcases bite hrun with ⟨h5094, hrun⟩ | ⟨h5094, hrun⟩
                          · · refine At.Quiet.know (t := 94) rfl (nf h5094) ?_
                              refine At.Quiet.run 2 rfl ?_
                              refine At.Quiet.y (Y.ixRd (RdS.mono hs2976 hr2961) hn2962 rfl rfl rfl rfl rfl rfl h2978.1 h2978.2) rfl rfl rfl ?_
                              obtain ⟨A5095, c5096, hc5097, hr5098, hy5099⟩ := RdS.rowAt (P := Go.Proofs.Try.prog) hr2961 hs2976 hn2962 h2978.1 h2978.2
                              refine At.Quiet.y (hy5099 rfl rfl rfl rfl) rfl rfl rfl ?_
                              refine At.Quiet.run 3 rfl ?_
                              exact At.Quiet.of (J3196 (decide (((gt t1097 x1930).length : Int) = 0)) hrun) ⟨rfl, rfl, rfl, rfl, rfl, rfl, trivial⟩
                          · · refine At.Quiet.know (t := 94) rfl (nt (bn h5094)) ?_
                              refine At.Quiet.run 7 rfl ?_
                              exact At.Quiet.of (J3196 true hrun) ⟨rfl, rfl, rfl, rfl, rfl, rfl, trivial⟩
                  · · refine At.condF rfl (decide_eq_false h2959) ?_
                      refine At.exit ?_
                      refine At.the ?_
                      refine At.the ?_
                      exact fun a w e hs => J2142 x1929 (bdn hrun ho2137) a w (e.sub ⟨rfl, trivial⟩) hs
      · · rcases bite hrun with ⟨h5100, hrun⟩ | ⟨h5100, hrun⟩
          · · refine At.know (t := 67) rfl (nf h5100) ?_
              refine At.run 6 rfl ?_
              exact At.of (J1321 (!(decide ((t1097.length : Int) = (t1110.length : Int)))) hrun) ⟨rfl, rfl, rfl, rfl, trivial⟩
          · · refine At.know (t := 67) rfl (nt (bn h5100)) ?_
              refine At.run 6 rfl ?_
              exact At.of (J1321 true hrun) ⟨rfl, rfl, rfl, rfl, trivial⟩
  · clear hit1094 m1092
    rintro m1092 ⟨x883, x884⟩ hit1094
    obtain ⟨m1093, f_, hlt1095, hf_, hrun⟩ := bit hit1094
    clear hit1094
    have hrun : (bailifflaw15_CyclesTurned.l0b t269 x883 x884).bind _ = some o1089 := hrun
    unfold bailifflaw15_CyclesTurned.l0b at hrun
    · refine At.seq ?_
      refine At.seq ?_
      refine At.region ?_
      refine At.run 4 rfl ?_
      refine At.nil ?_
      refine At.thn ?_
      rcases bite hrun with ⟨h5101, hrun⟩ | ⟨h5101, hrun⟩
      · · refine At.condT rfl (decide_eq_true h5101) ?_
          refine At.skip ?_
          refine At.thn ?_
          refine At.seq ?_
          refine At.block ?_
          refine At.seq ?_
          refine At.region ?_
          refine At.run 1 rfl ?_
          refine At.nil ?_
          refine At.thn ?_
          refine At.block ?_
          obtain ⟨G5907, hl5908, hr5909, hrun⟩ := bjoin hrun
          obtain ⟨o5910, hlo5911, ho5912⟩ := bsome hrun
          clear hrun
          unfold bailifflaw15_CyclesTurned.l4 at hlo5911
          obtain ⟨m5913, hit5915⟩ := iter_some.1 hlo5911
          clear hlo5911
          refine At.loopJ (X := (List (List Int)) × Int) (Y := (List (List Int))) (e0 := 2) (fun s_ => [(0, .slice w271 t269.length w273), (3, .bool t267), (4, .slice A278 ((List.replicate (t269.length : Int).toNat ([] : List Int)).length) c279), (5, .int .i64 x884), (6, .int .i64 s_.2)]) (fun s_ => rows (Fl.int .i64) 3 26 A278 ((List.replicate (t269.length : Int).toNat ([] : List Int)).length) c279 s_.1 :: Fr) (fun m_ => fun s_ => iterN (fun t_ : (List (List Int)) × Int => bailifflaw15_CyclesTurned.l4b t269 x884 t_.1 t_.2) m_ (s_.1, s_.2) = some o5910) m5913 (x883, 0) hit5915 (fun x5906 => [(0, .slice w271 t269.length w273), (3, .bool t267), (4, .slice A278 ((List.replicate (t269.length : Int).toNat ([] : List Int)).length) c279), (5, .int .i64 x884)]) (fun x5906 => rows (Fl.int .i64) 3 26 A278 ((List.replicate (t269.length : Int).toNat ([] : List Int)).length) c279 x5906 :: Fr) (fun x5906 => G5907 (.inl x5906) = some o1089) (fun a w e hs => ⟨e.sub ⟨rfl, rfl, rfl, rfl, rfl, trivial⟩, hs⟩) ?_ (fun J5917 => ?_)
          · rintro x5906 hrun
            have hrun := (hl5908 _).symm.trans hrun
            · refine At.ibx ?_
              refine At.ibn ?_
              refine At.thn ?_
              refine At.region ?_
              refine At.run 3 rfl ?_
              refine At.nil ?_
              have hrun := bnx hf_ hrun
              exact fun a w e hs => ⟨m1093, (x5906, IntKind.i64.wrap (x884 + 1)), hlt1095, hrun, e.sub ⟨rfl, rfl, rfl, rfl, trivial⟩, hs⟩
          · clear hit5915 m5913
            rintro m5913 ⟨x5704, x5705⟩ hit5915
            obtain ⟨m5914, f_, hlt5916, hf_, hrun⟩ := bit hit5915
            clear hit5915
            have hrun : (bailifflaw15_CyclesTurned.l4b t269 x884 x5704 x5705).bind _ = some o5910 := hrun
            unfold bailifflaw15_CyclesTurned.l4b at hrun
            · refine At.seq ?_
              refine At.seq ?_
              refine At.region ?_
              refine At.run 3 rfl ?_
              obtain ⟨h5918, hrun⟩ := bnone hrun
              refine At.y (Y.ixRd hr274 rfl rfl rfl rfl rfl rfl rfl h5918.1 h5918.2) rfl rfl rfl ?_
              obtain ⟨A5919, c5920, hc5921, hr5922, hy5923⟩ := RdS.rowAt (P := Go.Proofs.Try.prog) hr274 (Sub.refl _) rfl h5918.1 h5918.2
              refine At.y (hy5923 rfl rfl rfl rfl) rfl rfl rfl ?_
              refine At.run 2 rfl ?_
              refine At.nil ?_
              refine At.thn ?_
              rcases bite hrun with ⟨h5924, hrun⟩ | ⟨h5924, hrun⟩
              · · refine At.condT rfl (decide_eq_true h5924) ?_
                  refine At.skip ?_
                  refine At.thn ?_
                  refine At.seq ?_
                  obtain ⟨G5925, hl5926, hr5927, hrun⟩ := bjoin hrun
                  refine At.join (X := (List (List Int))) (fun x6129 => [(0, .slice w271 t269.length w273), (3, .bool t267), (4, .slice A278 ((List.replicate (t269.length : Int).toNat ([] : List Int)).length) c279), (5, .int .i64 x884), (6, .int .i64 x5705)]) (fun x6129 => rows (Fl.int .i64) 3 26 A278 ((List.replicate (t269.length : Int).toNat ([] : List Int)).length) c279 x6129 :: Fr) (fun x6129 => G5925 (.inl x6129) = some o5910) ?_ (fun J5928 => ?_)
                  · rintro x6129 hrun
                    have hrun := (hl5926 _).symm.trans hrun
                    · refine At.region ?_
                      refine At.run 3 rfl ?_
                      refine At.nil ?_
                      have hrun := bnx hf_ hrun
                      exact fun a w e hs => ⟨m5914, (x6129, IntKind.i64.wrap (x5705 + 1)), hlt5916, hrun, e.sub ⟨rfl, rfl, rfl, rfl, rfl, trivial⟩, hs⟩
                  · · refine At.block ?_
                      refine At.seq ?_
                      refine At.region ?_
                      refine At.run 2 rfl ?_
                      refine At.y (Y.ixRd hr274 rfl rfl rfl rfl rfl rfl rfl h5918.1 h5918.2) rfl rfl rfl ?_
                      obtain ⟨A6130, c6131, hc6132, hr6133, hy6134⟩ := RdS.rowAt (P := Go.Proofs.Try.prog) hr274 (Sub.refl _) rfl h5918.1 h5918.2
                      refine At.y (hy6134 rfl rfl rfl rfl) rfl rfl rfl ?_
                      refine At.run 1 rfl ?_
                      obtain ⟨h6135, hrun⟩ := bnone hrun
                      refine At.y (Y.ixRd hr6133 rfl rfl rfl rfl rfl rfl rfl h6135.1 h6135.2) rfl rfl rfl ?_
                      refine At.y (Y.ldFl hr6133 rfl (q := 0) rfl rfl h6135.1 h6135.2 rfl rfl rfl) rfl rfl rfl ?_
                      refine At.run 1 rfl ?_
                      refine At.nil ?_
                      refine At.thn ?_
                      refine At.seq ?_
                      refine At.region ?_
                      refine At.run 3 rfl ?_
                      obtain ⟨G6337, hl6338, hr6339, hrun⟩ := bjoin hrun
                      refine At.joinO 5 (X := Bool) (fun x6336 => [(0, .slice w271 t269.length w273), (3, .bool t267), (4, .slice A278 ((List.replicate (t269.length : Int).toNat ([] : List Int)).length) c279), (5, .int .i64 x884), (6, .int .i64 x5705), (7, .int .i64 (gt (gt t269 x884) x5705)), (50, .bool x6336)]) (fun x6336 => rows (Fl.int .i64) 3 26 A278 ((List.replicate (t269.length : Int).toNat ([] : List Int)).length) c279 x5704 :: Fr) (fun x6336 => G6337 (.inl x6336) = some o5910) ?_ (fun J6340 => ?_)
                      · rintro x6336 hrun
                        have hrun := (hl6338 _).symm.trans hrun
                        · refine At.nil ?_
                          refine At.thn ?_
                          rcases bite hrun with ⟨h6341, hrun⟩ | ⟨h6341, hrun⟩
                          · · refine At.condT rfl h6341 ?_
                              refine At.region ?_
                              refine At.run 4 rfl ?_
                              obtain ⟨h6342, hrun⟩ := bnone hrun
                              refine At.y (Y.ixRows .z rfl rfl rfl rfl rfl rfl h6342.1 h6342.2) rfl rfl rfl ?_
                              refine At.openLd rfl .z rfl rfl rfl rfl h6342.1 h6342.2 rfl (fun A6343 c6344 => ?_)
                              refine At.run 1 rfl ?_
                              refine At.lit rfl (xo := [.tmp 57]) (ys := ([x884] : List Int)) (Fl.int .i64) rfl rfl rfl rfl rfl rfl rfl rfl rfl rfl rfl (fun A6346 c6347 => ?_)
                              obtain ⟨h6349, hrun⟩ := bnone hrun
                              refine At.append rfl (.s (.s .z)) (Src.own .z (by simp)) rfl rfl rfl rfl rfl rfl rfl rfl h6349 (by decide) rfl (fun A6350 c6351 => ?_)
                              refine At.drop (.s .z) ?_
                              refine At.y (Y.ixHole (.s .z) rfl rfl rfl rfl rfl rfl h6342.1 h6342.2) rfl rfl rfl ?_
                              refine At.closeSt rfl (.s .z) .z rfl rfl rfl rfl h6342.1 h6342.2 ?_
                              refine At.nil ?_
                              refine At.ibn ?_
                              refine At.thn ?_
                              exact fun a w e hs => J5928 (st x5704 (gt (gt t269 x884) x5705) ((gt x5704 (gt (gt t269 x884) x5705)) ++ ([x884] : List Int))) hrun a w (e.sub ⟨rfl, rfl, rfl, rfl, rfl, trivial⟩) hs
                          · · refine At.condF rfl (bn h6341) ?_
                              refine At.skip ?_
                              refine At.ibn ?_
                              refine At.thn ?_
                              exact fun a w e hs => J5928 x5704 hrun a w (e.sub ⟨rfl, rfl, rfl, rfl, rfl, trivial⟩) hs
                      · · rcases bite hrun with ⟨h6352, hrun⟩ | ⟨h6352, hrun⟩
                          · · refine At.know (t := 45) rfl (decide_eq_true h6352) ?_
                              refine At.run 5 rfl ?_
                              exact At.of (J6340 (decide (gt (gt t269 x884) x5705 < (t269.length : Int))) hrun) ⟨rfl, rfl, rfl, rfl, rfl, rfl, rfl, trivial⟩
                          · · refine At.know (t := 45) rfl (decide_eq_false h6352) ?_
                              refine At.run 5 rfl ?_
                              exact At.of (J6340 false hrun) ⟨rfl, rfl, rfl, rfl, rfl, rfl, rfl, trivial⟩
              · · refine At.condF rfl (decide_eq_false h5924) ?_
                  refine At.exit ?_
                  refine At.the ?_
                  refine At.the ?_
                  exact fun a w e hs => J5917 x5704 (bdn hrun ho5912) a w (e.sub ⟨rfl, rfl, rfl, rfl, trivial⟩) hs
      · · refine At.condF rfl (decide_eq_false h5101) ?_
          refine At.exit ?_
          refine At.the ?_
          refine At.the ?_
          exact fun a w e hs => J1096 x883 (bdn hrun ho1091) a w (e.sub ⟨rfl, rfl, rfl, trivial⟩) hs

end Go.Bw
