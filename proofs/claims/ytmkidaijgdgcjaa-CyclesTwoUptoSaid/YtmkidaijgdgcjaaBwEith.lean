/- Walks: what the functions of the program compute, told by plain functions, and that the calls come to them. Conditions: none. -/
import Derived.Test.YtmkidaijgdgcjaaBwTyx
import Derived.Test.YtmkidaijgdgcjaaProg
import Derived.Test.YtmkidaijgdgcjaaBwLay
import Derived.Test.YtmkidaijgdgcjaaBwSortI
import Derived.Test.YtmkidaijgdgcjaaBwSortF
import Derived.Deep.QuietTactic
import Derived.Test.YtmkidaijgdgcjaaBwCycA
import Derived.Test.YtmkidaijgdgcjaaBwCyc
import Derived.Test.YtmkidaijgdgcjaaBwSame
set_option linter.unusedVariables false
set_option linter.unusedSimpArgs false
set_option linter.unusedSectionVars false
namespace Go.Bw
open Go Go.RowKit Go.Proofs
noncomputable def bailifflaw15_CyclesEither.l1b (t264 : (List (List Int))) (x1087 : List Bool) (x1701 : Int) (x1702 : Int) : Option ((Int × Int) ⊕ ((Int) ⊕ (Bool))) :=
  if 0 ≤ x1702 then
    jn (
      if (0 : Int) ≤ x1702 ∧ x1702 < ((List.replicate (t264.length : Int).toNat (false : Bool)).length : Int) then
        if gt x1087 x1702 = true then
          some (.inl x1702)
        else
          some (.inl x1701)
      else none) (fun (x3985 : Int) =>
      nx (x3985, IntKind.i64.wrap (x1702 - 1)))
  else
    dn (.inl x1701)
noncomputable def bailifflaw15_CyclesEither.l1 (t264 : (List (List Int))) (x1087 : List Bool) (x1701 : Int) (x1702 : Int) : Option ((Int) ⊕ (Bool)) := iter (fun t_ : Int × Int => bailifflaw15_CyclesEither.l1b t264 x1087 t_.1 t_.2) (x1701, x1702)
noncomputable def bailifflaw15_CyclesEither.l3b (t264 : (List (List Int))) (t272 : (List (List Int))) (x886 : Int) (x4592 : Int) (x5638 : List Bool) (x5639 : Int) : Option (((List Bool) × Int) ⊕ (((List Bool)) ⊕ (((List Bool) × Int) ⊕ (((List Bool)) ⊕ (((List Bool) × Int) ⊕ (((List Bool)) ⊕ (Bool))))))) :=
  if (0 : Int) ≤ gt (gt t272 x886) x4592 ∧ gt (gt t272 x886) x4592 < (t264.length : Int) then
    if x5639 < ((gt t264 (gt (gt t272 x886) x4592)).length : Int) then
      jn (
        if gt x5638 (gt (gt t272 x886) x4592) = true then
          some (.inl true)
        else
          if (0 : Int) ≤ x5639 ∧ x5639 < ((gt t264 (gt (gt t272 x886) x4592)).length : Int) then
            some (.inl (decide (gt (gt t264 (gt (gt t272 x886) x4592)) x5639 = gt (gt t272 x886) x4592)))
          else none) (fun (x6059 : Bool) =>
        nx ((st x5638 (gt (gt t272 x886) x4592) x6059), IntKind.i64.wrap (x5639 + 1)))
    else
      dn (.inl x5638)
  else none
noncomputable def bailifflaw15_CyclesEither.l3 (t264 : (List (List Int))) (t272 : (List (List Int))) (x886 : Int) (x4592 : Int) (x5638 : List Bool) (x5639 : Int) : Option (((List Bool)) ⊕ (((List Bool) × Int) ⊕ (((List Bool)) ⊕ (((List Bool) × Int) ⊕ (((List Bool)) ⊕ (Bool)))))) := iter (fun t_ : (List Bool) × Int => bailifflaw15_CyclesEither.l3b t264 t272 x886 x4592 t_.1 t_.2) (x5638, x5639)
noncomputable def bailifflaw15_CyclesEither.l2b (t264 : (List (List Int))) (t272 : (List (List Int))) (x886 : Int) (x4591 : List Bool) (x4592 : Int) : Option (((List Bool) × Int) ⊕ (((List Bool)) ⊕ (((List Bool) × Int) ⊕ (((List Bool)) ⊕ (Bool))))) :=
  if (0 : Int) ≤ x886 ∧ x886 < (t272.length : Int) then
    if x4592 < ((gt t272 x886).length : Int) then
      if (0 : Int) ≤ x4592 ∧ x4592 < ((gt t272 x886).length : Int) then
        jn (
          if gt (gt t272 x886) x4592 < 0 then
            some (.inl true)
          else
            some (.inl (decide ((t264.length : Int) ≤ gt (gt t272 x886) x4592)))) (fun (x5024 : Bool) =>
          if x5024 = true then
            upL (upL (some false))
          else
            if (0 : Int) ≤ gt (gt t272 x886) x4592 ∧ gt (gt t272 x886) x4592 < ((List.replicate (t264.length : Int).toNat (false : Bool)).length : Int) then
              jn (bailifflaw15_CyclesEither.l3 t264 t272 x886 x4592 (st x4591 (gt (gt t272 x886) x4592) (decide (1 < ((gt t272 x886).length : Int)))) 0) (fun (x5840 : List Bool) =>
                nx (x5840, IntKind.i64.wrap (x4592 + 1)))
            else none)
      else none
    else
      dn (.inl x4591)
  else none
noncomputable def bailifflaw15_CyclesEither.l2 (t264 : (List (List Int))) (t272 : (List (List Int))) (x886 : Int) (x4591 : List Bool) (x4592 : Int) : Option (((List Bool)) ⊕ (((List Bool) × Int) ⊕ (((List Bool)) ⊕ (Bool)))) := iter (fun t_ : (List Bool) × Int => bailifflaw15_CyclesEither.l2b t264 t272 x886 t_.1 t_.2) (x4591, x4592)
noncomputable def bailifflaw15_CyclesEither.l0b (t264 : (List (List Int))) (t272 : (List (List Int))) (x885 : List Bool) (x886 : Int) : Option (((List Bool) × Int) ⊕ (((List Bool)) ⊕ (Bool))) :=
  if x886 < (t272.length : Int) then
    jn (bailifflaw15_CyclesEither.l2 t264 t272 x886 x885 0) (fun (x4793 : List Bool) =>
      nx (x4793, IntKind.i64.wrap (x886 + 1)))
  else
    dn (.inl x885)
noncomputable def bailifflaw15_CyclesEither.l0 (t264 : (List (List Int))) (t272 : (List (List Int))) (x885 : List Bool) (x886 : Int) : Option (((List Bool)) ⊕ (Bool)) := iter (fun t_ : (List Bool) × Int => bailifflaw15_CyclesEither.l0b t264 t272 t_.1 t_.2) (x885, x886)
noncomputable def bailifflaw15_CyclesEither.f (a0 : List (List Int)) (a1 : List Int) : Option Bool :=
  (bailifflaw15_shown.f ).bind fun t262 =>
    (bailifflaw15_cut.f a0).bind fun t264 =>
      (cycles_Components.f t264).bind fun t272 =>
        if (0 : Int) ≤ (t264.length : Int) ∧ (1 : Int) * (t264.length : Int) ≤ 281474976710656 then
          jn (bailifflaw15_CyclesEither.l0 t264 t272 (List.replicate (t264.length : Int).toNat (false : Bool)) 0) (fun (x1087 : List Bool) =>
            jn (bailifflaw15_CyclesEither.l1 t264 x1087 (-1) (IntKind.i64.wrap (((List.replicate (t264.length : Int).toNat (false : Bool)).length : Int) - 1))) (fun (x1903 : Int) =>
              (cycles_Bad.f t264 a1 0).bind fun t1915 =>
                (cycles_Bad.f t264 a1 1).bind fun t1917 =>
                  (cycles_Bad.f t264 ([] : List Int) 0).bind fun t1919 =>
                    (cycles_Bad.f t264 ([] : List Int) 1).bind fun t1921 =>
                      jn (
                        if 0 ≤ t1915 then
                          jn (
                            if (t264.length : Int) ≤ t1915 then
                              some (.inl true)
                            else
                              if (0 : Int) ≤ t1915 ∧ t1915 < ((List.replicate (t264.length : Int).toNat (false : Bool)).length : Int) then
                                some (.inl (!(gt x1087 t1915)))
                              else none) (fun (x3773 : Bool) =>
                            some (.inl x3773))
                        else
                          some (.inl false)) (fun (x2123 : Bool) =>
                        jn (
                          if x2123 = true then
                            some (.inl true)
                          else
                            jn (
                              if 0 ≤ t1917 then
                                jn (
                                  if (t264.length : Int) ≤ t1917 then
                                    some (.inl true)
                                  else
                                    if (0 : Int) ≤ t1917 ∧ t1917 < ((List.replicate (t264.length : Int).toNat (false : Bool)).length : Int) then
                                      some (.inl (!(gt x1087 t1917)))
                                    else none) (fun (x3565 : Bool) =>
                                  some (.inl x3565))
                              else
                                some (.inl false)) (fun (x3359 : Bool) =>
                              some (.inl x3359))) (fun (x2328 : Bool) =>
                          if x2328 = true then
                            some false
                          else
                            jn (
                              if t262 = true then
                                jn (
                                  if 0 ≤ t1915 then
                                    some (.inl true)
                                  else
                                    some (.inl (decide (0 ≤ t1917)))) (fun (x3152 : Bool) =>
                                  some (.inl (x3152 == decide (0 ≤ x1903))))
                              else
                                some (.inl false)) (fun (x2534 : Bool) =>
                              jn (
                                if x2534 = true then
                                  some (.inl (decide (t1919 = x1903)))
                                else
                                  some (.inl false)) (fun (x2739 : Bool) =>
                                jn (
                                  if x2739 = true then
                                    some (.inl (decide (t1921 = (-1))))
                                  else
                                    some (.inl false)) (fun (x2944 : Bool) =>
                                  some x2944)))))))
        else none
theorem bailifflaw15_CyclesEither.callee : Callee Go.Proofs.Try.prog 6 := ⟨_, Go.Proofs.Try.func6, by kernel_rfl, by kernel_rfl⟩
set_option maxRecDepth 100000 in
set_option maxHeartbeats 2000000 in
theorem bailifflaw15_CyclesEither.spec (R : Res) (Fr : List HProp) (A0 : Option Addr) (n0 : Nat) (c0 : Nat) (A1 : Option Addr) (n1 : Nat) (c1 : Nat) (a0 : List (List Int)) (a1 : List Int) (hr0 : RdS ((Fl.int .i64).rep).slice R.heap A0 a0) (hn0 : a0.length = n0) (hc0 : n0 ≤ c0) (hr1 : RdS (Fl.int .i64).rep R.heap A1 a1) (hn1 : a1.length = n1) (hc1 : n1 ≤ c1) {r : Bool} (hrun : bailifflaw15_CyclesEither.f a0 a1 = some r) :
    Spec Go.Proofs.Try.prog 6 [.slice A0 n0 c0, .slice A1 n1 c1] R (Fr) (fun v l' => v = .bool r ∧ Fr = l') := by
  subst hn0
  subst hn1
  refine Spec.of Go.Proofs.Try.func6 rfl rfl ?_
  unfold bailifflaw15_CyclesEither.f at hrun
  have hrun := brun hrun
  refine At.seq ?_
  refine At.region ?_
  refine At.run 1 rfl ?_
  refine At.nil ?_
  refine At.thn ?_
  refine At.seq ?_
  refine At.region ?_
  obtain ⟨t262, hc263, hrun⟩ := bbind hrun
  refine At.call rfl bailifflaw15_shown.callee rfl rfl rfl (bailifflaw15_shown.spec _ _    hc263) ?_
  rintro _ _ ⟨rfl, rfl⟩
  refine At.run 1 rfl ?_
  refine At.nil ?_
  refine At.thn ?_
  refine At.seq ?_
  refine At.region ?_
  refine At.run 1 rfl ?_
  obtain ⟨t264, hc265, hrun⟩ := bbind hrun
  refine At.call rfl bailifflaw15_cut.callee rfl rfl rfl (bailifflaw15_cut.spec _ _ A0 a0.length c0 a0 hr0 rfl hc0 hc265) ?_
  rintro _ _ ⟨w266, w267, w268, rfl, rfl, hr269, rfl, hc271⟩
  refine At.run 1 rfl ?_
  refine At.nil ?_
  refine At.thn ?_
  refine At.seq ?_
  refine At.region ?_
  refine At.run 1 rfl ?_
  obtain ⟨t272, hc273, hrun⟩ := bbind hrun
  refine At.call rfl cycles_Components.callee rfl rfl rfl (cycles_Components.spec _ _ w266 t264.length w268 t264 hr269 rfl hc271 hc273) ?_
  rintro _ _ ⟨w274, w275, w276, rfl, rfl, rfl⟩
  refine At.run 1 rfl ?_
  refine At.nil ?_
  refine At.thn ?_
  refine At.seq ?_
  refine At.region ?_
  refine At.run 2 rfl ?_
  obtain ⟨h279, hrun⟩ := bnone hrun
  refine At.make (F := Fl.bool) (z := false) rfl rfl rfl rfl rfl rfl rfl rfl rfl rfl h279.1 h279.2 (by decide) rfl (fun A280 c281 => ?_)
  refine At.run 1 rfl ?_
  refine At.nil ?_
  refine At.thn ?_
  refine At.seq ?_
  refine At.region ?_
  refine At.run 1 rfl ?_
  refine At.nil ?_
  refine At.thn ?_
  refine At.seq ?_
  refine At.seq ?_
  refine At.region ?_
  refine At.run 1 rfl ?_
  refine At.nil ?_
  refine At.thn ?_
  refine At.block ?_
  obtain ⟨G1088, hl1089, hr1090, hrun⟩ := bjoin hrun
  obtain ⟨o1091, hlo1092, ho1093⟩ := bsome hrun
  clear hrun
  unfold bailifflaw15_CyclesEither.l0 at hlo1092
  obtain ⟨m1094, hit1096⟩ := iter_some.1 hlo1092
  clear hlo1092
  refine At.loopJ (X := (List Bool) × Int) (Y := (List Bool)) (e0 := 0) (fun s_ => [(0, .slice w266 t264.length w268), (1, .slice A1 a1.length c1), (5, .bool t262), (6, .slice w275 t272.length w276), (7, .slice A280 ((List.replicate (t264.length : Int).toNat (false : Bool)).length) c281), (8, .int .i64 (-1)), (9, .int .i64 s_.2)]) (fun s_ => row Fl.bool 4 A280 ((List.replicate (t264.length : Int).toNat (false : Bool)).length) c281 s_.1 :: rows (Fl.int .i64) 3 26 w275 t272.length w276 t272 :: Fr) (fun m_ => fun s_ => iterN (fun t_ : (List Bool) × Int => bailifflaw15_CyclesEither.l0b t264 t272 t_.1 t_.2) m_ (s_.1, s_.2) = some o1091) m1094 ((List.replicate (t264.length : Int).toNat (false : Bool)), 0) hit1096 (fun x1087 => [(0, .slice w266 t264.length w268), (1, .slice A1 a1.length c1), (5, .bool t262), (7, .slice A280 ((List.replicate (t264.length : Int).toNat (false : Bool)).length) c281), (8, .int .i64 (-1))]) (fun x1087 => row Fl.bool 4 A280 ((List.replicate (t264.length : Int).toNat (false : Bool)).length) c281 x1087 :: rows (Fl.int .i64) 3 26 w275 t272.length w276 t272 :: Fr) (fun x1087 => G1088 (.inl x1087) = some r) (fun a w e hs => ⟨e.sub ⟨rfl, rfl, rfl, rfl, rfl, rfl, rfl, trivial⟩, hs⟩) ?_ (fun J1098 => ?_)
  · rintro x1087 hrun
    have hrun := (hl1089 _).symm.trans hrun
    · refine At.ibx ?_
      refine At.thn ?_
      refine At.seq ?_
      refine At.seq ?_
      refine At.region ?_
      refine At.run 4 rfl ?_
      refine At.nil ?_
      refine At.thn ?_
      refine At.block ?_
      obtain ⟨G1904, hl1905, hr1906, hrun⟩ := bjoin hrun
      obtain ⟨o1907, hlo1908, ho1909⟩ := bsome hrun
      clear hrun
      unfold bailifflaw15_CyclesEither.l1 at hlo1908
      obtain ⟨m1910, hit1912⟩ := iter_some.1 hlo1908
      clear hlo1908
      refine At.loopJ (X := Int × Int) (Y := Int) (e0 := 6) (fun s_ => [(0, .slice w266 t264.length w268), (1, .slice A1 a1.length c1), (5, .bool t262), (7, .slice A280 ((List.replicate (t264.length : Int).toNat (false : Bool)).length) c281), (8, .int .i64 s_.1), (13, .int .i64 s_.2)]) (fun s_ => row Fl.bool 4 A280 ((List.replicate (t264.length : Int).toNat (false : Bool)).length) c281 x1087 :: rows (Fl.int .i64) 3 26 w275 t272.length w276 t272 :: Fr) (fun m_ => fun s_ => iterN (fun t_ : Int × Int => bailifflaw15_CyclesEither.l1b t264 x1087 t_.1 t_.2) m_ (s_.1, s_.2) = some o1907) m1910 ((-1), IntKind.i64.wrap (((List.replicate (t264.length : Int).toNat (false : Bool)).length : Int) - 1)) hit1912 (fun x1903 => [(0, .slice w266 t264.length w268), (1, .slice A1 a1.length c1), (5, .bool t262), (7, .slice A280 ((List.replicate (t264.length : Int).toNat (false : Bool)).length) c281), (8, .int .i64 x1903)]) (fun x1903 => row Fl.bool 4 A280 ((List.replicate (t264.length : Int).toNat (false : Bool)).length) c281 x1087 :: rows (Fl.int .i64) 3 26 w275 t272.length w276 t272 :: Fr) (fun x1903 => G1904 (.inl x1903) = some r) (fun a w e hs => ⟨e.sub ⟨rfl, rfl, rfl, rfl, rfl, rfl, trivial⟩, hs⟩) ?_ (fun J1914 => ?_)
      · rintro x1903 hrun
        have hrun := (hl1905 _).symm.trans hrun
        · refine At.ibx ?_
          refine At.thn ?_
          refine At.seq ?_
          refine At.region ?_
          refine At.run 2 rfl ?_
          obtain ⟨t1915, hc1916, hrun⟩ := bbind hrun
          refine At.call rfl cycles_Bad.callee rfl rfl rfl (cycles_Bad.spec _ _ w266 t264.length w268 A1 a1.length c1 t264 a1 0 hr269 rfl hc271 hr1 rfl hc1 hc1916) ?_
          rintro _ _ ⟨rfl, rfl⟩
          refine At.run 1 rfl ?_
          refine At.nil ?_
          refine At.thn ?_
          refine At.seq ?_
          refine At.region ?_
          refine At.run 2 rfl ?_
          obtain ⟨t1917, hc1918, hrun⟩ := bbind hrun
          refine At.call rfl cycles_Bad.callee rfl rfl rfl (cycles_Bad.spec _ _ w266 t264.length w268 A1 a1.length c1 t264 a1 1 hr269 rfl hc271 hr1 rfl hc1 hc1918) ?_
          rintro _ _ ⟨rfl, rfl⟩
          refine At.run 1 rfl ?_
          refine At.nil ?_
          refine At.thn ?_
          refine At.seq ?_
          refine At.region ?_
          refine At.run 1 rfl ?_
          obtain ⟨t1919, hc1920, hrun⟩ := bbind hrun
          refine At.call rfl cycles_Bad.callee rfl rfl rfl (cycles_Bad.spec _ _ w266 t264.length w268 none 0 0 t264 ([] : List Int) 0 hr269 rfl hc271 (RdS.nil _ _ _) rfl (Nat.le_refl _) hc1920) ?_
          rintro _ _ ⟨rfl, rfl⟩
          refine At.run 1 rfl ?_
          refine At.nil ?_
          refine At.thn ?_
          refine At.seq ?_
          refine At.region ?_
          refine At.run 1 rfl ?_
          obtain ⟨t1921, hc1922, hrun⟩ := bbind hrun
          refine At.call rfl cycles_Bad.callee rfl rfl rfl (cycles_Bad.spec _ _ w266 t264.length w268 none 0 0 t264 ([] : List Int) 1 hr269 rfl hc271 (RdS.nil _ _ _) rfl (Nat.le_refl _) hc1922) ?_
          rintro _ _ ⟨rfl, rfl⟩
          refine At.run 1 rfl ?_
          refine At.nil ?_
          refine At.thn ?_
          refine At.seq ?_
          refine At.seq ?_
          refine At.region ?_
          refine At.run 3 rfl ?_
          obtain ⟨G2124, hl2125, hr2126, hrun⟩ := bjoin hrun
          refine At.joinO 12 (X := Bool) (fun x2123 => [(0, .slice w266 t264.length w268), (5, .bool t262), (7, .slice A280 ((List.replicate (t264.length : Int).toNat (false : Bool)).length) c281), (8, .int .i64 x1903), (14, .int .i64 t1915), (15, .int .i64 t1917), (16, .int .i64 t1919), (17, .int .i64 t1921), (128, .bool x2123)]) (fun x2123 => row Fl.bool 4 A280 ((List.replicate (t264.length : Int).toNat (false : Bool)).length) c281 x1087 :: rows (Fl.int .i64) 3 26 w275 t272.length w276 t272 :: Fr) (fun x2123 => G2124 (.inl x2123) = some r) ?_ (fun J2127 => ?_)
          · rintro x2123 hrun
            have hrun := (hl2125 _).symm.trans hrun
            · refine At.run 1 rfl ?_
              obtain ⟨G2329, hl2330, hr2331, hrun⟩ := bjoin hrun
              refine At.joinO 16 (X := Bool) (fun x2328 => [(5, .bool t262), (8, .int .i64 x1903), (14, .int .i64 t1915), (15, .int .i64 t1917), (16, .int .i64 t1919), (17, .int .i64 t1921), (145, .bool x2328)]) (fun x2328 => row Fl.bool 4 A280 ((List.replicate (t264.length : Int).toNat (false : Bool)).length) c281 x1087 :: rows (Fl.int .i64) 3 26 w275 t272.length w276 t272 :: Fr) (fun x2328 => G2329 (.inl x2328) = some r) ?_ (fun J2332 => ?_)
              · rintro x2328 hrun
                have hrun := (hl2330 _).symm.trans hrun
                · refine At.nil ?_
                  refine At.thn ?_
                  rcases bite hrun with ⟨h2333, hrun⟩ | ⟨h2333, hrun⟩
                  · · refine At.condT rfl h2333 ?_
                      refine At.seq ?_
                      refine At.region ?_
                      refine At.run 1 rfl ?_
                      refine At.nil ?_
                      refine At.thn ?_
                      refine At.ret ?_
                      refine At.thr ?_
                      refine At.drop .z ?_
                      refine At.drop .z ?_
                      obtain rfl := (bret hrun).symm
                      exact At.res (.inl rfl) rfl rfl ⟨rfl, rfl⟩
                  · · refine At.condF rfl (bn h2333) ?_
                      refine At.skip ?_
                      refine At.thn ?_
                      refine At.seq ?_
                      refine At.region ?_
                      refine At.run 2 rfl ?_
                      obtain ⟨G2535, hl2536, hr2537, hrun⟩ := bjoin hrun
                      refine At.joinO 10 (X := Bool) (fun x2534 => [(8, .int .i64 x1903), (16, .int .i64 t1919), (17, .int .i64 t1921), (157, .bool x2534)]) (fun x2534 => row Fl.bool 4 A280 ((List.replicate (t264.length : Int).toNat (false : Bool)).length) c281 x1087 :: rows (Fl.int .i64) 3 26 w275 t272.length w276 t272 :: Fr) (fun x2534 => G2535 (.inl x2534) = some r) ?_ (fun J2538 => ?_)
                      · rintro x2534 hrun
                        have hrun := (hl2536 _).symm.trans hrun
                        · refine At.run 1 rfl ?_
                          obtain ⟨G2740, hl2741, hr2742, hrun⟩ := bjoin hrun
                          refine At.joinO 4 (X := Bool) (fun x2739 => [(17, .int .i64 t1921), (162, .bool x2739)]) (fun x2739 => row Fl.bool 4 A280 ((List.replicate (t264.length : Int).toNat (false : Bool)).length) c281 x1087 :: rows (Fl.int .i64) 3 26 w275 t272.length w276 t272 :: Fr) (fun x2739 => G2740 (.inl x2739) = some r) ?_ (fun J2743 => ?_)
                          · rintro x2739 hrun
                            have hrun := (hl2741 _).symm.trans hrun
                            · refine At.run 1 rfl ?_
                              obtain ⟨G2945, hl2946, hr2947, hrun⟩ := bjoin hrun
                              refine At.joinO 3 (X := Bool) (fun x2944 => [(166, .bool x2944)]) (fun x2944 => row Fl.bool 4 A280 ((List.replicate (t264.length : Int).toNat (false : Bool)).length) c281 x1087 :: rows (Fl.int .i64) 3 26 w275 t272.length w276 t272 :: Fr) (fun x2944 => G2945 (.inl x2944) = some r) ?_ (fun J2948 => ?_)
                              · rintro x2944 hrun
                                have hrun := (hl2946 _).symm.trans hrun
                                · refine At.run 1 rfl ?_
                                  refine At.nil ?_
                                  refine At.thn ?_
                                  refine At.ret ?_
                                  refine At.drop .z ?_
                                  refine At.drop .z ?_
                                  obtain rfl := (bret hrun).symm
                                  exact At.res (.inl rfl) rfl rfl ⟨rfl, rfl⟩
                              · · rcases bite hrun with ⟨h2949, hrun⟩ | ⟨h2949, hrun⟩
                                  · · refine At.know (t := 163) rfl h2949 ?_
                                      refine At.run 3 rfl ?_
                                      exact At.of (J2948 (decide (t1921 = (-1))) hrun) ⟨rfl, trivial⟩
                                  · · refine At.know (t := 163) rfl (bn h2949) ?_
                                      refine At.run 3 rfl ?_
                                      exact At.of (J2948 false hrun) ⟨rfl, trivial⟩
                          · · rcases bite hrun with ⟨h2950, hrun⟩ | ⟨h2950, hrun⟩
                              · · refine At.know (t := 158) rfl h2950 ?_
                                  refine At.run 4 rfl ?_
                                  exact At.of (J2743 (decide (t1919 = x1903)) hrun) ⟨rfl, rfl, trivial⟩
                              · · refine At.know (t := 158) rfl (bn h2950) ?_
                                  refine At.run 4 rfl ?_
                                  exact At.of (J2743 false hrun) ⟨rfl, rfl, trivial⟩
                      · · rcases bite hrun with ⟨h2951, hrun⟩ | ⟨h2951, hrun⟩
                          · · refine At.know (t := 147) rfl h2951 ?_
                              refine At.run 3 rfl ?_
                              obtain ⟨G3153, hl3154, hr3155, hrun⟩ := bjoin hrun
                              refine At.joinO 3 (X := Bool) (fun x3152 => [(8, .int .i64 x1903), (16, .int .i64 t1919), (17, .int .i64 t1921), (147, .bool true), (153, .bool x3152)]) (fun x3152 => row Fl.bool 4 A280 ((List.replicate (t264.length : Int).toNat (false : Bool)).length) c281 x1087 :: rows (Fl.int .i64) 3 26 w275 t272.length w276 t272 :: Fr) (fun x3152 => G3153 (.inl x3152) = some r) ?_ (fun J3156 => ?_)
                              · rintro x3152 hrun
                                have hrun := (hl3154 _).symm.trans hrun
                                · refine At.run 4 rfl ?_
                                  exact At.of (J2538 (x3152 == decide (0 ≤ x1903)) hrun) ⟨rfl, rfl, rfl, rfl, trivial⟩
                              · · rcases bite hrun with ⟨h3157, hrun⟩ | ⟨h3157, hrun⟩
                                  · · refine At.know (t := 150) rfl (decide_eq_true h3157) ?_
                                      refine At.run 3 rfl ?_
                                      exact At.of (J3156 true hrun) ⟨rfl, rfl, rfl, rfl, rfl, trivial⟩
                                  · · refine At.know (t := 150) rfl (decide_eq_false h3157) ?_
                                      refine At.run 3 rfl ?_
                                      exact At.of (J3156 (decide (0 ≤ t1917)) hrun) ⟨rfl, rfl, rfl, rfl, rfl, trivial⟩
                          · · refine At.know (t := 147) rfl (bn h2951) ?_
                              refine At.run 10 rfl ?_
                              exact At.of (J2538 false hrun) ⟨rfl, rfl, rfl, rfl, trivial⟩
              · · rcases bite hrun with ⟨h3158, hrun⟩ | ⟨h3158, hrun⟩
                  · · refine At.know (t := 129) rfl h3158 ?_
                      refine At.run 16 rfl ?_
                      exact At.of (J2332 true hrun) ⟨rfl, rfl, rfl, rfl, rfl, rfl, rfl, trivial⟩
                  · · refine At.know (t := 129) rfl (bn h3158) ?_
                      refine At.run 3 rfl ?_
                      obtain ⟨G3360, hl3361, hr3362, hrun⟩ := bjoin hrun
                      refine At.joinO 12 (X := Bool) (fun x3359 => [(5, .bool t262), (8, .int .i64 x1903), (14, .int .i64 t1915), (15, .int .i64 t1917), (16, .int .i64 t1919), (17, .int .i64 t1921), (129, .bool false), (144, .bool x3359)]) (fun x3359 => row Fl.bool 4 A280 ((List.replicate (t264.length : Int).toNat (false : Bool)).length) c281 x1087 :: rows (Fl.int .i64) 3 26 w275 t272.length w276 t272 :: Fr) (fun x3359 => G3360 (.inl x3359) = some r) ?_ (fun J3363 => ?_)
                      · rintro x3359 hrun
                        have hrun := (hl3361 _).symm.trans hrun
                        · refine At.run 1 rfl ?_
                          exact At.of (J2332 x3359 hrun) ⟨rfl, rfl, rfl, rfl, rfl, rfl, rfl, trivial⟩
                      · · rcases bite hrun with ⟨h3364, hrun⟩ | ⟨h3364, hrun⟩
                          · · refine At.know (t := 132) rfl (decide_eq_true h3364) ?_
                              refine At.run 5 rfl ?_
                              obtain ⟨G3566, hl3567, hr3568, hrun⟩ := bjoin hrun
                              refine At.joinO 6 (X := Bool) (fun x3565 => [(5, .bool t262), (8, .int .i64 x1903), (14, .int .i64 t1915), (15, .int .i64 t1917), (16, .int .i64 t1919), (17, .int .i64 t1921), (129, .bool false), (132, .bool true), (143, .bool x3565)]) (fun x3565 => row Fl.bool 4 A280 ((List.replicate (t264.length : Int).toNat (false : Bool)).length) c281 x1087 :: rows (Fl.int .i64) 3 26 w275 t272.length w276 t272 :: Fr) (fun x3565 => G3566 (.inl x3565) = some r) ?_ (fun J3569 => ?_)
                              · rintro x3565 hrun
                                have hrun := (hl3567 _).symm.trans hrun
                                · refine At.run 1 rfl ?_
                                  exact At.of (J3363 x3565 hrun) ⟨rfl, rfl, rfl, rfl, rfl, rfl, rfl, rfl, trivial⟩
                              · · rcases bite hrun with ⟨h3570, hrun⟩ | ⟨h3570, hrun⟩
                                  · · refine At.know (t := 137) rfl (decide_eq_true h3570) ?_
                                      refine At.run 6 rfl ?_
                                      exact At.of (J3569 true hrun) ⟨rfl, rfl, rfl, rfl, rfl, rfl, rfl, rfl, rfl, trivial⟩
                                  · · refine At.know (t := 137) rfl (decide_eq_false h3570) ?_
                                      refine At.run 2 rfl ?_
                                      obtain ⟨h3571, hrun⟩ := bnone hrun
                                      refine At.y (Y.ix .z rfl rfl rfl rfl rfl rfl h3571.1 h3571.2) rfl rfl rfl ?_
                                      refine At.y (Y.ld .z (q := 0) rfl rfl h3571.1 h3571.2 rfl rfl rfl) rfl rfl rfl ?_
                                      refine At.run 2 rfl ?_
                                      exact At.of (J3569 (!(gt x1087 t1917)) hrun) ⟨rfl, rfl, rfl, rfl, rfl, rfl, rfl, rfl, rfl, trivial⟩
                          · · refine At.know (t := 132) rfl (decide_eq_false h3364) ?_
                              refine At.run 12 rfl ?_
                              exact At.of (J3363 false hrun) ⟨rfl, rfl, rfl, rfl, rfl, rfl, rfl, rfl, trivial⟩
          · · rcases bite hrun with ⟨h3572, hrun⟩ | ⟨h3572, hrun⟩
              · · refine At.know (t := 116) rfl (decide_eq_true h3572) ?_
                  refine At.run 5 rfl ?_
                  obtain ⟨G3774, hl3775, hr3776, hrun⟩ := bjoin hrun
                  refine At.joinO 6 (X := Bool) (fun x3773 => [(0, .slice w266 t264.length w268), (5, .bool t262), (7, .slice A280 ((List.replicate (t264.length : Int).toNat (false : Bool)).length) c281), (8, .int .i64 x1903), (14, .int .i64 t1915), (15, .int .i64 t1917), (16, .int .i64 t1919), (17, .int .i64 t1921), (116, .bool true), (127, .bool x3773)]) (fun x3773 => row Fl.bool 4 A280 ((List.replicate (t264.length : Int).toNat (false : Bool)).length) c281 x1087 :: rows (Fl.int .i64) 3 26 w275 t272.length w276 t272 :: Fr) (fun x3773 => G3774 (.inl x3773) = some r) ?_ (fun J3777 => ?_)
                  · rintro x3773 hrun
                    have hrun := (hl3775 _).symm.trans hrun
                    · refine At.run 1 rfl ?_
                      exact At.of (J2127 x3773 hrun) ⟨rfl, rfl, rfl, rfl, rfl, rfl, rfl, rfl, rfl, trivial⟩
                  · · rcases bite hrun with ⟨h3778, hrun⟩ | ⟨h3778, hrun⟩
                      · · refine At.know (t := 121) rfl (decide_eq_true h3778) ?_
                          refine At.run 6 rfl ?_
                          exact At.of (J3777 true hrun) ⟨rfl, rfl, rfl, rfl, rfl, rfl, rfl, rfl, rfl, rfl, trivial⟩
                      · · refine At.know (t := 121) rfl (decide_eq_false h3778) ?_
                          refine At.run 2 rfl ?_
                          obtain ⟨h3779, hrun⟩ := bnone hrun
                          refine At.y (Y.ix .z rfl rfl rfl rfl rfl rfl h3779.1 h3779.2) rfl rfl rfl ?_
                          refine At.y (Y.ld .z (q := 0) rfl rfl h3779.1 h3779.2 rfl rfl rfl) rfl rfl rfl ?_
                          refine At.run 2 rfl ?_
                          exact At.of (J3777 (!(gt x1087 t1915)) hrun) ⟨rfl, rfl, rfl, rfl, rfl, rfl, rfl, rfl, rfl, rfl, trivial⟩
              · · refine At.know (t := 116) rfl (decide_eq_false h3572) ?_
                  refine At.run 12 rfl ?_
                  exact At.of (J2127 false hrun) ⟨rfl, rfl, rfl, rfl, rfl, rfl, rfl, rfl, rfl, trivial⟩
      · clear hit1912 m1910
        rintro m1910 ⟨x1701, x1702⟩ hit1912
        obtain ⟨m1911, f_, hlt1913, hf_, hrun⟩ := bit hit1912
        clear hit1912
        have hrun : (bailifflaw15_CyclesEither.l1b t264 x1087 x1701 x1702).bind _ = some o1907 := hrun
        unfold bailifflaw15_CyclesEither.l1b at hrun
        · refine At.seq ?_
          refine At.seq ?_
          refine At.region ?_
          refine At.run 2 rfl ?_
          refine At.nil ?_
          refine At.thn ?_
          rcases bite hrun with ⟨h3780, hrun⟩ | ⟨h3780, hrun⟩
          · · refine At.condT rfl (decide_eq_true h3780) ?_
              refine At.skip ?_
              refine At.thn ?_
              refine At.seq ?_
              obtain ⟨G3781, hl3782, hr3783, hrun⟩ := bjoin hrun
              refine At.join (X := Int) (fun x3985 => [(0, .slice w266 t264.length w268), (1, .slice A1 a1.length c1), (5, .bool t262), (7, .slice A280 ((List.replicate (t264.length : Int).toNat (false : Bool)).length) c281), (8, .int .i64 x3985), (13, .int .i64 x1702)]) (fun x3985 => row Fl.bool 4 A280 ((List.replicate (t264.length : Int).toNat (false : Bool)).length) c281 x1087 :: rows (Fl.int .i64) 3 26 w275 t272.length w276 t272 :: Fr) (fun x3985 => G3781 (.inl x3985) = some o1907) ?_ (fun J3784 => ?_)
              · rintro x3985 hrun
                have hrun := (hl3782 _).symm.trans hrun
                · refine At.region ?_
                  refine At.run 3 rfl ?_
                  refine At.nil ?_
                  have hrun := bnx hf_ hrun
                  exact fun a w e hs => ⟨m1911, (x3985, IntKind.i64.wrap (x1702 - 1)), hlt1913, hrun, e.sub ⟨rfl, rfl, rfl, rfl, rfl, rfl, trivial⟩, hs⟩
              · · refine At.block ?_
                  refine At.seq ?_
                  refine At.region ?_
                  refine At.run 2 rfl ?_
                  obtain ⟨h3986, hrun⟩ := bnone hrun
                  refine At.y (Y.ix .z rfl rfl rfl rfl rfl rfl h3986.1 h3986.2) rfl rfl rfl ?_
                  refine At.y (Y.ld .z (q := 0) rfl rfl h3986.1 h3986.2 rfl rfl rfl) rfl rfl rfl ?_
                  refine At.nil ?_
                  refine At.thn ?_
                  rcases bite hrun with ⟨h3987, hrun⟩ | ⟨h3987, hrun⟩
                  · · refine At.condT rfl h3987 ?_
                      refine At.region ?_
                      refine At.run 2 rfl ?_
                      refine At.nil ?_
                      refine At.ibn ?_
                      refine At.thn ?_
                      exact fun a w e hs => J3784 x1702 hrun a w (e.sub ⟨rfl, rfl, rfl, rfl, rfl, rfl, trivial⟩) hs
                  · · refine At.condF rfl (bn h3987) ?_
                      refine At.skip ?_
                      refine At.ibn ?_
                      refine At.thn ?_
                      exact fun a w e hs => J3784 x1701 hrun a w (e.sub ⟨rfl, rfl, rfl, rfl, rfl, rfl, trivial⟩) hs
          · · refine At.condF rfl (decide_eq_false h3780) ?_
              refine At.exit ?_
              refine At.the ?_
              refine At.the ?_
              exact fun a w e hs => J1914 x1701 (bdn hrun ho1909) a w (e.sub ⟨rfl, rfl, rfl, rfl, rfl, trivial⟩) hs
  · clear hit1096 m1094
    rintro m1094 ⟨x885, x886⟩ hit1096
    obtain ⟨m1095, f_, hlt1097, hf_, hrun⟩ := bit hit1096
    clear hit1096
    have hrun : (bailifflaw15_CyclesEither.l0b t264 t272 x885 x886).bind _ = some o1091 := hrun
    unfold bailifflaw15_CyclesEither.l0b at hrun
    · refine At.seq ?_
      refine At.seq ?_
      refine At.region ?_
      refine At.run 4 rfl ?_
      refine At.nil ?_
      refine At.thn ?_
      rcases bite hrun with ⟨h3988, hrun⟩ | ⟨h3988, hrun⟩
      · · refine At.condT rfl (decide_eq_true h3988) ?_
          refine At.skip ?_
          refine At.thn ?_
          refine At.seq ?_
          refine At.block ?_
          refine At.seq ?_
          refine At.region ?_
          refine At.run 1 rfl ?_
          refine At.nil ?_
          refine At.thn ?_
          refine At.block ?_
          obtain ⟨G4794, hl4795, hr4796, hrun⟩ := bjoin hrun
          obtain ⟨o4797, hlo4798, ho4799⟩ := bsome hrun
          clear hrun
          unfold bailifflaw15_CyclesEither.l2 at hlo4798
          obtain ⟨m4800, hit4802⟩ := iter_some.1 hlo4798
          clear hlo4798
          refine At.loopJ (X := (List Bool) × Int) (Y := (List Bool)) (e0 := 2) (fun s_ => [(0, .slice w266 t264.length w268), (1, .slice A1 a1.length c1), (5, .bool t262), (6, .slice w275 t272.length w276), (7, .slice A280 ((List.replicate (t264.length : Int).toNat (false : Bool)).length) c281), (8, .int .i64 (-1)), (9, .int .i64 x886), (10, .int .i64 s_.2)]) (fun s_ => row Fl.bool 4 A280 ((List.replicate (t264.length : Int).toNat (false : Bool)).length) c281 s_.1 :: rows (Fl.int .i64) 3 26 w275 t272.length w276 t272 :: Fr) (fun m_ => fun s_ => iterN (fun t_ : (List Bool) × Int => bailifflaw15_CyclesEither.l2b t264 t272 x886 t_.1 t_.2) m_ (s_.1, s_.2) = some o4797) m4800 (x885, 0) hit4802 (fun x4793 => [(0, .slice w266 t264.length w268), (1, .slice A1 a1.length c1), (5, .bool t262), (6, .slice w275 t272.length w276), (7, .slice A280 ((List.replicate (t264.length : Int).toNat (false : Bool)).length) c281), (8, .int .i64 (-1)), (9, .int .i64 x886)]) (fun x4793 => rows (Fl.int .i64) 3 26 w275 t272.length w276 t272 :: row Fl.bool 4 A280 ((List.replicate (t264.length : Int).toNat (false : Bool)).length) c281 x4793 :: Fr) (fun x4793 => G4794 (.inl x4793) = some o1091) (fun a w e hs => ⟨e.sub ⟨rfl, rfl, rfl, rfl, rfl, rfl, rfl, rfl, trivial⟩, hs⟩) ?_ (fun J4804 => ?_)
          · rintro x4793 hrun
            have hrun := (hl4795 _).symm.trans hrun
            · refine At.ibx ?_
              refine At.ibn ?_
              refine At.thn ?_
              refine At.region ?_
              refine At.run 3 rfl ?_
              refine At.nil ?_
              refine At.frt (.s .z) ?_
              have hrun := bnx hf_ hrun
              exact fun a w e hs => ⟨m1095, (x4793, IntKind.i64.wrap (x886 + 1)), hlt1097, hrun, e.sub ⟨rfl, rfl, rfl, rfl, rfl, rfl, rfl, trivial⟩, hs⟩
          · clear hit4802 m4800
            rintro m4800 ⟨x4591, x4592⟩ hit4802
            obtain ⟨m4801, f_, hlt4803, hf_, hrun⟩ := bit hit4802
            clear hit4802
            have hrun : (bailifflaw15_CyclesEither.l2b t264 t272 x886 x4591 x4592).bind _ = some o4797 := hrun
            unfold bailifflaw15_CyclesEither.l2b at hrun
            · refine At.seq ?_
              refine At.seq ?_
              refine At.region ?_
              refine At.run 3 rfl ?_
              refine At.freezeRows (.s .z) fun R4805 hr4806 hn4807 hc4808 hs4809 th4810 => ?_
              obtain ⟨h4811, hrun⟩ := bnone hrun
              refine At.y (Y.ixRd hr4806 hn4807 rfl rfl rfl rfl rfl rfl h4811.1 h4811.2) rfl rfl rfl ?_
              obtain ⟨A4812, c4813, hc4814, hr4815, hy4816⟩ := RdS.rowAt (P := Go.Proofs.Try.prog) hr4806 (Sub.refl _) hn4807 h4811.1 h4811.2
              refine At.y (hy4816 rfl rfl rfl rfl) rfl rfl rfl ?_
              refine At.run 2 rfl ?_
              refine At.nil ?_
              refine At.thn ?_
              rcases bite hrun with ⟨h4817, hrun⟩ | ⟨h4817, hrun⟩
              · · refine At.condT rfl (decide_eq_true h4817) ?_
                  refine At.skip ?_
                  refine At.thn ?_
                  refine At.seq ?_
                  refine At.block ?_
                  refine At.seq ?_
                  refine At.region ?_
                  refine At.run 2 rfl ?_
                  refine At.y (Y.ixRd hr4806 hn4807 rfl rfl rfl rfl rfl rfl h4811.1 h4811.2) rfl rfl rfl ?_
                  obtain ⟨A4818, c4819, hc4820, hr4821, hy4822⟩ := RdS.rowAt (P := Go.Proofs.Try.prog) hr4806 (Sub.refl _) hn4807 h4811.1 h4811.2
                  refine At.y (hy4822 rfl rfl rfl rfl) rfl rfl rfl ?_
                  refine At.run 1 rfl ?_
                  obtain ⟨h4823, hrun⟩ := bnone hrun
                  refine At.y (Y.ixRd hr4821 rfl rfl rfl rfl rfl rfl rfl h4823.1 h4823.2) rfl rfl rfl ?_
                  refine At.y (Y.ldFl hr4821 rfl (q := 0) rfl rfl h4823.1 h4823.2 rfl rfl rfl) rfl rfl rfl ?_
                  refine At.run 1 rfl ?_
                  refine At.nil ?_
                  refine At.thn ?_
                  refine At.seq ?_
                  refine At.seq ?_
                  refine At.region ?_
                  refine At.run 3 rfl ?_
                  obtain ⟨G5025, hl5026, hr5027, hrun⟩ := bjoin hrun
                  refine At.joinO 5 (X := Bool) (fun x5024 => [(0, .slice w266 t264.length w268), (1, .slice A1 a1.length c1), (5, .bool t262), (6, .slice w275 t272.length w276), (7, .slice A280 ((List.replicate (t264.length : Int).toNat (false : Bool)).length) c281), (8, .int .i64 (-1)), (9, .int .i64 x886), (10, .int .i64 x4592), (11, .int .i64 (gt (gt t272 x886) x4592)), (55, .bool x5024)]) (fun x5024 => row Fl.bool 4 A280 ((List.replicate (t264.length : Int).toNat (false : Bool)).length) c281 x4591 :: Fr) (fun x5024 => G5025 (.inl x5024) = some o4797) ?_ (fun J5028 => ?_)
                  · rintro x5024 hrun
                    have hrun := (hl5026 _).symm.trans hrun
                    · refine At.nil ?_
                      refine At.thn ?_
                      rcases bite hrun with ⟨h5029, hrun⟩ | ⟨h5029, hrun⟩
                      · · refine At.condT rfl h5029 ?_
                          refine At.seq ?_
                          refine At.region ?_
                          refine At.run 1 rfl ?_
                          refine At.nil ?_
                          refine At.thn ?_
                          refine At.ret ?_
                          refine At.thr ?_
                          refine At.ibr ?_
                          refine At.thr ?_
                          have hrun := bupL hr4796 ho4799 hrun
                          refine At.thr ?_
                          refine At.ibr ?_
                          refine At.ibr ?_
                          refine At.thr ?_
                          have hrun := bupL hr1090 ho1093 hrun
                          refine At.thr ?_
                          refine At.ibr ?_
                          refine At.thr ?_
                          refine At.thaw th4810 ?_
                          refine At.drop .z ?_
                          refine At.drop .z ?_
                          obtain rfl := (bret hrun).symm
                          exact At.res (.inl rfl) rfl rfl ⟨rfl, rfl⟩
                      · · refine At.condF rfl (bn h5029) ?_
                          refine At.skip ?_
                          refine At.thn ?_
                          refine At.seq ?_
                          refine At.region ?_
                          refine At.run 4 rfl ?_
                          refine At.y (Y.ixRd hr4806 hn4807 rfl rfl rfl rfl rfl rfl h4811.1 h4811.2) rfl rfl rfl ?_
                          obtain ⟨A5030, c5031, hc5032, hr5033, hy5034⟩ := RdS.rowAt (P := Go.Proofs.Try.prog) hr4806 (Sub.refl _) hn4807 h4811.1 h4811.2
                          refine At.y (hy5034 rfl rfl rfl rfl) rfl rfl rfl ?_
                          refine At.run 2 rfl ?_
                          obtain ⟨h5035, hrun⟩ := bnone hrun
                          refine At.y (Y.ix .z rfl rfl rfl rfl rfl rfl h5035.1 h5035.2) rfl rfl rfl ?_
                          refine At.st rfl .z (q := 0) (z := (decide (1 < ((gt t272 x886).length : Int)))) rfl rfl rfl h5035.1 h5035.2 rfl rfl (.c .n) ?_
                          refine At.nil ?_
                          refine At.thn ?_
                          refine At.seq ?_
                          refine At.region ?_
                          refine At.run 1 rfl ?_
                          refine At.nil ?_
                          refine At.thn ?_
                          refine At.block ?_
                          obtain ⟨G5841, hl5842, hr5843, hrun⟩ := bjoin hrun
                          obtain ⟨o5844, hlo5845, ho5846⟩ := bsome hrun
                          clear hrun
                          unfold bailifflaw15_CyclesEither.l3 at hlo5845
                          obtain ⟨m5847, hit5849⟩ := iter_some.1 hlo5845
                          clear hlo5845
                          refine At.loopJ (X := (List Bool) × Int) (Y := (List Bool)) (e0 := 4) (fun s_ => [(0, .slice w266 t264.length w268), (1, .slice A1 a1.length c1), (5, .bool t262), (6, .slice w275 t272.length w276), (7, .slice A280 ((List.replicate (t264.length : Int).toNat (false : Bool)).length) c281), (8, .int .i64 (-1)), (9, .int .i64 x886), (10, .int .i64 x4592), (11, .int .i64 (gt (gt t272 x886) x4592)), (12, .int .i64 s_.2)]) (fun s_ => row Fl.bool 4 A280 ((List.replicate (t264.length : Int).toNat (false : Bool)).length) c281 s_.1 :: Fr) (fun m_ => fun s_ => iterN (fun t_ : (List Bool) × Int => bailifflaw15_CyclesEither.l3b t264 t272 x886 x4592 t_.1 t_.2) m_ (s_.1, s_.2) = some o5844) m5847 ((st x4591 (gt (gt t272 x886) x4592) (decide (1 < ((gt t272 x886).length : Int)))), 0) hit5849 (fun x5840 => [(0, .slice w266 t264.length w268), (1, .slice A1 a1.length c1), (5, .bool t262), (6, .slice w275 t272.length w276), (7, .slice A280 ((List.replicate (t264.length : Int).toNat (false : Bool)).length) c281), (8, .int .i64 (-1)), (9, .int .i64 x886), (10, .int .i64 x4592)]) (fun x5840 => row Fl.bool 4 A280 ((List.replicate (t264.length : Int).toNat (false : Bool)).length) c281 x5840 :: Fr) (fun x5840 => G5841 (.inl x5840) = some o4797) (fun a w e hs => ⟨e.sub ⟨rfl, rfl, rfl, rfl, rfl, rfl, rfl, rfl, rfl, rfl, trivial⟩, hs⟩) ?_ (fun J5851 => ?_)
                          · rintro x5840 hrun
                            have hrun := (hl5842 _).symm.trans hrun
                            · refine At.ibx ?_
                              refine At.ibn ?_
                              refine At.thn ?_
                              refine At.region ?_
                              refine At.run 3 rfl ?_
                              refine At.nil ?_
                              refine At.thaw th4810 ?_
                              refine At.frt (.s .z) ?_
                              have hrun := bnx hf_ hrun
                              exact fun a w e hs => ⟨m4801, (x5840, IntKind.i64.wrap (x4592 + 1)), hlt4803, hrun, e.sub ⟨rfl, rfl, rfl, rfl, rfl, rfl, rfl, rfl, trivial⟩, hs⟩
                          · clear hit5849 m5847
                            rintro m5847 ⟨x5638, x5639⟩ hit5849
                            obtain ⟨m5848, f_, hlt5850, hf_, hrun⟩ := bit hit5849
                            clear hit5849
                            have hrun : (bailifflaw15_CyclesEither.l3b t264 t272 x886 x4592 x5638 x5639).bind _ = some o5844 := hrun
                            unfold bailifflaw15_CyclesEither.l3b at hrun
                            · refine At.seq ?_
                              refine At.seq ?_
                              refine At.region ?_
                              refine At.run 3 rfl ?_
                              obtain ⟨h5852, hrun⟩ := bnone hrun
                              refine At.y (Y.ixRd (RdS.mono hs4809 hr269) rfl rfl rfl rfl rfl rfl rfl h5852.1 h5852.2) rfl rfl rfl ?_
                              obtain ⟨A5853, c5854, hc5855, hr5856, hy5857⟩ := RdS.rowAt (P := Go.Proofs.Try.prog) hr269 hs4809 rfl h5852.1 h5852.2
                              refine At.y (hy5857 rfl rfl rfl rfl) rfl rfl rfl ?_
                              refine At.run 2 rfl ?_
                              refine At.nil ?_
                              refine At.thn ?_
                              rcases bite hrun with ⟨h5858, hrun⟩ | ⟨h5858, hrun⟩
                              · · refine At.condT rfl (decide_eq_true h5858) ?_
                                  refine At.skip ?_
                                  refine At.thn ?_
                                  refine At.seq ?_
                                  refine At.block ?_
                                  refine At.region ?_
                                  refine At.run 4 rfl ?_
                                  refine At.y (Y.ix .z rfl rfl rfl rfl rfl rfl h5035.1 h5035.2) rfl rfl rfl ?_
                                  refine At.y (Y.ld .z (q := 0) rfl rfl h5035.1 h5035.2 rfl rfl rfl) rfl rfl rfl ?_
                                  refine At.run 1 rfl ?_
                                  obtain ⟨G6060, hl6061, hr6062, hrun⟩ := bjoin hrun
                                  refine At.joinO 10 (X := Bool) (fun x6059 => [(0, .slice w266 t264.length w268), (1, .slice A1 a1.length c1), (5, .bool t262), (6, .slice w275 t272.length w276), (7, .slice A280 ((List.replicate (t264.length : Int).toNat (false : Bool)).length) c281), (8, .int .i64 (-1)), (9, .int .i64 x886), (10, .int .i64 x4592), (11, .int .i64 (gt (gt t272 x886) x4592)), (12, .int .i64 x5639), (74, .slice A280 ((List.replicate (t264.length : Int).toNat (false : Bool)).length) c281), (75, .int .i64 (gt (gt t272 x886) x4592)), (90, .bool x6059)]) (fun x6059 => row Fl.bool 4 A280 ((List.replicate (t264.length : Int).toNat (false : Bool)).length) c281 x5638 :: Fr) (fun x6059 => G6060 (.inl x6059) = some o5844) ?_ (fun J6063 => ?_)
                                  · rintro x6059 hrun
                                    have hrun := (hl6061 _).symm.trans hrun
                                    · refine At.y (Y.ix .z rfl rfl rfl rfl rfl rfl h5035.1 h5035.2) rfl rfl rfl ?_
                                      refine At.st rfl .z (q := 0) (z := x6059) rfl rfl rfl h5035.1 h5035.2 rfl rfl (.c .n) ?_
                                      refine At.nil ?_
                                      refine At.ibn ?_
                                      refine At.thn ?_
                                      refine At.region ?_
                                      refine At.run 3 rfl ?_
                                      refine At.nil ?_
                                      have hrun := bnx hf_ hrun
                                      exact fun a w e hs => ⟨m5848, ((st x5638 (gt (gt t272 x886) x4592) x6059), IntKind.i64.wrap (x5639 + 1)), hlt5850, hrun, e.sub ⟨rfl, rfl, rfl, rfl, rfl, rfl, rfl, rfl, rfl, rfl, trivial⟩, hs⟩
                                  · · rcases bite hrun with ⟨h6064, hrun⟩ | ⟨h6064, hrun⟩
                                      · · refine At.know (t := 80) rfl h6064 ?_
                                          refine At.run 10 rfl ?_
                                          exact At.of (J6063 true hrun) ⟨rfl, rfl, rfl, rfl, rfl, rfl, rfl, rfl, rfl, rfl, rfl, rfl, rfl, trivial⟩
                                      · · refine At.know (t := 80) rfl (bn h6064) ?_
                                          refine At.run 2 rfl ?_
                                          refine At.y (Y.ixRd (RdS.mono hs4809 hr269) rfl rfl rfl rfl rfl rfl rfl h5852.1 h5852.2) rfl rfl rfl ?_
                                          obtain ⟨A6065, c6066, hc6067, hr6068, hy6069⟩ := RdS.rowAt (P := Go.Proofs.Try.prog) hr269 hs4809 rfl h5852.1 h5852.2
                                          refine At.y (hy6069 rfl rfl rfl rfl) rfl rfl rfl ?_
                                          refine At.run 1 rfl ?_
                                          obtain ⟨h6070, hrun⟩ := bnone hrun
                                          refine At.y (Y.ixRd (RdS.mono hs4809 hr6068) rfl rfl rfl rfl rfl rfl rfl h6070.1 h6070.2) rfl rfl rfl ?_
                                          refine At.y (Y.ldFl (RdS.mono hs4809 hr6068) rfl (q := 0) rfl rfl h6070.1 h6070.2 rfl rfl rfl) rfl rfl rfl ?_
                                          refine At.run 3 rfl ?_
                                          exact At.of (J6063 (decide (gt (gt t264 (gt (gt t272 x886) x4592)) x5639 = gt (gt t272 x886) x4592)) hrun) ⟨rfl, rfl, rfl, rfl, rfl, rfl, rfl, rfl, rfl, rfl, rfl, rfl, rfl, trivial⟩
                              · · refine At.condF rfl (decide_eq_false h5858) ?_
                                  refine At.exit ?_
                                  refine At.the ?_
                                  refine At.the ?_
                                  exact fun a w e hs => J5851 x5638 (bdn hrun ho5846) a w (e.sub ⟨rfl, rfl, rfl, rfl, rfl, rfl, rfl, rfl, trivial⟩) hs
                  · · rcases bite hrun with ⟨h6071, hrun⟩ | ⟨h6071, hrun⟩
                      · · refine At.know (t := 50) rfl (decide_eq_true h6071) ?_
                          refine At.run 5 rfl ?_
                          exact At.of (J5028 true hrun) ⟨rfl, rfl, rfl, rfl, rfl, rfl, rfl, rfl, rfl, rfl, trivial⟩
                      · · refine At.know (t := 50) rfl (decide_eq_false h6071) ?_
                          refine At.run 5 rfl ?_
                          exact At.of (J5028 (decide ((t264.length : Int) ≤ gt (gt t272 x886) x4592)) hrun) ⟨rfl, rfl, rfl, rfl, rfl, rfl, rfl, rfl, rfl, rfl, trivial⟩
              · · refine At.condF rfl (decide_eq_false h4817) ?_
                  refine At.exit ?_
                  refine At.the ?_
                  refine At.the ?_
                  refine At.thaw th4810 ?_
                  exact fun a w e hs => J4804 x4591 (bdn hrun ho4799) a w (e.sub ⟨rfl, rfl, rfl, rfl, rfl, rfl, rfl, trivial⟩) hs
      · · refine At.condF rfl (decide_eq_false h3988) ?_
          refine At.exit ?_
          refine At.the ?_
          refine At.the ?_
          exact fun a w e hs => J1098 x885 (bdn hrun ho1093) a w (e.sub ⟨rfl, rfl, rfl, rfl, rfl, trivial⟩) hs

end Go.Bw
