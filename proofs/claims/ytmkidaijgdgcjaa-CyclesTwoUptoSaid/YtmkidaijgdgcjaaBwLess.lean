/- Walks: what the functions of the program compute, told by plain functions, and that the calls come to them. Conditions: none. -/
import Derived.Test.YtmkidaijgdgcjaaBwTyx
import Derived.Test.YtmkidaijgdgcjaaProg
import Derived.Test.YtmkidaijgdgcjaaBwLay
import Derived.Test.YtmkidaijgdgcjaaBwSortI
import Derived.Test.YtmkidaijgdgcjaaBwSortF
import Derived.Deep.QuietTactic
import Derived.Test.YtmkidaijgdgcjaaBwCycA
import Derived.Test.YtmkidaijgdgcjaaBwCyc
import Derived.Test.YtmkidaijgdgcjaaBwSame
import Derived.Test.YtmkidaijgdgcjaaBwEith
set_option linter.unusedVariables false
set_option linter.unusedSimpArgs false
set_option linter.unusedSectionVars false
namespace Go.Bw
open Go Go.RowKit Go.Proofs
noncomputable def bailifflaw15_CyclesLess.f (a0 : List (List Int)) (a1 : List Int) (a2 : Int) (a3 : Int) : Option Bool :=
  (bailifflaw15_shown.f ).bind fun t257 =>
    (bailifflaw15_cut.f a0).bind fun t259 =>
      (cycles_Bad.f t259 a1 a2).bind fun t267 =>
        if (([] : List (List Int)).length + t259.length) * 24 ≤ 140737488355328 then
          jn (
            if 0 ≤ a3 then
              some (.inl (decide (a3 < ((([] : List (List Int)) ++ t259).length : Int))))
            else
              some (.inl false)) (fun (x475 : Bool) =>
            if x475 = true then
              if (0 : Int) ≤ a3 ∧ a3 < ((([] : List (List Int)) ++ t259).length : Int) then
                (cycles_Bad.f (st (([] : List (List Int)) ++ t259) a3 ([] : List Int)) a1 a2).bind fun t489 =>
                  if t267 < 0 then
                    jn (
                      if t257 = true then
                        some (.inl (decide (t489 < 0)))
                      else
                        some (.inl false)) (fun (x692 : Bool) =>
                      some x692)
                  else
                    jn (
                      if t257 = true then
                        jn (
                          if t489 < 0 then
                            some (.inl true)
                          else
                            some (.inl (decide (t267 ≤ t489)))) (fun (x1104 : Bool) =>
                          some (.inl x1104))
                      else
                        some (.inl false)) (fun (x898 : Bool) =>
                      some x898)
              else none
            else
              (cycles_Bad.f (([] : List (List Int)) ++ t259) a1 a2).bind fun t1116 =>
                if t267 < 0 then
                  jn (
                    if t257 = true then
                      some (.inl (decide (t1116 < 0)))
                    else
                      some (.inl false)) (fun (x1319 : Bool) =>
                    some x1319)
                else
                  jn (
                    if t257 = true then
                      jn (
                        if t1116 < 0 then
                          some (.inl true)
                        else
                          some (.inl (decide (t267 ≤ t1116)))) (fun (x1731 : Bool) =>
                        some (.inl x1731))
                    else
                      some (.inl false)) (fun (x1525 : Bool) =>
                    some x1525))
        else none
theorem bailifflaw15_CyclesLess.callee : Callee Go.Proofs.Try.prog 7 := ⟨_, Go.Proofs.Try.func7, by kernel_rfl, by kernel_rfl⟩
set_option maxRecDepth 100000 in
set_option maxHeartbeats 2000000 in
theorem bailifflaw15_CyclesLess.spec (R : Res) (Fr : List HProp) (A0 : Option Addr) (n0 : Nat) (c0 : Nat) (A1 : Option Addr) (n1 : Nat) (c1 : Nat) (a0 : List (List Int)) (a1 : List Int) (a2 : Int) (a3 : Int) (hr0 : RdS ((Fl.int .i64).rep).slice R.heap A0 a0) (hn0 : a0.length = n0) (hc0 : n0 ≤ c0) (hr1 : RdS (Fl.int .i64).rep R.heap A1 a1) (hn1 : a1.length = n1) (hc1 : n1 ≤ c1) {r : Bool} (hrun : bailifflaw15_CyclesLess.f a0 a1 a2 a3 = some r) :
    Spec Go.Proofs.Try.prog 7 [.slice A0 n0 c0, .slice A1 n1 c1, .int .i64 a2, .int .i64 a3] R (Fr) (fun v l' => v = .bool r ∧ Fr = l') := by
  subst hn0
  subst hn1
  refine Spec.of Go.Proofs.Try.func7 rfl rfl ?_
  unfold bailifflaw15_CyclesLess.f at hrun
  have hrun := brun hrun
  refine At.seq ?_
  refine At.region ?_
  refine At.run 1 rfl ?_
  refine At.nil ?_
  refine At.thn ?_
  refine At.seq ?_
  refine At.region ?_
  obtain ⟨t257, hc258, hrun⟩ := bbind hrun
  refine At.call rfl bailifflaw15_shown.callee rfl rfl rfl (bailifflaw15_shown.spec _ _    hc258) ?_
  rintro _ _ ⟨rfl, rfl⟩
  refine At.run 1 rfl ?_
  refine At.nil ?_
  refine At.thn ?_
  refine At.seq ?_
  refine At.region ?_
  refine At.run 1 rfl ?_
  obtain ⟨t259, hc260, hrun⟩ := bbind hrun
  refine At.call rfl bailifflaw15_cut.callee rfl rfl rfl (bailifflaw15_cut.spec _ _ A0 a0.length c0 a0 hr0 rfl hc0 hc260) ?_
  rintro _ _ ⟨w261, w262, w263, rfl, rfl, hr264, rfl, hc266⟩
  refine At.run 1 rfl ?_
  refine At.nil ?_
  refine At.thn ?_
  refine At.seq ?_
  refine At.region ?_
  refine At.run 3 rfl ?_
  obtain ⟨t267, hc268, hrun⟩ := bbind hrun
  refine At.call rfl cycles_Bad.callee rfl rfl rfl (cycles_Bad.spec _ _ w261 t259.length w263 A1 a1.length c1 t259 a1 a2 hr264 rfl hc266 hr1 rfl hc1 hc268) ?_
  rintro _ _ ⟨rfl, rfl⟩
  refine At.run 1 rfl ?_
  refine At.nil ?_
  refine At.thn ?_
  refine At.seq ?_
  refine At.region ?_
  refine At.litV rfl (xo := []) (vs := []) rfl rfl rfl rfl rfl rfl rfl rfl rfl rfl rfl (fun A269 c270 => ?_)
  refine At.run 1 rfl ?_
  refine At.packRows [] ([] : List (List Int)) (Fl.int .i64) 3 rfl ?_
  refine At.toMrows R.heap .z ?_
  obtain ⟨h272, hrun⟩ := bnone hrun
  refine At.appendRows rfl .z (Sub.refl _) hr264 rfl rfl rfl rfl rfl rfl rfl rfl rfl h272 (by decide) rfl (fun A273 c274 => ?_)
  refine At.run 1 rfl ?_
  refine At.nil ?_
  refine At.thn ?_
  refine At.seq ?_
  refine At.seq ?_
  refine At.region ?_
  refine At.run 3 rfl ?_
  obtain ⟨G476, hl477, hr478, hrun⟩ := bjoin hrun
  refine At.joinO 5 (X := Bool) (fun x475 => [(1, .slice A1 a1.length c1), (2, .int .i64 a2), (3, .int .i64 a3), (9, .bool t257), (10, .int .i64 t267), (11, .slice A273 ((([] : List (List Int)) ++ t259).length) c274), (30, .bool x475)]) (fun x475 => mrows (Fl.int .i64) 3 26 R.heap A273 ((([] : List (List Int)) ++ t259).length) c274 (([] : List (List Int)) ++ t259) :: Fr) (fun x475 => G476 (.inl x475) = some r) ?_ (fun J479 => ?_)
  · rintro x475 hrun
    have hrun := (hl477 _).symm.trans hrun
    · refine At.nil ?_
      refine At.thn ?_
      rcases bite hrun with ⟨h480, hrun⟩ | ⟨h480, hrun⟩
      · · refine At.condT rfl h480 ?_
          refine At.region ?_
          refine At.run 2 rfl ?_
          obtain ⟨h481, hrun⟩ := bnone hrun
          refine At.y (Y.ixM .z rfl rfl rfl rfl rfl rfl h481.1 h481.2) rfl rfl rfl ?_
          refine At.nilRow (Fl.int .i64) 3 ?_
          refine At.toMix R.heap .z ?_
          refine At.stMix rfl (.s .z) .z rfl rfl rfl rfl h481.1 h481.2 ?_
          refine At.nil ?_
          refine At.thn ?_
          refine At.seq ?_
          refine At.region ?_
          refine At.run 3 rfl ?_
          refine At.freezeMrows (Sub.refl _) .z fun R483 hr484 hn485 hc486 hs487 th488 => ?_
          obtain ⟨t489, hc490, hrun⟩ := bbind hrun
          refine At.call rfl cycles_Bad.callee rfl rfl rfl (cycles_Bad.spec _ _ A273 ((([] : List (List Int)) ++ t259).length) c274 A1 a1.length c1 (st (([] : List (List Int)) ++ t259) a3 ([] : List Int)) a1 a2 hr484 hn485 hc486 (RdS.mono hs487 hr1) rfl hc1 hc490) ?_
          rintro _ _ ⟨rfl, rfl⟩
          refine At.run 1 rfl ?_
          refine At.nil ?_
          refine At.thn ?_
          refine At.seq ?_
          refine At.seq ?_
          refine At.region ?_
          refine At.run 2 rfl ?_
          refine At.nil ?_
          refine At.thn ?_
          rcases bite hrun with ⟨h491, hrun⟩ | ⟨h491, hrun⟩
          · · refine At.condT rfl (decide_eq_true h491) ?_
              refine At.seq ?_
              refine At.region ?_
              refine At.run 2 rfl ?_
              obtain ⟨G693, hl694, hr695, hrun⟩ := bjoin hrun
              refine At.joinO 3 (X := Bool) (fun x692 => [(44, .bool x692)]) (fun x692 => Fr) (fun x692 => G693 (.inl x692) = some r) ?_ (fun J696 => ?_)
              · rintro x692 hrun
                have hrun := (hl694 _).symm.trans hrun
                · refine At.run 1 rfl ?_
                  refine At.nil ?_
                  refine At.thn ?_
                  refine At.ret ?_
                  refine At.thr ?_
                  refine At.thaw th488 ?_
                  refine At.drop .z ?_
                  obtain rfl := (bret hrun).symm
                  exact At.res (.inl rfl) rfl rfl ⟨rfl, rfl⟩
              · · rcases bite hrun with ⟨h697, hrun⟩ | ⟨h697, hrun⟩
                  · · refine At.know (t := 41) rfl h697 ?_
                      refine At.run 3 rfl ?_
                      exact At.of (J696 (decide (t489 < 0)) hrun) ⟨rfl, trivial⟩
                  · · refine At.know (t := 41) rfl (bn h697) ?_
                      refine At.run 3 rfl ?_
                      exact At.of (J696 false hrun) ⟨rfl, trivial⟩
          · · refine At.condF rfl (decide_eq_false h491) ?_
              refine At.skip ?_
              refine At.thn ?_
              refine At.seq ?_
              refine At.region ?_
              refine At.run 2 rfl ?_
              obtain ⟨G899, hl900, hr901, hrun⟩ := bjoin hrun
              refine At.joinO 8 (X := Bool) (fun x898 => [(54, .bool x898)]) (fun x898 => Fr) (fun x898 => G899 (.inl x898) = some r) ?_ (fun J902 => ?_)
              · rintro x898 hrun
                have hrun := (hl900 _).symm.trans hrun
                · refine At.run 1 rfl ?_
                  refine At.nil ?_
                  refine At.thn ?_
                  refine At.ret ?_
                  refine At.thaw th488 ?_
                  refine At.drop .z ?_
                  obtain rfl := (bret hrun).symm
                  exact At.res (.inl rfl) rfl rfl ⟨rfl, rfl⟩
              · · rcases bite hrun with ⟨h903, hrun⟩ | ⟨h903, hrun⟩
                  · · refine At.know (t := 46) rfl h903 ?_
                      refine At.run 3 rfl ?_
                      obtain ⟨G1105, hl1106, hr1107, hrun⟩ := bjoin hrun
                      refine At.joinO 4 (X := Bool) (fun x1104 => [(46, .bool true), (53, .bool x1104)]) (fun x1104 => Fr) (fun x1104 => G1105 (.inl x1104) = some r) ?_ (fun J1108 => ?_)
                      · rintro x1104 hrun
                        have hrun := (hl1106 _).symm.trans hrun
                        · refine At.run 1 rfl ?_
                          exact At.of (J902 x1104 hrun) ⟨rfl, trivial⟩
                      · · rcases bite hrun with ⟨h1109, hrun⟩ | ⟨h1109, hrun⟩
                          · · refine At.know (t := 49) rfl (decide_eq_true h1109) ?_
                              refine At.run 4 rfl ?_
                              exact At.of (J1108 true hrun) ⟨rfl, rfl, trivial⟩
                          · · refine At.know (t := 49) rfl (decide_eq_false h1109) ?_
                              refine At.run 4 rfl ?_
                              exact At.of (J1108 (decide (t267 ≤ t489)) hrun) ⟨rfl, rfl, trivial⟩
                  · · refine At.know (t := 46) rfl (bn h903) ?_
                      refine At.run 8 rfl ?_
                      exact At.of (J902 false hrun) ⟨rfl, trivial⟩
      · · refine At.condF rfl (bn h480) ?_
          refine At.skip ?_
          refine At.thn ?_
          refine At.seq ?_
          refine At.region ?_
          refine At.run 3 rfl ?_
          refine At.freezeMrows (Sub.refl _) .z fun R1110 hr1111 hn1112 hc1113 hs1114 th1115 => ?_
          obtain ⟨t1116, hc1117, hrun⟩ := bbind hrun
          refine At.call rfl cycles_Bad.callee rfl rfl rfl (cycles_Bad.spec _ _ A273 ((([] : List (List Int)) ++ t259).length) c274 A1 a1.length c1 (([] : List (List Int)) ++ t259) a1 a2 hr1111 hn1112 hc1113 (RdS.mono hs1114 hr1) rfl hc1 hc1117) ?_
          rintro _ _ ⟨rfl, rfl⟩
          refine At.run 1 rfl ?_
          refine At.nil ?_
          refine At.thn ?_
          refine At.seq ?_
          refine At.seq ?_
          refine At.region ?_
          refine At.run 2 rfl ?_
          refine At.nil ?_
          refine At.thn ?_
          rcases bite hrun with ⟨h1118, hrun⟩ | ⟨h1118, hrun⟩
          · · refine At.condT rfl (decide_eq_true h1118) ?_
              refine At.seq ?_
              refine At.region ?_
              refine At.run 2 rfl ?_
              obtain ⟨G1320, hl1321, hr1322, hrun⟩ := bjoin hrun
              refine At.joinO 3 (X := Bool) (fun x1319 => [(44, .bool x1319)]) (fun x1319 => Fr) (fun x1319 => G1320 (.inl x1319) = some r) ?_ (fun J1323 => ?_)
              · rintro x1319 hrun
                have hrun := (hl1321 _).symm.trans hrun
                · refine At.run 1 rfl ?_
                  refine At.nil ?_
                  refine At.thn ?_
                  refine At.ret ?_
                  refine At.thr ?_
                  refine At.thaw th1115 ?_
                  refine At.drop .z ?_
                  obtain rfl := (bret hrun).symm
                  exact At.res (.inl rfl) rfl rfl ⟨rfl, rfl⟩
              · · rcases bite hrun with ⟨h1324, hrun⟩ | ⟨h1324, hrun⟩
                  · · refine At.know (t := 41) rfl h1324 ?_
                      refine At.run 3 rfl ?_
                      exact At.of (J1323 (decide (t1116 < 0)) hrun) ⟨rfl, trivial⟩
                  · · refine At.know (t := 41) rfl (bn h1324) ?_
                      refine At.run 3 rfl ?_
                      exact At.of (J1323 false hrun) ⟨rfl, trivial⟩
          · · refine At.condF rfl (decide_eq_false h1118) ?_
              refine At.skip ?_
              refine At.thn ?_
              refine At.seq ?_
              refine At.region ?_
              refine At.run 2 rfl ?_
              obtain ⟨G1526, hl1527, hr1528, hrun⟩ := bjoin hrun
              refine At.joinO 8 (X := Bool) (fun x1525 => [(54, .bool x1525)]) (fun x1525 => Fr) (fun x1525 => G1526 (.inl x1525) = some r) ?_ (fun J1529 => ?_)
              · rintro x1525 hrun
                have hrun := (hl1527 _).symm.trans hrun
                · refine At.run 1 rfl ?_
                  refine At.nil ?_
                  refine At.thn ?_
                  refine At.ret ?_
                  refine At.thaw th1115 ?_
                  refine At.drop .z ?_
                  obtain rfl := (bret hrun).symm
                  exact At.res (.inl rfl) rfl rfl ⟨rfl, rfl⟩
              · · rcases bite hrun with ⟨h1530, hrun⟩ | ⟨h1530, hrun⟩
                  · · refine At.know (t := 46) rfl h1530 ?_
                      refine At.run 3 rfl ?_
                      obtain ⟨G1732, hl1733, hr1734, hrun⟩ := bjoin hrun
                      refine At.joinO 4 (X := Bool) (fun x1731 => [(46, .bool true), (53, .bool x1731)]) (fun x1731 => Fr) (fun x1731 => G1732 (.inl x1731) = some r) ?_ (fun J1735 => ?_)
                      · rintro x1731 hrun
                        have hrun := (hl1733 _).symm.trans hrun
                        · refine At.run 1 rfl ?_
                          exact At.of (J1529 x1731 hrun) ⟨rfl, trivial⟩
                      · · rcases bite hrun with ⟨h1736, hrun⟩ | ⟨h1736, hrun⟩
                          · · refine At.know (t := 49) rfl (decide_eq_true h1736) ?_
                              refine At.run 4 rfl ?_
                              exact At.of (J1735 true hrun) ⟨rfl, rfl, trivial⟩
                          · · refine At.know (t := 49) rfl (decide_eq_false h1736) ?_
                              refine At.run 4 rfl ?_
                              exact At.of (J1735 (decide (t267 ≤ t1116)) hrun) ⟨rfl, rfl, trivial⟩
                  · · refine At.know (t := 46) rfl (bn h1530) ?_
                      refine At.run 8 rfl ?_
                      exact At.of (J1529 false hrun) ⟨rfl, trivial⟩
  · · rcases bite hrun with ⟨h1737, hrun⟩ | ⟨h1737, hrun⟩
      · · refine At.know (t := 25) rfl (decide_eq_true h1737) ?_
          refine At.run 5 rfl ?_
          exact At.of (J479 (decide (a3 < ((([] : List (List Int)) ++ t259).length : Int))) hrun) ⟨rfl, rfl, rfl, rfl, rfl, rfl, rfl, trivial⟩
      · · refine At.know (t := 25) rfl (decide_eq_false h1737) ?_
          refine At.run 5 rfl ?_
          exact At.of (J479 false hrun) ⟨rfl, rfl, rfl, rfl, rfl, rfl, rfl, trivial⟩

end Go.Bw
