/- Walks: what the functions of the program compute, told by plain functions, and that the calls come to them. Conditions: none. -/
import Derived.Test.YtmkidaijgdgcjaaBwTyx
import Derived.Test.YtmkidaijgdgcjaaProg
import Derived.Test.YtmkidaijgdgcjaaBwLay
import Derived.Test.YtmkidaijgdgcjaaBwSortI
import Derived.Test.YtmkidaijgdgcjaaBwSortF
import Derived.Deep.QuietTactic
import Derived.Test.YtmkidaijgdgcjaaBwCycA
import Derived.Test.YtmkidaijgdgcjaaBwCyc
import Derived.Test.YtmkidaijgdgcjaaBwAgg
set_option linter.unusedVariables false
set_option linter.unusedSimpArgs false
set_option linter.unusedSectionVars false
namespace Go.Bw
open Go Go.RowKit Go.Proofs
noncomputable def game_Right.l1b (a0_2 : List (List Int)) (x1268 : Int) (x2503 : Int) : Option ((Int) ⊕ ((Unit) ⊕ ((Int) ⊕ ((Unit) ⊕ (Int × Int))))) :=
  if x2503 < ((gt a0_2 x1268).length : Int) then
    if (0 : Int) ≤ x2503 ∧ x2503 < ((gt a0_2 x1268).length : Int) then
      jn (
        if gt (gt a0_2 x1268) x2503 < 0 then
          some (.inl true)
        else
          some (.inl (decide ((a0_2.length : Int) ≤ gt (gt a0_2 x1268) x2503)))) (fun (x2917 : Bool) =>
        jn (
          if x2917 = true then
            some (.inl true)
          else
            jn (
              if 0 < x2503 then
                if (0 : Int) ≤ IntKind.i64.wrap (x2503 - 1) ∧ IntKind.i64.wrap (x2503 - 1) < ((gt a0_2 x1268).length : Int) then
                  some (.inl (true, decide (gt (gt a0_2 x1268) x2503 ≤ gt (gt a0_2 x1268) (IntKind.i64.wrap (x2503 - 1)))))
                else none
              else
                some (.inl (false, false))) (fun (s_ : Bool × Bool) =>
              some (.inl s_.2))) (fun (x3122 : Bool) =>
          if x3122 = true then
            upL (upL (some (16, x1268)))
          else
            nx (IntKind.i64.wrap (x2503 + 1))))
    else none
  else
    dn (.inl ())
noncomputable def game_Right.l1 (a0_2 : List (List Int)) (x1268 : Int) (x2503 : Int) : Option ((Unit) ⊕ ((Int) ⊕ ((Unit) ⊕ (Int × Int)))) := iter (fun t_ : Int => game_Right.l1b a0_2 x1268 t_) x2503
noncomputable def game_Right.l0b (a0_0 : List Int) (a0_1 : List Int) (a0_2 : List (List Int)) (x1268 : Int) : Option ((Int) ⊕ ((Unit) ⊕ (Int × Int))) :=
  if x1268 < (a0_2.length : Int) then
    if (0 : Int) ≤ x1268 ∧ x1268 < (a0_2.length : Int) then
      if (0 : Int) ≤ x1268 ∧ x1268 < (a0_0.length : Int) then
        jn (
          if gt a0_0 x1268 < 0 then
            some (.inl true)
          else
            some (.inl (decide (1 < gt a0_0 x1268)))) (fun (x1688 : Bool) =>
          if x1688 = true then
            upL (some (14, x1268))
          else
            if (0 : Int) ≤ x1268 ∧ x1268 < (a0_1.length : Int) then
              jn (
                if gt a0_1 x1268 < 0 then
                  some (.inl true)
                else
                  some (.inl (decide (7 < gt a0_1 x1268)))) (fun (x1895 : Bool) =>
                if x1895 = true then
                  upL (some (15, x1268))
                else
                  if ((gt a0_2 x1268).length : Int) = 0 then
                    upL (some (17, x1268))
                  else
                    jn (game_Right.l1 a0_2 x1268 0) (fun (_ : Unit) =>
                      nx (IntKind.i64.wrap (x1268 + 1))))
            else none)
      else none
    else none
  else
    dn (.inl ())
noncomputable def game_Right.l0 (a0_0 : List Int) (a0_1 : List Int) (a0_2 : List (List Int)) (x1268 : Int) : Option ((Unit) ⊕ (Int × Int)) := iter (fun t_ : Int => game_Right.l0b a0_0 a0_1 a0_2 t_) x1268
noncomputable def game_Right.f (a0_0 : List Int) (a0_1 : List Int) (a0_2 : List (List Int)) : Option (Int × Int) :=
  jn (
    if (a0_0.length : Int) = (a0_2.length : Int) then
      some (.inl (!(decide ((a0_1.length : Int) = (a0_2.length : Int)))))
    else
      some (.inl true)) (fun (x455 : Bool) =>
    if x455 = true then
      some (1, 0)
    else
      jn (
        if (a0_2.length : Int) < 1 then
          some (.inl true)
        else
          some (.inl (decide (200 < (a0_2.length : Int))))) (fun (x661 : Bool) =>
        if x661 = true then
          some (10, 0)
        else
          jn (game_Right.l0 a0_0 a0_1 a0_2 0) (fun (_ : Unit) =>
            some (0, 0))))
theorem game_Right.callee : Callee Go.Proofs.Try.prog 48 := ⟨_, Go.Proofs.Try.func48, by kernel_rfl, by kernel_rfl⟩
set_option maxRecDepth 100000 in
set_option maxHeartbeats 2000000 in
theorem game_Right.spec (R : Res) (Fr : List HProp) (A0_0 : Option Addr) (n0_0 : Nat) (c0_0 : Nat) (A0_1 : Option Addr) (n0_1 : Nat) (c0_1 : Nat) (A0_2 : Option Addr) (n0_2 : Nat) (c0_2 : Nat) (a0_0 : List Int) (a0_1 : List Int) (a0_2 : List (List Int)) (hr0_0 : RdS (Fl.int .i64).rep R.heap A0_0 a0_0) (hn0_0 : a0_0.length = n0_0) (hc0_0 : n0_0 ≤ c0_0) (hr0_1 : RdS (Fl.int .i64).rep R.heap A0_1 a0_1) (hn0_1 : a0_1.length = n0_1) (hc0_1 : n0_1 ≤ c0_1) (hr0_2 : RdS ((Fl.int .i64).rep).slice R.heap A0_2 a0_2) (hn0_2 : a0_2.length = n0_2) (hc0_2 : n0_2 ≤ c0_2) {r : Int × Int} (hrun : game_Right.f a0_0 a0_1 a0_2 = some r) :
    Spec Go.Proofs.Try.prog 48 [.agg #[.slice A0_0 n0_0 c0_0, .slice A0_1 n0_1 c0_1, .slice A0_2 n0_2 c0_2]] R (Fr) (fun v l' => v = .tuple #[.int .i64 r.2, .int .i64 r.1] ∧ Fr = l') := by
  subst hn0_0
  subst hn0_1
  subst hn0_2
  refine Spec.of Go.Proofs.Try.func48 rfl rfl ?_
  unfold game_Right.f at hrun
  have hrun := brun hrun
  refine At.seq ?_
  refine At.region ?_
  refine At.box rfl rfl (cs := [.slice A0_0 a0_0.length c0_0, .slice A0_1 a0_1.length c0_1, .slice A0_2 a0_2.length c0_2]) rfl rfl (fun b254 => ?_)
  refine At.run 2 rfl ?_
  refine At.nil ?_
  refine At.thn ?_
  refine At.seq ?_
  refine At.region ?_
  refine At.run 1 rfl ?_
  refine At.y (Y.load rfl rfl .z rfl rfl rfl) rfl rfl rfl ?_
  refine At.run 2 rfl ?_
  refine At.nil ?_
  refine At.thn ?_
  refine At.seq ?_
  refine At.block ?_
  refine At.seq ?_
  refine At.region ?_
  refine At.run 1 rfl ?_
  refine At.y (Y.load rfl rfl .z rfl rfl rfl) rfl rfl rfl ?_
  refine At.run 4 rfl ?_
  obtain ⟨G456, hl457, hr458, hrun⟩ := bjoin hrun
  refine At.joinO 6 (X := Bool) (fun x455 => [(1, .pointer (some ⟨b254, 0, none⟩)), (4, .int .i64 (a0_2.length : Int)), (24, .bool x455)]) (fun x455 => pt b254 (.cells [.slice A0_0 a0_0.length c0_0, .slice A0_1 a0_1.length c0_1, .slice A0_2 a0_2.length c0_2].toArray 36) :: Fr) (fun x455 => G456 (.inl x455) = some r) ?_ (fun J459 => ?_)
  · rintro x455 hrun
    have hrun := (hl457 _).symm.trans hrun
    · refine At.run 1 rfl ?_
      refine At.nil ?_
      refine At.thn ?_
      rcases bite hrun with ⟨h460, hrun⟩ | ⟨h460, hrun⟩
      · · refine At.condT rfl h460 ?_
          refine At.seq ?_
          refine At.region ?_
          refine At.run 2 rfl ?_
          refine At.nil ?_
          refine At.thn ?_
          refine At.ret ?_
          refine At.ibr ?_
          refine At.thr ?_
          refine At.drop .z ?_
          obtain rfl := (bret hrun).symm
          exact At.res (.inl rfl) rfl rfl ⟨rfl, rfl⟩
      · · refine At.condF rfl (bn h460) ?_
          refine At.seq ?_
          refine At.region ?_
          refine At.run 3 rfl ?_
          obtain ⟨G662, hl663, hr664, hrun⟩ := bjoin hrun
          refine At.joinO 3 (X := Bool) (fun x661 => [(1, .pointer (some ⟨b254, 0, none⟩)), (4, .int .i64 (a0_2.length : Int)), (31, .bool x661)]) (fun x661 => pt b254 (.cells [.slice A0_0 a0_0.length c0_0, .slice A0_1 a0_1.length c0_1, .slice A0_2 a0_2.length c0_2].toArray 36) :: Fr) (fun x661 => G662 (.inl x661) = some r) ?_ (fun J665 => ?_)
          · rintro x661 hrun
            have hrun := (hl663 _).symm.trans hrun
            · refine At.run 1 rfl ?_
              refine At.nil ?_
              refine At.thn ?_
              rcases bite hrun with ⟨h666, hrun⟩ | ⟨h666, hrun⟩
              · · refine At.condT rfl h666 ?_
                  refine At.seq ?_
                  refine At.region ?_
                  refine At.run 2 rfl ?_
                  refine At.nil ?_
                  refine At.thn ?_
                  refine At.ret ?_
                  refine At.ibr ?_
                  refine At.thr ?_
                  refine At.drop .z ?_
                  obtain rfl := (bret hrun).symm
                  exact At.res (.inl rfl) rfl rfl ⟨rfl, rfl⟩
              · · refine At.condF rfl (bn h666) ?_
                  refine At.skip ?_
                  refine At.ibn ?_
                  refine At.thn ?_
                  refine At.seq ?_
                  refine At.seq ?_
                  refine At.region ?_
                  refine At.run 1 rfl ?_
                  refine At.y (Y.load rfl rfl .z rfl rfl rfl) rfl rfl rfl ?_
                  refine At.run 2 rfl ?_
                  refine At.nil ?_
                  refine At.thn ?_
                  refine At.block ?_
                  obtain ⟨G1469, hl1470, hr1471, hrun⟩ := bjoin hrun
                  obtain ⟨o1472, hlo1473, ho1474⟩ := bsome hrun
                  clear hrun
                  unfold game_Right.l0 at hlo1473
                  obtain ⟨m1475, hit1477⟩ := iter_some.1 hlo1473
                  clear hlo1473
                  refine At.loopJ (X := Int) (Y := Unit) (e0 := 1) (fun x1268 => [(1, .pointer (some ⟨b254, 0, none⟩)), (4, .int .i64 (a0_2.length : Int)), (33, .slice A0_2 a0_2.length c0_2), (34, .int .i64 (a0_2.length : Int)), (35, .int .i64 x1268)]) (fun x1268 => pt b254 (.cells [.slice A0_0 a0_0.length c0_0, .slice A0_1 a0_1.length c0_1, .slice A0_2 a0_2.length c0_2].toArray 36) :: Fr) (fun m_ => fun x1268 => iterN (fun t_ : Int => game_Right.l0b a0_0 a0_1 a0_2 t_) m_ x1268 = some o1472) m1475 0 hit1477 (fun _ => []) (fun _ => pt b254 (.cells [.slice A0_0 a0_0.length c0_0, .slice A0_1 a0_1.length c0_1, .slice A0_2 a0_2.length c0_2].toArray 36) :: Fr) (fun _ => G1469 (.inl ()) = some r) (fun a w e hs => ⟨e.sub ⟨rfl, rfl, rfl, rfl, rfl, trivial⟩, hs⟩) ?_ (fun J1479 => ?_)
                  · rintro _ hrun
                    have hrun := (hl1470 _).symm.trans hrun
                    · refine At.ibx ?_
                      refine At.thn ?_
                      refine At.seq ?_
                      refine At.region ?_
                      refine At.run 2 rfl ?_
                      refine At.nil ?_
                      refine At.thn ?_
                      refine At.ret ?_
                      refine At.drop .z ?_
                      obtain rfl := (bret hrun).symm
                      exact At.res (.inl rfl) rfl rfl ⟨rfl, rfl⟩
                  · clear hit1477 m1475
                    rintro m1475 x1268 hit1477
                    obtain ⟨m1476, f_, hlt1478, hf_, hrun⟩ := bit hit1477
                    clear hit1477
                    have hrun : (game_Right.l0b a0_0 a0_1 a0_2 x1268).bind _ = some o1472 := hrun
                    unfold game_Right.l0b at hrun
                    · refine At.seq ?_
                      refine At.region ?_
                      refine At.run 1 rfl ?_
                      refine At.nil ?_
                      refine At.thn ?_
                      refine At.seq ?_
                      rcases bite hrun with ⟨h1480, hrun⟩ | ⟨h1480, hrun⟩
                      · · refine At.condT rfl (decide_eq_true h1480) ?_
                          refine At.skip ?_
                          refine At.thn ?_
                          refine At.seq ?_
                          refine At.block ?_
                          refine At.seq ?_
                          refine At.region ?_
                          refine At.run 1 rfl ?_
                          obtain ⟨h1481, hrun⟩ := bnone hrun
                          refine At.y (Y.ixRd hr0_2 rfl rfl rfl rfl rfl rfl rfl h1481.1 h1481.2) rfl rfl rfl ?_
                          obtain ⟨A1482, c1483, hc1484, hr1485, hy1486⟩ := RdS.rowAt (P := Go.Proofs.Try.prog) hr0_2 (Sub.refl _) rfl h1481.1 h1481.2
                          refine At.y (hy1486 rfl rfl rfl rfl) rfl rfl rfl ?_
                          refine At.run 2 rfl ?_
                          refine At.nil ?_
                          refine At.thn ?_
                          refine At.seq ?_
                          refine At.block ?_
                          refine At.seq ?_
                          refine At.region ?_
                          refine At.run 1 rfl ?_
                          refine At.y (Y.load rfl rfl .z rfl rfl rfl) rfl rfl rfl ?_
                          refine At.run 1 rfl ?_
                          obtain ⟨h1487, hrun⟩ := bnone hrun
                          refine At.y (Y.ixRd hr0_0 rfl rfl rfl rfl rfl rfl rfl h1487.1 h1487.2) rfl rfl rfl ?_
                          refine At.y (Y.ldFl hr0_0 rfl (q := 0) rfl rfl h1487.1 h1487.2 rfl rfl rfl) rfl rfl rfl ?_
                          refine At.run 2 rfl ?_
                          obtain ⟨G1689, hl1690, hr1691, hrun⟩ := bjoin hrun
                          refine At.joinO 7 (X := Bool) (fun x1688 => [(1, .pointer (some ⟨b254, 0, none⟩)), (4, .int .i64 (a0_2.length : Int)), (5, .int .i64 x1268), (6, .slice A1482 ((gt a0_2 x1268).length) c1483), (33, .slice A0_2 a0_2.length c0_2), (34, .int .i64 (a0_2.length : Int)), (35, .int .i64 x1268), (54, .bool x1688)]) (fun x1688 => pt b254 (.cells [.slice A0_0 a0_0.length c0_0, .slice A0_1 a0_1.length c0_1, .slice A0_2 a0_2.length c0_2].toArray 36) :: Fr) (fun x1688 => G1689 (.inl x1688) = some o1472) ?_ (fun J1692 => ?_)
                          · rintro x1688 hrun
                            have hrun := (hl1690 _).symm.trans hrun
                            · refine At.run 1 rfl ?_
                              refine At.nil ?_
                              refine At.thn ?_
                              rcases bite hrun with ⟨h1693, hrun⟩ | ⟨h1693, hrun⟩
                              · · refine At.condT rfl h1693 ?_
                                  refine At.seq ?_
                                  refine At.region ?_
                                  refine At.run 3 rfl ?_
                                  refine At.nil ?_
                                  refine At.thn ?_
                                  refine At.ret ?_
                                  refine At.ibr ?_
                                  refine At.thr ?_
                                  refine At.ibr ?_
                                  refine At.thr ?_
                                  have hrun := bupL hr1471 ho1474 hrun
                                  refine At.thr ?_
                                  refine At.ibr ?_
                                  refine At.thr ?_
                                  refine At.drop .z ?_
                                  obtain rfl := (bret hrun).symm
                                  exact At.res (.inl rfl) rfl rfl ⟨rfl, rfl⟩
                              · · refine At.condF rfl (bn h1693) ?_
                                  refine At.seq ?_
                                  refine At.region ?_
                                  refine At.run 1 rfl ?_
                                  refine At.y (Y.load rfl rfl .z rfl rfl rfl) rfl rfl rfl ?_
                                  refine At.run 1 rfl ?_
                                  obtain ⟨h1694, hrun⟩ := bnone hrun
                                  refine At.y (Y.ixRd hr0_1 rfl rfl rfl rfl rfl rfl rfl h1694.1 h1694.2) rfl rfl rfl ?_
                                  refine At.y (Y.ldFl hr0_1 rfl (q := 0) rfl rfl h1694.1 h1694.2 rfl rfl rfl) rfl rfl rfl ?_
                                  refine At.run 2 rfl ?_
                                  obtain ⟨G1896, hl1897, hr1898, hrun⟩ := bjoin hrun
                                  refine At.joinO 7 (X := Bool) (fun x1895 => [(1, .pointer (some ⟨b254, 0, none⟩)), (4, .int .i64 (a0_2.length : Int)), (5, .int .i64 x1268), (6, .slice A1482 ((gt a0_2 x1268).length) c1483), (33, .slice A0_2 a0_2.length c0_2), (34, .int .i64 (a0_2.length : Int)), (35, .int .i64 x1268), (70, .bool x1895)]) (fun x1895 => pt b254 (.cells [.slice A0_0 a0_0.length c0_0, .slice A0_1 a0_1.length c0_1, .slice A0_2 a0_2.length c0_2].toArray 36) :: Fr) (fun x1895 => G1896 (.inl x1895) = some o1472) ?_ (fun J1899 => ?_)
                                  · rintro x1895 hrun
                                    have hrun := (hl1897 _).symm.trans hrun
                                    · refine At.run 1 rfl ?_
                                      refine At.nil ?_
                                      refine At.thn ?_
                                      rcases bite hrun with ⟨h1900, hrun⟩ | ⟨h1900, hrun⟩
                                      · · refine At.condT rfl h1900 ?_
                                          refine At.seq ?_
                                          refine At.region ?_
                                          refine At.run 3 rfl ?_
                                          refine At.nil ?_
                                          refine At.thn ?_
                                          refine At.ret ?_
                                          refine At.ibr ?_
                                          refine At.thr ?_
                                          refine At.ibr ?_
                                          refine At.thr ?_
                                          have hrun := bupL hr1471 ho1474 hrun
                                          refine At.thr ?_
                                          refine At.ibr ?_
                                          refine At.thr ?_
                                          refine At.drop .z ?_
                                          obtain rfl := (bret hrun).symm
                                          exact At.res (.inl rfl) rfl rfl ⟨rfl, rfl⟩
                                      · · refine At.condF rfl (bn h1900) ?_
                                          refine At.seq ?_
                                          refine At.region ?_
                                          refine At.run 4 rfl ?_
                                          refine At.nil ?_
                                          refine At.thn ?_
                                          rcases bite hrun with ⟨h1901, hrun⟩ | ⟨h1901, hrun⟩
                                          · · refine At.condT rfl (decide_eq_true h1901) ?_
                                              refine At.seq ?_
                                              refine At.region ?_
                                              refine At.run 3 rfl ?_
                                              refine At.nil ?_
                                              refine At.thn ?_
                                              refine At.ret ?_
                                              refine At.ibr ?_
                                              refine At.thr ?_
                                              refine At.ibr ?_
                                              refine At.thr ?_
                                              have hrun := bupL hr1471 ho1474 hrun
                                              refine At.thr ?_
                                              refine At.ibr ?_
                                              refine At.thr ?_
                                              refine At.drop .z ?_
                                              obtain rfl := (bret hrun).symm
                                              exact At.res (.inl rfl) rfl rfl ⟨rfl, rfl⟩
                                          · · refine At.condF rfl (decide_eq_false h1901) ?_
                                              refine At.skip ?_
                                              refine At.ibn ?_
                                              refine At.thn ?_
                                              refine At.seq ?_
                                              refine At.region ?_
                                              refine At.run 3 rfl ?_
                                              refine At.nil ?_
                                              refine At.thn ?_
                                              refine At.block ?_
                                              obtain ⟨G2704, hl2705, hr2706, hrun⟩ := bjoin hrun
                                              obtain ⟨o2707, hlo2708, ho2709⟩ := bsome hrun
                                              clear hrun
                                              unfold game_Right.l1 at hlo2708
                                              obtain ⟨m2710, hit2712⟩ := iter_some.1 hlo2708
                                              clear hlo2708
                                              refine At.loopJ (X := Int) (Y := Unit) (e0 := 4) (fun x2503 => [(1, .pointer (some ⟨b254, 0, none⟩)), (4, .int .i64 (a0_2.length : Int)), (5, .int .i64 x1268), (6, .slice A1482 ((gt a0_2 x1268).length) c1483), (33, .slice A0_2 a0_2.length c0_2), (34, .int .i64 (a0_2.length : Int)), (35, .int .i64 x1268), (77, .slice A1482 ((gt a0_2 x1268).length) c1483), (78, .int .i64 ((gt a0_2 x1268).length : Int)), (79, .int .i64 x2503)]) (fun x2503 => pt b254 (.cells [.slice A0_0 a0_0.length c0_0, .slice A0_1 a0_1.length c0_1, .slice A0_2 a0_2.length c0_2].toArray 36) :: Fr) (fun m_ => fun x2503 => iterN (fun t_ : Int => game_Right.l1b a0_2 x1268 t_) m_ x2503 = some o2707) m2710 0 hit2712 (fun _ => [(1, .pointer (some ⟨b254, 0, none⟩)), (4, .int .i64 (a0_2.length : Int)), (33, .slice A0_2 a0_2.length c0_2), (34, .int .i64 (a0_2.length : Int)), (35, .int .i64 x1268)]) (fun _ => pt b254 (.cells [.slice A0_0 a0_0.length c0_0, .slice A0_1 a0_1.length c0_1, .slice A0_2 a0_2.length c0_2].toArray 36) :: Fr) (fun _ => G2704 (.inl ()) = some o1472) (fun a w e hs => ⟨e.sub ⟨rfl, rfl, rfl, rfl, rfl, rfl, rfl, rfl, rfl, rfl, trivial⟩, hs⟩) ?_ (fun J2714 => ?_)
                                              · rintro _ hrun
                                                have hrun := (hl2705 _).symm.trans hrun
                                                · refine At.ibx ?_
                                                  refine At.ibn ?_
                                                  refine At.thn ?_
                                                  refine At.region ?_
                                                  refine At.run 2 rfl ?_
                                                  refine At.nil ?_
                                                  have hrun := bnx hf_ hrun
                                                  exact fun a w e hs => ⟨m1476, (IntKind.i64.wrap (x1268 + 1)), hlt1478, hrun, e.sub ⟨rfl, rfl, rfl, rfl, rfl, trivial⟩, hs⟩
                                              · clear hit2712 m2710
                                                rintro m2710 x2503 hit2712
                                                obtain ⟨m2711, f_, hlt2713, hf_, hrun⟩ := bit hit2712
                                                clear hit2712
                                                have hrun : (game_Right.l1b a0_2 x1268 x2503).bind _ = some o2707 := hrun
                                                unfold game_Right.l1b at hrun
                                                · refine At.seq ?_
                                                  refine At.region ?_
                                                  refine At.run 1 rfl ?_
                                                  refine At.nil ?_
                                                  refine At.thn ?_
                                                  refine At.seq ?_
                                                  rcases bite hrun with ⟨h2715, hrun⟩ | ⟨h2715, hrun⟩
                                                  · · refine At.condT rfl (decide_eq_true h2715) ?_
                                                      refine At.skip ?_
                                                      refine At.thn ?_
                                                      refine At.seq ?_
                                                      refine At.block ?_
                                                      refine At.seq ?_
                                                      refine At.region ?_
                                                      refine At.run 1 rfl ?_
                                                      obtain ⟨h2716, hrun⟩ := bnone hrun
                                                      refine At.y (Y.ixRd hr1485 rfl rfl rfl rfl rfl rfl rfl h2716.1 h2716.2) rfl rfl rfl ?_
                                                      refine At.y (Y.ldFl hr1485 rfl (q := 0) rfl rfl h2716.1 h2716.2 rfl rfl rfl) rfl rfl rfl ?_
                                                      refine At.run 2 rfl ?_
                                                      refine At.nil ?_
                                                      refine At.thn ?_
                                                      refine At.seq ?_
                                                      refine At.region ?_
                                                      refine At.run 3 rfl ?_
                                                      obtain ⟨G2918, hl2919, hr2920, hrun⟩ := bjoin hrun
                                                      refine At.joinO 4 (X := Bool) (fun x2917 => [(1, .pointer (some ⟨b254, 0, none⟩)), (4, .int .i64 (a0_2.length : Int)), (5, .int .i64 x1268), (6, .slice A1482 ((gt a0_2 x1268).length) c1483), (7, .int .i64 x2503), (8, .int .i64 (gt (gt a0_2 x1268) x2503)), (33, .slice A0_2 a0_2.length c0_2), (34, .int .i64 (a0_2.length : Int)), (35, .int .i64 x1268), (77, .slice A1482 ((gt a0_2 x1268).length) c1483), (78, .int .i64 ((gt a0_2 x1268).length : Int)), (79, .int .i64 x2503), (90, .bool x2917)]) (fun x2917 => pt b254 (.cells [.slice A0_0 a0_0.length c0_0, .slice A0_1 a0_1.length c0_1, .slice A0_2 a0_2.length c0_2].toArray 36) :: Fr) (fun x2917 => G2918 (.inl x2917) = some o2707) ?_ (fun J2921 => ?_)
                                                      · rintro x2917 hrun
                                                        have hrun := (hl2919 _).symm.trans hrun
                                                        · refine At.run 1 rfl ?_
                                                          obtain ⟨G3123, hl3124, hr3125, hrun⟩ := bjoin hrun
                                                          refine At.joinO 12 (X := Bool) (fun x3122 => [(1, .pointer (some ⟨b254, 0, none⟩)), (4, .int .i64 (a0_2.length : Int)), (5, .int .i64 x1268), (6, .slice A1482 ((gt a0_2 x1268).length) c1483), (33, .slice A0_2 a0_2.length c0_2), (34, .int .i64 (a0_2.length : Int)), (35, .int .i64 x1268), (77, .slice A1482 ((gt a0_2 x1268).length) c1483), (78, .int .i64 ((gt a0_2 x1268).length : Int)), (79, .int .i64 x2503), (103, .bool x3122)]) (fun x3122 => pt b254 (.cells [.slice A0_0 a0_0.length c0_0, .slice A0_1 a0_1.length c0_1, .slice A0_2 a0_2.length c0_2].toArray 36) :: Fr) (fun x3122 => G3123 (.inl x3122) = some o2707) ?_ (fun J3126 => ?_)
                                                          · rintro x3122 hrun
                                                            have hrun := (hl3124 _).symm.trans hrun
                                                            · refine At.nil ?_
                                                              refine At.thn ?_
                                                              rcases bite hrun with ⟨h3127, hrun⟩ | ⟨h3127, hrun⟩
                                                              · · refine At.condT rfl h3127 ?_
                                                                  refine At.seq ?_
                                                                  refine At.region ?_
                                                                  refine At.run 3 rfl ?_
                                                                  refine At.nil ?_
                                                                  refine At.thn ?_
                                                                  refine At.ret ?_
                                                                  refine At.ibr ?_
                                                                  refine At.thr ?_
                                                                  have hrun := bupL hr2706 ho2709 hrun
                                                                  refine At.thr ?_
                                                                  refine At.ibr ?_
                                                                  refine At.ibr ?_
                                                                  refine At.thr ?_
                                                                  have hrun := bupL hr1471 ho1474 hrun
                                                                  refine At.thr ?_
                                                                  refine At.ibr ?_
                                                                  refine At.thr ?_
                                                                  refine At.drop .z ?_
                                                                  obtain rfl := (bret hrun).symm
                                                                  exact At.res (.inl rfl) rfl rfl ⟨rfl, rfl⟩
                                                              · · refine At.condF rfl (bn h3127) ?_
                                                                  refine At.skip ?_
                                                                  refine At.ibn ?_
                                                                  refine At.thn ?_
                                                                  refine At.region ?_
                                                                  refine At.run 2 rfl ?_
                                                                  refine At.nil ?_
                                                                  have hrun := bnx hf_ hrun
                                                                  exact fun a w e hs => ⟨m2711, (IntKind.i64.wrap (x2503 + 1)), hlt2713, hrun, e.sub ⟨rfl, rfl, rfl, rfl, rfl, rfl, rfl, rfl, rfl, rfl, trivial⟩, hs⟩
                                                          · · rcases bite hrun with ⟨h3128, hrun⟩ | ⟨h3128, hrun⟩
                                                              · · refine At.know (t := 91) rfl h3128 ?_
                                                                  refine At.run 12 rfl ?_
                                                                  exact At.of (J3126 true hrun) ⟨rfl, rfl, rfl, rfl, rfl, rfl, rfl, rfl, rfl, rfl, rfl, trivial⟩
                                                              · · refine At.know (t := 91) rfl (bn h3128) ?_
                                                                  refine At.run 3 rfl ?_
                                                                  obtain ⟨G3331, hl3332, hr3333, hrun⟩ := bjoin hrun
                                                                  refine At.joinO 8 (X := Bool × Bool) (fun s_ => [(1, .pointer (some ⟨b254, 0, none⟩)), (4, .int .i64 (a0_2.length : Int)), (5, .int .i64 x1268), (6, .slice A1482 ((gt a0_2 x1268).length) c1483), (33, .slice A0_2 a0_2.length c0_2), (34, .int .i64 (a0_2.length : Int)), (35, .int .i64 x1268), (77, .slice A1482 ((gt a0_2 x1268).length) c1483), (78, .int .i64 ((gt a0_2 x1268).length : Int)), (79, .int .i64 x2503), (91, .bool false), (92, .int .i64 x2503), (93, .bool (decide (0 < x2503))), (94, .bool s_.1), (102, .bool s_.2)]) (fun s_ => pt b254 (.cells [.slice A0_0 a0_0.length c0_0, .slice A0_1 a0_1.length c0_1, .slice A0_2 a0_2.length c0_2].toArray 36) :: Fr) (fun s_ => G3331 (.inl (s_.1, s_.2)) = some o2707) ?_ (fun J3334 => ?_)
                                                                  · rintro ⟨x3329, x3330⟩ hrun
                                                                    have hrun := (hl3332 _).symm.trans hrun
                                                                    · refine At.run 1 rfl ?_
                                                                      exact At.of (J3126 x3330 hrun) ⟨rfl, rfl, rfl, rfl, rfl, rfl, rfl, rfl, rfl, rfl, rfl, trivial⟩
                                                                  · · rcases bite hrun with ⟨h3335, hrun⟩ | ⟨h3335, hrun⟩
                                                                      · · refine At.know (t := 94) rfl (decide_eq_true h3335) ?_
                                                                          refine At.run 4 rfl ?_
                                                                          obtain ⟨h3336, hrun⟩ := bnone hrun
                                                                          refine At.y (Y.ixRd hr1485 rfl rfl rfl rfl rfl rfl rfl h3336.1 h3336.2) rfl rfl rfl ?_
                                                                          refine At.y (Y.ldFl hr1485 rfl (q := 0) rfl rfl h3336.1 h3336.2 rfl rfl rfl) rfl rfl rfl ?_
                                                                          refine At.run 2 rfl ?_
                                                                          exact At.of (J3334 (true, decide (gt (gt a0_2 x1268) x2503 ≤ gt (gt a0_2 x1268) (IntKind.i64.wrap (x2503 - 1)))) hrun) ⟨rfl, rfl, rfl, rfl, rfl, rfl, rfl, rfl, rfl, rfl, rfl, rfl, rfl, rfl, rfl, trivial⟩
                                                                      · · refine At.know (t := 94) rfl (decide_eq_false h3335) ?_
                                                                          refine At.run 8 rfl ?_
                                                                          exact At.of (J3334 (false, false) hrun) ⟨rfl, rfl, rfl, rfl, rfl, rfl, rfl, rfl, rfl, rfl, rfl, rfl, rfl, rfl, rfl, trivial⟩
                                                      · · rcases bite hrun with ⟨h3337, hrun⟩ | ⟨h3337, hrun⟩
                                                          · · refine At.know (t := 86) rfl (decide_eq_true h3337) ?_
                                                              refine At.run 4 rfl ?_
                                                              exact At.of (J2921 true hrun) ⟨rfl, rfl, rfl, rfl, rfl, rfl, rfl, rfl, rfl, rfl, rfl, rfl, rfl, trivial⟩
                                                          · · refine At.know (t := 86) rfl (decide_eq_false h3337) ?_
                                                              refine At.run 4 rfl ?_
                                                              exact At.of (J2921 (decide ((a0_2.length : Int) ≤ gt (gt a0_2 x1268) x2503)) hrun) ⟨rfl, rfl, rfl, rfl, rfl, rfl, rfl, rfl, rfl, rfl, rfl, rfl, rfl, trivial⟩
                                                  · · refine At.condF rfl (decide_eq_false h2715) ?_
                                                      refine At.exit ?_
                                                      refine At.the ?_
                                                      refine At.the ?_
                                                      exact fun a w e hs => J2714 () (bdn hrun ho2709) a w (e.sub ⟨rfl, rfl, rfl, rfl, rfl, trivial⟩) hs
                                  · · rcases bite hrun with ⟨h3338, hrun⟩ | ⟨h3338, hrun⟩
                                      · · refine At.know (t := 63) rfl (decide_eq_true h3338) ?_
                                          refine At.run 7 rfl ?_
                                          exact At.of (J1899 true hrun) ⟨rfl, rfl, rfl, rfl, rfl, rfl, rfl, rfl, trivial⟩
                                      · · refine At.know (t := 63) rfl (decide_eq_false h3338) ?_
                                          refine At.run 1 rfl ?_
                                          refine At.y (Y.load rfl rfl .z rfl rfl rfl) rfl rfl rfl ?_
                                          refine At.run 1 rfl ?_
                                          refine At.y (Y.ixRd hr0_1 rfl rfl rfl rfl rfl rfl rfl h1694.1 h1694.2) rfl rfl rfl ?_
                                          refine At.y (Y.ldFl hr0_1 rfl (q := 0) rfl rfl h1694.1 h1694.2 rfl rfl rfl) rfl rfl rfl ?_
                                          refine At.run 2 rfl ?_
                                          exact At.of (J1899 (decide (7 < gt a0_1 x1268)) hrun) ⟨rfl, rfl, rfl, rfl, rfl, rfl, rfl, rfl, trivial⟩
                          · · rcases bite hrun with ⟨h3339, hrun⟩ | ⟨h3339, hrun⟩
                              · · refine At.know (t := 47) rfl (decide_eq_true h3339) ?_
                                  refine At.run 7 rfl ?_
                                  exact At.of (J1692 true hrun) ⟨rfl, rfl, rfl, rfl, rfl, rfl, rfl, rfl, trivial⟩
                              · · refine At.know (t := 47) rfl (decide_eq_false h3339) ?_
                                  refine At.run 1 rfl ?_
                                  refine At.y (Y.load rfl rfl .z rfl rfl rfl) rfl rfl rfl ?_
                                  refine At.run 1 rfl ?_
                                  refine At.y (Y.ixRd hr0_0 rfl rfl rfl rfl rfl rfl rfl h1487.1 h1487.2) rfl rfl rfl ?_
                                  refine At.y (Y.ldFl hr0_0 rfl (q := 0) rfl rfl h1487.1 h1487.2 rfl rfl rfl) rfl rfl rfl ?_
                                  refine At.run 2 rfl ?_
                                  exact At.of (J1692 (decide (1 < gt a0_0 x1268)) hrun) ⟨rfl, rfl, rfl, rfl, rfl, rfl, rfl, rfl, trivial⟩
                      · · refine At.condF rfl (decide_eq_false h1480) ?_
                          refine At.exit ?_
                          refine At.the ?_
                          refine At.the ?_
                          exact fun a w e hs => J1479 () (bdn hrun ho1474) a w (e.sub trivial) hs
          · · rcases bite hrun with ⟨h3340, hrun⟩ | ⟨h3340, hrun⟩
              · · refine At.know (t := 28) rfl (decide_eq_true h3340) ?_
                  refine At.run 3 rfl ?_
                  exact At.of (J665 true hrun) ⟨rfl, rfl, rfl, trivial⟩
              · · refine At.know (t := 28) rfl (decide_eq_false h3340) ?_
                  refine At.run 3 rfl ?_
                  exact At.of (J665 (decide (200 < (a0_2.length : Int))) hrun) ⟨rfl, rfl, rfl, trivial⟩
  · · rcases bite hrun with ⟨h3341, hrun⟩ | ⟨h3341, hrun⟩
      · · refine At.know (t := 18) rfl (nf (decide_eq_true h3341)) ?_
          refine At.run 1 rfl ?_
          refine At.y (Y.load rfl rfl .z rfl rfl rfl) rfl rfl rfl ?_
          refine At.run 4 rfl ?_
          exact At.of (J459 (!(decide ((a0_1.length : Int) = (a0_2.length : Int)))) hrun) ⟨rfl, rfl, rfl, trivial⟩
      · · refine At.know (t := 18) rfl (nt (decide_eq_false h3341)) ?_
          refine At.run 6 rfl ?_
          exact At.of (J459 true hrun) ⟨rfl, rfl, rfl, trivial⟩

noncomputable def judge_court_part.l2b (a0_0 : List Int) (x1082 : List Int) (x1909 : List Int) (x2525 : Int) : Option ((Int) ⊕ ((Unit) ⊕ ((List Int) × (List Int) × Int × Int × Int))) :=
  if x2525 < (a0_0.length : Int) then
    if (0 : Int) ≤ x2525 ∧ x2525 < ((List.replicate (a0_0.length : Int).toNat (0 : Int)).length : Int) then
      if IntKind.i64.wrap (gt x1082 x2525 + (gt x1909 x2525)) = 1 then
        nx (IntKind.i64.wrap (x2525 + 1))
      else
        upL (some (x1909, x1082, 19, 0, x2525))
    else none
  else
    dn (.inl ())
noncomputable def judge_court_part.l2 (a0_0 : List Int) (x1082 : List Int) (x1909 : List Int) (x2525 : Int) : Option ((Unit) ⊕ ((List Int) × (List Int) × Int × Int × Int)) := iter (fun t_ : Int => judge_court_part.l2b a0_0 x1082 x1909 t_) x2525
noncomputable def judge_court_part.l1b (a0_0 : List Int) (a0_4 : List Int) (x1704 : List Int) (x1705 : Int) (x1706 : Int) (x1707 : Int) (x1708 : Int) : Option (((List Int) × Int × Int × Int × Int) ⊕ (((List Int) × Int × Int × Int) ⊕ ((List Int) × (List Int) × Int × Int × Int))) :=
  if x1708 < (a0_4.length : Int) then
    jn (
      if (0 : Int) ≤ x1708 ∧ x1708 < (a0_4.length : Int) then
        jn (
          if 0 ≤ gt a0_4 x1708 then
            some (.inl (decide (gt a0_4 x1708 < (a0_0.length : Int))))
          else
            some (.inl false)) (fun (x3150 : Bool) =>
          if x3150 = true then
            if (0 : Int) ≤ gt a0_4 x1708 ∧ gt a0_4 x1708 < ((List.replicate (a0_0.length : Int).toNat (0 : Int)).length : Int) then
              some (.inl ((st x1704 (gt a0_4 x1708) (IntKind.i64.wrap (gt x1704 (gt a0_4 x1708) + 1))), x1705, x1706, x1707))
            else none
          else
            if x1705 = 0 then
              some (.inl (x1704, 19, 1, gt a0_4 x1708))
            else
              some (.inl (x1704, x1705, x1706, x1707)))
      else none) (fun (s_ : (List Int) × Int × Int × Int) =>
      nx (s_.1, s_.2.1, s_.2.2.1, s_.2.2.2, IntKind.i64.wrap (x1708 + 1)))
  else
    dn (.inl (x1704, x1705, x1706, x1707))
noncomputable def judge_court_part.l1 (a0_0 : List Int) (a0_4 : List Int) (x1704 : List Int) (x1705 : Int) (x1706 : Int) (x1707 : Int) (x1708 : Int) : Option (((List Int) × Int × Int × Int) ⊕ ((List Int) × (List Int) × Int × Int × Int)) := iter (fun t_ : (List Int) × Int × Int × Int × Int => judge_court_part.l1b a0_0 a0_4 t_.1 t_.2.1 t_.2.2.1 t_.2.2.2.1 t_.2.2.2.2) (x1704, x1705, x1706, x1707, x1708)
noncomputable def judge_court_part.l0b (a0_0 : List Int) (a0_3 : List Int) (x878 : List Int) (x879 : Int) (x880 : Int) (x881 : Int) : Option (((List Int) × Int × Int × Int) ⊕ (((List Int) × Int × Int) ⊕ ((List Int) × (List Int) × Int × Int × Int))) :=
  if x881 < (a0_3.length : Int) then
    jn (
      if (0 : Int) ≤ x881 ∧ x881 < (a0_3.length : Int) then
        jn (
          if 0 ≤ gt a0_3 x881 then
            some (.inl (decide (gt a0_3 x881 < (a0_0.length : Int))))
          else
            some (.inl false)) (fun (x3568 : Bool) =>
          if x3568 = true then
            if (0 : Int) ≤ gt a0_3 x881 ∧ gt a0_3 x881 < ((List.replicate (a0_0.length : Int).toNat (0 : Int)).length : Int) then
              some (.inl ((st x878 (gt a0_3 x881) (IntKind.i64.wrap (gt x878 (gt a0_3 x881) + 1))), x879, x880))
            else none
          else
            if x879 = 0 then
              some (.inl (x878, 19, gt a0_3 x881))
            else
              some (.inl (x878, x879, x880)))
      else none) (fun (s_ : (List Int) × Int × Int) =>
      nx (s_.1, s_.2.1, s_.2.2, IntKind.i64.wrap (x881 + 1)))
  else
    dn (.inl (x878, x879, x880))
noncomputable def judge_court_part.l0 (a0_0 : List Int) (a0_3 : List Int) (x878 : List Int) (x879 : Int) (x880 : Int) (x881 : Int) : Option (((List Int) × Int × Int) ⊕ ((List Int) × (List Int) × Int × Int × Int)) := iter (fun t_ : (List Int) × Int × Int × Int => judge_court_part.l0b a0_0 a0_3 t_.1 t_.2.1 t_.2.2.1 t_.2.2.2) (x878, x879, x880, x881)
noncomputable def judge_court_part.f (a0_0 : List Int) (a0_1 : List Int) (a0_2 : List (List Int)) (a0_3 : List Int) (a0_4 : List Int) (a0_5 : List Int) (a0_6 : List Int) (a0_7 : List Int) (a0_8 : List Int) : Option ((List Int) × (List Int) × Int × Int × Int) :=
  if (0 : Int) ≤ (a0_0.length : Int) ∧ (8 : Int) * (a0_0.length : Int) ≤ 281474976710656 then
    jn (judge_court_part.l0 a0_0 a0_3 (List.replicate (a0_0.length : Int).toNat (0 : Int)) 0 0 0) (fun (s__ : (List Int) × Int × Int) =>
      jn (judge_court_part.l1 a0_0 a0_4 (List.replicate (a0_0.length : Int).toNat (0 : Int)) s__.2.1 0 s__.2.2 0) (fun (s_ : (List Int) × Int × Int × Int) =>
        jn (judge_court_part.l2 a0_0 s__.1 s_.1 0) (fun (_ : Unit) =>
          some (s_.1, s__.1, s_.2.1, s_.2.2.1, s_.2.2.2))))
  else none
theorem judge_court_part.callee : Callee Go.Proofs.Try.prog 49 := ⟨_, Go.Proofs.Try.func49, by kernel_rfl, by kernel_rfl⟩
set_option maxRecDepth 100000 in
set_option maxHeartbeats 2000000 in
theorem judge_court_part.spec (R : Res) (Fr : List HProp) (b0 : Nat) (A0_0 : Option Addr) (n0_0 : Nat) (c0_0 : Nat) (A0_1 : Option Addr) (n0_1 : Nat) (c0_1 : Nat) (A0_2 : Option Addr) (n0_2 : Nat) (c0_2 : Nat) (A0_3 : Option Addr) (n0_3 : Nat) (c0_3 : Nat) (A0_4 : Option Addr) (n0_4 : Nat) (c0_4 : Nat) (A0_5 : Option Addr) (n0_5 : Nat) (c0_5 : Nat) (A0_6 : Option Addr) (n0_6 : Nat) (c0_6 : Nat) (A0_7 : Option Addr) (n0_7 : Nat) (c0_7 : Nat) (A0_8 : Option Addr) (n0_8 : Nat) (c0_8 : Nat) (a0_0 : List Int) (a0_1 : List Int) (a0_2 : List (List Int)) (a0_3 : List Int) (a0_4 : List Int) (a0_5 : List Int) (a0_6 : List Int) (a0_7 : List Int) (a0_8 : List Int) (hr0_0 : RdS (Fl.int .i64).rep R.heap A0_0 a0_0) (hn0_0 : a0_0.length = n0_0) (hc0_0 : n0_0 ≤ c0_0) (hr0_1 : RdS (Fl.int .i64).rep R.heap A0_1 a0_1) (hn0_1 : a0_1.length = n0_1) (hc0_1 : n0_1 ≤ c0_1) (hr0_2 : RdS ((Fl.int .i64).rep).slice R.heap A0_2 a0_2) (hn0_2 : a0_2.length = n0_2) (hc0_2 : n0_2 ≤ c0_2) (hr0_3 : RdS (Fl.int .i64).rep R.heap A0_3 a0_3) (hn0_3 : a0_3.length = n0_3) (hc0_3 : n0_3 ≤ c0_3) (hr0_4 : RdS (Fl.int .i64).rep R.heap A0_4 a0_4) (hn0_4 : a0_4.length = n0_4) (hc0_4 : n0_4 ≤ c0_4) (hr0_5 : RdS (Fl.int .i64).rep R.heap A0_5 a0_5) (hn0_5 : a0_5.length = n0_5) (hc0_5 : n0_5 ≤ c0_5) (hr0_6 : RdS (Fl.int .i64).rep R.heap A0_6 a0_6) (hn0_6 : a0_6.length = n0_6) (hc0_6 : n0_6 ≤ c0_6) (hn0_7 : a0_7.length = n0_7) (hn0_8 : a0_8.length = n0_8) {r : (List Int) × (List Int) × Int × Int × Int} (hrun : judge_court_part.f a0_0 a0_1 a0_2 a0_3 a0_4 a0_5 a0_6 a0_7 a0_8 = some r) :
    Spec Go.Proofs.Try.prog 49 [.pointer (some ⟨b0, 0, none⟩)] R (pt b0 (.cells [.slice A0_0 n0_0 c0_0, .slice A0_1 n0_1 c0_1, .slice A0_2 n0_2 c0_2, .slice A0_3 n0_3 c0_3, .slice A0_4 n0_4 c0_4, .slice A0_5 n0_5 c0_5, .slice A0_6 n0_6 c0_6, .slice A0_7 n0_7 c0_7, .slice A0_8 n0_8 c0_8].toArray 74) :: row (Fl.int .i64) 3 A0_7 n0_7 c0_7 a0_7 :: row (Fl.int .i64) 3 A0_8 n0_8 c0_8 a0_8 :: Fr) (fun v l' => ∃ (w253 : Option Addr) (w254 : Nat) (w256 : Option Addr) (w257 : Nat), v = .agg #[.int .i64 r.2.2.1, .int .i64 r.2.2.2.1, .int .i64 r.2.2.2.2] ∧ row (Fl.int .i64) 3 w256 ((List.replicate (n0_0 : Int).toNat (0 : Int)).length) w257 r.2.1 :: row (Fl.int .i64) 3 w253 ((List.replicate (n0_0 : Int).toNat (0 : Int)).length) w254 r.1 :: pt b0 (.cells [.slice A0_0 n0_0 c0_0, .slice A0_1 n0_1 c0_1, .slice A0_2 n0_2 c0_2, .slice A0_3 n0_3 c0_3, .slice A0_4 n0_4 c0_4, .slice A0_5 n0_5 c0_5, .slice A0_6 n0_6 c0_6, .slice w256 ((List.replicate (n0_0 : Int).toNat (0 : Int)).length) w257, .slice w253 ((List.replicate (n0_0 : Int).toNat (0 : Int)).length) w254].toArray 74) :: row (Fl.int .i64) 3 A0_7 n0_7 c0_7 a0_7 :: row (Fl.int .i64) 3 A0_8 n0_8 c0_8 a0_8 :: Fr = l') := by
  subst hn0_0
  subst hn0_1
  subst hn0_2
  subst hn0_3
  subst hn0_4
  subst hn0_5
  subst hn0_6
  subst hn0_7
  subst hn0_8
  refine Spec.of Go.Proofs.Try.func49 rfl rfl ?_
  unfold judge_court_part.f at hrun
  have hrun := brun hrun
  refine At.seq ?_
  refine At.region ?_
  refine At.alloc rfl rfl rfl (fun b268 => ?_)
  refine At.nil ?_
  refine At.thn ?_
  refine At.seq ?_
  refine At.region ?_
  refine At.run 4 rfl ?_
  refine At.y (Y.load rfl rfl (.s .z) rfl rfl rfl) rfl rfl rfl ?_
  refine At.run 2 rfl ?_
  refine At.nil ?_
  refine At.thn ?_
  refine At.seq ?_
  refine At.region ?_
  refine At.y (Y.build (is := []) (xo := []) (vs := []) (cs := [.int .i64 0, .int .i64 0, .int .i64 0]) rfl rfl rfl rfl rfl rfl) rfl rfl rfl ?_
  refine At.alloc rfl rfl rfl (fun b269 => ?_)
  refine At.store rfl rfl rfl rfl .z rfl rfl rfl (.c (.c (.c .n))) ?_
  refine At.nil ?_
  refine At.thn ?_
  refine At.seq ?_
  refine At.seq ?_
  refine At.region ?_
  refine At.run 4 rfl ?_
  refine At.y (Y.load rfl rfl (.s (.s .z)) rfl rfl rfl) rfl rfl rfl ?_
  refine At.run 1 rfl ?_
  refine At.nil ?_
  refine At.thn ?_
  refine At.block ?_
  refine At.rounds 3 ?_
  refine At.round ?_
  refine At.seq ?_
  refine At.region ?_
  refine At.run 1 rfl ?_
  refine At.nil ?_
  refine At.thn ?_
  refine At.seq ?_
  refine At.condT rfl rfl ?_
  refine At.skip ?_
  refine At.thn ?_
  refine At.seq ?_
  refine At.block ?_
  refine At.seq ?_
  refine At.region ?_
  refine At.run 1 rfl ?_
  refine At.y (Y.ixA rfl rfl rfl rfl rfl (show (0 : Int) ≤ 0 ∧ (0 : Int) < 2 by decide).1 (show (0 : Int) ≤ 0 ∧ (0 : Int) < 2 by decide).2 rfl) rfl rfl rfl ?_
  refine At.run 2 rfl ?_
  refine At.nil ?_
  refine At.thn ?_
  refine At.seq ?_
  refine At.held [pt b269 (.cells [.int .i64 0, .int .i64 0, .int .i64 0].toArray 44), pt b268 (.cells [.int .i64 0, .int .i64 0, .int .i64 0].toArray 44), row (Fl.int .i64) 3 A0_7 a0_7.length c0_7 a0_7, row (Fl.int .i64) 3 A0_8 a0_8.length c0_8 a0_8] 8 rfl ?_
  refine At.H.pv 0 rfl (by kernel_rfl) (by kernel_rfl) (by kernel_rfl) rfl rfl rfl rfl (.c .z (.c .z (.c (.s .z) (.c (.s .z) .n)))) ?_
  refine At.H.pv 1 rfl (by kernel_rfl) (by kernel_rfl) (by kernel_rfl) rfl rfl rfl rfl (.c .z (.c .z (.c (.s .z) (.c (.s .z) .n)))) ?_
  refine At.H.pv 2 rfl (by kernel_rfl) (by kernel_rfl) (by kernel_rfl) rfl rfl rfl rfl (.c .z (.c .z (.c (.s .z) (.c (.s .z) .n)))) ?_
  refine At.H.pv 4 rfl (by kernel_rfl) (by kernel_rfl) (by kernel_rfl) rfl rfl rfl rfl (.c .z (.c .z (.c (.s .z) (.c (.s .z) .n)))) ?_
  refine At.H.pv 5 rfl (by kernel_rfl) (by kernel_rfl) (by kernel_rfl) rfl rfl rfl rfl (.c .z (.c .z (.c (.s .z) (.c (.s .z) .n)))) ?_
  refine At.H.all [3] (by kernel_rfl) rfl (all_cons ?_ all_nil)
  · · refine At.HO.op rfl ?_
      obtain ⟨h270, hrun⟩ := bnone hrun
      refine At.make (F := (Fl.int .i64)) (z := 0) rfl rfl rfl rfl rfl rfl rfl rfl rfl rfl h270.1 h270.2 (by decide) rfl (fun A271 c272 => ?_)
      refine At.HO.back (.c (.s .z) (.c (.s .z) (.c (.s (.s .z)) (.c (.s (.s .z)) .n)))) ?_
      refine At.H.take 6 rfl (by kernel_rfl) (by kernel_rfl) (by kernel_rfl) (Y.ixArrK rfl rfl rfl rfl rfl (show (0 : Int) ≤ 0 ∧ (0 : Int) < 2 by decide).1 (show (0 : Int) ≤ 0 ∧ (0 : Int) < 2 by decide).2 (q := 0) (off := 7) rfl rfl) rfl rfl rfl (.c (.s .z) (.c (.s .z) (.c (.s (.s .z)) (.c (.s (.s .z)) .n)))) ?_
      refine At.H.all [7] (by kernel_rfl) rfl (all_cons ?_ all_nil)
      · · refine At.HO.op rfl ?_
          refine At.store rfl rfl rfl rfl (.s (.s (.s .z))) rfl rfl rfl (.s (.s (.s (.s (.s (.s (.s (.c .n)))))))) ?_
          refine At.HO.back (.c (.s (.s .z)) (.c (.s (.s .z)) (.c (.s (.s .z)) (.c (.s (.s .z)) .n)))) ?_
          refine At.H.done (by kernel_rfl) ?_
          refine At.thn ?_
          refine At.seq ?_
          refine At.region ?_
          refine At.run 3 rfl ?_
          refine At.nil ?_
          refine At.thn ?_
          refine At.block ?_
          obtain ⟨G1085, hl1086, hr1087, hrun⟩ := bjoin hrun
          obtain ⟨o1088, hlo1089, ho1090⟩ := bsome hrun
          clear hrun
          unfold judge_court_part.l0 at hlo1089
          obtain ⟨m1091, hit1093⟩ := iter_some.1 hlo1089
          clear hlo1089
          refine At.loopJ (X := (List Int) × Int × Int × Int) (Y := (List Int) × Int × Int) (e0 := 2) (fun s_ => [(0, .pointer (some ⟨b0, 0, none⟩)), (2, .pointer (some ⟨b268, 0, none⟩)), (3, .int .i64 (a0_0.length : Int)), (4, .pointer (some ⟨b269, 0, none⟩)), (5, .int .i64 0), (21, .agg #[.slice A0_3 a0_3.length c0_3, .slice A0_4 a0_4.length c0_4]), (22, .int .i64 0), (33, .slice A0_3 a0_3.length c0_3), (34, .int .i64 (a0_3.length : Int)), (35, .int .i64 s_.2.2.2)]) (fun s_ => pt b0 (.cells [.slice A0_0 a0_0.length c0_0, .slice A0_1 a0_1.length c0_1, .slice A0_2 a0_2.length c0_2, .slice A0_3 a0_3.length c0_3, .slice A0_4 a0_4.length c0_4, .slice A0_5 a0_5.length c0_5, .slice A0_6 a0_6.length c0_6, .slice A271 ((List.replicate (a0_0.length : Int).toNat (0 : Int)).length) c272, .slice A0_8 a0_8.length c0_8].toArray 74) :: row (Fl.int .i64) 3 A271 ((List.replicate (a0_0.length : Int).toNat (0 : Int)).length) c272 s_.1 :: pt b269 (.cells [.int .i64 s_.2.1, .int .i64 0, .int .i64 s_.2.2.1].toArray 44) :: pt b268 (.cells [.int .i64 0, .int .i64 0, .int .i64 0].toArray 44) :: row (Fl.int .i64) 3 A0_7 a0_7.length c0_7 a0_7 :: row (Fl.int .i64) 3 A0_8 a0_8.length c0_8 a0_8 :: Fr) (fun m_ => fun s_ => iterN (fun t_ : (List Int) × Int × Int × Int => judge_court_part.l0b a0_0 a0_3 t_.1 t_.2.1 t_.2.2.1 t_.2.2.2) m_ (s_.1, s_.2.1, s_.2.2.1, s_.2.2.2) = some o1088) m1091 ((List.replicate (a0_0.length : Int).toNat (0 : Int)), 0, 0, 0) hit1093 (fun s_ => [(0, .pointer (some ⟨b0, 0, none⟩)), (2, .pointer (some ⟨b268, 0, none⟩)), (3, .int .i64 (a0_0.length : Int)), (4, .pointer (some ⟨b269, 0, none⟩)), (21, .agg #[.slice A0_3 a0_3.length c0_3, .slice A0_4 a0_4.length c0_4]), (22, .int .i64 0)]) (fun s_ => pt b0 (.cells [.slice A0_0 a0_0.length c0_0, .slice A0_1 a0_1.length c0_1, .slice A0_2 a0_2.length c0_2, .slice A0_3 a0_3.length c0_3, .slice A0_4 a0_4.length c0_4, .slice A0_5 a0_5.length c0_5, .slice A0_6 a0_6.length c0_6, .slice A271 ((List.replicate (a0_0.length : Int).toNat (0 : Int)).length) c272, .slice A0_8 a0_8.length c0_8].toArray 74) :: row (Fl.int .i64) 3 A271 ((List.replicate (a0_0.length : Int).toNat (0 : Int)).length) c272 s_.1 :: pt b269 (.cells [.int .i64 s_.2.1, .int .i64 0, .int .i64 s_.2.2].toArray 44) :: pt b268 (.cells [.int .i64 0, .int .i64 0, .int .i64 0].toArray 44) :: row (Fl.int .i64) 3 A0_7 a0_7.length c0_7 a0_7 :: row (Fl.int .i64) 3 A0_8 a0_8.length c0_8 a0_8 :: Fr) (fun s_ => G1085 (.inl (s_.1, s_.2.1, s_.2.2)) = some r) (fun a w e hs => ⟨e.sub ⟨rfl, rfl, rfl, rfl, rfl, rfl, rfl, rfl, rfl, rfl, trivial⟩, hs⟩) ?_ (fun J1095 => ?_)
          · rintro ⟨x1082, x1083, x1084⟩ hrun
            have hrun := (hl1086 _).symm.trans hrun
            · refine At.ibx ?_
              refine At.ibn ?_
              refine At.thn ?_
              refine At.region ?_
              refine At.run 2 rfl ?_
              refine At.nil ?_
              refine At.thn ?_
              refine At.round ?_
              refine At.seq ?_
              refine At.region ?_
              refine At.run 1 rfl ?_
              refine At.nil ?_
              refine At.thn ?_
              refine At.seq ?_
              refine At.condT rfl rfl ?_
              refine At.skip ?_
              refine At.thn ?_
              refine At.seq ?_
              refine At.block ?_
              refine At.seq ?_
              refine At.region ?_
              refine At.run 1 rfl ?_
              refine At.y (Y.ixA rfl rfl rfl rfl rfl (show (0 : Int) ≤ 1 ∧ (1 : Int) < 2 by decide).1 (show (0 : Int) ≤ 1 ∧ (1 : Int) < 2 by decide).2 rfl) rfl rfl rfl ?_
              refine At.run 2 rfl ?_
              refine At.nil ?_
              refine At.thn ?_
              refine At.seq ?_
              refine At.held [row (Fl.int .i64) 3 A271 ((List.replicate (a0_0.length : Int).toNat (0 : Int)).length) c272 x1082, pt b269 (.cells [.int .i64 x1083, .int .i64 0, .int .i64 x1084].toArray 44), pt b268 (.cells [.int .i64 0, .int .i64 0, .int .i64 0].toArray 44), row (Fl.int .i64) 3 A0_7 a0_7.length c0_7 a0_7, row (Fl.int .i64) 3 A0_8 a0_8.length c0_8 a0_8] 8 rfl ?_
              refine At.H.pv 0 rfl (by kernel_rfl) (by kernel_rfl) (by kernel_rfl) rfl rfl rfl rfl (.c (.s .z) (.c (.s .z) (.c (.s .z) (.c (.s .z) (.c (.s .z) .n))))) ?_
              refine At.H.pv 1 rfl (by kernel_rfl) (by kernel_rfl) (by kernel_rfl) rfl rfl rfl rfl (.c (.s .z) (.c (.s .z) (.c (.s .z) (.c (.s .z) (.c (.s .z) .n))))) ?_
              refine At.H.pv 2 rfl (by kernel_rfl) (by kernel_rfl) (by kernel_rfl) rfl rfl rfl rfl (.c (.s .z) (.c (.s .z) (.c (.s .z) (.c (.s .z) (.c (.s .z) .n))))) ?_
              refine At.H.pv 4 rfl (by kernel_rfl) (by kernel_rfl) (by kernel_rfl) rfl rfl rfl rfl (.c (.s .z) (.c (.s .z) (.c (.s .z) (.c (.s .z) (.c (.s .z) .n))))) ?_
              refine At.H.pv 5 rfl (by kernel_rfl) (by kernel_rfl) (by kernel_rfl) rfl rfl rfl rfl (.c (.s .z) (.c (.s .z) (.c (.s .z) (.c (.s .z) (.c (.s .z) .n))))) ?_
              refine At.H.all [3] (by kernel_rfl) rfl (all_cons ?_ all_nil)
              · · refine At.HO.op rfl ?_
                  refine At.make (F := (Fl.int .i64)) (z := 0) rfl rfl rfl rfl rfl rfl rfl rfl rfl rfl h270.1 h270.2 (by decide) rfl (fun A1096 c1097 => ?_)
                  refine At.HO.back (.c (.s (.s .z)) (.c (.s (.s .z)) (.c (.s (.s .z)) (.c (.s (.s .z)) (.c (.s (.s .z)) .n))))) ?_
                  refine At.H.take 6 rfl (by kernel_rfl) (by kernel_rfl) (by kernel_rfl) (Y.ixArrK rfl rfl rfl rfl rfl (show (0 : Int) ≤ 1 ∧ (1 : Int) < 2 by decide).1 (show (0 : Int) ≤ 1 ∧ (1 : Int) < 2 by decide).2 (q := 1) (off := 8) rfl rfl) rfl rfl rfl (.c (.s (.s .z)) (.c (.s (.s .z)) (.c (.s (.s .z)) (.c (.s (.s .z)) (.c (.s (.s .z)) .n))))) ?_
                  refine At.H.all [7] (by kernel_rfl) rfl (all_cons ?_ all_nil)
                  · · refine At.HO.op rfl ?_
                      refine At.store rfl rfl rfl rfl (.s .z) rfl rfl rfl (.s (.s (.s (.s (.s (.s (.s (.s (.c .n))))))))) ?_
                      refine At.HO.back (.c (.s (.s .z)) (.c (.s (.s .z)) (.c (.s (.s .z)) (.c (.s (.s .z)) (.c (.s (.s .z)) .n))))) ?_
                      refine At.H.done (by kernel_rfl) ?_
                      refine At.thn ?_
                      refine At.seq ?_
                      refine At.region ?_
                      refine At.run 3 rfl ?_
                      refine At.nil ?_
                      refine At.thn ?_
                      refine At.block ?_
                      obtain ⟨G1913, hl1914, hr1915, hrun⟩ := bjoin hrun
                      obtain ⟨o1916, hlo1917, ho1918⟩ := bsome hrun
                      clear hrun
                      unfold judge_court_part.l1 at hlo1917
                      obtain ⟨m1919, hit1921⟩ := iter_some.1 hlo1917
                      clear hlo1917
                      refine At.loopJ (X := (List Int) × Int × Int × Int × Int) (Y := (List Int) × Int × Int × Int) (e0 := 2) (fun s_ => [(0, .pointer (some ⟨b0, 0, none⟩)), (2, .pointer (some ⟨b268, 0, none⟩)), (3, .int .i64 (a0_0.length : Int)), (4, .pointer (some ⟨b269, 0, none⟩)), (5, .int .i64 1), (21, .agg #[.slice A0_3 a0_3.length c0_3, .slice A0_4 a0_4.length c0_4]), (22, .int .i64 1), (33, .slice A0_4 a0_4.length c0_4), (34, .int .i64 (a0_4.length : Int)), (35, .int .i64 s_.2.2.2.2)]) (fun s_ => pt b0 (.cells [.slice A0_0 a0_0.length c0_0, .slice A0_1 a0_1.length c0_1, .slice A0_2 a0_2.length c0_2, .slice A0_3 a0_3.length c0_3, .slice A0_4 a0_4.length c0_4, .slice A0_5 a0_5.length c0_5, .slice A0_6 a0_6.length c0_6, .slice A271 ((List.replicate (a0_0.length : Int).toNat (0 : Int)).length) c272, .slice A1096 ((List.replicate (a0_0.length : Int).toNat (0 : Int)).length) c1097].toArray 74) :: row (Fl.int .i64) 3 A1096 ((List.replicate (a0_0.length : Int).toNat (0 : Int)).length) c1097 s_.1 :: row (Fl.int .i64) 3 A271 ((List.replicate (a0_0.length : Int).toNat (0 : Int)).length) c272 x1082 :: pt b269 (.cells [.int .i64 s_.2.1, .int .i64 s_.2.2.1, .int .i64 s_.2.2.2.1].toArray 44) :: pt b268 (.cells [.int .i64 0, .int .i64 0, .int .i64 0].toArray 44) :: row (Fl.int .i64) 3 A0_7 a0_7.length c0_7 a0_7 :: row (Fl.int .i64) 3 A0_8 a0_8.length c0_8 a0_8 :: Fr) (fun m_ => fun s_ => iterN (fun t_ : (List Int) × Int × Int × Int × Int => judge_court_part.l1b a0_0 a0_4 t_.1 t_.2.1 t_.2.2.1 t_.2.2.2.1 t_.2.2.2.2) m_ (s_.1, s_.2.1, s_.2.2.1, s_.2.2.2.1, s_.2.2.2.2) = some o1916) m1919 ((List.replicate (a0_0.length : Int).toNat (0 : Int)), x1083, 0, x1084, 0) hit1921 (fun s_ => [(0, .pointer (some ⟨b0, 0, none⟩)), (2, .pointer (some ⟨b268, 0, none⟩)), (3, .int .i64 (a0_0.length : Int)), (4, .pointer (some ⟨b269, 0, none⟩)), (21, .agg #[.slice A0_3 a0_3.length c0_3, .slice A0_4 a0_4.length c0_4]), (22, .int .i64 1)]) (fun s_ => pt b0 (.cells [.slice A0_0 a0_0.length c0_0, .slice A0_1 a0_1.length c0_1, .slice A0_2 a0_2.length c0_2, .slice A0_3 a0_3.length c0_3, .slice A0_4 a0_4.length c0_4, .slice A0_5 a0_5.length c0_5, .slice A0_6 a0_6.length c0_6, .slice A271 ((List.replicate (a0_0.length : Int).toNat (0 : Int)).length) c272, .slice A1096 ((List.replicate (a0_0.length : Int).toNat (0 : Int)).length) c1097].toArray 74) :: row (Fl.int .i64) 3 A1096 ((List.replicate (a0_0.length : Int).toNat (0 : Int)).length) c1097 s_.1 :: row (Fl.int .i64) 3 A271 ((List.replicate (a0_0.length : Int).toNat (0 : Int)).length) c272 x1082 :: pt b269 (.cells [.int .i64 s_.2.1, .int .i64 s_.2.2.1, .int .i64 s_.2.2.2].toArray 44) :: pt b268 (.cells [.int .i64 0, .int .i64 0, .int .i64 0].toArray 44) :: row (Fl.int .i64) 3 A0_7 a0_7.length c0_7 a0_7 :: row (Fl.int .i64) 3 A0_8 a0_8.length c0_8 a0_8 :: Fr) (fun s_ => G1913 (.inl (s_.1, s_.2.1, s_.2.2.1, s_.2.2.2)) = some r) (fun a w e hs => ⟨e.sub ⟨rfl, rfl, rfl, rfl, rfl, rfl, rfl, rfl, rfl, rfl, trivial⟩, hs⟩) ?_ (fun J1923 => ?_)
                      · rintro ⟨x1909, x1910, x1911, x1912⟩ hrun
                        have hrun := (hl1914 _).symm.trans hrun
                        · refine At.ibx ?_
                          refine At.ibn ?_
                          refine At.thn ?_
                          refine At.region ?_
                          refine At.run 2 rfl ?_
                          refine At.nil ?_
                          refine At.thn ?_
                          refine At.round ?_
                          refine At.seq ?_
                          refine At.region ?_
                          refine At.run 1 rfl ?_
                          refine At.nil ?_
                          refine At.thn ?_
                          refine At.seq ?_
                          refine At.condF rfl rfl ?_
                          refine At.exit ?_
                          refine At.the ?_
                          refine At.the ?_
                          refine At.ibx ?_
                          refine At.thn ?_
                          refine At.seq ?_
                          refine At.seq ?_
                          refine At.region ?_
                          refine At.run 2 rfl ?_
                          refine At.nil ?_
                          refine At.thn ?_
                          refine At.block ?_
                          obtain ⟨G2726, hl2727, hr2728, hrun⟩ := bjoin hrun
                          obtain ⟨o2729, hlo2730, ho2731⟩ := bsome hrun
                          clear hrun
                          unfold judge_court_part.l2 at hlo2730
                          obtain ⟨m2732, hit2734⟩ := iter_some.1 hlo2730
                          clear hlo2730
                          refine At.loopJ (X := Int) (Y := Unit) (e0 := 4) (fun x2525 => [(0, .pointer (some ⟨b0, 0, none⟩)), (2, .pointer (some ⟨b268, 0, none⟩)), (4, .pointer (some ⟨b269, 0, none⟩)), (65, .int .i64 (a0_0.length : Int)), (66, .int .i64 x2525)]) (fun x2525 => pt b0 (.cells [.slice A0_0 a0_0.length c0_0, .slice A0_1 a0_1.length c0_1, .slice A0_2 a0_2.length c0_2, .slice A0_3 a0_3.length c0_3, .slice A0_4 a0_4.length c0_4, .slice A0_5 a0_5.length c0_5, .slice A0_6 a0_6.length c0_6, .slice A271 ((List.replicate (a0_0.length : Int).toNat (0 : Int)).length) c272, .slice A1096 ((List.replicate (a0_0.length : Int).toNat (0 : Int)).length) c1097].toArray 74) :: row (Fl.int .i64) 3 A1096 ((List.replicate (a0_0.length : Int).toNat (0 : Int)).length) c1097 x1909 :: row (Fl.int .i64) 3 A271 ((List.replicate (a0_0.length : Int).toNat (0 : Int)).length) c272 x1082 :: pt b269 (.cells [.int .i64 x1910, .int .i64 x1911, .int .i64 x1912].toArray 44) :: pt b268 (.cells [.int .i64 0, .int .i64 0, .int .i64 0].toArray 44) :: row (Fl.int .i64) 3 A0_7 a0_7.length c0_7 a0_7 :: row (Fl.int .i64) 3 A0_8 a0_8.length c0_8 a0_8 :: Fr) (fun m_ => fun x2525 => iterN (fun t_ : Int => judge_court_part.l2b a0_0 x1082 x1909 t_) m_ x2525 = some o2729) m2732 0 hit2734 (fun _ => [(2, .pointer (some ⟨b268, 0, none⟩)), (4, .pointer (some ⟨b269, 0, none⟩))]) (fun _ => pt b0 (.cells [.slice A0_0 a0_0.length c0_0, .slice A0_1 a0_1.length c0_1, .slice A0_2 a0_2.length c0_2, .slice A0_3 a0_3.length c0_3, .slice A0_4 a0_4.length c0_4, .slice A0_5 a0_5.length c0_5, .slice A0_6 a0_6.length c0_6, .slice A271 ((List.replicate (a0_0.length : Int).toNat (0 : Int)).length) c272, .slice A1096 ((List.replicate (a0_0.length : Int).toNat (0 : Int)).length) c1097].toArray 74) :: row (Fl.int .i64) 3 A1096 ((List.replicate (a0_0.length : Int).toNat (0 : Int)).length) c1097 x1909 :: row (Fl.int .i64) 3 A271 ((List.replicate (a0_0.length : Int).toNat (0 : Int)).length) c272 x1082 :: pt b269 (.cells [.int .i64 x1910, .int .i64 x1911, .int .i64 x1912].toArray 44) :: pt b268 (.cells [.int .i64 0, .int .i64 0, .int .i64 0].toArray 44) :: row (Fl.int .i64) 3 A0_7 a0_7.length c0_7 a0_7 :: row (Fl.int .i64) 3 A0_8 a0_8.length c0_8 a0_8 :: Fr) (fun _ => G2726 (.inl ()) = some r) (fun a w e hs => ⟨e.sub ⟨rfl, rfl, rfl, rfl, rfl, trivial⟩, hs⟩) ?_ (fun J2736 => ?_)
                          · rintro _ hrun
                            have hrun := (hl2727 _).symm.trans hrun
                            · refine At.ibx ?_
                              refine At.thn ?_
                              refine At.seq ?_
                              refine At.region ?_
                              refine At.y (Y.load rfl rfl (.s (.s (.s .z))) rfl rfl rfl) rfl rfl rfl ?_
                              refine At.store rfl rfl rfl rfl (.s (.s (.s (.s .z)))) rfl rfl rfl (.c (.c (.c .n))) ?_
                              refine At.nil ?_
                              refine At.thn ?_
                              refine At.ret ?_
                              refine At.resM (.inl rfl) rfl (RV.cell rfl rfl .z rfl rfl rfl RV.nil) ?_
                              refine At.drop .z ?_
                              refine At.drop (.s (.s (.s .z))) ?_
                              refine At.frt (.s (.s (.s (.s .z)))) ?_
                              refine At.frt (.s (.s (.s (.s .z)))) ?_
                              refine At.frt (.s (.s .z)) ?_
                              refine At.frt (.s (.s (.s .z))) ?_
                              refine At.frt (.s (.s (.s (.s .z)))) ?_
                              obtain rfl := (bret hrun).symm
                              exact fun a w e hs => ⟨_, ⟨A1096, c1097, A271, c272, rfl, rfl⟩, hs⟩
                          · clear hit2734 m2732
                            rintro m2732 x2525 hit2734
                            obtain ⟨m2733, f_, hlt2735, hf_, hrun⟩ := bit hit2734
                            clear hit2734
                            have hrun : (judge_court_part.l2b a0_0 x1082 x1909 x2525).bind _ = some o2729 := hrun
                            unfold judge_court_part.l2b at hrun
                            · refine At.seq ?_
                              refine At.region ?_
                              refine At.run 1 rfl ?_
                              refine At.nil ?_
                              refine At.thn ?_
                              refine At.seq ?_
                              rcases bite hrun with ⟨h2737, hrun⟩ | ⟨h2737, hrun⟩
                              · · refine At.condT rfl (decide_eq_true h2737) ?_
                                  refine At.skip ?_
                                  refine At.thn ?_
                                  refine At.seq ?_
                                  refine At.block ?_
                                  refine At.seq ?_
                                  refine At.region ?_
                                  refine At.run 2 rfl ?_
                                  refine At.nil ?_
                                  refine At.thn ?_
                                  refine At.seq ?_
                                  refine At.quiet (by kernel_rfl) ?_
                                  refine At.Quiet.run 3 rfl ?_
                                  refine At.Quiet.y (Y.ixArrK rfl rfl rfl rfl rfl (show (0 : Int) ≤ 0 ∧ (0 : Int) < 2 by decide).1 (show (0 : Int) ≤ 0 ∧ (0 : Int) < 2 by decide).2 (q := 0) (off := 7) rfl rfl) rfl rfl rfl ?_
                                  refine At.Quiet.y (Y.load rfl rfl .z rfl rfl rfl) rfl rfl rfl ?_
                                  refine At.Quiet.run 1 rfl ?_
                                  obtain ⟨h2738, hrun⟩ := bnone hrun
                                  refine At.Quiet.y (Y.ix (.s (.s .z)) rfl rfl rfl rfl rfl rfl h2738.1 h2738.2) rfl rfl rfl ?_
                                  refine At.Quiet.y (Y.ld (.s (.s .z)) (q := 0) rfl rfl h2738.1 h2738.2 rfl rfl rfl) rfl rfl rfl ?_
                                  refine At.Quiet.run 3 rfl ?_
                                  refine At.Quiet.y (Y.ixArrK rfl rfl rfl rfl rfl (show (0 : Int) ≤ 1 ∧ (1 : Int) < 2 by decide).1 (show (0 : Int) ≤ 1 ∧ (1 : Int) < 2 by decide).2 (q := 1) (off := 8) rfl rfl) rfl rfl rfl ?_
                                  refine At.Quiet.y (Y.load rfl rfl .z rfl rfl rfl) rfl rfl rfl ?_
                                  refine At.Quiet.run 1 rfl ?_
                                  refine At.Quiet.y (Y.ix (.s .z) rfl rfl rfl rfl rfl rfl h2738.1 h2738.2) rfl rfl rfl ?_
                                  refine At.Quiet.y (Y.ld (.s .z) (q := 0) rfl rfl h2738.1 h2738.2 rfl rfl rfl) rfl rfl rfl ?_
                                  refine At.Quiet.run 2 rfl ?_
                                  refine At.Quiet.nil ?_
                                  refine At.thn ?_
                                  rcases bite hrun with ⟨h2739, hrun⟩ | ⟨h2739, hrun⟩
                                  · · refine At.condF rfl (nf (decide_eq_true h2739)) ?_
                                      refine At.skip ?_
                                      refine At.ibn ?_
                                      refine At.thn ?_
                                      refine At.region ?_
                                      refine At.run 2 rfl ?_
                                      refine At.nil ?_
                                      have hrun := bnx hf_ hrun
                                      exact fun a w e hs => ⟨m2733, (IntKind.i64.wrap (x2525 + 1)), hlt2735, hrun, e.sub ⟨rfl, rfl, rfl, rfl, rfl, trivial⟩, hs⟩
                                  · · refine At.condT rfl (nt (decide_eq_false h2739)) ?_
                                      refine At.seq ?_
                                      refine At.region ?_
                                      refine At.run 1 rfl ?_
                                      refine At.y (Y.build (is := [0, 2]) (xo := [.const (.int .i64 19), .tmp 87]) (vs := [.int .i64 19, .int .i64 x2525]) (cs := [.int .i64 19, .int .i64 0, .int .i64 x2525]) rfl rfl rfl rfl rfl rfl) rfl rfl rfl ?_
                                      refine At.store rfl rfl rfl rfl (.s (.s (.s (.s .z)))) rfl rfl rfl (.c (.c (.c .n))) ?_
                                      refine At.nil ?_
                                      refine At.thn ?_
                                      refine At.ret ?_
                                      refine At.ibr ?_
                                      refine At.thr ?_
                                      have hrun := bupL hr2728 ho2731 hrun
                                      refine At.thr ?_
                                      refine At.ibr ?_
                                      refine At.thr ?_
                                      refine At.resM (.inl rfl) rfl (RV.cell rfl rfl .z rfl rfl rfl RV.nil) ?_
                                      refine At.drop .z ?_
                                      refine At.drop (.s (.s (.s .z))) ?_
                                      refine At.frt (.s (.s (.s (.s .z)))) ?_
                                      refine At.frt (.s (.s (.s (.s .z)))) ?_
                                      refine At.frt (.s (.s .z)) ?_
                                      refine At.frt (.s (.s (.s .z))) ?_
                                      refine At.frt (.s (.s (.s (.s .z)))) ?_
                                      obtain rfl := (bret hrun).symm
                                      exact fun a w e hs => ⟨_, ⟨A1096, c1097, A271, c272, rfl, rfl⟩, hs⟩
                              · · refine At.condF rfl (decide_eq_false h2737) ?_
                                  refine At.exit ?_
                                  refine At.the ?_
                                  refine At.the ?_
                                  exact fun a w e hs => J2736 () (bdn hrun ho2731) a w (e.sub ⟨rfl, rfl, trivial⟩) hs
                      · clear hit1921 m1919
                        rintro m1919 ⟨x1704, x1705, x1706, x1707, x1708⟩ hit1921
                        obtain ⟨m1920, f_, hlt1922, hf_, hrun⟩ := bit hit1921
                        clear hit1921
                        have hrun : (judge_court_part.l1b a0_0 a0_4 x1704 x1705 x1706 x1707 x1708).bind _ = some o1916 := hrun
                        unfold judge_court_part.l1b at hrun
                        · refine At.seq ?_
                          refine At.region ?_
                          refine At.run 1 rfl ?_
                          refine At.nil ?_
                          refine At.thn ?_
                          refine At.seq ?_
                          rcases bite hrun with ⟨h2740, hrun⟩ | ⟨h2740, hrun⟩
                          · · refine At.condT rfl (decide_eq_true h2740) ?_
                              refine At.skip ?_
                              refine At.thn ?_
                              refine At.seq ?_
                              obtain ⟨G2741, hl2742, hr2743, hrun⟩ := bjoin hrun
                              refine At.join (X := (List Int) × Int × Int × Int) (fun s_ => [(0, .pointer (some ⟨b0, 0, none⟩)), (2, .pointer (some ⟨b268, 0, none⟩)), (3, .int .i64 (a0_0.length : Int)), (4, .pointer (some ⟨b269, 0, none⟩)), (5, .int .i64 1), (21, .agg #[.slice A0_3 a0_3.length c0_3, .slice A0_4 a0_4.length c0_4]), (22, .int .i64 1), (33, .slice A0_4 a0_4.length c0_4), (34, .int .i64 (a0_4.length : Int)), (35, .int .i64 x1708)]) (fun s_ => row (Fl.int .i64) 3 A1096 ((List.replicate (a0_0.length : Int).toNat (0 : Int)).length) c1097 s_.1 :: pt b0 (.cells [.slice A0_0 a0_0.length c0_0, .slice A0_1 a0_1.length c0_1, .slice A0_2 a0_2.length c0_2, .slice A0_3 a0_3.length c0_3, .slice A0_4 a0_4.length c0_4, .slice A0_5 a0_5.length c0_5, .slice A0_6 a0_6.length c0_6, .slice A271 ((List.replicate (a0_0.length : Int).toNat (0 : Int)).length) c272, .slice A1096 ((List.replicate (a0_0.length : Int).toNat (0 : Int)).length) c1097].toArray 74) :: row (Fl.int .i64) 3 A271 ((List.replicate (a0_0.length : Int).toNat (0 : Int)).length) c272 x1082 :: pt b269 (.cells [.int .i64 s_.2.1, .int .i64 s_.2.2.1, .int .i64 s_.2.2.2].toArray 44) :: pt b268 (.cells [.int .i64 0, .int .i64 0, .int .i64 0].toArray 44) :: row (Fl.int .i64) 3 A0_7 a0_7.length c0_7 a0_7 :: row (Fl.int .i64) 3 A0_8 a0_8.length c0_8 a0_8 :: Fr) (fun s_ => G2741 (.inl (s_.1, s_.2.1, s_.2.2.1, s_.2.2.2)) = some o1916) ?_ (fun J2744 => ?_)
                              · rintro ⟨x2945, x2946, x2947, x2948⟩ hrun
                                have hrun := (hl2742 _).symm.trans hrun
                                · refine At.region ?_
                                  refine At.run 2 rfl ?_
                                  refine At.nil ?_
                                  refine At.frt (.s (.s (.s (.s (.s (.s .z)))))) ?_
                                  refine At.frt (.s (.s (.s (.s (.s (.s .z)))))) ?_
                                  refine At.frt (.s (.s (.s (.s (.s (.s .z)))))) ?_
                                  refine At.frt (.s (.s (.s (.s (.s (.s .z)))))) ?_
                                  refine At.frt (.s (.s (.s (.s (.s (.s .z)))))) ?_
                                  refine At.frt (.s (.s (.s (.s (.s .z))))) ?_
                                  refine At.frt (.s (.s (.s (.s (.s (.s .z)))))) ?_
                                  have hrun := bnx hf_ hrun
                                  exact fun a w e hs => ⟨m1920, (x2945, x2946, x2947, x2948, IntKind.i64.wrap (x1708 + 1)), hlt1922, hrun, e.sub ⟨rfl, rfl, rfl, rfl, rfl, rfl, rfl, rfl, rfl, rfl, trivial⟩, hs⟩
                              · · refine At.block ?_
                                  refine At.seq ?_
                                  refine At.region ?_
                                  obtain ⟨h2949, hrun⟩ := bnone hrun
                                  refine At.y (Y.ixRd hr0_4 rfl rfl rfl rfl rfl rfl rfl h2949.1 h2949.2) rfl rfl rfl ?_
                                  refine At.y (Y.ldFl hr0_4 rfl (q := 0) rfl rfl h2949.1 h2949.2 rfl rfl rfl) rfl rfl rfl ?_
                                  refine At.run 1 rfl ?_
                                  refine At.nil ?_
                                  refine At.thn ?_
                                  refine At.seq ?_
                                  refine At.region ?_
                                  refine At.run 3 rfl ?_
                                  obtain ⟨G3151, hl3152, hr3153, hrun⟩ := bjoin hrun
                                  refine At.joinO 4 (X := Bool) (fun x3150 => [(0, .pointer (some ⟨b0, 0, none⟩)), (2, .pointer (some ⟨b268, 0, none⟩)), (3, .int .i64 (a0_0.length : Int)), (4, .pointer (some ⟨b269, 0, none⟩)), (5, .int .i64 1), (8, .int .i64 (gt a0_4 x1708)), (21, .agg #[.slice A0_3 a0_3.length c0_3, .slice A0_4 a0_4.length c0_4]), (22, .int .i64 1), (33, .slice A0_4 a0_4.length c0_4), (34, .int .i64 (a0_4.length : Int)), (35, .int .i64 x1708), (45, .bool x3150)]) (fun x3150 => pt b0 (.cells [.slice A0_0 a0_0.length c0_0, .slice A0_1 a0_1.length c0_1, .slice A0_2 a0_2.length c0_2, .slice A0_3 a0_3.length c0_3, .slice A0_4 a0_4.length c0_4, .slice A0_5 a0_5.length c0_5, .slice A0_6 a0_6.length c0_6, .slice A271 ((List.replicate (a0_0.length : Int).toNat (0 : Int)).length) c272, .slice A1096 ((List.replicate (a0_0.length : Int).toNat (0 : Int)).length) c1097].toArray 74) :: row (Fl.int .i64) 3 A1096 ((List.replicate (a0_0.length : Int).toNat (0 : Int)).length) c1097 x1704 :: row (Fl.int .i64) 3 A271 ((List.replicate (a0_0.length : Int).toNat (0 : Int)).length) c272 x1082 :: pt b269 (.cells [.int .i64 x1705, .int .i64 x1706, .int .i64 x1707].toArray 44) :: pt b268 (.cells [.int .i64 0, .int .i64 0, .int .i64 0].toArray 44) :: row (Fl.int .i64) 3 A0_7 a0_7.length c0_7 a0_7 :: row (Fl.int .i64) 3 A0_8 a0_8.length c0_8 a0_8 :: Fr) (fun x3150 => G3151 (.inl x3150) = some o1916) ?_ (fun J3154 => ?_)
                                  · rintro x3150 hrun
                                    have hrun := (hl3152 _).symm.trans hrun
                                    · refine At.nil ?_
                                      refine At.thn ?_
                                      rcases bite hrun with ⟨h3155, hrun⟩ | ⟨h3155, hrun⟩
                                      · · refine At.condT rfl h3155 ?_
                                          refine At.region ?_
                                          refine At.run 4 rfl ?_
                                          refine At.y (Y.ixArrK rfl rfl rfl rfl rfl (show (0 : Int) ≤ 1 ∧ (1 : Int) < 2 by decide).1 (show (0 : Int) ≤ 1 ∧ (1 : Int) < 2 by decide).2 (q := 1) (off := 8) rfl rfl) rfl rfl rfl ?_
                                          refine At.y (Y.load rfl rfl .z rfl rfl rfl) rfl rfl rfl ?_
                                          refine At.run 1 rfl ?_
                                          obtain ⟨h3156, hrun⟩ := bnone hrun
                                          refine At.y (Y.ix (.s .z) rfl rfl rfl rfl rfl rfl h3156.1 h3156.2) rfl rfl rfl ?_
                                          refine At.y (Y.ld (.s .z) (q := 0) rfl rfl h3156.1 h3156.2 rfl rfl rfl) rfl rfl rfl ?_
                                          refine At.run 1 rfl ?_
                                          refine At.y (Y.ix (.s .z) rfl rfl rfl rfl rfl rfl h3156.1 h3156.2) rfl rfl rfl ?_
                                          refine At.st rfl (.s .z) (q := 0) (z := (IntKind.i64.wrap (gt x1704 (gt a0_4 x1708) + 1))) rfl rfl rfl h3156.1 h3156.2 rfl rfl (.c .n) ?_
                                          refine At.nil ?_
                                          refine At.ibn ?_
                                          refine At.thn ?_
                                          exact fun a w e hs => J2744 ((st x1704 (gt a0_4 x1708) (IntKind.i64.wrap (gt x1704 (gt a0_4 x1708) + 1))), x1705, x1706, x1707) hrun a w (e.sub ⟨rfl, rfl, rfl, rfl, rfl, rfl, rfl, rfl, rfl, rfl, trivial⟩) hs
                                      · · refine At.condF rfl (bn h3155) ?_
                                          refine At.seq ?_
                                          refine At.region ?_
                                          refine At.run 1 rfl ?_
                                          refine At.y (Y.load rfl rfl (.s (.s (.s .z))) rfl rfl rfl) rfl rfl rfl ?_
                                          refine At.run 1 rfl ?_
                                          refine At.nil ?_
                                          refine At.thn ?_
                                          rcases bite hrun with ⟨h3157, hrun⟩ | ⟨h3157, hrun⟩
                                          · · refine At.condT rfl (decide_eq_true h3157) ?_
                                              refine At.region ?_
                                              refine At.run 2 rfl ?_
                                              refine At.y (Y.build (is := [0, 1, 2]) (xo := [.const (.int .i64 19), .tmp 60, .tmp 61]) (vs := [.int .i64 19, .int .i64 1, .int .i64 (gt a0_4 x1708)]) (cs := [.int .i64 19, .int .i64 1, .int .i64 (gt a0_4 x1708)]) rfl rfl rfl rfl rfl rfl) rfl rfl rfl ?_
                                              refine At.store rfl rfl rfl rfl (.s (.s (.s .z))) rfl rfl rfl (.c (.c (.c .n))) ?_
                                              refine At.nil ?_
                                              refine At.ibn ?_
                                              refine At.thn ?_
                                              refine At.frt (.s (.s (.s (.s (.s (.s .z)))))) ?_
                                              refine At.frt (.s (.s (.s (.s (.s (.s .z)))))) ?_
                                              refine At.frt (.s (.s (.s (.s (.s (.s .z)))))) ?_
                                              refine At.frt (.s (.s (.s .z))) ?_
                                              refine At.frt (.s (.s (.s (.s (.s (.s .z)))))) ?_
                                              refine At.frt (.s (.s (.s (.s (.s .z))))) ?_
                                              refine At.frt (.s (.s (.s (.s (.s (.s .z)))))) ?_
                                              exact fun a w e hs => J2744 (x1704, 19, 1, gt a0_4 x1708) hrun a w (e.sub ⟨rfl, rfl, rfl, rfl, rfl, rfl, rfl, rfl, rfl, rfl, trivial⟩) hs
                                          · · refine At.condF rfl (decide_eq_false h3157) ?_
                                              refine At.skip ?_
                                              refine At.ibn ?_
                                              refine At.thn ?_
                                              refine At.frt (.s (.s (.s (.s (.s (.s .z)))))) ?_
                                              refine At.frt (.s (.s (.s (.s (.s (.s .z)))))) ?_
                                              refine At.frt (.s (.s (.s (.s (.s (.s .z)))))) ?_
                                              refine At.frt (.s (.s (.s (.s (.s (.s .z)))))) ?_
                                              refine At.frt (.s (.s (.s (.s (.s (.s .z)))))) ?_
                                              refine At.frt (.s (.s (.s (.s (.s .z))))) ?_
                                              refine At.frt (.s (.s (.s (.s (.s (.s .z)))))) ?_
                                              exact fun a w e hs => J2744 (x1704, x1705, x1706, x1707) hrun a w (e.sub ⟨rfl, rfl, rfl, rfl, rfl, rfl, rfl, rfl, rfl, rfl, trivial⟩) hs
                                  · · rcases bite hrun with ⟨h3158, hrun⟩ | ⟨h3158, hrun⟩
                                      · · refine At.know (t := 41) rfl (decide_eq_true h3158) ?_
                                          refine At.run 4 rfl ?_
                                          exact At.of (J3154 (decide (gt a0_4 x1708 < (a0_0.length : Int))) hrun) ⟨rfl, rfl, rfl, rfl, rfl, rfl, rfl, rfl, rfl, rfl, rfl, rfl, trivial⟩
                                      · · refine At.know (t := 41) rfl (decide_eq_false h3158) ?_
                                          refine At.run 4 rfl ?_
                                          exact At.of (J3154 false hrun) ⟨rfl, rfl, rfl, rfl, rfl, rfl, rfl, rfl, rfl, rfl, rfl, rfl, trivial⟩
                          · · refine At.condF rfl (decide_eq_false h2740) ?_
                              refine At.exit ?_
                              refine At.the ?_
                              refine At.the ?_
                              exact fun a w e hs => J1923 (x1704, x1705, x1706, x1707) (bdn hrun ho1918) a w (e.sub ⟨rfl, rfl, rfl, rfl, rfl, rfl, trivial⟩) hs
          · clear hit1093 m1091
            rintro m1091 ⟨x878, x879, x880, x881⟩ hit1093
            obtain ⟨m1092, f_, hlt1094, hf_, hrun⟩ := bit hit1093
            clear hit1093
            have hrun : (judge_court_part.l0b a0_0 a0_3 x878 x879 x880 x881).bind _ = some o1088 := hrun
            unfold judge_court_part.l0b at hrun
            · refine At.seq ?_
              refine At.region ?_
              refine At.run 1 rfl ?_
              refine At.nil ?_
              refine At.thn ?_
              refine At.seq ?_
              rcases bite hrun with ⟨h3159, hrun⟩ | ⟨h3159, hrun⟩
              · · refine At.condT rfl (decide_eq_true h3159) ?_
                  refine At.skip ?_
                  refine At.thn ?_
                  refine At.seq ?_
                  obtain ⟨G3160, hl3161, hr3162, hrun⟩ := bjoin hrun
                  refine At.join (X := (List Int) × Int × Int) (fun s_ => [(0, .pointer (some ⟨b0, 0, none⟩)), (2, .pointer (some ⟨b268, 0, none⟩)), (3, .int .i64 (a0_0.length : Int)), (4, .pointer (some ⟨b269, 0, none⟩)), (5, .int .i64 0), (21, .agg #[.slice A0_3 a0_3.length c0_3, .slice A0_4 a0_4.length c0_4]), (22, .int .i64 0), (33, .slice A0_3 a0_3.length c0_3), (34, .int .i64 (a0_3.length : Int)), (35, .int .i64 x881)]) (fun s_ => row (Fl.int .i64) 3 A271 ((List.replicate (a0_0.length : Int).toNat (0 : Int)).length) c272 s_.1 :: pt b0 (.cells [.slice A0_0 a0_0.length c0_0, .slice A0_1 a0_1.length c0_1, .slice A0_2 a0_2.length c0_2, .slice A0_3 a0_3.length c0_3, .slice A0_4 a0_4.length c0_4, .slice A0_5 a0_5.length c0_5, .slice A0_6 a0_6.length c0_6, .slice A271 ((List.replicate (a0_0.length : Int).toNat (0 : Int)).length) c272, .slice A0_8 a0_8.length c0_8].toArray 74) :: pt b269 (.cells [.int .i64 s_.2.1, .int .i64 0, .int .i64 s_.2.2].toArray 44) :: pt b268 (.cells [.int .i64 0, .int .i64 0, .int .i64 0].toArray 44) :: row (Fl.int .i64) 3 A0_7 a0_7.length c0_7 a0_7 :: row (Fl.int .i64) 3 A0_8 a0_8.length c0_8 a0_8 :: Fr) (fun s_ => G3160 (.inl (s_.1, s_.2.1, s_.2.2)) = some o1088) ?_ (fun J3163 => ?_)
                  · rintro ⟨x3364, x3365, x3366⟩ hrun
                    have hrun := (hl3161 _).symm.trans hrun
                    · refine At.region ?_
                      refine At.run 2 rfl ?_
                      refine At.nil ?_
                      refine At.frt (.s (.s (.s (.s (.s .z))))) ?_
                      refine At.frt (.s (.s (.s (.s (.s .z))))) ?_
                      refine At.frt (.s (.s (.s (.s (.s .z))))) ?_
                      refine At.frt (.s (.s (.s (.s (.s .z))))) ?_
                      refine At.frt (.s (.s (.s (.s .z)))) ?_
                      refine At.frt (.s (.s (.s (.s (.s .z))))) ?_
                      have hrun := bnx hf_ hrun
                      exact fun a w e hs => ⟨m1092, (x3364, x3365, x3366, IntKind.i64.wrap (x881 + 1)), hlt1094, hrun, e.sub ⟨rfl, rfl, rfl, rfl, rfl, rfl, rfl, rfl, rfl, rfl, trivial⟩, hs⟩
                  · · refine At.block ?_
                      refine At.seq ?_
                      refine At.region ?_
                      obtain ⟨h3367, hrun⟩ := bnone hrun
                      refine At.y (Y.ixRd hr0_3 rfl rfl rfl rfl rfl rfl rfl h3367.1 h3367.2) rfl rfl rfl ?_
                      refine At.y (Y.ldFl hr0_3 rfl (q := 0) rfl rfl h3367.1 h3367.2 rfl rfl rfl) rfl rfl rfl ?_
                      refine At.run 1 rfl ?_
                      refine At.nil ?_
                      refine At.thn ?_
                      refine At.seq ?_
                      refine At.region ?_
                      refine At.run 3 rfl ?_
                      obtain ⟨G3569, hl3570, hr3571, hrun⟩ := bjoin hrun
                      refine At.joinO 4 (X := Bool) (fun x3568 => [(0, .pointer (some ⟨b0, 0, none⟩)), (2, .pointer (some ⟨b268, 0, none⟩)), (3, .int .i64 (a0_0.length : Int)), (4, .pointer (some ⟨b269, 0, none⟩)), (5, .int .i64 0), (8, .int .i64 (gt a0_3 x881)), (21, .agg #[.slice A0_3 a0_3.length c0_3, .slice A0_4 a0_4.length c0_4]), (22, .int .i64 0), (33, .slice A0_3 a0_3.length c0_3), (34, .int .i64 (a0_3.length : Int)), (35, .int .i64 x881), (45, .bool x3568)]) (fun x3568 => pt b0 (.cells [.slice A0_0 a0_0.length c0_0, .slice A0_1 a0_1.length c0_1, .slice A0_2 a0_2.length c0_2, .slice A0_3 a0_3.length c0_3, .slice A0_4 a0_4.length c0_4, .slice A0_5 a0_5.length c0_5, .slice A0_6 a0_6.length c0_6, .slice A271 ((List.replicate (a0_0.length : Int).toNat (0 : Int)).length) c272, .slice A0_8 a0_8.length c0_8].toArray 74) :: row (Fl.int .i64) 3 A271 ((List.replicate (a0_0.length : Int).toNat (0 : Int)).length) c272 x878 :: pt b269 (.cells [.int .i64 x879, .int .i64 0, .int .i64 x880].toArray 44) :: pt b268 (.cells [.int .i64 0, .int .i64 0, .int .i64 0].toArray 44) :: row (Fl.int .i64) 3 A0_7 a0_7.length c0_7 a0_7 :: row (Fl.int .i64) 3 A0_8 a0_8.length c0_8 a0_8 :: Fr) (fun x3568 => G3569 (.inl x3568) = some o1088) ?_ (fun J3572 => ?_)
                      · rintro x3568 hrun
                        have hrun := (hl3570 _).symm.trans hrun
                        · refine At.nil ?_
                          refine At.thn ?_
                          rcases bite hrun with ⟨h3573, hrun⟩ | ⟨h3573, hrun⟩
                          · · refine At.condT rfl h3573 ?_
                              refine At.region ?_
                              refine At.run 4 rfl ?_
                              refine At.y (Y.ixArrK rfl rfl rfl rfl rfl (show (0 : Int) ≤ 0 ∧ (0 : Int) < 2 by decide).1 (show (0 : Int) ≤ 0 ∧ (0 : Int) < 2 by decide).2 (q := 0) (off := 7) rfl rfl) rfl rfl rfl ?_
                              refine At.y (Y.load rfl rfl .z rfl rfl rfl) rfl rfl rfl ?_
                              refine At.run 1 rfl ?_
                              obtain ⟨h3574, hrun⟩ := bnone hrun
                              refine At.y (Y.ix (.s .z) rfl rfl rfl rfl rfl rfl h3574.1 h3574.2) rfl rfl rfl ?_
                              refine At.y (Y.ld (.s .z) (q := 0) rfl rfl h3574.1 h3574.2 rfl rfl rfl) rfl rfl rfl ?_
                              refine At.run 1 rfl ?_
                              refine At.y (Y.ix (.s .z) rfl rfl rfl rfl rfl rfl h3574.1 h3574.2) rfl rfl rfl ?_
                              refine At.st rfl (.s .z) (q := 0) (z := (IntKind.i64.wrap (gt x878 (gt a0_3 x881) + 1))) rfl rfl rfl h3574.1 h3574.2 rfl rfl (.c .n) ?_
                              refine At.nil ?_
                              refine At.ibn ?_
                              refine At.thn ?_
                              exact fun a w e hs => J3163 ((st x878 (gt a0_3 x881) (IntKind.i64.wrap (gt x878 (gt a0_3 x881) + 1))), x879, x880) hrun a w (e.sub ⟨rfl, rfl, rfl, rfl, rfl, rfl, rfl, rfl, rfl, rfl, trivial⟩) hs
                          · · refine At.condF rfl (bn h3573) ?_
                              refine At.seq ?_
                              refine At.region ?_
                              refine At.run 1 rfl ?_
                              refine At.y (Y.load rfl rfl (.s (.s .z)) rfl rfl rfl) rfl rfl rfl ?_
                              refine At.run 1 rfl ?_
                              refine At.nil ?_
                              refine At.thn ?_
                              rcases bite hrun with ⟨h3575, hrun⟩ | ⟨h3575, hrun⟩
                              · · refine At.condT rfl (decide_eq_true h3575) ?_
                                  refine At.region ?_
                                  refine At.run 2 rfl ?_
                                  refine At.y (Y.build (is := [0, 1, 2]) (xo := [.const (.int .i64 19), .tmp 60, .tmp 61]) (vs := [.int .i64 19, .int .i64 0, .int .i64 (gt a0_3 x881)]) (cs := [.int .i64 19, .int .i64 0, .int .i64 (gt a0_3 x881)]) rfl rfl rfl rfl rfl rfl) rfl rfl rfl ?_
                                  refine At.store rfl rfl rfl rfl (.s (.s .z)) rfl rfl rfl (.c (.c (.c .n))) ?_
                                  refine At.nil ?_
                                  refine At.ibn ?_
                                  refine At.thn ?_
                                  refine At.frt (.s (.s (.s (.s (.s .z))))) ?_
                                  refine At.frt (.s (.s (.s (.s (.s .z))))) ?_
                                  refine At.frt (.s (.s (.s (.s (.s .z))))) ?_
                                  refine At.frt (.s (.s (.s .z))) ?_
                                  refine At.frt (.s (.s (.s (.s .z)))) ?_
                                  refine At.frt (.s (.s (.s (.s (.s .z))))) ?_
                                  exact fun a w e hs => J3163 (x878, 19, gt a0_3 x881) hrun a w (e.sub ⟨rfl, rfl, rfl, rfl, rfl, rfl, rfl, rfl, rfl, rfl, trivial⟩) hs
                              · · refine At.condF rfl (decide_eq_false h3575) ?_
                                  refine At.skip ?_
                                  refine At.ibn ?_
                                  refine At.thn ?_
                                  refine At.frt (.s (.s (.s (.s (.s .z))))) ?_
                                  refine At.frt (.s (.s (.s (.s (.s .z))))) ?_
                                  refine At.frt (.s (.s (.s (.s (.s .z))))) ?_
                                  refine At.frt (.s (.s (.s (.s (.s .z))))) ?_
                                  refine At.frt (.s (.s (.s (.s .z)))) ?_
                                  refine At.frt (.s (.s (.s (.s (.s .z))))) ?_
                                  exact fun a w e hs => J3163 (x878, x879, x880) hrun a w (e.sub ⟨rfl, rfl, rfl, rfl, rfl, rfl, rfl, rfl, rfl, rfl, trivial⟩) hs
                      · · rcases bite hrun with ⟨h3576, hrun⟩ | ⟨h3576, hrun⟩
                          · · refine At.know (t := 41) rfl (decide_eq_true h3576) ?_
                              refine At.run 4 rfl ?_
                              exact At.of (J3572 (decide (gt a0_3 x881 < (a0_0.length : Int))) hrun) ⟨rfl, rfl, rfl, rfl, rfl, rfl, rfl, rfl, rfl, rfl, rfl, rfl, trivial⟩
                          · · refine At.know (t := 41) rfl (decide_eq_false h3576) ?_
                              refine At.run 4 rfl ?_
                              exact At.of (J3572 false hrun) ⟨rfl, rfl, rfl, rfl, rfl, rfl, rfl, rfl, rfl, rfl, rfl, rfl, trivial⟩
              · · refine At.condF rfl (decide_eq_false h3159) ?_
                  refine At.exit ?_
                  refine At.the ?_
                  refine At.the ?_
                  exact fun a w e hs => J1095 (x878, x879, x880) (bdn hrun ho1090) a w (e.sub ⟨rfl, rfl, rfl, rfl, rfl, rfl, trivial⟩) hs

noncomputable def judge_court_move.f (a0_0 : List Int) (a0_1 : List Int) (a0_2 : List (List Int)) (a0_3 : List Int) (a0_4 : List Int) (a0_5 : List Int) (a0_6 : List Int) (a0_7 : List Int) (a0_8 : List Int) (a1 : Int) (a2 : Int) : Option Int :=
  jn (
    if (0 : Int) ≤ a1 ∧ a1 < (2 : Int) then
      if a1 = 0 then
        some (.inl (decide (a2 < (a0_5.length : Int))))
      else
        some (.inl (decide (a2 < (a0_6.length : Int))))
    else none) (fun (x456 : Bool) =>
    if x456 = true then
      jn (
        if (0 : Int) ≤ a1 ∧ a1 < (2 : Int) then
          if a1 = 0 then
            if (0 : Int) ≤ a2 ∧ a2 < (a0_5.length : Int) then
              some (.inl (gt a0_5 a2))
            else none
          else
            if (0 : Int) ≤ a2 ∧ a2 < (a0_6.length : Int) then
              some (.inl (gt a0_6 a2))
            else none
        else none) (fun (x662 : Int) =>
        some x662)
    else
      some (-1))
theorem judge_court_move.callee : Callee Go.Proofs.Try.prog 61 := ⟨_, Go.Proofs.Try.func61, by kernel_rfl, by kernel_rfl⟩
set_option maxRecDepth 100000 in
set_option maxHeartbeats 2000000 in
theorem judge_court_move.spec (R : Res) (Fr : List HProp) (b0 : Nat) (A0_0 : Option Addr) (n0_0 : Nat) (c0_0 : Nat) (A0_1 : Option Addr) (n0_1 : Nat) (c0_1 : Nat) (A0_2 : Option Addr) (n0_2 : Nat) (c0_2 : Nat) (A0_3 : Option Addr) (n0_3 : Nat) (c0_3 : Nat) (A0_4 : Option Addr) (n0_4 : Nat) (c0_4 : Nat) (A0_5 : Option Addr) (n0_5 : Nat) (c0_5 : Nat) (A0_6 : Option Addr) (n0_6 : Nat) (c0_6 : Nat) (A0_7 : Option Addr) (n0_7 : Nat) (c0_7 : Nat) (A0_8 : Option Addr) (n0_8 : Nat) (c0_8 : Nat) (a0_0 : List Int) (a0_1 : List Int) (a0_2 : List (List Int)) (a0_3 : List Int) (a0_4 : List Int) (a0_5 : List Int) (a0_6 : List Int) (a0_7 : List Int) (a0_8 : List Int) (a1 : Int) (a2 : Int) (hr0_0 : RdS (Fl.int .i64).rep R.heap A0_0 a0_0) (hn0_0 : a0_0.length = n0_0) (hc0_0 : n0_0 ≤ c0_0) (hr0_1 : RdS (Fl.int .i64).rep R.heap A0_1 a0_1) (hn0_1 : a0_1.length = n0_1) (hc0_1 : n0_1 ≤ c0_1) (hr0_2 : RdS ((Fl.int .i64).rep).slice R.heap A0_2 a0_2) (hn0_2 : a0_2.length = n0_2) (hc0_2 : n0_2 ≤ c0_2) (hr0_3 : RdS (Fl.int .i64).rep R.heap A0_3 a0_3) (hn0_3 : a0_3.length = n0_3) (hc0_3 : n0_3 ≤ c0_3) (hr0_4 : RdS (Fl.int .i64).rep R.heap A0_4 a0_4) (hn0_4 : a0_4.length = n0_4) (hc0_4 : n0_4 ≤ c0_4) (hr0_5 : RdS (Fl.int .i64).rep R.heap A0_5 a0_5) (hn0_5 : a0_5.length = n0_5) (hc0_5 : n0_5 ≤ c0_5) (hr0_6 : RdS (Fl.int .i64).rep R.heap A0_6 a0_6) (hn0_6 : a0_6.length = n0_6) (hc0_6 : n0_6 ≤ c0_6) (hn0_7 : a0_7.length = n0_7) (hn0_8 : a0_8.length = n0_8) {r : Int} (hrun : judge_court_move.f a0_0 a0_1 a0_2 a0_3 a0_4 a0_5 a0_6 a0_7 a0_8 a1 a2 = some r) :
    Spec Go.Proofs.Try.prog 61 [.pointer (some ⟨b0, 0, none⟩), .int .i64 a1, .int .i64 a2] R (pt b0 (.cells [.slice A0_0 n0_0 c0_0, .slice A0_1 n0_1 c0_1, .slice A0_2 n0_2 c0_2, .slice A0_3 n0_3 c0_3, .slice A0_4 n0_4 c0_4, .slice A0_5 n0_5 c0_5, .slice A0_6 n0_6 c0_6, .slice A0_7 n0_7 c0_7, .slice A0_8 n0_8 c0_8].toArray 74) :: row (Fl.int .i64) 3 A0_7 n0_7 c0_7 a0_7 :: row (Fl.int .i64) 3 A0_8 n0_8 c0_8 a0_8 :: Fr) (fun v l' => v = .int .i64 r ∧ pt b0 (.cells [.slice A0_0 n0_0 c0_0, .slice A0_1 n0_1 c0_1, .slice A0_2 n0_2 c0_2, .slice A0_3 n0_3 c0_3, .slice A0_4 n0_4 c0_4, .slice A0_5 n0_5 c0_5, .slice A0_6 n0_6 c0_6, .slice A0_7 n0_7 c0_7, .slice A0_8 n0_8 c0_8].toArray 74) :: row (Fl.int .i64) 3 A0_7 n0_7 c0_7 a0_7 :: row (Fl.int .i64) 3 A0_8 n0_8 c0_8 a0_8 :: Fr = l') := by
  subst hn0_0
  subst hn0_1
  subst hn0_2
  subst hn0_3
  subst hn0_4
  subst hn0_5
  subst hn0_6
  subst hn0_7
  subst hn0_8
  refine Spec.of Go.Proofs.Try.func61 rfl rfl ?_
  unfold judge_court_move.f at hrun
  have hrun := brun hrun
  refine At.seq ?_
  refine At.region ?_
  refine At.run 1 rfl ?_
  refine At.nil ?_
  refine At.thn ?_
  refine At.seq ?_
  refine At.seq ?_
  obtain ⟨G252, hl253, hr254, hrun⟩ := bjoin hrun
  refine At.join (X := Bool) (fun x456 => [(0, .pointer (some ⟨b0, 0, none⟩)), (1, .int .i64 a1), (2, .int .i64 a2), (16, .bool x456)]) (fun x456 => pt b0 (.cells [.slice A0_0 a0_0.length c0_0, .slice A0_1 a0_1.length c0_1, .slice A0_2 a0_2.length c0_2, .slice A0_3 a0_3.length c0_3, .slice A0_4 a0_4.length c0_4, .slice A0_5 a0_5.length c0_5, .slice A0_6 a0_6.length c0_6, .slice A0_7 a0_7.length c0_7, .slice A0_8 a0_8.length c0_8].toArray 74) :: row (Fl.int .i64) 3 A0_7 a0_7.length c0_7 a0_7 :: row (Fl.int .i64) 3 A0_8 a0_8.length c0_8 a0_8 :: Fr) (fun x456 => G252 (.inl x456) = some r) ?_ (fun J255 => ?_)
  · rintro x456 hrun
    have hrun := (hl253 _).symm.trans hrun
    · rcases bite hrun with ⟨h457, hrun⟩ | ⟨h457, hrun⟩
      · · refine At.condT rfl h457 ?_
          refine At.seq ?_
          obtain ⟨G458, hl459, hr460, hrun⟩ := bjoin hrun
          refine At.join (X := Int) (fun x662 => [(6, .int .i64 x662)]) (fun x662 => pt b0 (.cells [.slice A0_0 a0_0.length c0_0, .slice A0_1 a0_1.length c0_1, .slice A0_2 a0_2.length c0_2, .slice A0_3 a0_3.length c0_3, .slice A0_4 a0_4.length c0_4, .slice A0_5 a0_5.length c0_5, .slice A0_6 a0_6.length c0_6, .slice A0_7 a0_7.length c0_7, .slice A0_8 a0_8.length c0_8].toArray 74) :: row (Fl.int .i64) 3 A0_7 a0_7.length c0_7 a0_7 :: row (Fl.int .i64) 3 A0_8 a0_8.length c0_8 a0_8 :: Fr) (fun x662 => G458 (.inl x662) = some r) ?_ (fun J461 => ?_)
          · rintro x662 hrun
            have hrun := (hl459 _).symm.trans hrun
            · refine At.ret ?_
              refine At.thr ?_
              obtain rfl := (bret hrun).symm
              exact At.res (.inl rfl) rfl rfl ⟨rfl, rfl⟩
          · · refine At.region ?_
              refine At.run 5 rfl ?_
              obtain ⟨h663, hrun⟩ := bnone hrun
              rcases bite hrun with ⟨h664, hrun⟩ | ⟨h664, hrun⟩
              · · refine At.y (Y.ixArrK rfl rfl rfl rfl rfl h663.1 h663.2 (q := 0) (off := 5) h664 rfl) rfl rfl rfl ?_
                  refine At.y (Y.load rfl rfl .z rfl rfl rfl) rfl rfl rfl ?_
                  refine At.run 1 rfl ?_
                  obtain ⟨h665, hrun⟩ := bnone hrun
                  refine At.y (Y.ixRd hr0_5 rfl rfl rfl rfl rfl rfl rfl h665.1 h665.2) rfl rfl rfl ?_
                  refine At.y (Y.ldFl hr0_5 rfl (q := 0) rfl rfl h665.1 h665.2 rfl rfl rfl) rfl rfl rfl ?_
                  refine At.run 1 rfl ?_
                  refine At.nil ?_
                  refine At.thn ?_
                  exact fun a w e hs => J461 (gt a0_5 a2) hrun a w (e.sub ⟨rfl, trivial⟩) hs
              · · have h666 : a1 = 1 := by have h1_ := h663; omega
                  refine At.y (Y.ixArrK rfl rfl rfl rfl rfl h663.1 h663.2 (q := 1) (off := 6) h666 rfl) rfl rfl rfl ?_
                  refine At.y (Y.load rfl rfl .z rfl rfl rfl) rfl rfl rfl ?_
                  refine At.run 1 rfl ?_
                  obtain ⟨h667, hrun⟩ := bnone hrun
                  refine At.y (Y.ixRd hr0_6 rfl rfl rfl rfl rfl rfl rfl h667.1 h667.2) rfl rfl rfl ?_
                  refine At.y (Y.ldFl hr0_6 rfl (q := 0) rfl rfl h667.1 h667.2 rfl rfl rfl) rfl rfl rfl ?_
                  refine At.run 1 rfl ?_
                  refine At.nil ?_
                  refine At.thn ?_
                  exact fun a w e hs => J461 (gt a0_6 a2) hrun a w (e.sub ⟨rfl, trivial⟩) hs
      · · refine At.condF rfl (bn h457) ?_
          refine At.skip ?_
          refine At.thn ?_
          refine At.seq ?_
          refine At.region ?_
          refine At.run 1 rfl ?_
          refine At.nil ?_
          refine At.thn ?_
          refine At.ret ?_
          obtain rfl := (bret hrun).symm
          exact At.res (.inl rfl) rfl rfl ⟨rfl, rfl⟩
  · · refine At.region ?_
      refine At.run 6 rfl ?_
      obtain ⟨h668, hrun⟩ := bnone hrun
      rcases bite hrun with ⟨h669, hrun⟩ | ⟨h669, hrun⟩
      · · refine At.y (Y.ixArrK rfl rfl rfl rfl rfl h668.1 h668.2 (q := 0) (off := 5) h669 rfl) rfl rfl rfl ?_
          refine At.y (Y.load rfl rfl .z rfl rfl rfl) rfl rfl rfl ?_
          refine At.run 2 rfl ?_
          refine At.nil ?_
          refine At.thn ?_
          exact fun a w e hs => J255 (decide (a2 < (a0_5.length : Int))) hrun a w (e.sub ⟨rfl, rfl, rfl, rfl, trivial⟩) hs
      · · have h670 : a1 = 1 := by have h1_ := h668; omega
          refine At.y (Y.ixArrK rfl rfl rfl rfl rfl h668.1 h668.2 (q := 1) (off := 6) h670 rfl) rfl rfl rfl ?_
          refine At.y (Y.load rfl rfl .z rfl rfl rfl) rfl rfl rfl ?_
          refine At.run 2 rfl ?_
          refine At.nil ?_
          refine At.thn ?_
          exact fun a w e hs => J255 (decide (a2 < (a0_6.length : Int))) hrun a w (e.sub ⟨rfl, rfl, rfl, rfl, trivial⟩) hs

noncomputable def judge_court_steps_1.f (a0 : Int) (a1_0_0 : List Int) (a1_0_1 : List Int) (a1_0_2 : List (List Int)) (a1_0_3 : List Int) (a1_0_4 : List Int) (a1_0_5 : List Int) (a1_0_6 : List Int) (a1_0_7 : List Int) (a1_0_8 : List Int) (a2_0 : Int) : Option Bool :=
  jn (
    if (0 : Int) ≤ a2_0 ∧ a2_0 < (2 : Int) then
      if a2_0 = 0 then
        if (0 : Int) ≤ a0 ∧ a0 < (a1_0_7.length : Int) then
          some (.inl (decide (gt a1_0_7 a0 = 0)))
        else none
      else
        if (0 : Int) ≤ a0 ∧ a0 < (a1_0_8.length : Int) then
          some (.inl (decide (gt a1_0_8 a0 = 0)))
        else none
    else none) (fun (x456 : Bool) =>
    some x456)
theorem judge_court_steps_1.callee : Callee Go.Proofs.Try.prog 63 := ⟨_, Go.Proofs.Try.func63, by kernel_rfl, by kernel_rfl⟩
set_option maxRecDepth 100000 in
set_option maxHeartbeats 2000000 in
theorem judge_court_steps_1.spec (R : Res) (Fr : List HProp) (b1 : Nat) (b1_0 : Nat) (A1_0_0 : Option Addr) (n1_0_0 : Nat) (c1_0_0 : Nat) (A1_0_1 : Option Addr) (n1_0_1 : Nat) (c1_0_1 : Nat) (A1_0_2 : Option Addr) (n1_0_2 : Nat) (c1_0_2 : Nat) (A1_0_3 : Option Addr) (n1_0_3 : Nat) (c1_0_3 : Nat) (A1_0_4 : Option Addr) (n1_0_4 : Nat) (c1_0_4 : Nat) (A1_0_5 : Option Addr) (n1_0_5 : Nat) (c1_0_5 : Nat) (A1_0_6 : Option Addr) (n1_0_6 : Nat) (c1_0_6 : Nat) (A1_0_7 : Option Addr) (n1_0_7 : Nat) (c1_0_7 : Nat) (A1_0_8 : Option Addr) (n1_0_8 : Nat) (c1_0_8 : Nat) (b2 : Nat) (a0 : Int) (a1_0_0 : List Int) (a1_0_1 : List Int) (a1_0_2 : List (List Int)) (a1_0_3 : List Int) (a1_0_4 : List Int) (a1_0_5 : List Int) (a1_0_6 : List Int) (a1_0_7 : List Int) (a1_0_8 : List Int) (a2_0 : Int) (hr1_0_0 : RdS (Fl.int .i64).rep R.heap A1_0_0 a1_0_0) (hn1_0_0 : a1_0_0.length = n1_0_0) (hc1_0_0 : n1_0_0 ≤ c1_0_0) (hr1_0_1 : RdS (Fl.int .i64).rep R.heap A1_0_1 a1_0_1) (hn1_0_1 : a1_0_1.length = n1_0_1) (hc1_0_1 : n1_0_1 ≤ c1_0_1) (hr1_0_2 : RdS ((Fl.int .i64).rep).slice R.heap A1_0_2 a1_0_2) (hn1_0_2 : a1_0_2.length = n1_0_2) (hc1_0_2 : n1_0_2 ≤ c1_0_2) (hr1_0_3 : RdS (Fl.int .i64).rep R.heap A1_0_3 a1_0_3) (hn1_0_3 : a1_0_3.length = n1_0_3) (hc1_0_3 : n1_0_3 ≤ c1_0_3) (hr1_0_4 : RdS (Fl.int .i64).rep R.heap A1_0_4 a1_0_4) (hn1_0_4 : a1_0_4.length = n1_0_4) (hc1_0_4 : n1_0_4 ≤ c1_0_4) (hr1_0_5 : RdS (Fl.int .i64).rep R.heap A1_0_5 a1_0_5) (hn1_0_5 : a1_0_5.length = n1_0_5) (hc1_0_5 : n1_0_5 ≤ c1_0_5) (hr1_0_6 : RdS (Fl.int .i64).rep R.heap A1_0_6 a1_0_6) (hn1_0_6 : a1_0_6.length = n1_0_6) (hc1_0_6 : n1_0_6 ≤ c1_0_6) (hn1_0_7 : a1_0_7.length = n1_0_7) (hn1_0_8 : a1_0_8.length = n1_0_8) {r : Bool} (hrun : judge_court_steps_1.f a0 a1_0_0 a1_0_1 a1_0_2 a1_0_3 a1_0_4 a1_0_5 a1_0_6 a1_0_7 a1_0_8 a2_0 = some r) :
    Spec Go.Proofs.Try.prog 63 [.int .i64 a0, .pointer (some ⟨b1, 0, none⟩), .pointer (some ⟨b2, 0, none⟩)] R (pt b1 (.cells [.pointer (some ⟨b1_0, 0, none⟩)].toArray 72) :: pt b1_0 (.cells [.slice A1_0_0 n1_0_0 c1_0_0, .slice A1_0_1 n1_0_1 c1_0_1, .slice A1_0_2 n1_0_2 c1_0_2, .slice A1_0_3 n1_0_3 c1_0_3, .slice A1_0_4 n1_0_4 c1_0_4, .slice A1_0_5 n1_0_5 c1_0_5, .slice A1_0_6 n1_0_6 c1_0_6, .slice A1_0_7 n1_0_7 c1_0_7, .slice A1_0_8 n1_0_8 c1_0_8].toArray 74) :: row (Fl.int .i64) 3 A1_0_7 n1_0_7 c1_0_7 a1_0_7 :: row (Fl.int .i64) 3 A1_0_8 n1_0_8 c1_0_8 a1_0_8 :: pt b2 (.cells [.int .i64 a2_0].toArray 3) :: Fr) (fun v l' => v = .bool r ∧ pt b1 (.cells [.pointer (some ⟨b1_0, 0, none⟩)].toArray 72) :: pt b1_0 (.cells [.slice A1_0_0 n1_0_0 c1_0_0, .slice A1_0_1 n1_0_1 c1_0_1, .slice A1_0_2 n1_0_2 c1_0_2, .slice A1_0_3 n1_0_3 c1_0_3, .slice A1_0_4 n1_0_4 c1_0_4, .slice A1_0_5 n1_0_5 c1_0_5, .slice A1_0_6 n1_0_6 c1_0_6, .slice A1_0_7 n1_0_7 c1_0_7, .slice A1_0_8 n1_0_8 c1_0_8].toArray 74) :: row (Fl.int .i64) 3 A1_0_7 n1_0_7 c1_0_7 a1_0_7 :: row (Fl.int .i64) 3 A1_0_8 n1_0_8 c1_0_8 a1_0_8 :: pt b2 (.cells [.int .i64 a2_0].toArray 3) :: Fr = l') := by
  subst hn1_0_0
  subst hn1_0_1
  subst hn1_0_2
  subst hn1_0_3
  subst hn1_0_4
  subst hn1_0_5
  subst hn1_0_6
  subst hn1_0_7
  subst hn1_0_8
  refine Spec.of Go.Proofs.Try.func63 rfl rfl ?_
  unfold judge_court_steps_1.f at hrun
  have hrun := brun hrun
  refine At.seq ?_
  refine At.region ?_
  refine At.run 1 rfl ?_
  refine At.nil ?_
  refine At.thn ?_
  refine At.seq ?_
  obtain ⟨G252, hl253, hr254, hrun⟩ := bjoin hrun
  refine At.join (X := Bool) (fun x456 => [(4, .bool x456)]) (fun x456 => pt b1 (.cells [.pointer (some ⟨b1_0, 0, none⟩)].toArray 72) :: pt b1_0 (.cells [.slice A1_0_0 a1_0_0.length c1_0_0, .slice A1_0_1 a1_0_1.length c1_0_1, .slice A1_0_2 a1_0_2.length c1_0_2, .slice A1_0_3 a1_0_3.length c1_0_3, .slice A1_0_4 a1_0_4.length c1_0_4, .slice A1_0_5 a1_0_5.length c1_0_5, .slice A1_0_6 a1_0_6.length c1_0_6, .slice A1_0_7 a1_0_7.length c1_0_7, .slice A1_0_8 a1_0_8.length c1_0_8].toArray 74) :: row (Fl.int .i64) 3 A1_0_7 a1_0_7.length c1_0_7 a1_0_7 :: row (Fl.int .i64) 3 A1_0_8 a1_0_8.length c1_0_8 a1_0_8 :: pt b2 (.cells [.int .i64 a2_0].toArray 3) :: Fr) (fun x456 => G252 (.inl x456) = some r) ?_ (fun J255 => ?_)
  · rintro x456 hrun
    have hrun := (hl253 _).symm.trans hrun
    · refine At.ret ?_
      obtain rfl := (bret hrun).symm
      exact At.res (.inl rfl) rfl rfl ⟨rfl, rfl⟩
  · · refine At.quiet (by kernel_rfl) ?_
      refine At.Quiet.y (Y.load rfl rfl .z rfl rfl rfl) rfl rfl rfl ?_
      refine At.Quiet.y (Y.load rfl rfl (.s (.s (.s (.s .z)))) rfl rfl rfl) rfl rfl rfl ?_
      refine At.Quiet.run 2 rfl ?_
      obtain ⟨h457, hrun⟩ := bnone hrun
      rcases bite hrun with ⟨h458, hrun⟩ | ⟨h458, hrun⟩
      · · refine At.Quiet.y (Y.ixArrK rfl rfl rfl rfl rfl h457.1 h457.2 (q := 0) (off := 7) h458 rfl) rfl rfl rfl ?_
          refine At.Quiet.y (Y.load rfl rfl (.s .z) rfl rfl rfl) rfl rfl rfl ?_
          refine At.Quiet.run 1 rfl ?_
          obtain ⟨h459, hrun⟩ := bnone hrun
          refine At.Quiet.y (Y.ix (.s (.s .z)) rfl rfl rfl rfl rfl rfl h459.1 h459.2) rfl rfl rfl ?_
          refine At.Quiet.y (Y.ld (.s (.s .z)) (q := 0) rfl rfl h459.1 h459.2 rfl rfl rfl) rfl rfl rfl ?_
          refine At.Quiet.run 2 rfl ?_
          refine At.Quiet.nil ?_
          refine At.thn ?_
          exact fun a w e hs => J255 (decide (gt a1_0_7 a0 = 0)) hrun a w (e.sub ⟨rfl, trivial⟩) hs
      · · have h460 : a2_0 = 1 := by have h1_ := h457; omega
          refine At.Quiet.y (Y.ixArrK rfl rfl rfl rfl rfl h457.1 h457.2 (q := 1) (off := 8) h460 rfl) rfl rfl rfl ?_
          refine At.Quiet.y (Y.load rfl rfl (.s .z) rfl rfl rfl) rfl rfl rfl ?_
          refine At.Quiet.run 1 rfl ?_
          obtain ⟨h461, hrun⟩ := bnone hrun
          refine At.Quiet.y (Y.ix (.s (.s (.s .z))) rfl rfl rfl rfl rfl rfl h461.1 h461.2) rfl rfl rfl ?_
          refine At.Quiet.y (Y.ld (.s (.s (.s .z))) (q := 0) rfl rfl h461.1 h461.2 rfl rfl rfl) rfl rfl rfl ?_
          refine At.Quiet.run 2 rfl ?_
          refine At.Quiet.nil ?_
          refine At.thn ?_
          exact fun a w e hs => J255 (decide (gt a1_0_8 a0 = 0)) hrun a w (e.sub ⟨rfl, trivial⟩) hs

noncomputable def slices_IndexFunc_int_int.l0b (a0 : List Int) (a1_c0_0_0 : List Int) (a1_c0_0_1 : List Int) (a1_c0_0_2 : List (List Int)) (a1_c0_0_3 : List Int) (a1_c0_0_4 : List Int) (a1_c0_0_5 : List Int) (a1_c0_0_6 : List Int) (a1_c0_0_7 : List Int) (a1_c0_0_8 : List Int) (a1_c1_0 : Int) (x853 : Int) : Option ((Int) ⊕ ((Unit) ⊕ (Int))) :=
  if x853 < (a0.length : Int) then
    if (0 : Int) ≤ x853 ∧ x853 < (a0.length : Int) then
      (judge_court_steps_1.f (gt a0 x853) a1_c0_0_0 a1_c0_0_1 a1_c0_0_2 a1_c0_0_3 a1_c0_0_4 a1_c0_0_5 a1_c0_0_6 a1_c0_0_7 a1_c0_0_8 a1_c1_0).bind fun t1067 =>
        if t1067 = true then
          upL (some x853)
        else
          nx (IntKind.i64.wrap (x853 + 1))
    else none
  else
    dn (.inl ())
noncomputable def slices_IndexFunc_int_int.l0 (a0 : List Int) (a1_c0_0_0 : List Int) (a1_c0_0_1 : List Int) (a1_c0_0_2 : List (List Int)) (a1_c0_0_3 : List Int) (a1_c0_0_4 : List Int) (a1_c0_0_5 : List Int) (a1_c0_0_6 : List Int) (a1_c0_0_7 : List Int) (a1_c0_0_8 : List Int) (a1_c1_0 : Int) (x853 : Int) : Option ((Unit) ⊕ (Int)) := iter (fun t_ : Int => slices_IndexFunc_int_int.l0b a0 a1_c0_0_0 a1_c0_0_1 a1_c0_0_2 a1_c0_0_3 a1_c0_0_4 a1_c0_0_5 a1_c0_0_6 a1_c0_0_7 a1_c0_0_8 a1_c1_0 t_) x853
noncomputable def slices_IndexFunc_int_int.f (a0 : List Int) (a1_c0_0_0 : List Int) (a1_c0_0_1 : List Int) (a1_c0_0_2 : List (List Int)) (a1_c0_0_3 : List Int) (a1_c0_0_4 : List Int) (a1_c0_0_5 : List Int) (a1_c0_0_6 : List Int) (a1_c0_0_7 : List Int) (a1_c0_0_8 : List Int) (a1_c1_0 : Int) : Option Int :=
  jn (slices_IndexFunc_int_int.l0 a0 a1_c0_0_0 a1_c0_0_1 a1_c0_0_2 a1_c0_0_3 a1_c0_0_4 a1_c0_0_5 a1_c0_0_6 a1_c0_0_7 a1_c0_0_8 a1_c1_0 0) (fun (_ : Unit) =>
    some (-1))
theorem slices_IndexFunc_int_int.callee : Callee Go.Proofs.Try.prog 72 := ⟨_, Go.Proofs.Try.func72, by kernel_rfl, by kernel_rfl⟩
set_option maxRecDepth 100000 in
set_option maxHeartbeats 2000000 in
theorem slices_IndexFunc_int_int.spec (R : Res) (Fr : List HProp) (A0 : Option Addr) (n0 : Nat) (c0 : Nat) (b1_c0 : Nat) (b1_c0_0 : Nat) (A1_c0_0_0 : Option Addr) (n1_c0_0_0 : Nat) (c1_c0_0_0 : Nat) (A1_c0_0_1 : Option Addr) (n1_c0_0_1 : Nat) (c1_c0_0_1 : Nat) (A1_c0_0_2 : Option Addr) (n1_c0_0_2 : Nat) (c1_c0_0_2 : Nat) (A1_c0_0_3 : Option Addr) (n1_c0_0_3 : Nat) (c1_c0_0_3 : Nat) (A1_c0_0_4 : Option Addr) (n1_c0_0_4 : Nat) (c1_c0_0_4 : Nat) (A1_c0_0_5 : Option Addr) (n1_c0_0_5 : Nat) (c1_c0_0_5 : Nat) (A1_c0_0_6 : Option Addr) (n1_c0_0_6 : Nat) (c1_c0_0_6 : Nat) (A1_c0_0_7 : Option Addr) (n1_c0_0_7 : Nat) (c1_c0_0_7 : Nat) (A1_c0_0_8 : Option Addr) (n1_c0_0_8 : Nat) (c1_c0_0_8 : Nat) (b1_c1 : Nat) (a0 : List Int) (a1_c0_0_0 : List Int) (a1_c0_0_1 : List Int) (a1_c0_0_2 : List (List Int)) (a1_c0_0_3 : List Int) (a1_c0_0_4 : List Int) (a1_c0_0_5 : List Int) (a1_c0_0_6 : List Int) (a1_c0_0_7 : List Int) (a1_c0_0_8 : List Int) (a1_c1_0 : Int) (hr0 : RdS (Fl.int .i64).rep R.heap A0 a0) (hn0 : a0.length = n0) (hc0 : n0 ≤ c0) (hr1_c0_0_0 : RdS (Fl.int .i64).rep R.heap A1_c0_0_0 a1_c0_0_0) (hn1_c0_0_0 : a1_c0_0_0.length = n1_c0_0_0) (hc1_c0_0_0 : n1_c0_0_0 ≤ c1_c0_0_0) (hr1_c0_0_1 : RdS (Fl.int .i64).rep R.heap A1_c0_0_1 a1_c0_0_1) (hn1_c0_0_1 : a1_c0_0_1.length = n1_c0_0_1) (hc1_c0_0_1 : n1_c0_0_1 ≤ c1_c0_0_1) (hr1_c0_0_2 : RdS ((Fl.int .i64).rep).slice R.heap A1_c0_0_2 a1_c0_0_2) (hn1_c0_0_2 : a1_c0_0_2.length = n1_c0_0_2) (hc1_c0_0_2 : n1_c0_0_2 ≤ c1_c0_0_2) (hr1_c0_0_3 : RdS (Fl.int .i64).rep R.heap A1_c0_0_3 a1_c0_0_3) (hn1_c0_0_3 : a1_c0_0_3.length = n1_c0_0_3) (hc1_c0_0_3 : n1_c0_0_3 ≤ c1_c0_0_3) (hr1_c0_0_4 : RdS (Fl.int .i64).rep R.heap A1_c0_0_4 a1_c0_0_4) (hn1_c0_0_4 : a1_c0_0_4.length = n1_c0_0_4) (hc1_c0_0_4 : n1_c0_0_4 ≤ c1_c0_0_4) (hr1_c0_0_5 : RdS (Fl.int .i64).rep R.heap A1_c0_0_5 a1_c0_0_5) (hn1_c0_0_5 : a1_c0_0_5.length = n1_c0_0_5) (hc1_c0_0_5 : n1_c0_0_5 ≤ c1_c0_0_5) (hr1_c0_0_6 : RdS (Fl.int .i64).rep R.heap A1_c0_0_6 a1_c0_0_6) (hn1_c0_0_6 : a1_c0_0_6.length = n1_c0_0_6) (hc1_c0_0_6 : n1_c0_0_6 ≤ c1_c0_0_6) (hn1_c0_0_7 : a1_c0_0_7.length = n1_c0_0_7) (hn1_c0_0_8 : a1_c0_0_8.length = n1_c0_0_8) {r : Int} (hrun : slices_IndexFunc_int_int.f a0 a1_c0_0_0 a1_c0_0_1 a1_c0_0_2 a1_c0_0_3 a1_c0_0_4 a1_c0_0_5 a1_c0_0_6 a1_c0_0_7 a1_c0_0_8 a1_c1_0 = some r) :
    Spec Go.Proofs.Try.prog 72 [.slice A0 n0 c0, .func (.func 63) #[] #[.pointer (some ⟨b1_c0, 0, none⟩), .pointer (some ⟨b1_c1, 0, none⟩)]] R (pt b1_c0 (.cells [.pointer (some ⟨b1_c0_0, 0, none⟩)].toArray 72) :: pt b1_c0_0 (.cells [.slice A1_c0_0_0 n1_c0_0_0 c1_c0_0_0, .slice A1_c0_0_1 n1_c0_0_1 c1_c0_0_1, .slice A1_c0_0_2 n1_c0_0_2 c1_c0_0_2, .slice A1_c0_0_3 n1_c0_0_3 c1_c0_0_3, .slice A1_c0_0_4 n1_c0_0_4 c1_c0_0_4, .slice A1_c0_0_5 n1_c0_0_5 c1_c0_0_5, .slice A1_c0_0_6 n1_c0_0_6 c1_c0_0_6, .slice A1_c0_0_7 n1_c0_0_7 c1_c0_0_7, .slice A1_c0_0_8 n1_c0_0_8 c1_c0_0_8].toArray 74) :: row (Fl.int .i64) 3 A1_c0_0_7 n1_c0_0_7 c1_c0_0_7 a1_c0_0_7 :: row (Fl.int .i64) 3 A1_c0_0_8 n1_c0_0_8 c1_c0_0_8 a1_c0_0_8 :: pt b1_c1 (.cells [.int .i64 a1_c1_0].toArray 3) :: Fr) (fun v l' => v = .int .i64 r ∧ pt b1_c0 (.cells [.pointer (some ⟨b1_c0_0, 0, none⟩)].toArray 72) :: pt b1_c0_0 (.cells [.slice A1_c0_0_0 n1_c0_0_0 c1_c0_0_0, .slice A1_c0_0_1 n1_c0_0_1 c1_c0_0_1, .slice A1_c0_0_2 n1_c0_0_2 c1_c0_0_2, .slice A1_c0_0_3 n1_c0_0_3 c1_c0_0_3, .slice A1_c0_0_4 n1_c0_0_4 c1_c0_0_4, .slice A1_c0_0_5 n1_c0_0_5 c1_c0_0_5, .slice A1_c0_0_6 n1_c0_0_6 c1_c0_0_6, .slice A1_c0_0_7 n1_c0_0_7 c1_c0_0_7, .slice A1_c0_0_8 n1_c0_0_8 c1_c0_0_8].toArray 74) :: row (Fl.int .i64) 3 A1_c0_0_7 n1_c0_0_7 c1_c0_0_7 a1_c0_0_7 :: row (Fl.int .i64) 3 A1_c0_0_8 n1_c0_0_8 c1_c0_0_8 a1_c0_0_8 :: pt b1_c1 (.cells [.int .i64 a1_c1_0].toArray 3) :: Fr = l') := by
  subst hn0
  subst hn1_c0_0_0
  subst hn1_c0_0_1
  subst hn1_c0_0_2
  subst hn1_c0_0_3
  subst hn1_c0_0_4
  subst hn1_c0_0_5
  subst hn1_c0_0_6
  subst hn1_c0_0_7
  subst hn1_c0_0_8
  refine Spec.of Go.Proofs.Try.func72 rfl rfl ?_
  unfold slices_IndexFunc_int_int.f at hrun
  have hrun := brun hrun
  refine At.seq ?_
  refine At.region ?_
  refine At.run 1 rfl ?_
  refine At.nil ?_
  refine At.thn ?_
  refine At.seq ?_
  refine At.seq ?_
  refine At.region ?_
  refine At.run 3 rfl ?_
  refine At.nil ?_
  refine At.thn ?_
  refine At.block ?_
  obtain ⟨G1054, hl1055, hr1056, hrun⟩ := bjoin hrun
  obtain ⟨o1057, hlo1058, ho1059⟩ := bsome hrun
  clear hrun
  unfold slices_IndexFunc_int_int.l0 at hlo1058
  obtain ⟨m1060, hit1062⟩ := iter_some.1 hlo1058
  clear hlo1058
  refine At.loopJ (X := Int) (Y := Unit) (e0 := 0) (fun x853 => [(0, .slice A0 a0.length c0), (1, .func (.func 63) #[] #[.pointer (some ⟨b1_c0, 0, none⟩), .pointer (some ⟨b1_c1, 0, none⟩)]), (7, .int .i64 (a0.length : Int)), (8, .int .i64 x853)]) (fun x853 => pt b1_c0 (.cells [.pointer (some ⟨b1_c0_0, 0, none⟩)].toArray 72) :: pt b1_c0_0 (.cells [.slice A1_c0_0_0 a1_c0_0_0.length c1_c0_0_0, .slice A1_c0_0_1 a1_c0_0_1.length c1_c0_0_1, .slice A1_c0_0_2 a1_c0_0_2.length c1_c0_0_2, .slice A1_c0_0_3 a1_c0_0_3.length c1_c0_0_3, .slice A1_c0_0_4 a1_c0_0_4.length c1_c0_0_4, .slice A1_c0_0_5 a1_c0_0_5.length c1_c0_0_5, .slice A1_c0_0_6 a1_c0_0_6.length c1_c0_0_6, .slice A1_c0_0_7 a1_c0_0_7.length c1_c0_0_7, .slice A1_c0_0_8 a1_c0_0_8.length c1_c0_0_8].toArray 74) :: row (Fl.int .i64) 3 A1_c0_0_7 a1_c0_0_7.length c1_c0_0_7 a1_c0_0_7 :: row (Fl.int .i64) 3 A1_c0_0_8 a1_c0_0_8.length c1_c0_0_8 a1_c0_0_8 :: pt b1_c1 (.cells [.int .i64 a1_c1_0].toArray 3) :: Fr) (fun m_ => fun x853 => iterN (fun t_ : Int => slices_IndexFunc_int_int.l0b a0 a1_c0_0_0 a1_c0_0_1 a1_c0_0_2 a1_c0_0_3 a1_c0_0_4 a1_c0_0_5 a1_c0_0_6 a1_c0_0_7 a1_c0_0_8 a1_c1_0 t_) m_ x853 = some o1057) m1060 0 hit1062 (fun _ => []) (fun _ => pt b1_c0 (.cells [.pointer (some ⟨b1_c0_0, 0, none⟩)].toArray 72) :: pt b1_c0_0 (.cells [.slice A1_c0_0_0 a1_c0_0_0.length c1_c0_0_0, .slice A1_c0_0_1 a1_c0_0_1.length c1_c0_0_1, .slice A1_c0_0_2 a1_c0_0_2.length c1_c0_0_2, .slice A1_c0_0_3 a1_c0_0_3.length c1_c0_0_3, .slice A1_c0_0_4 a1_c0_0_4.length c1_c0_0_4, .slice A1_c0_0_5 a1_c0_0_5.length c1_c0_0_5, .slice A1_c0_0_6 a1_c0_0_6.length c1_c0_0_6, .slice A1_c0_0_7 a1_c0_0_7.length c1_c0_0_7, .slice A1_c0_0_8 a1_c0_0_8.length c1_c0_0_8].toArray 74) :: row (Fl.int .i64) 3 A1_c0_0_7 a1_c0_0_7.length c1_c0_0_7 a1_c0_0_7 :: row (Fl.int .i64) 3 A1_c0_0_8 a1_c0_0_8.length c1_c0_0_8 a1_c0_0_8 :: pt b1_c1 (.cells [.int .i64 a1_c1_0].toArray 3) :: Fr) (fun _ => G1054 (.inl ()) = some r) (fun a w e hs => ⟨e.sub ⟨rfl, rfl, rfl, rfl, trivial⟩, hs⟩) ?_ (fun J1064 => ?_)
  · rintro _ hrun
    have hrun := (hl1055 _).symm.trans hrun
    · refine At.ibx ?_
      refine At.thn ?_
      refine At.seq ?_
      refine At.region ?_
      refine At.run 1 rfl ?_
      refine At.nil ?_
      refine At.thn ?_
      refine At.ret ?_
      obtain rfl := (bret hrun).symm
      exact At.res (.inl rfl) rfl rfl ⟨rfl, rfl⟩
  · clear hit1062 m1060
    rintro m1060 x853 hit1062
    obtain ⟨m1061, f_, hlt1063, hf_, hrun⟩ := bit hit1062
    clear hit1062
    have hrun : (slices_IndexFunc_int_int.l0b a0 a1_c0_0_0 a1_c0_0_1 a1_c0_0_2 a1_c0_0_3 a1_c0_0_4 a1_c0_0_5 a1_c0_0_6 a1_c0_0_7 a1_c0_0_8 a1_c1_0 x853).bind _ = some o1057 := hrun
    unfold slices_IndexFunc_int_int.l0b at hrun
    · refine At.seq ?_
      refine At.region ?_
      refine At.run 1 rfl ?_
      refine At.nil ?_
      refine At.thn ?_
      refine At.seq ?_
      rcases bite hrun with ⟨h1065, hrun⟩ | ⟨h1065, hrun⟩
      · · refine At.condT rfl (decide_eq_true h1065) ?_
          refine At.skip ?_
          refine At.thn ?_
          refine At.seq ?_
          refine At.block ?_
          refine At.seq ?_
          refine At.region ?_
          refine At.run 2 rfl ?_
          refine At.nil ?_
          refine At.thn ?_
          refine At.seq ?_
          refine At.region ?_
          refine At.run 3 rfl ?_
          obtain ⟨h1066, hrun⟩ := bnone hrun
          refine At.y (Y.ixRd hr0 rfl rfl rfl rfl rfl rfl rfl h1066.1 h1066.2) rfl rfl rfl ?_
          refine At.y (Y.ldFl hr0 rfl (q := 0) rfl rfl h1066.1 h1066.2 rfl rfl rfl) rfl rfl rfl ?_
          obtain ⟨t1067, hc1068, hrun⟩ := bbind hrun
          refine At.call rfl judge_court_steps_1.callee rfl rfl rfl (judge_court_steps_1.spec _ _ b1_c0 b1_c0_0 A1_c0_0_0 a1_c0_0_0.length c1_c0_0_0 A1_c0_0_1 a1_c0_0_1.length c1_c0_0_1 A1_c0_0_2 a1_c0_0_2.length c1_c0_0_2 A1_c0_0_3 a1_c0_0_3.length c1_c0_0_3 A1_c0_0_4 a1_c0_0_4.length c1_c0_0_4 A1_c0_0_5 a1_c0_0_5.length c1_c0_0_5 A1_c0_0_6 a1_c0_0_6.length c1_c0_0_6 A1_c0_0_7 a1_c0_0_7.length c1_c0_0_7 A1_c0_0_8 a1_c0_0_8.length c1_c0_0_8 b1_c1 (gt a0 x853) a1_c0_0_0 a1_c0_0_1 a1_c0_0_2 a1_c0_0_3 a1_c0_0_4 a1_c0_0_5 a1_c0_0_6 a1_c0_0_7 a1_c0_0_8 a1_c1_0 hr1_c0_0_0 rfl hc1_c0_0_0 hr1_c0_0_1 rfl hc1_c0_0_1 hr1_c0_0_2 rfl hc1_c0_0_2 hr1_c0_0_3 rfl hc1_c0_0_3 hr1_c0_0_4 rfl hc1_c0_0_4 hr1_c0_0_5 rfl hc1_c0_0_5 hr1_c0_0_6 rfl hc1_c0_0_6 rfl rfl hc1068) ?_
          rintro _ _ ⟨rfl, rfl⟩
          refine At.nil ?_
          refine At.thn ?_
          rcases bite hrun with ⟨h1069, hrun⟩ | ⟨h1069, hrun⟩
          · · refine At.condT rfl h1069 ?_
              refine At.seq ?_
              refine At.region ?_
              refine At.run 2 rfl ?_
              refine At.nil ?_
              refine At.thn ?_
              refine At.ret ?_
              refine At.ibr ?_
              refine At.thr ?_
              have hrun := bupL hr1056 ho1059 hrun
              refine At.thr ?_
              refine At.ibr ?_
              refine At.thr ?_
              obtain rfl := (bret hrun).symm
              exact At.res (.inl rfl) rfl rfl ⟨rfl, rfl⟩
          · · refine At.condF rfl (bn h1069) ?_
              refine At.skip ?_
              refine At.ibn ?_
              refine At.thn ?_
              refine At.region ?_
              refine At.run 2 rfl ?_
              refine At.nil ?_
              have hrun := bnx hf_ hrun
              exact fun a w e hs => ⟨m1061, (IntKind.i64.wrap (x853 + 1)), hlt1063, hrun, e.sub ⟨rfl, rfl, rfl, rfl, trivial⟩, hs⟩
      · · refine At.condF rfl (decide_eq_false h1065) ?_
          refine At.exit ?_
          refine At.the ?_
          refine At.the ?_
          exact fun a w e hs => J1064 () (bdn hrun ho1059) a w (e.sub trivial) hs

noncomputable def slices_ContainsFunc_int_int.f (a0 : List Int) (a1_c0_0_0 : List Int) (a1_c0_0_1 : List Int) (a1_c0_0_2 : List (List Int)) (a1_c0_0_3 : List Int) (a1_c0_0_4 : List Int) (a1_c0_0_5 : List Int) (a1_c0_0_6 : List Int) (a1_c0_0_7 : List Int) (a1_c0_0_8 : List Int) (a1_c1_0 : Int) : Option Bool :=
  (slices_IndexFunc_int_int.f a0 a1_c0_0_0 a1_c0_0_1 a1_c0_0_2 a1_c0_0_3 a1_c0_0_4 a1_c0_0_5 a1_c0_0_6 a1_c0_0_7 a1_c0_0_8 a1_c1_0).bind fun t252 =>
    some (decide (0 ≤ t252))
theorem slices_ContainsFunc_int_int.callee : Callee Go.Proofs.Try.prog 62 := ⟨_, Go.Proofs.Try.func62, by kernel_rfl, by kernel_rfl⟩
set_option maxRecDepth 100000 in
set_option maxHeartbeats 2000000 in
theorem slices_ContainsFunc_int_int.spec (R : Res) (Fr : List HProp) (A0 : Option Addr) (n0 : Nat) (c0 : Nat) (b1_c0 : Nat) (b1_c0_0 : Nat) (A1_c0_0_0 : Option Addr) (n1_c0_0_0 : Nat) (c1_c0_0_0 : Nat) (A1_c0_0_1 : Option Addr) (n1_c0_0_1 : Nat) (c1_c0_0_1 : Nat) (A1_c0_0_2 : Option Addr) (n1_c0_0_2 : Nat) (c1_c0_0_2 : Nat) (A1_c0_0_3 : Option Addr) (n1_c0_0_3 : Nat) (c1_c0_0_3 : Nat) (A1_c0_0_4 : Option Addr) (n1_c0_0_4 : Nat) (c1_c0_0_4 : Nat) (A1_c0_0_5 : Option Addr) (n1_c0_0_5 : Nat) (c1_c0_0_5 : Nat) (A1_c0_0_6 : Option Addr) (n1_c0_0_6 : Nat) (c1_c0_0_6 : Nat) (A1_c0_0_7 : Option Addr) (n1_c0_0_7 : Nat) (c1_c0_0_7 : Nat) (A1_c0_0_8 : Option Addr) (n1_c0_0_8 : Nat) (c1_c0_0_8 : Nat) (b1_c1 : Nat) (a0 : List Int) (a1_c0_0_0 : List Int) (a1_c0_0_1 : List Int) (a1_c0_0_2 : List (List Int)) (a1_c0_0_3 : List Int) (a1_c0_0_4 : List Int) (a1_c0_0_5 : List Int) (a1_c0_0_6 : List Int) (a1_c0_0_7 : List Int) (a1_c0_0_8 : List Int) (a1_c1_0 : Int) (hr0 : RdS (Fl.int .i64).rep R.heap A0 a0) (hn0 : a0.length = n0) (hc0 : n0 ≤ c0) (hr1_c0_0_0 : RdS (Fl.int .i64).rep R.heap A1_c0_0_0 a1_c0_0_0) (hn1_c0_0_0 : a1_c0_0_0.length = n1_c0_0_0) (hc1_c0_0_0 : n1_c0_0_0 ≤ c1_c0_0_0) (hr1_c0_0_1 : RdS (Fl.int .i64).rep R.heap A1_c0_0_1 a1_c0_0_1) (hn1_c0_0_1 : a1_c0_0_1.length = n1_c0_0_1) (hc1_c0_0_1 : n1_c0_0_1 ≤ c1_c0_0_1) (hr1_c0_0_2 : RdS ((Fl.int .i64).rep).slice R.heap A1_c0_0_2 a1_c0_0_2) (hn1_c0_0_2 : a1_c0_0_2.length = n1_c0_0_2) (hc1_c0_0_2 : n1_c0_0_2 ≤ c1_c0_0_2) (hr1_c0_0_3 : RdS (Fl.int .i64).rep R.heap A1_c0_0_3 a1_c0_0_3) (hn1_c0_0_3 : a1_c0_0_3.length = n1_c0_0_3) (hc1_c0_0_3 : n1_c0_0_3 ≤ c1_c0_0_3) (hr1_c0_0_4 : RdS (Fl.int .i64).rep R.heap A1_c0_0_4 a1_c0_0_4) (hn1_c0_0_4 : a1_c0_0_4.length = n1_c0_0_4) (hc1_c0_0_4 : n1_c0_0_4 ≤ c1_c0_0_4) (hr1_c0_0_5 : RdS (Fl.int .i64).rep R.heap A1_c0_0_5 a1_c0_0_5) (hn1_c0_0_5 : a1_c0_0_5.length = n1_c0_0_5) (hc1_c0_0_5 : n1_c0_0_5 ≤ c1_c0_0_5) (hr1_c0_0_6 : RdS (Fl.int .i64).rep R.heap A1_c0_0_6 a1_c0_0_6) (hn1_c0_0_6 : a1_c0_0_6.length = n1_c0_0_6) (hc1_c0_0_6 : n1_c0_0_6 ≤ c1_c0_0_6) (hn1_c0_0_7 : a1_c0_0_7.length = n1_c0_0_7) (hn1_c0_0_8 : a1_c0_0_8.length = n1_c0_0_8) {r : Bool} (hrun : slices_ContainsFunc_int_int.f a0 a1_c0_0_0 a1_c0_0_1 a1_c0_0_2 a1_c0_0_3 a1_c0_0_4 a1_c0_0_5 a1_c0_0_6 a1_c0_0_7 a1_c0_0_8 a1_c1_0 = some r) :
    Spec Go.Proofs.Try.prog 62 [.slice A0 n0 c0, .func (.func 63) #[] #[.pointer (some ⟨b1_c0, 0, none⟩), .pointer (some ⟨b1_c1, 0, none⟩)]] R (pt b1_c0 (.cells [.pointer (some ⟨b1_c0_0, 0, none⟩)].toArray 72) :: pt b1_c0_0 (.cells [.slice A1_c0_0_0 n1_c0_0_0 c1_c0_0_0, .slice A1_c0_0_1 n1_c0_0_1 c1_c0_0_1, .slice A1_c0_0_2 n1_c0_0_2 c1_c0_0_2, .slice A1_c0_0_3 n1_c0_0_3 c1_c0_0_3, .slice A1_c0_0_4 n1_c0_0_4 c1_c0_0_4, .slice A1_c0_0_5 n1_c0_0_5 c1_c0_0_5, .slice A1_c0_0_6 n1_c0_0_6 c1_c0_0_6, .slice A1_c0_0_7 n1_c0_0_7 c1_c0_0_7, .slice A1_c0_0_8 n1_c0_0_8 c1_c0_0_8].toArray 74) :: row (Fl.int .i64) 3 A1_c0_0_7 n1_c0_0_7 c1_c0_0_7 a1_c0_0_7 :: row (Fl.int .i64) 3 A1_c0_0_8 n1_c0_0_8 c1_c0_0_8 a1_c0_0_8 :: pt b1_c1 (.cells [.int .i64 a1_c1_0].toArray 3) :: Fr) (fun v l' => v = .bool r ∧ pt b1_c0 (.cells [.pointer (some ⟨b1_c0_0, 0, none⟩)].toArray 72) :: pt b1_c0_0 (.cells [.slice A1_c0_0_0 n1_c0_0_0 c1_c0_0_0, .slice A1_c0_0_1 n1_c0_0_1 c1_c0_0_1, .slice A1_c0_0_2 n1_c0_0_2 c1_c0_0_2, .slice A1_c0_0_3 n1_c0_0_3 c1_c0_0_3, .slice A1_c0_0_4 n1_c0_0_4 c1_c0_0_4, .slice A1_c0_0_5 n1_c0_0_5 c1_c0_0_5, .slice A1_c0_0_6 n1_c0_0_6 c1_c0_0_6, .slice A1_c0_0_7 n1_c0_0_7 c1_c0_0_7, .slice A1_c0_0_8 n1_c0_0_8 c1_c0_0_8].toArray 74) :: row (Fl.int .i64) 3 A1_c0_0_7 n1_c0_0_7 c1_c0_0_7 a1_c0_0_7 :: row (Fl.int .i64) 3 A1_c0_0_8 n1_c0_0_8 c1_c0_0_8 a1_c0_0_8 :: pt b1_c1 (.cells [.int .i64 a1_c1_0].toArray 3) :: Fr = l') := by
  subst hn0
  subst hn1_c0_0_0
  subst hn1_c0_0_1
  subst hn1_c0_0_2
  subst hn1_c0_0_3
  subst hn1_c0_0_4
  subst hn1_c0_0_5
  subst hn1_c0_0_6
  subst hn1_c0_0_7
  subst hn1_c0_0_8
  refine Spec.of Go.Proofs.Try.func62 rfl rfl ?_
  unfold slices_ContainsFunc_int_int.f at hrun
  have hrun := brun hrun
  refine At.seq ?_
  refine At.region ?_
  refine At.run 1 rfl ?_
  refine At.nil ?_
  refine At.thn ?_
  refine At.seq ?_
  refine At.region ?_
  refine At.run 2 rfl ?_
  obtain ⟨t252, hc253, hrun⟩ := bbind hrun
  refine At.call rfl slices_IndexFunc_int_int.callee rfl rfl rfl (slices_IndexFunc_int_int.spec _ _ A0 a0.length c0 b1_c0 b1_c0_0 A1_c0_0_0 a1_c0_0_0.length c1_c0_0_0 A1_c0_0_1 a1_c0_0_1.length c1_c0_0_1 A1_c0_0_2 a1_c0_0_2.length c1_c0_0_2 A1_c0_0_3 a1_c0_0_3.length c1_c0_0_3 A1_c0_0_4 a1_c0_0_4.length c1_c0_0_4 A1_c0_0_5 a1_c0_0_5.length c1_c0_0_5 A1_c0_0_6 a1_c0_0_6.length c1_c0_0_6 A1_c0_0_7 a1_c0_0_7.length c1_c0_0_7 A1_c0_0_8 a1_c0_0_8.length c1_c0_0_8 b1_c1 a0 a1_c0_0_0 a1_c0_0_1 a1_c0_0_2 a1_c0_0_3 a1_c0_0_4 a1_c0_0_5 a1_c0_0_6 a1_c0_0_7 a1_c0_0_8 a1_c1_0 hr0 rfl hc0 hr1_c0_0_0 rfl hc1_c0_0_0 hr1_c0_0_1 rfl hc1_c0_0_1 hr1_c0_0_2 rfl hc1_c0_0_2 hr1_c0_0_3 rfl hc1_c0_0_3 hr1_c0_0_4 rfl hc1_c0_0_4 hr1_c0_0_5 rfl hc1_c0_0_5 hr1_c0_0_6 rfl hc1_c0_0_6 rfl rfl hc253) ?_
  rintro _ _ ⟨rfl, rfl⟩
  refine At.run 2 rfl ?_
  refine At.nil ?_
  refine At.thn ?_
  refine At.ret ?_
  obtain rfl := (bret hrun).symm
  exact At.res (.inl rfl) rfl rfl ⟨rfl, rfl⟩

noncomputable def judge_court_steps.f (a0_0 : List Int) (a0_1 : List Int) (a0_2 : List (List Int)) (a0_3 : List Int) (a0_4 : List Int) (a0_5 : List Int) (a0_6 : List Int) (a0_7 : List Int) (a0_8 : List Int) (a1 : Int) (a2 : Int) : Option ((List Int) × Int) :=
  if (0 : Int) ≤ a2 ∧ a2 < (a0_2.length : Int) then
    if (0 : Int) ≤ a2 ∧ a2 < (a0_0.length : Int) then
      if gt a0_0 a2 = a1 then
        (judge_court_move.f a0_0 a0_1 a0_2 a0_3 a0_4 a0_5 a0_6 a0_7 a0_8 a1 a2).bind fun t269 =>
          (slices_Contains_int_int.f (gt a0_2 a2) t269).bind fun t271 =>
            if t271 = true then
              (slices_ContainsFunc_int_int.f ([t269] : List Int) a0_0 a0_1 a0_2 a0_3 a0_4 a0_5 a0_6 a0_7 a0_8 a1).bind fun t283 =>
                if t283 = true then
                  some (([] : List Int), 20)
                else
                  some (([t269] : List Int), 0)
            else
              some (([] : List Int), 16)
      else
        (slices_ContainsFunc_int_int.f (gt a0_2 a2) a0_0 a0_1 a0_2 a0_3 a0_4 a0_5 a0_6 a0_7 a0_8 a1).bind fun t288 =>
          if t288 = true then
            some (([] : List Int), 20)
          else
            some ((gt a0_2 a2), 0)
    else none
  else none
theorem judge_court_steps.callee : Callee Go.Proofs.Try.prog 50 := ⟨_, Go.Proofs.Try.func50, by kernel_rfl, by kernel_rfl⟩
set_option maxRecDepth 100000 in
set_option maxHeartbeats 2000000 in
theorem judge_court_steps.spec (R : Res) (Fr : List HProp) (b0 : Nat) (A0_0 : Option Addr) (n0_0 : Nat) (c0_0 : Nat) (A0_1 : Option Addr) (n0_1 : Nat) (c0_1 : Nat) (A0_2 : Option Addr) (n0_2 : Nat) (c0_2 : Nat) (A0_3 : Option Addr) (n0_3 : Nat) (c0_3 : Nat) (A0_4 : Option Addr) (n0_4 : Nat) (c0_4 : Nat) (A0_5 : Option Addr) (n0_5 : Nat) (c0_5 : Nat) (A0_6 : Option Addr) (n0_6 : Nat) (c0_6 : Nat) (A0_7 : Option Addr) (n0_7 : Nat) (c0_7 : Nat) (A0_8 : Option Addr) (n0_8 : Nat) (c0_8 : Nat) (a0_0 : List Int) (a0_1 : List Int) (a0_2 : List (List Int)) (a0_3 : List Int) (a0_4 : List Int) (a0_5 : List Int) (a0_6 : List Int) (a0_7 : List Int) (a0_8 : List Int) (a1 : Int) (a2 : Int) (hr0_0 : RdS (Fl.int .i64).rep R.heap A0_0 a0_0) (hn0_0 : a0_0.length = n0_0) (hc0_0 : n0_0 ≤ c0_0) (hr0_1 : RdS (Fl.int .i64).rep R.heap A0_1 a0_1) (hn0_1 : a0_1.length = n0_1) (hc0_1 : n0_1 ≤ c0_1) (hr0_2 : RdS ((Fl.int .i64).rep).slice R.heap A0_2 a0_2) (hn0_2 : a0_2.length = n0_2) (hc0_2 : n0_2 ≤ c0_2) (hr0_3 : RdS (Fl.int .i64).rep R.heap A0_3 a0_3) (hn0_3 : a0_3.length = n0_3) (hc0_3 : n0_3 ≤ c0_3) (hr0_4 : RdS (Fl.int .i64).rep R.heap A0_4 a0_4) (hn0_4 : a0_4.length = n0_4) (hc0_4 : n0_4 ≤ c0_4) (hr0_5 : RdS (Fl.int .i64).rep R.heap A0_5 a0_5) (hn0_5 : a0_5.length = n0_5) (hc0_5 : n0_5 ≤ c0_5) (hr0_6 : RdS (Fl.int .i64).rep R.heap A0_6 a0_6) (hn0_6 : a0_6.length = n0_6) (hc0_6 : n0_6 ≤ c0_6) (hn0_7 : a0_7.length = n0_7) (hn0_8 : a0_8.length = n0_8) {r : (List Int) × Int} (hrun : judge_court_steps.f a0_0 a0_1 a0_2 a0_3 a0_4 a0_5 a0_6 a0_7 a0_8 a1 a2 = some r) :
    Spec Go.Proofs.Try.prog 50 [.pointer (some ⟨b0, 0, none⟩), .int .i64 a1, .int .i64 a2] R (pt b0 (.cells [.slice A0_0 n0_0 c0_0, .slice A0_1 n0_1 c0_1, .slice A0_2 n0_2 c0_2, .slice A0_3 n0_3 c0_3, .slice A0_4 n0_4 c0_4, .slice A0_5 n0_5 c0_5, .slice A0_6 n0_6 c0_6, .slice A0_7 n0_7 c0_7, .slice A0_8 n0_8 c0_8].toArray 74) :: row (Fl.int .i64) 3 A0_7 n0_7 c0_7 a0_7 :: row (Fl.int .i64) 3 A0_8 n0_8 c0_8 a0_8 :: Fr) (fun v l' => ∃ (w252 : Nat) (w254 : Option Addr) (w255 : Nat), v = .tuple #[.slice w254 w252 w255, .int .i64 r.2] ∧ mix (Fl.int .i64) 3 R.heap w254 w252 w255 r.1 :: pt b0 (.cells [.slice A0_0 n0_0 c0_0, .slice A0_1 n0_1 c0_1, .slice A0_2 n0_2 c0_2, .slice A0_3 n0_3 c0_3, .slice A0_4 n0_4 c0_4, .slice A0_5 n0_5 c0_5, .slice A0_6 n0_6 c0_6, .slice A0_7 n0_7 c0_7, .slice A0_8 n0_8 c0_8].toArray 74) :: row (Fl.int .i64) 3 A0_7 n0_7 c0_7 a0_7 :: row (Fl.int .i64) 3 A0_8 n0_8 c0_8 a0_8 :: Fr = l' ∧ r.1.length = w252) := by
  subst hn0_0
  subst hn0_1
  subst hn0_2
  subst hn0_3
  subst hn0_4
  subst hn0_5
  subst hn0_6
  subst hn0_7
  subst hn0_8
  refine Spec.of Go.Proofs.Try.func50 rfl rfl ?_
  unfold judge_court_steps.f at hrun
  have hrun := brun hrun
  refine At.seq ?_
  refine At.region ?_
  refine At.box rfl rfl (cs := [.pointer (some ⟨b0, 0, none⟩)]) rfl rfl (fun b259 => ?_)
  refine At.box rfl rfl (cs := [.int .i64 a1]) rfl rfl (fun b260 => ?_)
  refine At.run 2 rfl ?_
  refine At.nil ?_
  refine At.thn ?_
  refine At.seq ?_
  refine At.region ?_
  refine At.y (Y.load rfl rfl (.s .z) rfl rfl rfl) rfl rfl rfl ?_
  refine At.run 3 rfl ?_
  refine At.y (Y.load rfl rfl (.s (.s .z)) rfl rfl rfl) rfl rfl rfl ?_
  refine At.run 1 rfl ?_
  obtain ⟨h261, hrun⟩ := bnone hrun
  refine At.y (Y.ixRd hr0_2 rfl rfl rfl rfl rfl rfl rfl h261.1 h261.2) rfl rfl rfl ?_
  obtain ⟨A262, c263, hc264, hr265, hy266⟩ := RdS.rowAt (P := Go.Proofs.Try.prog) hr0_2 (Sub.refl _) rfl h261.1 h261.2
  refine At.y (hy266 rfl rfl rfl rfl) rfl rfl rfl ?_
  refine At.run 1 rfl ?_
  refine At.nil ?_
  refine At.thn ?_
  refine At.seq ?_
  refine At.seq ?_
  refine At.quiet (by kernel_rfl) ?_
  refine At.Quiet.y (Y.load rfl rfl (.s .z) rfl rfl rfl) rfl rfl rfl ?_
  refine At.Quiet.run 3 rfl ?_
  refine At.Quiet.y (Y.load rfl rfl (.s (.s .z)) rfl rfl rfl) rfl rfl rfl ?_
  refine At.Quiet.run 1 rfl ?_
  obtain ⟨h267, hrun⟩ := bnone hrun
  refine At.Quiet.y (Y.ixRd hr0_0 rfl rfl rfl rfl rfl rfl rfl h267.1 h267.2) rfl rfl rfl ?_
  refine At.Quiet.y (Y.ldFl hr0_0 rfl (q := 0) rfl rfl h267.1 h267.2 rfl rfl rfl) rfl rfl rfl ?_
  refine At.Quiet.y (Y.load rfl rfl .z rfl rfl rfl) rfl rfl rfl ?_
  refine At.Quiet.run 1 rfl ?_
  refine At.Quiet.nil ?_
  refine At.thn ?_
  rcases bite hrun with ⟨h268, hrun⟩ | ⟨h268, hrun⟩
  · · refine At.condT rfl (decide_eq_true h268) ?_
      refine At.seq ?_
      refine At.region ?_
      refine At.y (Y.load rfl rfl (.s .z) rfl rfl rfl) rfl rfl rfl ?_
      refine At.y (Y.load rfl rfl .z rfl rfl rfl) rfl rfl rfl ?_
      refine At.run 1 rfl ?_
      refine At.frt (.s (.s (.s (.s .z)))) ?_
      refine At.frt (.s (.s (.s (.s .z)))) ?_
      refine At.frt (.s (.s (.s (.s .z)))) ?_
      obtain ⟨t269, hc270, hrun⟩ := bbind hrun
      refine At.call rfl judge_court_move.callee rfl rfl rfl (judge_court_move.spec _ _ b0 A0_0 a0_0.length c0_0 A0_1 a0_1.length c0_1 A0_2 a0_2.length c0_2 A0_3 a0_3.length c0_3 A0_4 a0_4.length c0_4 A0_5 a0_5.length c0_5 A0_6 a0_6.length c0_6 A0_7 a0_7.length c0_7 A0_8 a0_8.length c0_8 a0_0 a0_1 a0_2 a0_3 a0_4 a0_5 a0_6 a0_7 a0_8 a1 a2 hr0_0 rfl hc0_0 hr0_1 rfl hc0_1 hr0_2 rfl hc0_2 hr0_3 rfl hc0_3 hr0_4 rfl hc0_4 hr0_5 rfl hc0_5 hr0_6 rfl hc0_6 rfl rfl hc270) ?_
      rintro _ _ ⟨rfl, rfl⟩
      refine At.run 1 rfl ?_
      refine At.nil ?_
      refine At.thn ?_
      refine At.seq ?_
      refine At.seq ?_
      refine At.region ?_
      refine At.run 2 rfl ?_
      obtain ⟨t271, hc272, hrun⟩ := bbind hrun
      refine At.call rfl slices_Contains_int_int.callee rfl rfl rfl (slices_Contains_int_int.spec _ _ A262 ((gt a0_2 a2).length) c263 (gt a0_2 a2) t269 hr265 rfl hc264 hc272) ?_
      rintro _ _ ⟨rfl, rfl⟩
      refine At.run 1 rfl ?_
      refine At.nil ?_
      refine At.thn ?_
      rcases bite hrun with ⟨h273, hrun⟩ | ⟨h273, hrun⟩
      · · refine At.condF rfl (nf h273) ?_
          refine At.skip ?_
          refine At.thn ?_
          refine At.region ?_
          refine At.run 1 rfl ?_
          refine At.lit rfl (xo := [.tmp 36]) (ys := ([t269] : List Int)) (Fl.int .i64) rfl rfl rfl rfl rfl rfl rfl rfl rfl rfl rfl (fun A274 c275 => ?_)
          refine At.run 1 rfl ?_
          refine At.nil ?_
          refine At.thn ?_
          refine At.seq ?_
          refine At.seq ?_
          refine At.region ?_
          refine At.run 2 rfl ?_
          refine At.freeze .z fun R277 hr278 hn279 hc280 hs281 th282 => ?_
          refine At.frt (.s (.s (.s .z))) ?_
          refine At.frt (.s (.s (.s .z))) ?_
          refine At.frt (.s (.s (.s .z))) ?_
          refine At.frt (.s (.s (.s .z))) ?_
          refine At.frt (.s (.s (.s (.s .z)))) ?_
          obtain ⟨t283, hc284, hrun⟩ := bbind hrun
          refine At.call rfl slices_ContainsFunc_int_int.callee rfl rfl rfl (slices_ContainsFunc_int_int.spec _ _ A274 (([t269] : List Int).length) c275 b259 b0 A0_0 a0_0.length c0_0 A0_1 a0_1.length c0_1 A0_2 a0_2.length c0_2 A0_3 a0_3.length c0_3 A0_4 a0_4.length c0_4 A0_5 a0_5.length c0_5 A0_6 a0_6.length c0_6 A0_7 a0_7.length c0_7 A0_8 a0_8.length c0_8 b260 ([t269] : List Int) a0_0 a0_1 a0_2 a0_3 a0_4 a0_5 a0_6 a0_7 a0_8 a1 hr278 hn279 hc280 (RdS.mono hs281 hr0_0) rfl hc0_0 (RdS.mono hs281 hr0_1) rfl hc0_1 (RdS.mono hs281 hr0_2) rfl hc0_2 (RdS.mono hs281 hr0_3) rfl hc0_3 (RdS.mono hs281 hr0_4) rfl hc0_4 (RdS.mono hs281 hr0_5) rfl hc0_5 (RdS.mono hs281 hr0_6) rfl hc0_6 rfl rfl hc284) ?_
          rintro _ _ ⟨rfl, rfl⟩
          refine At.nil ?_
          refine At.thn ?_
          rcases bite hrun with ⟨h285, hrun⟩ | ⟨h285, hrun⟩
          · · refine At.condT rfl h285 ?_
              refine At.seq ?_
              refine At.region ?_
              refine At.run 2 rfl ?_
              refine At.nil ?_
              refine At.thn ?_
              refine At.ret ?_
              refine At.thr ?_
              refine At.thaw th282 ?_
              refine At.nilRow (Fl.int .i64) 3 ?_
              refine At.toMix R.heap .z ?_
              refine At.drop (.s .z) ?_
              refine At.drop (.s .z) ?_
              refine At.drop (.s (.s (.s (.s .z)))) ?_
              obtain rfl := (bret hrun).symm
              exact At.res (.inl rfl) rfl rfl ⟨0, none, 0, rfl, rfl, rfl⟩
          · · refine At.condF rfl (bn h285) ?_
              refine At.skip ?_
              refine At.thn ?_
              refine At.seq ?_
              refine At.region ?_
              refine At.run 3 rfl ?_
              refine At.nil ?_
              refine At.thn ?_
              refine At.ret ?_
              refine At.thaw th282 ?_
              refine At.toMix R.heap .z ?_
              refine At.drop (.s .z) ?_
              refine At.drop (.s (.s (.s (.s .z)))) ?_
              obtain rfl := (bret hrun).symm
              exact At.res (.inl rfl) rfl rfl ⟨([t269] : List Int).length, A274, c275, rfl, rfl, rfl⟩
      · · refine At.condT rfl (nt (bn h273)) ?_
          refine At.seq ?_
          refine At.region ?_
          refine At.run 2 rfl ?_
          refine At.nil ?_
          refine At.thn ?_
          refine At.ret ?_
          refine At.thr ?_
          refine At.thr ?_
          refine At.nilRow (Fl.int .i64) 3 ?_
          refine At.toMix R.heap .z ?_
          refine At.drop (.s (.s (.s (.s .z)))) ?_
          refine At.drop (.s (.s (.s (.s .z)))) ?_
          obtain rfl := (bret hrun).symm
          exact At.res (.inl rfl) rfl rfl ⟨0, none, 0, rfl, rfl, rfl⟩
  · · refine At.condF rfl (decide_eq_false h268) ?_
      refine At.skip ?_
      refine At.thn ?_
      refine At.seq ?_
      refine At.seq ?_
      refine At.region ?_
      refine At.run 2 rfl ?_
      refine At.frt (.s (.s (.s (.s .z)))) ?_
      refine At.frt (.s (.s (.s (.s .z)))) ?_
      refine At.frt (.s (.s (.s (.s .z)))) ?_
      refine At.frt (.s (.s (.s (.s .z)))) ?_
      obtain ⟨t288, hc289, hrun⟩ := bbind hrun
      refine At.call rfl slices_ContainsFunc_int_int.callee rfl rfl rfl (slices_ContainsFunc_int_int.spec _ _ A262 ((gt a0_2 a2).length) c263 b259 b0 A0_0 a0_0.length c0_0 A0_1 a0_1.length c0_1 A0_2 a0_2.length c0_2 A0_3 a0_3.length c0_3 A0_4 a0_4.length c0_4 A0_5 a0_5.length c0_5 A0_6 a0_6.length c0_6 A0_7 a0_7.length c0_7 A0_8 a0_8.length c0_8 b260 (gt a0_2 a2) a0_0 a0_1 a0_2 a0_3 a0_4 a0_5 a0_6 a0_7 a0_8 a1 hr265 rfl hc264 hr0_0 rfl hc0_0 hr0_1 rfl hc0_1 hr0_2 rfl hc0_2 hr0_3 rfl hc0_3 hr0_4 rfl hc0_4 hr0_5 rfl hc0_5 hr0_6 rfl hc0_6 rfl rfl hc289) ?_
      rintro _ _ ⟨rfl, rfl⟩
      refine At.nil ?_
      refine At.thn ?_
      rcases bite hrun with ⟨h290, hrun⟩ | ⟨h290, hrun⟩
      · · refine At.condT rfl h290 ?_
          refine At.seq ?_
          refine At.region ?_
          refine At.run 2 rfl ?_
          refine At.nil ?_
          refine At.thn ?_
          refine At.ret ?_
          refine At.thr ?_
          refine At.nilRow (Fl.int .i64) 3 ?_
          refine At.toMix R.heap .z ?_
          refine At.drop (.s .z) ?_
          refine At.drop (.s (.s (.s (.s .z)))) ?_
          obtain rfl := (bret hrun).symm
          exact At.res (.inl rfl) rfl rfl ⟨0, none, 0, rfl, rfl, rfl⟩
      · · refine At.condF rfl (bn h290) ?_
          refine At.skip ?_
          refine At.thn ?_
          refine At.seq ?_
          refine At.region ?_
          refine At.run 3 rfl ?_
          refine At.nil ?_
          refine At.thn ?_
          refine At.ret ?_
          refine At.mixRd (Fl.int .i64) 3 hr265 rfl hc264 ?_
          refine At.drop (.s .z) ?_
          refine At.drop (.s (.s (.s (.s .z)))) ?_
          obtain rfl := (bret hrun).symm
          exact At.res (.inl rfl) rfl rfl ⟨(gt a0_2 a2).length, A262, c263, rfl, rfl, rfl⟩

noncomputable def judge_Judge.l1b (a0_0 : List Int) (a0_1 : List Int) (a0_2 : List (List Int)) (a1_0 : List Int) (a1_1 : List Int) (a1_2 : List Int) (a1_3 : List Int) (t269 : (List Int) × (List Int) × Int × Int × Int) (x1705 : List (List Int)) (x1706 : Int) : Option (((List (List Int)) × Int) ⊕ (((List (List Int))) ⊕ (Int × Int × Int))) :=
  if x1706 < (a0_0.length : Int) then
    jn (
      if (0 : Int) ≤ x1706 ∧ x1706 < ((List.replicate (a0_0.length : Int).toNat (0 : Int)).length : Int) then
        if gt t269.1 x1706 = 0 then
          some (.inl x1705)
        else
          (judge_court_steps.f a0_0 a0_1 a0_2 a1_0 a1_1 a1_2 a1_3 t269.2.1 t269.1 1 x1706).bind fun t2147 =>
            if t2147.2 = 0 then
              if (0 : Int) ≤ x1706 ∧ x1706 < ((List.replicate (a0_0.length : Int).toNat ([] : List Int)).length : Int) then
                some (.inl (st x1705 x1706 t2147.1))
              else none
            else
              up (upL (some (t2147.2, 1, x1706)))
      else none) (fun (x2142 : List (List Int)) =>
      nx (x2142, IntKind.i64.wrap (x1706 + 1)))
  else
    dn (.inl x1705)
noncomputable def judge_Judge.l1 (a0_0 : List Int) (a0_1 : List Int) (a0_2 : List (List Int)) (a1_0 : List Int) (a1_1 : List Int) (a1_2 : List Int) (a1_3 : List Int) (t269 : (List Int) × (List Int) × Int × Int × Int) (x1705 : List (List Int)) (x1706 : Int) : Option (((List (List Int))) ⊕ (Int × Int × Int)) := iter (fun t_ : (List (List Int)) × Int => judge_Judge.l1b a0_0 a0_1 a0_2 a1_0 a1_1 a1_2 a1_3 t269 t_.1 t_.2) (x1705, x1706)
noncomputable def judge_Judge.l0b (a0_0 : List Int) (a0_1 : List Int) (a0_2 : List (List Int)) (a1_0 : List Int) (a1_1 : List Int) (a1_2 : List Int) (a1_3 : List Int) (t269 : (List Int) × (List Int) × Int × Int × Int) (x886 : List (List Int)) (x887 : Int) : Option (((List (List Int)) × Int) ⊕ (((List (List Int))) ⊕ (Int × Int × Int))) :=
  if x887 < (a0_0.length : Int) then
    jn (
      if (0 : Int) ≤ x887 ∧ x887 < ((List.replicate (a0_0.length : Int).toNat (0 : Int)).length : Int) then
        if gt t269.2.1 x887 = 0 then
          some (.inl x886)
        else
          (judge_court_steps.f a0_0 a0_1 a0_2 a1_0 a1_1 a1_2 a1_3 t269.2.1 t269.1 0 x887).bind fun t2366 =>
            if t2366.2 = 0 then
              if (0 : Int) ≤ x887 ∧ x887 < ((List.replicate (a0_0.length : Int).toNat ([] : List Int)).length : Int) then
                some (.inl (st x886 x887 t2366.1))
              else none
            else
              up (upL (some (t2366.2, 0, x887)))
      else none) (fun (x2361 : List (List Int)) =>
      nx (x2361, IntKind.i64.wrap (x887 + 1)))
  else
    dn (.inl x886)
noncomputable def judge_Judge.l0 (a0_0 : List Int) (a0_1 : List Int) (a0_2 : List (List Int)) (a1_0 : List Int) (a1_1 : List Int) (a1_2 : List Int) (a1_3 : List Int) (t269 : (List Int) × (List Int) × Int × Int × Int) (x886 : List (List Int)) (x887 : Int) : Option (((List (List Int))) ⊕ (Int × Int × Int)) := iter (fun t_ : (List (List Int)) × Int => judge_Judge.l0b a0_0 a0_1 a0_2 a1_0 a1_1 a1_2 a1_3 t269 t_.1 t_.2) (x886, x887)
noncomputable def judge_Judge.f (a0_0 : List Int) (a0_1 : List Int) (a0_2 : List (List Int)) (a1_0 : List Int) (a1_1 : List Int) (a1_2 : List Int) (a1_3 : List Int) : Option (Int × Int × Int) :=
  (game_Right.f a0_0 a0_1 a0_2).bind fun t263 =>
    if t263.1 = 0 then
      (judge_court_part.f a0_0 a0_1 a0_2 a1_0 a1_1 a1_2 a1_3 ([] : List Int) ([] : List Int)).bind fun t269 =>
        if t269.2.2.1 = 0 then
          if (0 : Int) ≤ (a0_0.length : Int) ∧ (24 : Int) * (a0_0.length : Int) ≤ 281474976710656 then
            jn (judge_Judge.l0 a0_0 a0_1 a0_2 a1_0 a1_1 a1_2 a1_3 t269 (List.replicate (a0_0.length : Int).toNat ([] : List Int)) 0) (fun (x1088 : List (List Int)) =>
              jn (judge_Judge.l1 a0_0 a0_1 a0_2 a1_0 a1_1 a1_2 a1_3 t269 (List.replicate (a0_0.length : Int).toNat ([] : List Int)) 0) (fun (x1907 : List (List Int)) =>
                (cycles_Bad.f x1088 a0_1 1).bind fun t1925 =>
                  if 0 ≤ t1925 then
                    some (21, 0, t1925)
                  else
                    (cycles_Bad.f x1907 a0_1 0).bind fun t1934 =>
                      if 0 ≤ t1934 then
                        some (21, 1, t1934)
                      else
                        some (0, 0, 0)))
          else none
        else
          some (t269.2.2.1, t269.2.2.2.1, t269.2.2.2.2)
    else
      some (1, 0, 0)
theorem judge_Judge.callee : Callee Go.Proofs.Try.prog 28 := ⟨_, Go.Proofs.Try.func28, by kernel_rfl, by kernel_rfl⟩
set_option maxRecDepth 100000 in
set_option maxHeartbeats 2000000 in
theorem judge_Judge.spec (R : Res) (Fr : List HProp) (A0_0 : Option Addr) (n0_0 : Nat) (c0_0 : Nat) (A0_1 : Option Addr) (n0_1 : Nat) (c0_1 : Nat) (A0_2 : Option Addr) (n0_2 : Nat) (c0_2 : Nat) (A1_0 : Option Addr) (n1_0 : Nat) (c1_0 : Nat) (A1_1 : Option Addr) (n1_1 : Nat) (c1_1 : Nat) (A1_2 : Option Addr) (n1_2 : Nat) (c1_2 : Nat) (A1_3 : Option Addr) (n1_3 : Nat) (c1_3 : Nat) (a0_0 : List Int) (a0_1 : List Int) (a0_2 : List (List Int)) (a1_0 : List Int) (a1_1 : List Int) (a1_2 : List Int) (a1_3 : List Int) (hr0_0 : RdS (Fl.int .i64).rep R.heap A0_0 a0_0) (hn0_0 : a0_0.length = n0_0) (hc0_0 : n0_0 ≤ c0_0) (hr0_1 : RdS (Fl.int .i64).rep R.heap A0_1 a0_1) (hn0_1 : a0_1.length = n0_1) (hc0_1 : n0_1 ≤ c0_1) (hr0_2 : RdS ((Fl.int .i64).rep).slice R.heap A0_2 a0_2) (hn0_2 : a0_2.length = n0_2) (hc0_2 : n0_2 ≤ c0_2) (hr1_0 : RdS (Fl.int .i64).rep R.heap A1_0 a1_0) (hn1_0 : a1_0.length = n1_0) (hc1_0 : n1_0 ≤ c1_0) (hr1_1 : RdS (Fl.int .i64).rep R.heap A1_1 a1_1) (hn1_1 : a1_1.length = n1_1) (hc1_1 : n1_1 ≤ c1_1) (hr1_2 : RdS (Fl.int .i64).rep R.heap A1_2 a1_2) (hn1_2 : a1_2.length = n1_2) (hc1_2 : n1_2 ≤ c1_2) (hr1_3 : RdS (Fl.int .i64).rep R.heap A1_3 a1_3) (hn1_3 : a1_3.length = n1_3) (hc1_3 : n1_3 ≤ c1_3) {r : Int × Int × Int} (hrun : judge_Judge.f a0_0 a0_1 a0_2 a1_0 a1_1 a1_2 a1_3 = some r) :
    Spec Go.Proofs.Try.prog 28 [.agg #[.slice A0_0 n0_0 c0_0, .slice A0_1 n0_1 c0_1, .slice A0_2 n0_2 c0_2], .agg #[.slice A1_0 n1_0 c1_0, .slice A1_1 n1_1 c1_1, .slice A1_2 n1_2 c1_2, .slice A1_3 n1_3 c1_3]] R (Fr) (fun v l' => v = .agg #[.int .i64 r.1, .int .i64 r.2.1, .int .i64 r.2.2] ∧ Fr = l') := by
  subst hn0_0
  subst hn0_1
  subst hn0_2
  subst hn1_0
  subst hn1_1
  subst hn1_2
  subst hn1_3
  refine Spec.of Go.Proofs.Try.func28 rfl rfl ?_
  unfold judge_Judge.f at hrun
  have hrun := brun hrun
  refine At.seq ?_
  refine At.region ?_
  refine At.box rfl rfl (cs := [.slice A0_0 a0_0.length c0_0, .slice A0_1 a0_1.length c0_1, .slice A0_2 a0_2.length c0_2]) rfl rfl (fun b260 => ?_)
  refine At.box rfl rfl (cs := [.slice A1_0 a1_0.length c1_0, .slice A1_1 a1_1.length c1_1, .slice A1_2 a1_2.length c1_2, .slice A1_3 a1_3.length c1_3]) rfl rfl (fun b261 => ?_)
  refine At.alloc rfl rfl rfl (fun b262 => ?_)
  refine At.nil ?_
  refine At.thn ?_
  refine At.seq ?_
  refine At.seq ?_
  refine At.region ?_
  refine At.y (Y.load rfl rfl (.s (.s .z)) rfl rfl rfl) rfl rfl rfl ?_
  obtain ⟨t263, hc264, hrun⟩ := bbind hrun
  refine At.call rfl game_Right.callee rfl rfl rfl (game_Right.spec _ _ A0_0 a0_0.length c0_0 A0_1 a0_1.length c0_1 A0_2 a0_2.length c0_2 a0_0 a0_1 a0_2 hr0_0 rfl hc0_0 hr0_1 rfl hc0_1 hr0_2 rfl hc0_2 hc264) ?_
  rintro _ _ ⟨rfl, rfl⟩
  refine At.run 5 rfl ?_
  refine At.nil ?_
  refine At.thn ?_
  refine At.seq ?_
  refine At.region ?_
  refine At.run 2 rfl ?_
  refine At.nil ?_
  refine At.thn ?_
  rcases bite hrun with ⟨h265, hrun⟩ | ⟨h265, hrun⟩
  · · refine At.condF rfl (nf (decide_eq_true h265)) ?_
      refine At.skip ?_
      refine At.thn ?_
      refine At.seq ?_
      refine At.region ?_
      refine At.y (Y.load rfl rfl (.s (.s .z)) rfl rfl rfl) rfl rfl rfl ?_
      refine At.y (Y.load rfl rfl (.s .z) rfl rfl rfl) rfl rfl rfl ?_
      refine At.y (Y.build (is := [0, 1]) (xo := [.tmp 25, .tmp 26]) (vs := [.agg #[.slice A0_0 a0_0.length c0_0, .slice A0_1 a0_1.length c0_1, .slice A0_2 a0_2.length c0_2], .agg #[.slice A1_0 a1_0.length c1_0, .slice A1_1 a1_1.length c1_1, .slice A1_2 a1_2.length c1_2, .slice A1_3 a1_3.length c1_3]]) (cs := [.slice A0_0 a0_0.length c0_0, .slice A0_1 a0_1.length c0_1, .slice A0_2 a0_2.length c0_2, .slice A1_0 a1_0.length c1_0, .slice A1_1 a1_1.length c1_1, .slice A1_2 a1_2.length c1_2, .slice A1_3 a1_3.length c1_3, .slice none 0 0, .slice none 0 0]) rfl rfl rfl rfl rfl rfl) rfl rfl rfl ?_
      refine At.box rfl rfl (cs := [.slice A0_0 a0_0.length c0_0, .slice A0_1 a0_1.length c0_1, .slice A0_2 a0_2.length c0_2, .slice A1_0 a1_0.length c1_0, .slice A1_1 a1_1.length c1_1, .slice A1_2 a1_2.length c1_2, .slice A1_3 a1_3.length c1_3, .slice none 0 0, .slice none 0 0]) rfl rfl (fun b266 => ?_)
      refine At.run 1 rfl ?_
      refine At.nil ?_
      refine At.thn ?_
      refine At.seq ?_
      refine At.seq ?_
      refine At.region ?_
      refine At.run 1 rfl ?_
      refine At.nilRow (Fl.int .i64) 3 ?_
      refine At.nilRow (Fl.int .i64) 3 ?_
      refine At.frt (.s .z) ?_
      refine At.frt (.s (.s .z)) ?_
      obtain ⟨t269, hc270, hrun⟩ := bbind hrun
      refine At.call rfl judge_court_part.callee rfl rfl rfl (judge_court_part.spec _ _ b266 A0_0 a0_0.length c0_0 A0_1 a0_1.length c0_1 A0_2 a0_2.length c0_2 A1_0 a1_0.length c1_0 A1_1 a1_1.length c1_1 A1_2 a1_2.length c1_2 A1_3 a1_3.length c1_3 none 0 0 none 0 0 a0_0 a0_1 a0_2 a1_0 a1_1 a1_2 a1_3 ([] : List Int) ([] : List Int) hr0_0 rfl hc0_0 hr0_1 rfl hc0_1 hr0_2 rfl hc0_2 hr1_0 rfl hc1_0 hr1_1 rfl hc1_1 hr1_2 rfl hc1_2 hr1_3 rfl hc1_3 rfl rfl hc270) ?_
      rintro _ _ ⟨w271, w272, w273, w274, rfl, rfl⟩
      refine At.alloc rfl rfl rfl (fun b277 => ?_)
      refine At.store rfl rfl rfl rfl .z rfl rfl rfl (.c (.c (.c .n))) ?_
      refine At.nil ?_
      refine At.thn ?_
      refine At.seq ?_
      refine At.region ?_
      refine At.run 1 rfl ?_
      refine At.y (Y.load rfl rfl .z rfl rfl rfl) rfl rfl rfl ?_
      refine At.run 1 rfl ?_
      refine At.nil ?_
      refine At.thn ?_
      rcases bite hrun with ⟨h278, hrun⟩ | ⟨h278, hrun⟩
      · · refine At.condF rfl (nf (decide_eq_true h278)) ?_
          refine At.skip ?_
          refine At.thn ?_
          refine At.seq ?_
          refine At.region ?_
          refine At.alloc rfl rfl rfl (fun b279 => ?_)
          refine At.nil ?_
          refine At.thn ?_
          refine At.seq ?_
          refine At.seq ?_
          refine At.region ?_
          refine At.run 1 rfl ?_
          refine At.nil ?_
          refine At.thn ?_
          refine At.block ?_
          refine At.rounds 3 ?_
          refine At.round ?_
          refine At.seq ?_
          refine At.region ?_
          refine At.run 1 rfl ?_
          refine At.nil ?_
          refine At.thn ?_
          refine At.seq ?_
          refine At.condT rfl rfl ?_
          refine At.skip ?_
          refine At.thn ?_
          refine At.seq ?_
          refine At.block ?_
          refine At.seq ?_
          refine At.region ?_
          refine At.run 2 rfl ?_
          refine At.nil ?_
          refine At.thn ?_
          refine At.seq ?_
          refine At.region ?_
          refine At.run 2 rfl ?_
          refine At.y (Y.load rfl rfl (.s (.s (.s (.s (.s (.s (.s (.s (.s .z))))))))) rfl rfl rfl) rfl rfl rfl ?_
          refine At.run 1 rfl ?_
          obtain ⟨h280, hrun⟩ := bnone hrun
          refine At.makeRows (Fl.int .i64) 3 rfl rfl rfl rfl rfl rfl rfl rfl rfl h280.1 h280.2 (by decide) rfl (fun A281 c282 => ?_)
          refine At.y (Y.ixArrK rfl rfl rfl rfl rfl (show (0 : Int) ≤ 0 ∧ (0 : Int) < 2 by decide).1 (show (0 : Int) ≤ 0 ∧ (0 : Int) < 2 by decide).2 (q := 0) (off := 0) rfl rfl) rfl rfl rfl ?_
          refine At.store rfl rfl rfl rfl (.s .z) rfl rfl rfl (.c .n) ?_
          refine At.nil ?_
          refine At.thn ?_
          refine At.seq ?_
          refine At.region ?_
          refine At.run 1 rfl ?_
          refine At.y (Y.load rfl rfl (.s (.s (.s (.s (.s (.s (.s (.s (.s (.s .z)))))))))) rfl rfl rfl) rfl rfl rfl ?_
          refine At.run 2 rfl ?_
          refine At.nil ?_
          refine At.thn ?_
          refine At.block ?_
          obtain ⟨G1089, hl1090, hr1091, hrun⟩ := bjoin hrun
          obtain ⟨o1092, hlo1093, ho1094⟩ := bsome hrun
          clear hrun
          unfold judge_Judge.l0 at hlo1093
          obtain ⟨m1095, hit1097⟩ := iter_some.1 hlo1093
          clear hlo1093
          refine At.toMrows R.heap (.s .z) ?_
          refine At.frt (.s (.s (.s (.s (.s (.s (.s (.s (.s (.s .z)))))))))) ?_
          refine At.frt (.s (.s (.s (.s (.s (.s (.s (.s (.s (.s .z)))))))))) ?_
          refine At.frt (.s (.s (.s (.s (.s (.s (.s (.s (.s (.s .z)))))))))) ?_
          refine At.frt (.s (.s (.s (.s (.s (.s (.s (.s (.s (.s .z)))))))))) ?_
          refine At.frt (.s (.s (.s (.s (.s (.s (.s (.s (.s (.s .z)))))))))) ?_
          refine At.frt (.s (.s (.s (.s (.s (.s (.s (.s (.s (.s .z)))))))))) ?_
          refine At.frt (.s (.s (.s (.s (.s (.s (.s (.s (.s (.s .z)))))))))) ?_
          refine At.frt (.s (.s (.s (.s (.s (.s (.s (.s (.s (.s .z)))))))))) ?_
          refine At.frt (.s (.s (.s (.s (.s (.s (.s (.s (.s (.s .z)))))))))) ?_
          refine At.frt (.s (.s (.s (.s (.s (.s (.s (.s (.s .z))))))))) ?_
          refine At.frt (.s (.s (.s (.s (.s (.s (.s (.s (.s (.s .z)))))))))) ?_
          refine At.loopJ (X := (List (List Int)) × Int) (Y := (List (List Int))) (e0 := 2) (fun s_ => [(2, .pointer (some ⟨b260, 0, none⟩)), (4, .pointer (some ⟨b262, 0, none⟩)), (7, .pointer (some ⟨b266, 0, none⟩)), (9, .pointer (some ⟨b279, 0, none⟩)), (10, .int .i64 0), (35, .int .i64 0), (46, .int .i64 (a0_0.length : Int)), (47, .int .i64 s_.2)]) (fun s_ => pt b279 (.cells [.slice A281 ((List.replicate (a0_0.length : Int).toNat ([] : List Int)).length) c282, .slice none 0 0].toArray 76) :: mrows (Fl.int .i64) 3 26 R.heap A281 ((List.replicate (a0_0.length : Int).toNat ([] : List Int)).length) c282 s_.1 :: pt b277 (.cells [.int .i64 t269.2.2.1, .int .i64 t269.2.2.2.1, .int .i64 t269.2.2.2.2].toArray 44) :: row (Fl.int .i64) 3 w273 ((List.replicate (a0_0.length : Int).toNat (0 : Int)).length) w274 t269.2.1 :: row (Fl.int .i64) 3 w271 ((List.replicate (a0_0.length : Int).toNat (0 : Int)).length) w272 t269.1 :: pt b266 (.cells [.slice A0_0 a0_0.length c0_0, .slice A0_1 a0_1.length c0_1, .slice A0_2 a0_2.length c0_2, .slice A1_0 a1_0.length c1_0, .slice A1_1 a1_1.length c1_1, .slice A1_2 a1_2.length c1_2, .slice A1_3 a1_3.length c1_3, .slice w273 ((List.replicate (a0_0.length : Int).toNat (0 : Int)).length) w274, .slice w271 ((List.replicate (a0_0.length : Int).toNat (0 : Int)).length) w272].toArray 74) :: row (Fl.int .i64) 3 none 0 0 ([] : List Int) :: row (Fl.int .i64) 3 none 0 0 ([] : List Int) :: pt b262 (.cells [.int .i64 0, .int .i64 0, .int .i64 0].toArray 44) :: pt b261 (.cells [.slice A1_0 a1_0.length c1_0, .slice A1_1 a1_1.length c1_1, .slice A1_2 a1_2.length c1_2, .slice A1_3 a1_3.length c1_3].toArray 39) :: pt b260 (.cells [.slice A0_0 a0_0.length c0_0, .slice A0_1 a0_1.length c0_1, .slice A0_2 a0_2.length c0_2].toArray 36) :: Fr) (fun m_ => fun s_ => iterN (fun t_ : (List (List Int)) × Int => judge_Judge.l0b a0_0 a0_1 a0_2 a1_0 a1_1 a1_2 a1_3 t269 t_.1 t_.2) m_ (s_.1, s_.2) = some o1092) m1095 ((List.replicate (a0_0.length : Int).toNat ([] : List Int)), 0) hit1097 (fun x1088 => [(2, .pointer (some ⟨b260, 0, none⟩)), (4, .pointer (some ⟨b262, 0, none⟩)), (7, .pointer (some ⟨b266, 0, none⟩)), (9, .pointer (some ⟨b279, 0, none⟩)), (35, .int .i64 0)]) (fun x1088 => pt b279 (.cells [.slice A281 ((List.replicate (a0_0.length : Int).toNat ([] : List Int)).length) c282, .slice none 0 0].toArray 76) :: mrows (Fl.int .i64) 3 26 R.heap A281 ((List.replicate (a0_0.length : Int).toNat ([] : List Int)).length) c282 x1088 :: pt b277 (.cells [.int .i64 t269.2.2.1, .int .i64 t269.2.2.2.1, .int .i64 t269.2.2.2.2].toArray 44) :: row (Fl.int .i64) 3 w273 ((List.replicate (a0_0.length : Int).toNat (0 : Int)).length) w274 t269.2.1 :: row (Fl.int .i64) 3 w271 ((List.replicate (a0_0.length : Int).toNat (0 : Int)).length) w272 t269.1 :: pt b266 (.cells [.slice A0_0 a0_0.length c0_0, .slice A0_1 a0_1.length c0_1, .slice A0_2 a0_2.length c0_2, .slice A1_0 a1_0.length c1_0, .slice A1_1 a1_1.length c1_1, .slice A1_2 a1_2.length c1_2, .slice A1_3 a1_3.length c1_3, .slice w273 ((List.replicate (a0_0.length : Int).toNat (0 : Int)).length) w274, .slice w271 ((List.replicate (a0_0.length : Int).toNat (0 : Int)).length) w272].toArray 74) :: row (Fl.int .i64) 3 none 0 0 ([] : List Int) :: row (Fl.int .i64) 3 none 0 0 ([] : List Int) :: pt b262 (.cells [.int .i64 0, .int .i64 0, .int .i64 0].toArray 44) :: pt b261 (.cells [.slice A1_0 a1_0.length c1_0, .slice A1_1 a1_1.length c1_1, .slice A1_2 a1_2.length c1_2, .slice A1_3 a1_3.length c1_3].toArray 39) :: pt b260 (.cells [.slice A0_0 a0_0.length c0_0, .slice A0_1 a0_1.length c0_1, .slice A0_2 a0_2.length c0_2].toArray 36) :: Fr) (fun x1088 => G1089 (.inl x1088) = some r) (fun a w e hs => ⟨e.sub ⟨rfl, rfl, rfl, rfl, rfl, rfl, rfl, rfl, trivial⟩, hs⟩) ?_ (fun J1099 => ?_)
          · rintro x1088 hrun
            have hrun := (hl1090 _).symm.trans hrun
            · refine At.ibx ?_
              refine At.ibn ?_
              refine At.thn ?_
              refine At.region ?_
              refine At.run 2 rfl ?_
              refine At.nil ?_
              refine At.thn ?_
              refine At.round ?_
              refine At.seq ?_
              refine At.region ?_
              refine At.run 1 rfl ?_
              refine At.nil ?_
              refine At.thn ?_
              refine At.seq ?_
              refine At.condT rfl rfl ?_
              refine At.skip ?_
              refine At.thn ?_
              refine At.seq ?_
              refine At.block ?_
              refine At.seq ?_
              refine At.region ?_
              refine At.run 2 rfl ?_
              refine At.nil ?_
              refine At.thn ?_
              refine At.seq ?_
              refine At.region ?_
              refine At.run 2 rfl ?_
              refine At.y (Y.load rfl rfl (.s (.s (.s (.s (.s (.s (.s (.s (.s (.s .z)))))))))) rfl rfl rfl) rfl rfl rfl ?_
              refine At.run 1 rfl ?_
              refine At.makeRows (Fl.int .i64) 3 rfl rfl rfl rfl rfl rfl rfl rfl rfl h280.1 h280.2 (by decide) rfl (fun A1100 c1101 => ?_)
              refine At.y (Y.ixArrK rfl rfl rfl rfl rfl (show (0 : Int) ≤ 1 ∧ (1 : Int) < 2 by decide).1 (show (0 : Int) ≤ 1 ∧ (1 : Int) < 2 by decide).2 (q := 1) (off := 1) rfl rfl) rfl rfl rfl ?_
              refine At.store rfl rfl rfl rfl (.s .z) rfl rfl rfl (.s (.c .n)) ?_
              refine At.nil ?_
              refine At.thn ?_
              refine At.seq ?_
              refine At.region ?_
              refine At.run 1 rfl ?_
              refine At.y (Y.load rfl rfl (.s (.s (.s (.s (.s (.s (.s (.s (.s (.s (.s .z))))))))))) rfl rfl rfl) rfl rfl rfl ?_
              refine At.run 2 rfl ?_
              refine At.nil ?_
              refine At.thn ?_
              refine At.block ?_
              obtain ⟨G1908, hl1909, hr1910, hrun⟩ := bjoin hrun
              obtain ⟨o1911, hlo1912, ho1913⟩ := bsome hrun
              clear hrun
              unfold judge_Judge.l1 at hlo1912
              obtain ⟨m1914, hit1916⟩ := iter_some.1 hlo1912
              clear hlo1912
              refine At.toMrows R.heap (.s .z) ?_
              refine At.frt (.s (.s (.s (.s (.s (.s (.s (.s (.s (.s (.s .z))))))))))) ?_
              refine At.frt (.s (.s (.s (.s (.s (.s (.s (.s (.s (.s (.s .z))))))))))) ?_
              refine At.frt (.s (.s (.s (.s (.s (.s (.s (.s (.s (.s (.s .z))))))))))) ?_
              refine At.frt (.s (.s (.s (.s (.s (.s (.s (.s (.s (.s (.s .z))))))))))) ?_
              refine At.frt (.s (.s (.s (.s (.s (.s (.s (.s (.s (.s (.s .z))))))))))) ?_
              refine At.frt (.s (.s (.s (.s (.s (.s (.s (.s (.s (.s (.s .z))))))))))) ?_
              refine At.frt (.s (.s (.s (.s (.s (.s (.s (.s (.s (.s (.s .z))))))))))) ?_
              refine At.frt (.s (.s (.s (.s (.s (.s (.s (.s (.s (.s (.s .z))))))))))) ?_
              refine At.frt (.s (.s (.s (.s (.s (.s (.s (.s (.s (.s (.s .z))))))))))) ?_
              refine At.frt (.s (.s (.s (.s (.s (.s (.s (.s (.s (.s (.s .z))))))))))) ?_
              refine At.frt (.s (.s (.s (.s (.s (.s (.s (.s (.s (.s .z)))))))))) ?_
              refine At.frt (.s (.s (.s (.s (.s (.s (.s (.s (.s (.s (.s .z))))))))))) ?_
              refine At.loopJ (X := (List (List Int)) × Int) (Y := (List (List Int))) (e0 := 2) (fun s_ => [(2, .pointer (some ⟨b260, 0, none⟩)), (4, .pointer (some ⟨b262, 0, none⟩)), (7, .pointer (some ⟨b266, 0, none⟩)), (9, .pointer (some ⟨b279, 0, none⟩)), (10, .int .i64 1), (35, .int .i64 1), (46, .int .i64 (a0_0.length : Int)), (47, .int .i64 s_.2)]) (fun s_ => pt b279 (.cells [.slice A281 ((List.replicate (a0_0.length : Int).toNat ([] : List Int)).length) c282, .slice A1100 ((List.replicate (a0_0.length : Int).toNat ([] : List Int)).length) c1101].toArray 76) :: mrows (Fl.int .i64) 3 26 R.heap A1100 ((List.replicate (a0_0.length : Int).toNat ([] : List Int)).length) c1101 s_.1 :: mrows (Fl.int .i64) 3 26 R.heap A281 ((List.replicate (a0_0.length : Int).toNat ([] : List Int)).length) c282 x1088 :: pt b277 (.cells [.int .i64 t269.2.2.1, .int .i64 t269.2.2.2.1, .int .i64 t269.2.2.2.2].toArray 44) :: row (Fl.int .i64) 3 w273 ((List.replicate (a0_0.length : Int).toNat (0 : Int)).length) w274 t269.2.1 :: row (Fl.int .i64) 3 w271 ((List.replicate (a0_0.length : Int).toNat (0 : Int)).length) w272 t269.1 :: pt b266 (.cells [.slice A0_0 a0_0.length c0_0, .slice A0_1 a0_1.length c0_1, .slice A0_2 a0_2.length c0_2, .slice A1_0 a1_0.length c1_0, .slice A1_1 a1_1.length c1_1, .slice A1_2 a1_2.length c1_2, .slice A1_3 a1_3.length c1_3, .slice w273 ((List.replicate (a0_0.length : Int).toNat (0 : Int)).length) w274, .slice w271 ((List.replicate (a0_0.length : Int).toNat (0 : Int)).length) w272].toArray 74) :: row (Fl.int .i64) 3 none 0 0 ([] : List Int) :: row (Fl.int .i64) 3 none 0 0 ([] : List Int) :: pt b262 (.cells [.int .i64 0, .int .i64 0, .int .i64 0].toArray 44) :: pt b261 (.cells [.slice A1_0 a1_0.length c1_0, .slice A1_1 a1_1.length c1_1, .slice A1_2 a1_2.length c1_2, .slice A1_3 a1_3.length c1_3].toArray 39) :: pt b260 (.cells [.slice A0_0 a0_0.length c0_0, .slice A0_1 a0_1.length c0_1, .slice A0_2 a0_2.length c0_2].toArray 36) :: Fr) (fun m_ => fun s_ => iterN (fun t_ : (List (List Int)) × Int => judge_Judge.l1b a0_0 a0_1 a0_2 a1_0 a1_1 a1_2 a1_3 t269 t_.1 t_.2) m_ (s_.1, s_.2) = some o1911) m1914 ((List.replicate (a0_0.length : Int).toNat ([] : List Int)), 0) hit1916 (fun x1907 => [(2, .pointer (some ⟨b260, 0, none⟩)), (4, .pointer (some ⟨b262, 0, none⟩)), (7, .pointer (some ⟨b266, 0, none⟩)), (9, .pointer (some ⟨b279, 0, none⟩)), (35, .int .i64 1)]) (fun x1907 => pt b279 (.cells [.slice A281 ((List.replicate (a0_0.length : Int).toNat ([] : List Int)).length) c282, .slice A1100 ((List.replicate (a0_0.length : Int).toNat ([] : List Int)).length) c1101].toArray 76) :: mrows (Fl.int .i64) 3 26 R.heap A1100 ((List.replicate (a0_0.length : Int).toNat ([] : List Int)).length) c1101 x1907 :: mrows (Fl.int .i64) 3 26 R.heap A281 ((List.replicate (a0_0.length : Int).toNat ([] : List Int)).length) c282 x1088 :: pt b277 (.cells [.int .i64 t269.2.2.1, .int .i64 t269.2.2.2.1, .int .i64 t269.2.2.2.2].toArray 44) :: row (Fl.int .i64) 3 w273 ((List.replicate (a0_0.length : Int).toNat (0 : Int)).length) w274 t269.2.1 :: row (Fl.int .i64) 3 w271 ((List.replicate (a0_0.length : Int).toNat (0 : Int)).length) w272 t269.1 :: pt b266 (.cells [.slice A0_0 a0_0.length c0_0, .slice A0_1 a0_1.length c0_1, .slice A0_2 a0_2.length c0_2, .slice A1_0 a1_0.length c1_0, .slice A1_1 a1_1.length c1_1, .slice A1_2 a1_2.length c1_2, .slice A1_3 a1_3.length c1_3, .slice w273 ((List.replicate (a0_0.length : Int).toNat (0 : Int)).length) w274, .slice w271 ((List.replicate (a0_0.length : Int).toNat (0 : Int)).length) w272].toArray 74) :: row (Fl.int .i64) 3 none 0 0 ([] : List Int) :: row (Fl.int .i64) 3 none 0 0 ([] : List Int) :: pt b262 (.cells [.int .i64 0, .int .i64 0, .int .i64 0].toArray 44) :: pt b261 (.cells [.slice A1_0 a1_0.length c1_0, .slice A1_1 a1_1.length c1_1, .slice A1_2 a1_2.length c1_2, .slice A1_3 a1_3.length c1_3].toArray 39) :: pt b260 (.cells [.slice A0_0 a0_0.length c0_0, .slice A0_1 a0_1.length c0_1, .slice A0_2 a0_2.length c0_2].toArray 36) :: Fr) (fun x1907 => G1908 (.inl x1907) = some r) (fun a w e hs => ⟨e.sub ⟨rfl, rfl, rfl, rfl, rfl, rfl, rfl, rfl, trivial⟩, hs⟩) ?_ (fun J1918 => ?_)
              · rintro x1907 hrun
                have hrun := (hl1909 _).symm.trans hrun
                · refine At.ibx ?_
                  refine At.ibn ?_
                  refine At.thn ?_
                  refine At.region ?_
                  refine At.run 2 rfl ?_
                  refine At.nil ?_
                  refine At.thn ?_
                  refine At.round ?_
                  refine At.seq ?_
                  refine At.region ?_
                  refine At.run 1 rfl ?_
                  refine At.nil ?_
                  refine At.thn ?_
                  refine At.seq ?_
                  refine At.condF rfl rfl ?_
                  refine At.exit ?_
                  refine At.the ?_
                  refine At.the ?_
                  refine At.ibx ?_
                  refine At.thn ?_
                  refine At.seq ?_
                  refine At.seq ?_
                  refine At.region ?_
                  refine At.y (Y.load rfl rfl .z rfl rfl rfl) rfl rfl rfl ?_
                  refine At.run 1 rfl ?_
                  refine At.nil ?_
                  refine At.thn ?_
                  refine At.block ?_
                  refine At.rounds 3 ?_
                  refine At.round ?_
                  refine At.seq ?_
                  refine At.region ?_
                  refine At.run 1 rfl ?_
                  refine At.nil ?_
                  refine At.thn ?_
                  refine At.seq ?_
                  refine At.condT rfl rfl ?_
                  refine At.skip ?_
                  refine At.thn ?_
                  refine At.seq ?_
                  refine At.block ?_
                  refine At.seq ?_
                  refine At.region ?_
                  refine At.run 1 rfl ?_
                  refine At.y (Y.ixA rfl rfl rfl rfl rfl (show (0 : Int) ≤ 0 ∧ (0 : Int) < 2 by decide).1 (show (0 : Int) ≤ 0 ∧ (0 : Int) < 2 by decide).2 rfl) rfl rfl rfl ?_
                  refine At.run 2 rfl ?_
                  refine At.nil ?_
                  refine At.thn ?_
                  refine At.seq ?_
                  refine At.region ?_
                  refine At.run 2 rfl ?_
                  refine At.y (Y.load rfl rfl (.s (.s (.s (.s (.s (.s (.s (.s (.s (.s (.s .z))))))))))) rfl rfl rfl) rfl rfl rfl ?_
                  refine At.run 2 rfl ?_
                  refine At.freezeMrows (Sub.refl _) (.s (.s .z)) fun R1919 hr1920 hn1921 hc1922 hs1923 th1924 => ?_
                  obtain ⟨t1925, hc1926, hrun⟩ := bbind hrun
                  refine At.call rfl cycles_Bad.callee rfl rfl rfl (cycles_Bad.spec _ _ A281 ((List.replicate (a0_0.length : Int).toNat ([] : List Int)).length) c282 A0_1 a0_1.length c0_1 x1088 a0_1 1 hr1920 hn1921 hc1922 (RdS.mono hs1923 hr0_1) rfl hc0_1 hc1926) ?_
                  rintro _ _ ⟨rfl, rfl⟩
                  refine At.run 1 rfl ?_
                  refine At.nil ?_
                  refine At.thn ?_
                  refine At.seq ?_
                  refine At.region ?_
                  refine At.run 2 rfl ?_
                  refine At.nil ?_
                  refine At.thn ?_
                  rcases bite hrun with ⟨h1927, hrun⟩ | ⟨h1927, hrun⟩
                  · · refine At.condT rfl (decide_eq_true h1927) ?_
                      refine At.seq ?_
                      refine At.region ?_
                      refine At.run 2 rfl ?_
                      refine At.y (Y.build (is := [0, 1, 2]) (xo := [.const (.int .i64 21), .tmp 94, .tmp 95]) (vs := [.int .i64 21, .int .i64 0, .int .i64 t1925]) (cs := [.int .i64 21, .int .i64 0, .int .i64 t1925]) rfl rfl rfl rfl rfl rfl) rfl rfl rfl ?_
                      refine At.store rfl rfl rfl rfl (.s (.s (.s (.s (.s (.s (.s (.s .z)))))))) rfl rfl rfl (.c (.c (.c .n))) ?_
                      refine At.nil ?_
                      refine At.thn ?_
                      refine At.ret ?_
                      refine At.ibr ?_
                      refine At.thr ?_
                      refine At.thr ?_
                      refine At.ibr ?_
                      refine At.thr ?_
                      refine At.thaw th1924 ?_
                      refine At.resM (.inl rfl) rfl (RV.cell rfl rfl (.s .z) rfl rfl rfl RV.nil) ?_
                      refine At.drop .z ?_
                      refine At.drop .z ?_
                      refine At.drop .z ?_
                      refine At.drop .z ?_
                      refine At.drop .z ?_
                      refine At.drop .z ?_
                      refine At.drop .z ?_
                      refine At.drop .z ?_
                      refine At.drop .z ?_
                      refine At.drop .z ?_
                      refine At.drop .z ?_
                      refine At.drop .z ?_
                      obtain rfl := (bret hrun).symm
                      exact fun a w e hs => ⟨_, ⟨rfl, rfl⟩, hs⟩
                  · · refine At.condF rfl (decide_eq_false h1927) ?_
                      refine At.skip ?_
                      refine At.ibn ?_
                      refine At.thn ?_
                      refine At.region ?_
                      refine At.run 2 rfl ?_
                      refine At.nil ?_
                      refine At.thn ?_
                      refine At.round ?_
                      refine At.seq ?_
                      refine At.region ?_
                      refine At.run 1 rfl ?_
                      refine At.nil ?_
                      refine At.thn ?_
                      refine At.seq ?_
                      refine At.condT rfl rfl ?_
                      refine At.skip ?_
                      refine At.thn ?_
                      refine At.seq ?_
                      refine At.block ?_
                      refine At.seq ?_
                      refine At.region ?_
                      refine At.run 1 rfl ?_
                      refine At.y (Y.ixA rfl rfl rfl rfl rfl (show (0 : Int) ≤ 1 ∧ (1 : Int) < 2 by decide).1 (show (0 : Int) ≤ 1 ∧ (1 : Int) < 2 by decide).2 rfl) rfl rfl rfl ?_
                      refine At.run 2 rfl ?_
                      refine At.nil ?_
                      refine At.thn ?_
                      refine At.seq ?_
                      refine At.region ?_
                      refine At.run 2 rfl ?_
                      refine At.y (Y.load rfl rfl (.s (.s (.s (.s (.s (.s (.s (.s (.s (.s .z)))))))))) rfl rfl rfl) rfl rfl rfl ?_
                      refine At.run 2 rfl ?_
                      refine At.freezeMrows hs1923 (.s .z) fun R1928 hr1929 hn1930 hc1931 hs1932 th1933 => ?_
                      obtain ⟨t1934, hc1935, hrun⟩ := bbind hrun
                      refine At.call rfl cycles_Bad.callee rfl rfl rfl (cycles_Bad.spec _ _ A1100 ((List.replicate (a0_0.length : Int).toNat ([] : List Int)).length) c1101 A0_1 a0_1.length c0_1 x1907 a0_1 0 hr1929 hn1930 hc1931 (RdS.mono (hs1923.trans hs1932) hr0_1) rfl hc0_1 hc1935) ?_
                      rintro _ _ ⟨rfl, rfl⟩
                      refine At.run 1 rfl ?_
                      refine At.nil ?_
                      refine At.thn ?_
                      refine At.seq ?_
                      refine At.region ?_
                      refine At.run 2 rfl ?_
                      refine At.nil ?_
                      refine At.thn ?_
                      rcases bite hrun with ⟨h1936, hrun⟩ | ⟨h1936, hrun⟩
                      · · refine At.condT rfl (decide_eq_true h1936) ?_
                          refine At.seq ?_
                          refine At.region ?_
                          refine At.run 2 rfl ?_
                          refine At.y (Y.build (is := [0, 1, 2]) (xo := [.const (.int .i64 21), .tmp 94, .tmp 95]) (vs := [.int .i64 21, .int .i64 1, .int .i64 t1934]) (cs := [.int .i64 21, .int .i64 1, .int .i64 t1934]) rfl rfl rfl rfl rfl rfl) rfl rfl rfl ?_
                          refine At.store rfl rfl rfl rfl (.s (.s (.s (.s (.s (.s (.s .z))))))) rfl rfl rfl (.c (.c (.c .n))) ?_
                          refine At.nil ?_
                          refine At.thn ?_
                          refine At.ret ?_
                          refine At.ibr ?_
                          refine At.thr ?_
                          refine At.thr ?_
                          refine At.ibr ?_
                          refine At.thr ?_
                          refine At.thaw th1933 ?_
                          refine At.thaw th1924 ?_
                          refine At.resM (.inl rfl) rfl (RV.cell rfl rfl (.s (.s .z)) rfl rfl rfl RV.nil) ?_
                          refine At.drop .z ?_
                          refine At.drop .z ?_
                          refine At.drop .z ?_
                          refine At.drop .z ?_
                          refine At.drop .z ?_
                          refine At.drop .z ?_
                          refine At.drop .z ?_
                          refine At.drop .z ?_
                          refine At.drop .z ?_
                          refine At.drop .z ?_
                          refine At.drop .z ?_
                          refine At.drop .z ?_
                          obtain rfl := (bret hrun).symm
                          exact fun a w e hs => ⟨_, ⟨rfl, rfl⟩, hs⟩
                      · · refine At.condF rfl (decide_eq_false h1936) ?_
                          refine At.skip ?_
                          refine At.ibn ?_
                          refine At.thn ?_
                          refine At.region ?_
                          refine At.run 2 rfl ?_
                          refine At.nil ?_
                          refine At.thn ?_
                          refine At.round ?_
                          refine At.seq ?_
                          refine At.region ?_
                          refine At.run 1 rfl ?_
                          refine At.nil ?_
                          refine At.thn ?_
                          refine At.seq ?_
                          refine At.condF rfl rfl ?_
                          refine At.exit ?_
                          refine At.the ?_
                          refine At.the ?_
                          refine At.ibx ?_
                          refine At.thn ?_
                          refine At.seq ?_
                          refine At.region ?_
                          refine At.y (Y.build (is := []) (xo := []) (vs := []) (cs := [.int .i64 0, .int .i64 0, .int .i64 0]) rfl rfl rfl rfl rfl rfl) rfl rfl rfl ?_
                          refine At.store rfl rfl rfl rfl (.s (.s (.s (.s (.s (.s (.s .z))))))) rfl rfl rfl (.c (.c (.c .n))) ?_
                          refine At.nil ?_
                          refine At.thn ?_
                          refine At.ret ?_
                          refine At.thaw th1933 ?_
                          refine At.thaw th1924 ?_
                          refine At.resM (.inl rfl) rfl (RV.cell rfl rfl (.s (.s .z)) rfl rfl rfl RV.nil) ?_
                          refine At.drop .z ?_
                          refine At.drop .z ?_
                          refine At.drop .z ?_
                          refine At.drop .z ?_
                          refine At.drop .z ?_
                          refine At.drop .z ?_
                          refine At.drop .z ?_
                          refine At.drop .z ?_
                          refine At.drop .z ?_
                          refine At.drop .z ?_
                          refine At.drop .z ?_
                          refine At.drop .z ?_
                          obtain rfl := (bret hrun).symm
                          exact fun a w e hs => ⟨_, ⟨rfl, rfl⟩, hs⟩
              · clear hit1916 m1914
                rintro m1914 ⟨x1705, x1706⟩ hit1916
                obtain ⟨m1915, f_, hlt1917, hf_, hrun⟩ := bit hit1916
                clear hit1916
                have hrun : (judge_Judge.l1b a0_0 a0_1 a0_2 a1_0 a1_1 a1_2 a1_3 t269 x1705 x1706).bind _ = some o1911 := hrun
                unfold judge_Judge.l1b at hrun
                · refine At.seq ?_
                  refine At.region ?_
                  refine At.run 1 rfl ?_
                  refine At.nil ?_
                  refine At.thn ?_
                  refine At.seq ?_
                  rcases bite hrun with ⟨h1937, hrun⟩ | ⟨h1937, hrun⟩
                  · · refine At.condT rfl (decide_eq_true h1937) ?_
                      refine At.skip ?_
                      refine At.thn ?_
                      refine At.seq ?_
                      obtain ⟨G1938, hl1939, hr1940, hrun⟩ := bjoin hrun
                      refine At.join (X := (List (List Int))) (fun x2142 => [(2, .pointer (some ⟨b260, 0, none⟩)), (4, .pointer (some ⟨b262, 0, none⟩)), (7, .pointer (some ⟨b266, 0, none⟩)), (9, .pointer (some ⟨b279, 0, none⟩)), (10, .int .i64 1), (35, .int .i64 1), (46, .int .i64 (a0_0.length : Int)), (47, .int .i64 x1706)]) (fun x2142 => pt b279 (.cells [.slice A281 ((List.replicate (a0_0.length : Int).toNat ([] : List Int)).length) c282, .slice A1100 ((List.replicate (a0_0.length : Int).toNat ([] : List Int)).length) c1101].toArray 76) :: mrows (Fl.int .i64) 3 26 R.heap A1100 ((List.replicate (a0_0.length : Int).toNat ([] : List Int)).length) c1101 x2142 :: mrows (Fl.int .i64) 3 26 R.heap A281 ((List.replicate (a0_0.length : Int).toNat ([] : List Int)).length) c282 x1088 :: pt b277 (.cells [.int .i64 t269.2.2.1, .int .i64 t269.2.2.2.1, .int .i64 t269.2.2.2.2].toArray 44) :: row (Fl.int .i64) 3 w273 ((List.replicate (a0_0.length : Int).toNat (0 : Int)).length) w274 t269.2.1 :: row (Fl.int .i64) 3 w271 ((List.replicate (a0_0.length : Int).toNat (0 : Int)).length) w272 t269.1 :: pt b266 (.cells [.slice A0_0 a0_0.length c0_0, .slice A0_1 a0_1.length c0_1, .slice A0_2 a0_2.length c0_2, .slice A1_0 a1_0.length c1_0, .slice A1_1 a1_1.length c1_1, .slice A1_2 a1_2.length c1_2, .slice A1_3 a1_3.length c1_3, .slice w273 ((List.replicate (a0_0.length : Int).toNat (0 : Int)).length) w274, .slice w271 ((List.replicate (a0_0.length : Int).toNat (0 : Int)).length) w272].toArray 74) :: row (Fl.int .i64) 3 none 0 0 ([] : List Int) :: row (Fl.int .i64) 3 none 0 0 ([] : List Int) :: pt b262 (.cells [.int .i64 0, .int .i64 0, .int .i64 0].toArray 44) :: pt b261 (.cells [.slice A1_0 a1_0.length c1_0, .slice A1_1 a1_1.length c1_1, .slice A1_2 a1_2.length c1_2, .slice A1_3 a1_3.length c1_3].toArray 39) :: pt b260 (.cells [.slice A0_0 a0_0.length c0_0, .slice A0_1 a0_1.length c0_1, .slice A0_2 a0_2.length c0_2].toArray 36) :: Fr) (fun x2142 => G1938 (.inl x2142) = some o1911) ?_ (fun J1941 => ?_)
                      · rintro x2142 hrun
                        have hrun := (hl1939 _).symm.trans hrun
                        · refine At.region ?_
                          refine At.run 2 rfl ?_
                          refine At.nil ?_
                          have hrun := bnx hf_ hrun
                          exact fun a w e hs => ⟨m1915, (x2142, IntKind.i64.wrap (x1706 + 1)), hlt1917, hrun, e.sub ⟨rfl, rfl, rfl, rfl, rfl, rfl, rfl, rfl, trivial⟩, hs⟩
                      · · refine At.block ?_
                          refine At.seq ?_
                          refine At.region ?_
                          refine At.run 2 rfl ?_
                          refine At.nil ?_
                          refine At.thn ?_
                          refine At.seq ?_
                          refine At.seq ?_
                          refine At.region ?_
                          refine At.run 4 rfl ?_
                          refine At.y (Y.ixArrK rfl rfl rfl rfl rfl (show (0 : Int) ≤ 1 ∧ (1 : Int) < 2 by decide).1 (show (0 : Int) ≤ 1 ∧ (1 : Int) < 2 by decide).2 (q := 1) (off := 8) rfl rfl) rfl rfl rfl ?_
                          refine At.y (Y.load rfl rfl (.s (.s (.s (.s (.s (.s .z)))))) rfl rfl rfl) rfl rfl rfl ?_
                          refine At.run 1 rfl ?_
                          obtain ⟨h2143, hrun⟩ := bnone hrun
                          refine At.y (Y.ix (.s (.s (.s (.s (.s .z))))) rfl rfl rfl rfl rfl rfl h2143.1 h2143.2) rfl rfl rfl ?_
                          refine At.y (Y.ld (.s (.s (.s (.s (.s .z))))) (q := 0) rfl rfl h2143.1 h2143.2 rfl rfl rfl) rfl rfl rfl ?_
                          refine At.run 1 rfl ?_
                          refine At.nil ?_
                          refine At.thn ?_
                          rcases bite hrun with ⟨h2144, hrun⟩ | ⟨h2144, hrun⟩
                          · · refine At.condT rfl (decide_eq_true h2144) ?_
                              refine At.exit ?_
                              refine At.the ?_
                              refine At.ibx ?_
                              refine At.thn ?_
                              exact fun a w e hs => J1941 x1705 hrun a w (e.sub ⟨rfl, rfl, rfl, rfl, rfl, rfl, rfl, rfl, trivial⟩) hs
                          · · refine At.condF rfl (decide_eq_false h2144) ?_
                              refine At.skip ?_
                              refine At.thn ?_
                              refine At.seq ?_
                              refine At.region ?_
                              refine At.run 3 rfl ?_
                              refine At.rowLen (.s (.s (.s (.s .z)))) fun hn2145 => ?_
                              refine At.rowLen (.s (.s (.s (.s (.s .z))))) fun hn2146 => ?_
                              refine At.frt (.s (.s (.s (.s (.s .z))))) ?_
                              refine At.frt (.s (.s (.s (.s (.s .z))))) ?_
                              refine At.frt (.s (.s (.s (.s (.s (.s .z)))))) ?_
                              obtain ⟨t2147, hc2148, hrun⟩ := bbind hrun
                              refine At.call rfl judge_court_steps.callee rfl rfl rfl (judge_court_steps.spec _ _ b266 A0_0 a0_0.length c0_0 A0_1 a0_1.length c0_1 A0_2 a0_2.length c0_2 A1_0 a1_0.length c1_0 A1_1 a1_1.length c1_1 A1_2 a1_2.length c1_2 A1_3 a1_3.length c1_3 w273 ((List.replicate (a0_0.length : Int).toNat (0 : Int)).length) w274 w271 ((List.replicate (a0_0.length : Int).toNat (0 : Int)).length) w272 a0_0 a0_1 a0_2 a1_0 a1_1 a1_2 a1_3 t269.2.1 t269.1 1 x1706 hr0_0 rfl hc0_0 hr0_1 rfl hc0_1 hr0_2 rfl hc0_2 hr1_0 rfl hc1_0 hr1_1 rfl hc1_1 hr1_2 rfl hc1_2 hr1_3 rfl hc1_3 hn2145 hn2146 hc2148) ?_
                              rintro _ _ ⟨w2149, w2150, w2151, rfl, rfl, rfl⟩
                              refine At.run 5 rfl ?_
                              refine At.nil ?_
                              refine At.thn ?_
                              refine At.seq ?_
                              refine At.seq ?_
                              refine At.region ?_
                              refine At.run 2 rfl ?_
                              refine At.nil ?_
                              refine At.thn ?_
                              rcases bite hrun with ⟨h2154, hrun⟩ | ⟨h2154, hrun⟩
                              · · refine At.condF rfl (nf (decide_eq_true h2154)) ?_
                                  refine At.skip ?_
                                  refine At.thn ?_
                                  refine At.region ?_
                                  refine At.run 1 rfl ?_
                                  refine At.y (Y.ixArrK rfl rfl rfl rfl rfl (show (0 : Int) ≤ 1 ∧ (1 : Int) < 2 by decide).1 (show (0 : Int) ≤ 1 ∧ (1 : Int) < 2 by decide).2 (q := 1) (off := 1) rfl rfl) rfl rfl rfl ?_
                                  refine At.y (Y.load rfl rfl (.s (.s (.s (.s .z)))) rfl rfl rfl) rfl rfl rfl ?_
                                  refine At.run 2 rfl ?_
                                  obtain ⟨h2155, hrun⟩ := bnone hrun
                                  refine At.y (Y.ixM (.s (.s (.s (.s (.s .z))))) rfl rfl rfl rfl rfl rfl h2155.1 h2155.2) rfl rfl rfl ?_
                                  refine At.stMix rfl (.s (.s (.s (.s (.s .z))))) .z rfl rfl rfl rfl h2155.1 h2155.2 ?_
                                  refine At.nil ?_
                                  refine At.ibn ?_
                                  refine At.thn ?_
                                  refine At.frt (.s (.s (.s (.s (.s (.s (.s (.s (.s (.s (.s .z))))))))))) ?_
                                  refine At.frt (.s (.s (.s (.s (.s (.s (.s (.s (.s (.s (.s .z))))))))))) ?_
                                  refine At.frt (.s (.s (.s (.s (.s (.s (.s (.s (.s (.s (.s .z))))))))))) ?_
                                  refine At.frt (.s (.s (.s (.s (.s (.s (.s (.s (.s (.s (.s .z))))))))))) ?_
                                  refine At.frt (.s (.s (.s (.s (.s (.s (.s (.s (.s (.s (.s .z))))))))))) ?_
                                  refine At.frt (.s (.s (.s (.s (.s (.s .z)))))) ?_
                                  refine At.frt (.s (.s (.s (.s (.s (.s (.s (.s .z)))))))) ?_
                                  refine At.frt (.s (.s (.s (.s (.s (.s (.s (.s .z)))))))) ?_
                                  refine At.frt (.s (.s (.s (.s (.s (.s (.s (.s (.s (.s (.s .z))))))))))) ?_
                                  refine At.frt (.s (.s (.s (.s (.s (.s (.s (.s (.s (.s (.s .z))))))))))) ?_
                                  refine At.frt (.s (.s (.s (.s (.s (.s (.s (.s (.s (.s .z)))))))))) ?_
                                  refine At.frt (.s (.s (.s (.s (.s (.s (.s (.s (.s (.s (.s .z))))))))))) ?_
                                  exact fun a w e hs => J1941 (st x1705 x1706 t2147.1) hrun a w (e.sub ⟨rfl, rfl, rfl, rfl, rfl, rfl, rfl, rfl, trivial⟩) hs
                              · · refine At.condT rfl (nt (decide_eq_false h2154)) ?_
                                  refine At.seq ?_
                                  refine At.region ?_
                                  refine At.run 3 rfl ?_
                                  refine At.y (Y.build (is := [0, 1, 2]) (xo := [.tmp 69, .tmp 70, .tmp 71]) (vs := [.int .i64 t2147.2, .int .i64 1, .int .i64 x1706]) (cs := [.int .i64 t2147.2, .int .i64 1, .int .i64 x1706]) rfl rfl rfl rfl rfl rfl) rfl rfl rfl ?_
                                  refine At.store rfl rfl rfl rfl (.s (.s (.s (.s (.s (.s (.s (.s (.s (.s .z)))))))))) rfl rfl rfl (.c (.c (.c .n))) ?_
                                  refine At.nil ?_
                                  refine At.thn ?_
                                  refine At.ret ?_
                                  refine At.thr ?_
                                  refine At.ibr ?_
                                  have hrun := bup hr1940 hrun
                                  refine At.thr ?_
                                  have hrun := bupL hr1910 ho1913 hrun
                                  refine At.thr ?_
                                  refine At.ibr ?_
                                  refine At.ibr ?_
                                  refine At.thr ?_
                                  refine At.thr ?_
                                  refine At.ibr ?_
                                  refine At.thr ?_
                                  refine At.resM (.inl rfl) rfl (RV.cell rfl rfl .z rfl rfl rfl RV.nil) ?_
                                  refine At.drop .z ?_
                                  refine At.drop .z ?_
                                  refine At.drop .z ?_
                                  refine At.drop .z ?_
                                  refine At.drop .z ?_
                                  refine At.drop .z ?_
                                  refine At.drop .z ?_
                                  refine At.drop .z ?_
                                  refine At.drop .z ?_
                                  refine At.drop .z ?_
                                  refine At.drop .z ?_
                                  refine At.drop .z ?_
                                  refine At.drop .z ?_
                                  obtain rfl := (bret hrun).symm
                                  exact fun a w e hs => ⟨_, ⟨rfl, rfl⟩, hs⟩
                  · · refine At.condF rfl (decide_eq_false h1937) ?_
                      refine At.exit ?_
                      refine At.the ?_
                      refine At.the ?_
                      exact fun a w e hs => J1918 x1705 (bdn hrun ho1913) a w (e.sub ⟨rfl, rfl, rfl, rfl, rfl, trivial⟩) hs
          · clear hit1097 m1095
            rintro m1095 ⟨x886, x887⟩ hit1097
            obtain ⟨m1096, f_, hlt1098, hf_, hrun⟩ := bit hit1097
            clear hit1097
            have hrun : (judge_Judge.l0b a0_0 a0_1 a0_2 a1_0 a1_1 a1_2 a1_3 t269 x886 x887).bind _ = some o1092 := hrun
            unfold judge_Judge.l0b at hrun
            · refine At.seq ?_
              refine At.region ?_
              refine At.run 1 rfl ?_
              refine At.nil ?_
              refine At.thn ?_
              refine At.seq ?_
              rcases bite hrun with ⟨h2156, hrun⟩ | ⟨h2156, hrun⟩
              · · refine At.condT rfl (decide_eq_true h2156) ?_
                  refine At.skip ?_
                  refine At.thn ?_
                  refine At.seq ?_
                  obtain ⟨G2157, hl2158, hr2159, hrun⟩ := bjoin hrun
                  refine At.join (X := (List (List Int))) (fun x2361 => [(2, .pointer (some ⟨b260, 0, none⟩)), (4, .pointer (some ⟨b262, 0, none⟩)), (7, .pointer (some ⟨b266, 0, none⟩)), (9, .pointer (some ⟨b279, 0, none⟩)), (10, .int .i64 0), (35, .int .i64 0), (46, .int .i64 (a0_0.length : Int)), (47, .int .i64 x887)]) (fun x2361 => pt b279 (.cells [.slice A281 ((List.replicate (a0_0.length : Int).toNat ([] : List Int)).length) c282, .slice none 0 0].toArray 76) :: mrows (Fl.int .i64) 3 26 R.heap A281 ((List.replicate (a0_0.length : Int).toNat ([] : List Int)).length) c282 x2361 :: pt b277 (.cells [.int .i64 t269.2.2.1, .int .i64 t269.2.2.2.1, .int .i64 t269.2.2.2.2].toArray 44) :: row (Fl.int .i64) 3 w273 ((List.replicate (a0_0.length : Int).toNat (0 : Int)).length) w274 t269.2.1 :: row (Fl.int .i64) 3 w271 ((List.replicate (a0_0.length : Int).toNat (0 : Int)).length) w272 t269.1 :: pt b266 (.cells [.slice A0_0 a0_0.length c0_0, .slice A0_1 a0_1.length c0_1, .slice A0_2 a0_2.length c0_2, .slice A1_0 a1_0.length c1_0, .slice A1_1 a1_1.length c1_1, .slice A1_2 a1_2.length c1_2, .slice A1_3 a1_3.length c1_3, .slice w273 ((List.replicate (a0_0.length : Int).toNat (0 : Int)).length) w274, .slice w271 ((List.replicate (a0_0.length : Int).toNat (0 : Int)).length) w272].toArray 74) :: row (Fl.int .i64) 3 none 0 0 ([] : List Int) :: row (Fl.int .i64) 3 none 0 0 ([] : List Int) :: pt b262 (.cells [.int .i64 0, .int .i64 0, .int .i64 0].toArray 44) :: pt b261 (.cells [.slice A1_0 a1_0.length c1_0, .slice A1_1 a1_1.length c1_1, .slice A1_2 a1_2.length c1_2, .slice A1_3 a1_3.length c1_3].toArray 39) :: pt b260 (.cells [.slice A0_0 a0_0.length c0_0, .slice A0_1 a0_1.length c0_1, .slice A0_2 a0_2.length c0_2].toArray 36) :: Fr) (fun x2361 => G2157 (.inl x2361) = some o1092) ?_ (fun J2160 => ?_)
                  · rintro x2361 hrun
                    have hrun := (hl2158 _).symm.trans hrun
                    · refine At.region ?_
                      refine At.run 2 rfl ?_
                      refine At.nil ?_
                      have hrun := bnx hf_ hrun
                      exact fun a w e hs => ⟨m1096, (x2361, IntKind.i64.wrap (x887 + 1)), hlt1098, hrun, e.sub ⟨rfl, rfl, rfl, rfl, rfl, rfl, rfl, rfl, trivial⟩, hs⟩
                  · · refine At.block ?_
                      refine At.seq ?_
                      refine At.region ?_
                      refine At.run 2 rfl ?_
                      refine At.nil ?_
                      refine At.thn ?_
                      refine At.seq ?_
                      refine At.seq ?_
                      refine At.region ?_
                      refine At.run 4 rfl ?_
                      refine At.y (Y.ixArrK rfl rfl rfl rfl rfl (show (0 : Int) ≤ 0 ∧ (0 : Int) < 2 by decide).1 (show (0 : Int) ≤ 0 ∧ (0 : Int) < 2 by decide).2 (q := 0) (off := 7) rfl rfl) rfl rfl rfl ?_
                      refine At.y (Y.load rfl rfl (.s (.s (.s (.s (.s .z))))) rfl rfl rfl) rfl rfl rfl ?_
                      refine At.run 1 rfl ?_
                      obtain ⟨h2362, hrun⟩ := bnone hrun
                      refine At.y (Y.ix (.s (.s (.s .z))) rfl rfl rfl rfl rfl rfl h2362.1 h2362.2) rfl rfl rfl ?_
                      refine At.y (Y.ld (.s (.s (.s .z))) (q := 0) rfl rfl h2362.1 h2362.2 rfl rfl rfl) rfl rfl rfl ?_
                      refine At.run 1 rfl ?_
                      refine At.nil ?_
                      refine At.thn ?_
                      rcases bite hrun with ⟨h2363, hrun⟩ | ⟨h2363, hrun⟩
                      · · refine At.condT rfl (decide_eq_true h2363) ?_
                          refine At.exit ?_
                          refine At.the ?_
                          refine At.ibx ?_
                          refine At.thn ?_
                          exact fun a w e hs => J2160 x886 hrun a w (e.sub ⟨rfl, rfl, rfl, rfl, rfl, rfl, rfl, rfl, trivial⟩) hs
                      · · refine At.condF rfl (decide_eq_false h2363) ?_
                          refine At.skip ?_
                          refine At.thn ?_
                          refine At.seq ?_
                          refine At.region ?_
                          refine At.run 3 rfl ?_
                          refine At.rowLen (.s (.s (.s .z))) fun hn2364 => ?_
                          refine At.rowLen (.s (.s (.s (.s .z)))) fun hn2365 => ?_
                          refine At.frt (.s (.s (.s (.s .z)))) ?_
                          refine At.frt (.s (.s (.s (.s .z)))) ?_
                          refine At.frt (.s (.s (.s (.s (.s .z))))) ?_
                          obtain ⟨t2366, hc2367, hrun⟩ := bbind hrun
                          refine At.call rfl judge_court_steps.callee rfl rfl rfl (judge_court_steps.spec _ _ b266 A0_0 a0_0.length c0_0 A0_1 a0_1.length c0_1 A0_2 a0_2.length c0_2 A1_0 a1_0.length c1_0 A1_1 a1_1.length c1_1 A1_2 a1_2.length c1_2 A1_3 a1_3.length c1_3 w273 ((List.replicate (a0_0.length : Int).toNat (0 : Int)).length) w274 w271 ((List.replicate (a0_0.length : Int).toNat (0 : Int)).length) w272 a0_0 a0_1 a0_2 a1_0 a1_1 a1_2 a1_3 t269.2.1 t269.1 0 x887 hr0_0 rfl hc0_0 hr0_1 rfl hc0_1 hr0_2 rfl hc0_2 hr1_0 rfl hc1_0 hr1_1 rfl hc1_1 hr1_2 rfl hc1_2 hr1_3 rfl hc1_3 hn2364 hn2365 hc2367) ?_
                          rintro _ _ ⟨w2368, w2369, w2370, rfl, rfl, rfl⟩
                          refine At.run 5 rfl ?_
                          refine At.nil ?_
                          refine At.thn ?_
                          refine At.seq ?_
                          refine At.seq ?_
                          refine At.region ?_
                          refine At.run 2 rfl ?_
                          refine At.nil ?_
                          refine At.thn ?_
                          rcases bite hrun with ⟨h2373, hrun⟩ | ⟨h2373, hrun⟩
                          · · refine At.condF rfl (nf (decide_eq_true h2373)) ?_
                              refine At.skip ?_
                              refine At.thn ?_
                              refine At.region ?_
                              refine At.run 1 rfl ?_
                              refine At.y (Y.ixArrK rfl rfl rfl rfl rfl (show (0 : Int) ≤ 0 ∧ (0 : Int) < 2 by decide).1 (show (0 : Int) ≤ 0 ∧ (0 : Int) < 2 by decide).2 (q := 0) (off := 0) rfl rfl) rfl rfl rfl ?_
                              refine At.y (Y.load rfl rfl (.s (.s (.s (.s .z)))) rfl rfl rfl) rfl rfl rfl ?_
                              refine At.run 2 rfl ?_
                              obtain ⟨h2374, hrun⟩ := bnone hrun
                              refine At.y (Y.ixM (.s (.s (.s (.s (.s .z))))) rfl rfl rfl rfl rfl rfl h2374.1 h2374.2) rfl rfl rfl ?_
                              refine At.stMix rfl (.s (.s (.s (.s (.s .z))))) .z rfl rfl rfl rfl h2374.1 h2374.2 ?_
                              refine At.nil ?_
                              refine At.ibn ?_
                              refine At.thn ?_
                              refine At.frt (.s (.s (.s (.s (.s (.s (.s (.s (.s (.s .z)))))))))) ?_
                              refine At.frt (.s (.s (.s (.s (.s (.s (.s (.s (.s (.s .z)))))))))) ?_
                              refine At.frt (.s (.s (.s (.s (.s (.s (.s (.s (.s (.s .z)))))))))) ?_
                              refine At.frt (.s (.s (.s (.s (.s (.s (.s (.s (.s (.s .z)))))))))) ?_
                              refine At.frt (.s (.s (.s (.s (.s (.s (.s (.s (.s (.s .z)))))))))) ?_
                              refine At.frt (.s (.s (.s (.s (.s (.s .z)))))) ?_
                              refine At.frt (.s (.s (.s (.s (.s (.s (.s (.s .z)))))))) ?_
                              refine At.frt (.s (.s (.s (.s (.s (.s (.s (.s .z)))))))) ?_
                              refine At.frt (.s (.s (.s (.s (.s (.s (.s (.s (.s (.s .z)))))))))) ?_
                              refine At.frt (.s (.s (.s (.s (.s (.s (.s (.s (.s .z))))))))) ?_
                              refine At.frt (.s (.s (.s (.s (.s (.s (.s (.s (.s (.s .z)))))))))) ?_
                              exact fun a w e hs => J2160 (st x886 x887 t2366.1) hrun a w (e.sub ⟨rfl, rfl, rfl, rfl, rfl, rfl, rfl, rfl, trivial⟩) hs
                          · · refine At.condT rfl (nt (decide_eq_false h2373)) ?_
                              refine At.seq ?_
                              refine At.region ?_
                              refine At.run 3 rfl ?_
                              refine At.y (Y.build (is := [0, 1, 2]) (xo := [.tmp 69, .tmp 70, .tmp 71]) (vs := [.int .i64 t2366.2, .int .i64 0, .int .i64 x887]) (cs := [.int .i64 t2366.2, .int .i64 0, .int .i64 x887]) rfl rfl rfl rfl rfl rfl) rfl rfl rfl ?_
                              refine At.store rfl rfl rfl rfl (.s (.s (.s (.s (.s (.s (.s (.s (.s .z))))))))) rfl rfl rfl (.c (.c (.c .n))) ?_
                              refine At.nil ?_
                              refine At.thn ?_
                              refine At.ret ?_
                              refine At.thr ?_
                              refine At.ibr ?_
                              have hrun := bup hr2159 hrun
                              refine At.thr ?_
                              have hrun := bupL hr1091 ho1094 hrun
                              refine At.thr ?_
                              refine At.ibr ?_
                              refine At.ibr ?_
                              refine At.thr ?_
                              refine At.thr ?_
                              refine At.ibr ?_
                              refine At.thr ?_
                              refine At.resM (.inl rfl) rfl (RV.cell rfl rfl .z rfl rfl rfl RV.nil) ?_
                              refine At.drop .z ?_
                              refine At.drop .z ?_
                              refine At.drop .z ?_
                              refine At.drop .z ?_
                              refine At.drop .z ?_
                              refine At.drop .z ?_
                              refine At.drop .z ?_
                              refine At.drop .z ?_
                              refine At.drop .z ?_
                              refine At.drop .z ?_
                              refine At.drop .z ?_
                              refine At.drop .z ?_
                              obtain rfl := (bret hrun).symm
                              exact fun a w e hs => ⟨_, ⟨rfl, rfl⟩, hs⟩
              · · refine At.condF rfl (decide_eq_false h2156) ?_
                  refine At.exit ?_
                  refine At.the ?_
                  refine At.the ?_
                  exact fun a w e hs => J1099 x886 (bdn hrun ho1094) a w (e.sub ⟨rfl, rfl, rfl, rfl, rfl, trivial⟩) hs
      · · refine At.condT rfl (nt (decide_eq_false h278)) ?_
          refine At.seq ?_
          refine At.region ?_
          refine At.y (Y.load rfl rfl .z rfl rfl rfl) rfl rfl rfl ?_
          refine At.store rfl rfl rfl rfl (.s (.s (.s (.s (.s (.s .z)))))) rfl rfl rfl (.c (.c (.c .n))) ?_
          refine At.nil ?_
          refine At.thn ?_
          refine At.ret ?_
          refine At.thr ?_
          refine At.resM (.inl rfl) rfl (RV.cell rfl rfl .z rfl rfl rfl RV.nil) ?_
          refine At.drop .z ?_
          refine At.drop .z ?_
          refine At.drop .z ?_
          refine At.drop .z ?_
          refine At.drop .z ?_
          refine At.drop .z ?_
          refine At.drop .z ?_
          refine At.drop .z ?_
          refine At.drop .z ?_
          obtain rfl := (bret hrun).symm
          exact fun a w e hs => ⟨_, ⟨rfl, rfl⟩, hs⟩
  · · refine At.condT rfl (nt (decide_eq_false h265)) ?_
      refine At.seq ?_
      refine At.region ?_
      refine At.y (Y.build (is := [0]) (xo := [.const (.int .i64 1)]) (vs := [.int .i64 1]) (cs := [.int .i64 1, .int .i64 0, .int .i64 0]) rfl rfl rfl rfl rfl rfl) rfl rfl rfl ?_
      refine At.store rfl rfl rfl rfl .z rfl rfl rfl (.c (.c (.c .n))) ?_
      refine At.nil ?_
      refine At.thn ?_
      refine At.ret ?_
      refine At.thr ?_
      refine At.resM (.inl rfl) rfl (RV.cell rfl rfl .z rfl rfl rfl RV.nil) ?_
      refine At.drop .z ?_
      refine At.drop .z ?_
      refine At.drop .z ?_
      obtain rfl := (bret hrun).symm
      exact fun a w e hs => ⟨_, ⟨rfl, rfl⟩, hs⟩

noncomputable def bailifflaw16_shown.f  : Option Bool :=
  (judge_Judge.f ([0, 1] : List Int) ([0, 1] : List Int) ([([0, 1] : List Int), ([0, 1] : List Int)] : List (List Int)) ([0] : List Int) ([1] : List Int) ([0, (-1)] : List Int) ([(-1), 1] : List Int)).bind fun t361 =>
    jn (
      if (decide (t361.1 = 0) && (decide (t361.2.1 = 0) && (decide (t361.2.2 = 0) && true))) = true then
        (judge_Judge.f ([0, 1] : List Int) ([0, 1] : List Int) ([([0, 1] : List Int), ([0, 1] : List Int)] : List (List Int)) ([0, 1] : List Int) ([] : List Int) ([0, (-1)] : List Int) ([(-1), 1] : List Int)).bind fun t593 =>
          some (.inl (decide (t593.1 = 21) && (decide (t593.2.1 = 0) && (decide (t593.2.2 = 1) && true))))
      else
        some (.inl false)) (fun (x563 : Bool) =>
      some x563)
theorem bailifflaw16_shown.callee : Callee Go.Proofs.Try.prog 24 := ⟨_, Go.Proofs.Try.func24, by kernel_rfl, by kernel_rfl⟩
set_option maxRecDepth 100000 in
set_option maxHeartbeats 2000000 in
theorem bailifflaw16_shown.spec (R : Res) (Fr : List HProp)    {r : Bool} (hrun : bailifflaw16_shown.f  = some r) :
    Spec Go.Proofs.Try.prog 24 [] R (Fr) (fun v l' => v = .bool r ∧ Fr = l') := by
  refine Spec.of Go.Proofs.Try.func24 rfl rfl ?_
  unfold bailifflaw16_shown.f at hrun
  have hrun := brun hrun
  refine At.seq ?_
  refine At.region ?_
  refine At.run 1 rfl ?_
  refine At.nil ?_
  refine At.thn ?_
  refine At.seq ?_
  refine At.region ?_
  refine At.lit rfl (xo := [.const (.int .i64 0), .const (.int .i64 1)]) (ys := ([0, 1] : List Int)) (Fl.int .i64) rfl rfl rfl rfl rfl rfl rfl rfl rfl rfl rfl (fun A277 c278 => ?_)
  refine At.lit rfl (xo := [.const (.int .i64 0), .const (.int .i64 1)]) (ys := ([0, 1] : List Int)) (Fl.int .i64) rfl rfl rfl rfl rfl rfl rfl rfl rfl rfl rfl (fun A280 c281 => ?_)
  refine At.lit rfl (xo := [.const (.int .i64 0), .const (.int .i64 1)]) (ys := ([0, 1] : List Int)) (Fl.int .i64) rfl rfl rfl rfl rfl rfl rfl rfl rfl rfl rfl (fun A283 c284 => ?_)
  refine At.lit rfl (xo := [.const (.int .i64 0), .const (.int .i64 1)]) (ys := ([0, 1] : List Int)) (Fl.int .i64) rfl rfl rfl rfl rfl rfl rfl rfl rfl rfl rfl (fun A286 c287 => ?_)
  refine At.litV rfl (xo := [.tmp 6, .tmp 7]) (vs := [.slice A283 (([0, 1] : List Int).length) c284, .slice A286 (([0, 1] : List Int).length) c287]) rfl rfl rfl rfl rfl rfl rfl rfl rfl rfl rfl (fun A289 c290 => ?_)
  refine At.y (Y.build (is := [0, 1, 2]) (xo := [.tmp 4, .tmp 5, .tmp 8]) (vs := [.slice A277 (([0, 1] : List Int).length) c278, .slice A280 (([0, 1] : List Int).length) c281, .slice A289 2 c290]) (cs := [.slice A277 (([0, 1] : List Int).length) c278, .slice A280 (([0, 1] : List Int).length) c281, .slice A289 2 c290]) rfl rfl rfl rfl rfl rfl) rfl rfl rfl ?_
  refine At.alloc rfl rfl rfl (fun b292 => ?_)
  refine At.store rfl rfl rfl rfl .z rfl rfl rfl (.c (.c (.c .n))) ?_
  refine At.nil ?_
  refine At.thn ?_
  refine At.seq ?_
  refine At.region ?_
  refine At.lit rfl (xo := [.const (.int .i64 0)]) (ys := ([0] : List Int)) (Fl.int .i64) rfl rfl rfl rfl rfl rfl rfl rfl rfl rfl rfl (fun A293 c294 => ?_)
  refine At.lit rfl (xo := [.const (.int .i64 1)]) (ys := ([1] : List Int)) (Fl.int .i64) rfl rfl rfl rfl rfl rfl rfl rfl rfl rfl rfl (fun A296 c297 => ?_)
  refine At.y (Y.buildA (is := [0, 1]) (xo := [.tmp 10, .tmp 11]) (vs := [.slice A293 (([0] : List Int).length) c294, .slice A296 (([1] : List Int).length) c297]) (cs := [.slice A293 (([0] : List Int).length) c294, .slice A296 (([1] : List Int).length) c297]) rfl rfl rfl rfl rfl rfl) rfl rfl rfl ?_
  refine At.lit rfl (xo := [.const (.int .i64 0), .const (.int .i64 (-1))]) (ys := ([0, (-1)] : List Int)) (Fl.int .i64) rfl rfl rfl rfl rfl rfl rfl rfl rfl rfl rfl (fun A299 c300 => ?_)
  refine At.lit rfl (xo := [.const (.int .i64 (-1)), .const (.int .i64 1)]) (ys := ([(-1), 1] : List Int)) (Fl.int .i64) rfl rfl rfl rfl rfl rfl rfl rfl rfl rfl rfl (fun A302 c303 => ?_)
  refine At.y (Y.buildA (is := [0, 1]) (xo := [.tmp 13, .tmp 14]) (vs := [.slice A299 (([0, (-1)] : List Int).length) c300, .slice A302 (([(-1), 1] : List Int).length) c303]) (cs := [.slice A299 (([0, (-1)] : List Int).length) c300, .slice A302 (([(-1), 1] : List Int).length) c303]) rfl rfl rfl rfl rfl rfl) rfl rfl rfl ?_
  refine At.y (Y.build (is := [0, 1]) (xo := [.tmp 12, .tmp 15]) (vs := [.agg #[.slice A293 (([0] : List Int).length) c294, .slice A296 (([1] : List Int).length) c297], .agg #[.slice A299 (([0, (-1)] : List Int).length) c300, .slice A302 (([(-1), 1] : List Int).length) c303]]) (cs := [.slice A293 (([0] : List Int).length) c294, .slice A296 (([1] : List Int).length) c297, .slice A299 (([0, (-1)] : List Int).length) c300, .slice A302 (([(-1), 1] : List Int).length) c303]) rfl rfl rfl rfl rfl rfl) rfl rfl rfl ?_
  refine At.alloc rfl rfl rfl (fun b305 => ?_)
  refine At.store rfl rfl rfl rfl .z rfl rfl rfl (.c (.c (.c (.c .n)))) ?_
  refine At.nil ?_
  refine At.thn ?_
  refine At.seq ?_
  refine At.region ?_
  refine At.lit rfl (xo := [.const (.int .i64 0), .const (.int .i64 1)]) (ys := ([0, 1] : List Int)) (Fl.int .i64) rfl rfl rfl rfl rfl rfl rfl rfl rfl rfl rfl (fun A306 c307 => ?_)
  refine At.lit rfl (xo := []) (ys := ([] : List Int)) (Fl.int .i64) rfl rfl rfl rfl rfl rfl rfl rfl rfl rfl rfl (fun A309 c310 => ?_)
  refine At.y (Y.buildA (is := [0, 1]) (xo := [.tmp 17, .tmp 18]) (vs := [.slice A306 (([0, 1] : List Int).length) c307, .slice A309 (([] : List Int).length) c310]) (cs := [.slice A306 (([0, 1] : List Int).length) c307, .slice A309 (([] : List Int).length) c310]) rfl rfl rfl rfl rfl rfl) rfl rfl rfl ?_
  refine At.lit rfl (xo := [.const (.int .i64 0), .const (.int .i64 (-1))]) (ys := ([0, (-1)] : List Int)) (Fl.int .i64) rfl rfl rfl rfl rfl rfl rfl rfl rfl rfl rfl (fun A312 c313 => ?_)
  refine At.lit rfl (xo := [.const (.int .i64 (-1)), .const (.int .i64 1)]) (ys := ([(-1), 1] : List Int)) (Fl.int .i64) rfl rfl rfl rfl rfl rfl rfl rfl rfl rfl rfl (fun A315 c316 => ?_)
  refine At.y (Y.buildA (is := [0, 1]) (xo := [.tmp 20, .tmp 21]) (vs := [.slice A312 (([0, (-1)] : List Int).length) c313, .slice A315 (([(-1), 1] : List Int).length) c316]) (cs := [.slice A312 (([0, (-1)] : List Int).length) c313, .slice A315 (([(-1), 1] : List Int).length) c316]) rfl rfl rfl rfl rfl rfl) rfl rfl rfl ?_
  refine At.y (Y.build (is := [0, 1]) (xo := [.tmp 19, .tmp 22]) (vs := [.agg #[.slice A306 (([0, 1] : List Int).length) c307, .slice A309 (([] : List Int).length) c310], .agg #[.slice A312 (([0, (-1)] : List Int).length) c313, .slice A315 (([(-1), 1] : List Int).length) c316]]) (cs := [.slice A306 (([0, 1] : List Int).length) c307, .slice A309 (([] : List Int).length) c310, .slice A312 (([0, (-1)] : List Int).length) c313, .slice A315 (([(-1), 1] : List Int).length) c316]) rfl rfl rfl rfl rfl rfl) rfl rfl rfl ?_
  refine At.alloc rfl rfl rfl (fun b318 => ?_)
  refine At.store rfl rfl rfl rfl .z rfl rfl rfl (.c (.c (.c (.c .n)))) ?_
  refine At.nil ?_
  refine At.thn ?_
  refine At.seq ?_
  refine At.region ?_
  refine At.y (Y.load rfl rfl (.s (.s (.s (.s (.s (.s (.s (.s (.s (.s .z)))))))))) rfl rfl rfl) rfl rfl rfl ?_
  refine At.y (Y.load rfl rfl (.s (.s (.s (.s (.s .z))))) rfl rfl rfl) rfl rfl rfl ?_
  refine At.freeze (.s (.s (.s (.s (.s (.s (.s (.s (.s (.s (.s (.s (.s (.s (.s .z))))))))))))))) fun R319 hr320 hn321 hc322 hs323 th324 => ?_
  refine At.freeze (.s (.s (.s (.s (.s (.s (.s (.s (.s (.s (.s (.s (.s (.s .z)))))))))))))) fun R325 hr326 hn327 hc328 hs329 th330 => ?_
  refine At.frt (.s (.s (.s (.s (.s (.s (.s (.s (.s (.s (.s (.s .z)))))))))))) ?_
  refine At.frt (.s (.s (.s (.s (.s (.s (.s (.s (.s (.s (.s (.s (.s .z))))))))))))) ?_
  refine At.frt (.s (.s (.s (.s (.s (.s (.s (.s (.s (.s (.s (.s (.s .z))))))))))))) ?_
  refine At.packRows [(A283, c284), (A286, c287)] ([([0, 1] : List Int), ([0, 1] : List Int)] : List (List Int)) (Fl.int .i64) 3 rfl ?_
  refine At.freezeRows .z fun R331 hr332 hn333 hc334 hs335 th336 => ?_
  refine At.freeze (.s (.s (.s (.s (.s (.s (.s (.s (.s .z))))))))) fun R337 hr338 hn339 hc340 hs341 th342 => ?_
  refine At.freeze (.s (.s (.s (.s (.s (.s (.s (.s .z)))))))) fun R343 hr344 hn345 hc346 hs347 th348 => ?_
  refine At.freeze (.s (.s (.s (.s (.s (.s (.s .z))))))) fun R349 hr350 hn351 hc352 hs353 th354 => ?_
  refine At.freeze (.s (.s (.s (.s (.s (.s .z)))))) fun R355 hr356 hn357 hc358 hs359 th360 => ?_
  obtain ⟨t361, hc362, hrun⟩ := bbind hrun
  refine At.call rfl judge_Judge.callee rfl rfl rfl (judge_Judge.spec _ _ A277 (([0, 1] : List Int).length) c278 A280 (([0, 1] : List Int).length) c281 A289 (([([0, 1] : List Int), ([0, 1] : List Int)] : List (List Int)).length) c290 A293 (([0] : List Int).length) c294 A296 (([1] : List Int).length) c297 A299 (([0, (-1)] : List Int).length) c300 A302 (([(-1), 1] : List Int).length) c303 ([0, 1] : List Int) ([0, 1] : List Int) ([([0, 1] : List Int), ([0, 1] : List Int)] : List (List Int)) ([0] : List Int) ([1] : List Int) ([0, (-1)] : List Int) ([(-1), 1] : List Int) (RdS.mono (((((hs329.trans hs335).trans hs341).trans hs347).trans hs353).trans hs359) hr320) hn321 hc322 (RdS.mono ((((hs335.trans hs341).trans hs347).trans hs353).trans hs359) hr326) hn327 hc328 (RdS.mono (((hs341.trans hs347).trans hs353).trans hs359) hr332) hn333 hc334 (RdS.mono ((hs347.trans hs353).trans hs359) hr338) hn339 hc340 (RdS.mono (hs353.trans hs359) hr344) hn345 hc346 (RdS.mono hs359 hr350) hn351 hc352 hr356 hn357 hc358 hc362) ?_
  rintro _ _ ⟨rfl, rfl⟩
  refine At.y (Y.build (is := []) (xo := []) (vs := []) (cs := [.int .i64 0, .int .i64 0, .int .i64 0]) rfl rfl rfl rfl rfl rfl) rfl rfl rfl ?_
  refine At.y (Y.eqSt (xs := [.int .i64 t361.1, .int .i64 t361.2.1, .int .i64 t361.2.2]) (ys := [.int .i64 0, .int .i64 0, .int .i64 0]) rfl rfl rfl rfl (by kernel_rfl) (by kernel_rfl) (by kernel_rfl) rfl) rfl rfl rfl ?_
  refine At.run 1 rfl ?_
  obtain ⟨G564, hl565, hr566, hrun⟩ := bjoin hrun
  refine At.joinO 6 (X := Bool) (fun x563 => [(35, .bool x563)]) (fun x563 => row (Fl.int .i64) 3 A306 (([0, 1] : List Int).length) c307 ([0, 1] : List Int) :: row (Fl.int .i64) 3 A309 (([] : List Int).length) c310 ([] : List Int) :: row (Fl.int .i64) 3 A312 (([0, (-1)] : List Int).length) c313 ([0, (-1)] : List Int) :: row (Fl.int .i64) 3 A315 (([(-1), 1] : List Int).length) c316 ([(-1), 1] : List Int) :: pt b318 (.cells [.slice A306 (([0, 1] : List Int).length) c307, .slice A309 (([] : List Int).length) c310, .slice A312 (([0, (-1)] : List Int).length) c313, .slice A315 (([(-1), 1] : List Int).length) c316].toArray 39) :: pt b305 (.cells [.slice A293 (([0] : List Int).length) c294, .slice A296 (([1] : List Int).length) c297, .slice A299 (([0, (-1)] : List Int).length) c300, .slice A302 (([(-1), 1] : List Int).length) c303].toArray 39) :: pt b292 (.cells [.slice A277 (([0, 1] : List Int).length) c278, .slice A280 (([0, 1] : List Int).length) c281, .slice A289 (([([0, 1] : List Int), ([0, 1] : List Int)] : List (List Int)).length) c290].toArray 36) :: Fr) (fun x563 => G564 (.inl x563) = some r) ?_ (fun J567 => ?_)
  · rintro x563 hrun
    have hrun := (hl565 _).symm.trans hrun
    · refine At.run 1 rfl ?_
      refine At.nil ?_
      refine At.thn ?_
      refine At.ret ?_
      refine At.thaw th360 ?_
      refine At.thaw th354 ?_
      refine At.thaw th348 ?_
      refine At.thaw th342 ?_
      refine At.thaw th336 ?_
      refine At.thaw th330 ?_
      refine At.thaw th324 ?_
      refine At.drop .z ?_
      refine At.drop .z ?_
      refine At.drop .z ?_
      refine At.drop .z ?_
      refine At.drop .z ?_
      refine At.drop .z ?_
      refine At.drop .z ?_
      refine At.drop .z ?_
      refine At.drop .z ?_
      refine At.drop .z ?_
      refine At.drop .z ?_
      refine At.drop .z ?_
      refine At.drop .z ?_
      refine At.drop .z ?_
      obtain rfl := (bret hrun).symm
      exact At.res (.inl rfl) rfl rfl ⟨rfl, rfl⟩
  · · rcases bite hrun with ⟨h568, hrun⟩ | ⟨h568, hrun⟩
      · · refine At.know (t := 29) rfl h568 ?_
          refine At.y (Y.load rfl rfl (.s (.s (.s (.s (.s (.s .z)))))) rfl rfl rfl) rfl rfl rfl ?_
          refine At.y (Y.load rfl rfl .z rfl rfl rfl) rfl rfl rfl ?_
          refine At.freeze (.s (.s (.s (.s .z)))) fun R569 hr570 hn571 hc572 hs573 th574 => ?_
          refine At.freeze (.s (.s (.s .z))) fun R575 hr576 hn577 hc578 hs579 th580 => ?_
          refine At.freeze (.s (.s .z)) fun R581 hr582 hn583 hc584 hs585 th586 => ?_
          refine At.freeze (.s .z) fun R587 hr588 hn589 hc590 hs591 th592 => ?_
          obtain ⟨t593, hc594, hrun⟩ := bbind hrun
          refine At.call rfl judge_Judge.callee rfl rfl rfl (judge_Judge.spec _ _ A277 (([0, 1] : List Int).length) c278 A280 (([0, 1] : List Int).length) c281 A289 (([([0, 1] : List Int), ([0, 1] : List Int)] : List (List Int)).length) c290 A306 (([0, 1] : List Int).length) c307 A309 (([] : List Int).length) c310 A312 (([0, (-1)] : List Int).length) c313 A315 (([(-1), 1] : List Int).length) c316 ([0, 1] : List Int) ([0, 1] : List Int) ([([0, 1] : List Int), ([0, 1] : List Int)] : List (List Int)) ([0, 1] : List Int) ([] : List Int) ([0, (-1)] : List Int) ([(-1), 1] : List Int) (RdS.mono (((((((((hs329.trans hs335).trans hs341).trans hs347).trans hs353).trans hs359).trans hs573).trans hs579).trans hs585).trans hs591) hr320) hn321 hc322 (RdS.mono ((((((((hs335.trans hs341).trans hs347).trans hs353).trans hs359).trans hs573).trans hs579).trans hs585).trans hs591) hr326) hn327 hc328 (RdS.mono (((((((hs341.trans hs347).trans hs353).trans hs359).trans hs573).trans hs579).trans hs585).trans hs591) hr332) hn333 hc334 (RdS.mono ((hs579.trans hs585).trans hs591) hr570) hn571 hc572 (RdS.mono (hs585.trans hs591) hr576) hn577 hc578 (RdS.mono hs591 hr582) hn583 hc584 hr588 hn589 hc590 hc594) ?_
          rintro _ _ ⟨rfl, rfl⟩
          refine At.y (Y.build (is := [0, 2]) (xo := [.const (.int .i64 21), .const (.int .i64 1)]) (vs := [.int .i64 21, .int .i64 1]) (cs := [.int .i64 21, .int .i64 0, .int .i64 1]) rfl rfl rfl rfl rfl rfl) rfl rfl rfl ?_
          refine At.y (Y.eqSt (xs := [.int .i64 t593.1, .int .i64 t593.2.1, .int .i64 t593.2.2]) (ys := [.int .i64 21, .int .i64 0, .int .i64 1]) rfl rfl rfl rfl (by kernel_rfl) (by kernel_rfl) (by kernel_rfl) rfl) rfl rfl rfl ?_
          refine At.run 1 rfl ?_
          refine At.thaw th592 ?_
          refine At.thaw th586 ?_
          refine At.thaw th580 ?_
          refine At.thaw th574 ?_
          exact At.of (J567 (decide (t593.1 = 21) && (decide (t593.2.1 = 0) && (decide (t593.2.2 = 1) && true))) hrun) ⟨rfl, trivial⟩
      · · refine At.know (t := 29) rfl (bn h568) ?_
          refine At.run 6 rfl ?_
          refine At.frt (.s (.s (.s (.s (.s (.s .z)))))) ?_
          refine At.frt (.s (.s (.s (.s (.s (.s .z)))))) ?_
          refine At.frt (.s (.s .z)) ?_
          refine At.frt (.s (.s (.s .z))) ?_
          refine At.frt (.s (.s (.s (.s .z)))) ?_
          refine At.frt (.s (.s (.s (.s (.s .z))))) ?_
          refine At.frt (.s (.s (.s (.s (.s (.s .z)))))) ?_
          exact At.of (J567 false hrun) ⟨rfl, trivial⟩

noncomputable def bailiffref16_Count.l0b (a0 : List Int) (a1 : Int) (x854 : Int) (x855 : Int) : Option ((Int × Int) ⊕ ((Int) ⊕ (Int))) :=
  if x855 < (a0.length : Int) then
    jn (
      if (0 : Int) ≤ x855 ∧ x855 < (a0.length : Int) then
        if gt a0 x855 = a1 then
          some (.inl (IntKind.i64.wrap (x854 + 1)))
        else
          some (.inl x854)
      else none) (fun (x1273 : Int) =>
      nx (x1273, IntKind.i64.wrap (x855 + 1)))
  else
    dn (.inl x854)
noncomputable def bailiffref16_Count.l0 (a0 : List Int) (a1 : Int) (x854 : Int) (x855 : Int) : Option ((Int) ⊕ (Int)) := iter (fun t_ : Int × Int => bailiffref16_Count.l0b a0 a1 t_.1 t_.2) (x854, x855)
noncomputable def bailiffref16_Count.f (a0 : List Int) (a1 : Int) : Option Int :=
  jn (bailiffref16_Count.l0 a0 a1 0 0) (fun (x1056 : Int) =>
    some x1056)
theorem bailiffref16_Count.callee : Callee Go.Proofs.Try.prog 31 := ⟨_, Go.Proofs.Try.func31, by kernel_rfl, by kernel_rfl⟩
set_option maxRecDepth 100000 in
set_option maxHeartbeats 2000000 in
theorem bailiffref16_Count.spec (R : Res) (Fr : List HProp) (A0 : Option Addr) (n0 : Nat) (c0 : Nat) (a0 : List Int) (a1 : Int) (hr0 : RdS (Fl.int .i64).rep R.heap A0 a0) (hn0 : a0.length = n0) (hc0 : n0 ≤ c0) {r : Int} (hrun : bailiffref16_Count.f a0 a1 = some r) :
    Spec Go.Proofs.Try.prog 31 [.slice A0 n0 c0, .int .i64 a1] R (Fr) (fun v l' => v = .int .i64 r ∧ Fr = l') := by
  subst hn0
  refine Spec.of Go.Proofs.Try.func31 rfl rfl ?_
  unfold bailiffref16_Count.f at hrun
  have hrun := brun hrun
  refine At.seq ?_
  refine At.region ?_
  refine At.run 1 rfl ?_
  refine At.nil ?_
  refine At.thn ?_
  refine At.seq ?_
  refine At.region ?_
  refine At.run 1 rfl ?_
  refine At.nil ?_
  refine At.thn ?_
  refine At.seq ?_
  refine At.seq ?_
  refine At.region ?_
  refine At.run 1 rfl ?_
  refine At.nil ?_
  refine At.thn ?_
  refine At.block ?_
  obtain ⟨G1057, hl1058, hr1059, hrun⟩ := bjoin hrun
  obtain ⟨o1060, hlo1061, ho1062⟩ := bsome hrun
  clear hrun
  unfold bailiffref16_Count.l0 at hlo1061
  obtain ⟨m1063, hit1065⟩ := iter_some.1 hlo1061
  clear hlo1061
  refine At.loopJ (X := Int × Int) (Y := Int) (e0 := 0) (fun s_ => [(0, .slice A0 a0.length c0), (1, .int .i64 a1), (5, .int .i64 s_.1), (6, .int .i64 s_.2)]) (fun s_ => Fr) (fun m_ => fun s_ => iterN (fun t_ : Int × Int => bailiffref16_Count.l0b a0 a1 t_.1 t_.2) m_ (s_.1, s_.2) = some o1060) m1063 (0, 0) hit1065 (fun x1056 => [(5, .int .i64 x1056)]) (fun x1056 => Fr) (fun x1056 => G1057 (.inl x1056) = some r) (fun a w e hs => ⟨e.sub ⟨rfl, rfl, rfl, rfl, trivial⟩, hs⟩) ?_ (fun J1067 => ?_)
  · rintro x1056 hrun
    have hrun := (hl1058 _).symm.trans hrun
    · refine At.ibx ?_
      refine At.thn ?_
      refine At.seq ?_
      refine At.region ?_
      refine At.run 2 rfl ?_
      refine At.nil ?_
      refine At.thn ?_
      refine At.ret ?_
      obtain rfl := (bret hrun).symm
      exact At.res (.inl rfl) rfl rfl ⟨rfl, rfl⟩
  · clear hit1065 m1063
    rintro m1063 ⟨x854, x855⟩ hit1065
    obtain ⟨m1064, f_, hlt1066, hf_, hrun⟩ := bit hit1065
    clear hit1065
    have hrun : (bailiffref16_Count.l0b a0 a1 x854 x855).bind _ = some o1060 := hrun
    unfold bailiffref16_Count.l0b at hrun
    · refine At.seq ?_
      refine At.seq ?_
      refine At.region ?_
      refine At.run 4 rfl ?_
      refine At.nil ?_
      refine At.thn ?_
      rcases bite hrun with ⟨h1068, hrun⟩ | ⟨h1068, hrun⟩
      · · refine At.condT rfl (decide_eq_true h1068) ?_
          refine At.skip ?_
          refine At.thn ?_
          refine At.seq ?_
          obtain ⟨G1069, hl1070, hr1071, hrun⟩ := bjoin hrun
          refine At.join (X := Int) (fun x1273 => [(0, .slice A0 a0.length c0), (1, .int .i64 a1), (5, .int .i64 x1273), (6, .int .i64 x855)]) (fun x1273 => Fr) (fun x1273 => G1069 (.inl x1273) = some o1060) ?_ (fun J1072 => ?_)
          · rintro x1273 hrun
            have hrun := (hl1070 _).symm.trans hrun
            · refine At.region ?_
              refine At.run 3 rfl ?_
              refine At.nil ?_
              have hrun := bnx hf_ hrun
              exact fun a w e hs => ⟨m1064, (x1273, IntKind.i64.wrap (x855 + 1)), hlt1066, hrun, e.sub ⟨rfl, rfl, rfl, rfl, trivial⟩, hs⟩
          · · refine At.block ?_
              refine At.seq ?_
              refine At.region ?_
              refine At.run 2 rfl ?_
              obtain ⟨h1274, hrun⟩ := bnone hrun
              refine At.y (Y.ixRd hr0 rfl rfl rfl rfl rfl rfl rfl h1274.1 h1274.2) rfl rfl rfl ?_
              refine At.y (Y.ldFl hr0 rfl (q := 0) rfl rfl h1274.1 h1274.2 rfl rfl rfl) rfl rfl rfl ?_
              refine At.run 2 rfl ?_
              refine At.nil ?_
              refine At.thn ?_
              rcases bite hrun with ⟨h1275, hrun⟩ | ⟨h1275, hrun⟩
              · · refine At.condT rfl (decide_eq_true h1275) ?_
                  refine At.region ?_
                  refine At.run 3 rfl ?_
                  refine At.nil ?_
                  refine At.ibn ?_
                  refine At.thn ?_
                  exact fun a w e hs => J1072 (IntKind.i64.wrap (x854 + 1)) hrun a w (e.sub ⟨rfl, rfl, rfl, rfl, trivial⟩) hs
              · · refine At.condF rfl (decide_eq_false h1275) ?_
                  refine At.skip ?_
                  refine At.ibn ?_
                  refine At.thn ?_
                  exact fun a w e hs => J1072 x854 hrun a w (e.sub ⟨rfl, rfl, rfl, rfl, trivial⟩) hs
      · · refine At.condF rfl (decide_eq_false h1068) ?_
          refine At.exit ?_
          refine At.the ?_
          refine At.the ?_
          exact fun a w e hs => J1067 x854 (bdn hrun ho1062) a w (e.sub ⟨rfl, trivial⟩) hs

noncomputable def bailifflaw16_lent.f (a0_0 : List Int) (a0_1 : List Int) (a0_2 : List Int) (a0_3 : List Int) : Option Unit :=
  if (([] : List Int).length + a0_0.length) * 8 ≤ 140737488355328 then
    if ((([] : List Int) ++ a0_0).length + ([0] : List Int).length) * 8 ≤ 140737488355328 then
      if (([] : List Int).length + a0_2.length) * 8 ≤ 140737488355328 then
        if ((([] : List Int) ++ a0_2).length + ([0] : List Int).length) * 8 ≤ 140737488355328 then
          if (0 : Int) ≤ (a0_0.length : Int) ∧ (a0_0.length : Int) ≤ (((([] : List Int) ++ a0_0) ++ ([0] : List Int)).length : Int) then
            if (0 : Int) ≤ (a0_2.length : Int) ∧ (a0_2.length : Int) ≤ (((([] : List Int) ++ a0_2) ++ ([0] : List Int)).length : Int) then
              if (([] : List Int).length + a0_1.length) * 8 ≤ 140737488355328 then
                if ((([] : List Int) ++ a0_1).length + ([0] : List Int).length) * 8 ≤ 140737488355328 then
                  if (([] : List Int).length + a0_3.length) * 8 ≤ 140737488355328 then
                    if ((([] : List Int) ++ a0_3).length + ([0] : List Int).length) * 8 ≤ 140737488355328 then
                      if (0 : Int) ≤ (a0_1.length : Int) ∧ (a0_1.length : Int) ≤ (((([] : List Int) ++ a0_1) ++ ([0] : List Int)).length : Int) then
                        if (0 : Int) ≤ (a0_3.length : Int) ∧ (a0_3.length : Int) ≤ (((([] : List Int) ++ a0_3) ++ ([0] : List Int)).length : Int) then
                          some ()
                        else none
                      else none
                    else none
                  else none
                else none
              else none
            else none
          else none
        else none
      else none
    else none
  else none
theorem bailifflaw16_lent.callee : Callee Go.Proofs.Try.prog 26 := ⟨_, Go.Proofs.Try.func26, by kernel_rfl, by kernel_rfl⟩
set_option maxRecDepth 100000 in
set_option maxHeartbeats 2000000 in
theorem bailifflaw16_lent.spec (R : Res) (Fr : List HProp) (A0_0 : Option Addr) (n0_0 : Nat) (c0_0 : Nat) (A0_1 : Option Addr) (n0_1 : Nat) (c0_1 : Nat) (A0_2 : Option Addr) (n0_2 : Nat) (c0_2 : Nat) (A0_3 : Option Addr) (n0_3 : Nat) (c0_3 : Nat) (a0_0 : List Int) (a0_1 : List Int) (a0_2 : List Int) (a0_3 : List Int) (hr0_0 : RdS (Fl.int .i64).rep R.heap A0_0 a0_0) (hn0_0 : a0_0.length = n0_0) (hc0_0 : n0_0 ≤ c0_0) (hr0_1 : RdS (Fl.int .i64).rep R.heap A0_1 a0_1) (hn0_1 : a0_1.length = n0_1) (hc0_1 : n0_1 ≤ c0_1) (hr0_2 : RdS (Fl.int .i64).rep R.heap A0_2 a0_2) (hn0_2 : a0_2.length = n0_2) (hc0_2 : n0_2 ≤ c0_2) (hr0_3 : RdS (Fl.int .i64).rep R.heap A0_3 a0_3) (hn0_3 : a0_3.length = n0_3) (hc0_3 : n0_3 ≤ c0_3) {r : Unit} (hrun : bailifflaw16_lent.f a0_0 a0_1 a0_2 a0_3 = some r) :
    Spec Go.Proofs.Try.prog 26 [.agg #[.slice A0_0 n0_0 c0_0, .slice A0_1 n0_1 c0_1, .slice A0_2 n0_2 c0_2, .slice A0_3 n0_3 c0_3]] R (Fr) (fun v l' => ∃ (w253 : Option Addr) (w254 : Nat) (w255 : Option Addr) (w256 : Nat) (w257 : Option Addr) (w258 : Nat) (w259 : Option Addr) (w260 : Nat), v = .agg #[.slice w259 ((((([] : List Int) ++ a0_0) ++ ([0] : List Int)).take (n0_0 : Int).toNat).length) w260, .slice w255 ((((([] : List Int) ++ a0_1) ++ ([0] : List Int)).take (n0_1 : Int).toNat).length) w256, .slice w257 ((((([] : List Int) ++ a0_2) ++ ([0] : List Int)).take (n0_2 : Int).toNat).length) w258, .slice w253 ((((([] : List Int) ++ a0_3) ++ ([0] : List Int)).take (n0_3 : Int).toNat).length) w254] ∧ row (Fl.int .i64) 3 w259 ((((([] : List Int) ++ a0_0) ++ ([0] : List Int)).take (n0_0 : Int).toNat).length) w260 (((([] : List Int) ++ a0_0) ++ ([0] : List Int)).take (n0_0 : Int).toNat) :: row (Fl.int .i64) 3 w255 ((((([] : List Int) ++ a0_1) ++ ([0] : List Int)).take (n0_1 : Int).toNat).length) w256 (((([] : List Int) ++ a0_1) ++ ([0] : List Int)).take (n0_1 : Int).toNat) :: row (Fl.int .i64) 3 w257 ((((([] : List Int) ++ a0_2) ++ ([0] : List Int)).take (n0_2 : Int).toNat).length) w258 (((([] : List Int) ++ a0_2) ++ ([0] : List Int)).take (n0_2 : Int).toNat) :: row (Fl.int .i64) 3 w253 ((((([] : List Int) ++ a0_3) ++ ([0] : List Int)).take (n0_3 : Int).toNat).length) w254 (((([] : List Int) ++ a0_3) ++ ([0] : List Int)).take (n0_3 : Int).toNat) :: Fr = l') := by
  subst hn0_0
  subst hn0_1
  subst hn0_2
  subst hn0_3
  refine Spec.of Go.Proofs.Try.func26 rfl rfl ?_
  unfold bailifflaw16_lent.f at hrun
  have hrun := brun hrun
  refine At.seq ?_
  refine At.region ?_
  refine At.box rfl rfl (cs := [.slice A0_0 a0_0.length c0_0, .slice A0_1 a0_1.length c0_1, .slice A0_2 a0_2.length c0_2, .slice A0_3 a0_3.length c0_3]) rfl rfl (fun b262 => ?_)
  refine At.alloc rfl rfl rfl (fun b263 => ?_)
  refine At.nil ?_
  refine At.thn ?_
  refine At.seq ?_
  refine At.region ?_
  refine At.alloc rfl rfl rfl (fun b264 => ?_)
  refine At.nil ?_
  refine At.thn ?_
  refine At.seq ?_
  refine At.seq ?_
  refine At.region ?_
  refine At.run 1 rfl ?_
  refine At.nil ?_
  refine At.thn ?_
  refine At.block ?_
  refine At.rounds 3 ?_
  refine At.round ?_
  refine At.seq ?_
  refine At.seq ?_
  refine At.region ?_
  refine At.run 2 rfl ?_
  refine At.nil ?_
  refine At.thn ?_
  refine At.condT rfl rfl ?_
  refine At.skip ?_
  refine At.thn ?_
  refine At.seq ?_
  refine At.block ?_
  refine At.seq ?_
  refine At.region ?_
  refine At.lit rfl (xo := []) (ys := ([] : List Int)) (Fl.int .i64) rfl rfl rfl rfl rfl rfl rfl rfl rfl rfl rfl (fun A265 c266 => ?_)
  refine At.run 2 rfl ?_
  refine At.y (Y.ixArrK rfl rfl rfl rfl rfl (show (0 : Int) ≤ 0 ∧ (0 : Int) < 2 by decide).1 (show (0 : Int) ≤ 0 ∧ (0 : Int) < 2 by decide).2 (q := 0) (off := 0) rfl rfl) rfl rfl rfl ?_
  refine At.y (Y.load rfl rfl (.s (.s (.s .z))) rfl rfl rfl) rfl rfl rfl ?_
  obtain ⟨h268, hrun⟩ := bnone hrun
  refine At.appendAll rfl .z (SrcE.rd hr0_0) rfl rfl rfl rfl rfl rfl rfl rfl rfl h268 (by decide) rfl (fun A269 c270 => ?_)
  refine At.lit rfl (xo := [.const (.int .i64 0)]) (ys := ([0] : List Int)) (Fl.int .i64) rfl rfl rfl rfl rfl rfl rfl rfl rfl rfl rfl (fun A271 c272 => ?_)
  obtain ⟨h274, hrun⟩ := bnone hrun
  refine At.append rfl (.s .z) (Src.own .z (by simp)) rfl rfl rfl rfl rfl rfl rfl rfl h274 (by decide) rfl (fun A275 c276 => ?_)
  refine At.drop (.s .z) ?_
  refine At.run 1 rfl ?_
  refine At.nil ?_
  refine At.thn ?_
  refine At.seq ?_
  refine At.region ?_
  refine At.lit rfl (xo := []) (ys := ([] : List Int)) (Fl.int .i64) rfl rfl rfl rfl rfl rfl rfl rfl rfl rfl rfl (fun A277 c278 => ?_)
  refine At.run 2 rfl ?_
  refine At.y (Y.ixArrK rfl rfl rfl rfl rfl (show (0 : Int) ≤ 0 ∧ (0 : Int) < 2 by decide).1 (show (0 : Int) ≤ 0 ∧ (0 : Int) < 2 by decide).2 (q := 0) (off := 2) rfl rfl) rfl rfl rfl ?_
  refine At.y (Y.load rfl rfl (.s (.s (.s (.s .z)))) rfl rfl rfl) rfl rfl rfl ?_
  obtain ⟨h280, hrun⟩ := bnone hrun
  refine At.appendAll rfl .z (SrcE.rd hr0_2) rfl rfl rfl rfl rfl rfl rfl rfl rfl h280 (by decide) rfl (fun A281 c282 => ?_)
  refine At.lit rfl (xo := [.const (.int .i64 0)]) (ys := ([0] : List Int)) (Fl.int .i64) rfl rfl rfl rfl rfl rfl rfl rfl rfl rfl rfl (fun A283 c284 => ?_)
  obtain ⟨h286, hrun⟩ := bnone hrun
  refine At.append rfl (.s .z) (Src.own .z (by simp)) rfl rfl rfl rfl rfl rfl rfl rfl h286 (by decide) rfl (fun A287 c288 => ?_)
  refine At.drop (.s .z) ?_
  refine At.run 1 rfl ?_
  refine At.nil ?_
  refine At.thn ?_
  refine At.seq ?_
  refine At.region ?_
  refine At.run 4 rfl ?_
  refine At.y (Y.ixArrK rfl rfl rfl rfl rfl (show (0 : Int) ≤ 0 ∧ (0 : Int) < 2 by decide).1 (show (0 : Int) ≤ 0 ∧ (0 : Int) < 2 by decide).2 (q := 0) (off := 0) rfl rfl) rfl rfl rfl ?_
  refine At.y (Y.load rfl rfl (.s (.s (.s (.s .z)))) rfl rfl rfl) rfl rfl rfl ?_
  refine At.run 1 rfl ?_
  obtain ⟨h289, hrun⟩ := bnone hrun
  refine At.cut rfl (.s .z) rfl rfl rfl rfl rfl h289.1 h289.2 rfl ?_
  refine At.run 1 rfl ?_
  refine At.y (Y.ixArrK rfl rfl rfl rfl rfl (show (0 : Int) ≤ 0 ∧ (0 : Int) < 2 by decide).1 (show (0 : Int) ≤ 0 ∧ (0 : Int) < 2 by decide).2 (q := 0) (off := 0) rfl rfl) rfl rfl rfl ?_
  refine At.store rfl rfl rfl rfl (.s (.s .z)) rfl rfl rfl (.c .n) ?_
  refine At.nil ?_
  refine At.thn ?_
  refine At.region ?_
  refine At.run 4 rfl ?_
  refine At.y (Y.ixArrK rfl rfl rfl rfl rfl (show (0 : Int) ≤ 0 ∧ (0 : Int) < 2 by decide).1 (show (0 : Int) ≤ 0 ∧ (0 : Int) < 2 by decide).2 (q := 0) (off := 2) rfl rfl) rfl rfl rfl ?_
  refine At.y (Y.load rfl rfl (.s (.s (.s (.s .z)))) rfl rfl rfl) rfl rfl rfl ?_
  refine At.run 1 rfl ?_
  obtain ⟨h290, hrun⟩ := bnone hrun
  refine At.cut rfl (.s (.s .z)) rfl rfl rfl rfl rfl h290.1 h290.2 rfl ?_
  refine At.run 1 rfl ?_
  refine At.y (Y.ixArrK rfl rfl rfl rfl rfl (show (0 : Int) ≤ 0 ∧ (0 : Int) < 2 by decide).1 (show (0 : Int) ≤ 0 ∧ (0 : Int) < 2 by decide).2 (q := 0) (off := 2) rfl rfl) rfl rfl rfl ?_
  refine At.store rfl rfl rfl rfl (.s .z) rfl rfl rfl (.s (.s (.c .n))) ?_
  refine At.nil ?_
  refine At.ibn ?_
  refine At.thn ?_
  refine At.region ?_
  refine At.run 3 rfl ?_
  refine At.nil ?_
  refine At.thn ?_
  refine At.round ?_
  refine At.seq ?_
  refine At.seq ?_
  refine At.region ?_
  refine At.run 2 rfl ?_
  refine At.nil ?_
  refine At.thn ?_
  refine At.condT rfl rfl ?_
  refine At.skip ?_
  refine At.thn ?_
  refine At.seq ?_
  refine At.block ?_
  refine At.seq ?_
  refine At.region ?_
  refine At.lit rfl (xo := []) (ys := ([] : List Int)) (Fl.int .i64) rfl rfl rfl rfl rfl rfl rfl rfl rfl rfl rfl (fun A291 c292 => ?_)
  refine At.run 2 rfl ?_
  refine At.y (Y.ixArrK rfl rfl rfl rfl rfl (show (0 : Int) ≤ 1 ∧ (1 : Int) < 2 by decide).1 (show (0 : Int) ≤ 1 ∧ (1 : Int) < 2 by decide).2 (q := 1) (off := 1) rfl rfl) rfl rfl rfl ?_
  refine At.y (Y.load rfl rfl (.s (.s (.s (.s (.s .z))))) rfl rfl rfl) rfl rfl rfl ?_
  obtain ⟨h294, hrun⟩ := bnone hrun
  refine At.appendAll rfl .z (SrcE.rd hr0_1) rfl rfl rfl rfl rfl rfl rfl rfl rfl h294 (by decide) rfl (fun A295 c296 => ?_)
  refine At.lit rfl (xo := [.const (.int .i64 0)]) (ys := ([0] : List Int)) (Fl.int .i64) rfl rfl rfl rfl rfl rfl rfl rfl rfl rfl rfl (fun A297 c298 => ?_)
  obtain ⟨h300, hrun⟩ := bnone hrun
  refine At.append rfl (.s .z) (Src.own .z (by simp)) rfl rfl rfl rfl rfl rfl rfl rfl h300 (by decide) rfl (fun A301 c302 => ?_)
  refine At.drop (.s .z) ?_
  refine At.run 1 rfl ?_
  refine At.nil ?_
  refine At.thn ?_
  refine At.seq ?_
  refine At.region ?_
  refine At.lit rfl (xo := []) (ys := ([] : List Int)) (Fl.int .i64) rfl rfl rfl rfl rfl rfl rfl rfl rfl rfl rfl (fun A303 c304 => ?_)
  refine At.run 2 rfl ?_
  refine At.y (Y.ixArrK rfl rfl rfl rfl rfl (show (0 : Int) ≤ 1 ∧ (1 : Int) < 2 by decide).1 (show (0 : Int) ≤ 1 ∧ (1 : Int) < 2 by decide).2 (q := 1) (off := 3) rfl rfl) rfl rfl rfl ?_
  refine At.y (Y.load rfl rfl (.s (.s (.s (.s (.s (.s .z)))))) rfl rfl rfl) rfl rfl rfl ?_
  obtain ⟨h306, hrun⟩ := bnone hrun
  refine At.appendAll rfl .z (SrcE.rd hr0_3) rfl rfl rfl rfl rfl rfl rfl rfl rfl h306 (by decide) rfl (fun A307 c308 => ?_)
  refine At.lit rfl (xo := [.const (.int .i64 0)]) (ys := ([0] : List Int)) (Fl.int .i64) rfl rfl rfl rfl rfl rfl rfl rfl rfl rfl rfl (fun A309 c310 => ?_)
  obtain ⟨h312, hrun⟩ := bnone hrun
  refine At.append rfl (.s .z) (Src.own .z (by simp)) rfl rfl rfl rfl rfl rfl rfl rfl h312 (by decide) rfl (fun A313 c314 => ?_)
  refine At.drop (.s .z) ?_
  refine At.run 1 rfl ?_
  refine At.nil ?_
  refine At.thn ?_
  refine At.seq ?_
  refine At.region ?_
  refine At.run 4 rfl ?_
  refine At.y (Y.ixArrK rfl rfl rfl rfl rfl (show (0 : Int) ≤ 1 ∧ (1 : Int) < 2 by decide).1 (show (0 : Int) ≤ 1 ∧ (1 : Int) < 2 by decide).2 (q := 1) (off := 1) rfl rfl) rfl rfl rfl ?_
  refine At.y (Y.load rfl rfl (.s (.s (.s (.s (.s (.s .z)))))) rfl rfl rfl) rfl rfl rfl ?_
  refine At.run 1 rfl ?_
  obtain ⟨h315, hrun⟩ := bnone hrun
  refine At.cut rfl (.s .z) rfl rfl rfl rfl rfl h315.1 h315.2 rfl ?_
  refine At.run 1 rfl ?_
  refine At.y (Y.ixArrK rfl rfl rfl rfl rfl (show (0 : Int) ≤ 1 ∧ (1 : Int) < 2 by decide).1 (show (0 : Int) ≤ 1 ∧ (1 : Int) < 2 by decide).2 (q := 1) (off := 1) rfl rfl) rfl rfl rfl ?_
  refine At.store rfl rfl rfl rfl (.s (.s .z)) rfl rfl rfl (.s (.c .n)) ?_
  refine At.nil ?_
  refine At.thn ?_
  refine At.region ?_
  refine At.run 4 rfl ?_
  refine At.y (Y.ixArrK rfl rfl rfl rfl rfl (show (0 : Int) ≤ 1 ∧ (1 : Int) < 2 by decide).1 (show (0 : Int) ≤ 1 ∧ (1 : Int) < 2 by decide).2 (q := 1) (off := 3) rfl rfl) rfl rfl rfl ?_
  refine At.y (Y.load rfl rfl (.s (.s (.s (.s (.s (.s .z)))))) rfl rfl rfl) rfl rfl rfl ?_
  refine At.run 1 rfl ?_
  obtain ⟨h316, hrun⟩ := bnone hrun
  refine At.cut rfl (.s (.s .z)) rfl rfl rfl rfl rfl h316.1 h316.2 rfl ?_
  refine At.run 1 rfl ?_
  refine At.y (Y.ixArrK rfl rfl rfl rfl rfl (show (0 : Int) ≤ 1 ∧ (1 : Int) < 2 by decide).1 (show (0 : Int) ≤ 1 ∧ (1 : Int) < 2 by decide).2 (q := 1) (off := 3) rfl rfl) rfl rfl rfl ?_
  refine At.store rfl rfl rfl rfl (.s .z) rfl rfl rfl (.s (.s (.s (.c .n)))) ?_
  refine At.nil ?_
  refine At.ibn ?_
  refine At.thn ?_
  refine At.region ?_
  refine At.run 3 rfl ?_
  refine At.nil ?_
  refine At.thn ?_
  refine At.round ?_
  refine At.seq ?_
  refine At.seq ?_
  refine At.region ?_
  refine At.run 2 rfl ?_
  refine At.nil ?_
  refine At.thn ?_
  refine At.condF rfl rfl ?_
  refine At.exit ?_
  refine At.the ?_
  refine At.the ?_
  refine At.ibx ?_
  refine At.thn ?_
  refine At.seq ?_
  refine At.region ?_
  refine At.y (Y.load rfl rfl .z rfl rfl rfl) rfl rfl rfl ?_
  refine At.store rfl rfl rfl rfl (.s (.s (.s (.s (.s .z))))) rfl rfl rfl (.c (.c (.c (.c .n)))) ?_
  refine At.nil ?_
  refine At.thn ?_
  refine At.ret ?_
  refine At.resM (.inl rfl) rfl (RV.cell rfl rfl .z rfl rfl rfl RV.nil) ?_
  refine At.drop .z ?_
  refine At.drop .z ?_
  refine At.drop (.s (.s (.s (.s .z)))) ?_
  refine At.frt (.s (.s .z)) ?_
  refine At.frt (.s (.s .z)) ?_
  refine At.frt (.s (.s (.s .z))) ?_
  obtain rfl := (bret hrun).symm
  exact fun a w e hs => ⟨_, ⟨A313, c314, A301, c302, A287, c288, A275, c276, rfl, rfl⟩, hs⟩

end Go.Bw
