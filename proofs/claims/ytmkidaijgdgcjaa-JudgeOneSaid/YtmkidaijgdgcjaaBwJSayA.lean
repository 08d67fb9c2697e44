/- Walks: what the functions of the program compute, told by plain functions, and that the calls come to them. Conditions: none. -/
import Derived.Test.YtmkidaijgdgcjaaBwTyx
import Derived.Test.YtmkidaijgdgcjaaProg
import Derived.Test.YtmkidaijgdgcjaaBwLay
import Derived.Test.YtmkidaijgdgcjaaBwSortI
import Derived.Test.YtmkidaijgdgcjaaBwSortF
import Derived.Deep.QuietTactic
import Derived.Test.YtmkidaijgdgcjaaBwSame
import Derived.Test.YtmkidaijgdgcjaaBwJud
import Derived.Test.YtmkidaijgdgcjaaBwRef
import Derived.Test.YtmkidaijgdgcjaaBwSpare
import Derived.Test.YtmkidaijgdgcjaaBwAgg
set_option linter.unusedVariables false
set_option linter.unusedSimpArgs false
set_option linter.unusedSectionVars false
namespace Go.Bw
open Go Go.RowKit Go.Proofs
noncomputable def bailiffref09_Right.l1b (a0_0 : List Int) (a0_2 : List (List Int)) (x1268 : Int) (x2504 : Int) (x2505 : Int) : Option ((Int × Int) ⊕ ((Unit) ⊕ ((Int) ⊕ ((Unit) ⊕ (Int × Int))))) :=
  if x2505 < ((gt a0_2 x1268).length : Int) then
    if (0 : Int) ≤ x2505 ∧ x2505 < ((gt a0_2 x1268).length : Int) then
      jn (
        if gt (gt a0_2 x1268) x2505 ≤ x2504 then
          some (.inl true)
        else
          some (.inl (decide ((a0_0.length : Int) ≤ gt (gt a0_2 x1268) x2505)))) (fun (x2929 : Bool) =>
        if x2929 = true then
          upL (upL (some (16, x1268)))
        else
          nx (gt (gt a0_2 x1268) x2505, IntKind.i64.wrap (x2505 + 1)))
    else none
  else
    dn (.inl ())
noncomputable def bailiffref09_Right.l1 (a0_0 : List Int) (a0_2 : List (List Int)) (x1268 : Int) (x2504 : Int) (x2505 : Int) : Option ((Unit) ⊕ ((Int) ⊕ ((Unit) ⊕ (Int × Int)))) := iter (fun t_ : Int × Int => bailiffref09_Right.l1b a0_0 a0_2 x1268 t_.1 t_.2) (x2504, x2505)
noncomputable def bailiffref09_Right.l0b (a0_0 : List Int) (a0_1 : List Int) (a0_2 : List (List Int)) (x1268 : Int) : Option ((Int) ⊕ ((Unit) ⊕ (Int × Int))) :=
  if x1268 < (a0_0.length : Int) then
    if (0 : Int) ≤ x1268 ∧ x1268 < (a0_0.length : Int) then
      jn (
        if gt a0_0 x1268 = 0 then
          some (.inl false)
        else
          some (.inl (!(decide (gt a0_0 x1268 = 1))))) (fun (x1682 : Bool) =>
        if x1682 = true then
          upL (some (14, x1268))
        else
          if (0 : Int) ≤ x1268 ∧ x1268 < (a0_1.length : Int) then
            jn (
              if gt a0_1 x1268 < 0 then
                some (.inl true)
              else
                some (.inl (decide (7 < gt a0_1 x1268)))) (fun (x1889 : Bool) =>
              if x1889 = true then
                upL (some (15, x1268))
              else
                if (0 : Int) ≤ x1268 ∧ x1268 < (a0_2.length : Int) then
                  if ((gt a0_2 x1268).length : Int) = 0 then
                    upL (some (17, x1268))
                  else
                    jn (bailiffref09_Right.l1 a0_0 a0_2 x1268 (-1) 0) (fun (_ : Unit) =>
                      nx (IntKind.i64.wrap (x1268 + 1)))
                else none)
          else none)
    else none
  else
    dn (.inl ())
noncomputable def bailiffref09_Right.l0 (a0_0 : List Int) (a0_1 : List Int) (a0_2 : List (List Int)) (x1268 : Int) : Option ((Unit) ⊕ (Int × Int)) := iter (fun t_ : Int => bailiffref09_Right.l0b a0_0 a0_1 a0_2 t_) x1268
noncomputable def bailiffref09_Right.f (a0_0 : List Int) (a0_1 : List Int) (a0_2 : List (List Int)) : Option (Int × Int) :=
  jn (
    if (a0_1.length : Int) = (a0_0.length : Int) then
      some (.inl (!(decide ((a0_2.length : Int) = (a0_0.length : Int)))))
    else
      some (.inl true)) (fun (x455 : Bool) =>
    if x455 = true then
      some (1, 0)
    else
      jn (
        if (a0_0.length : Int) = 0 then
          some (.inl true)
        else
          some (.inl (decide (200 < (a0_0.length : Int))))) (fun (x661 : Bool) =>
        if x661 = true then
          some (10, 0)
        else
          jn (bailiffref09_Right.l0 a0_0 a0_1 a0_2 0) (fun (_ : Unit) =>
            some (0, 0))))
theorem bailiffref09_Right.callee : Callee Go.Proofs.Try.prog 60 := ⟨_, Go.Proofs.Try.func60, by kernel_rfl, by kernel_rfl⟩
set_option maxRecDepth 100000 in
set_option maxHeartbeats 2000000 in
theorem bailiffref09_Right.spec (R : Res) (Fr : List HProp) (A0_0 : Option Addr) (n0_0 : Nat) (c0_0 : Nat) (A0_1 : Option Addr) (n0_1 : Nat) (c0_1 : Nat) (A0_2 : Option Addr) (n0_2 : Nat) (c0_2 : Nat) (a0_0 : List Int) (a0_1 : List Int) (a0_2 : List (List Int)) (hr0_0 : RdS (Fl.int .i64).rep R.heap A0_0 a0_0) (hn0_0 : a0_0.length = n0_0) (hc0_0 : n0_0 ≤ c0_0) (hr0_1 : RdS (Fl.int .i64).rep R.heap A0_1 a0_1) (hn0_1 : a0_1.length = n0_1) (hc0_1 : n0_1 ≤ c0_1) (hr0_2 : RdS ((Fl.int .i64).rep).slice R.heap A0_2 a0_2) (hn0_2 : a0_2.length = n0_2) (hc0_2 : n0_2 ≤ c0_2) {r : Int × Int} (hrun : bailiffref09_Right.f a0_0 a0_1 a0_2 = some r) :
    Spec Go.Proofs.Try.prog 60 [.agg #[.slice A0_0 n0_0 c0_0, .slice A0_1 n0_1 c0_1, .slice A0_2 n0_2 c0_2]] R (Fr) (fun v l' => v = .tuple #[.int .i64 r.2, .int .i64 r.1] ∧ Fr = l') := by
  subst hn0_0; subst hn0_1; subst hn0_2; refine Spec.of Go.Proofs.Try.func60 rfl rfl ?_; unfold bailiffref09_Right.f at hrun; have hrun := brun hrun; refine At.seq ?_; refine At.region ?_; refine At.box rfl rfl (cs := [.slice A0_0 a0_0.length c0_0, .slice A0_1 a0_1.length c0_1, .slice A0_2 a0_2.length c0_2]) rfl rfl (fun b254 => ?_); refine At.run 2 rfl ?_; refine At.nil ?_; refine At.thn ?_; refine At.seq ?_; refine At.region ?_; refine At.run 1 rfl ?_; refine At.y (Y.load rfl rfl .z rfl rfl rfl) rfl rfl rfl ?_; refine At.run 2 rfl ?_; refine At.nil ?_; refine At.thn ?_; refine At.seq ?_; refine At.seq ?_; refine At.region ?_; refine At.run 1 rfl ?_; refine At.y (Y.load rfl rfl .z rfl rfl rfl) rfl rfl rfl ?_; refine At.run 4 rfl ?_; obtain ⟨G456, hl457, hr458, hrun⟩ := bjoin hrun; refine At.joinO 6 (X := Bool) (fun x455 => [(1, .pointer (some ⟨b254, 0, none⟩)), (4, .int .i64 (a0_0.length : Int)), (23, .bool x455)]) (fun x455 => pt b254 (.cells [.slice A0_0 a0_0.length c0_0, .slice A0_1 a0_1.length c0_1, .slice A0_2 a0_2.length c0_2].toArray 36) :: Fr) (fun x455 => G456 (.inl x455) = some r) ?_ (fun J459 => ?_)
  · rintro x455 hrun; have hrun := (hl457 _).symm.trans hrun
    · refine At.nil ?_; refine At.thn ?_; rcases bite hrun with ⟨h460, hrun⟩ | ⟨h460, hrun⟩
      · · refine At.condT rfl h460 ?_
          refine At.seq ?_; refine At.region ?_; refine At.run 2 rfl ?_; refine At.nil ?_; refine At.thn ?_; refine At.ret ?_; refine At.thr ?_; refine At.drop .z ?_; obtain rfl := (bret hrun).symm; exact At.res (.inl rfl) rfl rfl ⟨rfl, rfl⟩
      · · refine At.condF rfl (bn h460) ?_
          refine At.skip ?_; refine At.thn ?_; refine At.seq ?_; refine At.seq ?_; refine At.region ?_; refine At.run 3 rfl ?_; obtain ⟨G662, hl663, hr664, hrun⟩ := bjoin hrun; refine At.joinO 3 (X := Bool) (fun x661 => [(1, .pointer (some ⟨b254, 0, none⟩)), (4, .int .i64 (a0_0.length : Int)), (29, .bool x661)]) (fun x661 => pt b254 (.cells [.slice A0_0 a0_0.length c0_0, .slice A0_1 a0_1.length c0_1, .slice A0_2 a0_2.length c0_2].toArray 36) :: Fr) (fun x661 => G662 (.inl x661) = some r) ?_ (fun J665 => ?_)
          · rintro x661 hrun; have hrun := (hl663 _).symm.trans hrun
            · refine At.nil ?_; refine At.thn ?_; rcases bite hrun with ⟨h666, hrun⟩ | ⟨h666, hrun⟩
              · · refine At.condT rfl h666 ?_
                  refine At.seq ?_; refine At.region ?_; refine At.run 2 rfl ?_; refine At.nil ?_; refine At.thn ?_; refine At.ret ?_; refine At.thr ?_; refine At.drop .z ?_; obtain rfl := (bret hrun).symm; exact At.res (.inl rfl) rfl rfl ⟨rfl, rfl⟩
              · · refine At.condF rfl (bn h666) ?_
                  refine At.skip ?_; refine At.thn ?_; refine At.seq ?_; refine At.seq ?_; refine At.region ?_; refine At.run 1 rfl ?_; refine At.nil ?_; refine At.thn ?_; refine At.block ?_; obtain ⟨G1469, hl1470, hr1471, hrun⟩ := bjoin hrun; obtain ⟨o1472, hlo1473, ho1474⟩ := bsome hrun; clear hrun; unfold bailiffref09_Right.l0 at hlo1473; obtain ⟨m1475, hit1477⟩ := iter_some.1 hlo1473; clear hlo1473; refine At.loopJ (X := Int) (Y := Unit) (e0 := 0) (fun x1268 => [(1, .pointer (some ⟨b254, 0, none⟩)), (4, .int .i64 (a0_0.length : Int)), (5, .int .i64 x1268)]) (fun x1268 => pt b254 (.cells [.slice A0_0 a0_0.length c0_0, .slice A0_1 a0_1.length c0_1, .slice A0_2 a0_2.length c0_2].toArray 36) :: Fr) (fun m_ => fun x1268 => iterN (fun t_ : Int => bailiffref09_Right.l0b a0_0 a0_1 a0_2 t_) m_ x1268 = some o1472) m1475 0 hit1477 (fun _ => []) (fun _ => pt b254 (.cells [.slice A0_0 a0_0.length c0_0, .slice A0_1 a0_1.length c0_1, .slice A0_2 a0_2.length c0_2].toArray 36) :: Fr) (fun _ => G1469 (.inl ()) = some r) (fun a w e hs => ⟨e.sub ⟨rfl, rfl, rfl, trivial⟩, hs⟩) ?_ (fun J1479 => ?_)
                  · rintro _ hrun; have hrun := (hl1470 _).symm.trans hrun
                    · refine At.ibx ?_; refine At.thn ?_; refine At.seq ?_; refine At.region ?_; refine At.run 2 rfl ?_; refine At.nil ?_; refine At.thn ?_; refine At.ret ?_; refine At.drop .z ?_; obtain rfl := (bret hrun).symm; exact At.res (.inl rfl) rfl rfl ⟨rfl, rfl⟩
                  · clear hit1477 m1475; rintro m1475 x1268 hit1477; obtain ⟨m1476, f_, hlt1478, hf_, hrun⟩ := bit hit1477; clear hit1477; have hrun : (bailiffref09_Right.l0b a0_0 a0_1 a0_2 x1268).bind _ = some o1472 := hrun; unfold bailiffref09_Right.l0b at hrun
                    · refine At.seq ?_; refine At.seq ?_; refine At.region ?_; refine At.run 3 rfl ?_; refine At.nil ?_; refine At.thn ?_; rcases bite hrun with ⟨h1480, hrun⟩ | ⟨h1480, hrun⟩
                      · · refine At.condT rfl (decide_eq_true h1480) ?_
                          refine At.skip ?_; refine At.thn ?_; refine At.seq ?_; refine At.block ?_; refine At.seq ?_; refine At.seq ?_; refine At.region ?_; refine At.run 1 rfl ?_; refine At.y (Y.load rfl rfl .z rfl rfl rfl) rfl rfl rfl ?_; refine At.run 1 rfl ?_; obtain ⟨h1481, hrun⟩ := bnone hrun; refine At.y (Y.ixRd hr0_0 rfl rfl rfl rfl rfl rfl rfl h1481.1 h1481.2) rfl rfl rfl ?_; refine At.y (Y.ldFl hr0_0 rfl (q := 0) rfl rfl h1481.1 h1481.2 rfl rfl rfl) rfl rfl rfl ?_; refine At.run 2 rfl ?_; obtain ⟨G1683, hl1684, hr1685, hrun⟩ := bjoin hrun; refine At.joinO 7 (X := Bool) (fun x1682 => [(1, .pointer (some ⟨b254, 0, none⟩)), (4, .int .i64 (a0_0.length : Int)), (5, .int .i64 x1268), (48, .bool x1682)]) (fun x1682 => pt b254 (.cells [.slice A0_0 a0_0.length c0_0, .slice A0_1 a0_1.length c0_1, .slice A0_2 a0_2.length c0_2].toArray 36) :: Fr) (fun x1682 => G1683 (.inl x1682) = some o1472) ?_ (fun J1686 => ?_)
                          · rintro x1682 hrun; have hrun := (hl1684 _).symm.trans hrun
                            · refine At.nil ?_; refine At.thn ?_; rcases bite hrun with ⟨h1687, hrun⟩ | ⟨h1687, hrun⟩
                              · · refine At.condT rfl h1687 ?_
                                  refine At.seq ?_; refine At.region ?_; refine At.run 3 rfl ?_; refine At.nil ?_; refine At.thn ?_; refine At.ret ?_; refine At.thr ?_; refine At.ibr ?_; refine At.thr ?_; have hrun := bupL hr1471 ho1474 hrun; refine At.thr ?_; refine At.ibr ?_; refine At.thr ?_; refine At.drop .z ?_; obtain rfl := (bret hrun).symm; exact At.res (.inl rfl) rfl rfl ⟨rfl, rfl⟩
                              · · refine At.condF rfl (bn h1687) ?_
                                  refine At.skip ?_; refine At.thn ?_; refine At.seq ?_; refine At.seq ?_; refine At.region ?_; refine At.run 1 rfl ?_; refine At.y (Y.load rfl rfl .z rfl rfl rfl) rfl rfl rfl ?_; refine At.run 1 rfl ?_; obtain ⟨h1688, hrun⟩ := bnone hrun; refine At.y (Y.ixRd hr0_1 rfl rfl rfl rfl rfl rfl rfl h1688.1 h1688.2) rfl rfl rfl ?_; refine At.y (Y.ldFl hr0_1 rfl (q := 0) rfl rfl h1688.1 h1688.2 rfl rfl rfl) rfl rfl rfl ?_; refine At.run 2 rfl ?_; obtain ⟨G1890, hl1891, hr1892, hrun⟩ := bjoin hrun; refine At.joinO 7 (X := Bool) (fun x1889 => [(1, .pointer (some ⟨b254, 0, none⟩)), (4, .int .i64 (a0_0.length : Int)), (5, .int .i64 x1268), (63, .bool x1889)]) (fun x1889 => pt b254 (.cells [.slice A0_0 a0_0.length c0_0, .slice A0_1 a0_1.length c0_1, .slice A0_2 a0_2.length c0_2].toArray 36) :: Fr) (fun x1889 => G1890 (.inl x1889) = some o1472) ?_ (fun J1893 => ?_)
                                  · rintro x1889 hrun; have hrun := (hl1891 _).symm.trans hrun
                                    · refine At.nil ?_; refine At.thn ?_; rcases bite hrun with ⟨h1894, hrun⟩ | ⟨h1894, hrun⟩
                                      · · refine At.condT rfl h1894 ?_
                                          refine At.seq ?_; refine At.region ?_; refine At.run 3 rfl ?_; refine At.nil ?_; refine At.thn ?_; refine At.ret ?_; refine At.thr ?_; refine At.ibr ?_; refine At.thr ?_; have hrun := bupL hr1471 ho1474 hrun; refine At.thr ?_; refine At.ibr ?_; refine At.thr ?_; refine At.drop .z ?_; obtain rfl := (bret hrun).symm; exact At.res (.inl rfl) rfl rfl ⟨rfl, rfl⟩
                                      · · refine At.condF rfl (bn h1894) ?_
                                          refine At.skip ?_; refine At.thn ?_; refine At.seq ?_; refine At.seq ?_; refine At.region ?_; refine At.run 1 rfl ?_; refine At.y (Y.load rfl rfl .z rfl rfl rfl) rfl rfl rfl ?_; refine At.run 1 rfl ?_; obtain ⟨h1895, hrun⟩ := bnone hrun; refine At.y (Y.ixRd hr0_2 rfl rfl rfl rfl rfl rfl rfl h1895.1 h1895.2) rfl rfl rfl ?_; obtain ⟨A1896, c1897, hc1898, hr1899, hy1900⟩ := RdS.rowAt (P := Go.Proofs.Try.prog) hr0_2 (Sub.refl _) rfl h1895.1 h1895.2; refine At.y (hy1900 rfl rfl rfl rfl) rfl rfl rfl ?_; refine At.run 2 rfl ?_; refine At.nil ?_; refine At.thn ?_; rcases bite hrun with ⟨h1901, hrun⟩ | ⟨h1901, hrun⟩
                                          · · refine At.condT rfl (decide_eq_true h1901) ?_
                                              refine At.seq ?_; refine At.region ?_; refine At.run 3 rfl ?_; refine At.nil ?_; refine At.thn ?_; refine At.ret ?_; refine At.thr ?_; refine At.ibr ?_; refine At.thr ?_; have hrun := bupL hr1471 ho1474 hrun; refine At.thr ?_; refine At.ibr ?_; refine At.thr ?_; refine At.drop .z ?_; obtain rfl := (bret hrun).symm; exact At.res (.inl rfl) rfl rfl ⟨rfl, rfl⟩
                                          · · refine At.condF rfl (decide_eq_false h1901) ?_
                                              refine At.skip ?_; refine At.thn ?_; refine At.seq ?_; refine At.region ?_; refine At.run 1 rfl ?_; refine At.nil ?_; refine At.thn ?_; refine At.seq ?_; refine At.region ?_; refine At.run 1 rfl ?_; refine At.nil ?_; refine At.thn ?_; refine At.block ?_; obtain ⟨G2706, hl2707, hr2708, hrun⟩ := bjoin hrun; obtain ⟨o2709, hlo2710, ho2711⟩ := bsome hrun; clear hrun; unfold bailiffref09_Right.l1 at hlo2710; obtain ⟨m2712, hit2714⟩ := iter_some.1 hlo2710; clear hlo2710; refine At.loopJ (X := Int × Int) (Y := Unit) (e0 := 2) (fun s_ => [(1, .pointer (some ⟨b254, 0, none⟩)), (4, .int .i64 (a0_0.length : Int)), (5, .int .i64 x1268), (6, .int .i64 s_.1), (7, .int .i64 s_.2)]) (fun s_ => pt b254 (.cells [.slice A0_0 a0_0.length c0_0, .slice A0_1 a0_1.length c0_1, .slice A0_2 a0_2.length c0_2].toArray 36) :: Fr) (fun m_ => fun s_ => iterN (fun t_ : Int × Int => bailiffref09_Right.l1b a0_0 a0_2 x1268 t_.1 t_.2) m_ (s_.1, s_.2) = some o2709) m2712 ((-1), 0) hit2714 (fun _ => [(1, .pointer (some ⟨b254, 0, none⟩)), (4, .int .i64 (a0_0.length : Int)), (5, .int .i64 x1268)]) (fun _ => pt b254 (.cells [.slice A0_0 a0_0.length c0_0, .slice A0_1 a0_1.length c0_1, .slice A0_2 a0_2.length c0_2].toArray 36) :: Fr) (fun _ => G2706 (.inl ()) = some o1472) (fun a w e hs => ⟨e.sub ⟨rfl, rfl, rfl, rfl, rfl, trivial⟩, hs⟩) ?_ (fun J2716 => ?_)
                                              · rintro _ hrun; have hrun := (hl2707 _).symm.trans hrun
                                                · refine At.ibx ?_; refine At.ibn ?_; refine At.thn ?_; refine At.region ?_; refine At.run 3 rfl ?_; refine At.nil ?_; have hrun := bnx hf_ hrun; exact fun a w e hs => ⟨m1476, (IntKind.i64.wrap (x1268 + 1)), hlt1478, hrun, e.sub ⟨rfl, rfl, rfl, trivial⟩, hs⟩
                                              · clear hit2714 m2712; rintro m2712 ⟨x2504, x2505⟩ hit2714; obtain ⟨m2713, f_, hlt2715, hf_, hrun⟩ := bit hit2714; clear hit2714; have hrun : (bailiffref09_Right.l1b a0_0 a0_2 x1268 x2504 x2505).bind _ = some o2709 := hrun; unfold bailiffref09_Right.l1b at hrun
                                                · refine At.seq ?_; refine At.seq ?_; refine At.region ?_; refine At.run 2 rfl ?_; refine At.y (Y.load rfl rfl .z rfl rfl rfl) rfl rfl rfl ?_; refine At.run 1 rfl ?_; refine At.y (Y.ixRd hr0_2 rfl rfl rfl rfl rfl rfl rfl h1895.1 h1895.2) rfl rfl rfl ?_; obtain ⟨A2717, c2718, hc2719, hr2720, hy2721⟩ := RdS.rowAt (P := Go.Proofs.Try.prog) hr0_2 (Sub.refl _) rfl h1895.1 h1895.2; refine At.y (hy2721 rfl rfl rfl rfl) rfl rfl rfl ?_; refine At.run 2 rfl ?_; refine At.nil ?_; refine At.thn ?_; rcases bite hrun with ⟨h2722, hrun⟩ | ⟨h2722, hrun⟩
                                                  · · refine At.condT rfl (decide_eq_true h2722) ?_
                                                      refine At.skip ?_; refine At.thn ?_; refine At.seq ?_; refine At.block ?_; refine At.seq ?_; refine At.region ?_; refine At.run 1 rfl ?_; refine At.y (Y.load rfl rfl .z rfl rfl rfl) rfl rfl rfl ?_; refine At.run 1 rfl ?_; refine At.y (Y.ixRd hr0_2 rfl rfl rfl rfl rfl rfl rfl h1895.1 h1895.2) rfl rfl rfl ?_; obtain ⟨A2723, c2724, hc2725, hr2726, hy2727⟩ := RdS.rowAt (P := Go.Proofs.Try.prog) hr0_2 (Sub.refl _) rfl h1895.1 h1895.2; refine At.y (hy2727 rfl rfl rfl rfl) rfl rfl rfl ?_; refine At.run 1 rfl ?_; obtain ⟨h2728, hrun⟩ := bnone hrun; refine At.y (Y.ixRd hr2726 rfl rfl rfl rfl rfl rfl rfl h2728.1 h2728.2) rfl rfl rfl ?_; refine At.y (Y.ldFl hr2726 rfl (q := 0) rfl rfl h2728.1 h2728.2 rfl rfl rfl) rfl rfl rfl ?_; refine At.run 1 rfl ?_; refine At.nil ?_; refine At.thn ?_; refine At.seq ?_; refine At.seq ?_; refine At.region ?_; refine At.run 4 rfl ?_; obtain ⟨G2930, hl2931, hr2932, hrun⟩ := bjoin hrun; refine At.joinO 4 (X := Bool) (fun x2929 => [(1, .pointer (some ⟨b254, 0, none⟩)), (4, .int .i64 (a0_0.length : Int)), (5, .int .i64 x1268), (7, .int .i64 x2505), (8, .int .i64 (gt (gt a0_2 x1268) x2505)), (98, .bool x2929)]) (fun x2929 => pt b254 (.cells [.slice A0_0 a0_0.length c0_0, .slice A0_1 a0_1.length c0_1, .slice A0_2 a0_2.length c0_2].toArray 36) :: Fr) (fun x2929 => G2930 (.inl x2929) = some o2709) ?_ (fun J2933 => ?_)
                                                      · rintro x2929 hrun; have hrun := (hl2931 _).symm.trans hrun
                                                        · refine At.nil ?_; refine At.thn ?_; rcases bite hrun with ⟨h2934, hrun⟩ | ⟨h2934, hrun⟩
                                                          · · refine At.condT rfl h2934 ?_
                                                              refine At.seq ?_; refine At.region ?_; refine At.run 3 rfl ?_; refine At.nil ?_; refine At.thn ?_; refine At.ret ?_; refine At.thr ?_; refine At.ibr ?_; refine At.thr ?_; have hrun := bupL hr2708 ho2711 hrun; refine At.thr ?_; refine At.ibr ?_; refine At.ibr ?_; refine At.thr ?_; have hrun := bupL hr1471 ho1474 hrun; refine At.thr ?_; refine At.ibr ?_; refine At.thr ?_; refine At.drop .z ?_; obtain rfl := (bret hrun).symm; exact At.res (.inl rfl) rfl rfl ⟨rfl, rfl⟩
                                                          · · refine At.condF rfl (bn h2934) ?_
                                                              refine At.skip ?_; refine At.thn ?_; refine At.region ?_; refine At.run 2 rfl ?_; refine At.nil ?_; refine At.ibn ?_; refine At.thn ?_; refine At.region ?_; refine At.run 3 rfl ?_; refine At.nil ?_; have hrun := bnx hf_ hrun; exact fun a w e hs => ⟨m2713, (gt (gt a0_2 x1268) x2505, IntKind.i64.wrap (x2505 + 1)), hlt2715, hrun, e.sub ⟨rfl, rfl, rfl, rfl, rfl, trivial⟩, hs⟩
                                                      · · rcases bite hrun with ⟨h2935, hrun⟩ | ⟨h2935, hrun⟩
                                                          · · refine At.know (t := 94) rfl (decide_eq_true h2935) ?_
                                                              refine At.run 4 rfl ?_; exact At.of (J2933 true hrun) ⟨rfl, rfl, rfl, rfl, rfl, rfl, trivial⟩
                                                          · · refine At.know (t := 94) rfl (decide_eq_false h2935) ?_
                                                              refine At.run 4 rfl ?_; exact At.of (J2933 (decide ((a0_0.length : Int) ≤ gt (gt a0_2 x1268) x2505)) hrun) ⟨rfl, rfl, rfl, rfl, rfl, rfl, trivial⟩
                                                  · · refine At.condF rfl (decide_eq_false h2722) ?_
                                                      refine At.exit ?_; refine At.the ?_; refine At.the ?_; exact fun a w e hs => J2716 () (bdn hrun ho2711) a w (e.sub ⟨rfl, rfl, rfl, trivial⟩) hs
                                  · · rcases bite hrun with ⟨h2936, hrun⟩ | ⟨h2936, hrun⟩
                                      · · refine At.know (t := 56) rfl (decide_eq_true h2936) ?_
                                          refine At.run 7 rfl ?_; exact At.of (J1893 true hrun) ⟨rfl, rfl, rfl, rfl, trivial⟩
                                      · · refine At.know (t := 56) rfl (decide_eq_false h2936) ?_
                                          refine At.run 1 rfl ?_; refine At.y (Y.load rfl rfl .z rfl rfl rfl) rfl rfl rfl ?_; refine At.run 1 rfl ?_; refine At.y (Y.ixRd hr0_1 rfl rfl rfl rfl rfl rfl rfl h1688.1 h1688.2) rfl rfl rfl ?_; refine At.y (Y.ldFl hr0_1 rfl (q := 0) rfl rfl h1688.1 h1688.2 rfl rfl rfl) rfl rfl rfl ?_; refine At.run 2 rfl ?_; exact At.of (J1893 (decide (7 < gt a0_1 x1268)) hrun) ⟨rfl, rfl, rfl, rfl, trivial⟩
                          · · rcases bite hrun with ⟨h2937, hrun⟩ | ⟨h2937, hrun⟩
                              · · refine At.know (t := 41) rfl (nf (decide_eq_true h2937)) ?_
                                  refine At.run 7 rfl ?_; exact At.of (J1686 false hrun) ⟨rfl, rfl, rfl, rfl, trivial⟩
                              · · refine At.know (t := 41) rfl (nt (decide_eq_false h2937)) ?_
                                  refine At.run 1 rfl ?_; refine At.y (Y.load rfl rfl .z rfl rfl rfl) rfl rfl rfl ?_; refine At.run 1 rfl ?_; refine At.y (Y.ixRd hr0_0 rfl rfl rfl rfl rfl rfl rfl h1481.1 h1481.2) rfl rfl rfl ?_; refine At.y (Y.ldFl hr0_0 rfl (q := 0) rfl rfl h1481.1 h1481.2 rfl rfl rfl) rfl rfl rfl ?_; refine At.run 2 rfl ?_; exact At.of (J1686 (!(decide (gt a0_0 x1268 = 1))) hrun) ⟨rfl, rfl, rfl, rfl, trivial⟩
                      · · refine At.condF rfl (decide_eq_false h1480) ?_
                          refine At.exit ?_; refine At.the ?_; refine At.the ?_; exact fun a w e hs => J1479 () (bdn hrun ho1474) a w (e.sub trivial) hs
          · · rcases bite hrun with ⟨h2938, hrun⟩ | ⟨h2938, hrun⟩
              · · refine At.know (t := 26) rfl (decide_eq_true h2938) ?_
                  refine At.run 3 rfl ?_; exact At.of (J665 true hrun) ⟨rfl, rfl, rfl, trivial⟩
              · · refine At.know (t := 26) rfl (decide_eq_false h2938) ?_
                  refine At.run 3 rfl ?_; exact At.of (J665 (decide (200 < (a0_0.length : Int))) hrun) ⟨rfl, rfl, rfl, trivial⟩
  · · rcases bite hrun with ⟨h2939, hrun⟩ | ⟨h2939, hrun⟩
      · · refine At.know (t := 17) rfl (nf (decide_eq_true h2939)) ?_
          refine At.run 1 rfl ?_; refine At.y (Y.load rfl rfl .z rfl rfl rfl) rfl rfl rfl ?_; refine At.run 4 rfl ?_; exact At.of (J459 (!(decide ((a0_2.length : Int) = (a0_0.length : Int)))) hrun) ⟨rfl, rfl, rfl, trivial⟩
      · · refine At.know (t := 17) rfl (nt (decide_eq_false h2939)) ?_
          refine At.run 6 rfl ?_; exact At.of (J459 true hrun) ⟨rfl, rfl, rfl, trivial⟩

noncomputable def bailiffref09_Is.f (a0_0 : List Int) (a0_1 : List Int) (a0_2 : List (List Int)) : Option Bool :=
  (bailiffref09_Right.f a0_0 a0_1 a0_2).bind fun t254 =>
    some (decide (t254.1 = 0))
theorem bailiffref09_Is.callee : Callee Go.Proofs.Try.prog 43 := ⟨_, Go.Proofs.Try.func43, by kernel_rfl, by kernel_rfl⟩
set_option maxRecDepth 100000 in
set_option maxHeartbeats 2000000 in
theorem bailiffref09_Is.spec (R : Res) (Fr : List HProp) (A0_0 : Option Addr) (n0_0 : Nat) (c0_0 : Nat) (A0_1 : Option Addr) (n0_1 : Nat) (c0_1 : Nat) (A0_2 : Option Addr) (n0_2 : Nat) (c0_2 : Nat) (a0_0 : List Int) (a0_1 : List Int) (a0_2 : List (List Int)) (hr0_0 : RdS (Fl.int .i64).rep R.heap A0_0 a0_0) (hn0_0 : a0_0.length = n0_0) (hc0_0 : n0_0 ≤ c0_0) (hr0_1 : RdS (Fl.int .i64).rep R.heap A0_1 a0_1) (hn0_1 : a0_1.length = n0_1) (hc0_1 : n0_1 ≤ c0_1) (hr0_2 : RdS ((Fl.int .i64).rep).slice R.heap A0_2 a0_2) (hn0_2 : a0_2.length = n0_2) (hc0_2 : n0_2 ≤ c0_2) {r : Bool} (hrun : bailiffref09_Is.f a0_0 a0_1 a0_2 = some r) :
    Spec Go.Proofs.Try.prog 43 [.agg #[.slice A0_0 n0_0 c0_0, .slice A0_1 n0_1 c0_1, .slice A0_2 n0_2 c0_2]] R (Fr) (fun v l' => v = .bool r ∧ Fr = l') := by
  subst hn0_0; subst hn0_1; subst hn0_2; refine Spec.of Go.Proofs.Try.func43 rfl rfl ?_; unfold bailiffref09_Is.f at hrun; have hrun := brun hrun; refine At.seq ?_; refine At.region ?_; refine At.box rfl rfl (cs := [.slice A0_0 a0_0.length c0_0, .slice A0_1 a0_1.length c0_1, .slice A0_2 a0_2.length c0_2]) rfl rfl (fun b253 => ?_); refine At.run 1 rfl ?_; refine At.nil ?_; refine At.thn ?_; refine At.seq ?_; refine At.region ?_; refine At.y (Y.load rfl rfl .z rfl rfl rfl) rfl rfl rfl ?_; obtain ⟨t254, hc255, hrun⟩ := bbind hrun; refine At.call rfl bailiffref09_Right.callee rfl rfl rfl (bailiffref09_Right.spec _ _ A0_0 a0_0.length c0_0 A0_1 a0_1.length c0_1 A0_2 a0_2.length c0_2 a0_0 a0_1 a0_2 hr0_0 rfl hc0_0 hr0_1 rfl hc0_1 hr0_2 rfl hc0_2 hc255) ?_; rintro _ _ ⟨rfl, rfl⟩; refine At.run 5 rfl ?_; refine At.nil ?_; refine At.thn ?_; refine At.seq ?_; refine At.region ?_; refine At.run 3 rfl ?_; refine At.nil ?_; refine At.thn ?_; refine At.ret ?_; refine At.drop .z ?_; obtain rfl := (bret hrun).symm; exact At.res (.inl rfl) rfl rfl ⟨rfl, rfl⟩

end Go.Bw
