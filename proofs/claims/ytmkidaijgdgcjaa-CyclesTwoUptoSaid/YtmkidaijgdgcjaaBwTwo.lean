/- Walks: what the functions of the program compute, told by plain functions, and that the calls come to them. Conditions: none. -/
import Derived.Test.YtmkidaijgdgcjaaBwTyx
import Derived.Test.YtmkidaijgdgcjaaProg
import Derived.Test.YtmkidaijgdgcjaaBwLay
import Derived.Test.YtmkidaijgdgcjaaBwSortI
import Derived.Test.YtmkidaijgdgcjaaBwSortF
import Derived.Deep.QuietTactic
import Derived.Test.YtmkidaijgdgcjaaBwCycA
import Derived.Test.YtmkidaijgdgcjaaBwCyc
import Derived.Test.YtmkidaijgdgcjaaBwSame
import Derived.Test.YtmkidaijgdgcjaaBwEith
import Derived.Test.YtmkidaijgdgcjaaBwLess
import Derived.Test.YtmkidaijgdgcjaaBwTurn
set_option linter.unusedVariables false
set_option linter.unusedSimpArgs false
set_option linter.unusedSectionVars false
namespace Go.Bw
open Go Go.RowKit Go.Proofs
noncomputable def bailifflaw15_CyclesTwo.l4b (t279 : (List (List Int))) (t2783 : (List (List Int))) (t2790 : (List (List Int))) (x3617 : Int) (x4695 : List Int) (x4700 : Int) : Option (((List Int) × Int) ⊕ (((List Int)) ⊕ ((Unit) ⊕ ((Int) ⊕ ((Unit) ⊕ (Bool)))))) :=
  if (0 : Int) ≤ IntKind.i64.wrap (x3617 - (t2783.length : Int)) ∧ IntKind.i64.wrap (x3617 - (t2783.length : Int)) < (t2790.length : Int) then
    if x4700 < ((gt t2790 (IntKind.i64.wrap (x3617 - (t2783.length : Int)))).length : Int) then
      if (0 : Int) ≤ x4700 ∧ x4700 < ((gt t2790 (IntKind.i64.wrap (x3617 - (t2783.length : Int)))).length : Int) then
        if (x4695.length + ([(IntKind.i64.wrap (gt (gt t2790 (IntKind.i64.wrap (x3617 - (t2783.length : Int)))) x4700 + (t279.length : Int)))] : List Int).length) * 8 ≤ 140737488355328 then
          nx ((x4695 ++ ([(IntKind.i64.wrap (gt (gt t2790 (IntKind.i64.wrap (x3617 - (t2783.length : Int)))) x4700 + (t279.length : Int)))] : List Int)), IntKind.i64.wrap (x4700 + 1))
        else none
      else none
    else
      dn (.inl x4695)
  else none
noncomputable def bailifflaw15_CyclesTwo.l4 (t279 : (List (List Int))) (t2783 : (List (List Int))) (t2790 : (List (List Int))) (x3617 : Int) (x4695 : List Int) (x4700 : Int) : Option (((List Int)) ⊕ ((Unit) ⊕ ((Int) ⊕ ((Unit) ⊕ (Bool))))) := iter (fun t_ : (List Int) × Int => bailifflaw15_CyclesTwo.l4b t279 t2783 t2790 x3617 t_.1 t_.2) (x4695, x4700)
noncomputable def bailifflaw15_CyclesTwo.l3b (t279 : (List (List Int))) (t2783 : (List (List Int))) (t2790 : (List (List Int))) (t2803 : (List (List Int))) (x3617 : Int) : Option ((Int) ⊕ ((Unit) ⊕ (Bool))) :=
  if x3617 < (t2803.length : Int) then
    jn (
      if x3617 < (t2783.length : Int) then
        if (0 : Int) ≤ x3617 ∧ x3617 < (t2783.length : Int) then
          if (0 : Int) ≤ x3617 ∧ x3617 < (t2803.length : Int) then
            (bailiffref09_SameInts.f (gt t2803 x3617) (gt t2783 x3617)).bind fun t4086 =>
              if t4086 = true then
                some (.inl ())
              else
                up (upL (some false))
          else none
        else none
      else
        jn (bailifflaw15_CyclesTwo.l4 t279 t2783 t2790 x3617 ([] : List Int) 0) (fun (x4901 : List Int) =>
          if (0 : Int) ≤ x3617 ∧ x3617 < (t2803.length : Int) then
            (bailiffref09_SameInts.f (gt t2803 x3617) x4901).bind fun t4935 =>
              if t4935 = true then
                some (.inl ())
              else
                up (upL (some false))
          else none)) (fun (_ : Unit) =>
      nx (IntKind.i64.wrap (x3617 + 1)))
  else
    dn (.inl ())
noncomputable def bailifflaw15_CyclesTwo.l3 (t279 : (List (List Int))) (t2783 : (List (List Int))) (t2790 : (List (List Int))) (t2803 : (List (List Int))) (x3617 : Int) : Option ((Unit) ⊕ (Bool)) := iter (fun t_ : Int => bailifflaw15_CyclesTwo.l3b t279 t2783 t2790 t2803 t_) x3617
noncomputable def bailifflaw15_CyclesTwo.l5b (t279 : (List (List Int))) (t287 : (List (List Int))) (x2566 : Int) (x5571 : List Int) (x5576 : Int) : Option (((List Int) × Int) ⊕ (((List Int)) ⊕ (((List (List Int)) × Int) ⊕ (((List (List Int))) ⊕ (Bool))))) :=
  if (0 : Int) ≤ x2566 ∧ x2566 < (t287.length : Int) then
    if x5576 < ((gt t287 x2566).length : Int) then
      jn (
        if (0 : Int) ≤ x5576 ∧ x5576 < ((gt t287 x2566).length : Int) then
          jn (
            if 0 ≤ gt (gt t287 x2566) x5576 then
              some (.inl (decide (gt (gt t287 x2566) x5576 < (t287.length : Int))))
            else
              some (.inl false)) (fun (x6221 : Bool) =>
            if x6221 = true then
              if (x5571.length + ([(IntKind.i64.wrap (gt (gt t287 x2566) x5576 + (t279.length : Int)))] : List Int).length) * 8 ≤ 140737488355328 then
                some (.inl (x5571 ++ ([(IntKind.i64.wrap (gt (gt t287 x2566) x5576 + (t279.length : Int)))] : List Int)))
              else none
            else
              some (.inl x5571))
        else none) (fun (x6010 : List Int) =>
        nx (x6010, IntKind.i64.wrap (x5576 + 1)))
    else
      dn (.inl x5571)
  else none
noncomputable def bailifflaw15_CyclesTwo.l5 (t279 : (List (List Int))) (t287 : (List (List Int))) (x2566 : Int) (x5571 : List Int) (x5576 : Int) : Option (((List Int)) ⊕ (((List (List Int)) × Int) ⊕ (((List (List Int))) ⊕ (Bool)))) := iter (fun t_ : (List Int) × Int => bailifflaw15_CyclesTwo.l5b t279 t287 x2566 t_.1 t_.2) (x5571, x5576)
noncomputable def bailifflaw15_CyclesTwo.l2b (t279 : (List (List Int))) (t287 : (List (List Int))) (x2561 : List (List Int)) (x2566 : Int) : Option (((List (List Int)) × Int) ⊕ (((List (List Int))) ⊕ (Bool))) :=
  if x2566 < (t287.length : Int) then
    jn (bailifflaw15_CyclesTwo.l5 t279 t287 x2566 ([] : List Int) 0) (fun (x5777 : List Int) =>
      if (x2561.length + 1) * 24 ≤ 140737488355328 then
        nx ((x2561 ++ [x5777]), IntKind.i64.wrap (x2566 + 1))
      else none)
  else
    dn (.inl x2561)
noncomputable def bailifflaw15_CyclesTwo.l2 (t279 : (List (List Int))) (t287 : (List (List Int))) (x2561 : List (List Int)) (x2566 : Int) : Option (((List (List Int))) ⊕ (Bool)) := iter (fun t_ : (List (List Int)) × Int => bailifflaw15_CyclesTwo.l2b t279 t287 t_.1 t_.2) (x2561, x2566)
noncomputable def bailifflaw15_CyclesTwo.l6b (t279 : (List (List Int))) (x1738 : Int) (x6851 : List Int) (x6856 : Int) : Option (((List Int) × Int) ⊕ (((List Int)) ⊕ (((List (List Int)) × Int) ⊕ (((List (List Int))) ⊕ (Bool))))) :=
  if (0 : Int) ≤ x1738 ∧ x1738 < (t279.length : Int) then
    if x6856 < ((gt t279 x1738).length : Int) then
      jn (
        if (0 : Int) ≤ x6856 ∧ x6856 < ((gt t279 x1738).length : Int) then
          jn (
            if 0 ≤ gt (gt t279 x1738) x6856 then
              some (.inl (decide (gt (gt t279 x1738) x6856 < (t279.length : Int))))
            else
              some (.inl false)) (fun (x7501 : Bool) =>
            if x7501 = true then
              if (x6851.length + ([(gt (gt t279 x1738) x6856)] : List Int).length) * 8 ≤ 140737488355328 then
                some (.inl (x6851 ++ ([(gt (gt t279 x1738) x6856)] : List Int)))
              else none
            else
              some (.inl x6851))
        else none) (fun (x7290 : List Int) =>
        nx (x7290, IntKind.i64.wrap (x6856 + 1)))
    else
      dn (.inl x6851)
  else none
noncomputable def bailifflaw15_CyclesTwo.l6 (t279 : (List (List Int))) (x1738 : Int) (x6851 : List Int) (x6856 : Int) : Option (((List Int)) ⊕ (((List (List Int)) × Int) ⊕ (((List (List Int))) ⊕ (Bool)))) := iter (fun t_ : (List Int) × Int => bailifflaw15_CyclesTwo.l6b t279 x1738 t_.1 t_.2) (x6851, x6856)
noncomputable def bailifflaw15_CyclesTwo.l1b (t279 : (List (List Int))) (x1733 : List (List Int)) (x1738 : Int) : Option (((List (List Int)) × Int) ⊕ (((List (List Int))) ⊕ (Bool))) :=
  if x1738 < (t279.length : Int) then
    jn (bailifflaw15_CyclesTwo.l6 t279 x1738 ([] : List Int) 0) (fun (x7057 : List Int) =>
      if (x1733.length + 1) * 24 ≤ 140737488355328 then
        nx ((x1733 ++ [x7057]), IntKind.i64.wrap (x1738 + 1))
      else none)
  else
    dn (.inl x1733)
noncomputable def bailifflaw15_CyclesTwo.l1 (t279 : (List (List Int))) (x1733 : List (List Int)) (x1738 : Int) : Option (((List (List Int))) ⊕ (Bool)) := iter (fun t_ : (List (List Int)) × Int => bailifflaw15_CyclesTwo.l1b t279 t_.1 t_.2) (x1733, x1738)
noncomputable def bailifflaw15_CyclesTwo.l0b (a2 : List Int) (t287 : (List (List Int))) (x905 : List Int) (x910 : Int) : Option (((List Int) × Int) ⊕ (((List Int)) ⊕ (Bool))) :=
  if x910 < (t287.length : Int) then
    if (x905.length + ([(Int.tmod (IntKind.i64.wrap (IntKind.i64.wrap (x910 * 7) + (a2.length : Int))) 5)] : List Int).length) * 8 ≤ 140737488355328 then
      nx ((x905 ++ ([(Int.tmod (IntKind.i64.wrap (IntKind.i64.wrap (x910 * 7) + (a2.length : Int))) 5)] : List Int)), IntKind.i64.wrap (x910 + 1))
    else none
  else
    dn (.inl x905)
noncomputable def bailifflaw15_CyclesTwo.l0 (a2 : List Int) (t287 : (List (List Int))) (x905 : List Int) (x910 : Int) : Option (((List Int)) ⊕ (Bool)) := iter (fun t_ : (List Int) × Int => bailifflaw15_CyclesTwo.l0b a2 t287 t_.1 t_.2) (x905, x910)
noncomputable def bailifflaw15_CyclesTwo.f (a0 : List (List Int)) (a1 : List (List Int)) (a2 : List Int) (a3 : Int) : Option Bool :=
  (bailifflaw15_shown.f ).bind fun t277 =>
    (bailifflaw15_cut.f a0).bind fun t279 =>
      (bailifflaw15_cut.f a1).bind fun t287 =>
        if (0 : Int) ≤ (t279.length : Int) ∧ (8 : Int) * (t279.length : Int) ≤ 281474976710656 then
          jn (bailifflaw15_CyclesTwo.l0 a2 t287 (a2.take ((List.replicate (t279.length : Int).toNat (0 : Int)).length) ++ (List.replicate (t279.length : Int).toNat (0 : Int)).drop a2.length) 0) (fun (x1111 : List Int) =>
            jn (bailifflaw15_CyclesTwo.l1 t279 ([] : List (List Int)) 0) (fun (x1939 : List (List Int)) =>
              jn (bailifflaw15_CyclesTwo.l2 t279 t287 x1939 0) (fun (x2767 : List (List Int)) =>
                (cycles_Components.f t279).bind fun t2783 =>
                  (cycles_Components.f t287).bind fun t2790 =>
                    (cycles_Components.f x2767).bind fun t2803 =>
                      jn (
                        if t277 = true then
                          some (.inl (!(decide ((t2803.length : Int) = IntKind.i64.wrap ((t2783.length : Int) + (t2790.length : Int))))))
                        else
                          some (.inl true)) (fun (x3010 : Bool) =>
                        if x3010 = true then
                          some false
                        else
                          jn (bailifflaw15_CyclesTwo.l3 t279 t2783 t2790 t2803 0) (fun (_ : Unit) =>
                            if (0 : Int) ≤ (t279.length : Int) ∧ (t279.length : Int) ≤ (x1111.length : Int) then
                              (cycles_Bad.f t279 (x1111.take (t279.length : Int).toNat) a3).bind fun t3837 =>
                                if t3837 < 0 then
                                  (cycles_Bad.f t287 (x1111.drop (t279.length : Int).toNat) a3).bind fun t3844 =>
                                    if 0 ≤ t3844 then
                                      (cycles_Bad.f x2767 x1111 a3).bind fun t3847 =>
                                        some (decide (t3847 = IntKind.i64.wrap (t3844 + (t279.length : Int))))
                                    else
                                      (cycles_Bad.f x2767 x1111 a3).bind fun t3849 =>
                                        some (decide (t3849 = t3844))
                                else
                                  (cycles_Bad.f x2767 x1111 a3).bind fun t3851 =>
                                    some (decide (t3851 = t3837))
                            else none)))))
        else none
theorem bailifflaw15_CyclesTwo.callee : Callee Go.Proofs.Try.prog 8 := ⟨_, Go.Proofs.Try.func8, by kernel_rfl, by kernel_rfl⟩
set_option maxRecDepth 100000 in
set_option maxHeartbeats 2000000 in
theorem bailifflaw15_CyclesTwo.spec (R : Res) (Fr : List HProp) (A0 : Option Addr) (n0 : Nat) (c0 : Nat) (A1 : Option Addr) (n1 : Nat) (c1 : Nat) (A2 : Option Addr) (n2 : Nat) (c2 : Nat) (a0 : List (List Int)) (a1 : List (List Int)) (a2 : List Int) (a3 : Int) (hr0 : RdS ((Fl.int .i64).rep).slice R.heap A0 a0) (hn0 : a0.length = n0) (hc0 : n0 ≤ c0) (hr1 : RdS ((Fl.int .i64).rep).slice R.heap A1 a1) (hn1 : a1.length = n1) (hc1 : n1 ≤ c1) (hr2 : RdS (Fl.int .i64).rep R.heap A2 a2) (hn2 : a2.length = n2) (hc2 : n2 ≤ c2) {r : Bool} (hrun : bailifflaw15_CyclesTwo.f a0 a1 a2 a3 = some r) :
    Spec Go.Proofs.Try.prog 8 [.slice A0 n0 c0, .slice A1 n1 c1, .slice A2 n2 c2, .int .i64 a3] R (Fr) (fun v l' => v = .bool r ∧ Fr = l') := by
  subst hn0
  subst hn1
  subst hn2
  refine Spec.of Go.Proofs.Try.func8 rfl rfl ?_
  unfold bailifflaw15_CyclesTwo.f at hrun
  have hrun := brun hrun
  refine At.seq ?_
  refine At.region ?_
  refine At.run 1 rfl ?_
  refine At.nil ?_
  refine At.thn ?_
  refine At.seq ?_
  refine At.region ?_
  obtain ⟨t277, hc278, hrun⟩ := bbind hrun
  refine At.call rfl bailifflaw15_shown.callee rfl rfl rfl (bailifflaw15_shown.spec _ _    hc278) ?_
  rintro _ _ ⟨rfl, rfl⟩
  refine At.run 1 rfl ?_
  refine At.nil ?_
  refine At.thn ?_
  refine At.seq ?_
  refine At.region ?_
  refine At.run 1 rfl ?_
  obtain ⟨t279, hc280, hrun⟩ := bbind hrun
  refine At.call rfl bailifflaw15_cut.callee rfl rfl rfl (bailifflaw15_cut.spec _ _ A0 a0.length c0 a0 hr0 rfl hc0 hc280) ?_
  rintro _ _ ⟨w281, w282, w283, rfl, rfl, hr284, rfl, hc286⟩
  refine At.run 1 rfl ?_
  refine At.nil ?_
  refine At.thn ?_
  refine At.seq ?_
  refine At.region ?_
  refine At.run 1 rfl ?_
  obtain ⟨t287, hc288, hrun⟩ := bbind hrun
  refine At.call rfl bailifflaw15_cut.callee rfl rfl rfl (bailifflaw15_cut.spec _ _ A1 a1.length c1 a1 hr1 rfl hc1 hc288) ?_
  rintro _ _ ⟨w289, w290, w291, rfl, rfl, hr292, rfl, hc294⟩
  refine At.run 1 rfl ?_
  refine At.nil ?_
  refine At.thn ?_
  refine At.seq ?_
  refine At.region ?_
  refine At.run 3 rfl ?_
  refine At.nil ?_
  refine At.thn ?_
  refine At.seq ?_
  refine At.region ?_
  refine At.run 1 rfl ?_
  obtain ⟨h295, hrun⟩ := bnone hrun
  refine At.make (F := (Fl.int .i64)) (z := 0) rfl rfl rfl rfl rfl rfl rfl rfl rfl rfl h295.1 h295.2 (by decide) rfl (fun A296 c297 => ?_)
  refine At.run 1 rfl ?_
  refine At.nil ?_
  refine At.thn ?_
  refine At.seq ?_
  refine At.region ?_
  refine At.run 2 rfl ?_
  refine At.copyRd rfl .z hr2 rfl rfl rfl rfl rfl rfl rfl rfl rfl ?_
  refine At.nil ?_
  refine At.thn ?_
  refine At.seq ?_
  refine At.seq ?_
  refine At.region ?_
  refine At.run 1 rfl ?_
  refine At.nil ?_
  refine At.thn ?_
  refine At.block ?_
  obtain ⟨G1116, hl1117, hr1118, hrun⟩ := bjoin hrun
  obtain ⟨o1119, hlo1120, ho1121⟩ := bsome hrun
  clear hrun
  unfold bailifflaw15_CyclesTwo.l0 at hlo1120
  obtain ⟨m1122, hit1124⟩ := iter_some.1 hlo1120
  clear hlo1120
  refine At.rowLen .z fun hn7531 => ?_
  refine At.loopJ (X := (List Int) × Int × Nat × (Option Addr) × Nat) (Y := (List Int) × Nat × (Option Addr) × Nat) (e0 := 0) (fun s_ => [(0, .slice w281 t279.length w283), (1, .slice w289 t287.length w291), (2, .slice A2 a2.length c2), (3, .int .i64 a3), (9, .bool t277), (10, .int .i64 (t279.length : Int)), (11, .slice s_.2.2.2.1 s_.2.2.1 s_.2.2.2.2), (12, .int .i64 s_.2.1)]) (fun s_ => row (Fl.int .i64) 3 s_.2.2.2.1 s_.2.2.1 s_.2.2.2.2 s_.1 :: Fr) (fun m_ => fun s_ => iterN (fun t_ : (List Int) × Int => bailifflaw15_CyclesTwo.l0b a2 t287 t_.1 t_.2) m_ (s_.1, s_.2.1) = some o1119 ∧ s_.1.length = s_.2.2.1) m1122 ((a2.take ((List.replicate (t279.length : Int).toNat (0 : Int)).length) ++ (List.replicate (t279.length : Int).toNat (0 : Int)).drop a2.length), 0, (List.replicate (t279.length : Int).toNat (0 : Int)).length, A296, c297) ⟨hit1124, hn7531⟩ (fun s_ => [(0, .slice w281 t279.length w283), (1, .slice w289 t287.length w291), (3, .int .i64 a3), (9, .bool t277), (10, .int .i64 (t279.length : Int)), (11, .slice s_.2.2.1 s_.2.1 s_.2.2.2)]) (fun s_ => row (Fl.int .i64) 3 s_.2.2.1 s_.2.1 s_.2.2.2 s_.1 :: Fr) (fun s_ => G1116 (.inl s_.1) = some r ∧ s_.1.length = s_.2.1) (fun a w e hs => ⟨e.sub ⟨rfl, rfl, rfl, rfl, rfl, rfl, rfl, rfl, trivial⟩, hs⟩) ?_ (fun J1126 => ?_)
  · rintro ⟨x1111, w1112, w1114, w1115⟩ ⟨hrun, hn1113⟩
    obtain rfl : x1111.length = w1112 := hn1113
    have hrun := (hl1117 _).symm.trans hrun
    · refine At.ibx ?_
      refine At.thn ?_
      refine At.seq ?_
      refine At.region ?_
      refine At.run 1 rfl ?_
      refine At.nil ?_
      refine At.thn ?_
      refine At.seq ?_
      refine At.seq ?_
      refine At.region ?_
      refine At.run 1 rfl ?_
      refine At.nil ?_
      refine At.thn ?_
      refine At.block ?_
      obtain ⟨G1944, hl1945, hr1946, hrun⟩ := bjoin hrun
      obtain ⟨o1947, hlo1948, ho1949⟩ := bsome hrun
      clear hrun
      unfold bailifflaw15_CyclesTwo.l1 at hlo1948
      obtain ⟨m1950, hit1952⟩ := iter_some.1 hlo1948
      clear hlo1948
      refine At.nilRows (Fl.int .i64) 3 26 ?_
      refine At.loopJ (X := (List (List Int)) × Int × Nat × (Option Addr) × Nat) (Y := (List (List Int)) × Nat × (Option Addr) × Nat) (e0 := 2) (fun s_ => [(0, .slice w281 t279.length w283), (1, .slice w289 t287.length w291), (3, .int .i64 a3), (9, .bool t277), (10, .int .i64 (t279.length : Int)), (11, .slice w1114 x1111.length w1115), (13, .slice s_.2.2.2.1 s_.2.2.1 s_.2.2.2.2), (14, .int .i64 s_.2.1)]) (fun s_ => rows (Fl.int .i64) 3 26 s_.2.2.2.1 s_.2.2.1 s_.2.2.2.2 s_.1 :: row (Fl.int .i64) 3 w1114 x1111.length w1115 x1111 :: Fr) (fun m_ => fun s_ => iterN (fun t_ : (List (List Int)) × Int => bailifflaw15_CyclesTwo.l1b t279 t_.1 t_.2) m_ (s_.1, s_.2.1) = some o1947 ∧ s_.1.length = s_.2.2.1) m1950 (([] : List (List Int)), 0, 0, none, 0) ⟨hit1952, rfl⟩ (fun s_ => [(0, .slice w281 t279.length w283), (1, .slice w289 t287.length w291), (3, .int .i64 a3), (9, .bool t277), (10, .int .i64 (t279.length : Int)), (11, .slice w1114 x1111.length w1115), (13, .slice s_.2.2.1 s_.2.1 s_.2.2.2)]) (fun s_ => rows (Fl.int .i64) 3 26 s_.2.2.1 s_.2.1 s_.2.2.2 s_.1 :: row (Fl.int .i64) 3 w1114 x1111.length w1115 x1111 :: Fr) (fun s_ => G1944 (.inl s_.1) = some r ∧ s_.1.length = s_.2.1) (fun a w e hs => ⟨e.sub ⟨rfl, rfl, rfl, rfl, rfl, rfl, rfl, rfl, trivial⟩, hs⟩) ?_ (fun J1954 => ?_)
      · rintro ⟨x1939, w1940, w1942, w1943⟩ ⟨hrun, hn1941⟩
        obtain rfl : x1939.length = w1940 := hn1941
        have hrun := (hl1945 _).symm.trans hrun
        · refine At.ibx ?_
          refine At.thn ?_
          refine At.seq ?_
          refine At.seq ?_
          refine At.region ?_
          refine At.run 1 rfl ?_
          refine At.nil ?_
          refine At.thn ?_
          refine At.block ?_
          obtain ⟨G2772, hl2773, hr2774, hrun⟩ := bjoin hrun
          obtain ⟨o2775, hlo2776, ho2777⟩ := bsome hrun
          clear hrun
          unfold bailifflaw15_CyclesTwo.l2 at hlo2776
          obtain ⟨m2778, hit2780⟩ := iter_some.1 hlo2776
          clear hlo2776
          refine At.loopJ (X := (List (List Int)) × Int × Nat × (Option Addr) × Nat) (Y := (List (List Int)) × Nat × (Option Addr) × Nat) (e0 := 6) (fun s_ => [(0, .slice w281 t279.length w283), (1, .slice w289 t287.length w291), (3, .int .i64 a3), (9, .bool t277), (10, .int .i64 (t279.length : Int)), (11, .slice w1114 x1111.length w1115), (13, .slice s_.2.2.2.1 s_.2.2.1 s_.2.2.2.2), (17, .int .i64 s_.2.1)]) (fun s_ => rows (Fl.int .i64) 3 26 s_.2.2.2.1 s_.2.2.1 s_.2.2.2.2 s_.1 :: row (Fl.int .i64) 3 w1114 x1111.length w1115 x1111 :: Fr) (fun m_ => fun s_ => iterN (fun t_ : (List (List Int)) × Int => bailifflaw15_CyclesTwo.l2b t279 t287 t_.1 t_.2) m_ (s_.1, s_.2.1) = some o2775 ∧ s_.1.length = s_.2.2.1) m2778 (x1939, 0, x1939.length, w1942, w1943) ⟨hit2780, rfl⟩ (fun s_ => [(0, .slice w281 t279.length w283), (1, .slice w289 t287.length w291), (3, .int .i64 a3), (9, .bool t277), (10, .int .i64 (t279.length : Int)), (11, .slice w1114 x1111.length w1115), (13, .slice s_.2.2.1 s_.2.1 s_.2.2.2)]) (fun s_ => rows (Fl.int .i64) 3 26 s_.2.2.1 s_.2.1 s_.2.2.2 s_.1 :: row (Fl.int .i64) 3 w1114 x1111.length w1115 x1111 :: Fr) (fun s_ => G2772 (.inl s_.1) = some r ∧ s_.1.length = s_.2.1) (fun a w e hs => ⟨e.sub ⟨rfl, rfl, rfl, rfl, rfl, rfl, rfl, rfl, trivial⟩, hs⟩) ?_ (fun J2782 => ?_)
          · rintro ⟨x2767, w2768, w2770, w2771⟩ ⟨hrun, hn2769⟩
            obtain rfl : x2767.length = w2768 := hn2769
            have hrun := (hl2773 _).symm.trans hrun
            · refine At.ibx ?_
              refine At.thn ?_
              refine At.seq ?_
              refine At.region ?_
              refine At.run 1 rfl ?_
              obtain ⟨t2783, hc2784, hrun⟩ := bbind hrun
              refine At.call rfl cycles_Components.callee rfl rfl rfl (cycles_Components.spec _ _ w281 t279.length w283 t279 hr284 rfl hc286 hc2784) ?_
              rintro _ _ ⟨w2785, w2786, w2787, rfl, rfl, rfl⟩
              refine At.run 1 rfl ?_
              refine At.nil ?_
              refine At.thn ?_
              refine At.seq ?_
              refine At.region ?_
              refine At.run 1 rfl ?_
              obtain ⟨t2790, hc2791, hrun⟩ := bbind hrun
              refine At.call rfl cycles_Components.callee rfl rfl rfl (cycles_Components.spec _ _ w289 t287.length w291 t287 hr292 rfl hc294 hc2791) ?_
              rintro _ _ ⟨w2792, w2793, w2794, rfl, rfl, rfl⟩
              refine At.run 1 rfl ?_
              refine At.nil ?_
              refine At.thn ?_
              refine At.seq ?_
              refine At.region ?_
              refine At.run 1 rfl ?_
              refine At.freezeRows (.s (.s .z)) fun R2797 hr2798 hn2799 hc2800 hs2801 th2802 => ?_
              obtain ⟨t2803, hc2804, hrun⟩ := bbind hrun
              refine At.call rfl cycles_Components.callee rfl rfl rfl (cycles_Components.spec _ _ w2770 x2767.length w2771 x2767 hr2798 hn2799 hc2800 hc2804) ?_
              rintro _ _ ⟨w2805, w2806, w2807, rfl, rfl, rfl⟩
              refine At.run 1 rfl ?_
              refine At.nil ?_
              refine At.thn ?_
              refine At.seq ?_
              refine At.seq ?_
              refine At.region ?_
              refine At.run 3 rfl ?_
              obtain ⟨G3011, hl3012, hr3013, hrun⟩ := bjoin hrun
              refine At.joinO 9 (X := Bool) (fun x3010 => [(0, .slice w281 t279.length w283), (1, .slice w289 t287.length w291), (3, .int .i64 a3), (10, .int .i64 (t279.length : Int)), (11, .slice w1114 x1111.length w1115), (13, .slice w2770 x2767.length w2771), (20, .slice w2786 t2783.length w2787), (21, .slice w2793 t2790.length w2794), (22, .slice w2806 t2803.length w2807), (170, .bool x3010)]) (fun x3010 => rows (Fl.int .i64) 3 26 w2806 t2803.length w2807 t2803 :: rows (Fl.int .i64) 3 26 w2793 t2790.length w2794 t2790 :: rows (Fl.int .i64) 3 26 w2786 t2783.length w2787 t2783 :: row (Fl.int .i64) 3 w1114 x1111.length w1115 x1111 :: Fr) (fun x3010 => G3011 (.inl x3010) = some r) ?_ (fun J3014 => ?_)
              · rintro x3010 hrun
                have hrun := (hl3012 _).symm.trans hrun
                · refine At.nil ?_
                  refine At.thn ?_
                  rcases bite hrun with ⟨h3015, hrun⟩ | ⟨h3015, hrun⟩
                  · · refine At.condT rfl h3015 ?_
                      refine At.seq ?_
                      refine At.region ?_
                      refine At.run 1 rfl ?_
                      refine At.nil ?_
                      refine At.thn ?_
                      refine At.ret ?_
                      refine At.thr ?_
                      refine At.thaw th2802 ?_
                      refine At.drop .z ?_
                      refine At.drop .z ?_
                      refine At.drop .z ?_
                      refine At.drop .z ?_
                      refine At.drop .z ?_
                      obtain rfl := (bret hrun).symm
                      exact At.res (.inl rfl) rfl rfl ⟨rfl, rfl⟩
                  · · refine At.condF rfl (bn h3015) ?_
                      refine At.skip ?_
                      refine At.thn ?_
                      refine At.seq ?_
                      refine At.seq ?_
                      refine At.region ?_
                      refine At.run 1 rfl ?_
                      refine At.nil ?_
                      refine At.thn ?_
                      refine At.block ?_
                      obtain ⟨G3818, hl3819, hr3820, hrun⟩ := bjoin hrun
                      obtain ⟨o3821, hlo3822, ho3823⟩ := bsome hrun
                      clear hrun
                      unfold bailifflaw15_CyclesTwo.l3 at hlo3822
                      obtain ⟨m3824, hit3826⟩ := iter_some.1 hlo3822
                      clear hlo3822
                      refine At.loopJ (X := Int) (Y := Unit) (e0 := 10) (fun x3617 => [(0, .slice w281 t279.length w283), (1, .slice w289 t287.length w291), (3, .int .i64 a3), (10, .int .i64 (t279.length : Int)), (11, .slice w1114 x1111.length w1115), (13, .slice w2770 x2767.length w2771), (20, .slice w2786 t2783.length w2787), (21, .slice w2793 t2790.length w2794), (22, .slice w2806 t2803.length w2807), (23, .int .i64 x3617)]) (fun x3617 => rows (Fl.int .i64) 3 26 w2806 t2803.length w2807 t2803 :: rows (Fl.int .i64) 3 26 w2793 t2790.length w2794 t2790 :: rows (Fl.int .i64) 3 26 w2786 t2783.length w2787 t2783 :: row (Fl.int .i64) 3 w1114 x1111.length w1115 x1111 :: Fr) (fun m_ => fun x3617 => iterN (fun t_ : Int => bailifflaw15_CyclesTwo.l3b t279 t2783 t2790 t2803 t_) m_ x3617 = some o3821) m3824 0 hit3826 (fun _ => [(0, .slice w281 t279.length w283), (1, .slice w289 t287.length w291), (3, .int .i64 a3), (10, .int .i64 (t279.length : Int)), (11, .slice w1114 x1111.length w1115), (13, .slice w2770 x2767.length w2771)]) (fun _ => rows (Fl.int .i64) 3 26 w2806 t2803.length w2807 t2803 :: rows (Fl.int .i64) 3 26 w2793 t2790.length w2794 t2790 :: rows (Fl.int .i64) 3 26 w2786 t2783.length w2787 t2783 :: row (Fl.int .i64) 3 w1114 x1111.length w1115 x1111 :: Fr) (fun _ => G3818 (.inl ()) = some r) (fun a w e hs => ⟨e.sub ⟨rfl, rfl, rfl, rfl, rfl, rfl, rfl, rfl, rfl, rfl, trivial⟩, hs⟩) ?_ (fun J3828 => ?_)
                      · rintro _ hrun
                        have hrun := (hl3819 _).symm.trans hrun
                        · refine At.ibx ?_
                          refine At.thn ?_
                          refine At.seq ?_
                          refine At.region ?_
                          refine At.run 3 rfl ?_
                          refine At.freeze (.s (.s (.s .z))) fun R3829 hr3830 hn3831 hc3832 hs3833 th3834 => ?_
                          obtain ⟨h3835, hrun⟩ := bnone hrun
                          have hc3836 : (x1111.take (t279.length : Int).toNat).length ≤ w1115 := Nat.le_trans (List.length_take_le' _ _) (by have h1_ := (show x1111.length = x1111.length from hn3831); have h2_ := hc3832; omega)
                          refine At.y (Y.slTo hn3831 rfl rfl rfl rfl rfl hc3832 h3835.1 h3835.2) rfl rfl rfl ?_
                          refine At.run 1 rfl ?_
                          obtain ⟨t3837, hc3838, hrun⟩ := bbind hrun
                          refine At.call rfl cycles_Bad.callee rfl rfl rfl (cycles_Bad.spec _ _ w281 t279.length w283 w1114 ((x1111.take (t279.length : Int).toNat).length) w1115 t279 (x1111.take (t279.length : Int).toNat) a3 (RdS.mono (hs2801.trans hs3833) hr284) rfl hc286 (RdS.take hr3830 _) rfl hc3836 hc3838) ?_
                          rintro _ _ ⟨rfl, rfl⟩
                          refine At.run 1 rfl ?_
                          refine At.nil ?_
                          refine At.thn ?_
                          refine At.seq ?_
                          refine At.seq ?_
                          refine At.region ?_
                          refine At.run 2 rfl ?_
                          refine At.nil ?_
                          refine At.thn ?_
                          rcases bite hrun with ⟨h3839, hrun⟩ | ⟨h3839, hrun⟩
                          · · refine At.condT rfl (decide_eq_true h3839) ?_
                              refine At.seq ?_
                              refine At.region ?_
                              refine At.run 3 rfl ?_
                              obtain ⟨A3840, hr3841, hc3842, hy3843⟩ := Y.slFromAt (P := Go.Proofs.Try.prog) (R := R3829) hn3831 hr3830 hc3832 h3835.1 h3835.2
                              refine At.y (hy3843 rfl rfl rfl rfl rfl rfl) rfl rfl rfl ?_
                              refine At.run 1 rfl ?_
                              obtain ⟨t3844, hc3845, hrun⟩ := bbind hrun
                              refine At.call rfl cycles_Bad.callee rfl rfl rfl (cycles_Bad.spec _ _ w289 t287.length w291 A3840 ((x1111.drop (t279.length : Int).toNat).length) (w1115 - (t279.length : Int).toNat) t287 (x1111.drop (t279.length : Int).toNat) a3 (RdS.mono (hs2801.trans hs3833) hr292) rfl hc294 hr3841 rfl hc3842 hc3845) ?_
                              rintro _ _ ⟨rfl, rfl⟩
                              refine At.run 1 rfl ?_
                              refine At.nil ?_
                              refine At.thn ?_
                              refine At.seq ?_
                              refine At.region ?_
                              refine At.run 2 rfl ?_
                              refine At.nil ?_
                              refine At.thn ?_
                              rcases bite hrun with ⟨h3846, hrun⟩ | ⟨h3846, hrun⟩
                              · · refine At.condT rfl (decide_eq_true h3846) ?_
                                  refine At.region ?_
                                  refine At.run 4 rfl ?_
                                  refine At.nil ?_
                                  refine At.thn ?_
                                  refine At.seq ?_
                                  refine At.region ?_
                                  refine At.run 3 rfl ?_
                                  obtain ⟨t3847, hc3848, hrun⟩ := bbind hrun
                                  refine At.call rfl cycles_Bad.callee rfl rfl rfl (cycles_Bad.spec _ _ w2770 x2767.length w2771 w1114 x1111.length w1115 x2767 x1111 a3 (RdS.mono hs3833 hr2798) hn2799 hc2800 hr3830 hn3831 hc3832 hc3848) ?_
                                  rintro _ _ ⟨rfl, rfl⟩
                                  refine At.run 3 rfl ?_
                                  refine At.nil ?_
                                  refine At.thn ?_
                                  refine At.ret ?_
                                  refine At.thaw th3834 ?_
                                  refine At.thaw th2802 ?_
                                  refine At.drop .z ?_
                                  refine At.drop .z ?_
                                  refine At.drop .z ?_
                                  refine At.drop .z ?_
                                  refine At.drop .z ?_
                                  obtain rfl := (bret hrun).symm
                                  exact At.res (.inl rfl) rfl rfl ⟨rfl, rfl⟩
                              · · refine At.condF rfl (decide_eq_false h3846) ?_
                                  refine At.skip ?_
                                  refine At.thn ?_
                                  refine At.seq ?_
                                  refine At.region ?_
                                  refine At.run 3 rfl ?_
                                  obtain ⟨t3849, hc3850, hrun⟩ := bbind hrun
                                  refine At.call rfl cycles_Bad.callee rfl rfl rfl (cycles_Bad.spec _ _ w2770 x2767.length w2771 w1114 x1111.length w1115 x2767 x1111 a3 (RdS.mono hs3833 hr2798) hn2799 hc2800 hr3830 hn3831 hc3832 hc3850) ?_
                                  rintro _ _ ⟨rfl, rfl⟩
                                  refine At.run 3 rfl ?_
                                  refine At.nil ?_
                                  refine At.thn ?_
                                  refine At.ret ?_
                                  refine At.thaw th3834 ?_
                                  refine At.thaw th2802 ?_
                                  refine At.drop .z ?_
                                  refine At.drop .z ?_
                                  refine At.drop .z ?_
                                  refine At.drop .z ?_
                                  refine At.drop .z ?_
                                  obtain rfl := (bret hrun).symm
                                  exact At.res (.inl rfl) rfl rfl ⟨rfl, rfl⟩
                          · · refine At.condF rfl (decide_eq_false h3839) ?_
                              refine At.skip ?_
                              refine At.thn ?_
                              refine At.seq ?_
                              refine At.region ?_
                              refine At.run 3 rfl ?_
                              obtain ⟨t3851, hc3852, hrun⟩ := bbind hrun
                              refine At.call rfl cycles_Bad.callee rfl rfl rfl (cycles_Bad.spec _ _ w2770 x2767.length w2771 w1114 x1111.length w1115 x2767 x1111 a3 (RdS.mono hs3833 hr2798) hn2799 hc2800 hr3830 hn3831 hc3832 hc3852) ?_
                              rintro _ _ ⟨rfl, rfl⟩
                              refine At.run 3 rfl ?_
                              refine At.nil ?_
                              refine At.thn ?_
                              refine At.ret ?_
                              refine At.thaw th3834 ?_
                              refine At.thaw th2802 ?_
                              refine At.drop .z ?_
                              refine At.drop .z ?_
                              refine At.drop .z ?_
                              refine At.drop .z ?_
                              refine At.drop .z ?_
                              obtain rfl := (bret hrun).symm
                              exact At.res (.inl rfl) rfl rfl ⟨rfl, rfl⟩
                      · clear hit3826 m3824
                        rintro m3824 x3617 hit3826
                        obtain ⟨m3825, f_, hlt3827, hf_, hrun⟩ := bit hit3826
                        clear hit3826
                        have hrun : (bailifflaw15_CyclesTwo.l3b t279 t2783 t2790 t2803 x3617).bind _ = some o3821 := hrun
                        unfold bailifflaw15_CyclesTwo.l3b at hrun
                        · refine At.seq ?_
                          refine At.seq ?_
                          refine At.region ?_
                          refine At.run 4 rfl ?_
                          refine At.nil ?_
                          refine At.thn ?_
                          rcases bite hrun with ⟨h3853, hrun⟩ | ⟨h3853, hrun⟩
                          · · refine At.condT rfl (decide_eq_true h3853) ?_
                              refine At.skip ?_
                              refine At.thn ?_
                              refine At.seq ?_
                              obtain ⟨G3854, hl3855, hr3856, hrun⟩ := bjoin hrun
                              refine At.join (X := Unit) (fun _ => [(0, .slice w281 t279.length w283), (1, .slice w289 t287.length w291), (3, .int .i64 a3), (10, .int .i64 (t279.length : Int)), (11, .slice w1114 x1111.length w1115), (13, .slice w2770 x2767.length w2771), (20, .slice w2786 t2783.length w2787), (21, .slice w2793 t2790.length w2794), (22, .slice w2806 t2803.length w2807), (23, .int .i64 x3617)]) (fun _ => rows (Fl.int .i64) 3 26 w2786 t2783.length w2787 t2783 :: rows (Fl.int .i64) 3 26 w2806 t2803.length w2807 t2803 :: rows (Fl.int .i64) 3 26 w2793 t2790.length w2794 t2790 :: row (Fl.int .i64) 3 w1114 x1111.length w1115 x1111 :: Fr) (fun _ => G3854 (.inl ()) = some o3821) ?_ (fun J3857 => ?_)
                              · rintro _ hrun
                                have hrun := (hl3855 _).symm.trans hrun
                                · refine At.region ?_
                                  refine At.run 3 rfl ?_
                                  refine At.nil ?_
                                  refine At.frt (.s (.s (.s .z))) ?_
                                  refine At.frt (.s .z) ?_
                                  refine At.frt (.s (.s (.s .z))) ?_
                                  refine At.frt (.s (.s (.s .z))) ?_
                                  have hrun := bnx hf_ hrun
                                  exact fun a w e hs => ⟨m3825, (IntKind.i64.wrap (x3617 + 1)), hlt3827, hrun, e.sub ⟨rfl, rfl, rfl, rfl, rfl, rfl, rfl, rfl, rfl, rfl, trivial⟩, hs⟩
                              · · refine At.block ?_
                                  refine At.seq ?_
                                  refine At.region ?_
                                  refine At.lit rfl (xo := []) (ys := ([] : List Int)) (Fl.int .i64) rfl rfl rfl rfl rfl rfl rfl rfl rfl rfl rfl (fun A4058 c4059 => ?_)
                                  refine At.run 1 rfl ?_
                                  refine At.nil ?_
                                  refine At.thn ?_
                                  refine At.seq ?_
                                  refine At.seq ?_
                                  refine At.region ?_
                                  refine At.run 4 rfl ?_
                                  refine At.nil ?_
                                  refine At.thn ?_
                                  rcases bite hrun with ⟨h4061, hrun⟩ | ⟨h4061, hrun⟩
                                  · · refine At.condT rfl (decide_eq_true h4061) ?_
                                      refine At.region ?_
                                      refine At.run 2 rfl ?_
                                      refine At.freezeRows (.s (.s (.s .z))) fun R4062 hr4063 hn4064 hc4065 hs4066 th4067 => ?_
                                      obtain ⟨h4068, hrun⟩ := bnone hrun
                                      refine At.y (Y.ixRd hr4063 hn4064 rfl rfl rfl rfl rfl rfl h4068.1 h4068.2) rfl rfl rfl ?_
                                      obtain ⟨A4069, c4070, hc4071, hr4072, hy4073⟩ := RdS.rowAt (P := Go.Proofs.Try.prog) hr4063 (Sub.refl _) hn4064 h4068.1 h4068.2
                                      refine At.y (hy4073 rfl rfl rfl rfl) rfl rfl rfl ?_
                                      refine At.run 1 rfl ?_
                                      refine At.nil ?_
                                      refine At.thn ?_
                                      refine At.seq ?_
                                      refine At.region ?_
                                      refine At.run 2 rfl ?_
                                      refine At.freezeRows (.s .z) fun R4074 hr4075 hn4076 hc4077 hs4078 th4079 => ?_
                                      obtain ⟨h4080, hrun⟩ := bnone hrun
                                      refine At.y (Y.ixRd hr4075 hn4076 rfl rfl rfl rfl rfl rfl h4080.1 h4080.2) rfl rfl rfl ?_
                                      obtain ⟨A4081, c4082, hc4083, hr4084, hy4085⟩ := RdS.rowAt (P := Go.Proofs.Try.prog) hr4075 (Sub.refl _) hn4076 h4080.1 h4080.2
                                      refine At.y (hy4085 rfl rfl rfl rfl) rfl rfl rfl ?_
                                      refine At.run 1 rfl ?_
                                      obtain ⟨t4086, hc4087, hrun⟩ := bbind hrun
                                      refine At.call rfl bailiffref09_SameInts.callee rfl rfl rfl (bailiffref09_SameInts.spec _ _ A4081 ((gt t2803 x3617).length) c4082 A4069 ((gt t2783 x3617).length) c4070 (gt t2803 x3617) (gt t2783 x3617) hr4084 rfl hc4083 (RdS.mono hs4078 hr4072) rfl hc4071 hc4087) ?_
                                      rintro _ _ ⟨rfl, rfl⟩
                                      refine At.run 1 rfl ?_
                                      refine At.nil ?_
                                      refine At.thn ?_
                                      refine At.seq ?_
                                      refine At.region ?_
                                      refine At.run 2 rfl ?_
                                      refine At.nil ?_
                                      refine At.thn ?_
                                      rcases bite hrun with ⟨h4088, hrun⟩ | ⟨h4088, hrun⟩
                                      · · refine At.condF rfl (nf h4088) ?_
                                          refine At.skip ?_
                                          refine At.ibn ?_
                                          refine At.thn ?_
                                          refine At.thaw th4079 ?_
                                          refine At.thaw th4067 ?_
                                          refine At.drop (.s (.s .z)) ?_
                                          exact fun a w e hs => J3857 () hrun a w (e.sub ⟨rfl, rfl, rfl, rfl, rfl, rfl, rfl, rfl, rfl, rfl, trivial⟩) hs
                                      · · refine At.condT rfl (nt (bn h4088)) ?_
                                          refine At.seq ?_
                                          refine At.region ?_
                                          refine At.run 1 rfl ?_
                                          refine At.nil ?_
                                          refine At.thn ?_
                                          refine At.ret ?_
                                          refine At.ibr ?_
                                          have hrun := bup hr3856 hrun
                                          refine At.thr ?_
                                          have hrun := bupL hr3820 ho3823 hrun
                                          refine At.thr ?_
                                          refine At.ibr ?_
                                          refine At.thr ?_
                                          refine At.thaw th4079 ?_
                                          refine At.thaw th4067 ?_
                                          refine At.thaw th2802 ?_
                                          refine At.drop .z ?_
                                          refine At.drop .z ?_
                                          refine At.drop .z ?_
                                          refine At.drop .z ?_
                                          refine At.drop .z ?_
                                          refine At.drop .z ?_
                                          obtain rfl := (bret hrun).symm
                                          exact At.res (.inl rfl) rfl rfl ⟨rfl, rfl⟩
                                  · · refine At.condF rfl (decide_eq_false h4061) ?_
                                      refine At.seq ?_
                                      refine At.region ?_
                                      refine At.run 1 rfl ?_
                                      refine At.nil ?_
                                      refine At.thn ?_
                                      refine At.block ?_
                                      obtain ⟨G4906, hl4907, hr4908, hrun⟩ := bjoin hrun
                                      obtain ⟨o4909, hlo4910, ho4911⟩ := bsome hrun
                                      clear hrun
                                      unfold bailifflaw15_CyclesTwo.l4 at hlo4910
                                      obtain ⟨m4912, hit4914⟩ := iter_some.1 hlo4910
                                      clear hlo4910
                                      refine At.loopJ (X := (List Int) × Int × Nat × (Option Addr) × Nat) (Y := (List Int) × Nat × (Option Addr) × Nat) (e0 := 12) (fun s_ => [(0, .slice w281 t279.length w283), (1, .slice w289 t287.length w291), (3, .int .i64 a3), (10, .int .i64 (t279.length : Int)), (11, .slice w1114 x1111.length w1115), (13, .slice w2770 x2767.length w2771), (20, .slice w2786 t2783.length w2787), (21, .slice w2793 t2790.length w2794), (22, .slice w2806 t2803.length w2807), (23, .int .i64 x3617), (24, .slice s_.2.2.2.1 s_.2.2.1 s_.2.2.2.2), (25, .int .i64 s_.2.1)]) (fun s_ => row (Fl.int .i64) 3 s_.2.2.2.1 s_.2.2.1 s_.2.2.2.2 s_.1 :: rows (Fl.int .i64) 3 26 w2806 t2803.length w2807 t2803 :: rows (Fl.int .i64) 3 26 w2793 t2790.length w2794 t2790 :: rows (Fl.int .i64) 3 26 w2786 t2783.length w2787 t2783 :: row (Fl.int .i64) 3 w1114 x1111.length w1115 x1111 :: Fr) (fun m_ => fun s_ => iterN (fun t_ : (List Int) × Int => bailifflaw15_CyclesTwo.l4b t279 t2783 t2790 x3617 t_.1 t_.2) m_ (s_.1, s_.2.1) = some o4909 ∧ s_.1.length = s_.2.2.1) m4912 (([] : List Int), 0, ([] : List Int).length, A4058, c4059) ⟨hit4914, rfl⟩ (fun s_ => [(0, .slice w281 t279.length w283), (1, .slice w289 t287.length w291), (3, .int .i64 a3), (10, .int .i64 (t279.length : Int)), (11, .slice w1114 x1111.length w1115), (13, .slice w2770 x2767.length w2771), (20, .slice w2786 t2783.length w2787), (21, .slice w2793 t2790.length w2794), (22, .slice w2806 t2803.length w2807), (23, .int .i64 x3617), (24, .slice s_.2.2.1 s_.2.1 s_.2.2.2)]) (fun s_ => rows (Fl.int .i64) 3 26 w2793 t2790.length w2794 t2790 :: row (Fl.int .i64) 3 s_.2.2.1 s_.2.1 s_.2.2.2 s_.1 :: rows (Fl.int .i64) 3 26 w2806 t2803.length w2807 t2803 :: rows (Fl.int .i64) 3 26 w2786 t2783.length w2787 t2783 :: row (Fl.int .i64) 3 w1114 x1111.length w1115 x1111 :: Fr) (fun s_ => G4906 (.inl s_.1) = some o3821 ∧ s_.1.length = s_.2.1) (fun a w e hs => ⟨e.sub ⟨rfl, rfl, rfl, rfl, rfl, rfl, rfl, rfl, rfl, rfl, rfl, rfl, trivial⟩, hs⟩) ?_ (fun J4916 => ?_)
                                      · rintro ⟨x4901, w4902, w4904, w4905⟩ ⟨hrun, hn4903⟩
                                        obtain rfl : x4901.length = w4902 := hn4903
                                        have hrun := (hl4907 _).symm.trans hrun
                                        · refine At.ibx ?_
                                          refine At.thn ?_
                                          refine At.seq ?_
                                          refine At.region ?_
                                          refine At.run 2 rfl ?_
                                          refine At.freezeRows (.s (.s .z)) fun R4917 hr4918 hn4919 hc4920 hs4921 th4922 => ?_
                                          obtain ⟨h4923, hrun⟩ := bnone hrun
                                          refine At.y (Y.ixRd hr4918 hn4919 rfl rfl rfl rfl rfl rfl h4923.1 h4923.2) rfl rfl rfl ?_
                                          obtain ⟨A4924, c4925, hc4926, hr4927, hy4928⟩ := RdS.rowAt (P := Go.Proofs.Try.prog) hr4918 (Sub.refl _) hn4919 h4923.1 h4923.2
                                          refine At.y (hy4928 rfl rfl rfl rfl) rfl rfl rfl ?_
                                          refine At.run 1 rfl ?_
                                          refine At.freeze (.s .z) fun R4929 hr4930 hn4931 hc4932 hs4933 th4934 => ?_
                                          obtain ⟨t4935, hc4936, hrun⟩ := bbind hrun
                                          refine At.call rfl bailiffref09_SameInts.callee rfl rfl rfl (bailiffref09_SameInts.spec _ _ A4924 ((gt t2803 x3617).length) c4925 w4904 x4901.length w4905 (gt t2803 x3617) x4901 (RdS.mono hs4933 hr4927) rfl hc4926 hr4930 hn4931 hc4932 hc4936) ?_
                                          rintro _ _ ⟨rfl, rfl⟩
                                          refine At.run 1 rfl ?_
                                          refine At.nil ?_
                                          refine At.thn ?_
                                          refine At.seq ?_
                                          refine At.region ?_
                                          refine At.run 2 rfl ?_
                                          refine At.nil ?_
                                          refine At.thn ?_
                                          rcases bite hrun with ⟨h4937, hrun⟩ | ⟨h4937, hrun⟩
                                          · · refine At.condF rfl (nf h4937) ?_
                                              refine At.skip ?_
                                              refine At.ibn ?_
                                              refine At.thn ?_
                                              refine At.thaw th4934 ?_
                                              refine At.thaw th4922 ?_
                                              refine At.drop (.s .z) ?_
                                              refine At.frt (.s (.s (.s .z))) ?_
                                              refine At.frt (.s (.s .z)) ?_
                                              refine At.frt (.s (.s .z)) ?_
                                              refine At.frt (.s (.s (.s .z))) ?_
                                              exact fun a w e hs => J3857 () hrun a w (e.sub ⟨rfl, rfl, rfl, rfl, rfl, rfl, rfl, rfl, rfl, rfl, trivial⟩) hs
                                          · · refine At.condT rfl (nt (bn h4937)) ?_
                                              refine At.seq ?_
                                              refine At.region ?_
                                              refine At.run 1 rfl ?_
                                              refine At.nil ?_
                                              refine At.thn ?_
                                              refine At.ret ?_
                                              refine At.ibr ?_
                                              have hrun := bup hr3856 hrun
                                              refine At.thr ?_
                                              have hrun := bupL hr3820 ho3823 hrun
                                              refine At.thr ?_
                                              refine At.ibr ?_
                                              refine At.thr ?_
                                              refine At.thaw th4934 ?_
                                              refine At.thaw th4922 ?_
                                              refine At.thaw th2802 ?_
                                              refine At.drop .z ?_
                                              refine At.drop .z ?_
                                              refine At.drop .z ?_
                                              refine At.drop .z ?_
                                              refine At.drop .z ?_
                                              refine At.drop .z ?_
                                              obtain rfl := (bret hrun).symm
                                              exact At.res (.inl rfl) rfl rfl ⟨rfl, rfl⟩
                                      · clear hit4914 m4912
                                        rintro m4912 ⟨x4695, x4700, w4696, w4698, w4699⟩ ⟨hit4914, hn4697⟩
                                        obtain rfl : x4695.length = w4696 := hn4697
                                        obtain ⟨m4913, f_, hlt4915, hf_, hrun⟩ := bit hit4914
                                        clear hit4914
                                        have hrun : (bailifflaw15_CyclesTwo.l4b t279 t2783 t2790 x3617 x4695 x4700).bind _ = some o4909 := hrun
                                        unfold bailifflaw15_CyclesTwo.l4b at hrun
                                        · refine At.seq ?_
                                          refine At.seq ?_
                                          refine At.region ?_
                                          refine At.run 6 rfl ?_
                                          refine At.freezeRows (.s (.s .z)) fun R4938 hr4939 hn4940 hc4941 hs4942 th4943 => ?_
                                          obtain ⟨h4944, hrun⟩ := bnone hrun
                                          refine At.y (Y.ixRd hr4939 hn4940 rfl rfl rfl rfl rfl rfl h4944.1 h4944.2) rfl rfl rfl ?_
                                          obtain ⟨A4945, c4946, hc4947, hr4948, hy4949⟩ := RdS.rowAt (P := Go.Proofs.Try.prog) hr4939 (Sub.refl _) hn4940 h4944.1 h4944.2
                                          refine At.y (hy4949 rfl rfl rfl rfl) rfl rfl rfl ?_
                                          refine At.run 2 rfl ?_
                                          refine At.nil ?_
                                          refine At.thn ?_
                                          rcases bite hrun with ⟨h4950, hrun⟩ | ⟨h4950, hrun⟩
                                          · · refine At.condT rfl (decide_eq_true h4950) ?_
                                              refine At.skip ?_
                                              refine At.thn ?_
                                              refine At.seq ?_
                                              refine At.block ?_
                                              refine At.region ?_
                                              refine At.run 6 rfl ?_
                                              refine At.y (Y.ixRd hr4939 hn4940 rfl rfl rfl rfl rfl rfl h4944.1 h4944.2) rfl rfl rfl ?_
                                              obtain ⟨A4951, c4952, hc4953, hr4954, hy4955⟩ := RdS.rowAt (P := Go.Proofs.Try.prog) hr4939 (Sub.refl _) hn4940 h4944.1 h4944.2
                                              refine At.y (hy4955 rfl rfl rfl rfl) rfl rfl rfl ?_
                                              refine At.run 1 rfl ?_
                                              obtain ⟨h4956, hrun⟩ := bnone hrun
                                              refine At.y (Y.ixRd hr4954 rfl rfl rfl rfl rfl rfl rfl h4956.1 h4956.2) rfl rfl rfl ?_
                                              refine At.y (Y.ldFl hr4954 rfl (q := 0) rfl rfl h4956.1 h4956.2 rfl rfl rfl) rfl rfl rfl ?_
                                              refine At.run 2 rfl ?_
                                              refine At.lit rfl (xo := [.tmp 210]) (ys := ([(IntKind.i64.wrap (gt (gt t2790 (IntKind.i64.wrap (x3617 - (t2783.length : Int)))) x4700 + (t279.length : Int)))] : List Int)) (Fl.int .i64) rfl rfl rfl rfl rfl rfl rfl rfl rfl rfl rfl (fun A4957 c4958 => ?_)
                                              obtain ⟨h4960, hrun⟩ := bnone hrun
                                              refine At.append rfl (.s .z) (Src.own .z (by simp)) rfl rfl rfl rfl rfl rfl rfl rfl h4960 (by decide) rfl (fun A4961 c4962 => ?_)
                                              refine At.drop (.s .z) ?_
                                              refine At.run 1 rfl ?_
                                              refine At.nil ?_
                                              refine At.ibn ?_
                                              refine At.thn ?_
                                              refine At.region ?_
                                              refine At.run 3 rfl ?_
                                              refine At.nil ?_
                                              refine At.thaw th4943 ?_
                                              refine At.frt (.s (.s (.s (.s .z)))) ?_
                                              refine At.frt (.s (.s (.s (.s .z)))) ?_
                                              refine At.frt (.s (.s .z)) ?_
                                              refine At.frt (.s (.s (.s (.s .z)))) ?_
                                              refine At.frt (.s (.s (.s (.s .z)))) ?_
                                              have hrun := bnx hf_ hrun
                                              exact fun a w e hs => ⟨m4913, ((x4695 ++ ([(IntKind.i64.wrap (gt (gt t2790 (IntKind.i64.wrap (x3617 - (t2783.length : Int)))) x4700 + (t279.length : Int)))] : List Int)), IntKind.i64.wrap (x4700 + 1), (x4695 ++ ([(IntKind.i64.wrap (gt (gt t2790 (IntKind.i64.wrap (x3617 - (t2783.length : Int)))) x4700 + (t279.length : Int)))] : List Int)).length, A4961, c4962), hlt4915, ⟨hrun, rfl⟩, e.sub ⟨rfl, rfl, rfl, rfl, rfl, rfl, rfl, rfl, rfl, rfl, rfl, rfl, trivial⟩, hs⟩
                                          · · refine At.condF rfl (decide_eq_false h4950) ?_
                                              refine At.exit ?_
                                              refine At.the ?_
                                              refine At.the ?_
                                              refine At.thaw th4943 ?_
                                              exact fun a w e hs => J4916 (x4695, x4695.length, w4698, w4699) ⟨(bdn hrun ho4911), rfl⟩ a w (e.sub ⟨rfl, rfl, rfl, rfl, rfl, rfl, rfl, rfl, rfl, rfl, rfl, trivial⟩) hs
                          · · refine At.condF rfl (decide_eq_false h3853) ?_
                              refine At.exit ?_
                              refine At.the ?_
                              refine At.the ?_
                              exact fun a w e hs => J3828 () (bdn hrun ho3823) a w (e.sub ⟨rfl, rfl, rfl, rfl, rfl, rfl, trivial⟩) hs
              · · rcases bite hrun with ⟨h4963, hrun⟩ | ⟨h4963, hrun⟩
                  · · refine At.know (t := 161) rfl (nf h4963) ?_
                      refine At.run 9 rfl ?_
                      exact At.of (J3014 (!(decide ((t2803.length : Int) = IntKind.i64.wrap ((t2783.length : Int) + (t2790.length : Int))))) hrun) ⟨rfl, rfl, rfl, rfl, rfl, rfl, rfl, rfl, rfl, rfl, trivial⟩
                  · · refine At.know (t := 161) rfl (nt (bn h4963)) ?_
                      refine At.run 9 rfl ?_
                      exact At.of (J3014 true hrun) ⟨rfl, rfl, rfl, rfl, rfl, rfl, rfl, rfl, rfl, rfl, trivial⟩
          · clear hit2780 m2778
            rintro m2778 ⟨x2561, x2566, w2562, w2564, w2565⟩ ⟨hit2780, hn2563⟩
            obtain rfl : x2561.length = w2562 := hn2563
            obtain ⟨m2779, f_, hlt2781, hf_, hrun⟩ := bit hit2780
            clear hit2780
            have hrun : (bailifflaw15_CyclesTwo.l2b t279 t287 x2561 x2566).bind _ = some o2775 := hrun
            unfold bailifflaw15_CyclesTwo.l2b at hrun
            · refine At.seq ?_
              refine At.seq ?_
              refine At.region ?_
              refine At.run 4 rfl ?_
              refine At.nil ?_
              refine At.thn ?_
              rcases bite hrun with ⟨h4964, hrun⟩ | ⟨h4964, hrun⟩
              · · refine At.condT rfl (decide_eq_true h4964) ?_
                  refine At.skip ?_
                  refine At.thn ?_
                  refine At.seq ?_
                  refine At.block ?_
                  refine At.seq ?_
                  refine At.region ?_
                  refine At.run 1 rfl ?_
                  refine At.nil ?_
                  refine At.thn ?_
                  refine At.seq ?_
                  refine At.seq ?_
                  refine At.region ?_
                  refine At.run 1 rfl ?_
                  refine At.nil ?_
                  refine At.thn ?_
                  refine At.block ?_
                  obtain ⟨G5782, hl5783, hr5784, hrun⟩ := bjoin hrun
                  obtain ⟨o5785, hlo5786, ho5787⟩ := bsome hrun
                  clear hrun
                  unfold bailifflaw15_CyclesTwo.l5 at hlo5786
                  obtain ⟨m5788, hit5790⟩ := iter_some.1 hlo5786
                  clear hlo5786
                  refine At.nilRow (Fl.int .i64) 3 ?_
                  refine At.loopJ (X := (List Int) × Int × Nat × (Option Addr) × Nat) (Y := (List Int) × Nat × (Option Addr) × Nat) (e0 := 8) (fun s_ => [(0, .slice w281 t279.length w283), (1, .slice w289 t287.length w291), (3, .int .i64 a3), (9, .bool t277), (10, .int .i64 (t279.length : Int)), (11, .slice w1114 x1111.length w1115), (13, .slice w2564 x2561.length w2565), (17, .int .i64 x2566), (18, .slice s_.2.2.2.1 s_.2.2.1 s_.2.2.2.2), (19, .int .i64 s_.2.1)]) (fun s_ => row (Fl.int .i64) 3 s_.2.2.2.1 s_.2.2.1 s_.2.2.2.2 s_.1 :: rows (Fl.int .i64) 3 26 w2564 x2561.length w2565 x2561 :: row (Fl.int .i64) 3 w1114 x1111.length w1115 x1111 :: Fr) (fun m_ => fun s_ => iterN (fun t_ : (List Int) × Int => bailifflaw15_CyclesTwo.l5b t279 t287 x2566 t_.1 t_.2) m_ (s_.1, s_.2.1) = some o5785 ∧ s_.1.length = s_.2.2.1) m5788 (([] : List Int), 0, 0, none, 0) ⟨hit5790, rfl⟩ (fun s_ => [(0, .slice w281 t279.length w283), (1, .slice w289 t287.length w291), (3, .int .i64 a3), (9, .bool t277), (10, .int .i64 (t279.length : Int)), (11, .slice w1114 x1111.length w1115), (13, .slice w2564 x2561.length w2565), (17, .int .i64 x2566), (18, .slice s_.2.2.1 s_.2.1 s_.2.2.2)]) (fun s_ => row (Fl.int .i64) 3 s_.2.2.1 s_.2.1 s_.2.2.2 s_.1 :: rows (Fl.int .i64) 3 26 w2564 x2561.length w2565 x2561 :: row (Fl.int .i64) 3 w1114 x1111.length w1115 x1111 :: Fr) (fun s_ => G5782 (.inl s_.1) = some o2775 ∧ s_.1.length = s_.2.1) (fun a w e hs => ⟨e.sub ⟨rfl, rfl, rfl, rfl, rfl, rfl, rfl, rfl, rfl, rfl, trivial⟩, hs⟩) ?_ (fun J5792 => ?_)
                  · rintro ⟨x5777, w5778, w5780, w5781⟩ ⟨hrun, hn5779⟩
                    obtain rfl : x5777.length = w5778 := hn5779
                    have hrun := (hl5783 _).symm.trans hrun
                    · refine At.ibx ?_
                      refine At.thn ?_
                      refine At.region ?_
                      refine At.run 2 rfl ?_
                      refine At.litV rfl (xo := [.tmp 150]) (vs := [.slice w5780 x5777.length w5781]) rfl rfl rfl rfl rfl rfl rfl rfl rfl rfl rfl (fun A5793 c5794 => ?_)
                      obtain ⟨h5796, hrun⟩ := bnone hrun
                      refine At.appendRow rfl (.s (.s .z)) .z .z rfl rfl rfl rfl rfl rfl rfl rfl h5796 (by decide) rfl (fun A5797 c5798 => ?_)
                      refine At.run 1 rfl ?_
                      refine At.nil ?_
                      refine At.ibn ?_
                      refine At.thn ?_
                      refine At.region ?_
                      refine At.run 3 rfl ?_
                      refine At.nil ?_
                      have hrun := bnx hf_ hrun
                      exact fun a w e hs => ⟨m2779, ((x2561 ++ [x5777]), IntKind.i64.wrap (x2566 + 1), (x2561 ++ [x5777]).length, A5797, c5798), hlt2781, ⟨hrun, rfl⟩, e.sub ⟨rfl, rfl, rfl, rfl, rfl, rfl, rfl, rfl, trivial⟩, hs⟩
                  · clear hit5790 m5788
                    rintro m5788 ⟨x5571, x5576, w5572, w5574, w5575⟩ ⟨hit5790, hn5573⟩
                    obtain rfl : x5571.length = w5572 := hn5573
                    obtain ⟨m5789, f_, hlt5791, hf_, hrun⟩ := bit hit5790
                    clear hit5790
                    have hrun : (bailifflaw15_CyclesTwo.l5b t279 t287 x2566 x5571 x5576).bind _ = some o5785 := hrun
                    unfold bailifflaw15_CyclesTwo.l5b at hrun
                    · refine At.seq ?_
                      refine At.seq ?_
                      refine At.region ?_
                      refine At.run 3 rfl ?_
                      obtain ⟨h5799, hrun⟩ := bnone hrun
                      refine At.y (Y.ixRd hr292 rfl rfl rfl rfl rfl rfl rfl h5799.1 h5799.2) rfl rfl rfl ?_
                      obtain ⟨A5800, c5801, hc5802, hr5803, hy5804⟩ := RdS.rowAt (P := Go.Proofs.Try.prog) hr292 (Sub.refl _) rfl h5799.1 h5799.2
                      refine At.y (hy5804 rfl rfl rfl rfl) rfl rfl rfl ?_
                      refine At.run 2 rfl ?_
                      refine At.nil ?_
                      refine At.thn ?_
                      rcases bite hrun with ⟨h5805, hrun⟩ | ⟨h5805, hrun⟩
                      · · refine At.condT rfl (decide_eq_true h5805) ?_
                          refine At.skip ?_
                          refine At.thn ?_
                          refine At.seq ?_
                          obtain ⟨G5806, hl5807, hr5808, hrun⟩ := bjoin hrun
                          refine At.join (X := (List Int) × Nat × (Option Addr) × Nat) (fun s_ => [(0, .slice w281 t279.length w283), (1, .slice w289 t287.length w291), (3, .int .i64 a3), (9, .bool t277), (10, .int .i64 (t279.length : Int)), (11, .slice w1114 x1111.length w1115), (13, .slice w2564 x2561.length w2565), (17, .int .i64 x2566), (18, .slice s_.2.2.1 s_.2.1 s_.2.2.2), (19, .int .i64 x5576)]) (fun s_ => row (Fl.int .i64) 3 s_.2.2.1 s_.2.1 s_.2.2.2 s_.1 :: rows (Fl.int .i64) 3 26 w2564 x2561.length w2565 x2561 :: row (Fl.int .i64) 3 w1114 x1111.length w1115 x1111 :: Fr) (fun s_ => G5806 (.inl s_.1) = some o5785 ∧ s_.1.length = s_.2.1) ?_ (fun J5809 => ?_)
                          · rintro ⟨x6010, w6011, w6013, w6014⟩ ⟨hrun, hn6012⟩
                            obtain rfl : x6010.length = w6011 := hn6012
                            have hrun := (hl5807 _).symm.trans hrun
                            · refine At.region ?_
                              refine At.run 3 rfl ?_
                              refine At.nil ?_
                              have hrun := bnx hf_ hrun
                              exact fun a w e hs => ⟨m5789, (x6010, IntKind.i64.wrap (x5576 + 1), x6010.length, w6013, w6014), hlt5791, ⟨hrun, rfl⟩, e.sub ⟨rfl, rfl, rfl, rfl, rfl, rfl, rfl, rfl, rfl, rfl, trivial⟩, hs⟩
                          · · refine At.block ?_
                              refine At.seq ?_
                              refine At.region ?_
                              refine At.run 2 rfl ?_
                              refine At.y (Y.ixRd hr292 rfl rfl rfl rfl rfl rfl rfl h5799.1 h5799.2) rfl rfl rfl ?_
                              obtain ⟨A6015, c6016, hc6017, hr6018, hy6019⟩ := RdS.rowAt (P := Go.Proofs.Try.prog) hr292 (Sub.refl _) rfl h5799.1 h5799.2
                              refine At.y (hy6019 rfl rfl rfl rfl) rfl rfl rfl ?_
                              refine At.run 1 rfl ?_
                              obtain ⟨h6020, hrun⟩ := bnone hrun
                              refine At.y (Y.ixRd hr6018 rfl rfl rfl rfl rfl rfl rfl h6020.1 h6020.2) rfl rfl rfl ?_
                              refine At.y (Y.ldFl hr6018 rfl (q := 0) rfl rfl h6020.1 h6020.2 rfl rfl rfl) rfl rfl rfl ?_
                              refine At.run 2 rfl ?_
                              obtain ⟨G6222, hl6223, hr6224, hrun⟩ := bjoin hrun
                              refine At.joinO 11 (X := Bool) (fun x6221 => [(0, .slice w281 t279.length w283), (1, .slice w289 t287.length w291), (3, .int .i64 a3), (9, .bool t277), (10, .int .i64 (t279.length : Int)), (11, .slice w1114 x1111.length w1115), (13, .slice w2564 x2561.length w2565), (17, .int .i64 x2566), (18, .slice w5574 x5571.length w5575), (19, .int .i64 x5576), (136, .bool x6221)]) (fun x6221 => row (Fl.int .i64) 3 w5574 x5571.length w5575 x5571 :: rows (Fl.int .i64) 3 26 w2564 x2561.length w2565 x2561 :: row (Fl.int .i64) 3 w1114 x1111.length w1115 x1111 :: Fr) (fun x6221 => G6222 (.inl x6221) = some o5785) ?_ (fun J6225 => ?_)
                              · rintro x6221 hrun
                                have hrun := (hl6223 _).symm.trans hrun
                                · refine At.nil ?_
                                  refine At.thn ?_
                                  rcases bite hrun with ⟨h6226, hrun⟩ | ⟨h6226, hrun⟩
                                  · · refine At.condT rfl h6226 ?_
                                      refine At.region ?_
                                      refine At.run 3 rfl ?_
                                      refine At.y (Y.ixRd hr292 rfl rfl rfl rfl rfl rfl rfl h5799.1 h5799.2) rfl rfl rfl ?_
                                      obtain ⟨A6227, c6228, hc6229, hr6230, hy6231⟩ := RdS.rowAt (P := Go.Proofs.Try.prog) hr292 (Sub.refl _) rfl h5799.1 h5799.2
                                      refine At.y (hy6231 rfl rfl rfl rfl) rfl rfl rfl ?_
                                      refine At.run 1 rfl ?_
                                      refine At.y (Y.ixRd hr6230 rfl rfl rfl rfl rfl rfl rfl h6020.1 h6020.2) rfl rfl rfl ?_
                                      refine At.y (Y.ldFl hr6230 rfl (q := 0) rfl rfl h6020.1 h6020.2 rfl rfl rfl) rfl rfl rfl ?_
                                      refine At.run 2 rfl ?_
                                      refine At.lit rfl (xo := [.tmp 146]) (ys := ([(IntKind.i64.wrap (gt (gt t287 x2566) x5576 + (t279.length : Int)))] : List Int)) (Fl.int .i64) rfl rfl rfl rfl rfl rfl rfl rfl rfl rfl rfl (fun A6232 c6233 => ?_)
                                      obtain ⟨h6235, hrun⟩ := bnone hrun
                                      refine At.append rfl (.s .z) (Src.own .z (by simp)) rfl rfl rfl rfl rfl rfl rfl rfl h6235 (by decide) rfl (fun A6236 c6237 => ?_)
                                      refine At.drop (.s .z) ?_
                                      refine At.run 1 rfl ?_
                                      refine At.nil ?_
                                      refine At.ibn ?_
                                      refine At.thn ?_
                                      exact fun a w e hs => J5809 ((x5571 ++ ([(IntKind.i64.wrap (gt (gt t287 x2566) x5576 + (t279.length : Int)))] : List Int)), (x5571 ++ ([(IntKind.i64.wrap (gt (gt t287 x2566) x5576 + (t279.length : Int)))] : List Int)).length, A6236, c6237) ⟨hrun, rfl⟩ a w (e.sub ⟨rfl, rfl, rfl, rfl, rfl, rfl, rfl, rfl, rfl, rfl, trivial⟩) hs
                                  · · refine At.condF rfl (bn h6226) ?_
                                      refine At.skip ?_
                                      refine At.ibn ?_
                                      refine At.thn ?_
                                      exact fun a w e hs => J5809 (x5571, x5571.length, w5574, w5575) ⟨hrun, rfl⟩ a w (e.sub ⟨rfl, rfl, rfl, rfl, rfl, rfl, rfl, rfl, rfl, rfl, trivial⟩) hs
                              · · rcases bite hrun with ⟨h6238, hrun⟩ | ⟨h6238, hrun⟩
                                  · · refine At.know (t := 125) rfl (decide_eq_true h6238) ?_
                                      refine At.run 2 rfl ?_
                                      refine At.y (Y.ixRd hr292 rfl rfl rfl rfl rfl rfl rfl h5799.1 h5799.2) rfl rfl rfl ?_
                                      obtain ⟨A6239, c6240, hc6241, hr6242, hy6243⟩ := RdS.rowAt (P := Go.Proofs.Try.prog) hr292 (Sub.refl _) rfl h5799.1 h5799.2
                                      refine At.y (hy6243 rfl rfl rfl rfl) rfl rfl rfl ?_
                                      refine At.run 1 rfl ?_
                                      refine At.y (Y.ixRd hr6242 rfl rfl rfl rfl rfl rfl rfl h6020.1 h6020.2) rfl rfl rfl ?_
                                      refine At.y (Y.ldFl hr6242 rfl (q := 0) rfl rfl h6020.1 h6020.2 rfl rfl rfl) rfl rfl rfl ?_
                                      refine At.run 4 rfl ?_
                                      exact At.of (J6225 (decide (gt (gt t287 x2566) x5576 < (t287.length : Int))) hrun) ⟨rfl, rfl, rfl, rfl, rfl, rfl, rfl, rfl, rfl, rfl, rfl, trivial⟩
                                  · · refine At.know (t := 125) rfl (decide_eq_false h6238) ?_
                                      refine At.run 11 rfl ?_
                                      exact At.of (J6225 false hrun) ⟨rfl, rfl, rfl, rfl, rfl, rfl, rfl, rfl, rfl, rfl, rfl, trivial⟩
                      · · refine At.condF rfl (decide_eq_false h5805) ?_
                          refine At.exit ?_
                          refine At.the ?_
                          refine At.the ?_
                          exact fun a w e hs => J5792 (x5571, x5571.length, w5574, w5575) ⟨(bdn hrun ho5787), rfl⟩ a w (e.sub ⟨rfl, rfl, rfl, rfl, rfl, rfl, rfl, rfl, rfl, trivial⟩) hs
              · · refine At.condF rfl (decide_eq_false h4964) ?_
                  refine At.exit ?_
                  refine At.the ?_
                  refine At.the ?_
                  exact fun a w e hs => J2782 (x2561, x2561.length, w2564, w2565) ⟨(bdn hrun ho2777), rfl⟩ a w (e.sub ⟨rfl, rfl, rfl, rfl, rfl, rfl, rfl, trivial⟩) hs
      · clear hit1952 m1950
        rintro m1950 ⟨x1733, x1738, w1734, w1736, w1737⟩ ⟨hit1952, hn1735⟩
        obtain rfl : x1733.length = w1734 := hn1735
        obtain ⟨m1951, f_, hlt1953, hf_, hrun⟩ := bit hit1952
        clear hit1952
        have hrun : (bailifflaw15_CyclesTwo.l1b t279 x1733 x1738).bind _ = some o1947 := hrun
        unfold bailifflaw15_CyclesTwo.l1b at hrun
        · refine At.seq ?_
          refine At.seq ?_
          refine At.region ?_
          refine At.run 3 rfl ?_
          refine At.nil ?_
          refine At.thn ?_
          rcases bite hrun with ⟨h6244, hrun⟩ | ⟨h6244, hrun⟩
          · · refine At.condT rfl (decide_eq_true h6244) ?_
              refine At.skip ?_
              refine At.thn ?_
              refine At.seq ?_
              refine At.block ?_
              refine At.seq ?_
              refine At.region ?_
              refine At.run 1 rfl ?_
              refine At.nil ?_
              refine At.thn ?_
              refine At.seq ?_
              refine At.seq ?_
              refine At.region ?_
              refine At.run 1 rfl ?_
              refine At.nil ?_
              refine At.thn ?_
              refine At.block ?_
              obtain ⟨G7062, hl7063, hr7064, hrun⟩ := bjoin hrun
              obtain ⟨o7065, hlo7066, ho7067⟩ := bsome hrun
              clear hrun
              unfold bailifflaw15_CyclesTwo.l6 at hlo7066
              obtain ⟨m7068, hit7070⟩ := iter_some.1 hlo7066
              clear hlo7066
              refine At.nilRow (Fl.int .i64) 3 ?_
              refine At.loopJ (X := (List Int) × Int × Nat × (Option Addr) × Nat) (Y := (List Int) × Nat × (Option Addr) × Nat) (e0 := 4) (fun s_ => [(0, .slice w281 t279.length w283), (1, .slice w289 t287.length w291), (3, .int .i64 a3), (9, .bool t277), (10, .int .i64 (t279.length : Int)), (11, .slice w1114 x1111.length w1115), (13, .slice w1736 x1733.length w1737), (14, .int .i64 x1738), (15, .slice s_.2.2.2.1 s_.2.2.1 s_.2.2.2.2), (16, .int .i64 s_.2.1)]) (fun s_ => row (Fl.int .i64) 3 s_.2.2.2.1 s_.2.2.1 s_.2.2.2.2 s_.1 :: rows (Fl.int .i64) 3 26 w1736 x1733.length w1737 x1733 :: row (Fl.int .i64) 3 w1114 x1111.length w1115 x1111 :: Fr) (fun m_ => fun s_ => iterN (fun t_ : (List Int) × Int => bailifflaw15_CyclesTwo.l6b t279 x1738 t_.1 t_.2) m_ (s_.1, s_.2.1) = some o7065 ∧ s_.1.length = s_.2.2.1) m7068 (([] : List Int), 0, 0, none, 0) ⟨hit7070, rfl⟩ (fun s_ => [(0, .slice w281 t279.length w283), (1, .slice w289 t287.length w291), (3, .int .i64 a3), (9, .bool t277), (10, .int .i64 (t279.length : Int)), (11, .slice w1114 x1111.length w1115), (13, .slice w1736 x1733.length w1737), (14, .int .i64 x1738), (15, .slice s_.2.2.1 s_.2.1 s_.2.2.2)]) (fun s_ => row (Fl.int .i64) 3 s_.2.2.1 s_.2.1 s_.2.2.2 s_.1 :: rows (Fl.int .i64) 3 26 w1736 x1733.length w1737 x1733 :: row (Fl.int .i64) 3 w1114 x1111.length w1115 x1111 :: Fr) (fun s_ => G7062 (.inl s_.1) = some o1947 ∧ s_.1.length = s_.2.1) (fun a w e hs => ⟨e.sub ⟨rfl, rfl, rfl, rfl, rfl, rfl, rfl, rfl, rfl, rfl, trivial⟩, hs⟩) ?_ (fun J7072 => ?_)
              · rintro ⟨x7057, w7058, w7060, w7061⟩ ⟨hrun, hn7059⟩
                obtain rfl : x7057.length = w7058 := hn7059
                have hrun := (hl7063 _).symm.trans hrun
                · refine At.ibx ?_
                  refine At.thn ?_
                  refine At.region ?_
                  refine At.run 2 rfl ?_
                  refine At.litV rfl (xo := [.tmp 99]) (vs := [.slice w7060 x7057.length w7061]) rfl rfl rfl rfl rfl rfl rfl rfl rfl rfl rfl (fun A7073 c7074 => ?_)
                  obtain ⟨h7076, hrun⟩ := bnone hrun
                  refine At.appendRow rfl (.s (.s .z)) .z .z rfl rfl rfl rfl rfl rfl rfl rfl h7076 (by decide) rfl (fun A7077 c7078 => ?_)
                  refine At.run 1 rfl ?_
                  refine At.nil ?_
                  refine At.ibn ?_
                  refine At.thn ?_
                  refine At.region ?_
                  refine At.run 3 rfl ?_
                  refine At.nil ?_
                  have hrun := bnx hf_ hrun
                  exact fun a w e hs => ⟨m1951, ((x1733 ++ [x7057]), IntKind.i64.wrap (x1738 + 1), (x1733 ++ [x7057]).length, A7077, c7078), hlt1953, ⟨hrun, rfl⟩, e.sub ⟨rfl, rfl, rfl, rfl, rfl, rfl, rfl, rfl, trivial⟩, hs⟩
              · clear hit7070 m7068
                rintro m7068 ⟨x6851, x6856, w6852, w6854, w6855⟩ ⟨hit7070, hn6853⟩
                obtain rfl : x6851.length = w6852 := hn6853
                obtain ⟨m7069, f_, hlt7071, hf_, hrun⟩ := bit hit7070
                clear hit7070
                have hrun : (bailifflaw15_CyclesTwo.l6b t279 x1738 x6851 x6856).bind _ = some o7065 := hrun
                unfold bailifflaw15_CyclesTwo.l6b at hrun
                · refine At.seq ?_
                  refine At.seq ?_
                  refine At.region ?_
                  refine At.run 3 rfl ?_
                  obtain ⟨h7079, hrun⟩ := bnone hrun
                  refine At.y (Y.ixRd hr284 rfl rfl rfl rfl rfl rfl rfl h7079.1 h7079.2) rfl rfl rfl ?_
                  obtain ⟨A7080, c7081, hc7082, hr7083, hy7084⟩ := RdS.rowAt (P := Go.Proofs.Try.prog) hr284 (Sub.refl _) rfl h7079.1 h7079.2
                  refine At.y (hy7084 rfl rfl rfl rfl) rfl rfl rfl ?_
                  refine At.run 2 rfl ?_
                  refine At.nil ?_
                  refine At.thn ?_
                  rcases bite hrun with ⟨h7085, hrun⟩ | ⟨h7085, hrun⟩
                  · · refine At.condT rfl (decide_eq_true h7085) ?_
                      refine At.skip ?_
                      refine At.thn ?_
                      refine At.seq ?_
                      obtain ⟨G7086, hl7087, hr7088, hrun⟩ := bjoin hrun
                      refine At.join (X := (List Int) × Nat × (Option Addr) × Nat) (fun s_ => [(0, .slice w281 t279.length w283), (1, .slice w289 t287.length w291), (3, .int .i64 a3), (9, .bool t277), (10, .int .i64 (t279.length : Int)), (11, .slice w1114 x1111.length w1115), (13, .slice w1736 x1733.length w1737), (14, .int .i64 x1738), (15, .slice s_.2.2.1 s_.2.1 s_.2.2.2), (16, .int .i64 x6856)]) (fun s_ => row (Fl.int .i64) 3 s_.2.2.1 s_.2.1 s_.2.2.2 s_.1 :: rows (Fl.int .i64) 3 26 w1736 x1733.length w1737 x1733 :: row (Fl.int .i64) 3 w1114 x1111.length w1115 x1111 :: Fr) (fun s_ => G7086 (.inl s_.1) = some o7065 ∧ s_.1.length = s_.2.1) ?_ (fun J7089 => ?_)
                      · rintro ⟨x7290, w7291, w7293, w7294⟩ ⟨hrun, hn7292⟩
                        obtain rfl : x7290.length = w7291 := hn7292
                        have hrun := (hl7087 _).symm.trans hrun
                        · refine At.region ?_
                          refine At.run 3 rfl ?_
                          refine At.nil ?_
                          have hrun := bnx hf_ hrun
                          exact fun a w e hs => ⟨m7069, (x7290, IntKind.i64.wrap (x6856 + 1), x7290.length, w7293, w7294), hlt7071, ⟨hrun, rfl⟩, e.sub ⟨rfl, rfl, rfl, rfl, rfl, rfl, rfl, rfl, rfl, rfl, trivial⟩, hs⟩
                      · · refine At.block ?_
                          refine At.seq ?_
                          refine At.region ?_
                          refine At.run 2 rfl ?_
                          refine At.y (Y.ixRd hr284 rfl rfl rfl rfl rfl rfl rfl h7079.1 h7079.2) rfl rfl rfl ?_
                          obtain ⟨A7295, c7296, hc7297, hr7298, hy7299⟩ := RdS.rowAt (P := Go.Proofs.Try.prog) hr284 (Sub.refl _) rfl h7079.1 h7079.2
                          refine At.y (hy7299 rfl rfl rfl rfl) rfl rfl rfl ?_
                          refine At.run 1 rfl ?_
                          obtain ⟨h7300, hrun⟩ := bnone hrun
                          refine At.y (Y.ixRd hr7298 rfl rfl rfl rfl rfl rfl rfl h7300.1 h7300.2) rfl rfl rfl ?_
                          refine At.y (Y.ldFl hr7298 rfl (q := 0) rfl rfl h7300.1 h7300.2 rfl rfl rfl) rfl rfl rfl ?_
                          refine At.run 2 rfl ?_
                          obtain ⟨G7502, hl7503, hr7504, hrun⟩ := bjoin hrun
                          refine At.joinO 10 (X := Bool) (fun x7501 => [(0, .slice w281 t279.length w283), (1, .slice w289 t287.length w291), (3, .int .i64 a3), (9, .bool t277), (10, .int .i64 (t279.length : Int)), (11, .slice w1114 x1111.length w1115), (13, .slice w1736 x1733.length w1737), (14, .int .i64 x1738), (15, .slice w6854 x6851.length w6855), (16, .int .i64 x6856), (87, .bool x7501)]) (fun x7501 => row (Fl.int .i64) 3 w6854 x6851.length w6855 x6851 :: rows (Fl.int .i64) 3 26 w1736 x1733.length w1737 x1733 :: row (Fl.int .i64) 3 w1114 x1111.length w1115 x1111 :: Fr) (fun x7501 => G7502 (.inl x7501) = some o7065) ?_ (fun J7505 => ?_)
                          · rintro x7501 hrun
                            have hrun := (hl7503 _).symm.trans hrun
                            · refine At.nil ?_
                              refine At.thn ?_
                              rcases bite hrun with ⟨h7506, hrun⟩ | ⟨h7506, hrun⟩
                              · · refine At.condT rfl h7506 ?_
                                  refine At.region ?_
                                  refine At.run 3 rfl ?_
                                  refine At.y (Y.ixRd hr284 rfl rfl rfl rfl rfl rfl rfl h7079.1 h7079.2) rfl rfl rfl ?_
                                  obtain ⟨A7507, c7508, hc7509, hr7510, hy7511⟩ := RdS.rowAt (P := Go.Proofs.Try.prog) hr284 (Sub.refl _) rfl h7079.1 h7079.2
                                  refine At.y (hy7511 rfl rfl rfl rfl) rfl rfl rfl ?_
                                  refine At.run 1 rfl ?_
                                  refine At.y (Y.ixRd hr7510 rfl rfl rfl rfl rfl rfl rfl h7300.1 h7300.2) rfl rfl rfl ?_
                                  refine At.y (Y.ldFl hr7510 rfl (q := 0) rfl rfl h7300.1 h7300.2 rfl rfl rfl) rfl rfl rfl ?_
                                  refine At.lit rfl (xo := [.tmp 95]) (ys := ([(gt (gt t279 x1738) x6856)] : List Int)) (Fl.int .i64) rfl rfl rfl rfl rfl rfl rfl rfl rfl rfl rfl (fun A7512 c7513 => ?_)
                                  obtain ⟨h7515, hrun⟩ := bnone hrun
                                  refine At.append rfl (.s .z) (Src.own .z (by simp)) rfl rfl rfl rfl rfl rfl rfl rfl h7515 (by decide) rfl (fun A7516 c7517 => ?_)
                                  refine At.drop (.s .z) ?_
                                  refine At.run 1 rfl ?_
                                  refine At.nil ?_
                                  refine At.ibn ?_
                                  refine At.thn ?_
                                  exact fun a w e hs => J7089 ((x6851 ++ ([(gt (gt t279 x1738) x6856)] : List Int)), (x6851 ++ ([(gt (gt t279 x1738) x6856)] : List Int)).length, A7516, c7517) ⟨hrun, rfl⟩ a w (e.sub ⟨rfl, rfl, rfl, rfl, rfl, rfl, rfl, rfl, rfl, rfl, trivial⟩) hs
                              · · refine At.condF rfl (bn h7506) ?_
                                  refine At.skip ?_
                                  refine At.ibn ?_
                                  refine At.thn ?_
                                  exact fun a w e hs => J7089 (x6851, x6851.length, w6854, w6855) ⟨hrun, rfl⟩ a w (e.sub ⟨rfl, rfl, rfl, rfl, rfl, rfl, rfl, rfl, rfl, rfl, trivial⟩) hs
                          · · rcases bite hrun with ⟨h7518, hrun⟩ | ⟨h7518, hrun⟩
                              · · refine At.know (t := 77) rfl (decide_eq_true h7518) ?_
                                  refine At.run 2 rfl ?_
                                  refine At.y (Y.ixRd hr284 rfl rfl rfl rfl rfl rfl rfl h7079.1 h7079.2) rfl rfl rfl ?_
                                  obtain ⟨A7519, c7520, hc7521, hr7522, hy7523⟩ := RdS.rowAt (P := Go.Proofs.Try.prog) hr284 (Sub.refl _) rfl h7079.1 h7079.2
                                  refine At.y (hy7523 rfl rfl rfl rfl) rfl rfl rfl ?_
                                  refine At.run 1 rfl ?_
                                  refine At.y (Y.ixRd hr7522 rfl rfl rfl rfl rfl rfl rfl h7300.1 h7300.2) rfl rfl rfl ?_
                                  refine At.y (Y.ldFl hr7522 rfl (q := 0) rfl rfl h7300.1 h7300.2 rfl rfl rfl) rfl rfl rfl ?_
                                  refine At.run 3 rfl ?_
                                  exact At.of (J7505 (decide (gt (gt t279 x1738) x6856 < (t279.length : Int))) hrun) ⟨rfl, rfl, rfl, rfl, rfl, rfl, rfl, rfl, rfl, rfl, rfl, trivial⟩
                              · · refine At.know (t := 77) rfl (decide_eq_false h7518) ?_
                                  refine At.run 10 rfl ?_
                                  exact At.of (J7505 false hrun) ⟨rfl, rfl, rfl, rfl, rfl, rfl, rfl, rfl, rfl, rfl, rfl, trivial⟩
                  · · refine At.condF rfl (decide_eq_false h7085) ?_
                      refine At.exit ?_
                      refine At.the ?_
                      refine At.the ?_
                      exact fun a w e hs => J7072 (x6851, x6851.length, w6854, w6855) ⟨(bdn hrun ho7067), rfl⟩ a w (e.sub ⟨rfl, rfl, rfl, rfl, rfl, rfl, rfl, rfl, rfl, trivial⟩) hs
          · · refine At.condF rfl (decide_eq_false h6244) ?_
              refine At.exit ?_
              refine At.the ?_
              refine At.the ?_
              exact fun a w e hs => J1954 (x1733, x1733.length, w1736, w1737) ⟨(bdn hrun ho1949), rfl⟩ a w (e.sub ⟨rfl, rfl, rfl, rfl, rfl, rfl, rfl, trivial⟩) hs
  · clear hit1124 m1122
    rintro m1122 ⟨x905, x910, w906, w908, w909⟩ ⟨hit1124, hn907⟩
    obtain rfl : x905.length = w906 := hn907
    obtain ⟨m1123, f_, hlt1125, hf_, hrun⟩ := bit hit1124
    clear hit1124
    have hrun : (bailifflaw15_CyclesTwo.l0b a2 t287 x905 x910).bind _ = some o1119 := hrun
    unfold bailifflaw15_CyclesTwo.l0b at hrun
    · refine At.seq ?_
      refine At.seq ?_
      refine At.region ?_
      refine At.run 4 rfl ?_
      refine At.nil ?_
      refine At.thn ?_
      rcases bite hrun with ⟨h7524, hrun⟩ | ⟨h7524, hrun⟩
      · · refine At.condT rfl (decide_eq_true h7524) ?_
          refine At.skip ?_
          refine At.thn ?_
          refine At.seq ?_
          refine At.block ?_
          refine At.region ?_
          refine At.run 6 rfl ?_
          refine At.y (Y.rem rfl rfl (by decide)) rfl rfl rfl ?_
          refine At.lit rfl (xo := [.tmp 52]) (ys := ([(Int.tmod (IntKind.i64.wrap (IntKind.i64.wrap (x910 * 7) + (a2.length : Int))) 5)] : List Int)) (Fl.int .i64) rfl rfl rfl rfl rfl rfl rfl rfl rfl rfl rfl (fun A7525 c7526 => ?_)
          obtain ⟨h7528, hrun⟩ := bnone hrun
          refine At.append rfl (.s .z) (Src.own .z (by simp)) rfl rfl rfl rfl rfl rfl rfl rfl h7528 (by decide) rfl (fun A7529 c7530 => ?_)
          refine At.drop (.s .z) ?_
          refine At.run 1 rfl ?_
          refine At.nil ?_
          refine At.ibn ?_
          refine At.thn ?_
          refine At.region ?_
          refine At.run 3 rfl ?_
          refine At.nil ?_
          have hrun := bnx hf_ hrun
          exact fun a w e hs => ⟨m1123, ((x905 ++ ([(Int.tmod (IntKind.i64.wrap (IntKind.i64.wrap (x910 * 7) + (a2.length : Int))) 5)] : List Int)), IntKind.i64.wrap (x910 + 1), (x905 ++ ([(Int.tmod (IntKind.i64.wrap (IntKind.i64.wrap (x910 * 7) + (a2.length : Int))) 5)] : List Int)).length, A7529, c7530), hlt1125, ⟨hrun, rfl⟩, e.sub ⟨rfl, rfl, rfl, rfl, rfl, rfl, rfl, rfl, trivial⟩, hs⟩
      · · refine At.condF rfl (decide_eq_false h7524) ?_
          refine At.exit ?_
          refine At.the ?_
          refine At.the ?_
          exact fun a w e hs => J1126 (x905, x905.length, w908, w909) ⟨(bdn hrun ho1121), rfl⟩ a w (e.sub ⟨rfl, rfl, rfl, rfl, rfl, rfl, trivial⟩) hs

end Go.Bw
