/- Walks: what the functions of the program compute, told by plain functions, and that the calls come to them. Conditions: none. -/
import Derived.Test.YtmkidaijgdgcjaaBwTyx
import Derived.Test.YtmkidaijgdgcjaaProg
import Derived.Test.YtmkidaijgdgcjaaBwLay
import Derived.Test.YtmkidaijgdgcjaaBwSortI
import Derived.Test.YtmkidaijgdgcjaaBwSortF
import Derived.Deep.QuietTactic
import Derived.Test.YtmkidaijgdgcjaaBwCyc
import Derived.Test.YtmkidaijgdgcjaaBwSame
import Derived.Test.YtmkidaijgdgcjaaBwRef
import Derived.Test.YtmkidaijgdgcjaaBwSpare
set_option linter.unusedVariables false
set_option linter.unusedSimpArgs false
set_option linter.unusedSectionVars false
namespace Go.Bw
open Go Go.RowKit Go.Proofs
noncomputable def bailifflaw15_lent.l0b (a0 : List (List Int)) (x862 : List (List Int × List Int)) (x867 : Int) : Option (((List (List Int × List Int)) × Int) ⊕ (((List (List Int × List Int))) ⊕ ((List (List Int × List Int))))) :=
  if x867 < (a0.length : Int) then
    if (0 : Int) ≤ x867 ∧ x867 < (a0.length : Int) then
      if (([] : List Int).length + (gt a0 x867).length) * 8 ≤ 140737488355328 then
        if ((([] : List Int) ++ (gt a0 x867)).length + ([0] : List Int).length) * 8 ≤ 140737488355328 then
          if (0 : Int) ≤ ((gt a0 x867).length : Int) ∧ ((gt a0 x867).length : Int) ≤ (((([] : List Int) ++ (gt a0 x867)) ++ ([0] : List Int)).length : Int) then
            if (x862.length + 1) * 24 ≤ 140737488355328 then
              nx ((x862 ++ [(((([] : List Int) ++ (gt a0 x867)) ++ ([0] : List Int)).take ((gt a0 x867).length : Int).toNat, ((([] : List Int) ++ (gt a0 x867)) ++ ([0] : List Int)).drop ((gt a0 x867).length : Int).toNat)]), IntKind.i64.wrap (x867 + 1))
            else none
          else none
        else none
      else none
    else none
  else
    dn (.inl x862)
noncomputable def bailifflaw15_lent.l0 (a0 : List (List Int)) (x862 : List (List Int × List Int)) (x867 : Int) : Option (((List (List Int × List Int))) ⊕ ((List (List Int × List Int)))) := iter (fun t_ : (List (List Int × List Int)) × Int => bailifflaw15_lent.l0b a0 t_.1 t_.2) (x862, x867)
noncomputable def bailifflaw15_lent.f (a0 : List (List Int)) : Option (List (List Int × List Int)) :=
  jn (bailifflaw15_lent.l0 a0 ([] : List (List Int × List Int)) 0) (fun (x1068 : List (List Int × List Int)) =>
    some x1068)
theorem bailifflaw15_lent.callee : Callee Go.Proofs.Try.prog 17 := ⟨_, Go.Proofs.Try.func17, by kernel_rfl, by kernel_rfl⟩
set_option maxRecDepth 100000 in
set_option maxHeartbeats 2000000 in
theorem bailifflaw15_lent.spec (R : Res) (Fr : List HProp) (A0 : Option Addr) (n0 : Nat) (c0 : Nat) (a0 : List (List Int)) (hr0 : RdS ((Fl.int .i64).rep).slice R.heap A0 a0) (hn0 : a0.length = n0) (hc0 : n0 ≤ c0) {r : (List (List Int × List Int))} (hrun : bailifflaw15_lent.f a0 = some r) :
    Spec Go.Proofs.Try.prog 17 [.slice A0 n0 c0] R (Fr) (fun v l' => ∃ (w252 : Nat) (w254 : Option Addr) (w255 : Nat), v = .slice w254 w252 w255 ∧ srows (Fl.int .i64) 3 26 w254 w252 w255 r :: Fr = l' ∧ r.length = w252) := by
  subst hn0
  refine Spec.of Go.Proofs.Try.func17 rfl rfl ?_
  unfold bailifflaw15_lent.f at hrun
  have hrun := brun hrun
  refine At.seq ?_
  refine At.region ?_
  refine At.run 1 rfl ?_
  refine At.nil ?_
  refine At.thn ?_
  refine At.seq ?_
  refine At.region ?_
  refine At.run 1 rfl ?_
  refine At.nil ?_
  refine At.thn ?_
  refine At.seq ?_
  refine At.seq ?_
  refine At.region ?_
  refine At.run 1 rfl ?_
  refine At.nil ?_
  refine At.thn ?_
  refine At.block ?_
  obtain ⟨G1073, hl1074, hr1075, hrun⟩ := bjoin hrun
  obtain ⟨o1076, hlo1077, ho1078⟩ := bsome hrun
  clear hrun
  unfold bailifflaw15_lent.l0 at hlo1077
  obtain ⟨m1079, hit1081⟩ := iter_some.1 hlo1077
  clear hlo1077
  refine At.nilSrows (Fl.int .i64) 3 26 ?_
  refine At.loopJ (X := (List (List Int × List Int)) × Int × Nat × (Option Addr) × Nat) (Y := (List (List Int × List Int)) × Nat × (Option Addr) × Nat) (e0 := 0) (fun s_ => [(0, .slice A0 a0.length c0), (3, .slice s_.2.2.2.1 s_.2.2.1 s_.2.2.2.2), (4, .int .i64 s_.2.1)]) (fun s_ => srows (Fl.int .i64) 3 26 s_.2.2.2.1 s_.2.2.1 s_.2.2.2.2 s_.1 :: Fr) (fun m_ => fun s_ => iterN (fun t_ : (List (List Int × List Int)) × Int => bailifflaw15_lent.l0b a0 t_.1 t_.2) m_ (s_.1, s_.2.1) = some o1076 ∧ s_.1.length = s_.2.2.1) m1079 (([] : List (List Int × List Int)), 0, 0, none, 0) ⟨hit1081, rfl⟩ (fun s_ => [(3, .slice s_.2.2.1 s_.2.1 s_.2.2.2)]) (fun s_ => srows (Fl.int .i64) 3 26 s_.2.2.1 s_.2.1 s_.2.2.2 s_.1 :: Fr) (fun s_ => G1073 (.inl s_.1) = some r ∧ s_.1.length = s_.2.1) (fun a w e hs => ⟨e.sub ⟨rfl, rfl, rfl, trivial⟩, hs⟩) ?_ (fun J1083 => ?_)
  · rintro ⟨x1068, w1069, w1071, w1072⟩ ⟨hrun, hn1070⟩
    obtain rfl : x1068.length = w1069 := hn1070
    have hrun := (hl1074 _).symm.trans hrun
    · refine At.ibx ?_
      refine At.thn ?_
      refine At.seq ?_
      refine At.region ?_
      refine At.run 2 rfl ?_
      refine At.nil ?_
      refine At.thn ?_
      refine At.ret ?_
      obtain rfl := (bret hrun).symm
      exact At.res (.inl rfl) rfl rfl ⟨x1068.length, w1071, w1072, rfl, rfl, rfl⟩
  · clear hit1081 m1079
    rintro m1079 ⟨x862, x867, w863, w865, w866⟩ ⟨hit1081, hn864⟩
    obtain rfl : x862.length = w863 := hn864
    obtain ⟨m1080, f_, hlt1082, hf_, hrun⟩ := bit hit1081
    clear hit1081
    have hrun : (bailifflaw15_lent.l0b a0 x862 x867).bind _ = some o1076 := hrun
    unfold bailifflaw15_lent.l0b at hrun
    · refine At.seq ?_
      refine At.seq ?_
      refine At.region ?_
      refine At.run 4 rfl ?_
      refine At.nil ?_
      refine At.thn ?_
      rcases bite hrun with ⟨h1084, hrun⟩ | ⟨h1084, hrun⟩
      · · refine At.condT rfl (decide_eq_true h1084) ?_
          refine At.skip ?_
          refine At.thn ?_
          refine At.seq ?_
          refine At.block ?_
          refine At.seq ?_
          refine At.region ?_
          refine At.lit rfl (xo := []) (ys := ([] : List Int)) (Fl.int .i64) rfl rfl rfl rfl rfl rfl rfl rfl rfl rfl rfl (fun A1085 c1086 => ?_)
          refine At.run 2 rfl ?_
          obtain ⟨h1088, hrun⟩ := bnone hrun
          refine At.y (Y.ixRd hr0 rfl rfl rfl rfl rfl rfl rfl h1088.1 h1088.2) rfl rfl rfl ?_
          obtain ⟨A1089, c1090, hc1091, hr1092, hy1093⟩ := RdS.rowAt (P := Go.Proofs.Try.prog) hr0 (Sub.refl _) rfl h1088.1 h1088.2
          refine At.y (hy1093 rfl rfl rfl rfl) rfl rfl rfl ?_
          obtain ⟨h1094, hrun⟩ := bnone hrun
          refine At.appendAll rfl .z (SrcE.rd hr1092) rfl rfl rfl rfl rfl rfl rfl rfl rfl h1094 (by decide) rfl (fun A1095 c1096 => ?_)
          refine At.lit rfl (xo := [.const (.int .i64 0)]) (ys := ([0] : List Int)) (Fl.int .i64) rfl rfl rfl rfl rfl rfl rfl rfl rfl rfl rfl (fun A1097 c1098 => ?_)
          obtain ⟨h1100, hrun⟩ := bnone hrun
          refine At.append rfl (.s .z) (Src.own .z (by simp)) rfl rfl rfl rfl rfl rfl rfl rfl h1100 (by decide) rfl (fun A1101 c1102 => ?_)
          refine At.drop (.s .z) ?_
          refine At.run 1 rfl ?_
          refine At.nil ?_
          refine At.thn ?_
          refine At.region ?_
          refine At.run 4 rfl ?_
          refine At.y (Y.ixRd hr0 rfl rfl rfl rfl rfl rfl rfl h1088.1 h1088.2) rfl rfl rfl ?_
          obtain ⟨A1103, c1104, hc1105, hr1106, hy1107⟩ := RdS.rowAt (P := Go.Proofs.Try.prog) hr0 (Sub.refl _) rfl h1088.1 h1088.2
          refine At.y (hy1107 rfl rfl rfl rfl) rfl rfl rfl ?_
          refine At.run 1 rfl ?_
          obtain ⟨h1108, hrun⟩ := bnone hrun
          refine At.y (Y.slOwn .z rfl rfl rfl rfl rfl h1108.1 h1108.2) rfl rfl rfl ?_
          refine At.litV rfl (xo := [.tmp 27]) (vs := [.slice A1101 ((((([] : List Int) ++ (gt a0 x867)) ++ ([0] : List Int)).take ((gt a0 x867).length : Int).toNat).length) c1102]) rfl rfl rfl rfl rfl rfl rfl rfl rfl rfl rfl (fun A1109 c1110 => ?_)
          obtain ⟨h1112, hrun⟩ := bnone hrun
          refine At.appendView rfl (.s (.s .z)) .z .z rfl rfl rfl rfl rfl rfl rfl rfl h1112 (by decide) rfl (fun A1113 c1114 => ?_)
          refine At.run 1 rfl ?_
          refine At.nil ?_
          refine At.ibn ?_
          refine At.thn ?_
          refine At.region ?_
          refine At.run 3 rfl ?_
          refine At.nil ?_
          have hrun := bnx hf_ hrun
          exact fun a w e hs => ⟨m1080, ((x862 ++ [(((([] : List Int) ++ (gt a0 x867)) ++ ([0] : List Int)).take ((gt a0 x867).length : Int).toNat, ((([] : List Int) ++ (gt a0 x867)) ++ ([0] : List Int)).drop ((gt a0 x867).length : Int).toNat)]), IntKind.i64.wrap (x867 + 1), (x862 ++ [(((([] : List Int) ++ (gt a0 x867)) ++ ([0] : List Int)).take ((gt a0 x867).length : Int).toNat, ((([] : List Int) ++ (gt a0 x867)) ++ ([0] : List Int)).drop ((gt a0 x867).length : Int).toNat)]).length, A1113, c1114), hlt1082, ⟨hrun, rfl⟩, e.sub ⟨rfl, rfl, rfl, trivial⟩, hs⟩
      · · refine At.condF rfl (decide_eq_false h1084) ?_
          refine At.exit ?_
          refine At.the ?_
          refine At.the ?_
          exact fun a w e hs => J1083 (x862, x862.length, w865, w866) ⟨(bdn hrun ho1078), rfl⟩ a w (e.sub ⟨rfl, trivial⟩) hs

noncomputable def bailifflaw15_kept.l0b (a0 : List (List Int × List Int)) (a1 : List (List Int)) (x853 : Int) : Option ((Int) ⊕ ((Unit) ⊕ (Bool))) :=
  if x853 < (a1.length : Int) then
    if (0 : Int) ≤ x853 ∧ x853 < (a0.length : Int) then
      if (0 : Int) ≤ x853 ∧ x853 < (a1.length : Int) then
        (bailiffref09_SameInts.f ((gt a0 x853).1) (gt a1 x853)).bind fun t1078 =>
          if (0 : Int) ≤ IntKind.i64.wrap (((gt a1 x853).length : Int) + 1) ∧ IntKind.i64.wrap (((gt a1 x853).length : Int) + 1) ≤ (((gt a0 x853).1 ++ (gt a0 x853).2).length : Int) then
            jn (
              if t1078 = true then
                if (0 : Int) ≤ ((gt a1 x853).length : Int) ∧ ((gt a1 x853).length : Int) < ((((gt a0 x853).1 ++ (gt a0 x853).2).take (IntKind.i64.wrap (((gt a1 x853).length : Int) + 1)).toNat).length : Int) then
                  some (.inl (!(decide (gt (((gt a0 x853).1 ++ (gt a0 x853).2).take (IntKind.i64.wrap (((gt a1 x853).length : Int) + 1)).toNat) ((gt a1 x853).length : Int) = 0))))
                else none
              else
                some (.inl true)) (fun (x1292 : Bool) =>
              if x1292 = true then
                upL (some false)
              else
                nx (IntKind.i64.wrap (x853 + 1)))
          else none
      else none
    else none
  else
    dn (.inl ())
noncomputable def bailifflaw15_kept.l0 (a0 : List (List Int × List Int)) (a1 : List (List Int)) (x853 : Int) : Option ((Unit) ⊕ (Bool)) := iter (fun t_ : Int => bailifflaw15_kept.l0b a0 a1 t_) x853
noncomputable def bailifflaw15_kept.f (a0 : List (List Int × List Int)) (a1 : List (List Int)) : Option Bool :=
  jn (bailifflaw15_kept.l0 a0 a1 0) (fun (_ : Unit) =>
    some true)
theorem bailifflaw15_kept.callee : Callee Go.Proofs.Try.prog 21 := ⟨_, Go.Proofs.Try.func21, by kernel_rfl, by kernel_rfl⟩
set_option maxRecDepth 100000 in
set_option maxHeartbeats 2000000 in
theorem bailifflaw15_kept.spec (R : Res) (Fr : List HProp) (A0 : Option Addr) (n0 : Nat) (c0 : Nat) (A1 : Option Addr) (n1 : Nat) (c1 : Nat) (a0 : List (List Int × List Int)) (a1 : List (List Int)) (hr0 : RdS ((Fl.int .i64).rep).sp R.heap A0 a0) (hn0 : a0.length = n0) (hc0 : n0 ≤ c0) (hr1 : RdS ((Fl.int .i64).rep).slice R.heap A1 a1) (hn1 : a1.length = n1) (hc1 : n1 ≤ c1) {r : Bool} (hrun : bailifflaw15_kept.f a0 a1 = some r) :
    Spec Go.Proofs.Try.prog 21 [.slice A0 n0 c0, .slice A1 n1 c1] R (Fr) (fun v l' => v = .bool r ∧ Fr = l') := by
  subst hn0
  subst hn1
  refine Spec.of Go.Proofs.Try.func21 rfl rfl ?_
  unfold bailifflaw15_kept.f at hrun
  have hrun := brun hrun
  refine At.seq ?_
  refine At.region ?_
  refine At.run 1 rfl ?_
  refine At.nil ?_
  refine At.thn ?_
  refine At.seq ?_
  refine At.seq ?_
  refine At.region ?_
  refine At.run 1 rfl ?_
  refine At.nil ?_
  refine At.thn ?_
  refine At.block ?_
  obtain ⟨G1054, hl1055, hr1056, hrun⟩ := bjoin hrun
  obtain ⟨o1057, hlo1058, ho1059⟩ := bsome hrun
  clear hrun
  unfold bailifflaw15_kept.l0 at hlo1058
  obtain ⟨m1060, hit1062⟩ := iter_some.1 hlo1058
  clear hlo1058
  refine At.loopJ (X := Int) (Y := Unit) (e0 := 0) (fun x853 => [(0, .slice A0 a0.length c0), (1, .slice A1 a1.length c1), (5, .int .i64 x853)]) (fun x853 => Fr) (fun m_ => fun x853 => iterN (fun t_ : Int => bailifflaw15_kept.l0b a0 a1 t_) m_ x853 = some o1057) m1060 0 hit1062 (fun _ => []) (fun _ => Fr) (fun _ => G1054 (.inl ()) = some r) (fun a w e hs => ⟨e.sub ⟨rfl, rfl, rfl, trivial⟩, hs⟩) ?_ (fun J1064 => ?_)
  · rintro _ hrun
    have hrun := (hl1055 _).symm.trans hrun
    · refine At.ibx ?_
      refine At.thn ?_
      refine At.seq ?_
      refine At.region ?_
      refine At.run 1 rfl ?_
      refine At.nil ?_
      refine At.thn ?_
      refine At.ret ?_
      obtain rfl := (bret hrun).symm
      exact At.res (.inl rfl) rfl rfl ⟨rfl, rfl⟩
  · clear hit1062 m1060
    rintro m1060 x853 hit1062
    obtain ⟨m1061, f_, hlt1063, hf_, hrun⟩ := bit hit1062
    clear hit1062
    have hrun : (bailifflaw15_kept.l0b a0 a1 x853).bind _ = some o1057 := hrun
    unfold bailifflaw15_kept.l0b at hrun
    · refine At.seq ?_
      refine At.seq ?_
      refine At.region ?_
      refine At.run 4 rfl ?_
      refine At.nil ?_
      refine At.thn ?_
      rcases bite hrun with ⟨h1065, hrun⟩ | ⟨h1065, hrun⟩
      · · refine At.condT rfl (decide_eq_true h1065) ?_
          refine At.skip ?_
          refine At.thn ?_
          refine At.seq ?_
          refine At.block ?_
          refine At.seq ?_
          refine At.quiet (by kernel_rfl) ?_
          refine At.Quiet.run 2 rfl ?_
          obtain ⟨h1066, hrun⟩ := bnone hrun
          refine At.Quiet.y (Y.ixRd hr0 rfl rfl rfl rfl rfl rfl rfl h1066.1 h1066.2) rfl rfl rfl ?_
          obtain ⟨A1067, c1068, hc1069, hr1070, hy1071⟩ := RdS.rowAtS (P := Go.Proofs.Try.prog) hr0 (Sub.refl _) rfl h1066.1 h1066.2
          refine At.Quiet.y (hy1071 rfl rfl rfl rfl) rfl rfl rfl ?_
          refine At.Quiet.run 2 rfl ?_
          obtain ⟨h1072, hrun⟩ := bnone hrun
          refine At.Quiet.y (Y.ixRd hr1 rfl rfl rfl rfl rfl rfl rfl h1072.1 h1072.2) rfl rfl rfl ?_
          obtain ⟨A1073, c1074, hc1075, hr1076, hy1077⟩ := RdS.rowAt (P := Go.Proofs.Try.prog) hr1 (Sub.refl _) rfl h1072.1 h1072.2
          refine At.Quiet.y (hy1077 rfl rfl rfl rfl) rfl rfl rfl ?_
          obtain ⟨t1078, hc1079, hrun⟩ := bbind hrun
          refine At.Quiet.call rfl bailiffref09_SameInts.callee rfl rfl rfl (bailiffref09_SameInts.spec _ _ A1067 ((gt a0 x853).1.length) c1068 A1073 ((gt a1 x853).length) c1074 ((gt a0 x853).1) (gt a1 x853) (RdS.pre hr1070) rfl (Nat.le_trans (by simp) hc1069) hr1076 rfl hc1075 hc1079) (fun _ _ h_ => ⟨h_.1, fun _ hs => h_.2 ▸ hs⟩) ?_
          refine At.Quiet.run 1 rfl ?_
          refine At.Quiet.nil ?_
          refine At.thn ?_
          refine At.seq ?_
          refine At.quiet (by kernel_rfl) ?_
          refine At.Quiet.run 2 rfl ?_
          refine At.Quiet.y (Y.ixRd hr0 rfl rfl rfl rfl rfl rfl rfl h1066.1 h1066.2) rfl rfl rfl ?_
          obtain ⟨A1080, c1081, hc1082, hr1083, hy1084⟩ := RdS.rowAtS (P := Go.Proofs.Try.prog) hr0 (Sub.refl _) rfl h1066.1 h1066.2
          refine At.Quiet.y (hy1084 rfl rfl rfl rfl) rfl rfl rfl ?_
          refine At.Quiet.run 2 rfl ?_
          refine At.Quiet.y (Y.ixRd hr1 rfl rfl rfl rfl rfl rfl rfl h1072.1 h1072.2) rfl rfl rfl ?_
          obtain ⟨A1085, c1086, hc1087, hr1088, hy1089⟩ := RdS.rowAt (P := Go.Proofs.Try.prog) hr1 (Sub.refl _) rfl h1072.1 h1072.2
          refine At.Quiet.y (hy1089 rfl rfl rfl rfl) rfl rfl rfl ?_
          refine At.Quiet.run 2 rfl ?_
          obtain ⟨h1091, hrun⟩ := bnone hrun
          have hc1090 : (((gt a0 x853).1 ++ (gt a0 x853).2).take (IntKind.i64.wrap (((gt a1 x853).length : Int) + 1)).toNat).length ≤ c1081 := Nat.le_trans (List.length_take_le' _ _) hc1082
          refine At.Quiet.y (Y.slFull hc1082 rfl rfl rfl rfl rfl h1091.1 h1091.2) rfl rfl rfl ?_
          refine At.Quiet.run 1 rfl ?_
          refine At.Quiet.nil ?_
          refine At.thn ?_
          refine At.seq ?_
          refine At.region ?_
          refine At.run 3 rfl ?_
          obtain ⟨G1293, hl1294, hr1295, hrun⟩ := bjoin hrun
          refine At.joinO 10 (X := Bool) (fun x1292 => [(0, .slice A0 a0.length c0), (1, .slice A1 a1.length c1), (5, .int .i64 x853), (46, .bool x1292)]) (fun x1292 => Fr) (fun x1292 => G1293 (.inl x1292) = some o1057) ?_ (fun J1296 => ?_)
          · rintro x1292 hrun
            have hrun := (hl1294 _).symm.trans hrun
            · refine At.nil ?_
              refine At.thn ?_
              rcases bite hrun with ⟨h1297, hrun⟩ | ⟨h1297, hrun⟩
              · · refine At.condT rfl h1297 ?_
                  refine At.seq ?_
                  refine At.region ?_
                  refine At.run 1 rfl ?_
                  refine At.nil ?_
                  refine At.thn ?_
                  refine At.ret ?_
                  refine At.ibr ?_
                  refine At.thr ?_
                  have hrun := bupL hr1056 ho1059 hrun
                  refine At.thr ?_
                  refine At.ibr ?_
                  refine At.thr ?_
                  obtain rfl := (bret hrun).symm
                  exact At.res (.inl rfl) rfl rfl ⟨rfl, rfl⟩
              · · refine At.condF rfl (bn h1297) ?_
                  refine At.skip ?_
                  refine At.ibn ?_
                  refine At.thn ?_
                  refine At.region ?_
                  refine At.run 3 rfl ?_
                  refine At.nil ?_
                  have hrun := bnx hf_ hrun
                  exact fun a w e hs => ⟨m1061, (IntKind.i64.wrap (x853 + 1)), hlt1063, hrun, e.sub ⟨rfl, rfl, rfl, trivial⟩, hs⟩
          · · rcases bite hrun with ⟨h1298, hrun⟩ | ⟨h1298, hrun⟩
              · · refine At.know (t := 36) rfl (nf h1298) ?_
                  refine At.run 3 rfl ?_
                  refine At.y (Y.ixRd hr1 rfl rfl rfl rfl rfl rfl rfl h1072.1 h1072.2) rfl rfl rfl ?_
                  obtain ⟨A1299, c1300, hc1301, hr1302, hy1303⟩ := RdS.rowAt (P := Go.Proofs.Try.prog) hr1 (Sub.refl _) rfl h1072.1 h1072.2
                  refine At.y (hy1303 rfl rfl rfl rfl) rfl rfl rfl ?_
                  refine At.run 1 rfl ?_
                  obtain ⟨h1304, hrun⟩ := bnone hrun
                  refine At.y (Y.ixRd (RdS.take hr1083 _) rfl rfl rfl rfl rfl rfl rfl h1304.1 h1304.2) rfl rfl rfl ?_
                  refine At.y (Y.ldFl (RdS.take hr1083 _) rfl (q := 0) rfl rfl h1304.1 h1304.2 rfl rfl rfl) rfl rfl rfl ?_
                  refine At.run 2 rfl ?_
                  exact At.of (J1296 (!(decide (gt (((gt a0 x853).1 ++ (gt a0 x853).2).take (IntKind.i64.wrap (((gt a1 x853).length : Int) + 1)).toNat) ((gt a1 x853).length : Int) = 0))) hrun) ⟨rfl, rfl, rfl, rfl, trivial⟩
              · · refine At.know (t := 36) rfl (nt (bn h1298)) ?_
                  refine At.run 10 rfl ?_
                  exact At.of (J1296 true hrun) ⟨rfl, rfl, rfl, rfl, trivial⟩
      · · refine At.condF rfl (decide_eq_false h1065) ?_
          refine At.exit ?_
          refine At.the ?_
          refine At.the ?_
          exact fun a w e hs => J1064 () (bdn hrun ho1059) a w (e.sub trivial) hs

noncomputable def bailifflaw15_CyclesBad.f (a0 : List (List Int)) (a1 : List Int) (a2 : Int) : Option Bool :=
  (bailifflaw15_shown.f ).bind fun t259 =>
    (bailifflaw15_cut.f a0).bind fun t261 =>
      (bailifflaw15_lent.f t261).bind fun t269 =>
        if (([] : List Int).length + a1.length) * 8 ≤ 140737488355328 then
          if ((([] : List Int) ++ a1).length + ([77] : List Int).length) * 8 ≤ 140737488355328 then
            if (0 : Int) ≤ (a1.length : Int) ∧ (a1.length : Int) ≤ (((([] : List Int) ++ a1) ++ ([77] : List Int)).length : Int) then
              (cycles_Bad.f (t269.map (·.1)) (((([] : List Int) ++ a1) ++ ([77] : List Int)).take (a1.length : Int).toNat) (IntKind.i64.wrap (a2 + 0))).bind fun t302 =>
                (bailiffref15_Bad.f t261 a1 (IntKind.i64.wrap (a2 + 0))).bind fun t304 =>
                  if t302 = t304 then
                    (cycles_Bad.f (t269.map (·.1)) (((([] : List Int) ++ a1) ++ ([77] : List Int)).take (a1.length : Int).toNat) (IntKind.i64.wrap (a2 + 1))).bind fun t308 =>
                      (bailiffref15_Bad.f t261 a1 (IntKind.i64.wrap (a2 + 1))).bind fun t310 =>
                        if t308 = t310 then
                          (bailiffref09_SameInts.f (((([] : List Int) ++ a1) ++ ([77] : List Int)).take (a1.length : Int).toNat) a1).bind fun t314 =>
                            (bailifflaw15_kept.f t269 t261).bind fun t316 =>
                              jn (
                                if t259 = true then
                                  some (.inl t314)
                                else
                                  some (.inl false)) (fun (x518 : Bool) =>
                                jn (
                                  if x518 = true then
                                    some (.inl t316)
                                  else
                                    some (.inl false)) (fun (x723 : Bool) =>
                                  jn (
                                    if x723 = true then
                                      if (0 : Int) ≤ (a1.length : Int) ∧ (a1.length : Int) < (((([] : List Int) ++ a1) ++ ([77] : List Int)).length : Int) then
                                        some (.inl (decide (gt ((([] : List Int) ++ a1) ++ ([77] : List Int)) (a1.length : Int) = 77)))
                                      else none
                                    else
                                      some (.inl false)) (fun (x928 : Bool) =>
                                    some x928)))
                        else
                          some false
                  else
                    some false
            else none
          else none
        else none
theorem bailifflaw15_CyclesBad.callee : Callee Go.Proofs.Try.prog 4 := ⟨_, Go.Proofs.Try.func4, by kernel_rfl, by kernel_rfl⟩
set_option maxRecDepth 100000 in
set_option maxHeartbeats 2000000 in
theorem bailifflaw15_CyclesBad.spec (R : Res) (Fr : List HProp) (A0 : Option Addr) (n0 : Nat) (c0 : Nat) (A1 : Option Addr) (n1 : Nat) (c1 : Nat) (a0 : List (List Int)) (a1 : List Int) (a2 : Int) (hr0 : RdS ((Fl.int .i64).rep).slice R.heap A0 a0) (hn0 : a0.length = n0) (hc0 : n0 ≤ c0) (hr1 : RdS (Fl.int .i64).rep R.heap A1 a1) (hn1 : a1.length = n1) (hc1 : n1 ≤ c1) {r : Bool} (hrun : bailifflaw15_CyclesBad.f a0 a1 a2 = some r) :
    Spec Go.Proofs.Try.prog 4 [.slice A0 n0 c0, .slice A1 n1 c1, .int .i64 a2] R (Fr) (fun v l' => v = .bool r ∧ Fr = l') := by
  subst hn0
  subst hn1
  refine Spec.of Go.Proofs.Try.func4 rfl rfl ?_
  unfold bailifflaw15_CyclesBad.f at hrun
  have hrun := brun hrun
  refine At.seq ?_
  refine At.region ?_
  refine At.run 1 rfl ?_
  refine At.nil ?_
  refine At.thn ?_
  refine At.seq ?_
  refine At.region ?_
  obtain ⟨t259, hc260, hrun⟩ := bbind hrun
  refine At.call rfl bailifflaw15_shown.callee rfl rfl rfl (bailifflaw15_shown.spec _ _    hc260) ?_
  rintro _ _ ⟨rfl, rfl⟩
  refine At.run 1 rfl ?_
  refine At.nil ?_
  refine At.thn ?_
  refine At.seq ?_
  refine At.region ?_
  refine At.run 1 rfl ?_
  obtain ⟨t261, hc262, hrun⟩ := bbind hrun
  refine At.call rfl bailifflaw15_cut.callee rfl rfl rfl (bailifflaw15_cut.spec _ _ A0 a0.length c0 a0 hr0 rfl hc0 hc262) ?_
  rintro _ _ ⟨w263, w264, w265, rfl, rfl, hr266, rfl, hc268⟩
  refine At.run 1 rfl ?_
  refine At.nil ?_
  refine At.thn ?_
  refine At.seq ?_
  refine At.region ?_
  refine At.run 1 rfl ?_
  obtain ⟨t269, hc270, hrun⟩ := bbind hrun
  refine At.call rfl bailifflaw15_lent.callee rfl rfl rfl (bailifflaw15_lent.spec _ _ w263 t261.length w265 t261 hr266 rfl hc268 hc270) ?_
  rintro _ _ ⟨w271, w272, w273, rfl, rfl, rfl⟩
  refine At.run 1 rfl ?_
  refine At.nil ?_
  refine At.thn ?_
  refine At.seq ?_
  refine At.region ?_
  refine At.lit rfl (xo := []) (ys := ([] : List Int)) (Fl.int .i64) rfl rfl rfl rfl rfl rfl rfl rfl rfl rfl rfl (fun A276 c277 => ?_)
  refine At.run 1 rfl ?_
  obtain ⟨h279, hrun⟩ := bnone hrun
  refine At.appendAll rfl .z (SrcE.rd hr1) rfl rfl rfl rfl rfl rfl rfl rfl rfl h279 (by decide) rfl (fun A280 c281 => ?_)
  refine At.lit rfl (xo := [.const (.int .i64 77)]) (ys := ([77] : List Int)) (Fl.int .i64) rfl rfl rfl rfl rfl rfl rfl rfl rfl rfl rfl (fun A282 c283 => ?_)
  obtain ⟨h285, hrun⟩ := bnone hrun
  refine At.append rfl (.s .z) (Src.own .z (by simp)) rfl rfl rfl rfl rfl rfl rfl rfl h285 (by decide) rfl (fun A286 c287 => ?_)
  refine At.drop (.s .z) ?_
  refine At.run 1 rfl ?_
  refine At.nil ?_
  refine At.thn ?_
  refine At.seq ?_
  refine At.seq ?_
  refine At.region ?_
  refine At.run 1 rfl ?_
  refine At.nil ?_
  refine At.thn ?_
  refine At.block ?_
  refine At.rounds 3 ?_
  refine At.round ?_
  refine At.seq ?_
  refine At.seq ?_
  refine At.region ?_
  refine At.run 2 rfl ?_
  refine At.nil ?_
  refine At.thn ?_
  refine At.condT rfl rfl ?_
  refine At.skip ?_
  refine At.thn ?_
  refine At.seq ?_
  refine At.block ?_
  refine At.seq ?_
  refine At.region ?_
  refine At.run 4 rfl ?_
  refine At.freeze .z fun R288 hr289 hn290 hc291 hs292 th293 => ?_
  obtain ⟨h294, hrun⟩ := bnone hrun
  have hc295 : (((([] : List Int) ++ a1) ++ ([77] : List Int)).take (a1.length : Int).toNat).length ≤ c287 := Nat.le_trans (List.length_take_le' _ _) (by have h1_ := (show ((([] : List Int) ++ a1) ++ ([77] : List Int)).length = ((([] : List Int) ++ a1) ++ ([77] : List Int)).length from hn290); have h2_ := hc291; omega)
  refine At.y (Y.slTo hn290 rfl rfl rfl rfl rfl hc291 h294.1 h294.2) rfl rfl rfl ?_
  refine At.run 3 rfl ?_
  refine At.freezeSrows .z fun R296 hr297 hn298 hc299 hs300 th301 => ?_
  obtain ⟨t302, hc303, hrun⟩ := bbind hrun
  refine At.call rfl cycles_Bad.callee rfl rfl rfl (cycles_Bad.spec _ _ w272 t269.length w273 A286 ((((([] : List Int) ++ a1) ++ ([77] : List Int)).take (a1.length : Int).toNat).length) c287 (t269.map (·.1)) (((([] : List Int) ++ a1) ++ ([77] : List Int)).take (a1.length : Int).toNat) (IntKind.i64.wrap (a2 + 0)) (RdS.fst hr297) ((List.length_map _).trans hn298) hc299 (RdS.mono hs300 (RdS.take hr289 _)) rfl hc295 hc303) ?_
  rintro _ _ ⟨rfl, rfl⟩
  refine At.run 5 rfl ?_
  obtain ⟨t304, hc305, hrun⟩ := bbind hrun
  refine At.call rfl bailiffref15_Bad.callee rfl rfl rfl (bailiffref15_Bad.spec _ _ w263 t261.length w265 A1 a1.length c1 t261 a1 (IntKind.i64.wrap (a2 + 0)) (RdS.mono (hs292.trans hs300) hr266) rfl hc268 (RdS.mono (hs292.trans hs300) hr1) rfl hc1 hc305) ?_
  rintro _ _ ⟨rfl, rfl⟩
  refine At.run 1 rfl ?_
  refine At.nil ?_
  refine At.thn ?_
  rcases bite hrun with ⟨h306, hrun⟩ | ⟨h306, hrun⟩
  · · refine At.condF rfl (nf (decide_eq_true h306)) ?_
      refine At.skip ?_
      refine At.ibn ?_
      refine At.thn ?_
      refine At.region ?_
      refine At.run 3 rfl ?_
      refine At.nil ?_
      refine At.thn ?_
      refine At.round ?_
      refine At.seq ?_
      refine At.seq ?_
      refine At.region ?_
      refine At.run 2 rfl ?_
      refine At.nil ?_
      refine At.thn ?_
      refine At.condT rfl rfl ?_
      refine At.skip ?_
      refine At.thn ?_
      refine At.seq ?_
      refine At.block ?_
      refine At.seq ?_
      refine At.region ?_
      refine At.run 4 rfl ?_
      have hc307 : (((([] : List Int) ++ a1) ++ ([77] : List Int)).take (a1.length : Int).toNat).length ≤ c287 := Nat.le_trans (List.length_take_le' _ _) (by have h1_ := (show ((([] : List Int) ++ a1) ++ ([77] : List Int)).length = ((([] : List Int) ++ a1) ++ ([77] : List Int)).length from hn290); have h2_ := hc291; omega)
      refine At.y (Y.slTo hn290 rfl rfl rfl rfl rfl hc291 h294.1 h294.2) rfl rfl rfl ?_
      refine At.run 3 rfl ?_
      obtain ⟨t308, hc309, hrun⟩ := bbind hrun
      refine At.call rfl cycles_Bad.callee rfl rfl rfl (cycles_Bad.spec _ _ w272 t269.length w273 A286 ((((([] : List Int) ++ a1) ++ ([77] : List Int)).take (a1.length : Int).toNat).length) c287 (t269.map (·.1)) (((([] : List Int) ++ a1) ++ ([77] : List Int)).take (a1.length : Int).toNat) (IntKind.i64.wrap (a2 + 1)) (RdS.fst hr297) ((List.length_map _).trans hn298) hc299 (RdS.mono hs300 (RdS.take hr289 _)) rfl hc307 hc309) ?_
      rintro _ _ ⟨rfl, rfl⟩
      refine At.run 5 rfl ?_
      obtain ⟨t310, hc311, hrun⟩ := bbind hrun
      refine At.call rfl bailiffref15_Bad.callee rfl rfl rfl (bailiffref15_Bad.spec _ _ w263 t261.length w265 A1 a1.length c1 t261 a1 (IntKind.i64.wrap (a2 + 1)) (RdS.mono (hs292.trans hs300) hr266) rfl hc268 (RdS.mono (hs292.trans hs300) hr1) rfl hc1 hc311) ?_
      rintro _ _ ⟨rfl, rfl⟩
      refine At.run 1 rfl ?_
      refine At.nil ?_
      refine At.thn ?_
      rcases bite hrun with ⟨h312, hrun⟩ | ⟨h312, hrun⟩
      · · refine At.condF rfl (nf (decide_eq_true h312)) ?_
          refine At.skip ?_
          refine At.ibn ?_
          refine At.thn ?_
          refine At.region ?_
          refine At.run 3 rfl ?_
          refine At.nil ?_
          refine At.thn ?_
          refine At.round ?_
          refine At.seq ?_
          refine At.seq ?_
          refine At.region ?_
          refine At.run 2 rfl ?_
          refine At.nil ?_
          refine At.thn ?_
          refine At.condF rfl rfl ?_
          refine At.exit ?_
          refine At.the ?_
          refine At.the ?_
          refine At.ibx ?_
          refine At.thn ?_
          refine At.seq ?_
          refine At.region ?_
          refine At.run 3 rfl ?_
          have hc313 : (((([] : List Int) ++ a1) ++ ([77] : List Int)).take (a1.length : Int).toNat).length ≤ c287 := Nat.le_trans (List.length_take_le' _ _) (by have h1_ := (show ((([] : List Int) ++ a1) ++ ([77] : List Int)).length = ((([] : List Int) ++ a1) ++ ([77] : List Int)).length from hn290); have h2_ := hc291; omega)
          refine At.y (Y.slTo hn290 rfl rfl rfl rfl rfl hc291 h294.1 h294.2) rfl rfl rfl ?_
          refine At.run 1 rfl ?_
          obtain ⟨t314, hc315, hrun⟩ := bbind hrun
          refine At.call rfl bailiffref09_SameInts.callee rfl rfl rfl (bailiffref09_SameInts.spec _ _ A286 ((((([] : List Int) ++ a1) ++ ([77] : List Int)).take (a1.length : Int).toNat).length) c287 A1 a1.length c1 (((([] : List Int) ++ a1) ++ ([77] : List Int)).take (a1.length : Int).toNat) a1 (RdS.mono hs300 (RdS.take hr289 _)) rfl hc313 (RdS.mono (hs292.trans hs300) hr1) rfl hc1 hc315) ?_
          rintro _ _ ⟨rfl, rfl⟩
          refine At.run 1 rfl ?_
          refine At.nil ?_
          refine At.thn ?_
          refine At.seq ?_
          refine At.region ?_
          refine At.run 2 rfl ?_
          obtain ⟨t316, hc317, hrun⟩ := bbind hrun
          refine At.call rfl bailifflaw15_kept.callee rfl rfl rfl (bailifflaw15_kept.spec _ _ w272 t269.length w273 w263 t261.length w265 t269 t261 hr297 hn298 hc299 (RdS.mono (hs292.trans hs300) hr266) rfl hc268 hc317) ?_
          rintro _ _ ⟨rfl, rfl⟩
          refine At.run 1 rfl ?_
          refine At.nil ?_
          refine At.thn ?_
          refine At.seq ?_
          refine At.region ?_
          refine At.run 2 rfl ?_
          obtain ⟨G519, hl520, hr521, hrun⟩ := bjoin hrun
          refine At.joinO 2 (X := Bool) (fun x518 => [(1, .slice A1 a1.length c1), (9, .slice A286 (((([] : List Int) ++ a1) ++ ([77] : List Int)).length) c287), (12, .bool t316), (55, .bool x518)]) (fun x518 => Fr) (fun x518 => G519 (.inl x518) = some r) ?_ (fun J522 => ?_)
          · rintro x518 hrun
            have hrun := (hl520 _).symm.trans hrun
            · refine At.run 1 rfl ?_
              obtain ⟨G724, hl725, hr726, hrun⟩ := bjoin hrun
              refine At.joinO 2 (X := Bool) (fun x723 => [(1, .slice A1 a1.length c1), (9, .slice A286 (((([] : List Int) ++ a1) ++ ([77] : List Int)).length) c287), (58, .bool x723)]) (fun x723 => Fr) (fun x723 => G724 (.inl x723) = some r) ?_ (fun J727 => ?_)
              · rintro x723 hrun
                have hrun := (hl725 _).symm.trans hrun
                · refine At.run 1 rfl ?_
                  obtain ⟨G929, hl930, hr931, hrun⟩ := bjoin hrun
                  refine At.joinO 7 (X := Bool) (fun x928 => [(66, .bool x928)]) (fun x928 => Fr) (fun x928 => G929 (.inl x928) = some r) ?_ (fun J932 => ?_)
                  · rintro x928 hrun
                    have hrun := (hl930 _).symm.trans hrun
                    · refine At.run 1 rfl ?_
                      refine At.nil ?_
                      refine At.thn ?_
                      refine At.ret ?_
                      refine At.thaw th301 ?_
                      refine At.thaw th293 ?_
                      refine At.drop .z ?_
                      refine At.drop .z ?_
                      obtain rfl := (bret hrun).symm
                      exact At.res (.inl rfl) rfl rfl ⟨rfl, rfl⟩
                  · · rcases bite hrun with ⟨h933, hrun⟩ | ⟨h933, hrun⟩
                      · · refine At.know (t := 59) rfl h933 ?_
                          refine At.run 3 rfl ?_
                          obtain ⟨h934, hrun⟩ := bnone hrun
                          refine At.y (Y.ixRd (RdS.mono hs300 hr289) hn290 rfl rfl rfl rfl rfl rfl h934.1 h934.2) rfl rfl rfl ?_
                          refine At.y (Y.ldFl (RdS.mono hs300 hr289) hn290 (q := 0) rfl rfl h934.1 h934.2 rfl rfl rfl) rfl rfl rfl ?_
                          refine At.run 2 rfl ?_
                          exact At.of (J932 (decide (gt ((([] : List Int) ++ a1) ++ ([77] : List Int)) (a1.length : Int) = 77)) hrun) ⟨rfl, trivial⟩
                      · · refine At.know (t := 59) rfl (bn h933) ?_
                          refine At.run 7 rfl ?_
                          exact At.of (J932 false hrun) ⟨rfl, trivial⟩
              · · rcases bite hrun with ⟨h935, hrun⟩ | ⟨h935, hrun⟩
                  · · refine At.know (t := 56) rfl h935 ?_
                      refine At.run 2 rfl ?_
                      exact At.of (J727 t316 hrun) ⟨rfl, rfl, rfl, trivial⟩
                  · · refine At.know (t := 56) rfl (bn h935) ?_
                      refine At.run 2 rfl ?_
                      exact At.of (J727 false hrun) ⟨rfl, rfl, rfl, trivial⟩
          · · rcases bite hrun with ⟨h936, hrun⟩ | ⟨h936, hrun⟩
              · · refine At.know (t := 53) rfl h936 ?_
                  refine At.run 2 rfl ?_
                  exact At.of (J522 t314 hrun) ⟨rfl, rfl, rfl, rfl, trivial⟩
              · · refine At.know (t := 53) rfl (bn h936) ?_
                  refine At.run 2 rfl ?_
                  exact At.of (J522 false hrun) ⟨rfl, rfl, rfl, rfl, trivial⟩
      · · refine At.condT rfl (nt (decide_eq_false h312)) ?_
          refine At.seq ?_
          refine At.region ?_
          refine At.run 1 rfl ?_
          refine At.nil ?_
          refine At.thn ?_
          refine At.ret ?_
          refine At.ibr ?_
          refine At.thr ?_
          refine At.thr ?_
          refine At.ibr ?_
          refine At.thr ?_
          refine At.thaw th301 ?_
          refine At.thaw th293 ?_
          refine At.drop .z ?_
          refine At.drop .z ?_
          obtain rfl := (bret hrun).symm
          exact At.res (.inl rfl) rfl rfl ⟨rfl, rfl⟩
  · · refine At.condT rfl (nt (decide_eq_false h306)) ?_
      refine At.seq ?_
      refine At.region ?_
      refine At.run 1 rfl ?_
      refine At.nil ?_
      refine At.thn ?_
      refine At.ret ?_
      refine At.ibr ?_
      refine At.thr ?_
      refine At.thr ?_
      refine At.ibr ?_
      refine At.thr ?_
      refine At.thaw th301 ?_
      refine At.thaw th293 ?_
      refine At.drop .z ?_
      refine At.drop .z ?_
      obtain rfl := (bret hrun).symm
      exact At.res (.inl rfl) rfl rfl ⟨rfl, rfl⟩

end Go.Bw
