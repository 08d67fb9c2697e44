/- Walks: what the functions of the program compute, told by plain functions, and that the calls come to them. Conditions: none. -/
import Derived.Test.YtbkooifhcekpmaaGreatBwTyx
import Derived.Test.YtbkooifhcekpmaaGreatProg
import Derived.Test.YtbkooifhcekpmaaGreatBwGrow
import Derived.Test.YtbkooifhcekpmaaGreatBwIter
import Derived.Test.YtbkooifhcekpmaaGreatBwStr
set_option linter.unusedVariables false
set_option linter.unusedSimpArgs false
set_option linter.unusedSectionVars false
namespace Go.Bw
open Go Go.RowKit
structure api_Edge where
  From : Int
  Action : Int
  To : Int
deriving Inhabited, DecidableEq
def api_Edge.fl : Fl api_Edge := ⟨3, fun x => [.int .i64 x.From, .int .i64 x.Action, .int .i64 x.To], fun _ => rfl, fun x u hu => by simp at hu; rcases hu with rfl | rfl | rfl <;> rfl, by decide⟩
structure api_Prop where
  Name : Bs
  States : List Int
deriving Inhabited
def api_Prop.rep : Rep api_Prop := ((Fl.bs.rep).pair (((Fl.int .i64).rep).slice)).iso (fun x => (x.Name, x.States))
def api_Prop.ow : Ow api_Prop := ((Ow.fl Fl.bs).pair (Ow.sl (Fl.int .i64) 3)).iso (fun x => (x.Name, x.States))
theorem api_Prop.prj_Name : Prj api_Prop.rep 0 Fl.bs.rep (fun x => x.Name) := Prj.iso _ (Prj.fst (Prj.self _))
theorem api_Prop.prj_States : Prj api_Prop.rep 1 (((Fl.int .i64).rep).slice) (fun x => x.States) := Prj.iso _ (Prj.snd (Prj.self _))
theorem api_Prop.ent {x0 : Bs} {A1 : Option Addr} {n1 c1 : Nat} {x1 : List Int} : Ent [row (Fl.int .i64) 3 A1 n1 c1 x1] (api_Prop.ow.own ⟨x0, x1⟩ [.string ⟨(x0).toArray⟩, .slice A1 n1 c1]) := (Ent.pair (c1 := [.string ⟨(x0).toArray⟩]) (c2 := [.slice A1 n1 c1]) (Ent.fl Fl.bs rfl) (Ent.sl (Fl.int .i64)))
theorem bytealg_cmpstring.ext : ExtOk Go.Proofs.Tryz.prog 74 Extern.BytealgCompare.compare := ⟨_, Go.Proofs.Tryz.func74, by kernel_rfl, by kernel_rfl, by kernel_rfl, by kernel_rfl⟩

noncomputable def lts_Right_1.f (a0 : Int) (a1_0 : Int) (a1_1 : List Bs) (a1_2 : List api_Edge) (a1_3 : List api_Prop) : Option Bool :=
  jn (
    if 0 ≤ a0 then
      some (.inl (decide (a0 < a1_0)))
    else
      some (.inl false)) (fun (x452 : Bool) =>
    some x452)
theorem lts_Right_1.callee : Callee Go.Proofs.Tryz.prog 20 := ⟨_, Go.Proofs.Tryz.func20, by kernel_rfl, by kernel_rfl⟩
set_option maxRecDepth 100000 in
set_option maxHeartbeats 2000000 in
theorem lts_Right_1.spec (R : Res) (Fr : List HProp) (b1 : Nat) (A1_1 : Option Addr) (n1_1 : Nat) (c1_1 : Nat) (A1_2 : Option Addr) (n1_2 : Nat) (c1_2 : Nat) (A1_3 : Option Addr) (n1_3 : Nat) (c1_3 : Nat) (a0 : Int) (a1_0 : Int) (a1_1 : List Bs) (a1_2 : List api_Edge) (a1_3 : List api_Prop) (hr1_1 : RdS Fl.bs.rep R.heap A1_1 a1_1) (hn1_1 : a1_1.length = n1_1) (hc1_1 : n1_1 ≤ c1_1) (hr1_2 : RdS api_Edge.fl.rep R.heap A1_2 a1_2) (hn1_2 : a1_2.length = n1_2) (hc1_2 : n1_2 ≤ c1_2) (hr1_3 : RdS api_Prop.rep R.heap A1_3 a1_3) (hn1_3 : a1_3.length = n1_3) (hc1_3 : n1_3 ≤ c1_3) {r : Bool} (hrun : lts_Right_1.f a0 a1_0 a1_1 a1_2 a1_3 = some r) :
    Spec Go.Proofs.Tryz.prog 20 [.int .i64 a0, .pointer (some ⟨b1, 0, none⟩)] R (pt b1 (.cells [.int .i64 a1_0, .slice A1_1 n1_1 c1_1, .slice A1_2 n1_2 c1_2, .slice A1_3 n1_3 c1_3].toArray 26) :: Fr) (fun v l' => v = .bool r ∧ pt b1 (.cells [.int .i64 a1_0, .slice A1_1 n1_1 c1_1, .slice A1_2 n1_2 c1_2, .slice A1_3 n1_3 c1_3].toArray 26) :: Fr = l') := by
  subst hn1_1; subst hn1_2; subst hn1_3; refine Spec.of Go.Proofs.Tryz.func20 rfl rfl ?_; unfold lts_Right_1.f at hrun; have hrun := brun hrun; refine At.seq ?_; refine At.region ?_; refine At.run 1 rfl ?_; refine At.nil ?_; refine At.thn ?_; refine At.seq ?_; refine At.region ?_; refine At.run 3 rfl ?_; obtain ⟨G453, hl454, hr455, hrun⟩ := bjoin hrun; refine At.joinO 5 (X := Bool) (fun x452 => [(11, .bool x452)]) (fun x452 => pt b1 (.cells [.int .i64 a1_0, .slice A1_1 a1_1.length c1_1, .slice A1_2 a1_2.length c1_2, .slice A1_3 a1_3.length c1_3].toArray 26) :: Fr) (fun x452 => G453 (.inl x452) = some r) ?_ (fun J456 => ?_)
  · rintro x452 hrun; have hrun := (hl454 _).symm.trans hrun
    · refine At.run 1 rfl ?_; refine At.nil ?_; refine At.thn ?_; refine At.ret ?_; obtain rfl := (bret hrun).symm; exact At.res (.inl rfl) rfl rfl ⟨rfl, rfl⟩
  · · rcases bite hrun with ⟨h457, hrun⟩ | ⟨h457, hrun⟩
      · · refine At.know (t := 6) rfl (decide_eq_true h457) ?_
          refine At.run 2 rfl ?_; refine At.y (Y.load rfl rfl .z rfl rfl rfl) rfl rfl rfl ?_; refine At.run 2 rfl ?_; exact At.of (J456 (decide (a0 < a1_0)) hrun) ⟨rfl, trivial⟩
      · · refine At.know (t := 6) rfl (decide_eq_false h457) ?_
          refine At.run 5 rfl ?_; exact At.of (J456 false hrun) ⟨rfl, trivial⟩

noncomputable def lts_name_1.f (a0 : Int) : Option Bool :=
  jn (
    if 97 ≤ a0 then
      some (.inl (decide (a0 ≤ 122)))
    else
      some (.inl false)) (fun (x452 : Bool) =>
    jn (
      if x452 = true then
        some (.inl true)
      else
        jn (
          if 65 ≤ a0 then
            some (.inl (decide (a0 ≤ 90)))
          else
            some (.inl false)) (fun (x1481 : Bool) =>
          some (.inl x1481))) (fun (x657 : Bool) =>
      jn (
        if x657 = true then
          some (.inl true)
        else
          jn (
            if 48 ≤ a0 then
              some (.inl (decide (a0 ≤ 57)))
            else
              some (.inl false)) (fun (x1274 : Bool) =>
            some (.inl x1274))) (fun (x862 : Bool) =>
        jn (
          if x862 = true then
            some (.inl true)
          else
            some (.inl (decide (a0 = 95)))) (fun (x1067 : Bool) =>
          some (!x1067)))))
theorem lts_name_1.callee : Callee Go.Proofs.Tryz.prog 50 := ⟨_, Go.Proofs.Tryz.func50, by kernel_rfl, by kernel_rfl⟩
set_option maxRecDepth 100000 in
set_option maxHeartbeats 2000000 in
theorem lts_name_1.spec (R : Res) (Fr : List HProp)  (a0 : Int)  {r : Bool} (hrun : lts_name_1.f a0 = some r) :
    Spec Go.Proofs.Tryz.prog 50 [.int .i32 a0] R (Fr) (fun v l' => v = .bool r ∧ Fr = l') := by
  refine Spec.of Go.Proofs.Tryz.func50 rfl rfl ?_; unfold lts_name_1.f at hrun; have hrun := brun hrun; refine At.seq ?_; refine At.region ?_; refine At.run 1 rfl ?_; refine At.nil ?_; refine At.thn ?_; refine At.seq ?_; refine At.region ?_; refine At.run 3 rfl ?_; obtain ⟨G453, hl454, hr455, hrun⟩ := bjoin hrun; refine At.joinO 3 (X := Bool) (fun x452 => [(0, .int .i32 a0), (8, .bool x452)]) (fun x452 => Fr) (fun x452 => G453 (.inl x452) = some r) ?_ (fun J456 => ?_)
  · rintro x452 hrun; have hrun := (hl454 _).symm.trans hrun
    · refine At.run 1 rfl ?_; obtain ⟨G658, hl659, hr660, hrun⟩ := bjoin hrun; refine At.joinO 7 (X := Bool) (fun x657 => [(0, .int .i32 a0), (16, .bool x657)]) (fun x657 => Fr) (fun x657 => G658 (.inl x657) = some r) ?_ (fun J661 => ?_)
      · rintro x657 hrun; have hrun := (hl659 _).symm.trans hrun
        · refine At.run 1 rfl ?_; obtain ⟨G863, hl864, hr865, hrun⟩ := bjoin hrun; refine At.joinO 7 (X := Bool) (fun x862 => [(0, .int .i32 a0), (24, .bool x862)]) (fun x862 => Fr) (fun x862 => G863 (.inl x862) = some r) ?_ (fun J866 => ?_)
          · rintro x862 hrun; have hrun := (hl864 _).symm.trans hrun
            · refine At.run 1 rfl ?_; obtain ⟨G1068, hl1069, hr1070, hrun⟩ := bjoin hrun; refine At.joinO 3 (X := Bool) (fun x1067 => [(28, .bool x1067)]) (fun x1067 => Fr) (fun x1067 => G1068 (.inl x1067) = some r) ?_ (fun J1071 => ?_)
              · rintro x1067 hrun; have hrun := (hl1069 _).symm.trans hrun
                · refine At.run 2 rfl ?_; refine At.nil ?_; refine At.thn ?_; refine At.ret ?_; obtain rfl := (bret hrun).symm; exact At.res (.inl rfl) rfl rfl ⟨rfl, rfl⟩
              · · rcases bite hrun with ⟨h1072, hrun⟩ | ⟨h1072, hrun⟩
                  · · refine At.know (t := 25) rfl h1072 ?_
                      refine At.run 3 rfl ?_; exact At.of (J1071 true hrun) ⟨rfl, trivial⟩
                  · · refine At.know (t := 25) rfl (bn h1072) ?_
                      refine At.run 3 rfl ?_; exact At.of (J1071 (decide (a0 = 95)) hrun) ⟨rfl, trivial⟩
          · · rcases bite hrun with ⟨h1073, hrun⟩ | ⟨h1073, hrun⟩
              · · refine At.know (t := 17) rfl h1073 ?_
                  refine At.run 7 rfl ?_; exact At.of (J866 true hrun) ⟨rfl, rfl, trivial⟩
              · · refine At.know (t := 17) rfl (bn h1073) ?_
                  refine At.run 3 rfl ?_; obtain ⟨G1275, hl1276, hr1277, hrun⟩ := bjoin hrun; refine At.joinO 3 (X := Bool) (fun x1274 => [(0, .int .i32 a0), (17, .bool false), (23, .bool x1274)]) (fun x1274 => Fr) (fun x1274 => G1275 (.inl x1274) = some r) ?_ (fun J1278 => ?_)
                  · rintro x1274 hrun; have hrun := (hl1276 _).symm.trans hrun
                    · refine At.run 1 rfl ?_; exact At.of (J866 x1274 hrun) ⟨rfl, rfl, trivial⟩
                  · · rcases bite hrun with ⟨h1279, hrun⟩ | ⟨h1279, hrun⟩
                      · · refine At.know (t := 20) rfl (decide_eq_true h1279) ?_
                          refine At.run 3 rfl ?_; exact At.of (J1278 (decide (a0 ≤ 57)) hrun) ⟨rfl, rfl, rfl, trivial⟩
                      · · refine At.know (t := 20) rfl (decide_eq_false h1279) ?_
                          refine At.run 3 rfl ?_; exact At.of (J1278 false hrun) ⟨rfl, rfl, rfl, trivial⟩
      · · rcases bite hrun with ⟨h1280, hrun⟩ | ⟨h1280, hrun⟩
          · · refine At.know (t := 9) rfl h1280 ?_
              refine At.run 7 rfl ?_; exact At.of (J661 true hrun) ⟨rfl, rfl, trivial⟩
          · · refine At.know (t := 9) rfl (bn h1280) ?_
              refine At.run 3 rfl ?_; obtain ⟨G1482, hl1483, hr1484, hrun⟩ := bjoin hrun; refine At.joinO 3 (X := Bool) (fun x1481 => [(0, .int .i32 a0), (9, .bool false), (15, .bool x1481)]) (fun x1481 => Fr) (fun x1481 => G1482 (.inl x1481) = some r) ?_ (fun J1485 => ?_)
              · rintro x1481 hrun; have hrun := (hl1483 _).symm.trans hrun
                · refine At.run 1 rfl ?_; exact At.of (J661 x1481 hrun) ⟨rfl, rfl, trivial⟩
              · · rcases bite hrun with ⟨h1486, hrun⟩ | ⟨h1486, hrun⟩
                  · · refine At.know (t := 12) rfl (decide_eq_true h1486) ?_
                      refine At.run 3 rfl ?_; exact At.of (J1485 (decide (a0 ≤ 90)) hrun) ⟨rfl, rfl, rfl, trivial⟩
                  · · refine At.know (t := 12) rfl (decide_eq_false h1486) ?_
                      refine At.run 3 rfl ?_; exact At.of (J1485 false hrun) ⟨rfl, rfl, rfl, trivial⟩
  · · rcases bite hrun with ⟨h1487, hrun⟩ | ⟨h1487, hrun⟩
      · · refine At.know (t := 5) rfl (decide_eq_true h1487) ?_
          refine At.run 3 rfl ?_; exact At.of (J456 (decide (a0 ≤ 122)) hrun) ⟨rfl, rfl, trivial⟩
      · · refine At.know (t := 5) rfl (decide_eq_false h1487) ?_
          refine At.run 3 rfl ?_; exact At.of (J456 false hrun) ⟨rfl, rfl, trivial⟩

noncomputable def strings_indexFunc.l0b (a0 : Bs) (a2 : Bool) (x856 : Nat) : Option ((Nat) ⊕ ((Nat) ⊕ (Int))) :=
  if x856 < a0.length then
    (lts_name_1.f (runeAt a0 x856)).bind fun t1070 =>
      if (t1070 == a2) = true then
        upL (some (x856 : Int))
      else
        nx (x856 + runeLen a0 x856)
  else
    dn (.inl x856)
noncomputable def strings_indexFunc.l0 (a0 : Bs) (a2 : Bool) (x856 : Nat) : Option ((Nat) ⊕ (Int)) := iter (fun t_ : Nat => strings_indexFunc.l0b a0 a2 t_) x856
noncomputable def strings_indexFunc.f (a0 : Bs) (a2 : Bool) : Option Int :=
  jn (strings_indexFunc.l0 a0 a2 0) (fun (x1057 : Nat) =>
    some (-1))
theorem strings_indexFunc.callee : Callee Go.Proofs.Tryz.prog 87 := ⟨_, Go.Proofs.Tryz.func87, by kernel_rfl, by kernel_rfl⟩
set_option maxRecDepth 100000 in
set_option maxHeartbeats 2000000 in
theorem strings_indexFunc.spec (R : Res) (Fr : List HProp)  (a0 : Bs) (a2 : Bool)  {r : Int} (hrun : strings_indexFunc.f a0 a2 = some r) :
    Spec Go.Proofs.Tryz.prog 87 [.string ⟨(a0).toArray⟩, .func (.func 50) #[] #[], .bool a2] R (Fr) (fun v l' => v = .int .i64 r ∧ Fr = l') := by
  refine Spec.of Go.Proofs.Tryz.func87 rfl rfl ?_; unfold strings_indexFunc.f at hrun; have hrun := brun hrun; refine At.seq ?_; refine At.region ?_; refine At.run 1 rfl ?_; refine At.nil ?_; refine At.thn ?_; refine At.seq ?_; refine At.seq ?_; refine At.region ?_; refine At.run 1 rfl ?_; refine At.rangeStr rfl rfl rfl rfl rfl (fun b254 => ?_); refine At.nil ?_; refine At.thn ?_; refine At.block ?_; obtain ⟨G1058, hl1059, hr1060, hrun⟩ := bjoin hrun; obtain ⟨o1061, hlo1062, ho1063⟩ := bsome hrun; clear hrun; unfold strings_indexFunc.l0 at hlo1062; obtain ⟨m1064, hit1066⟩ := iter_some.1 hlo1062; clear hlo1062; refine At.loopJ (X := Nat) (Y := Nat) (e0 := 0) (fun x856 => [(1, .func (.func 50) #[] #[]), (2, .bool a2), (10, .pointer (some ⟨b254, 0, none⟩))]) (fun x856 => pt b254 (.stringIter ⟨(a0).toArray⟩ x856) :: Fr) (fun m_ => fun x856 => iterN (fun t_ : Nat => strings_indexFunc.l0b a0 a2 t_) m_ x856 = some o1061) m1064 0 hit1066 (fun x1057 => []) (fun x1057 => pt b254 (.stringIter ⟨(a0).toArray⟩ x1057) :: Fr) (fun x1057 => G1058 (.inl x1057) = some r) (fun a w e hs => ⟨e.sub ⟨rfl, rfl, rfl, trivial⟩, (by exact hs)⟩) ?_ (fun J1068 => ?_)
  · rintro x1057 hrun; have hrun := (hl1059 _).symm.trans hrun
    · refine At.ibx ?_; refine At.thn ?_; refine At.seq ?_; refine At.region ?_; refine At.run 1 rfl ?_; refine At.nil ?_; refine At.thn ?_; refine At.ret ?_; refine At.drop .z ?_; obtain rfl := (bret hrun).symm; exact At.res (.inl rfl) rfl rfl ⟨rfl, rfl⟩
  · clear hit1066 m1064; rintro m1064 x856 hit1066; obtain ⟨m1065, f_, hlt1067, hf_, hrun⟩ := bit hit1066; clear hit1066; have hrun : (strings_indexFunc.l0b a0 a2 x856).bind _ = some o1061 := hrun; unfold strings_indexFunc.l0b at hrun
    · refine At.seq ?_; refine At.region ?_; rcases bite hrun with ⟨h1069, hrun⟩ | ⟨h1069, hrun⟩
      · · refine At.nextT rfl rfl .z (of_decide_eq_true (decide_eq_true h1069)) rfl ?_
          refine At.run 1 rfl ?_; refine At.nil ?_; refine At.thn ?_; refine At.seq ?_; refine At.condT rfl rfl ?_; refine At.skip ?_; refine At.thn ?_; refine At.block ?_; refine At.seq ?_; refine At.region ?_; refine At.run 4 rfl ?_; refine At.nil ?_; refine At.thn ?_; refine At.seq ?_; refine At.region ?_; refine At.run 2 rfl ?_; obtain ⟨t1070, hc1071, hrun⟩ := bbind hrun; refine At.call rfl lts_name_1.callee rfl rfl rfl (lts_name_1.spec _ _  (runeAt a0 x856)  hc1071) ?_; rintro _ _ ⟨rfl, rfl⟩; refine At.run 2 rfl ?_; refine At.nil ?_; refine At.thn ?_; rcases bite hrun with ⟨h1072, hrun⟩ | ⟨h1072, hrun⟩
          · · refine At.condT rfl h1072 ?_
              refine At.seq ?_; refine At.region ?_; refine At.run 2 rfl ?_; refine At.nil ?_; refine At.thn ?_; refine At.ret ?_; refine At.ibr ?_; have hrun := bupL hr1060 ho1063 hrun; refine At.thr ?_; refine At.ibr ?_; refine At.thr ?_; refine At.drop .z ?_; obtain rfl := (bret hrun).symm; exact At.res (.inl rfl) rfl rfl ⟨rfl, rfl⟩
          · · refine At.condF rfl (bn h1072) ?_
              refine At.skip ?_; refine At.ibn ?_; have hrun := bnx hf_ hrun; exact fun a w e hs => ⟨m1065, (x856 + runeLen a0 x856), hlt1067, hrun, e.sub ⟨rfl, rfl, rfl, trivial⟩, hs⟩
      · · refine At.nextF rfl rfl .z (of_decide_eq_false (decide_eq_false h1069)) rfl ?_
          refine At.run 1 rfl ?_; refine At.nil ?_; refine At.thn ?_; refine At.seq ?_; refine At.condF rfl rfl ?_; refine At.exit ?_; refine At.the ?_; refine At.the ?_; exact fun a w e hs => J1068 x856 (bdn hrun ho1063) a w (e.sub trivial) hs

noncomputable def strings_IndexFunc.f (a0 : Bs) : Option Int :=
  (strings_indexFunc.f a0 true).bind fun t252 =>
    some t252
theorem strings_IndexFunc.callee : Callee Go.Proofs.Tryz.prog 73 := ⟨_, Go.Proofs.Tryz.func73, by kernel_rfl, by kernel_rfl⟩
set_option maxRecDepth 100000 in
set_option maxHeartbeats 2000000 in
theorem strings_IndexFunc.spec (R : Res) (Fr : List HProp)  (a0 : Bs)  {r : Int} (hrun : strings_IndexFunc.f a0 = some r) :
    Spec Go.Proofs.Tryz.prog 73 [.string ⟨(a0).toArray⟩, .func (.func 50) #[] #[]] R (Fr) (fun v l' => v = .int .i64 r ∧ Fr = l') := by
  refine Spec.of Go.Proofs.Tryz.func73 rfl rfl ?_; unfold strings_IndexFunc.f at hrun; have hrun := brun hrun; refine At.seq ?_; refine At.region ?_; refine At.run 1 rfl ?_; refine At.nil ?_; refine At.thn ?_; refine At.seq ?_; refine At.region ?_; refine At.run 2 rfl ?_; obtain ⟨t252, hc253, hrun⟩ := bbind hrun; refine At.call rfl strings_indexFunc.callee rfl rfl rfl (strings_indexFunc.spec _ _  a0 true  hc253) ?_; rintro _ _ ⟨rfl, rfl⟩; refine At.run 1 rfl ?_; refine At.nil ?_; refine At.thn ?_; refine At.ret ?_; obtain rfl := (bret hrun).symm; exact At.res (.inl rfl) rfl rfl ⟨rfl, rfl⟩

noncomputable def strings_ContainsFunc.f (a0 : Bs) : Option Bool :=
  (strings_IndexFunc.f a0).bind fun t252 =>
    some (decide (0 ≤ t252))
theorem strings_ContainsFunc.callee : Callee Go.Proofs.Tryz.prog 49 := ⟨_, Go.Proofs.Tryz.func49, by kernel_rfl, by kernel_rfl⟩
set_option maxRecDepth 100000 in
set_option maxHeartbeats 2000000 in
theorem strings_ContainsFunc.spec (R : Res) (Fr : List HProp)  (a0 : Bs)  {r : Bool} (hrun : strings_ContainsFunc.f a0 = some r) :
    Spec Go.Proofs.Tryz.prog 49 [.string ⟨(a0).toArray⟩, .func (.func 50) #[] #[]] R (Fr) (fun v l' => v = .bool r ∧ Fr = l') := by
  refine Spec.of Go.Proofs.Tryz.func49 rfl rfl ?_; unfold strings_ContainsFunc.f at hrun; have hrun := brun hrun; refine At.seq ?_; refine At.region ?_; refine At.run 1 rfl ?_; refine At.nil ?_; refine At.thn ?_; refine At.seq ?_; refine At.region ?_; refine At.run 2 rfl ?_; obtain ⟨t252, hc253, hrun⟩ := bbind hrun; refine At.call rfl strings_IndexFunc.callee rfl rfl rfl (strings_IndexFunc.spec _ _  a0  hc253) ?_; rintro _ _ ⟨rfl, rfl⟩; refine At.run 2 rfl ?_; refine At.nil ?_; refine At.thn ?_; refine At.ret ?_; obtain rfl := (bret hrun).symm; exact At.res (.inl rfl) rfl rfl ⟨rfl, rfl⟩

noncomputable def lts_name.f (a0 : Bs) : Option Bool :=
  jn (
    if (a0.length : Int) < 1 then
      some (.inl true)
    else
      some (.inl (decide (8 < (a0.length : Int))))) (fun (x452 : Bool) =>
    jn (
      if x452 = true then
        some (.inl true)
      else
        if (0 : Int) ≤ 0 ∧ 0 < (a0.length : Int) then
          some (.inl (decide (bat a0 0 < 97)))
        else none) (fun (x657 : Bool) =>
      jn (
        if x657 = true then
          some (.inl true)
        else
          if (0 : Int) ≤ 0 ∧ 0 < (a0.length : Int) then
            some (.inl (decide (122 < bat a0 0)))
          else none) (fun (x862 : Bool) =>
        if x862 = true then
          some false
        else
          if bseq a0 ([116, 116] : Bs) = true then
            some false
          else
            if bseq a0 ([102, 102] : Bs) = true then
              some false
            else
              if bseq a0 ([109, 117] : Bs) = true then
                some false
              else
                if bseq a0 ([110, 117] : Bs) = true then
                  some false
                else
                  (strings_ContainsFunc.f a0).bind fun t875 =>
                    some (!t875))))
theorem lts_name.callee : Callee Go.Proofs.Tryz.prog 21 := ⟨_, Go.Proofs.Tryz.func21, by kernel_rfl, by kernel_rfl⟩
set_option maxRecDepth 100000 in
set_option maxHeartbeats 2000000 in
theorem lts_name.spec (R : Res) (Fr : List HProp)  (a0 : Bs)  {r : Bool} (hrun : lts_name.f a0 = some r) :
    Spec Go.Proofs.Tryz.prog 21 [.string ⟨(a0).toArray⟩] R (Fr) (fun v l' => v = .bool r ∧ Fr = l') := by
  refine Spec.of Go.Proofs.Tryz.func21 rfl rfl ?_; unfold lts_name.f at hrun; have hrun := brun hrun; refine At.seq ?_; refine At.region ?_; refine At.run 1 rfl ?_; refine At.nil ?_; refine At.thn ?_; refine At.seq ?_; refine At.seq ?_; refine At.region ?_; refine At.run 4 rfl ?_; obtain ⟨G453, hl454, hr455, hrun⟩ := bjoin hrun; refine At.joinO 4 (X := Bool) (fun x452 => [(0, .string ⟨(a0).toArray⟩), (10, .bool x452)]) (fun x452 => Fr) (fun x452 => G453 (.inl x452) = some r) ?_ (fun J456 => ?_)
  · rintro x452 hrun; have hrun := (hl454 _).symm.trans hrun
    · refine At.run 1 rfl ?_; obtain ⟨G658, hl659, hr660, hrun⟩ := bjoin hrun; refine At.joinO 4 (X := Bool) (fun x657 => [(0, .string ⟨(a0).toArray⟩), (15, .bool x657)]) (fun x657 => Fr) (fun x657 => G658 (.inl x657) = some r) ?_ (fun J661 => ?_)
      · rintro x657 hrun; have hrun := (hl659 _).symm.trans hrun
        · refine At.run 1 rfl ?_; obtain ⟨G863, hl864, hr865, hrun⟩ := bjoin hrun; refine At.joinO 4 (X := Bool) (fun x862 => [(0, .string ⟨(a0).toArray⟩), (20, .bool x862)]) (fun x862 => Fr) (fun x862 => G863 (.inl x862) = some r) ?_ (fun J866 => ?_)
          · rintro x862 hrun; have hrun := (hl864 _).symm.trans hrun
            · refine At.nil ?_; refine At.thn ?_; rcases bite hrun with ⟨h867, hrun⟩ | ⟨h867, hrun⟩
              · · refine At.condT rfl h867 ?_
                  refine At.seq ?_; refine At.region ?_; refine At.run 1 rfl ?_; refine At.nil ?_; refine At.thn ?_; refine At.ret ?_; refine At.thr ?_; obtain rfl := (bret hrun).symm; exact At.res (.inl rfl) rfl rfl ⟨rfl, rfl⟩
              · · refine At.condF rfl (bn h867) ?_
                  refine At.skip ?_; refine At.thn ?_; refine At.seq ?_; refine At.seq ?_; refine At.region ?_; refine At.run 1 rfl ?_; refine At.nil ?_; refine At.thn ?_; refine At.block ?_; refine At.seq ?_; refine At.seq ?_; refine At.region ?_; refine At.run 2 rfl ?_; refine At.nil ?_; refine At.thn ?_; rcases bite hrun with ⟨h868, hrun⟩ | ⟨h868, hrun⟩
                  · · refine At.condT rfl h868 ?_
                      refine At.skip ?_; refine At.thn ?_; refine At.condT rfl h868 ?_; refine At.seq ?_; refine At.region ?_; refine At.run 1 rfl ?_; refine At.nil ?_; refine At.thn ?_; refine At.ret ?_; refine At.ibr ?_; refine At.thr ?_; obtain rfl := (bret hrun).symm; exact At.res (.inl rfl) rfl rfl ⟨rfl, rfl⟩
                  · · refine At.condF rfl (bn h868) ?_
                      refine At.seq ?_; refine At.region ?_; refine At.run 2 rfl ?_; refine At.nil ?_; refine At.thn ?_; rcases bite hrun with ⟨h870, hrun⟩ | ⟨h870, hrun⟩
                      · · refine At.condT rfl h870 ?_
                          refine At.skip ?_; refine At.thn ?_; refine At.condT rfl h870 ?_; refine At.seq ?_; refine At.region ?_; refine At.run 1 rfl ?_; refine At.nil ?_; refine At.thn ?_; refine At.ret ?_; refine At.ibr ?_; refine At.thr ?_; obtain rfl := (bret hrun).symm; exact At.res (.inl rfl) rfl rfl ⟨rfl, rfl⟩
                      · · refine At.condF rfl (bn h870) ?_
                          refine At.seq ?_; refine At.region ?_; refine At.run 2 rfl ?_; refine At.nil ?_; refine At.thn ?_; rcases bite hrun with ⟨h872, hrun⟩ | ⟨h872, hrun⟩
                          · · refine At.condT rfl h872 ?_
                              refine At.skip ?_; refine At.thn ?_; refine At.condT rfl h872 ?_; refine At.seq ?_; refine At.region ?_; refine At.run 1 rfl ?_; refine At.nil ?_; refine At.thn ?_; refine At.ret ?_; refine At.ibr ?_; refine At.thr ?_; obtain rfl := (bret hrun).symm; exact At.res (.inl rfl) rfl rfl ⟨rfl, rfl⟩
                          · · refine At.condF rfl (bn h872) ?_
                              refine At.region ?_; refine At.run 2 rfl ?_; refine At.nil ?_; refine At.thn ?_; rcases bite hrun with ⟨h874, hrun⟩ | ⟨h874, hrun⟩
                              · · refine At.condT rfl h874 ?_
                                  refine At.seq ?_; refine At.region ?_; refine At.run 1 rfl ?_; refine At.nil ?_; refine At.thn ?_; refine At.ret ?_; refine At.ibr ?_; refine At.thr ?_; obtain rfl := (bret hrun).symm; exact At.res (.inl rfl) rfl rfl ⟨rfl, rfl⟩
                              · · refine At.condF rfl (bn h874) ?_
                                  refine At.skip ?_; refine At.ibn ?_; refine At.thn ?_; refine At.seq ?_; refine At.region ?_; refine At.run 1 rfl ?_; obtain ⟨t875, hc876, hrun⟩ := bbind hrun; refine At.call rfl strings_ContainsFunc.callee rfl rfl rfl (strings_ContainsFunc.spec _ _  a0  hc876) ?_; rintro _ _ ⟨rfl, rfl⟩; refine At.run 2 rfl ?_; refine At.nil ?_; refine At.thn ?_; refine At.ret ?_; obtain rfl := (bret hrun).symm; exact At.res (.inl rfl) rfl rfl ⟨rfl, rfl⟩
          · · rcases bite hrun with ⟨h877, hrun⟩ | ⟨h877, hrun⟩
              · · refine At.know (t := 16) rfl h877 ?_
                  refine At.run 4 rfl ?_; exact At.of (J866 true hrun) ⟨rfl, rfl, trivial⟩
              · · refine At.know (t := 16) rfl (bn h877) ?_
                  refine At.run 1 rfl ?_; obtain ⟨h878, hrun⟩ := bnone hrun; refine At.y (Y.ixStr rfl rfl rfl rfl h878.1 h878.2) rfl rfl rfl ?_; refine At.run 2 rfl ?_; exact At.of (J866 (decide (122 < bat a0 0)) hrun) ⟨rfl, rfl, trivial⟩
      · · rcases bite hrun with ⟨h879, hrun⟩ | ⟨h879, hrun⟩
          · · refine At.know (t := 11) rfl h879 ?_
              refine At.run 4 rfl ?_; exact At.of (J661 true hrun) ⟨rfl, rfl, trivial⟩
          · · refine At.know (t := 11) rfl (bn h879) ?_
              refine At.run 1 rfl ?_; obtain ⟨h880, hrun⟩ := bnone hrun; refine At.y (Y.ixStr rfl rfl rfl rfl h880.1 h880.2) rfl rfl rfl ?_; refine At.run 2 rfl ?_; exact At.of (J661 (decide (bat a0 0 < 97)) hrun) ⟨rfl, rfl, trivial⟩
  · · rcases bite hrun with ⟨h881, hrun⟩ | ⟨h881, hrun⟩
      · · refine At.know (t := 6) rfl (decide_eq_true h881) ?_
          refine At.run 4 rfl ?_; exact At.of (J456 true hrun) ⟨rfl, rfl, trivial⟩
      · · refine At.know (t := 6) rfl (decide_eq_false h881) ?_
          refine At.run 4 rfl ?_; exact At.of (J456 (decide (8 < (a0.length : Int))) hrun) ⟨rfl, rfl, trivial⟩

noncomputable def cmp_isNaN_int.f (a0 : Int) : Option Bool :=
  some (!(decide (a0 = a0)))
theorem cmp_isNaN_int.callee : Callee Go.Proofs.Tryz.prog 51 := ⟨_, Go.Proofs.Tryz.func51, by kernel_rfl, by kernel_rfl⟩
set_option maxRecDepth 100000 in
set_option maxHeartbeats 2000000 in
theorem cmp_isNaN_int.spec (R : Res) (Fr : List HProp)  (a0 : Int)  {r : Bool} (hrun : cmp_isNaN_int.f a0 = some r) :
    Spec Go.Proofs.Tryz.prog 51 [.int .i64 a0] R (Fr) (fun v l' => v = .bool r ∧ Fr = l') := by
  refine Spec.of Go.Proofs.Tryz.func51 rfl rfl ?_; unfold cmp_isNaN_int.f at hrun; have hrun := brun hrun; refine At.seq ?_; refine At.region ?_; refine At.run 1 rfl ?_; refine At.nil ?_; refine At.thn ?_; refine At.seq ?_; refine At.region ?_; refine At.run 4 rfl ?_; refine At.nil ?_; refine At.thn ?_; refine At.ret ?_; obtain rfl := (bret hrun).symm; exact At.res (.inl rfl) rfl rfl ⟨rfl, rfl⟩

noncomputable def cmp_Compare_int.f (a0 : Int) (a1 : Int) : Option Int :=
  (cmp_isNaN_int.f a0).bind fun t252 =>
    (cmp_isNaN_int.f a1).bind fun t254 =>
      if t252 = true then
        if t254 = true then
          some 0
        else
          some (-1)
      else
        if t254 = true then
          some 1
        else
          if a0 < a1 then
            some (-1)
          else
            if a1 < a0 then
              some 1
            else
              some 0
theorem cmp_Compare_int.callee : Callee Go.Proofs.Tryz.prog 23 := ⟨_, Go.Proofs.Tryz.func23, by kernel_rfl, by kernel_rfl⟩
set_option maxRecDepth 100000 in
set_option maxHeartbeats 2000000 in
theorem cmp_Compare_int.spec (R : Res) (Fr : List HProp)  (a0 : Int) (a1 : Int)  {r : Int} (hrun : cmp_Compare_int.f a0 a1 = some r) :
    Spec Go.Proofs.Tryz.prog 23 [.int .i64 a0, .int .i64 a1] R (Fr) (fun v l' => v = .int .i64 r ∧ Fr = l') := by
  refine Spec.of Go.Proofs.Tryz.func23 rfl rfl ?_; unfold cmp_Compare_int.f at hrun; have hrun := brun hrun; refine At.seq ?_; refine At.region ?_; refine At.run 1 rfl ?_; refine At.nil ?_; refine At.thn ?_; refine At.seq ?_; refine At.region ?_; refine At.run 1 rfl ?_; obtain ⟨t252, hc253, hrun⟩ := bbind hrun; refine At.call rfl cmp_isNaN_int.callee rfl rfl rfl (cmp_isNaN_int.spec _ _  a0  hc253) ?_; rintro _ _ ⟨rfl, rfl⟩; refine At.run 1 rfl ?_; refine At.nil ?_; refine At.thn ?_; refine At.seq ?_; refine At.region ?_; refine At.run 1 rfl ?_; obtain ⟨t254, hc255, hrun⟩ := bbind hrun; refine At.call rfl cmp_isNaN_int.callee rfl rfl rfl (cmp_isNaN_int.spec _ _  a1  hc255) ?_; rintro _ _ ⟨rfl, rfl⟩; refine At.run 1 rfl ?_; refine At.nil ?_; refine At.thn ?_; refine At.seq ?_; refine At.seq ?_; refine At.region ?_; refine At.run 1 rfl ?_; refine At.nil ?_; refine At.thn ?_; rcases bite hrun with ⟨h256, hrun⟩ | ⟨h256, hrun⟩
  · · refine At.condT rfl h256 ?_
      refine At.seq ?_; refine At.seq ?_; refine At.region ?_; refine At.run 1 rfl ?_; refine At.nil ?_; refine At.thn ?_; rcases bite hrun with ⟨h257, hrun⟩ | ⟨h257, hrun⟩
      · · refine At.condT rfl h257 ?_
          refine At.seq ?_; refine At.region ?_; refine At.run 1 rfl ?_; refine At.nil ?_; refine At.thn ?_; refine At.ret ?_; refine At.thr ?_; refine At.thr ?_; obtain rfl := (bret hrun).symm; exact At.res (.inl rfl) rfl rfl ⟨rfl, rfl⟩
      · · refine At.condF rfl (bn h257) ?_
          refine At.skip ?_; refine At.thn ?_; refine At.seq ?_; refine At.region ?_; refine At.run 1 rfl ?_; refine At.nil ?_; refine At.thn ?_; refine At.ret ?_; refine At.thr ?_; obtain rfl := (bret hrun).symm; exact At.res (.inl rfl) rfl rfl ⟨rfl, rfl⟩
  · · refine At.condF rfl (bn h256) ?_
      refine At.skip ?_; refine At.thn ?_; refine At.seq ?_; refine At.seq ?_; refine At.region ?_; refine At.run 1 rfl ?_; refine At.nil ?_; refine At.thn ?_; rcases bite hrun with ⟨h258, hrun⟩ | ⟨h258, hrun⟩
      · · refine At.condT rfl h258 ?_
          refine At.seq ?_; refine At.region ?_; refine At.run 1 rfl ?_; refine At.nil ?_; refine At.thn ?_; refine At.ret ?_; refine At.thr ?_; obtain rfl := (bret hrun).symm; exact At.res (.inl rfl) rfl rfl ⟨rfl, rfl⟩
      · · refine At.condF rfl (bn h258) ?_
          refine At.skip ?_; refine At.thn ?_; refine At.seq ?_; refine At.seq ?_; refine At.region ?_; refine At.run 3 rfl ?_; refine At.nil ?_; refine At.thn ?_; rcases bite hrun with ⟨h259, hrun⟩ | ⟨h259, hrun⟩
          · · refine At.condT rfl (decide_eq_true h259) ?_
              refine At.seq ?_; refine At.region ?_; refine At.run 1 rfl ?_; refine At.nil ?_; refine At.thn ?_; refine At.ret ?_; refine At.thr ?_; obtain rfl := (bret hrun).symm; exact At.res (.inl rfl) rfl rfl ⟨rfl, rfl⟩
          · · refine At.condF rfl (decide_eq_false h259) ?_
              refine At.skip ?_; refine At.thn ?_; refine At.seq ?_; refine At.seq ?_; refine At.region ?_; refine At.run 3 rfl ?_; refine At.nil ?_; refine At.thn ?_; rcases bite hrun with ⟨h260, hrun⟩ | ⟨h260, hrun⟩
              · · refine At.condT rfl (decide_eq_true h260) ?_
                  refine At.seq ?_; refine At.region ?_; refine At.run 1 rfl ?_; refine At.nil ?_; refine At.thn ?_; refine At.ret ?_; refine At.thr ?_; obtain rfl := (bret hrun).symm; exact At.res (.inl rfl) rfl rfl ⟨rfl, rfl⟩
              · · refine At.condF rfl (decide_eq_false h260) ?_
                  refine At.skip ?_; refine At.thn ?_; refine At.seq ?_; refine At.region ?_; refine At.run 1 rfl ?_; refine At.nil ?_; refine At.thn ?_; refine At.ret ?_; obtain rfl := (bret hrun).symm; exact At.res (.inl rfl) rfl rfl ⟨rfl, rfl⟩

noncomputable def lts_rises_int.l0b (a0 : List Int) (x853 : Int) : Option ((Int) ⊕ ((Unit) ⊕ (Bool))) :=
  if x853 < (a0.length : Int) then
    if (0 : Int) ≤ IntKind.i64.wrap (x853 - 1) ∧ IntKind.i64.wrap (x853 - 1) < (a0.length : Int) then
      if (0 : Int) ≤ x853 ∧ x853 < (a0.length : Int) then
        (cmp_Compare_int.f (gt a0 (IntKind.i64.wrap (x853 - 1))) (gt a0 x853)).bind fun t1068 =>
          if 0 ≤ t1068 then
            upL (some false)
          else
            nx (IntKind.i64.wrap (x853 + 1))
      else none
    else none
  else
    dn (.inl ())
noncomputable def lts_rises_int.l0 (a0 : List Int) (x853 : Int) : Option ((Unit) ⊕ (Bool)) := iter (fun t_ : Int => lts_rises_int.l0b a0 t_) x853
noncomputable def lts_rises_int.f (a0 : List Int) : Option Bool :=
  jn (lts_rises_int.l0 a0 1) (fun (_ : Unit) =>
    some true)
theorem lts_rises_int.callee : Callee Go.Proofs.Tryz.prog 22 := ⟨_, Go.Proofs.Tryz.func22, by kernel_rfl, by kernel_rfl⟩
set_option maxRecDepth 100000 in
set_option maxHeartbeats 2000000 in
theorem lts_rises_int.spec (R : Res) (Fr : List HProp) (A0 : Option Addr) (n0 : Nat) (c0 : Nat) (a0 : List Int) (hr0 : RdS (Fl.int .i64).rep R.heap A0 a0) (hn0 : a0.length = n0) (hc0 : n0 ≤ c0) {r : Bool} (hrun : lts_rises_int.f a0 = some r) :
    Spec Go.Proofs.Tryz.prog 22 [.slice A0 n0 c0, .func (.func 23) #[] #[]] R (Fr) (fun v l' => v = .bool r ∧ Fr = l') := by
  subst hn0; refine Spec.of Go.Proofs.Tryz.func22 rfl rfl ?_; unfold lts_rises_int.f at hrun; have hrun := brun hrun; refine At.seq ?_; refine At.region ?_; refine At.run 1 rfl ?_; refine At.nil ?_; refine At.thn ?_; refine At.seq ?_; refine At.seq ?_; refine At.region ?_; refine At.run 1 rfl ?_; refine At.nil ?_; refine At.thn ?_; refine At.block ?_; obtain ⟨G1054, hl1055, hr1056, hrun⟩ := bjoin hrun; obtain ⟨o1057, hlo1058, ho1059⟩ := bsome hrun; clear hrun; unfold lts_rises_int.l0 at hlo1058; obtain ⟨m1060, hit1062⟩ := iter_some.1 hlo1058; clear hlo1058; refine At.loopJ (X := Int) (Y := Unit) (e0 := 0) (fun x853 => [(0, .slice A0 a0.length c0), (1, .func (.func 23) #[] #[]), (5, .int .i64 x853)]) (fun x853 => Fr) (fun m_ => fun x853 => iterN (fun t_ : Int => lts_rises_int.l0b a0 t_) m_ x853 = some o1057) m1060 1 hit1062 (fun _ => []) (fun _ => Fr) (fun _ => G1054 (.inl ()) = some r) (fun a w e hs => ⟨e.sub ⟨rfl, rfl, rfl, trivial⟩, (by exact hs)⟩) ?_ (fun J1064 => ?_)
  · rintro _ hrun; have hrun := (hl1055 _).symm.trans hrun
    · refine At.ibx ?_; refine At.thn ?_; refine At.seq ?_; refine At.region ?_; refine At.run 1 rfl ?_; refine At.nil ?_; refine At.thn ?_; refine At.ret ?_; obtain rfl := (bret hrun).symm; exact At.res (.inl rfl) rfl rfl ⟨rfl, rfl⟩
  · clear hit1062 m1060; rintro m1060 x853 hit1062; obtain ⟨m1061, f_, hlt1063, hf_, hrun⟩ := bit hit1062; clear hit1062; have hrun : (lts_rises_int.l0b a0 x853).bind _ = some o1057 := hrun; unfold lts_rises_int.l0b at hrun
    · refine At.seq ?_; refine At.seq ?_; refine At.region ?_; refine At.run 4 rfl ?_; refine At.nil ?_; refine At.thn ?_; rcases bite hrun with ⟨h1065, hrun⟩ | ⟨h1065, hrun⟩
      · · refine At.condT rfl (decide_eq_true h1065) ?_
          refine At.skip ?_; refine At.thn ?_; refine At.seq ?_; refine At.block ?_; refine At.seq ?_; refine At.quiet (by kernel_rfl) ?_; refine At.Quiet.run 4 rfl ?_; obtain ⟨h1066, hrun⟩ := bnone hrun; refine At.Quiet.y (Y.ixRd hr0 rfl rfl rfl rfl rfl rfl rfl h1066.1 h1066.2) rfl rfl rfl ?_; refine At.Quiet.y (Y.ldFl hr0 rfl (q := 0) rfl rfl h1066.1 h1066.2 rfl rfl rfl) rfl rfl rfl ?_; refine At.Quiet.run 2 rfl ?_; obtain ⟨h1067, hrun⟩ := bnone hrun; refine At.Quiet.y (Y.ixRd hr0 rfl rfl rfl rfl rfl rfl rfl h1067.1 h1067.2) rfl rfl rfl ?_; refine At.Quiet.y (Y.ldFl hr0 rfl (q := 0) rfl rfl h1067.1 h1067.2 rfl rfl rfl) rfl rfl rfl ?_; obtain ⟨t1068, hc1069, hrun⟩ := bbind hrun; refine At.Quiet.call rfl cmp_Compare_int.callee rfl rfl rfl (cmp_Compare_int.spec _ _  (gt a0 (IntKind.i64.wrap (x853 - 1))) (gt a0 x853)  hc1069) (fun _ _ h_ => ⟨h_.1, fun _ hs => h_.2 ▸ hs⟩) ?_; refine At.Quiet.run 1 rfl ?_; refine At.Quiet.nil ?_; refine At.thn ?_; rcases bite hrun with ⟨h1070, hrun⟩ | ⟨h1070, hrun⟩
          · · refine At.condT rfl (decide_eq_true h1070) ?_
              refine At.seq ?_; refine At.region ?_; refine At.run 1 rfl ?_; refine At.nil ?_; refine At.thn ?_; refine At.ret ?_; refine At.ibr ?_; refine At.thr ?_; have hrun := bupL hr1056 ho1059 hrun; refine At.thr ?_; refine At.ibr ?_; refine At.thr ?_; obtain rfl := (bret hrun).symm; exact At.res (.inl rfl) rfl rfl ⟨rfl, rfl⟩
          · · refine At.condF rfl (decide_eq_false h1070) ?_
              refine At.skip ?_; refine At.ibn ?_; refine At.thn ?_; refine At.region ?_; refine At.run 3 rfl ?_; refine At.nil ?_; have hrun := bnx hf_ hrun; exact fun a w e hs => ⟨m1061, (IntKind.i64.wrap (x853 + 1)), hlt1063, hrun, e.sub ⟨rfl, rfl, rfl, trivial⟩, hs⟩
      · · refine At.condF rfl (decide_eq_false h1065) ?_
          refine At.exit ?_; refine At.the ?_; refine At.the ?_; exact fun a w e hs => J1064 () (bdn hrun ho1059) a w (e.sub trivial) hs

noncomputable def lts_Right_2.f (a0 : Int) (a1_0_c0_0 : Int) (a1_0_c0_1 : List Bs) (a1_0_c0_2 : List api_Edge) (a1_0_c0_3 : List api_Prop) : Option Bool :=
  (lts_Right_1.f a0 a1_0_c0_0 a1_0_c0_1 a1_0_c0_2 a1_0_c0_3).bind fun t252 =>
    some (!t252)
theorem lts_Right_2.callee : Callee Go.Proofs.Tryz.prog 25 := ⟨_, Go.Proofs.Tryz.func25, by kernel_rfl, by kernel_rfl⟩
set_option maxRecDepth 100000 in
set_option maxHeartbeats 2000000 in
theorem lts_Right_2.spec (R : Res) (Fr : List HProp) (b1 : Nat) (b1_0_c0 : Nat) (A1_0_c0_1 : Option Addr) (n1_0_c0_1 : Nat) (c1_0_c0_1 : Nat) (A1_0_c0_2 : Option Addr) (n1_0_c0_2 : Nat) (c1_0_c0_2 : Nat) (A1_0_c0_3 : Option Addr) (n1_0_c0_3 : Nat) (c1_0_c0_3 : Nat) (a0 : Int) (a1_0_c0_0 : Int) (a1_0_c0_1 : List Bs) (a1_0_c0_2 : List api_Edge) (a1_0_c0_3 : List api_Prop) (hr1_0_c0_1 : RdS Fl.bs.rep R.heap A1_0_c0_1 a1_0_c0_1) (hn1_0_c0_1 : a1_0_c0_1.length = n1_0_c0_1) (hc1_0_c0_1 : n1_0_c0_1 ≤ c1_0_c0_1) (hr1_0_c0_2 : RdS api_Edge.fl.rep R.heap A1_0_c0_2 a1_0_c0_2) (hn1_0_c0_2 : a1_0_c0_2.length = n1_0_c0_2) (hc1_0_c0_2 : n1_0_c0_2 ≤ c1_0_c0_2) (hr1_0_c0_3 : RdS api_Prop.rep R.heap A1_0_c0_3 a1_0_c0_3) (hn1_0_c0_3 : a1_0_c0_3.length = n1_0_c0_3) (hc1_0_c0_3 : n1_0_c0_3 ≤ c1_0_c0_3) {r : Bool} (hrun : lts_Right_2.f a0 a1_0_c0_0 a1_0_c0_1 a1_0_c0_2 a1_0_c0_3 = some r) :
    Spec Go.Proofs.Tryz.prog 25 [.int .i64 a0, .pointer (some ⟨b1, 0, none⟩)] R (pt b1 (.cells [.func (.func 20) #[] #[.pointer (some ⟨b1_0_c0, 0, none⟩)]].toArray 58) :: pt b1_0_c0 (.cells [.int .i64 a1_0_c0_0, .slice A1_0_c0_1 n1_0_c0_1 c1_0_c0_1, .slice A1_0_c0_2 n1_0_c0_2 c1_0_c0_2, .slice A1_0_c0_3 n1_0_c0_3 c1_0_c0_3].toArray 26) :: Fr) (fun v l' => v = .bool r ∧ pt b1 (.cells [.func (.func 20) #[] #[.pointer (some ⟨b1_0_c0, 0, none⟩)]].toArray 58) :: pt b1_0_c0 (.cells [.int .i64 a1_0_c0_0, .slice A1_0_c0_1 n1_0_c0_1 c1_0_c0_1, .slice A1_0_c0_2 n1_0_c0_2 c1_0_c0_2, .slice A1_0_c0_3 n1_0_c0_3 c1_0_c0_3].toArray 26) :: Fr = l') := by
  subst hn1_0_c0_1; subst hn1_0_c0_2; subst hn1_0_c0_3; refine Spec.of Go.Proofs.Tryz.func25 rfl rfl ?_; unfold lts_Right_2.f at hrun; have hrun := brun hrun; refine At.seq ?_; refine At.region ?_; refine At.run 1 rfl ?_; refine At.nil ?_; refine At.thn ?_; refine At.seq ?_; refine At.region ?_; refine At.y (Y.load rfl rfl .z rfl rfl rfl) rfl rfl rfl ?_; refine At.run 1 rfl ?_; refine At.frt (.s .z) ?_; obtain ⟨t252, hc253, hrun⟩ := bbind hrun; refine At.call rfl lts_Right_1.callee rfl rfl rfl (lts_Right_1.spec _ _ b1_0_c0 A1_0_c0_1 a1_0_c0_1.length c1_0_c0_1 A1_0_c0_2 a1_0_c0_2.length c1_0_c0_2 A1_0_c0_3 a1_0_c0_3.length c1_0_c0_3 a0 a1_0_c0_0 a1_0_c0_1 a1_0_c0_2 a1_0_c0_3 hr1_0_c0_1 rfl hc1_0_c0_1 hr1_0_c0_2 rfl hc1_0_c0_2 hr1_0_c0_3 rfl hc1_0_c0_3 hc253) ?_; rintro _ _ ⟨rfl, rfl⟩; refine At.run 2 rfl ?_; refine At.nil ?_; refine At.thn ?_; refine At.ret ?_; refine At.frt (.s .z) ?_; obtain rfl := (bret hrun).symm; exact At.res (.inl rfl) rfl rfl ⟨rfl, rfl⟩

noncomputable def slices_IndexFunc_int_int.l0b (a0 : List Int) (a1_c0_0_c0_0 : Int) (a1_c0_0_c0_1 : List Bs) (a1_c0_0_c0_2 : List api_Edge) (a1_c0_0_c0_3 : List api_Prop) (x853 : Int) : Option ((Int) ⊕ ((Unit) ⊕ (Int))) :=
  if x853 < (a0.length : Int) then
    if (0 : Int) ≤ x853 ∧ x853 < (a0.length : Int) then
      (lts_Right_2.f (gt a0 x853) a1_c0_0_c0_0 a1_c0_0_c0_1 a1_c0_0_c0_2 a1_c0_0_c0_3).bind fun t1067 =>
        if t1067 = true then
          upL (some x853)
        else
          nx (IntKind.i64.wrap (x853 + 1))
    else none
  else
    dn (.inl ())
noncomputable def slices_IndexFunc_int_int.l0 (a0 : List Int) (a1_c0_0_c0_0 : Int) (a1_c0_0_c0_1 : List Bs) (a1_c0_0_c0_2 : List api_Edge) (a1_c0_0_c0_3 : List api_Prop) (x853 : Int) : Option ((Unit) ⊕ (Int)) := iter (fun t_ : Int => slices_IndexFunc_int_int.l0b a0 a1_c0_0_c0_0 a1_c0_0_c0_1 a1_c0_0_c0_2 a1_c0_0_c0_3 t_) x853
noncomputable def slices_IndexFunc_int_int.f (a0 : List Int) (a1_c0_0_c0_0 : Int) (a1_c0_0_c0_1 : List Bs) (a1_c0_0_c0_2 : List api_Edge) (a1_c0_0_c0_3 : List api_Prop) : Option Int :=
  jn (slices_IndexFunc_int_int.l0 a0 a1_c0_0_c0_0 a1_c0_0_c0_1 a1_c0_0_c0_2 a1_c0_0_c0_3 0) (fun (_ : Unit) =>
    some (-1))
theorem slices_IndexFunc_int_int.callee : Callee Go.Proofs.Tryz.prog 52 := ⟨_, Go.Proofs.Tryz.func52, by kernel_rfl, by kernel_rfl⟩
set_option maxRecDepth 100000 in
set_option maxHeartbeats 2000000 in
theorem slices_IndexFunc_int_int.spec (R : Res) (Fr : List HProp) (A0 : Option Addr) (n0 : Nat) (c0 : Nat) (b1_c0 : Nat) (b1_c0_0_c0 : Nat) (A1_c0_0_c0_1 : Option Addr) (n1_c0_0_c0_1 : Nat) (c1_c0_0_c0_1 : Nat) (A1_c0_0_c0_2 : Option Addr) (n1_c0_0_c0_2 : Nat) (c1_c0_0_c0_2 : Nat) (A1_c0_0_c0_3 : Option Addr) (n1_c0_0_c0_3 : Nat) (c1_c0_0_c0_3 : Nat) (a0 : List Int) (a1_c0_0_c0_0 : Int) (a1_c0_0_c0_1 : List Bs) (a1_c0_0_c0_2 : List api_Edge) (a1_c0_0_c0_3 : List api_Prop) (hr0 : RdS (Fl.int .i64).rep R.heap A0 a0) (hn0 : a0.length = n0) (hc0 : n0 ≤ c0) (hr1_c0_0_c0_1 : RdS Fl.bs.rep R.heap A1_c0_0_c0_1 a1_c0_0_c0_1) (hn1_c0_0_c0_1 : a1_c0_0_c0_1.length = n1_c0_0_c0_1) (hc1_c0_0_c0_1 : n1_c0_0_c0_1 ≤ c1_c0_0_c0_1) (hr1_c0_0_c0_2 : RdS api_Edge.fl.rep R.heap A1_c0_0_c0_2 a1_c0_0_c0_2) (hn1_c0_0_c0_2 : a1_c0_0_c0_2.length = n1_c0_0_c0_2) (hc1_c0_0_c0_2 : n1_c0_0_c0_2 ≤ c1_c0_0_c0_2) (hr1_c0_0_c0_3 : RdS api_Prop.rep R.heap A1_c0_0_c0_3 a1_c0_0_c0_3) (hn1_c0_0_c0_3 : a1_c0_0_c0_3.length = n1_c0_0_c0_3) (hc1_c0_0_c0_3 : n1_c0_0_c0_3 ≤ c1_c0_0_c0_3) {r : Int} (hrun : slices_IndexFunc_int_int.f a0 a1_c0_0_c0_0 a1_c0_0_c0_1 a1_c0_0_c0_2 a1_c0_0_c0_3 = some r) :
    Spec Go.Proofs.Tryz.prog 52 [.slice A0 n0 c0, .func (.func 25) #[] #[.pointer (some ⟨b1_c0, 0, none⟩)]] R (pt b1_c0 (.cells [.func (.func 20) #[] #[.pointer (some ⟨b1_c0_0_c0, 0, none⟩)]].toArray 58) :: pt b1_c0_0_c0 (.cells [.int .i64 a1_c0_0_c0_0, .slice A1_c0_0_c0_1 n1_c0_0_c0_1 c1_c0_0_c0_1, .slice A1_c0_0_c0_2 n1_c0_0_c0_2 c1_c0_0_c0_2, .slice A1_c0_0_c0_3 n1_c0_0_c0_3 c1_c0_0_c0_3].toArray 26) :: Fr) (fun v l' => v = .int .i64 r ∧ pt b1_c0 (.cells [.func (.func 20) #[] #[.pointer (some ⟨b1_c0_0_c0, 0, none⟩)]].toArray 58) :: pt b1_c0_0_c0 (.cells [.int .i64 a1_c0_0_c0_0, .slice A1_c0_0_c0_1 n1_c0_0_c0_1 c1_c0_0_c0_1, .slice A1_c0_0_c0_2 n1_c0_0_c0_2 c1_c0_0_c0_2, .slice A1_c0_0_c0_3 n1_c0_0_c0_3 c1_c0_0_c0_3].toArray 26) :: Fr = l') := by
  subst hn0; subst hn1_c0_0_c0_1; subst hn1_c0_0_c0_2; subst hn1_c0_0_c0_3; refine Spec.of Go.Proofs.Tryz.func52 rfl rfl ?_; unfold slices_IndexFunc_int_int.f at hrun; have hrun := brun hrun; refine At.seq ?_; refine At.region ?_; refine At.run 1 rfl ?_; refine At.nil ?_; refine At.thn ?_; refine At.seq ?_; refine At.seq ?_; refine At.region ?_; refine At.run 3 rfl ?_; refine At.nil ?_; refine At.thn ?_; refine At.block ?_; obtain ⟨G1054, hl1055, hr1056, hrun⟩ := bjoin hrun; obtain ⟨o1057, hlo1058, ho1059⟩ := bsome hrun; clear hrun; unfold slices_IndexFunc_int_int.l0 at hlo1058; obtain ⟨m1060, hit1062⟩ := iter_some.1 hlo1058; clear hlo1058; refine At.loopJ (X := Int) (Y := Unit) (e0 := 0) (fun x853 => [(0, .slice A0 a0.length c0), (1, .func (.func 25) #[] #[.pointer (some ⟨b1_c0, 0, none⟩)]), (7, .int .i64 (a0.length : Int)), (8, .int .i64 x853)]) (fun x853 => pt b1_c0 (.cells [.func (.func 20) #[] #[.pointer (some ⟨b1_c0_0_c0, 0, none⟩)]].toArray 58) :: pt b1_c0_0_c0 (.cells [.int .i64 a1_c0_0_c0_0, .slice A1_c0_0_c0_1 a1_c0_0_c0_1.length c1_c0_0_c0_1, .slice A1_c0_0_c0_2 a1_c0_0_c0_2.length c1_c0_0_c0_2, .slice A1_c0_0_c0_3 a1_c0_0_c0_3.length c1_c0_0_c0_3].toArray 26) :: Fr) (fun m_ => fun x853 => iterN (fun t_ : Int => slices_IndexFunc_int_int.l0b a0 a1_c0_0_c0_0 a1_c0_0_c0_1 a1_c0_0_c0_2 a1_c0_0_c0_3 t_) m_ x853 = some o1057) m1060 0 hit1062 (fun _ => []) (fun _ => pt b1_c0 (.cells [.func (.func 20) #[] #[.pointer (some ⟨b1_c0_0_c0, 0, none⟩)]].toArray 58) :: pt b1_c0_0_c0 (.cells [.int .i64 a1_c0_0_c0_0, .slice A1_c0_0_c0_1 a1_c0_0_c0_1.length c1_c0_0_c0_1, .slice A1_c0_0_c0_2 a1_c0_0_c0_2.length c1_c0_0_c0_2, .slice A1_c0_0_c0_3 a1_c0_0_c0_3.length c1_c0_0_c0_3].toArray 26) :: Fr) (fun _ => G1054 (.inl ()) = some r) (fun a w e hs => ⟨e.sub ⟨rfl, rfl, rfl, rfl, trivial⟩, (by exact hs)⟩) ?_ (fun J1064 => ?_)
  · rintro _ hrun; have hrun := (hl1055 _).symm.trans hrun
    · refine At.ibx ?_; refine At.thn ?_; refine At.seq ?_; refine At.region ?_; refine At.run 1 rfl ?_; refine At.nil ?_; refine At.thn ?_; refine At.ret ?_; obtain rfl := (bret hrun).symm; exact At.res (.inl rfl) rfl rfl ⟨rfl, rfl⟩
  · clear hit1062 m1060; rintro m1060 x853 hit1062; obtain ⟨m1061, f_, hlt1063, hf_, hrun⟩ := bit hit1062; clear hit1062; have hrun : (slices_IndexFunc_int_int.l0b a0 a1_c0_0_c0_0 a1_c0_0_c0_1 a1_c0_0_c0_2 a1_c0_0_c0_3 x853).bind _ = some o1057 := hrun; unfold slices_IndexFunc_int_int.l0b at hrun
    · refine At.seq ?_; refine At.region ?_; refine At.run 1 rfl ?_; refine At.nil ?_; refine At.thn ?_; refine At.seq ?_; rcases bite hrun with ⟨h1065, hrun⟩ | ⟨h1065, hrun⟩
      · · refine At.condT rfl (decide_eq_true h1065) ?_
          refine At.skip ?_; refine At.thn ?_; refine At.seq ?_; refine At.block ?_; refine At.seq ?_; refine At.region ?_; refine At.run 2 rfl ?_; refine At.nil ?_; refine At.thn ?_; refine At.seq ?_; refine At.region ?_; refine At.run 3 rfl ?_; obtain ⟨h1066, hrun⟩ := bnone hrun; refine At.y (Y.ixRd hr0 rfl rfl rfl rfl rfl rfl rfl h1066.1 h1066.2) rfl rfl rfl ?_; refine At.y (Y.ldFl hr0 rfl (q := 0) rfl rfl h1066.1 h1066.2 rfl rfl rfl) rfl rfl rfl ?_; obtain ⟨t1067, hc1068, hrun⟩ := bbind hrun; refine At.call rfl lts_Right_2.callee rfl rfl rfl (lts_Right_2.spec _ _ b1_c0 b1_c0_0_c0 A1_c0_0_c0_1 a1_c0_0_c0_1.length c1_c0_0_c0_1 A1_c0_0_c0_2 a1_c0_0_c0_2.length c1_c0_0_c0_2 A1_c0_0_c0_3 a1_c0_0_c0_3.length c1_c0_0_c0_3 (gt a0 x853) a1_c0_0_c0_0 a1_c0_0_c0_1 a1_c0_0_c0_2 a1_c0_0_c0_3 hr1_c0_0_c0_1 rfl hc1_c0_0_c0_1 hr1_c0_0_c0_2 rfl hc1_c0_0_c0_2 hr1_c0_0_c0_3 rfl hc1_c0_0_c0_3 hc1068) ?_; rintro _ _ ⟨rfl, rfl⟩; refine At.nil ?_; refine At.thn ?_; rcases bite hrun with ⟨h1069, hrun⟩ | ⟨h1069, hrun⟩
          · · refine At.condT rfl h1069 ?_
              refine At.seq ?_; refine At.region ?_; refine At.run 2 rfl ?_; refine At.nil ?_; refine At.thn ?_; refine At.ret ?_; refine At.ibr ?_; refine At.thr ?_; have hrun := bupL hr1056 ho1059 hrun; refine At.thr ?_; refine At.ibr ?_; refine At.thr ?_; obtain rfl := (bret hrun).symm; exact At.res (.inl rfl) rfl rfl ⟨rfl, rfl⟩
          · · refine At.condF rfl (bn h1069) ?_
              refine At.skip ?_; refine At.ibn ?_; refine At.thn ?_; refine At.region ?_; refine At.run 2 rfl ?_; refine At.nil ?_; have hrun := bnx hf_ hrun; exact fun a w e hs => ⟨m1061, (IntKind.i64.wrap (x853 + 1)), hlt1063, hrun, e.sub ⟨rfl, rfl, rfl, rfl, trivial⟩, hs⟩
      · · refine At.condF rfl (decide_eq_false h1065) ?_
          refine At.exit ?_; refine At.the ?_; refine At.the ?_; exact fun a w e hs => J1064 () (bdn hrun ho1059) a w (e.sub trivial) hs

noncomputable def slices_ContainsFunc_int_int.f (a0 : List Int) (a1_c0_0_c0_0 : Int) (a1_c0_0_c0_1 : List Bs) (a1_c0_0_c0_2 : List api_Edge) (a1_c0_0_c0_3 : List api_Prop) : Option Bool :=
  (slices_IndexFunc_int_int.f a0 a1_c0_0_c0_0 a1_c0_0_c0_1 a1_c0_0_c0_2 a1_c0_0_c0_3).bind fun t252 =>
    some (decide (0 ≤ t252))
theorem slices_ContainsFunc_int_int.callee : Callee Go.Proofs.Tryz.prog 24 := ⟨_, Go.Proofs.Tryz.func24, by kernel_rfl, by kernel_rfl⟩
set_option maxRecDepth 100000 in
set_option maxHeartbeats 2000000 in
theorem slices_ContainsFunc_int_int.spec (R : Res) (Fr : List HProp) (A0 : Option Addr) (n0 : Nat) (c0 : Nat) (b1_c0 : Nat) (b1_c0_0_c0 : Nat) (A1_c0_0_c0_1 : Option Addr) (n1_c0_0_c0_1 : Nat) (c1_c0_0_c0_1 : Nat) (A1_c0_0_c0_2 : Option Addr) (n1_c0_0_c0_2 : Nat) (c1_c0_0_c0_2 : Nat) (A1_c0_0_c0_3 : Option Addr) (n1_c0_0_c0_3 : Nat) (c1_c0_0_c0_3 : Nat) (a0 : List Int) (a1_c0_0_c0_0 : Int) (a1_c0_0_c0_1 : List Bs) (a1_c0_0_c0_2 : List api_Edge) (a1_c0_0_c0_3 : List api_Prop) (hr0 : RdS (Fl.int .i64).rep R.heap A0 a0) (hn0 : a0.length = n0) (hc0 : n0 ≤ c0) (hr1_c0_0_c0_1 : RdS Fl.bs.rep R.heap A1_c0_0_c0_1 a1_c0_0_c0_1) (hn1_c0_0_c0_1 : a1_c0_0_c0_1.length = n1_c0_0_c0_1) (hc1_c0_0_c0_1 : n1_c0_0_c0_1 ≤ c1_c0_0_c0_1) (hr1_c0_0_c0_2 : RdS api_Edge.fl.rep R.heap A1_c0_0_c0_2 a1_c0_0_c0_2) (hn1_c0_0_c0_2 : a1_c0_0_c0_2.length = n1_c0_0_c0_2) (hc1_c0_0_c0_2 : n1_c0_0_c0_2 ≤ c1_c0_0_c0_2) (hr1_c0_0_c0_3 : RdS api_Prop.rep R.heap A1_c0_0_c0_3 a1_c0_0_c0_3) (hn1_c0_0_c0_3 : a1_c0_0_c0_3.length = n1_c0_0_c0_3) (hc1_c0_0_c0_3 : n1_c0_0_c0_3 ≤ c1_c0_0_c0_3) {r : Bool} (hrun : slices_ContainsFunc_int_int.f a0 a1_c0_0_c0_0 a1_c0_0_c0_1 a1_c0_0_c0_2 a1_c0_0_c0_3 = some r) :
    Spec Go.Proofs.Tryz.prog 24 [.slice A0 n0 c0, .func (.func 25) #[] #[.pointer (some ⟨b1_c0, 0, none⟩)]] R (pt b1_c0 (.cells [.func (.func 20) #[] #[.pointer (some ⟨b1_c0_0_c0, 0, none⟩)]].toArray 58) :: pt b1_c0_0_c0 (.cells [.int .i64 a1_c0_0_c0_0, .slice A1_c0_0_c0_1 n1_c0_0_c0_1 c1_c0_0_c0_1, .slice A1_c0_0_c0_2 n1_c0_0_c0_2 c1_c0_0_c0_2, .slice A1_c0_0_c0_3 n1_c0_0_c0_3 c1_c0_0_c0_3].toArray 26) :: Fr) (fun v l' => v = .bool r ∧ pt b1_c0 (.cells [.func (.func 20) #[] #[.pointer (some ⟨b1_c0_0_c0, 0, none⟩)]].toArray 58) :: pt b1_c0_0_c0 (.cells [.int .i64 a1_c0_0_c0_0, .slice A1_c0_0_c0_1 n1_c0_0_c0_1 c1_c0_0_c0_1, .slice A1_c0_0_c0_2 n1_c0_0_c0_2 c1_c0_0_c0_2, .slice A1_c0_0_c0_3 n1_c0_0_c0_3 c1_c0_0_c0_3].toArray 26) :: Fr = l') := by
  subst hn0; subst hn1_c0_0_c0_1; subst hn1_c0_0_c0_2; subst hn1_c0_0_c0_3; refine Spec.of Go.Proofs.Tryz.func24 rfl rfl ?_; unfold slices_ContainsFunc_int_int.f at hrun; have hrun := brun hrun; refine At.seq ?_; refine At.region ?_; refine At.run 1 rfl ?_; refine At.nil ?_; refine At.thn ?_; refine At.seq ?_; refine At.region ?_; refine At.run 2 rfl ?_; obtain ⟨t252, hc253, hrun⟩ := bbind hrun; refine At.call rfl slices_IndexFunc_int_int.callee rfl rfl rfl (slices_IndexFunc_int_int.spec _ _ A0 a0.length c0 b1_c0 b1_c0_0_c0 A1_c0_0_c0_1 a1_c0_0_c0_1.length c1_c0_0_c0_1 A1_c0_0_c0_2 a1_c0_0_c0_2.length c1_c0_0_c0_2 A1_c0_0_c0_3 a1_c0_0_c0_3.length c1_c0_0_c0_3 a0 a1_c0_0_c0_0 a1_c0_0_c0_1 a1_c0_0_c0_2 a1_c0_0_c0_3 hr0 rfl hc0 hr1_c0_0_c0_1 rfl hc1_c0_0_c0_1 hr1_c0_0_c0_2 rfl hc1_c0_0_c0_2 hr1_c0_0_c0_3 rfl hc1_c0_0_c0_3 hc253) ?_; rintro _ _ ⟨rfl, rfl⟩; refine At.run 2 rfl ?_; refine At.nil ?_; refine At.thn ?_; refine At.ret ?_; obtain rfl := (bret hrun).symm; exact At.res (.inl rfl) rfl rfl ⟨rfl, rfl⟩

noncomputable def lts_Right_3.f (a0 : Bs) : Option Bool :=
  (lts_name.f a0).bind fun t252 =>
    some (!t252)
theorem lts_Right_3.callee : Callee Go.Proofs.Tryz.prog 27 := ⟨_, Go.Proofs.Tryz.func27, by kernel_rfl, by kernel_rfl⟩
set_option maxRecDepth 100000 in
set_option maxHeartbeats 2000000 in
theorem lts_Right_3.spec (R : Res) (Fr : List HProp)  (a0 : Bs)  {r : Bool} (hrun : lts_Right_3.f a0 = some r) :
    Spec Go.Proofs.Tryz.prog 27 [.string ⟨(a0).toArray⟩] R (Fr) (fun v l' => v = .bool r ∧ Fr = l') := by
  refine Spec.of Go.Proofs.Tryz.func27 rfl rfl ?_; unfold lts_Right_3.f at hrun; have hrun := brun hrun; refine At.seq ?_; refine At.region ?_; refine At.run 1 rfl ?_; refine At.nil ?_; refine At.thn ?_; refine At.seq ?_; refine At.region ?_; refine At.run 1 rfl ?_; obtain ⟨t252, hc253, hrun⟩ := bbind hrun; refine At.call rfl lts_name.callee rfl rfl rfl (lts_name.spec _ _  a0  hc253) ?_; rintro _ _ ⟨rfl, rfl⟩; refine At.run 2 rfl ?_; refine At.nil ?_; refine At.thn ?_; refine At.ret ?_; obtain rfl := (bret hrun).symm; exact At.res (.inl rfl) rfl rfl ⟨rfl, rfl⟩

noncomputable def slices_IndexFunc_string_string.l0b (a0 : List Bs) (x853 : Int) : Option ((Int) ⊕ ((Unit) ⊕ (Int))) :=
  if x853 < (a0.length : Int) then
    if (0 : Int) ≤ x853 ∧ x853 < (a0.length : Int) then
      (lts_Right_3.f (gt a0 x853)).bind fun t1067 =>
        if t1067 = true then
          upL (some x853)
        else
          nx (IntKind.i64.wrap (x853 + 1))
    else none
  else
    dn (.inl ())
noncomputable def slices_IndexFunc_string_string.l0 (a0 : List Bs) (x853 : Int) : Option ((Unit) ⊕ (Int)) := iter (fun t_ : Int => slices_IndexFunc_string_string.l0b a0 t_) x853
noncomputable def slices_IndexFunc_string_string.f (a0 : List Bs) : Option Int :=
  jn (slices_IndexFunc_string_string.l0 a0 0) (fun (_ : Unit) =>
    some (-1))
theorem slices_IndexFunc_string_string.callee : Callee Go.Proofs.Tryz.prog 53 := ⟨_, Go.Proofs.Tryz.func53, by kernel_rfl, by kernel_rfl⟩
set_option maxRecDepth 100000 in
set_option maxHeartbeats 2000000 in
theorem slices_IndexFunc_string_string.spec (R : Res) (Fr : List HProp) (A0 : Option Addr) (n0 : Nat) (c0 : Nat) (a0 : List Bs) (hr0 : RdS Fl.bs.rep R.heap A0 a0) (hn0 : a0.length = n0) (hc0 : n0 ≤ c0) {r : Int} (hrun : slices_IndexFunc_string_string.f a0 = some r) :
    Spec Go.Proofs.Tryz.prog 53 [.slice A0 n0 c0, .func (.func 27) #[] #[]] R (Fr) (fun v l' => v = .int .i64 r ∧ Fr = l') := by
  subst hn0; refine Spec.of Go.Proofs.Tryz.func53 rfl rfl ?_; unfold slices_IndexFunc_string_string.f at hrun; have hrun := brun hrun; refine At.seq ?_; refine At.region ?_; refine At.run 1 rfl ?_; refine At.nil ?_; refine At.thn ?_; refine At.seq ?_; refine At.seq ?_; refine At.region ?_; refine At.run 3 rfl ?_; refine At.nil ?_; refine At.thn ?_; refine At.block ?_; obtain ⟨G1054, hl1055, hr1056, hrun⟩ := bjoin hrun; obtain ⟨o1057, hlo1058, ho1059⟩ := bsome hrun; clear hrun; unfold slices_IndexFunc_string_string.l0 at hlo1058; obtain ⟨m1060, hit1062⟩ := iter_some.1 hlo1058; clear hlo1058; refine At.loopJ (X := Int) (Y := Unit) (e0 := 0) (fun x853 => [(0, .slice A0 a0.length c0), (1, .func (.func 27) #[] #[]), (7, .int .i64 (a0.length : Int)), (8, .int .i64 x853)]) (fun x853 => Fr) (fun m_ => fun x853 => iterN (fun t_ : Int => slices_IndexFunc_string_string.l0b a0 t_) m_ x853 = some o1057) m1060 0 hit1062 (fun _ => []) (fun _ => Fr) (fun _ => G1054 (.inl ()) = some r) (fun a w e hs => ⟨e.sub ⟨rfl, rfl, rfl, rfl, trivial⟩, (by exact hs)⟩) ?_ (fun J1064 => ?_)
  · rintro _ hrun; have hrun := (hl1055 _).symm.trans hrun
    · refine At.ibx ?_; refine At.thn ?_; refine At.seq ?_; refine At.region ?_; refine At.run 1 rfl ?_; refine At.nil ?_; refine At.thn ?_; refine At.ret ?_; obtain rfl := (bret hrun).symm; exact At.res (.inl rfl) rfl rfl ⟨rfl, rfl⟩
  · clear hit1062 m1060; rintro m1060 x853 hit1062; obtain ⟨m1061, f_, hlt1063, hf_, hrun⟩ := bit hit1062; clear hit1062; have hrun : (slices_IndexFunc_string_string.l0b a0 x853).bind _ = some o1057 := hrun; unfold slices_IndexFunc_string_string.l0b at hrun
    · refine At.seq ?_; refine At.region ?_; refine At.run 1 rfl ?_; refine At.nil ?_; refine At.thn ?_; refine At.seq ?_; rcases bite hrun with ⟨h1065, hrun⟩ | ⟨h1065, hrun⟩
      · · refine At.condT rfl (decide_eq_true h1065) ?_
          refine At.skip ?_; refine At.thn ?_; refine At.seq ?_; refine At.block ?_; refine At.seq ?_; refine At.region ?_; refine At.run 2 rfl ?_; refine At.nil ?_; refine At.thn ?_; refine At.seq ?_; refine At.region ?_; refine At.run 3 rfl ?_; obtain ⟨h1066, hrun⟩ := bnone hrun; refine At.y (Y.ixRd hr0 rfl rfl rfl rfl rfl rfl rfl h1066.1 h1066.2) rfl rfl rfl ?_; refine At.y (Y.ldFl hr0 rfl (q := 0) rfl rfl h1066.1 h1066.2 rfl rfl rfl) rfl rfl rfl ?_; obtain ⟨t1067, hc1068, hrun⟩ := bbind hrun; refine At.call rfl lts_Right_3.callee rfl rfl rfl (lts_Right_3.spec _ _  (gt a0 x853)  hc1068) ?_; rintro _ _ ⟨rfl, rfl⟩; refine At.nil ?_; refine At.thn ?_; rcases bite hrun with ⟨h1069, hrun⟩ | ⟨h1069, hrun⟩
          · · refine At.condT rfl h1069 ?_
              refine At.seq ?_; refine At.region ?_; refine At.run 2 rfl ?_; refine At.nil ?_; refine At.thn ?_; refine At.ret ?_; refine At.ibr ?_; refine At.thr ?_; have hrun := bupL hr1056 ho1059 hrun; refine At.thr ?_; refine At.ibr ?_; refine At.thr ?_; obtain rfl := (bret hrun).symm; exact At.res (.inl rfl) rfl rfl ⟨rfl, rfl⟩
          · · refine At.condF rfl (bn h1069) ?_
              refine At.skip ?_; refine At.ibn ?_; refine At.thn ?_; refine At.region ?_; refine At.run 2 rfl ?_; refine At.nil ?_; have hrun := bnx hf_ hrun; exact fun a w e hs => ⟨m1061, (IntKind.i64.wrap (x853 + 1)), hlt1063, hrun, e.sub ⟨rfl, rfl, rfl, rfl, trivial⟩, hs⟩
      · · refine At.condF rfl (decide_eq_false h1065) ?_
          refine At.exit ?_; refine At.the ?_; refine At.the ?_; exact fun a w e hs => J1064 () (bdn hrun ho1059) a w (e.sub trivial) hs

noncomputable def slices_ContainsFunc_string_string.f (a0 : List Bs) : Option Bool :=
  (slices_IndexFunc_string_string.f a0).bind fun t252 =>
    some (decide (0 ≤ t252))
theorem slices_ContainsFunc_string_string.callee : Callee Go.Proofs.Tryz.prog 26 := ⟨_, Go.Proofs.Tryz.func26, by kernel_rfl, by kernel_rfl⟩
set_option maxRecDepth 100000 in
set_option maxHeartbeats 2000000 in
theorem slices_ContainsFunc_string_string.spec (R : Res) (Fr : List HProp) (A0 : Option Addr) (n0 : Nat) (c0 : Nat) (a0 : List Bs) (hr0 : RdS Fl.bs.rep R.heap A0 a0) (hn0 : a0.length = n0) (hc0 : n0 ≤ c0) {r : Bool} (hrun : slices_ContainsFunc_string_string.f a0 = some r) :
    Spec Go.Proofs.Tryz.prog 26 [.slice A0 n0 c0, .func (.func 27) #[] #[]] R (Fr) (fun v l' => v = .bool r ∧ Fr = l') := by
  subst hn0; refine Spec.of Go.Proofs.Tryz.func26 rfl rfl ?_; unfold slices_ContainsFunc_string_string.f at hrun; have hrun := brun hrun; refine At.seq ?_; refine At.region ?_; refine At.run 1 rfl ?_; refine At.nil ?_; refine At.thn ?_; refine At.seq ?_; refine At.region ?_; refine At.run 2 rfl ?_; obtain ⟨t252, hc253, hrun⟩ := bbind hrun; refine At.call rfl slices_IndexFunc_string_string.callee rfl rfl rfl (slices_IndexFunc_string_string.spec _ _ A0 a0.length c0 a0 hr0 rfl hc0 hc253) ?_; rintro _ _ ⟨rfl, rfl⟩; refine At.run 2 rfl ?_; refine At.nil ?_; refine At.thn ?_; refine At.ret ?_; obtain rfl := (bret hrun).symm; exact At.res (.inl rfl) rfl rfl ⟨rfl, rfl⟩

noncomputable def cmp_Or_int.l0b (a0 : List Int) (x853 : Int) : Option ((Int) ⊕ ((Unit) ⊕ (Int))) :=
  if x853 < (a0.length : Int) then
    if (0 : Int) ≤ x853 ∧ x853 < (a0.length : Int) then
      if gt a0 x853 = 0 then
        nx (IntKind.i64.wrap (x853 + 1))
      else
        upL (some (gt a0 x853))
    else none
  else
    dn (.inl ())
noncomputable def cmp_Or_int.l0 (a0 : List Int) (x853 : Int) : Option ((Unit) ⊕ (Int)) := iter (fun t_ : Int => cmp_Or_int.l0b a0 t_) x853
noncomputable def cmp_Or_int.f (a0 : List Int) : Option Int :=
  jn (cmp_Or_int.l0 a0 0) (fun (_ : Unit) =>
    some 0)
theorem cmp_Or_int.callee : Callee Go.Proofs.Tryz.prog 54 := ⟨_, Go.Proofs.Tryz.func54, by kernel_rfl, by kernel_rfl⟩
set_option maxRecDepth 100000 in
set_option maxHeartbeats 2000000 in
theorem cmp_Or_int.spec (R : Res) (Fr : List HProp) (A0 : Option Addr) (n0 : Nat) (c0 : Nat) (a0 : List Int) (hr0 : RdS (Fl.int .i64).rep R.heap A0 a0) (hn0 : a0.length = n0) (hc0 : n0 ≤ c0) {r : Int} (hrun : cmp_Or_int.f a0 = some r) :
    Spec Go.Proofs.Tryz.prog 54 [.slice A0 n0 c0] R (Fr) (fun v l' => v = .int .i64 r ∧ Fr = l') := by
  subst hn0; refine Spec.of Go.Proofs.Tryz.func54 rfl rfl ?_; unfold cmp_Or_int.f at hrun; have hrun := brun hrun; refine At.seq ?_; refine At.region ?_; refine At.run 1 rfl ?_; refine At.nil ?_; refine At.thn ?_; refine At.seq ?_; refine At.region ?_; refine At.run 1 rfl ?_; refine At.nil ?_; refine At.thn ?_; refine At.seq ?_; refine At.seq ?_; refine At.region ?_; refine At.run 3 rfl ?_; refine At.nil ?_; refine At.thn ?_; refine At.block ?_; obtain ⟨G1054, hl1055, hr1056, hrun⟩ := bjoin hrun; obtain ⟨o1057, hlo1058, ho1059⟩ := bsome hrun; clear hrun; unfold cmp_Or_int.l0 at hlo1058; obtain ⟨m1060, hit1062⟩ := iter_some.1 hlo1058; clear hlo1058; refine At.loopJ (X := Int) (Y := Unit) (e0 := 0) (fun x853 => [(3, .int .i64 0), (6, .slice A0 a0.length c0), (7, .int .i64 (a0.length : Int)), (8, .int .i64 x853)]) (fun x853 => Fr) (fun m_ => fun x853 => iterN (fun t_ : Int => cmp_Or_int.l0b a0 t_) m_ x853 = some o1057) m1060 0 hit1062 (fun _ => [(3, .int .i64 0)]) (fun _ => Fr) (fun _ => G1054 (.inl ()) = some r) (fun a w e hs => ⟨e.sub ⟨rfl, rfl, rfl, rfl, trivial⟩, (by exact hs)⟩) ?_ (fun J1064 => ?_)
  · rintro _ hrun; have hrun := (hl1055 _).symm.trans hrun
    · refine At.ibx ?_; refine At.thn ?_; refine At.seq ?_; refine At.region ?_; refine At.run 2 rfl ?_; refine At.nil ?_; refine At.thn ?_; refine At.ret ?_; obtain rfl := (bret hrun).symm; exact At.res (.inl rfl) rfl rfl ⟨rfl, rfl⟩
  · clear hit1062 m1060; rintro m1060 x853 hit1062; obtain ⟨m1061, f_, hlt1063, hf_, hrun⟩ := bit hit1062; clear hit1062; have hrun : (cmp_Or_int.l0b a0 x853).bind _ = some o1057 := hrun; unfold cmp_Or_int.l0b at hrun
    · refine At.seq ?_; refine At.region ?_; refine At.run 1 rfl ?_; refine At.nil ?_; refine At.thn ?_; refine At.seq ?_; rcases bite hrun with ⟨h1065, hrun⟩ | ⟨h1065, hrun⟩
      · · refine At.condT rfl (decide_eq_true h1065) ?_
          refine At.skip ?_; refine At.thn ?_; refine At.seq ?_; refine At.block ?_; refine At.seq ?_; refine At.region ?_; obtain ⟨h1066, hrun⟩ := bnone hrun; refine At.y (Y.ixRd hr0 rfl rfl rfl rfl rfl rfl rfl h1066.1 h1066.2) rfl rfl rfl ?_; refine At.y (Y.ldFl hr0 rfl (q := 0) rfl rfl h1066.1 h1066.2 rfl rfl rfl) rfl rfl rfl ?_; refine At.run 1 rfl ?_; refine At.nil ?_; refine At.thn ?_; refine At.seq ?_; refine At.region ?_; refine At.run 3 rfl ?_; refine At.nil ?_; refine At.thn ?_; rcases bite hrun with ⟨h1067, hrun⟩ | ⟨h1067, hrun⟩
          · · refine At.condF rfl (nf (decide_eq_true h1067)) ?_
              refine At.skip ?_; refine At.ibn ?_; refine At.thn ?_; refine At.region ?_; refine At.run 2 rfl ?_; refine At.nil ?_; have hrun := bnx hf_ hrun; exact fun a w e hs => ⟨m1061, (IntKind.i64.wrap (x853 + 1)), hlt1063, hrun, e.sub ⟨rfl, rfl, rfl, rfl, trivial⟩, hs⟩
          · · refine At.condT rfl (nt (decide_eq_false h1067)) ?_
              refine At.seq ?_; refine At.region ?_; refine At.run 2 rfl ?_; refine At.nil ?_; refine At.thn ?_; refine At.ret ?_; refine At.ibr ?_; refine At.thr ?_; have hrun := bupL hr1056 ho1059 hrun; refine At.thr ?_; refine At.ibr ?_; refine At.thr ?_; obtain rfl := (bret hrun).symm; exact At.res (.inl rfl) rfl rfl ⟨rfl, rfl⟩
      · · refine At.condF rfl (decide_eq_false h1065) ?_
          refine At.exit ?_; refine At.the ?_; refine At.the ?_; exact fun a w e hs => J1064 () (bdn hrun ho1059) a w (e.sub ⟨rfl, trivial⟩) hs

noncomputable def lts_compare.f (a0_0 : Int) (a0_1 : Int) (a0_2 : Int) (a1_0 : Int) (a1_1 : Int) (a1_2 : Int) : Option Int :=
  (cmp_Compare_int.f a0_0 a1_0).bind fun t269 =>
    (cmp_Compare_int.f a0_1 a1_1).bind fun t271 =>
      (cmp_Compare_int.f a0_2 a1_2).bind fun t273 =>
        (cmp_Or_int.f ([t269, t271, t273] : List Int)).bind fun t284 =>
          some t284
theorem lts_compare.callee : Callee Go.Proofs.Tryz.prog 29 := ⟨_, Go.Proofs.Tryz.func29, by kernel_rfl, by kernel_rfl⟩
set_option maxRecDepth 100000 in
set_option maxHeartbeats 2000000 in
theorem lts_compare.spec (R : Res) (Fr : List HProp)  (a0_0 : Int) (a0_1 : Int) (a0_2 : Int) (a1_0 : Int) (a1_1 : Int) (a1_2 : Int)  {r : Int} (hrun : lts_compare.f a0_0 a0_1 a0_2 a1_0 a1_1 a1_2 = some r) :
    Spec Go.Proofs.Tryz.prog 29 [.agg #[.int .i64 a0_0, .int .i64 a0_1, .int .i64 a0_2], .agg #[.int .i64 a1_0, .int .i64 a1_1, .int .i64 a1_2]] R (Fr) (fun v l' => v = .int .i64 r ∧ Fr = l') := by
  refine Spec.of Go.Proofs.Tryz.func29 rfl rfl ?_; unfold lts_compare.f at hrun; have hrun := brun hrun; refine At.seq ?_; refine At.region ?_; refine At.box rfl rfl (cs := [.int .i64 a0_0, .int .i64 a0_1, .int .i64 a0_2]) rfl rfl (fun b259 => ?_); refine At.box rfl rfl (cs := [.int .i64 a1_0, .int .i64 a1_1, .int .i64 a1_2]) rfl rfl (fun b260 => ?_); refine At.run 1 rfl ?_; refine At.nil ?_; refine At.thn ?_; refine At.seq ?_; refine At.held [pt b260 (.cells [.int .i64 a1_0, .int .i64 a1_1, .int .i64 a1_2].toArray 54), pt b259 (.cells [.int .i64 a0_0, .int .i64 a0_1, .int .i64 a0_2].toArray 54)] 18 rfl ?_; refine At.H.pv 0 rfl (by kernel_rfl) (by kernel_rfl) (by kernel_rfl) rfl rfl rfl rfl (.c .z (.c .z .n)) ?_; refine At.H.take 1 rfl (by kernel_rfl) (by kernel_rfl) (by kernel_rfl) (Y.load rfl rfl (.s .z) rfl rfl rfl) rfl rfl rfl (.c .z (.c .z .n)) ?_; refine At.H.pv 2 rfl (by kernel_rfl) (by kernel_rfl) (by kernel_rfl) rfl rfl rfl rfl (.c .z (.c .z .n)) ?_; refine At.H.take 3 rfl (by kernel_rfl) (by kernel_rfl) (by kernel_rfl) (Y.load rfl rfl .z rfl rfl rfl) rfl rfl rfl (.c .z (.c .z .n)) ?_; refine At.H.pv 5 rfl (by kernel_rfl) (by kernel_rfl) (by kernel_rfl) rfl rfl rfl rfl (.c .z (.c .z .n)) ?_; refine At.H.take 6 rfl (by kernel_rfl) (by kernel_rfl) (by kernel_rfl) (Y.load rfl rfl (.s .z) rfl rfl rfl) rfl rfl rfl (.c .z (.c .z .n)) ?_; refine At.H.pv 7 rfl (by kernel_rfl) (by kernel_rfl) (by kernel_rfl) rfl rfl rfl rfl (.c .z (.c .z .n)) ?_; refine At.H.take 8 rfl (by kernel_rfl) (by kernel_rfl) (by kernel_rfl) (Y.load rfl rfl .z rfl rfl rfl) rfl rfl rfl (.c .z (.c .z .n)) ?_; refine At.H.pv 10 rfl (by kernel_rfl) (by kernel_rfl) (by kernel_rfl) rfl rfl rfl rfl (.c .z (.c .z .n)) ?_; refine At.H.take 11 rfl (by kernel_rfl) (by kernel_rfl) (by kernel_rfl) (Y.load rfl rfl (.s .z) rfl rfl rfl) rfl rfl rfl (.c .z (.c .z .n)) ?_; refine At.H.pv 12 rfl (by kernel_rfl) (by kernel_rfl) (by kernel_rfl) rfl rfl rfl rfl (.c .z (.c .z .n)) ?_; refine At.H.take 13 rfl (by kernel_rfl) (by kernel_rfl) (by kernel_rfl) (Y.load rfl rfl .z rfl rfl rfl) rfl rfl rfl (.c .z (.c .z .n)) ?_; refine At.H.all [4] (by kernel_rfl) rfl (all_cons ?_ all_nil)
  · · refine At.HO.op rfl ?_
      obtain ⟨t269, hc270, hrun⟩ := bbind hrun; refine At.call rfl cmp_Compare_int.callee rfl rfl rfl (cmp_Compare_int.spec _ _  a0_0 a1_0  hc270) ?_; rintro _ _ ⟨rfl, rfl⟩; refine At.HO.back (.c .z (.c .z .n)) ?_; refine At.H.all [9] (by kernel_rfl) rfl (all_cons ?_ all_nil)
      · · refine At.HO.op rfl ?_
          obtain ⟨t271, hc272, hrun⟩ := bbind hrun; refine At.call rfl cmp_Compare_int.callee rfl rfl rfl (cmp_Compare_int.spec _ _  a0_1 a1_1  hc272) ?_; rintro _ _ ⟨rfl, rfl⟩; refine At.HO.back (.c .z (.c .z .n)) ?_; refine At.H.all [14] (by kernel_rfl) rfl (all_cons ?_ all_nil)
          · · refine At.HO.op rfl ?_
              obtain ⟨t273, hc274, hrun⟩ := bbind hrun; refine At.call rfl cmp_Compare_int.callee rfl rfl rfl (cmp_Compare_int.spec _ _  a0_2 a1_2  hc274) ?_; rintro _ _ ⟨rfl, rfl⟩; refine At.HO.back (.c .z (.c .z .n)) ?_; refine At.H.all [15] (by kernel_rfl) rfl (all_cons ?_ all_nil)
              · · refine At.HO.op rfl ?_
                  refine At.lit rfl (xo := [.tmp 9, .tmp 14, .tmp 19]) (ys := ([t269, t271, t273] : List Int)) (Fl.int .i64) rfl rfl rfl rfl rfl rfl rfl rfl rfl rfl rfl (fun A275 c276 => ?_); refine At.HO.back (.c (.s .z) (.c (.s .z) .n)) ?_; refine At.H.all [16] (by kernel_rfl) rfl (all_cons ?_ all_nil)
                  · · refine At.HO.op rfl ?_
                      refine At.freeze .z fun R278 hr279 hn280 hc281 hs282 th283 => ?_; obtain ⟨t284, hc285, hrun⟩ := bbind hrun; refine At.call rfl cmp_Or_int.callee rfl rfl rfl (cmp_Or_int.spec _ _ A275 (([t269, t271, t273] : List Int).length) c276 ([t269, t271, t273] : List Int) hr279 hn280 hc281 hc285) ?_; rintro _ _ ⟨rfl, rfl⟩; refine At.thaw th283 ?_; refine At.HO.back (.c (.s .z) (.c (.s .z) .n)) ?_; refine At.H.pv 17 rfl (by kernel_rfl) (by kernel_rfl) (by kernel_rfl) rfl rfl rfl rfl (.c (.s .z) (.c (.s .z) .n)) ?_; refine At.H.done (by kernel_rfl) ?_; refine At.thn ?_; refine At.ret ?_; refine At.drop .z ?_; refine At.drop .z ?_; refine At.drop .z ?_; obtain rfl := (bret hrun).symm; exact At.res (.inl rfl) rfl rfl ⟨rfl, rfl⟩

noncomputable def lts_rises_api_Edge.l0b (a0 : List api_Edge) (x853 : Int) : Option ((Int) ⊕ ((Unit) ⊕ (Bool))) :=
  if x853 < (a0.length : Int) then
    if (0 : Int) ≤ IntKind.i64.wrap (x853 - 1) ∧ IntKind.i64.wrap (x853 - 1) < (a0.length : Int) then
      if (0 : Int) ≤ x853 ∧ x853 < (a0.length : Int) then
        (lts_compare.f ((gt a0 (IntKind.i64.wrap (x853 - 1))).From) ((gt a0 (IntKind.i64.wrap (x853 - 1))).Action) ((gt a0 (IntKind.i64.wrap (x853 - 1))).To) ((gt a0 x853).From) ((gt a0 x853).Action) ((gt a0 x853).To)).bind fun t1068 =>
          if 0 ≤ t1068 then
            upL (some false)
          else
            nx (IntKind.i64.wrap (x853 + 1))
      else none
    else none
  else
    dn (.inl ())
noncomputable def lts_rises_api_Edge.l0 (a0 : List api_Edge) (x853 : Int) : Option ((Unit) ⊕ (Bool)) := iter (fun t_ : Int => lts_rises_api_Edge.l0b a0 t_) x853
noncomputable def lts_rises_api_Edge.f (a0 : List api_Edge) : Option Bool :=
  jn (lts_rises_api_Edge.l0 a0 1) (fun (_ : Unit) =>
    some true)
theorem lts_rises_api_Edge.callee : Callee Go.Proofs.Tryz.prog 28 := ⟨_, Go.Proofs.Tryz.func28, by kernel_rfl, by kernel_rfl⟩
set_option maxRecDepth 100000 in
set_option maxHeartbeats 2000000 in
theorem lts_rises_api_Edge.spec (R : Res) (Fr : List HProp) (A0 : Option Addr) (n0 : Nat) (c0 : Nat) (a0 : List api_Edge) (hr0 : RdS api_Edge.fl.rep R.heap A0 a0) (hn0 : a0.length = n0) (hc0 : n0 ≤ c0) {r : Bool} (hrun : lts_rises_api_Edge.f a0 = some r) :
    Spec Go.Proofs.Tryz.prog 28 [.slice A0 n0 c0, .func (.func 29) #[] #[]] R (Fr) (fun v l' => v = .bool r ∧ Fr = l') := by
  subst hn0; refine Spec.of Go.Proofs.Tryz.func28 rfl rfl ?_; unfold lts_rises_api_Edge.f at hrun; have hrun := brun hrun; refine At.seq ?_; refine At.region ?_; refine At.run 1 rfl ?_; refine At.nil ?_; refine At.thn ?_; refine At.seq ?_; refine At.seq ?_; refine At.region ?_; refine At.run 1 rfl ?_; refine At.nil ?_; refine At.thn ?_; refine At.block ?_; obtain ⟨G1054, hl1055, hr1056, hrun⟩ := bjoin hrun; obtain ⟨o1057, hlo1058, ho1059⟩ := bsome hrun; clear hrun; unfold lts_rises_api_Edge.l0 at hlo1058; obtain ⟨m1060, hit1062⟩ := iter_some.1 hlo1058; clear hlo1058; refine At.loopJ (X := Int) (Y := Unit) (e0 := 0) (fun x853 => [(0, .slice A0 a0.length c0), (1, .func (.func 29) #[] #[]), (5, .int .i64 x853)]) (fun x853 => Fr) (fun m_ => fun x853 => iterN (fun t_ : Int => lts_rises_api_Edge.l0b a0 t_) m_ x853 = some o1057) m1060 1 hit1062 (fun _ => []) (fun _ => Fr) (fun _ => G1054 (.inl ()) = some r) (fun a w e hs => ⟨e.sub ⟨rfl, rfl, rfl, trivial⟩, (by exact hs)⟩) ?_ (fun J1064 => ?_)
  · rintro _ hrun; have hrun := (hl1055 _).symm.trans hrun
    · refine At.ibx ?_; refine At.thn ?_; refine At.seq ?_; refine At.region ?_; refine At.run 1 rfl ?_; refine At.nil ?_; refine At.thn ?_; refine At.ret ?_; obtain rfl := (bret hrun).symm; exact At.res (.inl rfl) rfl rfl ⟨rfl, rfl⟩
  · clear hit1062 m1060; rintro m1060 x853 hit1062; obtain ⟨m1061, f_, hlt1063, hf_, hrun⟩ := bit hit1062; clear hit1062; have hrun : (lts_rises_api_Edge.l0b a0 x853).bind _ = some o1057 := hrun; unfold lts_rises_api_Edge.l0b at hrun
    · refine At.seq ?_; refine At.seq ?_; refine At.region ?_; refine At.run 4 rfl ?_; refine At.nil ?_; refine At.thn ?_; rcases bite hrun with ⟨h1065, hrun⟩ | ⟨h1065, hrun⟩
      · · refine At.condT rfl (decide_eq_true h1065) ?_
          refine At.skip ?_; refine At.thn ?_; refine At.seq ?_; refine At.block ?_; refine At.seq ?_; refine At.quiet (by kernel_rfl) ?_; refine At.Quiet.run 4 rfl ?_; obtain ⟨h1066, hrun⟩ := bnone hrun; refine At.Quiet.y (Y.ixRd hr0 rfl rfl rfl rfl rfl rfl rfl h1066.1 h1066.2) rfl rfl rfl ?_; refine At.Quiet.y (Y.ldFl hr0 rfl (q := 0) rfl rfl h1066.1 h1066.2 rfl rfl rfl) rfl rfl rfl ?_; refine At.Quiet.run 2 rfl ?_; obtain ⟨h1067, hrun⟩ := bnone hrun; refine At.Quiet.y (Y.ixRd hr0 rfl rfl rfl rfl rfl rfl rfl h1067.1 h1067.2) rfl rfl rfl ?_; refine At.Quiet.y (Y.ldFl hr0 rfl (q := 0) rfl rfl h1067.1 h1067.2 rfl rfl rfl) rfl rfl rfl ?_; obtain ⟨t1068, hc1069, hrun⟩ := bbind hrun; refine At.Quiet.call rfl lts_compare.callee rfl rfl rfl (lts_compare.spec _ _  ((gt a0 (IntKind.i64.wrap (x853 - 1))).From) ((gt a0 (IntKind.i64.wrap (x853 - 1))).Action) ((gt a0 (IntKind.i64.wrap (x853 - 1))).To) ((gt a0 x853).From) ((gt a0 x853).Action) ((gt a0 x853).To)  hc1069) (fun _ _ h_ => ⟨h_.1, fun _ hs => h_.2 ▸ hs⟩) ?_; refine At.Quiet.run 1 rfl ?_; refine At.Quiet.nil ?_; refine At.thn ?_; rcases bite hrun with ⟨h1070, hrun⟩ | ⟨h1070, hrun⟩
          · · refine At.condT rfl (decide_eq_true h1070) ?_
              refine At.seq ?_; refine At.region ?_; refine At.run 1 rfl ?_; refine At.nil ?_; refine At.thn ?_; refine At.ret ?_; refine At.ibr ?_; refine At.thr ?_; have hrun := bupL hr1056 ho1059 hrun; refine At.thr ?_; refine At.ibr ?_; refine At.thr ?_; obtain rfl := (bret hrun).symm; exact At.res (.inl rfl) rfl rfl ⟨rfl, rfl⟩
          · · refine At.condF rfl (decide_eq_false h1070) ?_
              refine At.skip ?_; refine At.ibn ?_; refine At.thn ?_; refine At.region ?_; refine At.run 3 rfl ?_; refine At.nil ?_; have hrun := bnx hf_ hrun; exact fun a w e hs => ⟨m1061, (IntKind.i64.wrap (x853 + 1)), hlt1063, hrun, e.sub ⟨rfl, rfl, rfl, trivial⟩, hs⟩
      · · refine At.condF rfl (decide_eq_false h1065) ?_
          refine At.exit ?_; refine At.the ?_; refine At.the ?_; exact fun a w e hs => J1064 () (bdn hrun ho1059) a w (e.sub trivial) hs

noncomputable def bytealg_CompareString.f (a0 : Bs) (a1 : Bs) : Option Int :=
  some (Lib.compareBytes a0 a1)
theorem bytealg_CompareString.callee : Callee Go.Proofs.Tryz.prog 55 := ⟨_, Go.Proofs.Tryz.func55, by kernel_rfl, by kernel_rfl⟩
set_option maxRecDepth 100000 in
set_option maxHeartbeats 2000000 in
theorem bytealg_CompareString.spec (R : Res) (Fr : List HProp)  (a0 : Bs) (a1 : Bs)  {r : Int} (hrun : bytealg_CompareString.f a0 a1 = some r) :
    Spec Go.Proofs.Tryz.prog 55 [.string ⟨(a0).toArray⟩, .string ⟨(a1).toArray⟩] R (Fr) (fun v l' => v = .int .i64 r ∧ Fr = l') := by
  refine Spec.of Go.Proofs.Tryz.func55 rfl rfl ?_; unfold bytealg_CompareString.f at hrun; have hrun := brun hrun; refine At.seq ?_; refine At.region ?_; refine At.run 1 rfl ?_; refine At.nil ?_; refine At.thn ?_; refine At.seq ?_; refine At.region ?_; refine At.run 2 rfl ?_; refine At.y (Y.ext bytealg_cmpstring.ext rfl rfl (fun w => run_cmpstr _ _ w)) rfl rfl rfl ?_; refine At.run 1 rfl ?_; refine At.nil ?_; refine At.thn ?_; refine At.ret ?_; obtain rfl := (bret hrun).symm; exact At.res (.inl rfl) rfl rfl ⟨rfl, rfl⟩

noncomputable def strings_Compare.f (a0 : Bs) (a1 : Bs) : Option Int :=
  (bytealg_CompareString.f a0 a1).bind fun t252 =>
    some t252
theorem strings_Compare.callee : Callee Go.Proofs.Tryz.prog 31 := ⟨_, Go.Proofs.Tryz.func31, by kernel_rfl, by kernel_rfl⟩
set_option maxRecDepth 100000 in
set_option maxHeartbeats 2000000 in
theorem strings_Compare.spec (R : Res) (Fr : List HProp)  (a0 : Bs) (a1 : Bs)  {r : Int} (hrun : strings_Compare.f a0 a1 = some r) :
    Spec Go.Proofs.Tryz.prog 31 [.string ⟨(a0).toArray⟩, .string ⟨(a1).toArray⟩] R (Fr) (fun v l' => v = .int .i64 r ∧ Fr = l') := by
  refine Spec.of Go.Proofs.Tryz.func31 rfl rfl ?_; unfold strings_Compare.f at hrun; have hrun := brun hrun; refine At.seq ?_; refine At.region ?_; refine At.run 1 rfl ?_; refine At.nil ?_; refine At.thn ?_; refine At.seq ?_; refine At.region ?_; refine At.run 2 rfl ?_; obtain ⟨t252, hc253, hrun⟩ := bbind hrun; refine At.call rfl bytealg_CompareString.callee rfl rfl rfl (bytealg_CompareString.spec _ _  a0 a1  hc253) ?_; rintro _ _ ⟨rfl, rfl⟩; refine At.run 1 rfl ?_; refine At.nil ?_; refine At.thn ?_; refine At.ret ?_; obtain rfl := (bret hrun).symm; exact At.res (.inl rfl) rfl rfl ⟨rfl, rfl⟩

noncomputable def lts_rises_string.l0b (a0 : List Bs) (x853 : Int) : Option ((Int) ⊕ ((Unit) ⊕ (Bool))) :=
  if x853 < (a0.length : Int) then
    if (0 : Int) ≤ IntKind.i64.wrap (x853 - 1) ∧ IntKind.i64.wrap (x853 - 1) < (a0.length : Int) then
      if (0 : Int) ≤ x853 ∧ x853 < (a0.length : Int) then
        (strings_Compare.f (gt a0 (IntKind.i64.wrap (x853 - 1))) (gt a0 x853)).bind fun t1068 =>
          if 0 ≤ t1068 then
            upL (some false)
          else
            nx (IntKind.i64.wrap (x853 + 1))
      else none
    else none
  else
    dn (.inl ())
noncomputable def lts_rises_string.l0 (a0 : List Bs) (x853 : Int) : Option ((Unit) ⊕ (Bool)) := iter (fun t_ : Int => lts_rises_string.l0b a0 t_) x853
noncomputable def lts_rises_string.f (a0 : List Bs) : Option Bool :=
  jn (lts_rises_string.l0 a0 1) (fun (_ : Unit) =>
    some true)
theorem lts_rises_string.callee : Callee Go.Proofs.Tryz.prog 30 := ⟨_, Go.Proofs.Tryz.func30, by kernel_rfl, by kernel_rfl⟩
set_option maxRecDepth 100000 in
set_option maxHeartbeats 2000000 in
theorem lts_rises_string.spec (R : Res) (Fr : List HProp) (A0 : Option Addr) (n0 : Nat) (c0 : Nat) (a0 : List Bs) (hr0 : RdS Fl.bs.rep R.heap A0 a0) (hn0 : a0.length = n0) (hc0 : n0 ≤ c0) {r : Bool} (hrun : lts_rises_string.f a0 = some r) :
    Spec Go.Proofs.Tryz.prog 30 [.slice A0 n0 c0, .func (.func 31) #[] #[]] R (Fr) (fun v l' => v = .bool r ∧ Fr = l') := by
  subst hn0; refine Spec.of Go.Proofs.Tryz.func30 rfl rfl ?_; unfold lts_rises_string.f at hrun; have hrun := brun hrun; refine At.seq ?_; refine At.region ?_; refine At.run 1 rfl ?_; refine At.nil ?_; refine At.thn ?_; refine At.seq ?_; refine At.seq ?_; refine At.region ?_; refine At.run 1 rfl ?_; refine At.nil ?_; refine At.thn ?_; refine At.block ?_; obtain ⟨G1054, hl1055, hr1056, hrun⟩ := bjoin hrun; obtain ⟨o1057, hlo1058, ho1059⟩ := bsome hrun; clear hrun; unfold lts_rises_string.l0 at hlo1058; obtain ⟨m1060, hit1062⟩ := iter_some.1 hlo1058; clear hlo1058; refine At.loopJ (X := Int) (Y := Unit) (e0 := 0) (fun x853 => [(0, .slice A0 a0.length c0), (1, .func (.func 31) #[] #[]), (5, .int .i64 x853)]) (fun x853 => Fr) (fun m_ => fun x853 => iterN (fun t_ : Int => lts_rises_string.l0b a0 t_) m_ x853 = some o1057) m1060 1 hit1062 (fun _ => []) (fun _ => Fr) (fun _ => G1054 (.inl ()) = some r) (fun a w e hs => ⟨e.sub ⟨rfl, rfl, rfl, trivial⟩, (by exact hs)⟩) ?_ (fun J1064 => ?_)
  · rintro _ hrun; have hrun := (hl1055 _).symm.trans hrun
    · refine At.ibx ?_; refine At.thn ?_; refine At.seq ?_; refine At.region ?_; refine At.run 1 rfl ?_; refine At.nil ?_; refine At.thn ?_; refine At.ret ?_; obtain rfl := (bret hrun).symm; exact At.res (.inl rfl) rfl rfl ⟨rfl, rfl⟩
  · clear hit1062 m1060; rintro m1060 x853 hit1062; obtain ⟨m1061, f_, hlt1063, hf_, hrun⟩ := bit hit1062; clear hit1062; have hrun : (lts_rises_string.l0b a0 x853).bind _ = some o1057 := hrun; unfold lts_rises_string.l0b at hrun
    · refine At.seq ?_; refine At.seq ?_; refine At.region ?_; refine At.run 4 rfl ?_; refine At.nil ?_; refine At.thn ?_; rcases bite hrun with ⟨h1065, hrun⟩ | ⟨h1065, hrun⟩
      · · refine At.condT rfl (decide_eq_true h1065) ?_
          refine At.skip ?_; refine At.thn ?_; refine At.seq ?_; refine At.block ?_; refine At.seq ?_; refine At.quiet (by kernel_rfl) ?_; refine At.Quiet.run 4 rfl ?_; obtain ⟨h1066, hrun⟩ := bnone hrun; refine At.Quiet.y (Y.ixRd hr0 rfl rfl rfl rfl rfl rfl rfl h1066.1 h1066.2) rfl rfl rfl ?_; refine At.Quiet.y (Y.ldFl hr0 rfl (q := 0) rfl rfl h1066.1 h1066.2 rfl rfl rfl) rfl rfl rfl ?_; refine At.Quiet.run 2 rfl ?_; obtain ⟨h1067, hrun⟩ := bnone hrun; refine At.Quiet.y (Y.ixRd hr0 rfl rfl rfl rfl rfl rfl rfl h1067.1 h1067.2) rfl rfl rfl ?_; refine At.Quiet.y (Y.ldFl hr0 rfl (q := 0) rfl rfl h1067.1 h1067.2 rfl rfl rfl) rfl rfl rfl ?_; obtain ⟨t1068, hc1069, hrun⟩ := bbind hrun; refine At.Quiet.call rfl strings_Compare.callee rfl rfl rfl (strings_Compare.spec _ _  (gt a0 (IntKind.i64.wrap (x853 - 1))) (gt a0 x853)  hc1069) (fun _ _ h_ => ⟨h_.1, fun _ hs => h_.2 ▸ hs⟩) ?_; refine At.Quiet.run 1 rfl ?_; refine At.Quiet.nil ?_; refine At.thn ?_; rcases bite hrun with ⟨h1070, hrun⟩ | ⟨h1070, hrun⟩
          · · refine At.condT rfl (decide_eq_true h1070) ?_
              refine At.seq ?_; refine At.region ?_; refine At.run 1 rfl ?_; refine At.nil ?_; refine At.thn ?_; refine At.ret ?_; refine At.ibr ?_; refine At.thr ?_; have hrun := bupL hr1056 ho1059 hrun; refine At.thr ?_; refine At.ibr ?_; refine At.thr ?_; obtain rfl := (bret hrun).symm; exact At.res (.inl rfl) rfl rfl ⟨rfl, rfl⟩
          · · refine At.condF rfl (decide_eq_false h1070) ?_
              refine At.skip ?_; refine At.ibn ?_; refine At.thn ?_; refine At.region ?_; refine At.run 3 rfl ?_; refine At.nil ?_; have hrun := bnx hf_ hrun; exact fun a w e hs => ⟨m1061, (IntKind.i64.wrap (x853 + 1)), hlt1063, hrun, e.sub ⟨rfl, rfl, rfl, trivial⟩, hs⟩
      · · refine At.condF rfl (decide_eq_false h1065) ?_
          refine At.exit ?_; refine At.the ?_; refine At.the ?_; exact fun a w e hs => J1064 () (bdn hrun ho1059) a w (e.sub trivial) hs

noncomputable def lts_byName.f (a0_0 : Bs) (a0_1 : List Int) (a1_0 : Bs) (a1_1 : List Int) : Option Int :=
  (strings_Compare.f a0_0 a1_0).bind fun t256 =>
    some t256
theorem lts_byName.callee : Callee Go.Proofs.Tryz.prog 33 := ⟨_, Go.Proofs.Tryz.func33, by kernel_rfl, by kernel_rfl⟩
set_option maxRecDepth 100000 in
set_option maxHeartbeats 2000000 in
theorem lts_byName.spec (R : Res) (Fr : List HProp) (A0_1 : Option Addr) (n0_1 : Nat) (c0_1 : Nat) (A1_1 : Option Addr) (n1_1 : Nat) (c1_1 : Nat) (a0_0 : Bs) (a0_1 : List Int) (a1_0 : Bs) (a1_1 : List Int) (hr0_1 : RdS (Fl.int .i64).rep R.heap A0_1 a0_1) (hn0_1 : a0_1.length = n0_1) (hc0_1 : n0_1 ≤ c0_1) (hr1_1 : RdS (Fl.int .i64).rep R.heap A1_1 a1_1) (hn1_1 : a1_1.length = n1_1) (hc1_1 : n1_1 ≤ c1_1) {r : Int} (hrun : lts_byName.f a0_0 a0_1 a1_0 a1_1 = some r) :
    Spec Go.Proofs.Tryz.prog 33 [.agg #[.string ⟨(a0_0).toArray⟩, .slice A0_1 n0_1 c0_1], .agg #[.string ⟨(a1_0).toArray⟩, .slice A1_1 n1_1 c1_1]] R (Fr) (fun v l' => v = .int .i64 r ∧ Fr = l') := by
  subst hn0_1; subst hn1_1; refine Spec.of Go.Proofs.Tryz.func33 rfl rfl ?_; unfold lts_byName.f at hrun; have hrun := brun hrun; refine At.seq ?_; refine At.region ?_; refine At.box rfl rfl (cs := [.string ⟨(a0_0).toArray⟩, .slice A0_1 a0_1.length c0_1]) rfl rfl (fun b254 => ?_); refine At.box rfl rfl (cs := [.string ⟨(a1_0).toArray⟩, .slice A1_1 a1_1.length c1_1]) rfl rfl (fun b255 => ?_); refine At.run 1 rfl ?_; refine At.nil ?_; refine At.thn ?_; refine At.seq ?_; refine At.region ?_; refine At.run 1 rfl ?_; refine At.y (Y.load rfl rfl (.s .z) rfl rfl rfl) rfl rfl rfl ?_; refine At.run 1 rfl ?_; refine At.y (Y.load rfl rfl .z rfl rfl rfl) rfl rfl rfl ?_; obtain ⟨t256, hc257, hrun⟩ := bbind hrun; refine At.call rfl strings_Compare.callee rfl rfl rfl (strings_Compare.spec _ _  a0_0 a1_0  hc257) ?_; rintro _ _ ⟨rfl, rfl⟩; refine At.run 1 rfl ?_; refine At.nil ?_; refine At.thn ?_; refine At.ret ?_; refine At.drop .z ?_; refine At.drop .z ?_; obtain rfl := (bret hrun).symm; exact At.res (.inl rfl) rfl rfl ⟨rfl, rfl⟩

noncomputable def lts_rises_api_Prop.l0b (a0 : List api_Prop) (x853 : Int) : Option ((Int) ⊕ ((Unit) ⊕ (Bool))) :=
  if x853 < (a0.length : Int) then
    if (0 : Int) ≤ IntKind.i64.wrap (x853 - 1) ∧ IntKind.i64.wrap (x853 - 1) < (a0.length : Int) then
      if (0 : Int) ≤ x853 ∧ x853 < (a0.length : Int) then
        (lts_byName.f ((gt a0 (IntKind.i64.wrap (x853 - 1))).Name) ((gt a0 (IntKind.i64.wrap (x853 - 1))).States) ((gt a0 x853).Name) ((gt a0 x853).States)).bind fun t1082 =>
          if 0 ≤ t1082 then
            upL (some false)
          else
            nx (IntKind.i64.wrap (x853 + 1))
      else none
    else none
  else
    dn (.inl ())
noncomputable def lts_rises_api_Prop.l0 (a0 : List api_Prop) (x853 : Int) : Option ((Unit) ⊕ (Bool)) := iter (fun t_ : Int => lts_rises_api_Prop.l0b a0 t_) x853
noncomputable def lts_rises_api_Prop.f (a0 : List api_Prop) : Option Bool :=
  jn (lts_rises_api_Prop.l0 a0 1) (fun (_ : Unit) =>
    some true)
theorem lts_rises_api_Prop.callee : Callee Go.Proofs.Tryz.prog 32 := ⟨_, Go.Proofs.Tryz.func32, by kernel_rfl, by kernel_rfl⟩
set_option maxRecDepth 100000 in
set_option maxHeartbeats 2000000 in
theorem lts_rises_api_Prop.spec (R : Res) (Fr : List HProp) (A0 : Option Addr) (n0 : Nat) (c0 : Nat) (a0 : List api_Prop) (hr0 : RdS api_Prop.rep R.heap A0 a0) (hn0 : a0.length = n0) (hc0 : n0 ≤ c0) {r : Bool} (hrun : lts_rises_api_Prop.f a0 = some r) :
    Spec Go.Proofs.Tryz.prog 32 [.slice A0 n0 c0, .func (.func 33) #[] #[]] R (Fr) (fun v l' => v = .bool r ∧ Fr = l') := by
  subst hn0; refine Spec.of Go.Proofs.Tryz.func32 rfl rfl ?_; unfold lts_rises_api_Prop.f at hrun; have hrun := brun hrun; refine At.seq ?_; refine At.region ?_; refine At.run 1 rfl ?_; refine At.nil ?_; refine At.thn ?_; refine At.seq ?_; refine At.seq ?_; refine At.region ?_; refine At.run 1 rfl ?_; refine At.nil ?_; refine At.thn ?_; refine At.block ?_; obtain ⟨G1054, hl1055, hr1056, hrun⟩ := bjoin hrun; obtain ⟨o1057, hlo1058, ho1059⟩ := bsome hrun; clear hrun; unfold lts_rises_api_Prop.l0 at hlo1058; obtain ⟨m1060, hit1062⟩ := iter_some.1 hlo1058; clear hlo1058; refine At.loopJ (X := Int) (Y := Unit) (e0 := 0) (fun x853 => [(0, .slice A0 a0.length c0), (1, .func (.func 33) #[] #[]), (5, .int .i64 x853)]) (fun x853 => Fr) (fun m_ => fun x853 => iterN (fun t_ : Int => lts_rises_api_Prop.l0b a0 t_) m_ x853 = some o1057) m1060 1 hit1062 (fun _ => []) (fun _ => Fr) (fun _ => G1054 (.inl ()) = some r) (fun a w e hs => ⟨e.sub ⟨rfl, rfl, rfl, trivial⟩, (by exact hs)⟩) ?_ (fun J1064 => ?_)
  · rintro _ hrun; have hrun := (hl1055 _).symm.trans hrun
    · refine At.ibx ?_; refine At.thn ?_; refine At.seq ?_; refine At.region ?_; refine At.run 1 rfl ?_; refine At.nil ?_; refine At.thn ?_; refine At.ret ?_; obtain rfl := (bret hrun).symm; exact At.res (.inl rfl) rfl rfl ⟨rfl, rfl⟩
  · clear hit1062 m1060; rintro m1060 x853 hit1062; obtain ⟨m1061, f_, hlt1063, hf_, hrun⟩ := bit hit1062; clear hit1062; have hrun : (lts_rises_api_Prop.l0b a0 x853).bind _ = some o1057 := hrun; unfold lts_rises_api_Prop.l0b at hrun
    · refine At.seq ?_; refine At.seq ?_; refine At.region ?_; refine At.run 4 rfl ?_; refine At.nil ?_; refine At.thn ?_; rcases bite hrun with ⟨h1065, hrun⟩ | ⟨h1065, hrun⟩
      · · refine At.condT rfl (decide_eq_true h1065) ?_
          refine At.skip ?_; refine At.thn ?_; refine At.seq ?_; refine At.block ?_; refine At.seq ?_; refine At.quiet (by kernel_rfl) ?_; refine At.Quiet.run 4 rfl ?_; obtain ⟨h1066, hrun⟩ := bnone hrun; refine At.Quiet.y (Y.ixRd hr0 rfl rfl rfl rfl rfl rfl rfl h1066.1 h1066.2) rfl rfl rfl ?_; obtain ⟨cs1067, hK1068, hy1069⟩ := RdS.whole (P := Go.Proofs.Tryz.prog) hr0 (Sub.refl _) rfl h1066.1 h1066.2; obtain ⟨_, _, rfl, rfl, ⟨A1070, c1071, rfl, hc1072, hr1073⟩⟩ := hK1068; refine At.Quiet.y (hy1069 rfl rfl rfl rfl) rfl rfl rfl ?_; refine At.Quiet.run 2 rfl ?_; obtain ⟨h1074, hrun⟩ := bnone hrun; refine At.Quiet.y (Y.ixRd hr0 rfl rfl rfl rfl rfl rfl rfl h1074.1 h1074.2) rfl rfl rfl ?_; obtain ⟨cs1075, hK1076, hy1077⟩ := RdS.whole (P := Go.Proofs.Tryz.prog) hr0 (Sub.refl _) rfl h1074.1 h1074.2; obtain ⟨_, _, rfl, rfl, ⟨A1078, c1079, rfl, hc1080, hr1081⟩⟩ := hK1076; refine At.Quiet.y (hy1077 rfl rfl rfl rfl) rfl rfl rfl ?_; obtain ⟨t1082, hc1083, hrun⟩ := bbind hrun; refine At.Quiet.call rfl lts_byName.callee rfl rfl rfl (lts_byName.spec _ _ A1070 ((gt a0 (IntKind.i64.wrap (x853 - 1))).States.length) c1071 A1078 ((gt a0 x853).States.length) c1079 ((gt a0 (IntKind.i64.wrap (x853 - 1))).Name) ((gt a0 (IntKind.i64.wrap (x853 - 1))).States) ((gt a0 x853).Name) ((gt a0 x853).States) hr1073 rfl hc1072 hr1081 rfl hc1080 hc1083) (fun _ _ h_ => ⟨h_.1, fun _ hs => h_.2 ▸ hs⟩) ?_; refine At.Quiet.run 1 rfl ?_; refine At.Quiet.nil ?_; refine At.thn ?_; rcases bite hrun with ⟨h1084, hrun⟩ | ⟨h1084, hrun⟩
          · · refine At.condT rfl (decide_eq_true h1084) ?_
              refine At.seq ?_; refine At.region ?_; refine At.run 1 rfl ?_; refine At.nil ?_; refine At.thn ?_; refine At.ret ?_; refine At.ibr ?_; refine At.thr ?_; have hrun := bupL hr1056 ho1059 hrun; refine At.thr ?_; refine At.ibr ?_; refine At.thr ?_; obtain rfl := (bret hrun).symm; exact At.res (.inl rfl) rfl rfl ⟨rfl, rfl⟩
          · · refine At.condF rfl (decide_eq_false h1084) ?_
              refine At.skip ?_; refine At.ibn ?_; refine At.thn ?_; refine At.region ?_; refine At.run 3 rfl ?_; refine At.nil ?_; have hrun := bnx hf_ hrun; exact fun a w e hs => ⟨m1061, (IntKind.i64.wrap (x853 + 1)), hlt1063, hrun, e.sub ⟨rfl, rfl, rfl, trivial⟩, hs⟩
      · · refine At.condF rfl (decide_eq_false h1065) ?_
          refine At.exit ?_; refine At.the ?_; refine At.the ?_; exact fun a w e hs => J1064 () (bdn hrun ho1059) a w (e.sub trivial) hs

noncomputable def lts_Right.l1b (a0_0 : Int) (a0_1 : List Bs) (a0_2 : List api_Edge) (a0_3 : List api_Prop) (x2493 : Int) : Option ((Int) ⊕ ((Unit) ⊕ (Bool))) :=
  if x2493 < (a0_3.length : Int) then
    if (0 : Int) ≤ x2493 ∧ x2493 < (a0_3.length : Int) then
      (lts_name.f ((gt a0_3 x2493).Name)).bind fun t3343 =>
        jn (
          if t3343 = true then
            (lts_rises_int.f ((gt a0_3 x2493).States)).bind fun t3760 =>
              some (.inl (!t3760))
          else
            some (.inl true)) (fun (x3545 : Bool) =>
          jn (
            if x3545 = true then
              some (.inl true)
            else
              (slices_ContainsFunc_int_int.f ((gt a0_3 x2493).States) a0_0 a0_1 a0_2 a0_3).bind fun t3757 =>
                some (.inl t3757)) (fun (x3750 : Bool) =>
            if x3750 = true then
              upL (some false)
            else
              nx (IntKind.i64.wrap (x2493 + 1))))
    else none
  else
    dn (.inl ())
noncomputable def lts_Right.l1 (a0_0 : Int) (a0_1 : List Bs) (a0_2 : List api_Edge) (a0_3 : List api_Prop) (x2493 : Int) : Option ((Unit) ⊕ (Bool)) := iter (fun t_ : Int => lts_Right.l1b a0_0 a0_1 a0_2 a0_3 t_) x2493
noncomputable def lts_Right.l0b (a0_0 : Int) (a0_1 : List Bs) (a0_2 : List api_Edge) (a0_3 : List api_Prop) (x1678 : Int) (x1679 : Int) : Option ((Int × Int) ⊕ ((Int) ⊕ (Bool))) :=
  if x1679 < (a0_2.length : Int) then
    if (0 : Int) ≤ x1679 ∧ x1679 < (a0_2.length : Int) then
      (lts_Right_1.f ((gt a0_2 x1679).From) a0_0 a0_1 a0_2 a0_3).bind fun t3765 =>
        jn (
          if t3765 = true then
            (lts_Right_1.f ((gt a0_2 x1679).To) a0_0 a0_1 a0_2 a0_3).bind fun t4387 =>
              some (.inl (!t4387))
          else
            some (.inl true)) (fun (x3967 : Bool) =>
          jn (
            if x3967 = true then
              some (.inl true)
            else
              some (.inl (decide ((gt a0_2 x1679).Action < 0)))) (fun (x4172 : Bool) =>
            jn (
              if x4172 = true then
                some (.inl true)
              else
                some (.inl (decide ((a0_1.length : Int) ≤ (gt a0_2 x1679).Action)))) (fun (x4377 : Bool) =>
              if x4377 = true then
                upL (some false)
              else
                if (0 : Int) ≤ (gt a0_2 x1679).Action then
                  nx (bor .u8 x1678 (Bw.shl .u8 1 ((gt a0_2 x1679).Action)), IntKind.i64.wrap (x1679 + 1))
                else none)))
    else none
  else
    dn (.inl x1678)
noncomputable def lts_Right.l0 (a0_0 : Int) (a0_1 : List Bs) (a0_2 : List api_Edge) (a0_3 : List api_Prop) (x1678 : Int) (x1679 : Int) : Option ((Int) ⊕ (Bool)) := iter (fun t_ : Int × Int => lts_Right.l0b a0_0 a0_1 a0_2 a0_3 t_.1 t_.2) (x1678, x1679)
noncomputable def lts_Right.f (a0_0 : Int) (a0_1 : List Bs) (a0_2 : List api_Edge) (a0_3 : List api_Prop) : Option Bool :=
  jn (
    if a0_0 < 1 then
      some (.inl true)
    else
      some (.inl (decide (24 < a0_0)))) (fun (x454 : Bool) =>
    jn (
      if x454 = true then
        some (.inl true)
      else
        some (.inl (decide (8 < (a0_1.length : Int))))) (fun (x659 : Bool) =>
      jn (
        if x659 = true then
          some (.inl true)
        else
          some (.inl (decide (8 < (a0_3.length : Int))))) (fun (x864 : Bool) =>
        jn (
          if x864 = true then
            some (.inl true)
          else
            some (.inl (decide (200 < (a0_2.length : Int))))) (fun (x1069 : Bool) =>
          if x1069 = true then
            some false
          else
            jn (lts_Right.l0 a0_0 a0_1 a0_2 a0_3 0 0) (fun (x1880 : Int) =>
              jn (lts_Right.l1 a0_0 a0_1 a0_2 a0_3 0) (fun (_ : Unit) =>
                (slices_ContainsFunc_string_string.f a0_1).bind fun t2705 =>
                  jn (
                    if t2705 = true then
                      some (.inl true)
                    else
                      if (0 : Int) ≤ (a0_1.length : Int) then
                        some (.inl (!(decide (x1880 = IntKind.u8.wrap ((Bw.shl .u8 1 (a0_1.length : Int)) - 1)))))
                      else none) (fun (x2907 : Bool) =>
                    if x2907 = true then
                      some false
                    else
                      (lts_rises_api_Edge.f a0_2).bind fun t2913 =>
                        jn (
                          if t2913 = true then
                            (lts_rises_string.f a0_1).bind fun t3329 =>
                              some (.inl t3329)
                          else
                            some (.inl false)) (fun (x3115 : Bool) =>
                          jn (
                            if x3115 = true then
                              (lts_rises_api_Prop.f a0_3).bind fun t3326 =>
                                some (.inl t3326)
                            else
                              some (.inl false)) (fun (x3320 : Bool) =>
                            some x3320)))))))))
theorem lts_Right.callee : Callee Go.Proofs.Tryz.prog 8 := ⟨_, Go.Proofs.Tryz.func8, by kernel_rfl, by kernel_rfl⟩
set_option maxRecDepth 100000 in
set_option maxHeartbeats 2000000 in
theorem lts_Right.spec (R : Res) (Fr : List HProp) (A0_1 : Option Addr) (n0_1 : Nat) (c0_1 : Nat) (A0_2 : Option Addr) (n0_2 : Nat) (c0_2 : Nat) (A0_3 : Option Addr) (n0_3 : Nat) (c0_3 : Nat) (a0_0 : Int) (a0_1 : List Bs) (a0_2 : List api_Edge) (a0_3 : List api_Prop) (hr0_1 : RdS Fl.bs.rep R.heap A0_1 a0_1) (hn0_1 : a0_1.length = n0_1) (hc0_1 : n0_1 ≤ c0_1) (hr0_2 : RdS api_Edge.fl.rep R.heap A0_2 a0_2) (hn0_2 : a0_2.length = n0_2) (hc0_2 : n0_2 ≤ c0_2) (hr0_3 : RdS api_Prop.rep R.heap A0_3 a0_3) (hn0_3 : a0_3.length = n0_3) (hc0_3 : n0_3 ≤ c0_3) {r : Bool} (hrun : lts_Right.f a0_0 a0_1 a0_2 a0_3 = some r) :
    Spec Go.Proofs.Tryz.prog 8 [.agg #[.int .i64 a0_0, .slice A0_1 n0_1 c0_1, .slice A0_2 n0_2 c0_2, .slice A0_3 n0_3 c0_3]] R (Fr) (fun v l' => v = .bool r ∧ Fr = l') := by
  subst hn0_1; subst hn0_2; subst hn0_3; refine Spec.of Go.Proofs.Tryz.func8 rfl rfl ?_; unfold lts_Right.f at hrun; have hrun := brun hrun; refine At.seq ?_; refine At.region ?_; refine At.box rfl rfl (cs := [.int .i64 a0_0, .slice A0_1 a0_1.length c0_1, .slice A0_2 a0_2.length c0_2, .slice A0_3 a0_3.length c0_3]) rfl rfl (fun b253 => ?_); refine At.run 1 rfl ?_; refine At.nil ?_; refine At.thn ?_; refine At.seq ?_; refine At.seq ?_; refine At.region ?_; refine At.run 1 rfl ?_; refine At.y (Y.load rfl rfl .z rfl rfl rfl) rfl rfl rfl ?_; refine At.run 2 rfl ?_; obtain ⟨G455, hl456, hr457, hrun⟩ := bjoin hrun; refine At.joinO 4 (X := Bool) (fun x454 => [(1, .pointer (some ⟨b253, 0, none⟩)), (16, .bool x454)]) (fun x454 => pt b253 (.cells [.int .i64 a0_0, .slice A0_1 a0_1.length c0_1, .slice A0_2 a0_2.length c0_2, .slice A0_3 a0_3.length c0_3].toArray 26) :: Fr) (fun x454 => G455 (.inl x454) = some r) ?_ (fun J458 => ?_)
  · rintro x454 hrun; have hrun := (hl456 _).symm.trans hrun
    · refine At.run 1 rfl ?_; obtain ⟨G660, hl661, hr662, hrun⟩ := bjoin hrun; refine At.joinO 5 (X := Bool) (fun x659 => [(1, .pointer (some ⟨b253, 0, none⟩)), (22, .bool x659)]) (fun x659 => pt b253 (.cells [.int .i64 a0_0, .slice A0_1 a0_1.length c0_1, .slice A0_2 a0_2.length c0_2, .slice A0_3 a0_3.length c0_3].toArray 26) :: Fr) (fun x659 => G660 (.inl x659) = some r) ?_ (fun J663 => ?_)
      · rintro x659 hrun; have hrun := (hl661 _).symm.trans hrun
        · refine At.run 1 rfl ?_; obtain ⟨G865, hl866, hr867, hrun⟩ := bjoin hrun; refine At.joinO 5 (X := Bool) (fun x864 => [(1, .pointer (some ⟨b253, 0, none⟩)), (28, .bool x864)]) (fun x864 => pt b253 (.cells [.int .i64 a0_0, .slice A0_1 a0_1.length c0_1, .slice A0_2 a0_2.length c0_2, .slice A0_3 a0_3.length c0_3].toArray 26) :: Fr) (fun x864 => G865 (.inl x864) = some r) ?_ (fun J868 => ?_)
          · rintro x864 hrun; have hrun := (hl866 _).symm.trans hrun
            · refine At.run 1 rfl ?_; obtain ⟨G1070, hl1071, hr1072, hrun⟩ := bjoin hrun; refine At.joinO 5 (X := Bool) (fun x1069 => [(1, .pointer (some ⟨b253, 0, none⟩)), (34, .bool x1069)]) (fun x1069 => pt b253 (.cells [.int .i64 a0_0, .slice A0_1 a0_1.length c0_1, .slice A0_2 a0_2.length c0_2, .slice A0_3 a0_3.length c0_3].toArray 26) :: Fr) (fun x1069 => G1070 (.inl x1069) = some r) ?_ (fun J1073 => ?_)
              · rintro x1069 hrun; have hrun := (hl1071 _).symm.trans hrun
                · refine At.nil ?_; refine At.thn ?_; rcases bite hrun with ⟨h1074, hrun⟩ | ⟨h1074, hrun⟩
                  · · refine At.condT rfl h1074 ?_
                      refine At.seq ?_; refine At.region ?_; refine At.run 1 rfl ?_; refine At.nil ?_; refine At.thn ?_; refine At.ret ?_; refine At.thr ?_; refine At.drop .z ?_; obtain rfl := (bret hrun).symm; exact At.res (.inl rfl) rfl rfl ⟨rfl, rfl⟩
                  · · refine At.condF rfl (bn h1074) ?_
                      refine At.skip ?_; refine At.thn ?_; refine At.seq ?_; refine At.region ?_; refine At.run 1 rfl ?_; refine At.alloc rfl rfl rfl (fun b1075 => ?_); refine At.store rfl rfl rfl rfl .z rfl rfl rfl (.c .n) ?_; refine At.nil ?_; refine At.thn ?_; refine At.seq ?_; refine At.region ?_; refine At.run 1 rfl ?_; refine At.nil ?_; refine At.thn ?_; refine At.seq ?_; refine At.seq ?_; refine At.region ?_; refine At.run 1 rfl ?_; refine At.y (Y.load rfl rfl (.s .z) rfl rfl rfl) rfl rfl rfl ?_; refine At.run 2 rfl ?_; refine At.nil ?_; refine At.thn ?_; refine At.block ?_; obtain ⟨G1881, hl1882, hr1883, hrun⟩ := bjoin hrun; obtain ⟨o1884, hlo1885, ho1886⟩ := bsome hrun; clear hrun; unfold lts_Right.l0 at hlo1885; obtain ⟨m1887, hit1889⟩ := iter_some.1 hlo1885; clear hlo1885; refine At.loopJ (X := Int × Int) (Y := Int) (e0 := 0) (fun s_ => [(1, .pointer (some ⟨b253, 0, none⟩)), (3, .pointer (some ⟨b1075, 0, none⟩)), (4, .int .u8 s_.1), (37, .slice A0_2 a0_2.length c0_2), (38, .int .i64 (a0_2.length : Int)), (39, .int .i64 s_.2)]) (fun s_ => pt b1075 (.cells [.func (.func 20) #[] #[.pointer (some ⟨b253, 0, none⟩)]].toArray 58) :: pt b253 (.cells [.int .i64 a0_0, .slice A0_1 a0_1.length c0_1, .slice A0_2 a0_2.length c0_2, .slice A0_3 a0_3.length c0_3].toArray 26) :: Fr) (fun m_ => fun s_ => iterN (fun t_ : Int × Int => lts_Right.l0b a0_0 a0_1 a0_2 a0_3 t_.1 t_.2) m_ (s_.1, s_.2) = some o1884) m1887 (0, 0) hit1889 (fun x1880 => [(1, .pointer (some ⟨b253, 0, none⟩)), (3, .pointer (some ⟨b1075, 0, none⟩)), (4, .int .u8 x1880)]) (fun x1880 => pt b1075 (.cells [.func (.func 20) #[] #[.pointer (some ⟨b253, 0, none⟩)]].toArray 58) :: pt b253 (.cells [.int .i64 a0_0, .slice A0_1 a0_1.length c0_1, .slice A0_2 a0_2.length c0_2, .slice A0_3 a0_3.length c0_3].toArray 26) :: Fr) (fun x1880 => G1881 (.inl x1880) = some r) (fun a w e hs => ⟨e.sub ⟨rfl, rfl, rfl, rfl, rfl, rfl, trivial⟩, (by exact hs)⟩) ?_ (fun J1891 => ?_)
                      · rintro x1880 hrun; have hrun := (hl1882 _).symm.trans hrun
                        · refine At.ibx ?_; refine At.thn ?_; refine At.seq ?_; refine At.seq ?_; refine At.region ?_; refine At.run 1 rfl ?_; refine At.y (Y.load rfl rfl (.s .z) rfl rfl rfl) rfl rfl rfl ?_; refine At.run 2 rfl ?_; refine At.nil ?_; refine At.thn ?_; refine At.block ?_; obtain ⟨G2694, hl2695, hr2696, hrun⟩ := bjoin hrun; obtain ⟨o2697, hlo2698, ho2699⟩ := bsome hrun; clear hrun; unfold lts_Right.l1 at hlo2698; obtain ⟨m2700, hit2702⟩ := iter_some.1 hlo2698; clear hlo2698; refine At.loopJ (X := Int) (Y := Unit) (e0 := 2) (fun x2493 => [(1, .pointer (some ⟨b253, 0, none⟩)), (3, .pointer (some ⟨b1075, 0, none⟩)), (4, .int .u8 x1880), (75, .slice A0_3 a0_3.length c0_3), (76, .int .i64 (a0_3.length : Int)), (77, .int .i64 x2493)]) (fun x2493 => pt b1075 (.cells [.func (.func 20) #[] #[.pointer (some ⟨b253, 0, none⟩)]].toArray 58) :: pt b253 (.cells [.int .i64 a0_0, .slice A0_1 a0_1.length c0_1, .slice A0_2 a0_2.length c0_2, .slice A0_3 a0_3.length c0_3].toArray 26) :: Fr) (fun m_ => fun x2493 => iterN (fun t_ : Int => lts_Right.l1b a0_0 a0_1 a0_2 a0_3 t_) m_ x2493 = some o2697) m2700 0 hit2702 (fun _ => [(1, .pointer (some ⟨b253, 0, none⟩)), (4, .int .u8 x1880)]) (fun _ => pt b1075 (.cells [.func (.func 20) #[] #[.pointer (some ⟨b253, 0, none⟩)]].toArray 58) :: pt b253 (.cells [.int .i64 a0_0, .slice A0_1 a0_1.length c0_1, .slice A0_2 a0_2.length c0_2, .slice A0_3 a0_3.length c0_3].toArray 26) :: Fr) (fun _ => G2694 (.inl ()) = some r) (fun a w e hs => ⟨e.sub ⟨rfl, rfl, rfl, rfl, rfl, rfl, trivial⟩, (by exact hs)⟩) ?_ (fun J2704 => ?_)
                          · rintro _ hrun; have hrun := (hl2695 _).symm.trans hrun
                            · refine At.ibx ?_; refine At.thn ?_; refine At.seq ?_; refine At.seq ?_; refine At.region ?_; refine At.run 1 rfl ?_; refine At.y (Y.load rfl rfl (.s .z) rfl rfl rfl) rfl rfl rfl ?_; obtain ⟨t2705, hc2706, hrun⟩ := bbind hrun; refine At.call rfl slices_ContainsFunc_string_string.callee rfl rfl rfl (slices_ContainsFunc_string_string.spec _ _ A0_1 a0_1.length c0_1 a0_1 hr0_1 rfl hc0_1 hc2706) ?_; rintro _ _ ⟨rfl, rfl⟩; refine At.run 1 rfl ?_; obtain ⟨G2908, hl2909, hr2910, hrun⟩ := bjoin hrun; refine At.joinO 8 (X := Bool) (fun x2907 => [(1, .pointer (some ⟨b253, 0, none⟩)), (109, .bool x2907)]) (fun x2907 => pt b1075 (.cells [.func (.func 20) #[] #[.pointer (some ⟨b253, 0, none⟩)]].toArray 58) :: pt b253 (.cells [.int .i64 a0_0, .slice A0_1 a0_1.length c0_1, .slice A0_2 a0_2.length c0_2, .slice A0_3 a0_3.length c0_3].toArray 26) :: Fr) (fun x2907 => G2908 (.inl x2907) = some r) ?_ (fun J2911 => ?_)
                              · rintro x2907 hrun; have hrun := (hl2909 _).symm.trans hrun
                                · refine At.nil ?_; refine At.thn ?_; rcases bite hrun with ⟨h2912, hrun⟩ | ⟨h2912, hrun⟩
                                  · · refine At.condT rfl h2912 ?_
                                      refine At.seq ?_; refine At.region ?_; refine At.run 1 rfl ?_; refine At.nil ?_; refine At.thn ?_; refine At.ret ?_; refine At.thr ?_; refine At.drop .z ?_; refine At.drop .z ?_; obtain rfl := (bret hrun).symm; exact At.res (.inl rfl) rfl rfl ⟨rfl, rfl⟩
                                  · · refine At.condF rfl (bn h2912) ?_
                                      refine At.skip ?_; refine At.thn ?_; refine At.seq ?_; refine At.region ?_; refine At.run 1 rfl ?_; refine At.y (Y.load rfl rfl (.s .z) rfl rfl rfl) rfl rfl rfl ?_; obtain ⟨t2913, hc2914, hrun⟩ := bbind hrun; refine At.call rfl lts_rises_api_Edge.callee rfl rfl rfl (lts_rises_api_Edge.spec _ _ A0_2 a0_2.length c0_2 a0_2 hr0_2 rfl hc0_2 hc2914) ?_; rintro _ _ ⟨rfl, rfl⟩; refine At.run 1 rfl ?_; obtain ⟨G3116, hl3117, hr3118, hrun⟩ := bjoin hrun; refine At.joinO 4 (X := Bool) (fun x3115 => [(1, .pointer (some ⟨b253, 0, none⟩)), (117, .bool x3115)]) (fun x3115 => pt b1075 (.cells [.func (.func 20) #[] #[.pointer (some ⟨b253, 0, none⟩)]].toArray 58) :: pt b253 (.cells [.int .i64 a0_0, .slice A0_1 a0_1.length c0_1, .slice A0_2 a0_2.length c0_2, .slice A0_3 a0_3.length c0_3].toArray 26) :: Fr) (fun x3115 => G3116 (.inl x3115) = some r) ?_ (fun J3119 => ?_)
                                      · rintro x3115 hrun; have hrun := (hl3117 _).symm.trans hrun
                                        · refine At.run 1 rfl ?_; obtain ⟨G3321, hl3322, hr3323, hrun⟩ := bjoin hrun; refine At.joinO 4 (X := Bool) (fun x3320 => [(122, .bool x3320)]) (fun x3320 => pt b1075 (.cells [.func (.func 20) #[] #[.pointer (some ⟨b253, 0, none⟩)]].toArray 58) :: pt b253 (.cells [.int .i64 a0_0, .slice A0_1 a0_1.length c0_1, .slice A0_2 a0_2.length c0_2, .slice A0_3 a0_3.length c0_3].toArray 26) :: Fr) (fun x3320 => G3321 (.inl x3320) = some r) ?_ (fun J3324 => ?_)
                                          · rintro x3320 hrun; have hrun := (hl3322 _).symm.trans hrun
                                            · refine At.run 1 rfl ?_; refine At.nil ?_; refine At.thn ?_; refine At.ret ?_; refine At.drop .z ?_; refine At.drop .z ?_; obtain rfl := (bret hrun).symm; exact At.res (.inl rfl) rfl rfl ⟨rfl, rfl⟩
                                          · · rcases bite hrun with ⟨h3325, hrun⟩ | ⟨h3325, hrun⟩
                                              · · refine At.know (t := 118) rfl h3325 ?_
                                                  refine At.run 1 rfl ?_; refine At.y (Y.load rfl rfl (.s .z) rfl rfl rfl) rfl rfl rfl ?_; obtain ⟨t3326, hc3327, hrun⟩ := bbind hrun; refine At.call rfl lts_rises_api_Prop.callee rfl rfl rfl (lts_rises_api_Prop.spec _ _ A0_3 a0_3.length c0_3 a0_3 hr0_3 rfl hc0_3 hc3327) ?_; rintro _ _ ⟨rfl, rfl⟩; refine At.run 1 rfl ?_; exact At.of (J3324 t3326 hrun) ⟨rfl, trivial⟩
                                              · · refine At.know (t := 118) rfl (bn h3325) ?_
                                                  refine At.run 4 rfl ?_; exact At.of (J3324 false hrun) ⟨rfl, trivial⟩
                                      · · rcases bite hrun with ⟨h3328, hrun⟩ | ⟨h3328, hrun⟩
                                          · · refine At.know (t := 113) rfl h3328 ?_
                                              refine At.run 1 rfl ?_; refine At.y (Y.load rfl rfl (.s .z) rfl rfl rfl) rfl rfl rfl ?_; obtain ⟨t3329, hc3330, hrun⟩ := bbind hrun; refine At.call rfl lts_rises_string.callee rfl rfl rfl (lts_rises_string.spec _ _ A0_1 a0_1.length c0_1 a0_1 hr0_1 rfl hc0_1 hc3330) ?_; rintro _ _ ⟨rfl, rfl⟩; refine At.run 1 rfl ?_; exact At.of (J3119 t3329 hrun) ⟨rfl, rfl, trivial⟩
                                          · · refine At.know (t := 113) rfl (bn h3328) ?_
                                              refine At.run 4 rfl ?_; exact At.of (J3119 false hrun) ⟨rfl, rfl, trivial⟩
                              · · rcases bite hrun with ⟨h3331, hrun⟩ | ⟨h3331, hrun⟩
                                  · · refine At.know (t := 101) rfl h3331 ?_
                                      refine At.run 8 rfl ?_; exact At.of (J2911 true hrun) ⟨rfl, rfl, trivial⟩
                                  · · refine At.know (t := 101) rfl (bn h3331) ?_
                                      refine At.run 2 rfl ?_; refine At.y (Y.load rfl rfl (.s .z) rfl rfl rfl) rfl rfl rfl ?_; refine At.run 1 rfl ?_; obtain ⟨h3332, hrun⟩ := bnone hrun; refine At.y (Y.shl rfl rfl h3332) rfl rfl rfl ?_; refine At.run 3 rfl ?_; exact At.of (J2911 (!(decide (x1880 = IntKind.u8.wrap ((Bw.shl .u8 1 (a0_1.length : Int)) - 1)))) hrun) ⟨rfl, rfl, trivial⟩
                          · clear hit2702 m2700; rintro m2700 x2493 hit2702; obtain ⟨m2701, f_, hlt2703, hf_, hrun⟩ := bit hit2702; clear hit2702; have hrun : (lts_Right.l1b a0_0 a0_1 a0_2 a0_3 x2493).bind _ = some o2697 := hrun; unfold lts_Right.l1b at hrun
                            · refine At.seq ?_; refine At.region ?_; refine At.run 1 rfl ?_; refine At.nil ?_; refine At.thn ?_; refine At.seq ?_; rcases bite hrun with ⟨h3333, hrun⟩ | ⟨h3333, hrun⟩
                              · · refine At.condT rfl (decide_eq_true h3333) ?_
                                  refine At.skip ?_; refine At.thn ?_; refine At.seq ?_; refine At.block ?_; refine At.seq ?_; refine At.region ?_; obtain ⟨h3334, hrun⟩ := bnone hrun; refine At.y (Y.ixRd hr0_3 rfl rfl rfl rfl rfl rfl rfl h3334.1 h3334.2) rfl rfl rfl ?_; obtain ⟨cs3335, hK3336, hy3337⟩ := RdS.whole (P := Go.Proofs.Tryz.prog) hr0_3 (Sub.refl _) rfl h3334.1 h3334.2; obtain ⟨_, _, rfl, rfl, ⟨A3338, c3339, rfl, hc3340, hr3341⟩⟩ := hK3336; refine At.y (hy3337 rfl rfl rfl rfl) rfl rfl rfl ?_; refine At.alloc rfl rfl rfl (fun b3342 => ?_); refine At.store rfl rfl rfl rfl .z rfl rfl rfl (.c (.c .n)) ?_; refine At.nil ?_; refine At.thn ?_; refine At.seq ?_; refine At.region ?_; refine At.run 1 rfl ?_; refine At.y (Y.load rfl rfl .z rfl rfl rfl) rfl rfl rfl ?_; obtain ⟨t3343, hc3344, hrun⟩ := bbind hrun; refine At.call rfl lts_name.callee rfl rfl rfl (lts_name.spec _ _  ((gt a0_3 x2493).Name)  hc3344) ?_; rintro _ _ ⟨rfl, rfl⟩; refine At.run 2 rfl ?_; obtain ⟨G3546, hl3547, hr3548, hrun⟩ := bjoin hrun; refine At.joinO 5 (X := Bool) (fun x3545 => [(1, .pointer (some ⟨b253, 0, none⟩)), (3, .pointer (some ⟨b1075, 0, none⟩)), (4, .int .u8 x1880), (8, .pointer (some ⟨b3342, 0, none⟩)), (75, .slice A0_3 a0_3.length c0_3), (76, .int .i64 (a0_3.length : Int)), (77, .int .i64 x2493), (90, .bool x3545)]) (fun x3545 => pt b3342 (.cells [.string ⟨((gt a0_3 x2493).Name).toArray⟩, .slice A3338 ((gt a0_3 x2493).States.length) c3339].toArray 57) :: pt b1075 (.cells [.func (.func 20) #[] #[.pointer (some ⟨b253, 0, none⟩)]].toArray 58) :: pt b253 (.cells [.int .i64 a0_0, .slice A0_1 a0_1.length c0_1, .slice A0_2 a0_2.length c0_2, .slice A0_3 a0_3.length c0_3].toArray 26) :: Fr) (fun x3545 => G3546 (.inl x3545) = some o2697) ?_ (fun J3549 => ?_)
                                  · rintro x3545 hrun; have hrun := (hl3547 _).symm.trans hrun
                                    · refine At.run 1 rfl ?_; obtain ⟨G3751, hl3752, hr3753, hrun⟩ := bjoin hrun; refine At.joinO 5 (X := Bool) (fun x3750 => [(1, .pointer (some ⟨b253, 0, none⟩)), (3, .pointer (some ⟨b1075, 0, none⟩)), (4, .int .u8 x1880), (75, .slice A0_3 a0_3.length c0_3), (76, .int .i64 (a0_3.length : Int)), (77, .int .i64 x2493), (96, .bool x3750)]) (fun x3750 => pt b3342 (.cells [.string ⟨((gt a0_3 x2493).Name).toArray⟩, .slice A3338 ((gt a0_3 x2493).States.length) c3339].toArray 57) :: pt b1075 (.cells [.func (.func 20) #[] #[.pointer (some ⟨b253, 0, none⟩)]].toArray 58) :: pt b253 (.cells [.int .i64 a0_0, .slice A0_1 a0_1.length c0_1, .slice A0_2 a0_2.length c0_2, .slice A0_3 a0_3.length c0_3].toArray 26) :: Fr) (fun x3750 => G3751 (.inl x3750) = some o2697) ?_ (fun J3754 => ?_)
                                      · rintro x3750 hrun; have hrun := (hl3752 _).symm.trans hrun
                                        · refine At.nil ?_; refine At.thn ?_; rcases bite hrun with ⟨h3755, hrun⟩ | ⟨h3755, hrun⟩
                                          · · refine At.condT rfl h3755 ?_
                                              refine At.seq ?_; refine At.region ?_; refine At.run 1 rfl ?_; refine At.nil ?_; refine At.thn ?_; refine At.ret ?_; refine At.ibr ?_; refine At.thr ?_; have hrun := bupL hr2696 ho2699 hrun; refine At.thr ?_; refine At.ibr ?_; refine At.thr ?_; refine At.drop .z ?_; refine At.drop .z ?_; refine At.drop .z ?_; obtain rfl := (bret hrun).symm; exact At.res (.inl rfl) rfl rfl ⟨rfl, rfl⟩
                                          · · refine At.condF rfl (bn h3755) ?_
                                              refine At.skip ?_; refine At.ibn ?_; refine At.thn ?_; refine At.region ?_; refine At.run 2 rfl ?_; refine At.nil ?_; refine At.drop .z ?_; have hrun := bnx hf_ hrun; exact fun a w e hs => ⟨m2701, (IntKind.i64.wrap (x2493 + 1)), hlt2703, hrun, e.sub ⟨rfl, rfl, rfl, rfl, rfl, rfl, trivial⟩, hs⟩
                                      · · rcases bite hrun with ⟨h3756, hrun⟩ | ⟨h3756, hrun⟩
                                          · · refine At.know (t := 91) rfl h3756 ?_
                                              refine At.run 5 rfl ?_; exact At.of (J3754 true hrun) ⟨rfl, rfl, rfl, rfl, rfl, rfl, rfl, trivial⟩
                                          · · refine At.know (t := 91) rfl (bn h3756) ?_
                                              refine At.run 1 rfl ?_; refine At.y (Y.load rfl rfl .z rfl rfl rfl) rfl rfl rfl ?_; refine At.run 1 rfl ?_; refine At.frt (.s (.s .z)) ?_; refine At.frt (.s (.s .z)) ?_; obtain ⟨t3757, hc3758, hrun⟩ := bbind hrun; refine At.call rfl slices_ContainsFunc_int_int.callee rfl rfl rfl (slices_ContainsFunc_int_int.spec _ _ A3338 ((gt a0_3 x2493).States.length) c3339 b1075 b253 A0_1 a0_1.length c0_1 A0_2 a0_2.length c0_2 A0_3 a0_3.length c0_3 ((gt a0_3 x2493).States) a0_0 a0_1 a0_2 a0_3 hr3341 rfl hc3340 hr0_1 rfl hc0_1 hr0_2 rfl hc0_2 hr0_3 rfl hc0_3 hc3758) ?_; rintro _ _ ⟨rfl, rfl⟩; refine At.run 1 rfl ?_; refine At.frt (.s .z) ?_; refine At.frt (.s .z) ?_; refine At.frt (.s (.s .z)) ?_; exact At.of (J3754 t3757 hrun) ⟨rfl, rfl, rfl, rfl, rfl, rfl, rfl, trivial⟩
                                  · · rcases bite hrun with ⟨h3759, hrun⟩ | ⟨h3759, hrun⟩
                                      · · refine At.know (t := 85) rfl (nf h3759) ?_
                                          refine At.run 1 rfl ?_; refine At.y (Y.load rfl rfl .z rfl rfl rfl) rfl rfl rfl ?_; obtain ⟨t3760, hc3761, hrun⟩ := bbind hrun; refine At.call rfl lts_rises_int.callee rfl rfl rfl (lts_rises_int.spec _ _ A3338 ((gt a0_3 x2493).States.length) c3339 ((gt a0_3 x2493).States) hr3341 rfl hc3340 hc3761) ?_; rintro _ _ ⟨rfl, rfl⟩; refine At.run 2 rfl ?_; exact At.of (J3549 (!t3760) hrun) ⟨rfl, rfl, rfl, rfl, rfl, rfl, rfl, rfl, trivial⟩
                                      · · refine At.know (t := 85) rfl (nt (bn h3759)) ?_
                                          refine At.run 5 rfl ?_; exact At.of (J3549 true hrun) ⟨rfl, rfl, rfl, rfl, rfl, rfl, rfl, rfl, trivial⟩
                              · · refine At.condF rfl (decide_eq_false h3333) ?_
                                  refine At.exit ?_; refine At.the ?_; refine At.the ?_; exact fun a w e hs => J2704 () (bdn hrun ho2699) a w (e.sub ⟨rfl, rfl, trivial⟩) hs
                      · clear hit1889 m1887; rintro m1887 ⟨x1678, x1679⟩ hit1889; obtain ⟨m1888, f_, hlt1890, hf_, hrun⟩ := bit hit1889; clear hit1889; have hrun : (lts_Right.l0b a0_0 a0_1 a0_2 a0_3 x1678 x1679).bind _ = some o1884 := hrun; unfold lts_Right.l0b at hrun
                        · refine At.seq ?_; refine At.region ?_; refine At.run 1 rfl ?_; refine At.nil ?_; refine At.thn ?_; refine At.seq ?_; rcases bite hrun with ⟨h3762, hrun⟩ | ⟨h3762, hrun⟩
                          · · refine At.condT rfl (decide_eq_true h3762) ?_
                              refine At.skip ?_; refine At.thn ?_; refine At.seq ?_; refine At.block ?_; refine At.seq ?_; refine At.region ?_; obtain ⟨h3763, hrun⟩ := bnone hrun; refine At.y (Y.ixRd hr0_2 rfl rfl rfl rfl rfl rfl rfl h3763.1 h3763.2) rfl rfl rfl ?_; refine At.y (Y.ldFl hr0_2 rfl (q := 0) rfl rfl h3763.1 h3763.2 rfl rfl rfl) rfl rfl rfl ?_; refine At.alloc rfl rfl rfl (fun b3764 => ?_); refine At.store rfl rfl rfl rfl .z rfl rfl rfl (.c (.c (.c .n))) ?_; refine At.nil ?_; refine At.thn ?_; refine At.seq ?_; refine At.seq ?_; refine At.region ?_; refine At.y (Y.load rfl rfl (.s .z) rfl rfl rfl) rfl rfl rfl ?_; refine At.run 1 rfl ?_; refine At.y (Y.load rfl rfl .z rfl rfl rfl) rfl rfl rfl ?_; refine At.frt (.s (.s .z)) ?_; obtain ⟨t3765, hc3766, hrun⟩ := bbind hrun; refine At.call rfl lts_Right_1.callee rfl rfl rfl (lts_Right_1.spec _ _ b253 A0_1 a0_1.length c0_1 A0_2 a0_2.length c0_2 A0_3 a0_3.length c0_3 ((gt a0_2 x1679).From) a0_0 a0_1 a0_2 a0_3 hr0_1 rfl hc0_1 hr0_2 rfl hc0_2 hr0_3 rfl hc0_3 hc3766) ?_; rintro _ _ ⟨rfl, rfl⟩; refine At.run 2 rfl ?_; obtain ⟨G3968, hl3969, hr3970, hrun⟩ := bjoin hrun; refine At.joinO 6 (X := Bool) (fun x3967 => [(1, .pointer (some ⟨b253, 0, none⟩)), (3, .pointer (some ⟨b1075, 0, none⟩)), (4, .int .u8 x1678), (6, .pointer (some ⟨b3764, 0, none⟩)), (37, .slice A0_2 a0_2.length c0_2), (38, .int .i64 (a0_2.length : Int)), (39, .int .i64 x1679), (54, .bool x3967)]) (fun x3967 => pt b253 (.cells [.int .i64 a0_0, .slice A0_1 a0_1.length c0_1, .slice A0_2 a0_2.length c0_2, .slice A0_3 a0_3.length c0_3].toArray 26) :: pt b3764 (.cells [.int .i64 ((gt a0_2 x1679).From), .int .i64 ((gt a0_2 x1679).Action), .int .i64 ((gt a0_2 x1679).To)].toArray 54) :: pt b1075 (.cells [.func (.func 20) #[] #[.pointer (some ⟨b253, 0, none⟩)]].toArray 58) :: Fr) (fun x3967 => G3968 (.inl x3967) = some o1884) ?_ (fun J3971 => ?_)
                              · rintro x3967 hrun; have hrun := (hl3969 _).symm.trans hrun
                                · refine At.run 1 rfl ?_; obtain ⟨G4173, hl4174, hr4175, hrun⟩ := bjoin hrun; refine At.joinO 4 (X := Bool) (fun x4172 => [(1, .pointer (some ⟨b253, 0, none⟩)), (3, .pointer (some ⟨b1075, 0, none⟩)), (4, .int .u8 x1678), (6, .pointer (some ⟨b3764, 0, none⟩)), (37, .slice A0_2 a0_2.length c0_2), (38, .int .i64 (a0_2.length : Int)), (39, .int .i64 x1679), (59, .bool x4172)]) (fun x4172 => pt b253 (.cells [.int .i64 a0_0, .slice A0_1 a0_1.length c0_1, .slice A0_2 a0_2.length c0_2, .slice A0_3 a0_3.length c0_3].toArray 26) :: pt b3764 (.cells [.int .i64 ((gt a0_2 x1679).From), .int .i64 ((gt a0_2 x1679).Action), .int .i64 ((gt a0_2 x1679).To)].toArray 54) :: pt b1075 (.cells [.func (.func 20) #[] #[.pointer (some ⟨b253, 0, none⟩)]].toArray 58) :: Fr) (fun x4172 => G4173 (.inl x4172) = some o1884) ?_ (fun J4176 => ?_)
                                  · rintro x4172 hrun; have hrun := (hl4174 _).symm.trans hrun
                                    · refine At.run 1 rfl ?_; obtain ⟨G4378, hl4379, hr4380, hrun⟩ := bjoin hrun; refine At.joinO 7 (X := Bool) (fun x4377 => [(1, .pointer (some ⟨b253, 0, none⟩)), (3, .pointer (some ⟨b1075, 0, none⟩)), (4, .int .u8 x1678), (6, .pointer (some ⟨b3764, 0, none⟩)), (37, .slice A0_2 a0_2.length c0_2), (38, .int .i64 (a0_2.length : Int)), (39, .int .i64 x1679), (67, .bool x4377)]) (fun x4377 => pt b253 (.cells [.int .i64 a0_0, .slice A0_1 a0_1.length c0_1, .slice A0_2 a0_2.length c0_2, .slice A0_3 a0_3.length c0_3].toArray 26) :: pt b3764 (.cells [.int .i64 ((gt a0_2 x1679).From), .int .i64 ((gt a0_2 x1679).Action), .int .i64 ((gt a0_2 x1679).To)].toArray 54) :: pt b1075 (.cells [.func (.func 20) #[] #[.pointer (some ⟨b253, 0, none⟩)]].toArray 58) :: Fr) (fun x4377 => G4378 (.inl x4377) = some o1884) ?_ (fun J4381 => ?_)
                                      · rintro x4377 hrun; have hrun := (hl4379 _).symm.trans hrun
                                        · refine At.nil ?_; refine At.thn ?_; rcases bite hrun with ⟨h4382, hrun⟩ | ⟨h4382, hrun⟩
                                          · · refine At.condT rfl h4382 ?_
                                              refine At.seq ?_; refine At.region ?_; refine At.run 1 rfl ?_; refine At.nil ?_; refine At.thn ?_; refine At.ret ?_; refine At.thr ?_; refine At.ibr ?_; refine At.thr ?_; have hrun := bupL hr1883 ho1886 hrun; refine At.thr ?_; refine At.ibr ?_; refine At.thr ?_; refine At.drop .z ?_; refine At.drop .z ?_; refine At.drop .z ?_; obtain rfl := (bret hrun).symm; exact At.res (.inl rfl) rfl rfl ⟨rfl, rfl⟩
                                          · · refine At.condF rfl (bn h4382) ?_
                                              refine At.skip ?_; refine At.thn ?_; refine At.region ?_; refine At.run 2 rfl ?_; refine At.y (Y.load rfl rfl (.s .z) rfl rfl rfl) rfl rfl rfl ?_; obtain ⟨h4383, hrun⟩ := bnone hrun; refine At.y (Y.shl rfl rfl h4383) rfl rfl rfl ?_; refine At.run 2 rfl ?_; refine At.nil ?_; refine At.ibn ?_; refine At.thn ?_; refine At.region ?_; refine At.run 2 rfl ?_; refine At.nil ?_; refine At.drop (.s .z) ?_; refine At.frt (.s .z) ?_; have hrun := bnx hf_ hrun; exact fun a w e hs => ⟨m1888, (bor .u8 x1678 (Bw.shl .u8 1 ((gt a0_2 x1679).Action)), IntKind.i64.wrap (x1679 + 1)), hlt1890, hrun, e.sub ⟨rfl, rfl, rfl, rfl, rfl, rfl, trivial⟩, hs⟩
                                      · · rcases bite hrun with ⟨h4384, hrun⟩ | ⟨h4384, hrun⟩
                                          · · refine At.know (t := 60) rfl h4384 ?_
                                              refine At.run 7 rfl ?_; exact At.of (J4381 true hrun) ⟨rfl, rfl, rfl, rfl, rfl, rfl, rfl, rfl, trivial⟩
                                          · · refine At.know (t := 60) rfl (bn h4384) ?_
                                              refine At.run 1 rfl ?_; refine At.y (Y.load rfl rfl (.s .z) rfl rfl rfl) rfl rfl rfl ?_; refine At.run 1 rfl ?_; refine At.y (Y.load rfl rfl .z rfl rfl rfl) rfl rfl rfl ?_; refine At.run 3 rfl ?_; exact At.of (J4381 (decide ((a0_1.length : Int) ≤ (gt a0_2 x1679).Action)) hrun) ⟨rfl, rfl, rfl, rfl, rfl, rfl, rfl, rfl, trivial⟩
                                  · · rcases bite hrun with ⟨h4385, hrun⟩ | ⟨h4385, hrun⟩
                                      · · refine At.know (t := 55) rfl h4385 ?_
                                          refine At.run 4 rfl ?_; exact At.of (J4176 true hrun) ⟨rfl, rfl, rfl, rfl, rfl, rfl, rfl, rfl, trivial⟩
                                      · · refine At.know (t := 55) rfl (bn h4385) ?_
                                          refine At.run 1 rfl ?_; refine At.y (Y.load rfl rfl (.s .z) rfl rfl rfl) rfl rfl rfl ?_; refine At.run 2 rfl ?_; exact At.of (J4176 (decide ((gt a0_2 x1679).Action < 0)) hrun) ⟨rfl, rfl, rfl, rfl, rfl, rfl, rfl, rfl, trivial⟩
                              · · rcases bite hrun with ⟨h4386, hrun⟩ | ⟨h4386, hrun⟩
                                  · · refine At.know (t := 48) rfl (nf h4386) ?_
                                      refine At.y (Y.load rfl rfl (.s (.s .z)) rfl rfl rfl) rfl rfl rfl ?_; refine At.run 1 rfl ?_; refine At.y (Y.load rfl rfl (.s .z) rfl rfl rfl) rfl rfl rfl ?_; obtain ⟨t4387, hc4388, hrun⟩ := bbind hrun; refine At.call rfl lts_Right_1.callee rfl rfl rfl (lts_Right_1.spec _ _ b253 A0_1 a0_1.length c0_1 A0_2 a0_2.length c0_2 A0_3 a0_3.length c0_3 ((gt a0_2 x1679).To) a0_0 a0_1 a0_2 a0_3 hr0_1 rfl hc0_1 hr0_2 rfl hc0_2 hr0_3 rfl hc0_3 hc4388) ?_; rintro _ _ ⟨rfl, rfl⟩; refine At.run 2 rfl ?_; exact At.of (J3971 (!t4387) hrun) ⟨rfl, rfl, rfl, rfl, rfl, rfl, rfl, rfl, trivial⟩
                                  · · refine At.know (t := 48) rfl (nt (bn h4386)) ?_
                                      refine At.run 6 rfl ?_; exact At.of (J3971 true hrun) ⟨rfl, rfl, rfl, rfl, rfl, rfl, rfl, rfl, trivial⟩
                          · · refine At.condF rfl (decide_eq_false h3762) ?_
                              refine At.exit ?_; refine At.the ?_; refine At.the ?_; exact fun a w e hs => J1891 x1678 (bdn hrun ho1886) a w (e.sub ⟨rfl, rfl, rfl, trivial⟩) hs
              · · rcases bite hrun with ⟨h4389, hrun⟩ | ⟨h4389, hrun⟩
                  · · refine At.know (t := 29) rfl h4389 ?_
                      refine At.run 5 rfl ?_; exact At.of (J1073 true hrun) ⟨rfl, rfl, trivial⟩
                  · · refine At.know (t := 29) rfl (bn h4389) ?_
                      refine At.run 1 rfl ?_; refine At.y (Y.load rfl rfl .z rfl rfl rfl) rfl rfl rfl ?_; refine At.run 3 rfl ?_; exact At.of (J1073 (decide (200 < (a0_2.length : Int))) hrun) ⟨rfl, rfl, trivial⟩
          · · rcases bite hrun with ⟨h4390, hrun⟩ | ⟨h4390, hrun⟩
              · · refine At.know (t := 23) rfl h4390 ?_
                  refine At.run 5 rfl ?_; exact At.of (J868 true hrun) ⟨rfl, rfl, trivial⟩
              · · refine At.know (t := 23) rfl (bn h4390) ?_
                  refine At.run 1 rfl ?_; refine At.y (Y.load rfl rfl .z rfl rfl rfl) rfl rfl rfl ?_; refine At.run 3 rfl ?_; exact At.of (J868 (decide (8 < (a0_3.length : Int))) hrun) ⟨rfl, rfl, trivial⟩
      · · rcases bite hrun with ⟨h4391, hrun⟩ | ⟨h4391, hrun⟩
          · · refine At.know (t := 17) rfl h4391 ?_
              refine At.run 5 rfl ?_; exact At.of (J663 true hrun) ⟨rfl, rfl, trivial⟩
          · · refine At.know (t := 17) rfl (bn h4391) ?_
              refine At.run 1 rfl ?_; refine At.y (Y.load rfl rfl .z rfl rfl rfl) rfl rfl rfl ?_; refine At.run 3 rfl ?_; exact At.of (J663 (decide (8 < (a0_1.length : Int))) hrun) ⟨rfl, rfl, trivial⟩
  · · rcases bite hrun with ⟨h4392, hrun⟩ | ⟨h4392, hrun⟩
      · · refine At.know (t := 12) rfl (decide_eq_true h4392) ?_
          refine At.run 4 rfl ?_; exact At.of (J458 true hrun) ⟨rfl, rfl, trivial⟩
      · · refine At.know (t := 12) rfl (decide_eq_false h4392) ?_
          refine At.run 1 rfl ?_; refine At.y (Y.load rfl rfl .z rfl rfl rfl) rfl rfl rfl ?_; refine At.run 2 rfl ?_; exact At.of (J458 (decide (24 < a0_0)) hrun) ⟨rfl, rfl, trivial⟩

end Go.Bw
