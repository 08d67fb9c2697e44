/- LtsPrints, part 2: walks and plain laws. Conditions: none. -/
import Derived.Test.YtbkooifhcekpmaaGreatDoorProg
import Derived.MapKept
import Derived.Test.YtbkooifhcekpmaaGreatDoorBwLtsPrintsA
set_option linter.unusedVariables false
set_option linter.unusedSimpArgs false
set_option linter.unusedSectionVars false
set_option maxRecDepth 100000
set_option maxHeartbeats 2000000
namespace Go.Bw
open Go Go.RowKit Go.Proofs
structure Q0 where
 From : Int
 Action : Int
 To : Int
deriving Inhabited, DecidableEq
def Q0.fl : Fl Q0 := ⟨3, fun x => [.int .i64 x.From, .int .i64 x.Action, .int .i64 x.To], fun _ => rfl, fun x u hu => by simp at hu; rcases hu with rfl | rfl | rfl <;> rfl, by decide⟩
structure Q1 where
 Name : Bs
 States : List Int
deriving Inhabited
def Q1.rep : Rep Q1 := ((Fl.bs.rep).pair (((Fl.int .i64).rep).slice)).iso (fun x => (x.Name, x.States))
def Q1.ow : Ow Q1 := ((Ow.fl Fl.bs).pair (Ow.sl (Fl.int .i64) 3)).iso (fun x => (x.Name, x.States))
theorem Q1.prj_Name : Prj Q1.rep 0 Fl.bs.rep (fun x => x.Name) := Prj.iso _ (Prj.fst (Prj.self _))
theorem Q1.prj_States : Prj Q1.rep 1 (((Fl.int .i64).rep).slice) (fun x => x.States) := Prj.iso _ (Prj.snd (Prj.self _))
theorem Q1.ent {x0 : Bs} {A1 : Option Addr} {n1 c1 : Nat} {x1 : List Int} : Ent [row (Fl.int .i64) 3 A1 n1 c1 x1] (Q1.ow.own ⟨x0, x1⟩ [.string ⟨(x0).toArray⟩, .slice A1 n1 c1]) := (Ent.pair (c1 := [.string ⟨(x0).toArray⟩]) (c2 := [.slice A1 n1 c1]) (Ent.fl Fl.bs rfl) (Ent.sl (Fl.int .i64)))
theorem bytealg_cmpstring.ext : ExtOk Tryz.prog 135 Extern.BytealgCompare.compare := ⟨_, Tryz.func135, by kernel_rfl, by kernel_rfl, by kernel_rfl, by kernel_rfl⟩

noncomputable def Q45.f (a0 a1_0 : Int) (a1_1 : List Bs) (a1_2 : List Q0) (a1_3 : List Q1) : Option Bool :=
 jn (
 if 0 ≤ a0 then
 some (.inl (decide (a0 < a1_0)))
 else
 some (.inl false)) (fun (x452 : Bool) =>
 some x452)
theorem Q45.callee : Callee Tryz.prog 46 := ⟨_, Tryz.func46, by kernel_rfl, by kernel_rfl⟩
theorem Q45.spec (R : Res) (Fr : List HProp) (b1 : Nat) (A1_1 : Option Addr) (n1_1 : Nat) (c1_1 : Nat) (A1_2 : Option Addr) (n1_2 : Nat) (c1_2 : Nat) (A1_3 : Option Addr) (n1_3 : Nat) (c1_3 : Nat) (a0 : Int) (a1_0 : Int) (a1_1 : List Bs) (a1_2 : List Q0) (a1_3 : List Q1) (hr1_1 : RdS Fl.bs.rep R.heap A1_1 a1_1) (hn1_1 : a1_1.length = n1_1) (hc1_1 : n1_1 ≤ c1_1) (hr1_2 : RdS Q0.fl.rep R.heap A1_2 a1_2) (hn1_2 : a1_2.length = n1_2) (hc1_2 : n1_2 ≤ c1_2) (hr1_3 : RdS Q1.rep R.heap A1_3 a1_3) (hn1_3 : a1_3.length = n1_3) (hc1_3 : n1_3 ≤ c1_3) {r : Bool} (j : Q45.f a0 a1_0 a1_1 a1_2 a1_3 = some r) :
 Spec Tryz.prog 46 [.int .i64 a0, .pointer (some ⟨b1, 0, none⟩)] R (pt b1 (.cells [.int .i64 a1_0, .slice A1_1 n1_1 c1_1, .slice A1_2 n1_2 c1_2, .slice A1_3 n1_3 c1_3].toArray 26) :: Fr) (fun v l' => v = .bool r ∧ pt b1 (.cells [.int .i64 a1_0, .slice A1_1 n1_1 c1_1, .slice A1_2 n1_2 c1_2, .slice A1_3 n1_3 c1_3].toArray 26) :: Fr = l') := by
 subst hn1_1; subst hn1_2; subst hn1_3; refine Spec.of Tryz.func46 rfl rfl ?_; unfold Q45.f at j; have j := brun j; refine At.seq (At.region (At.run 1 rfl (At.nil (At.thn (At.seq (At.region (At.run 3 rfl ?_))))))); obtain ⟨G453, hl454, hr455, j⟩ := bjoin j; refine At.joinO 5 (X := Bool) (fun x452 => [(11, .bool x452)]) (fun x452 => pt b1 (.cells [.int .i64 a1_0, .slice A1_1 a1_1.length c1_1, .slice A1_2 a1_2.length c1_2, .slice A1_3 a1_3.length c1_3].toArray 26) :: Fr) (fun x452 => G453 (.inl x452) = some r) ?_ (fun J456 => ?_)
 ·rintro x452 j; have j := (hl454 _).symm.trans j
  ·refine At.run 1 rfl (At.nil (At.thn (At.ret ?_))); cases bret j; exact At.res (.inl rfl) rfl rfl ⟨rfl, rfl⟩
 ··rcases bite j with ⟨h457, j⟩ | ⟨h457, j⟩
   ··refine At.know (t := 6) rfl (decide_eq_true h457) ?_
     refine At.run 2 rfl (At.y (Y.load rfl rfl .z rfl rfl rfl) rfl rfl rfl (At.run 2 rfl ?_)); exact At.of (J456 (decide (a0 < a1_0)) j) ⟨rfl, trivial⟩
   ··refine At.know (t := 6) rfl (decide_eq_false h457) ?_
     refine At.run 5 rfl ?_; exact At.of (J456 false j) ⟨rfl, trivial⟩

noncomputable def Q63.f (a0 : Int) : Option Bool :=
 jn (
 if 97 ≤ a0 then
 some (.inl (decide (a0 ≤ 122)))
 else
 some (.inl false)) (fun (x452 : Bool) =>
 jn (
 if x452 = true then
 some (.inl true)
 else
 jn (
 if 65 ≤ a0 then
 some (.inl (decide (a0 ≤ 90)))
 else
 some (.inl false)) (fun (x1481 : Bool) =>
 some (.inl x1481))) (fun (x657 : Bool) =>
 jn (
 if x657 = true then
 some (.inl true)
 else
 jn (
 if 48 ≤ a0 then
 some (.inl (decide (a0 ≤ 57)))
 else
 some (.inl false)) (fun (x1274 : Bool) =>
 some (.inl x1274))) (fun (x862 : Bool) =>
 jn (
 if x862 = true then
 some (.inl true)
 else
 some (.inl (decide (a0 = 95)))) (fun (x1067 : Bool) =>
 some (!x1067)))))
theorem Q63.callee : Callee Tryz.prog 84 := ⟨_, Tryz.func84, by kernel_rfl, by kernel_rfl⟩
theorem Q63.spec (R : Res) (Fr : List HProp)  (a0 : Int)  {r : Bool} (j : Q63.f a0 = some r) :
 Spec Tryz.prog 84 [.int .i32 a0] R (Fr) (fun v l' => v = .bool r ∧ Fr = l') := by
 refine Spec.of Tryz.func84 rfl rfl ?_; unfold Q63.f at j; have j := brun j; refine At.seq (At.region (At.run 1 rfl (At.nil (At.thn (At.seq (At.region (At.run 3 rfl ?_))))))); obtain ⟨G453, hl454, hr455, j⟩ := bjoin j; refine At.joinO 3 (X := Bool) (fun x452 => [(0, .int .i32 a0), (8, .bool x452)]) (fun x452 => Fr) (fun x452 => G453 (.inl x452) = some r) ?_ (fun J456 => ?_)
 ·rintro x452 j; have j := (hl454 _).symm.trans j
  ·refine At.run 1 rfl ?_; obtain ⟨G658, hl659, hr660, j⟩ := bjoin j; refine At.joinO 7 (X := Bool) (fun x657 => [(0, .int .i32 a0), (16, .bool x657)]) (fun x657 => Fr) (fun x657 => G658 (.inl x657) = some r) ?_ (fun J661 => ?_)
   ·rintro x657 j; have j := (hl659 _).symm.trans j
    ·refine At.run 1 rfl ?_; obtain ⟨G863, hl864, hr865, j⟩ := bjoin j; refine At.joinO 7 (X := Bool) (fun x862 => [(0, .int .i32 a0), (24, .bool x862)]) (fun x862 => Fr) (fun x862 => G863 (.inl x862) = some r) ?_ (fun J866 => ?_)
     ·rintro x862 j; have j := (hl864 _).symm.trans j
      ·refine At.run 1 rfl ?_; obtain ⟨G1068, hl1069, hr1070, j⟩ := bjoin j; refine At.joinO 3 (X := Bool) (fun x1067 => [(28, .bool x1067)]) (fun x1067 => Fr) (fun x1067 => G1068 (.inl x1067) = some r) ?_ (fun J1071 => ?_)
       ·rintro x1067 j; have j := (hl1069 _).symm.trans j
        ·refine At.run 2 rfl (At.nil (At.thn (At.ret ?_))); cases bret j; exact At.res (.inl rfl) rfl rfl ⟨rfl, rfl⟩
       ··rcases bite j with ⟨h1072, j⟩ | ⟨h1072, j⟩
         ··refine At.know (t := 25) rfl h1072 ?_
           refine At.run 3 rfl ?_; exact At.of (J1071 true j) ⟨rfl, trivial⟩
         ··refine At.know (t := 25) rfl (bn h1072) ?_
           refine At.run 3 rfl ?_; exact At.of (J1071 (decide (a0 = 95)) j) ⟨rfl, trivial⟩
     ··rcases bite j with ⟨h1073, j⟩ | ⟨h1073, j⟩
       ··refine At.know (t := 17) rfl h1073 ?_
         refine At.run 7 rfl ?_; exact At.of (J866 true j) ⟨rfl, rfl, trivial⟩
       ··refine At.know (t := 17) rfl (bn h1073) ?_
         refine At.run 3 rfl ?_; obtain ⟨G1275, hl1276, hr1277, j⟩ := bjoin j; refine At.joinO 3 (X := Bool) (fun x1274 => [(0, .int .i32 a0), (17, .bool false), (23, .bool x1274)]) (fun x1274 => Fr) (fun x1274 => G1275 (.inl x1274) = some r) ?_ (fun J1278 => ?_)
         ·rintro x1274 j; have j := (hl1276 _).symm.trans j
          ·refine At.run 1 rfl ?_; exact At.of (J866 x1274 j) ⟨rfl, rfl, trivial⟩
         ··rcases bite j with ⟨h1279, j⟩ | ⟨h1279, j⟩
           ··refine At.know (t := 20) rfl (decide_eq_true h1279) ?_
             refine At.run 3 rfl ?_; exact At.of (J1278 (decide (a0 ≤ 57)) j) ⟨rfl, rfl, rfl, trivial⟩
           ··refine At.know (t := 20) rfl (decide_eq_false h1279) ?_
             refine At.run 3 rfl ?_; exact At.of (J1278 false j) ⟨rfl, rfl, rfl, trivial⟩
   ··rcases bite j with ⟨h1280, j⟩ | ⟨h1280, j⟩
     ··refine At.know (t := 9) rfl h1280 ?_
       refine At.run 7 rfl ?_; exact At.of (J661 true j) ⟨rfl, rfl, trivial⟩
     ··refine At.know (t := 9) rfl (bn h1280) ?_
       refine At.run 3 rfl ?_; obtain ⟨G1482, hl1483, hr1484, j⟩ := bjoin j; refine At.joinO 3 (X := Bool) (fun x1481 => [(0, .int .i32 a0), (9, .bool false), (15, .bool x1481)]) (fun x1481 => Fr) (fun x1481 => G1482 (.inl x1481) = some r) ?_ (fun J1485 => ?_)
       ·rintro x1481 j; have j := (hl1483 _).symm.trans j
        ·refine At.run 1 rfl ?_; exact At.of (J661 x1481 j) ⟨rfl, rfl, trivial⟩
       ··rcases bite j with ⟨h1486, j⟩ | ⟨h1486, j⟩
         ··refine At.know (t := 12) rfl (decide_eq_true h1486) ?_
           refine At.run 3 rfl ?_; exact At.of (J1485 (decide (a0 ≤ 90)) j) ⟨rfl, rfl, rfl, trivial⟩
         ··refine At.know (t := 12) rfl (decide_eq_false h1486) ?_
           refine At.run 3 rfl ?_; exact At.of (J1485 false j) ⟨rfl, rfl, rfl, trivial⟩
 ··rcases bite j with ⟨h1487, j⟩ | ⟨h1487, j⟩
   ··refine At.know (t := 5) rfl (decide_eq_true h1487) ?_
     refine At.run 3 rfl ?_; exact At.of (J456 (decide (a0 ≤ 122)) j) ⟨rfl, rfl, trivial⟩
   ··refine At.know (t := 5) rfl (decide_eq_false h1487) ?_
     refine At.run 3 rfl ?_; exact At.of (J456 false j) ⟨rfl, rfl, trivial⟩

noncomputable def Q30.l0b (a0 : Bs) (a2 : Bool) (x856 : Nat) : Option ((Nat) ⊕ ((Nat) ⊕ (Int))) :=
 if x856 < a0.length then
 (Q63.f (runeAt a0 x856)).bind fun t1070 =>
 if (t1070 == a2) = true then
 upL (some (x856 : Int))
 else
 nx (x856 + runeLen a0 x856)
 else
 dn (.inl x856)
noncomputable def Q30.l0 (a0 : Bs) (a2 : Bool) (x856 : Nat) : Option ((Nat) ⊕ (Int)) := iter (fun t_ : Nat => Q30.l0b a0 a2 t_) x856
noncomputable def Q30.f (a0 : Bs) (a2 : Bool) : Option Int :=
 jn (Q30.l0 a0 a2 0) (fun (x1057 : Nat) =>
 some (-1))
theorem Q30.callee : Callee Tryz.prog 163 := ⟨_, Tryz.func163, by kernel_rfl, by kernel_rfl⟩
theorem Q30.spec (R : Res) (Fr : List HProp)  (a0 : Bs) (a2 : Bool)  {r : Int} (j : Q30.f a0 a2 = some r) :
 Spec Tryz.prog 163 [.string ⟨(a0).toArray⟩, .func (.func 84) #[] #[], .bool a2] R (Fr) (fun v l' => v = .int .i64 r ∧ Fr = l') := by
 refine Spec.of Tryz.func163 rfl rfl ?_; unfold Q30.f at j; have j := brun j; refine At.seq (At.region (At.run 1 rfl (At.nil (At.thn (At.seq (At.seq (At.region ?_))))))); refine At.run 1 rfl ?_; refine At.rangeStr rfl rfl rfl rfl rfl (fun b254 => ?_); refine At.nil (At.thn ?_); refine At.block ?_; obtain ⟨G1058, hl1059, hr1060, j⟩ := bjoin j; obtain ⟨o1061, hlo1062, ho1063⟩ := bsome j; clear j; unfold Q30.l0 at hlo1062; obtain ⟨m1064, hit1066⟩ := Q17.1 hlo1062; clear hlo1062; refine At.loopJ (X := Nat) (Y := Nat) (e0 := 0) (fun x856 => [(1, .func (.func 84) #[] #[]), (2, .bool a2), (10, .pointer (some ⟨b254, 0, none⟩))]) (fun x856 => pt b254 (.stringIter ⟨(a0).toArray⟩ x856) :: Fr) (fun m_ => fun x856 => iterN (fun t_ : Nat => Q30.l0b a0 a2 t_) m_ x856 = some o1061) m1064 0 hit1066 (fun x1057 => []) (fun x1057 => pt b254 (.stringIter ⟨(a0).toArray⟩ x1057) :: Fr) (fun x1057 => G1058 (.inl x1057) = some r) (fun a w e hs => ⟨e.sub ⟨rfl, rfl, rfl, trivial⟩, (by exact hs)⟩) ?_ (fun J1068 => ?_)
 ·rintro x1057 j; have j := (hl1059 _).symm.trans j
  ·refine At.ibx ?_; refine At.thn (At.seq (At.region (At.run 1 rfl (At.nil (At.thn (At.ret (At.drop .z ?_))))))); cases bret j; exact At.res (.inl rfl) rfl rfl ⟨rfl, rfl⟩
 ·clear hit1066 m1064; rintro m1064 x856 hit1066; obtain ⟨m1065, f_, hlt1067, hf_, j⟩ := bit hit1066; clear hit1066; have j : (Q30.l0b a0 a2 x856).bind _ = some o1061 := j; unfold Q30.l0b at j
  ·refine At.seq (At.region ?_); rcases bite j with ⟨h1069, j⟩ | ⟨h1069, j⟩
   ··refine At.nextT rfl rfl .z (of_decide_eq_true (decide_eq_true h1069)) rfl ?_
     refine At.run 1 rfl (At.nil (At.thn (At.seq ?_))); refine At.condT rfl rfl ?_; refine At.skip (At.thn ?_); refine At.block ?_; refine At.seq (At.region (At.run 4 rfl (At.nil (At.thn (At.seq (At.region (At.run 2 rfl ?_))))))); obtain ⟨t1070, hc1071, j⟩ := bbind j; refine At.call rfl Q63.callee rfl rfl rfl (Q63.spec _ _  (runeAt a0 x856)  hc1071) ?_; rintro _ _ ⟨rfl, rfl⟩; refine At.run 2 rfl (At.nil (At.thn ?_)); rcases bite j with ⟨h1072, j⟩ | ⟨h1072, j⟩
     ··refine At.condT rfl h1072 ?_
       refine At.seq (At.region (At.run 2 rfl (At.nil (At.thn (At.ret ?_))))); refine At.ibr ?_; have j := bupL hr1060 ho1063 j; refine At.thr ?_; refine At.ibr ?_; refine At.thr (At.drop .z ?_); cases bret j; exact At.res (.inl rfl) rfl rfl ⟨rfl, rfl⟩
     ··refine At.condF rfl (bn h1072) ?_
       refine At.skip ?_; refine At.ibn ?_; have j := bnx hf_ j; exact fun a w e hs => ⟨m1065, (x856 + runeLen a0 x856), hlt1067, j, e.sub ⟨rfl, rfl, rfl, trivial⟩, hs⟩
   ··refine At.nextF rfl rfl .z (of_decide_eq_false (decide_eq_false h1069)) rfl ?_
     refine At.run 1 rfl (At.nil (At.thn (At.seq ?_))); refine At.condF rfl rfl ?_; refine At.exit ?_; refine At.the ?_; refine At.the ?_; exact fun a w e hs => J1068 x856 (bdn j ho1063) a w (e.sub trivial) hs

noncomputable def Q73.f (a0 : Bs) : Option Int :=
 (Q30.f a0 true).bind fun t252 =>
 some t252
theorem Q73.callee : Callee Tryz.prog 134 := ⟨_, Tryz.func134, by kernel_rfl, by kernel_rfl⟩
theorem Q73.spec (R : Res) (Fr : List HProp)  (a0 : Bs)  {r : Int} (j : Q73.f a0 = some r) :
 Spec Tryz.prog 134 [.string ⟨(a0).toArray⟩, .func (.func 84) #[] #[]] R (Fr) (fun v l' => v = .int .i64 r ∧ Fr = l') := by
 refine Spec.of Tryz.func134 rfl rfl ?_; unfold Q73.f at j; have j := brun j; refine At.seq (At.region (At.run 1 rfl (At.nil (At.thn (At.seq (At.region (At.run 2 rfl ?_))))))); obtain ⟨t252, hc253, j⟩ := bbind j; refine At.call rfl Q30.callee rfl rfl rfl (Q30.spec _ _  a0 true  hc253) ?_; rintro _ _ ⟨rfl, rfl⟩; refine At.run 1 rfl (At.nil (At.thn (At.ret ?_))); cases bret j; exact At.res (.inl rfl) rfl rfl ⟨rfl, rfl⟩

noncomputable def Q70.f (a0 : Bs) : Option Bool :=
 (Q73.f a0).bind fun t252 =>
 some (decide (0 ≤ t252))
theorem Q70.callee : Callee Tryz.prog 83 := ⟨_, Tryz.func83, by kernel_rfl, by kernel_rfl⟩
theorem Q70.spec (R : Res) (Fr : List HProp)  (a0 : Bs)  {r : Bool} (j : Q70.f a0 = some r) :
 Spec Tryz.prog 83 [.string ⟨(a0).toArray⟩, .func (.func 84) #[] #[]] R (Fr) (fun v l' => v = .bool r ∧ Fr = l') := by
 refine Spec.of Tryz.func83 rfl rfl ?_; unfold Q70.f at j; have j := brun j; refine At.seq (At.region (At.run 1 rfl (At.nil (At.thn (At.seq (At.region (At.run 2 rfl ?_))))))); obtain ⟨t252, hc253, j⟩ := bbind j; refine At.call rfl Q73.callee rfl rfl rfl (Q73.spec _ _  a0  hc253) ?_; rintro _ _ ⟨rfl, rfl⟩; refine At.run 2 rfl (At.nil (At.thn (At.ret ?_))); cases bret j; exact At.res (.inl rfl) rfl rfl ⟨rfl, rfl⟩

noncomputable def Q44.f (a0 : Bs) : Option Bool :=
 jn (
 if (a0.length : Int) < 1 then
 some (.inl true)
 else
 some (.inl (decide (8 < (a0.length : Int))))) (fun (x452 : Bool) =>
 jn (
 if x452 = true then
 some (.inl true)
 else
 if (0 : Int) ≤ 0 ∧ 0 < (a0.length : Int) then
 some (.inl (decide (bat a0 0 < 97)))
 else none) (fun (x657 : Bool) =>
 jn (
 if x657 = true then
 some (.inl true)
 else
 if (0 : Int) ≤ 0 ∧ 0 < (a0.length : Int) then
 some (.inl (decide (122 < bat a0 0)))
 else none) (fun (x862 : Bool) =>
 if x862 = true then
 some false
 else
 if bseq a0 ([116, 116] : Bs) = true then
 some false
 else
 if bseq a0 ([102, 102] : Bs) = true then
 some false
 else
 if bseq a0 ([109, 117] : Bs) = true then
 some false
 else
 if bseq a0 ([110, 117] : Bs) = true then
 some false
 else
 (Q70.f a0).bind fun t875 =>
 some (!t875))))
theorem Q44.callee : Callee Tryz.prog 47 := ⟨_, Tryz.func47, by kernel_rfl, by kernel_rfl⟩
theorem Q44.spec (R : Res) (Fr : List HProp)  (a0 : Bs)  {r : Bool} (j : Q44.f a0 = some r) :
 Spec Tryz.prog 47 [.string ⟨(a0).toArray⟩] R (Fr) (fun v l' => v = .bool r ∧ Fr = l') := by
 refine Spec.of Tryz.func47 rfl rfl ?_; unfold Q44.f at j; have j := brun j; refine At.seq (At.region (At.run 1 rfl (At.nil (At.thn (At.seq (At.seq (At.region ?_))))))); refine At.run 4 rfl ?_; obtain ⟨G453, hl454, hr455, j⟩ := bjoin j; refine At.joinO 4 (X := Bool) (fun x452 => [(0, .string ⟨(a0).toArray⟩), (10, .bool x452)]) (fun x452 => Fr) (fun x452 => G453 (.inl x452) = some r) ?_ (fun J456 => ?_)
 ·rintro x452 j; have j := (hl454 _).symm.trans j
  ·refine At.run 1 rfl ?_; obtain ⟨G658, hl659, hr660, j⟩ := bjoin j; refine At.joinO 4 (X := Bool) (fun x657 => [(0, .string ⟨(a0).toArray⟩), (15, .bool x657)]) (fun x657 => Fr) (fun x657 => G658 (.inl x657) = some r) ?_ (fun J661 => ?_)
   ·rintro x657 j; have j := (hl659 _).symm.trans j
    ·refine At.run 1 rfl ?_; obtain ⟨G863, hl864, hr865, j⟩ := bjoin j; refine At.joinO 4 (X := Bool) (fun x862 => [(0, .string ⟨(a0).toArray⟩), (20, .bool x862)]) (fun x862 => Fr) (fun x862 => G863 (.inl x862) = some r) ?_ (fun J866 => ?_)
     ·rintro x862 j; have j := (hl864 _).symm.trans j
      ·refine At.nil (At.thn ?_); rcases bite j with ⟨h867, j⟩ | ⟨h867, j⟩
       ··refine At.condT rfl h867 ?_
         refine At.seq (At.region (At.run 1 rfl (At.nil (At.thn (At.ret (At.thr ?_)))))); cases bret j; exact At.res (.inl rfl) rfl rfl ⟨rfl, rfl⟩
       ··refine At.condF rfl (bn h867) ?_
         refine At.skip (At.thn (At.seq (At.seq (At.region (At.run 1 rfl (At.nil (At.thn ?_))))))); refine At.block ?_; refine At.seq (At.seq (At.region (At.run 2 rfl (At.nil (At.thn ?_))))); rcases bite j with ⟨h868, j⟩ | ⟨h868, j⟩
         ··refine At.condT rfl h868 ?_
           refine At.skip (At.thn ?_); refine At.condT rfl h868 ?_; refine At.seq (At.region (At.run 1 rfl (At.nil (At.thn (At.ret ?_))))); refine At.ibr ?_; refine At.thr ?_; cases bret j; exact At.res (.inl rfl) rfl rfl ⟨rfl, rfl⟩
         ··refine At.condF rfl (bn h868) ?_
           refine At.seq (At.region (At.run 2 rfl (At.nil (At.thn ?_)))); rcases bite j with ⟨h870, j⟩ | ⟨h870, j⟩
           ··refine At.condT rfl h870 ?_
             refine At.skip (At.thn ?_); refine At.condT rfl h870 ?_; refine At.seq (At.region (At.run 1 rfl (At.nil (At.thn (At.ret ?_))))); refine At.ibr ?_; refine At.thr ?_; cases bret j; exact At.res (.inl rfl) rfl rfl ⟨rfl, rfl⟩
           ··refine At.condF rfl (bn h870) ?_
             refine At.seq (At.region (At.run 2 rfl (At.nil (At.thn ?_)))); rcases bite j with ⟨h872, j⟩ | ⟨h872, j⟩
             ··refine At.condT rfl h872 ?_
               refine At.skip (At.thn ?_); refine At.condT rfl h872 ?_; refine At.seq (At.region (At.run 1 rfl (At.nil (At.thn (At.ret ?_))))); refine At.ibr ?_; refine At.thr ?_; cases bret j; exact At.res (.inl rfl) rfl rfl ⟨rfl, rfl⟩
             ··refine At.condF rfl (bn h872) ?_
               refine At.region (At.run 2 rfl (At.nil (At.thn ?_))); rcases bite j with ⟨h874, j⟩ | ⟨h874, j⟩
               ··refine At.condT rfl h874 ?_
                 refine At.seq (At.region (At.run 1 rfl (At.nil (At.thn (At.ret ?_))))); refine At.ibr ?_; refine At.thr ?_; cases bret j; exact At.res (.inl rfl) rfl rfl ⟨rfl, rfl⟩
               ··refine At.condF rfl (bn h874) ?_
                 refine At.skip ?_; refine At.ibn ?_; refine At.thn (At.seq (At.region (At.run 1 rfl ?_))); obtain ⟨t875, hc876, j⟩ := bbind j; refine At.call rfl Q70.callee rfl rfl rfl (Q70.spec _ _  a0  hc876) ?_; rintro _ _ ⟨rfl, rfl⟩; refine At.run 2 rfl (At.nil (At.thn (At.ret ?_))); cases bret j; exact At.res (.inl rfl) rfl rfl ⟨rfl, rfl⟩
     ··rcases bite j with ⟨h877, j⟩ | ⟨h877, j⟩
       ··refine At.know (t := 16) rfl h877 ?_
         refine At.run 4 rfl ?_; exact At.of (J866 true j) ⟨rfl, rfl, trivial⟩
       ··refine At.know (t := 16) rfl (bn h877) ?_
         refine At.run 1 rfl ?_; obtain ⟨h878, j⟩ := bnone j; refine At.y (Y.ixStr rfl rfl rfl rfl h878.1 h878.2) rfl rfl rfl (At.run 2 rfl ?_); exact At.of (J866 (decide (122 < bat a0 0)) j) ⟨rfl, rfl, trivial⟩
   ··rcases bite j with ⟨h879, j⟩ | ⟨h879, j⟩
     ··refine At.know (t := 11) rfl h879 ?_
       refine At.run 4 rfl ?_; exact At.of (J661 true j) ⟨rfl, rfl, trivial⟩
     ··refine At.know (t := 11) rfl (bn h879) ?_
       refine At.run 1 rfl ?_; obtain ⟨h880, j⟩ := bnone j; refine At.y (Y.ixStr rfl rfl rfl rfl h880.1 h880.2) rfl rfl rfl (At.run 2 rfl ?_); exact At.of (J661 (decide (bat a0 0 < 97)) j) ⟨rfl, rfl, trivial⟩
 ··rcases bite j with ⟨h881, j⟩ | ⟨h881, j⟩
   ··refine At.know (t := 6) rfl (decide_eq_true h881) ?_
     refine At.run 4 rfl ?_; exact At.of (J456 true j) ⟨rfl, rfl, trivial⟩
   ··refine At.know (t := 6) rfl (decide_eq_false h881) ?_
     refine At.run 4 rfl ?_; exact At.of (J456 (decide (8 < (a0.length : Int))) j) ⟨rfl, rfl, trivial⟩

noncomputable def Q57.f (a0 : Int) : Option Bool :=
 some (!(decide (a0 = a0)))
theorem Q57.callee : Callee Tryz.prog 85 := ⟨_, Tryz.func85, by kernel_rfl, by kernel_rfl⟩
theorem Q57.spec (R : Res) (Fr : List HProp)  (a0 : Int)  {r : Bool} (j : Q57.f a0 = some r) :
 Spec Tryz.prog 85 [.int .i64 a0] R (Fr) (fun v l' => v = .bool r ∧ Fr = l') := by
 refine Spec.of Tryz.func85 rfl rfl ?_; unfold Q57.f at j; have j := brun j; refine At.seq (At.region (At.run 1 rfl (At.nil (At.thn (At.seq (At.region (At.run 4 rfl ?_))))))); refine At.nil (At.thn (At.ret ?_)); cases bret j; exact At.res (.inl rfl) rfl rfl ⟨rfl, rfl⟩

noncomputable def Q43.f (a0 a1 : Int) : Option Int :=
 (Q57.f a0).bind fun t252 =>
 (Q57.f a1).bind fun t254 =>
 if t252 = true then
 if t254 = true then
 some 0
 else
 some (-1)
 else
 if t254 = true then
 some 1
 else
 if a0 < a1 then
 some (-1)
 else
 if a1 < a0 then
 some 1
 else
 some 0
theorem Q43.callee : Callee Tryz.prog 49 := ⟨_, Tryz.func49, by kernel_rfl, by kernel_rfl⟩
theorem Q43.spec (R : Res) (Fr : List HProp)  (a0 a1 : Int)  {r : Int} (j : Q43.f a0 a1 = some r) :
 Spec Tryz.prog 49 [.int .i64 a0, .int .i64 a1] R (Fr) (fun v l' => v = .int .i64 r ∧ Fr = l') := by
 refine Spec.of Tryz.func49 rfl rfl ?_; unfold Q43.f at j; have j := brun j; refine At.seq (At.region (At.run 1 rfl (At.nil (At.thn (At.seq (At.region (At.run 1 rfl ?_))))))); obtain ⟨t252, hc253, j⟩ := bbind j; refine At.call rfl Q57.callee rfl rfl rfl (Q57.spec _ _  a0  hc253) ?_; rintro _ _ ⟨rfl, rfl⟩; refine At.run 1 rfl (At.nil (At.thn (At.seq (At.region (At.run 1 rfl ?_))))); obtain ⟨t254, hc255, j⟩ := bbind j; refine At.call rfl Q57.callee rfl rfl rfl (Q57.spec _ _  a1  hc255) ?_; rintro _ _ ⟨rfl, rfl⟩; refine At.run 1 rfl (At.nil (At.thn (At.seq (At.seq (At.region (At.run 1 rfl (At.nil ?_))))))); refine At.thn ?_; rcases bite j with ⟨h256, j⟩ | ⟨h256, j⟩
 ··refine At.condT rfl h256 ?_
   refine At.seq (At.seq (At.region (At.run 1 rfl (At.nil (At.thn ?_))))); rcases bite j with ⟨h257, j⟩ | ⟨h257, j⟩
   ··refine At.condT rfl h257 ?_
     refine At.seq (At.region (At.run 1 rfl (At.nil (At.thn (At.ret (At.thr (At.thr ?_))))))); cases bret j; exact At.res (.inl rfl) rfl rfl ⟨rfl, rfl⟩
   ··refine At.condF rfl (bn h257) ?_
     refine At.skip (At.thn (At.seq (At.region (At.run 1 rfl (At.nil (At.thn (At.ret ?_))))))); refine At.thr ?_; cases bret j; exact At.res (.inl rfl) rfl rfl ⟨rfl, rfl⟩
 ··refine At.condF rfl (bn h256) ?_
   refine At.skip (At.thn (At.seq (At.seq (At.region (At.run 1 rfl (At.nil (At.thn ?_))))))); rcases bite j with ⟨h258, j⟩ | ⟨h258, j⟩
   ··refine At.condT rfl h258 ?_
     refine At.seq (At.region (At.run 1 rfl (At.nil (At.thn (At.ret (At.thr ?_)))))); cases bret j; exact At.res (.inl rfl) rfl rfl ⟨rfl, rfl⟩
   ··refine At.condF rfl (bn h258) ?_
     refine At.skip (At.thn (At.seq (At.seq (At.region (At.run 3 rfl (At.nil (At.thn ?_))))))); rcases bite j with ⟨h259, j⟩ | ⟨h259, j⟩
     ··refine At.condT rfl (decide_eq_true h259) ?_
       refine At.seq (At.region (At.run 1 rfl (At.nil (At.thn (At.ret (At.thr ?_)))))); cases bret j; exact At.res (.inl rfl) rfl rfl ⟨rfl, rfl⟩
     ··refine At.condF rfl (decide_eq_false h259) ?_
       refine At.skip (At.thn (At.seq (At.seq (At.region (At.run 3 rfl (At.nil (At.thn ?_))))))); rcases bite j with ⟨h260, j⟩ | ⟨h260, j⟩
       ··refine At.condT rfl (decide_eq_true h260) ?_
         refine At.seq (At.region (At.run 1 rfl (At.nil (At.thn (At.ret (At.thr ?_)))))); cases bret j; exact At.res (.inl rfl) rfl rfl ⟨rfl, rfl⟩
       ··refine At.condF rfl (decide_eq_false h260) ?_
         refine At.skip (At.thn (At.seq (At.region (At.run 1 rfl (At.nil (At.thn (At.ret ?_))))))); cases bret j; exact At.res (.inl rfl) rfl rfl ⟨rfl, rfl⟩

noncomputable def Q25.l0b (a0 : List Int) (x853 : Int) : Option ((Int) ⊕ ((Unit) ⊕ (Bool))) :=
 if x853 < (a0.length : Int) then
 if (0 : Int) ≤ IntKind.i64.wrap (x853 - 1) ∧ IntKind.i64.wrap (x853 - 1) < (a0.length : Int) then
 if (0 : Int) ≤ x853 ∧ x853 < (a0.length : Int) then
 (Q43.f (gt a0 (IntKind.i64.wrap (x853 - 1))) (gt a0 x853)).bind fun t1068 =>
 if 0 ≤ t1068 then
 upL (some false)
 else
 nx (IntKind.i64.wrap (x853 + 1))
 else none
 else none
 else
 dn (.inl ())
noncomputable def Q25.l0 (a0 : List Int) (x853 : Int) : Option ((Unit) ⊕ (Bool)) := iter (fun t_ : Int => Q25.l0b a0 t_) x853
noncomputable def Q25.f (a0 : List Int) : Option Bool :=
 jn (Q25.l0 a0 1) (fun (_ : Unit) =>
 some true)
theorem Q25.callee : Callee Tryz.prog 48 := ⟨_, Tryz.func48, by kernel_rfl, by kernel_rfl⟩
theorem Q25.spec (R : Res) (Fr : List HProp) (A0 : Option Addr) (n0 : Nat) (c0 : Nat) (a0 : List Int) (hr0 : RdS (Fl.int .i64).rep R.heap A0 a0) (hn0 : a0.length = n0) (hc0 : n0 ≤ c0) {r : Bool} (j : Q25.f a0 = some r) :
 Spec Tryz.prog 48 [.slice A0 n0 c0, .func (.func 49) #[] #[]] R (Fr) (fun v l' => v = .bool r ∧ Fr = l') := by
 subst hn0; refine Spec.of Tryz.func48 rfl rfl ?_; unfold Q25.f at j; have j := brun j; refine At.seq (At.region (At.run 1 rfl (At.nil (At.thn (At.seq (At.seq (At.region ?_))))))); refine At.run 1 rfl (At.nil (At.thn ?_)); refine At.block ?_; obtain ⟨G1054, hl1055, hr1056, j⟩ := bjoin j; obtain ⟨o1057, hlo1058, ho1059⟩ := bsome j; clear j; unfold Q25.l0 at hlo1058; obtain ⟨m1060, hit1062⟩ := Q17.1 hlo1058; clear hlo1058; refine At.loopJ (X := Int) (Y := Unit) (e0 := 0) (fun x853 => [(0, .slice A0 a0.length c0), (1, .func (.func 49) #[] #[]), (5, .int .i64 x853)]) (fun x853 => Fr) (fun m_ => fun x853 => iterN (fun t_ : Int => Q25.l0b a0 t_) m_ x853 = some o1057) m1060 1 hit1062 (fun _ => []) (fun _ => Fr) (fun _ => G1054 (.inl ()) = some r) (fun a w e hs => ⟨e.sub ⟨rfl, rfl, rfl, trivial⟩, (by exact hs)⟩) ?_ (fun J1064 => ?_)
 ·rintro _ j; have j := (hl1055 _).symm.trans j
  ·refine At.ibx ?_; refine At.thn (At.seq (At.region (At.run 1 rfl (At.nil (At.thn (At.ret ?_)))))); cases bret j; exact At.res (.inl rfl) rfl rfl ⟨rfl, rfl⟩
 ·clear hit1062 m1060; rintro m1060 x853 hit1062; obtain ⟨m1061, f_, hlt1063, hf_, j⟩ := bit hit1062; clear hit1062; have j : (Q25.l0b a0 x853).bind _ = some o1057 := j; unfold Q25.l0b at j
  ·refine At.seq (At.seq (At.region (At.run 4 rfl (At.nil (At.thn ?_))))); rcases bite j with ⟨h1065, j⟩ | ⟨h1065, j⟩
   ··refine At.condT rfl (decide_eq_true h1065) ?_
     refine At.skip (At.thn (At.seq ?_)); refine At.block ?_; refine At.seq ?_; refine At.quiet (by kernel_rfl) ?_; refine At.Quiet.run 4 rfl ?_; obtain ⟨h1066, j⟩ := bnone j; refine At.Quiet.y (Y.ixRd hr0 rfl rfl rfl rfl rfl rfl rfl h1066.1 h1066.2) rfl rfl rfl ?_; refine At.Quiet.y (Y.ldFl hr0 rfl (q := 0) rfl rfl h1066.1 h1066.2 rfl rfl rfl) rfl rfl rfl ?_; refine At.Quiet.run 2 rfl ?_; obtain ⟨h1067, j⟩ := bnone j; refine At.Quiet.y (Y.ixRd hr0 rfl rfl rfl rfl rfl rfl rfl h1067.1 h1067.2) rfl rfl rfl ?_; refine At.Quiet.y (Y.ldFl hr0 rfl (q := 0) rfl rfl h1067.1 h1067.2 rfl rfl rfl) rfl rfl rfl ?_; obtain ⟨t1068, hc1069, j⟩ := bbind j; refine At.Quiet.call rfl Q43.callee rfl rfl rfl (Q43.spec _ _  (gt a0 (IntKind.i64.wrap (x853 - 1))) (gt a0 x853)  hc1069) (fun _ _ h_ => ⟨h_.1, fun _ hs => h_.2 ▸ hs⟩) ?_; refine At.Quiet.run 1 rfl (At.Quiet.nil (At.thn ?_)); rcases bite j with ⟨h1070, j⟩ | ⟨h1070, j⟩
     ··refine At.condT rfl (decide_eq_true h1070) ?_
       refine At.seq (At.region (At.run 1 rfl (At.nil (At.thn (At.ret ?_))))); refine At.ibr ?_; refine At.thr ?_; have j := bupL hr1056 ho1059 j; refine At.thr ?_; refine At.ibr ?_; refine At.thr ?_; cases bret j; exact At.res (.inl rfl) rfl rfl ⟨rfl, rfl⟩
     ··refine At.condF rfl (decide_eq_false h1070) ?_
       refine At.skip ?_; refine At.ibn ?_; refine At.thn (At.region (At.run 3 rfl (At.nil ?_))); have j := bnx hf_ j; exact fun a w e hs => ⟨m1061, (IntKind.i64.wrap (x853 + 1)), hlt1063, j, e.sub ⟨rfl, rfl, rfl, trivial⟩, hs⟩
   ··refine At.condF rfl (decide_eq_false h1065) ?_
     refine At.exit ?_; refine At.the ?_; refine At.the ?_; exact fun a w e hs => J1064 () (bdn j ho1059) a w (e.sub trivial) hs

noncomputable def Q71.f (a0 a1_0_c0_0 : Int) (a1_0_c0_1 : List Bs) (a1_0_c0_2 : List Q0) (a1_0_c0_3 : List Q1) : Option Bool :=
 (Q45.f a0 a1_0_c0_0 a1_0_c0_1 a1_0_c0_2 a1_0_c0_3).bind fun t252 =>
 some (!t252)
theorem Q71.callee : Callee Tryz.prog 51 := ⟨_, Tryz.func51, by kernel_rfl, by kernel_rfl⟩
theorem Q71.spec (R : Res) (Fr : List HProp) (b1 b1_0_c0 : Nat) (A1_0_c0_1 : Option Addr) (n1_0_c0_1 : Nat) (c1_0_c0_1 : Nat) (A1_0_c0_2 : Option Addr) (n1_0_c0_2 : Nat) (c1_0_c0_2 : Nat) (A1_0_c0_3 : Option Addr) (n1_0_c0_3 : Nat) (c1_0_c0_3 : Nat) (a0 : Int) (a1_0_c0_0 : Int) (a1_0_c0_1 : List Bs) (a1_0_c0_2 : List Q0) (a1_0_c0_3 : List Q1) (hr1_0_c0_1 : RdS Fl.bs.rep R.heap A1_0_c0_1 a1_0_c0_1) (hn1_0_c0_1 : a1_0_c0_1.length = n1_0_c0_1) (hc1_0_c0_1 : n1_0_c0_1 ≤ c1_0_c0_1) (hr1_0_c0_2 : RdS Q0.fl.rep R.heap A1_0_c0_2 a1_0_c0_2) (hn1_0_c0_2 : a1_0_c0_2.length = n1_0_c0_2) (hc1_0_c0_2 : n1_0_c0_2 ≤ c1_0_c0_2) (hr1_0_c0_3 : RdS Q1.rep R.heap A1_0_c0_3 a1_0_c0_3) (hn1_0_c0_3 : a1_0_c0_3.length = n1_0_c0_3) (hc1_0_c0_3 : n1_0_c0_3 ≤ c1_0_c0_3) {r : Bool} (j : Q71.f a0 a1_0_c0_0 a1_0_c0_1 a1_0_c0_2 a1_0_c0_3 = some r) :
 Spec Tryz.prog 51 [.int .i64 a0, .pointer (some ⟨b1, 0, none⟩)] R (pt b1 (.cells [.func (.func 46) #[] #[.pointer (some ⟨b1_0_c0, 0, none⟩)]].toArray 45) :: pt b1_0_c0 (.cells [.int .i64 a1_0_c0_0, .slice A1_0_c0_1 n1_0_c0_1 c1_0_c0_1, .slice A1_0_c0_2 n1_0_c0_2 c1_0_c0_2, .slice A1_0_c0_3 n1_0_c0_3 c1_0_c0_3].toArray 26) :: Fr) (fun v l' => v = .bool r ∧ pt b1 (.cells [.func (.func 46) #[] #[.pointer (some ⟨b1_0_c0, 0, none⟩)]].toArray 45) :: pt b1_0_c0 (.cells [.int .i64 a1_0_c0_0, .slice A1_0_c0_1 n1_0_c0_1 c1_0_c0_1, .slice A1_0_c0_2 n1_0_c0_2 c1_0_c0_2, .slice A1_0_c0_3 n1_0_c0_3 c1_0_c0_3].toArray 26) :: Fr = l') := by
 subst hn1_0_c0_1; subst hn1_0_c0_2; subst hn1_0_c0_3; refine Spec.of Tryz.func51 rfl rfl ?_; unfold Q71.f at j; have j := brun j; refine At.seq (At.region (At.run 1 rfl (At.nil (At.thn (At.seq (At.region (At.y (Y.load rfl rfl .z rfl rfl rfl) rfl rfl rfl ?_))))))); refine At.run 1 rfl (At.f1 ?_); obtain ⟨t252, hc253, j⟩ := bbind j; refine At.call rfl Q45.callee rfl rfl rfl (Q45.spec _ _ b1_0_c0 A1_0_c0_1 a1_0_c0_1.length c1_0_c0_1 A1_0_c0_2 a1_0_c0_2.length c1_0_c0_2 A1_0_c0_3 a1_0_c0_3.length c1_0_c0_3 a0 a1_0_c0_0 a1_0_c0_1 a1_0_c0_2 a1_0_c0_3 hr1_0_c0_1 rfl hc1_0_c0_1 hr1_0_c0_2 rfl hc1_0_c0_2 hr1_0_c0_3 rfl hc1_0_c0_3 hc253) ?_; rintro _ _ ⟨rfl, rfl⟩; refine At.run 2 rfl (At.nil (At.thn (At.ret (At.f1 ?_)))); cases bret j; exact At.res (.inl rfl) rfl rfl ⟨rfl, rfl⟩

noncomputable def Q24.l0b (a0 : List Int) (a1_c0_0_c0_0 : Int) (a1_c0_0_c0_1 : List Bs) (a1_c0_0_c0_2 : List Q0) (a1_c0_0_c0_3 : List Q1) (x853 : Int) : Option ((Int) ⊕ ((Unit) ⊕ (Int))) :=
 if x853 < (a0.length : Int) then
 if (0 : Int) ≤ x853 ∧ x853 < (a0.length : Int) then
 (Q71.f (gt a0 x853) a1_c0_0_c0_0 a1_c0_0_c0_1 a1_c0_0_c0_2 a1_c0_0_c0_3).bind fun t1067 =>
 if t1067 = true then
 upL (some x853)
 else
 nx (IntKind.i64.wrap (x853 + 1))
 else none
 else
 dn (.inl ())
noncomputable def Q24.l0 (a0 : List Int) (a1_c0_0_c0_0 : Int) (a1_c0_0_c0_1 : List Bs) (a1_c0_0_c0_2 : List Q0) (a1_c0_0_c0_3 : List Q1) (x853 : Int) : Option ((Unit) ⊕ (Int)) := iter (fun t_ : Int => Q24.l0b a0 a1_c0_0_c0_0 a1_c0_0_c0_1 a1_c0_0_c0_2 a1_c0_0_c0_3 t_) x853
noncomputable def Q24.f (a0 : List Int) (a1_c0_0_c0_0 : Int) (a1_c0_0_c0_1 : List Bs) (a1_c0_0_c0_2 : List Q0) (a1_c0_0_c0_3 : List Q1) : Option Int :=
 jn (Q24.l0 a0 a1_c0_0_c0_0 a1_c0_0_c0_1 a1_c0_0_c0_2 a1_c0_0_c0_3 0) (fun (_ : Unit) =>
 some (-1))
theorem Q24.callee : Callee Tryz.prog 86 := ⟨_, Tryz.func86, by kernel_rfl, by kernel_rfl⟩
theorem Q24.spec (R : Res) (Fr : List HProp) (A0 : Option Addr) (n0 : Nat) (c0 : Nat) (b1_c0 : Nat) (b1_c0_0_c0 : Nat) (A1_c0_0_c0_1 : Option Addr) (n1_c0_0_c0_1 : Nat) (c1_c0_0_c0_1 : Nat) (A1_c0_0_c0_2 : Option Addr) (n1_c0_0_c0_2 : Nat) (c1_c0_0_c0_2 : Nat) (A1_c0_0_c0_3 : Option Addr) (n1_c0_0_c0_3 : Nat) (c1_c0_0_c0_3 : Nat) (a0 : List Int) (a1_c0_0_c0_0 : Int) (a1_c0_0_c0_1 : List Bs) (a1_c0_0_c0_2 : List Q0) (a1_c0_0_c0_3 : List Q1) (hr0 : RdS (Fl.int .i64).rep R.heap A0 a0) (hn0 : a0.length = n0) (hc0 : n0 ≤ c0) (hr1_c0_0_c0_1 : RdS Fl.bs.rep R.heap A1_c0_0_c0_1 a1_c0_0_c0_1) (hn1_c0_0_c0_1 : a1_c0_0_c0_1.length = n1_c0_0_c0_1) (hc1_c0_0_c0_1 : n1_c0_0_c0_1 ≤ c1_c0_0_c0_1) (hr1_c0_0_c0_2 : RdS Q0.fl.rep R.heap A1_c0_0_c0_2 a1_c0_0_c0_2) (hn1_c0_0_c0_2 : a1_c0_0_c0_2.length = n1_c0_0_c0_2) (hc1_c0_0_c0_2 : n1_c0_0_c0_2 ≤ c1_c0_0_c0_2) (hr1_c0_0_c0_3 : RdS Q1.rep R.heap A1_c0_0_c0_3 a1_c0_0_c0_3) (hn1_c0_0_c0_3 : a1_c0_0_c0_3.length = n1_c0_0_c0_3) (hc1_c0_0_c0_3 : n1_c0_0_c0_3 ≤ c1_c0_0_c0_3) {r : Int} (j : Q24.f a0 a1_c0_0_c0_0 a1_c0_0_c0_1 a1_c0_0_c0_2 a1_c0_0_c0_3 = some r) :
 Spec Tryz.prog 86 [.slice A0 n0 c0, .func (.func 51) #[] #[.pointer (some ⟨b1_c0, 0, none⟩)]] R (pt b1_c0 (.cells [.func (.func 46) #[] #[.pointer (some ⟨b1_c0_0_c0, 0, none⟩)]].toArray 45) :: pt b1_c0_0_c0 (.cells [.int .i64 a1_c0_0_c0_0, .slice A1_c0_0_c0_1 n1_c0_0_c0_1 c1_c0_0_c0_1, .slice A1_c0_0_c0_2 n1_c0_0_c0_2 c1_c0_0_c0_2, .slice A1_c0_0_c0_3 n1_c0_0_c0_3 c1_c0_0_c0_3].toArray 26) :: Fr) (fun v l' => v = .int .i64 r ∧ pt b1_c0 (.cells [.func (.func 46) #[] #[.pointer (some ⟨b1_c0_0_c0, 0, none⟩)]].toArray 45) :: pt b1_c0_0_c0 (.cells [.int .i64 a1_c0_0_c0_0, .slice A1_c0_0_c0_1 n1_c0_0_c0_1 c1_c0_0_c0_1, .slice A1_c0_0_c0_2 n1_c0_0_c0_2 c1_c0_0_c0_2, .slice A1_c0_0_c0_3 n1_c0_0_c0_3 c1_c0_0_c0_3].toArray 26) :: Fr = l') := by
 subst hn0; subst hn1_c0_0_c0_1; subst hn1_c0_0_c0_2; subst hn1_c0_0_c0_3; refine Spec.of Tryz.func86 rfl rfl ?_; unfold Q24.f at j; have j := brun j; refine At.seq (At.region (At.run 1 rfl (At.nil (At.thn (At.seq (At.seq (At.region ?_))))))); refine At.run 3 rfl (At.nil (At.thn ?_)); refine At.block ?_; obtain ⟨G1054, hl1055, hr1056, j⟩ := bjoin j; obtain ⟨o1057, hlo1058, ho1059⟩ := bsome j; clear j; unfold Q24.l0 at hlo1058; obtain ⟨m1060, hit1062⟩ := Q17.1 hlo1058; clear hlo1058; refine At.loopJ (X := Int) (Y := Unit) (e0 := 0) (fun x853 => [(0, .slice A0 a0.length c0), (1, .func (.func 51) #[] #[.pointer (some ⟨b1_c0, 0, none⟩)]), (7, .int .i64 (a0.length : Int)), (8, .int .i64 x853)]) (fun x853 => pt b1_c0 (.cells [.func (.func 46) #[] #[.pointer (some ⟨b1_c0_0_c0, 0, none⟩)]].toArray 45) :: pt b1_c0_0_c0 (.cells [.int .i64 a1_c0_0_c0_0, .slice A1_c0_0_c0_1 a1_c0_0_c0_1.length c1_c0_0_c0_1, .slice A1_c0_0_c0_2 a1_c0_0_c0_2.length c1_c0_0_c0_2, .slice A1_c0_0_c0_3 a1_c0_0_c0_3.length c1_c0_0_c0_3].toArray 26) :: Fr) (fun m_ => fun x853 => iterN (fun t_ : Int => Q24.l0b a0 a1_c0_0_c0_0 a1_c0_0_c0_1 a1_c0_0_c0_2 a1_c0_0_c0_3 t_) m_ x853 = some o1057) m1060 0 hit1062 (fun _ => []) (fun _ => pt b1_c0 (.cells [.func (.func 46) #[] #[.pointer (some ⟨b1_c0_0_c0, 0, none⟩)]].toArray 45) :: pt b1_c0_0_c0 (.cells [.int .i64 a1_c0_0_c0_0, .slice A1_c0_0_c0_1 a1_c0_0_c0_1.length c1_c0_0_c0_1, .slice A1_c0_0_c0_2 a1_c0_0_c0_2.length c1_c0_0_c0_2, .slice A1_c0_0_c0_3 a1_c0_0_c0_3.length c1_c0_0_c0_3].toArray 26) :: Fr) (fun _ => G1054 (.inl ()) = some r) (fun a w e hs => ⟨e.sub ⟨rfl, rfl, rfl, rfl, trivial⟩, (by exact hs)⟩) ?_ (fun J1064 => ?_)
 ·rintro _ j; have j := (hl1055 _).symm.trans j
  ·refine At.ibx ?_; refine At.thn (At.seq (At.region (At.run 1 rfl (At.nil (At.thn (At.ret ?_)))))); cases bret j; exact At.res (.inl rfl) rfl rfl ⟨rfl, rfl⟩
 ·clear hit1062 m1060; rintro m1060 x853 hit1062; obtain ⟨m1061, f_, hlt1063, hf_, j⟩ := bit hit1062; clear hit1062; have j : (Q24.l0b a0 a1_c0_0_c0_0 a1_c0_0_c0_1 a1_c0_0_c0_2 a1_c0_0_c0_3 x853).bind _ = some o1057 := j; unfold Q24.l0b at j
  ·refine At.seq (At.region (At.run 1 rfl (At.nil (At.thn (At.seq ?_))))); rcases bite j with ⟨h1065, j⟩ | ⟨h1065, j⟩
   ··refine At.condT rfl (decide_eq_true h1065) ?_
     refine At.skip (At.thn (At.seq ?_)); refine At.block ?_; refine At.seq (At.region (At.run 2 rfl (At.nil (At.thn (At.seq (At.region (At.run 3 rfl ?_))))))); obtain ⟨h1066, j⟩ := bnone j; refine At.y (Y.ixRd hr0 rfl rfl rfl rfl rfl rfl rfl h1066.1 h1066.2) rfl rfl rfl (At.y (Y.ldFl hr0 rfl (q := 0) rfl rfl h1066.1 h1066.2 rfl rfl rfl) rfl rfl rfl ?_); obtain ⟨t1067, hc1068, j⟩ := bbind j; refine At.call rfl Q71.callee rfl rfl rfl (Q71.spec _ _ b1_c0 b1_c0_0_c0 A1_c0_0_c0_1 a1_c0_0_c0_1.length c1_c0_0_c0_1 A1_c0_0_c0_2 a1_c0_0_c0_2.length c1_c0_0_c0_2 A1_c0_0_c0_3 a1_c0_0_c0_3.length c1_c0_0_c0_3 (gt a0 x853) a1_c0_0_c0_0 a1_c0_0_c0_1 a1_c0_0_c0_2 a1_c0_0_c0_3 hr1_c0_0_c0_1 rfl hc1_c0_0_c0_1 hr1_c0_0_c0_2 rfl hc1_c0_0_c0_2 hr1_c0_0_c0_3 rfl hc1_c0_0_c0_3 hc1068) ?_; rintro _ _ ⟨rfl, rfl⟩; refine At.nil (At.thn ?_); rcases bite j with ⟨h1069, j⟩ | ⟨h1069, j⟩
     ··refine At.condT rfl h1069 ?_
       refine At.seq (At.region (At.run 2 rfl (At.nil (At.thn (At.ret ?_))))); refine At.ibr ?_; refine At.thr ?_; have j := bupL hr1056 ho1059 j; refine At.thr ?_; refine At.ibr ?_; refine At.thr ?_; cases bret j; exact At.res (.inl rfl) rfl rfl ⟨rfl, rfl⟩
     ··refine At.condF rfl (bn h1069) ?_
       refine At.skip ?_; refine At.ibn ?_; refine At.thn (At.region (At.run 2 rfl (At.nil ?_))); have j := bnx hf_ j; exact fun a w e hs => ⟨m1061, (IntKind.i64.wrap (x853 + 1)), hlt1063, j, e.sub ⟨rfl, rfl, rfl, rfl, trivial⟩, hs⟩
   ··refine At.condF rfl (decide_eq_false h1065) ?_
     refine At.exit ?_; refine At.the ?_; refine At.the ?_; exact fun a w e hs => J1064 () (bdn j ho1059) a w (e.sub trivial) hs

noncomputable def Q67.f (a0 : List Int) (a1_c0_0_c0_0 : Int) (a1_c0_0_c0_1 : List Bs) (a1_c0_0_c0_2 : List Q0) (a1_c0_0_c0_3 : List Q1) : Option Bool :=
 (Q24.f a0 a1_c0_0_c0_0 a1_c0_0_c0_1 a1_c0_0_c0_2 a1_c0_0_c0_3).bind fun t252 =>
 some (decide (0 ≤ t252))
theorem Q67.callee : Callee Tryz.prog 50 := ⟨_, Tryz.func50, by kernel_rfl, by kernel_rfl⟩
theorem Q67.spec (R : Res) (Fr : List HProp) (A0 : Option Addr) (n0 : Nat) (c0 : Nat) (b1_c0 : Nat) (b1_c0_0_c0 : Nat) (A1_c0_0_c0_1 : Option Addr) (n1_c0_0_c0_1 : Nat) (c1_c0_0_c0_1 : Nat) (A1_c0_0_c0_2 : Option Addr) (n1_c0_0_c0_2 : Nat) (c1_c0_0_c0_2 : Nat) (A1_c0_0_c0_3 : Option Addr) (n1_c0_0_c0_3 : Nat) (c1_c0_0_c0_3 : Nat) (a0 : List Int) (a1_c0_0_c0_0 : Int) (a1_c0_0_c0_1 : List Bs) (a1_c0_0_c0_2 : List Q0) (a1_c0_0_c0_3 : List Q1) (hr0 : RdS (Fl.int .i64).rep R.heap A0 a0) (hn0 : a0.length = n0) (hc0 : n0 ≤ c0) (hr1_c0_0_c0_1 : RdS Fl.bs.rep R.heap A1_c0_0_c0_1 a1_c0_0_c0_1) (hn1_c0_0_c0_1 : a1_c0_0_c0_1.length = n1_c0_0_c0_1) (hc1_c0_0_c0_1 : n1_c0_0_c0_1 ≤ c1_c0_0_c0_1) (hr1_c0_0_c0_2 : RdS Q0.fl.rep R.heap A1_c0_0_c0_2 a1_c0_0_c0_2) (hn1_c0_0_c0_2 : a1_c0_0_c0_2.length = n1_c0_0_c0_2) (hc1_c0_0_c0_2 : n1_c0_0_c0_2 ≤ c1_c0_0_c0_2) (hr1_c0_0_c0_3 : RdS Q1.rep R.heap A1_c0_0_c0_3 a1_c0_0_c0_3) (hn1_c0_0_c0_3 : a1_c0_0_c0_3.length = n1_c0_0_c0_3) (hc1_c0_0_c0_3 : n1_c0_0_c0_3 ≤ c1_c0_0_c0_3) {r : Bool} (j : Q67.f a0 a1_c0_0_c0_0 a1_c0_0_c0_1 a1_c0_0_c0_2 a1_c0_0_c0_3 = some r) :
 Spec Tryz.prog 50 [.slice A0 n0 c0, .func (.func 51) #[] #[.pointer (some ⟨b1_c0, 0, none⟩)]] R (pt b1_c0 (.cells [.func (.func 46) #[] #[.pointer (some ⟨b1_c0_0_c0, 0, none⟩)]].toArray 45) :: pt b1_c0_0_c0 (.cells [.int .i64 a1_c0_0_c0_0, .slice A1_c0_0_c0_1 n1_c0_0_c0_1 c1_c0_0_c0_1, .slice A1_c0_0_c0_2 n1_c0_0_c0_2 c1_c0_0_c0_2, .slice A1_c0_0_c0_3 n1_c0_0_c0_3 c1_c0_0_c0_3].toArray 26) :: Fr) (fun v l' => v = .bool r ∧ pt b1_c0 (.cells [.func (.func 46) #[] #[.pointer (some ⟨b1_c0_0_c0, 0, none⟩)]].toArray 45) :: pt b1_c0_0_c0 (.cells [.int .i64 a1_c0_0_c0_0, .slice A1_c0_0_c0_1 n1_c0_0_c0_1 c1_c0_0_c0_1, .slice A1_c0_0_c0_2 n1_c0_0_c0_2 c1_c0_0_c0_2, .slice A1_c0_0_c0_3 n1_c0_0_c0_3 c1_c0_0_c0_3].toArray 26) :: Fr = l') := by
 subst hn0; subst hn1_c0_0_c0_1; subst hn1_c0_0_c0_2; subst hn1_c0_0_c0_3; refine Spec.of Tryz.func50 rfl rfl ?_; unfold Q67.f at j; have j := brun j; refine At.seq (At.region (At.run 1 rfl (At.nil (At.thn (At.seq (At.region (At.run 2 rfl ?_))))))); obtain ⟨t252, hc253, j⟩ := bbind j; refine At.call rfl Q24.callee rfl rfl rfl (Q24.spec _ _ A0 a0.length c0 b1_c0 b1_c0_0_c0 A1_c0_0_c0_1 a1_c0_0_c0_1.length c1_c0_0_c0_1 A1_c0_0_c0_2 a1_c0_0_c0_2.length c1_c0_0_c0_2 A1_c0_0_c0_3 a1_c0_0_c0_3.length c1_c0_0_c0_3 a0 a1_c0_0_c0_0 a1_c0_0_c0_1 a1_c0_0_c0_2 a1_c0_0_c0_3 hr0 rfl hc0 hr1_c0_0_c0_1 rfl hc1_c0_0_c0_1 hr1_c0_0_c0_2 rfl hc1_c0_0_c0_2 hr1_c0_0_c0_3 rfl hc1_c0_0_c0_3 hc253) ?_; rintro _ _ ⟨rfl, rfl⟩; refine At.run 2 rfl (At.nil (At.thn (At.ret ?_))); cases bret j; exact At.res (.inl rfl) rfl rfl ⟨rfl, rfl⟩

noncomputable def Q72.f (a0 : Bs) : Option Bool :=
 (Q44.f a0).bind fun t252 =>
 some (!t252)
theorem Q72.callee : Callee Tryz.prog 53 := ⟨_, Tryz.func53, by kernel_rfl, by kernel_rfl⟩
theorem Q72.spec (R : Res) (Fr : List HProp)  (a0 : Bs)  {r : Bool} (j : Q72.f a0 = some r) :
 Spec Tryz.prog 53 [.string ⟨(a0).toArray⟩] R (Fr) (fun v l' => v = .bool r ∧ Fr = l') := by
 refine Spec.of Tryz.func53 rfl rfl ?_; unfold Q72.f at j; have j := brun j; refine At.seq (At.region (At.run 1 rfl (At.nil (At.thn (At.seq (At.region (At.run 1 rfl ?_))))))); obtain ⟨t252, hc253, j⟩ := bbind j; refine At.call rfl Q44.callee rfl rfl rfl (Q44.spec _ _  a0  hc253) ?_; rintro _ _ ⟨rfl, rfl⟩; refine At.run 2 rfl (At.nil (At.thn (At.ret ?_))); cases bret j; exact At.res (.inl rfl) rfl rfl ⟨rfl, rfl⟩

noncomputable def Q26.l0b (a0 : List Bs) (x853 : Int) : Option ((Int) ⊕ ((Unit) ⊕ (Int))) :=
 if x853 < (a0.length : Int) then
 if (0 : Int) ≤ x853 ∧ x853 < (a0.length : Int) then
 (Q72.f (gt a0 x853)).bind fun t1067 =>
 if t1067 = true then
 upL (some x853)
 else
 nx (IntKind.i64.wrap (x853 + 1))
 else none
 else
 dn (.inl ())
noncomputable def Q26.l0 (a0 : List Bs) (x853 : Int) : Option ((Unit) ⊕ (Int)) := iter (fun t_ : Int => Q26.l0b a0 t_) x853
noncomputable def Q26.f (a0 : List Bs) : Option Int :=
 jn (Q26.l0 a0 0) (fun (_ : Unit) =>
 some (-1))
theorem Q26.callee : Callee Tryz.prog 87 := ⟨_, Tryz.func87, by kernel_rfl, by kernel_rfl⟩
theorem Q26.spec (R : Res) (Fr : List HProp) (A0 : Option Addr) (n0 : Nat) (c0 : Nat) (a0 : List Bs) (hr0 : RdS Fl.bs.rep R.heap A0 a0) (hn0 : a0.length = n0) (hc0 : n0 ≤ c0) {r : Int} (j : Q26.f a0 = some r) :
 Spec Tryz.prog 87 [.slice A0 n0 c0, .func (.func 53) #[] #[]] R (Fr) (fun v l' => v = .int .i64 r ∧ Fr = l') := by
 subst hn0; refine Spec.of Tryz.func87 rfl rfl ?_; unfold Q26.f at j; have j := brun j; refine At.seq (At.region (At.run 1 rfl (At.nil (At.thn (At.seq (At.seq (At.region ?_))))))); refine At.run 3 rfl (At.nil (At.thn ?_)); refine At.block ?_; obtain ⟨G1054, hl1055, hr1056, j⟩ := bjoin j; obtain ⟨o1057, hlo1058, ho1059⟩ := bsome j; clear j; unfold Q26.l0 at hlo1058; obtain ⟨m1060, hit1062⟩ := Q17.1 hlo1058; clear hlo1058; refine At.loopJ (X := Int) (Y := Unit) (e0 := 0) (fun x853 => [(0, .slice A0 a0.length c0), (1, .func (.func 53) #[] #[]), (7, .int .i64 (a0.length : Int)), (8, .int .i64 x853)]) (fun x853 => Fr) (fun m_ => fun x853 => iterN (fun t_ : Int => Q26.l0b a0 t_) m_ x853 = some o1057) m1060 0 hit1062 (fun _ => []) (fun _ => Fr) (fun _ => G1054 (.inl ()) = some r) (fun a w e hs => ⟨e.sub ⟨rfl, rfl, rfl, rfl, trivial⟩, (by exact hs)⟩) ?_ (fun J1064 => ?_)
 ·rintro _ j; have j := (hl1055 _).symm.trans j
  ·refine At.ibx ?_; refine At.thn (At.seq (At.region (At.run 1 rfl (At.nil (At.thn (At.ret ?_)))))); cases bret j; exact At.res (.inl rfl) rfl rfl ⟨rfl, rfl⟩
 ·clear hit1062 m1060; rintro m1060 x853 hit1062; obtain ⟨m1061, f_, hlt1063, hf_, j⟩ := bit hit1062; clear hit1062; have j : (Q26.l0b a0 x853).bind _ = some o1057 := j; unfold Q26.l0b at j
  ·refine At.seq (At.region (At.run 1 rfl (At.nil (At.thn (At.seq ?_))))); rcases bite j with ⟨h1065, j⟩ | ⟨h1065, j⟩
   ··refine At.condT rfl (decide_eq_true h1065) ?_
     refine At.skip (At.thn (At.seq ?_)); refine At.block ?_; refine At.seq (At.region (At.run 2 rfl (At.nil (At.thn (At.seq (At.region (At.run 3 rfl ?_))))))); obtain ⟨h1066, j⟩ := bnone j; refine At.y (Y.ixRd hr0 rfl rfl rfl rfl rfl rfl rfl h1066.1 h1066.2) rfl rfl rfl (At.y (Y.ldFl hr0 rfl (q := 0) rfl rfl h1066.1 h1066.2 rfl rfl rfl) rfl rfl rfl ?_); obtain ⟨t1067, hc1068, j⟩ := bbind j; refine At.call rfl Q72.callee rfl rfl rfl (Q72.spec _ _  (gt a0 x853)  hc1068) ?_; rintro _ _ ⟨rfl, rfl⟩; refine At.nil (At.thn ?_); rcases bite j with ⟨h1069, j⟩ | ⟨h1069, j⟩
     ··refine At.condT rfl h1069 ?_
       refine At.seq (At.region (At.run 2 rfl (At.nil (At.thn (At.ret ?_))))); refine At.ibr ?_; refine At.thr ?_; have j := bupL hr1056 ho1059 j; refine At.thr ?_; refine At.ibr ?_; refine At.thr ?_; cases bret j; exact At.res (.inl rfl) rfl rfl ⟨rfl, rfl⟩
     ··refine At.condF rfl (bn h1069) ?_
       refine At.skip ?_; refine At.ibn ?_; refine At.thn (At.region (At.run 2 rfl (At.nil ?_))); have j := bnx hf_ j; exact fun a w e hs => ⟨m1061, (IntKind.i64.wrap (x853 + 1)), hlt1063, j, e.sub ⟨rfl, rfl, rfl, rfl, trivial⟩, hs⟩
   ··refine At.condF rfl (decide_eq_false h1065) ?_
     refine At.exit ?_; refine At.the ?_; refine At.the ?_; exact fun a w e hs => J1064 () (bdn j ho1059) a w (e.sub trivial) hs

noncomputable def Q68.f (a0 : List Bs) : Option Bool :=
 (Q26.f a0).bind fun t252 =>
 some (decide (0 ≤ t252))
theorem Q68.callee : Callee Tryz.prog 52 := ⟨_, Tryz.func52, by kernel_rfl, by kernel_rfl⟩
theorem Q68.spec (R : Res) (Fr : List HProp) (A0 : Option Addr) (n0 : Nat) (c0 : Nat) (a0 : List Bs) (hr0 : RdS Fl.bs.rep R.heap A0 a0) (hn0 : a0.length = n0) (hc0 : n0 ≤ c0) {r : Bool} (j : Q68.f a0 = some r) :
 Spec Tryz.prog 52 [.slice A0 n0 c0, .func (.func 53) #[] #[]] R (Fr) (fun v l' => v = .bool r ∧ Fr = l') := by
 subst hn0; refine Spec.of Tryz.func52 rfl rfl ?_; unfold Q68.f at j; have j := brun j; refine At.seq (At.region (At.run 1 rfl (At.nil (At.thn (At.seq (At.region (At.run 2 rfl ?_))))))); obtain ⟨t252, hc253, j⟩ := bbind j; refine At.call rfl Q26.callee rfl rfl rfl (Q26.spec _ _ A0 a0.length c0 a0 hr0 rfl hc0 hc253) ?_; rintro _ _ ⟨rfl, rfl⟩; refine At.run 2 rfl (At.nil (At.thn (At.ret ?_))); cases bret j; exact At.res (.inl rfl) rfl rfl ⟨rfl, rfl⟩

noncomputable def Q19.l0b (a0 : List Int) (x853 : Int) : Option ((Int) ⊕ ((Unit) ⊕ (Int))) :=
 if x853 < (a0.length : Int) then
 if (0 : Int) ≤ x853 ∧ x853 < (a0.length : Int) then
 if gt a0 x853 = 0 then
 nx (IntKind.i64.wrap (x853 + 1))
 else
 upL (some (gt a0 x853))
 else none
 else
 dn (.inl ())
noncomputable def Q19.l0 (a0 : List Int) (x853 : Int) : Option ((Unit) ⊕ (Int)) := iter (fun t_ : Int => Q19.l0b a0 t_) x853
noncomputable def Q19.f (a0 : List Int) : Option Int :=
 jn (Q19.l0 a0 0) (fun (_ : Unit) =>
 some 0)
theorem Q19.callee : Callee Tryz.prog 44 := ⟨_, Tryz.func44, by kernel_rfl, by kernel_rfl⟩
theorem Q19.spec (R : Res) (Fr : List HProp) (A0 : Option Addr) (n0 : Nat) (c0 : Nat) (a0 : List Int) (hr0 : RdS (Fl.int .i64).rep R.heap A0 a0) (hn0 : a0.length = n0) (hc0 : n0 ≤ c0) {r : Int} (j : Q19.f a0 = some r) :
 Spec Tryz.prog 44 [.slice A0 n0 c0] R (Fr) (fun v l' => v = .int .i64 r ∧ Fr = l') := by
 subst hn0; refine Spec.of Tryz.func44 rfl rfl ?_; unfold Q19.f at j; have j := brun j; refine At.seq (At.region (At.run 1 rfl (At.nil (At.thn (At.seq (At.region (At.run 1 rfl ?_))))))); refine At.nil (At.thn (At.seq (At.seq (At.region (At.run 3 rfl (At.nil (At.thn ?_))))))); refine At.block ?_; obtain ⟨G1054, hl1055, hr1056, j⟩ := bjoin j; obtain ⟨o1057, hlo1058, ho1059⟩ := bsome j; clear j; unfold Q19.l0 at hlo1058; obtain ⟨m1060, hit1062⟩ := Q17.1 hlo1058; clear hlo1058; refine At.loopJ (X := Int) (Y := Unit) (e0 := 0) (fun x853 => [(3, .int .i64 0), (6, .slice A0 a0.length c0), (7, .int .i64 (a0.length : Int)), (8, .int .i64 x853)]) (fun x853 => Fr) (fun m_ => fun x853 => iterN (fun t_ : Int => Q19.l0b a0 t_) m_ x853 = some o1057) m1060 0 hit1062 (fun _ => [(3, .int .i64 0)]) (fun _ => Fr) (fun _ => G1054 (.inl ()) = some r) (fun a w e hs => ⟨e.sub ⟨rfl, rfl, rfl, rfl, trivial⟩, (by exact hs)⟩) ?_ (fun J1064 => ?_)
 ·rintro _ j; have j := (hl1055 _).symm.trans j
  ·refine At.ibx ?_; refine At.thn (At.seq (At.region (At.run 2 rfl (At.nil (At.thn (At.ret ?_)))))); cases bret j; exact At.res (.inl rfl) rfl rfl ⟨rfl, rfl⟩
 ·clear hit1062 m1060; rintro m1060 x853 hit1062; obtain ⟨m1061, f_, hlt1063, hf_, j⟩ := bit hit1062; clear hit1062; have j : (Q19.l0b a0 x853).bind _ = some o1057 := j; unfold Q19.l0b at j
  ·refine At.seq (At.region (At.run 1 rfl (At.nil (At.thn (At.seq ?_))))); rcases bite j with ⟨h1065, j⟩ | ⟨h1065, j⟩
   ··refine At.condT rfl (decide_eq_true h1065) ?_
     refine At.skip (At.thn (At.seq ?_)); refine At.block ?_; refine At.seq (At.region ?_); obtain ⟨h1066, j⟩ := bnone j; refine At.y (Y.ixRd hr0 rfl rfl rfl rfl rfl rfl rfl h1066.1 h1066.2) rfl rfl rfl (At.y (Y.ldFl hr0 rfl (q := 0) rfl rfl h1066.1 h1066.2 rfl rfl rfl) rfl rfl rfl (At.run 1 rfl (At.nil (At.thn (At.seq (At.region (At.run 3 rfl ?_))))))); refine At.nil (At.thn ?_); rcases bite j with ⟨h1067, j⟩ | ⟨h1067, j⟩
     ··refine At.condF rfl (nf (decide_eq_true h1067)) ?_
       refine At.skip ?_; refine At.ibn ?_; refine At.thn (At.region (At.run 2 rfl (At.nil ?_))); have j := bnx hf_ j; exact fun a w e hs => ⟨m1061, (IntKind.i64.wrap (x853 + 1)), hlt1063, j, e.sub ⟨rfl, rfl, rfl, rfl, trivial⟩, hs⟩
     ··refine At.condT rfl (nt (decide_eq_false h1067)) ?_
       refine At.seq (At.region (At.run 2 rfl (At.nil (At.thn (At.ret ?_))))); refine At.ibr ?_; refine At.thr ?_; have j := bupL hr1056 ho1059 j; refine At.thr ?_; refine At.ibr ?_; refine At.thr ?_; cases bret j; exact At.res (.inl rfl) rfl rfl ⟨rfl, rfl⟩
   ··refine At.condF rfl (decide_eq_false h1065) ?_
     refine At.exit ?_; refine At.the ?_; refine At.the ?_; exact fun a w e hs => J1064 () (bdn j ho1059) a w (e.sub ⟨rfl, trivial⟩) hs

noncomputable def Q56.f (a0_0 a0_1 a0_2 a1_0 a1_1 a1_2 : Int) : Option Int :=
 (Q43.f a0_0 a1_0).bind fun t269 =>
 (Q43.f a0_1 a1_1).bind fun t271 =>
 (Q43.f a0_2 a1_2).bind fun t273 =>
 (Q19.f ([t269, t271, t273] : List Int)).bind fun t284 =>
 some t284
theorem Q56.callee : Callee Tryz.prog 55 := ⟨_, Tryz.func55, by kernel_rfl, by kernel_rfl⟩
theorem Q56.spec (R : Res) (Fr : List HProp)  (a0_0 a0_1 a0_2 a1_0 a1_1 a1_2 : Int)  {r : Int} (j : Q56.f a0_0 a0_1 a0_2 a1_0 a1_1 a1_2 = some r) :
 Spec Tryz.prog 55 [.agg #[.int .i64 a0_0, .int .i64 a0_1, .int .i64 a0_2], .agg #[.int .i64 a1_0, .int .i64 a1_1, .int .i64 a1_2]] R (Fr) (fun v l' => v = .int .i64 r ∧ Fr = l') := by
 refine Spec.of Tryz.func55 rfl rfl ?_; unfold Q56.f at j; have j := brun j; refine At.seq (At.region ?_); refine At.box rfl rfl (cs := [.int .i64 a0_0, .int .i64 a0_1, .int .i64 a0_2]) rfl rfl (fun b259 => ?_); refine At.box rfl rfl (cs := [.int .i64 a1_0, .int .i64 a1_1, .int .i64 a1_2]) rfl rfl (fun b260 => ?_); refine At.run 1 rfl (At.nil (At.thn (At.seq ?_))); refine At.held [pt b260 (.cells [.int .i64 a1_0, .int .i64 a1_1, .int .i64 a1_2].toArray 35), pt b259 (.cells [.int .i64 a0_0, .int .i64 a0_1, .int .i64 a0_2].toArray 35)] 18 rfl ?_; refine At.H.pw 0 rfl rfl rfl rfl rfl (.c .z (.c .z .n)) ?_; refine At.H.tw 1 rfl (Y.load rfl rfl (.s .z) rfl rfl rfl) rfl rfl rfl (.c .z (.c .z .n)) ?_; refine At.H.pw 2 rfl rfl rfl rfl rfl (.c .z (.c .z .n)) ?_; refine At.H.tw 3 rfl (Y.load rfl rfl .z rfl rfl rfl) rfl rfl rfl (.c .z (.c .z .n)) ?_; refine At.H.pw 5 rfl rfl rfl rfl rfl (.c .z (.c .z .n)) ?_; refine At.H.tw 6 rfl (Y.load rfl rfl (.s .z) rfl rfl rfl) rfl rfl rfl (.c .z (.c .z .n)) ?_; refine At.H.pw 7 rfl rfl rfl rfl rfl (.c .z (.c .z .n)) ?_; refine At.H.tw 8 rfl (Y.load rfl rfl .z rfl rfl rfl) rfl rfl rfl (.c .z (.c .z .n)) ?_; refine At.H.pw 10 rfl rfl rfl rfl rfl (.c .z (.c .z .n)) ?_; refine At.H.tw 11 rfl (Y.load rfl rfl (.s .z) rfl rfl rfl) rfl rfl rfl (.c .z (.c .z .n)) ?_; refine At.H.pw 12 rfl rfl rfl rfl rfl (.c .z (.c .z .n)) ?_; refine At.H.tw 13 rfl (Y.load rfl rfl .z rfl rfl rfl) rfl rfl rfl (.c .z (.c .z .n)) ?_; refine At.H.al [4] (Q12 ?_ Q14)
 ··refine At.HO.op rfl ?_
   obtain ⟨t269, hc270, j⟩ := bbind j; refine At.call rfl Q43.callee rfl rfl rfl (Q43.spec _ _  a0_0 a1_0  hc270) ?_; rintro _ _ ⟨rfl, rfl⟩; refine At.HO.back (.c .z (.c .z .n)) ?_; refine At.H.al [9] (Q12 ?_ Q14)
   ··refine At.HO.op rfl ?_
     obtain ⟨t271, hc272, j⟩ := bbind j; refine At.call rfl Q43.callee rfl rfl rfl (Q43.spec _ _  a0_1 a1_1  hc272) ?_; rintro _ _ ⟨rfl, rfl⟩; refine At.HO.back (.c .z (.c .z .n)) ?_; refine At.H.al [14] (Q12 ?_ Q14)
     ··refine At.HO.op rfl ?_
       obtain ⟨t273, hc274, j⟩ := bbind j; refine At.call rfl Q43.callee rfl rfl rfl (Q43.spec _ _  a0_2 a1_2  hc274) ?_; rintro _ _ ⟨rfl, rfl⟩; refine At.HO.back (.c .z (.c .z .n)) ?_; refine At.H.al [15] (Q12 ?_ Q14)
       ··refine At.HO.op rfl ?_
         refine At.lit rfl (xo := [.tmp 9, .tmp 14, .tmp 19]) (ys := ([t269, t271, t273] : List Int)) (Fl.int .i64) rfl rfl rfl rfl rfl rfl rfl rfl rfl rfl rfl (fun A275 c276 => ?_); refine At.HO.back (.c (.s .z) (.c (.s .z) .n)) ?_; refine At.H.al [16] (Q12 ?_ Q14)
         ··refine At.HO.op rfl ?_
           refine At.freeze .z fun R278 hr279 hn280 hc281 hs282 th283 => ?_; obtain ⟨t284, hc285, j⟩ := bbind j; refine At.call rfl Q19.callee rfl rfl rfl (Q19.spec _ _ A275 (([t269, t271, t273] : List Int).length) c276 ([t269, t271, t273] : List Int) hr279 hn280 hc281 hc285) ?_; rintro _ _ ⟨rfl, rfl⟩; refine At.thaw th283 ?_; refine At.HO.back (.c (.s .z) (.c (.s .z) .n)) ?_; refine At.H.pw 17 rfl rfl rfl rfl rfl (.c (.s .z) (.c (.s .z) .n)) ?_; refine At.H.done (by kernel_rfl) ?_; refine At.thn (At.ret (At.drop .z (At.drop .z (At.drop .z ?_)))); cases bret j; exact At.res (.inl rfl) rfl rfl ⟨rfl, rfl⟩

noncomputable def Q28.l0b (a0 : List Q0) (x853 : Int) : Option ((Int) ⊕ ((Unit) ⊕ (Bool))) :=
 if x853 < (a0.length : Int) then
 if (0 : Int) ≤ IntKind.i64.wrap (x853 - 1) ∧ IntKind.i64.wrap (x853 - 1) < (a0.length : Int) then
 if (0 : Int) ≤ x853 ∧ x853 < (a0.length : Int) then
 (Q56.f ((gt a0 (IntKind.i64.wrap (x853 - 1))).From) ((gt a0 (IntKind.i64.wrap (x853 - 1))).Action) ((gt a0 (IntKind.i64.wrap (x853 - 1))).To) ((gt a0 x853).From) ((gt a0 x853).Action) ((gt a0 x853).To)).bind fun t1068 =>
 if 0 ≤ t1068 then
 upL (some false)
 else
 nx (IntKind.i64.wrap (x853 + 1))
 else none
 else none
 else
 dn (.inl ())
noncomputable def Q28.l0 (a0 : List Q0) (x853 : Int) : Option ((Unit) ⊕ (Bool)) := iter (fun t_ : Int => Q28.l0b a0 t_) x853
noncomputable def Q28.f (a0 : List Q0) : Option Bool :=
 jn (Q28.l0 a0 1) (fun (_ : Unit) =>
 some true)
theorem Q28.callee : Callee Tryz.prog 54 := ⟨_, Tryz.func54, by kernel_rfl, by kernel_rfl⟩
theorem Q28.spec (R : Res) (Fr : List HProp) (A0 : Option Addr) (n0 : Nat) (c0 : Nat) (a0 : List Q0) (hr0 : RdS Q0.fl.rep R.heap A0 a0) (hn0 : a0.length = n0) (hc0 : n0 ≤ c0) {r : Bool} (j : Q28.f a0 = some r) :
 Spec Tryz.prog 54 [.slice A0 n0 c0, .func (.func 55) #[] #[]] R (Fr) (fun v l' => v = .bool r ∧ Fr = l') := by
 subst hn0; refine Spec.of Tryz.func54 rfl rfl ?_; unfold Q28.f at j; have j := brun j; refine At.seq (At.region (At.run 1 rfl (At.nil (At.thn (At.seq (At.seq (At.region ?_))))))); refine At.run 1 rfl (At.nil (At.thn ?_)); refine At.block ?_; obtain ⟨G1054, hl1055, hr1056, j⟩ := bjoin j; obtain ⟨o1057, hlo1058, ho1059⟩ := bsome j; clear j; unfold Q28.l0 at hlo1058; obtain ⟨m1060, hit1062⟩ := Q17.1 hlo1058; clear hlo1058; refine At.loopJ (X := Int) (Y := Unit) (e0 := 0) (fun x853 => [(0, .slice A0 a0.length c0), (1, .func (.func 55) #[] #[]), (5, .int .i64 x853)]) (fun x853 => Fr) (fun m_ => fun x853 => iterN (fun t_ : Int => Q28.l0b a0 t_) m_ x853 = some o1057) m1060 1 hit1062 (fun _ => []) (fun _ => Fr) (fun _ => G1054 (.inl ()) = some r) (fun a w e hs => ⟨e.sub ⟨rfl, rfl, rfl, trivial⟩, (by exact hs)⟩) ?_ (fun J1064 => ?_)
 ·rintro _ j; have j := (hl1055 _).symm.trans j
  ·refine At.ibx ?_; refine At.thn (At.seq (At.region (At.run 1 rfl (At.nil (At.thn (At.ret ?_)))))); cases bret j; exact At.res (.inl rfl) rfl rfl ⟨rfl, rfl⟩
 ·clear hit1062 m1060; rintro m1060 x853 hit1062; obtain ⟨m1061, f_, hlt1063, hf_, j⟩ := bit hit1062; clear hit1062; have j : (Q28.l0b a0 x853).bind _ = some o1057 := j; unfold Q28.l0b at j
  ·refine At.seq (At.seq (At.region (At.run 4 rfl (At.nil (At.thn ?_))))); rcases bite j with ⟨h1065, j⟩ | ⟨h1065, j⟩
   ··refine At.condT rfl (decide_eq_true h1065) ?_
     refine At.skip (At.thn (At.seq ?_)); refine At.block ?_; refine At.seq ?_; refine At.quiet (by kernel_rfl) ?_; refine At.Quiet.run 4 rfl ?_; obtain ⟨h1066, j⟩ := bnone j; refine At.Quiet.y (Y.ixRd hr0 rfl rfl rfl rfl rfl rfl rfl h1066.1 h1066.2) rfl rfl rfl ?_; refine At.Quiet.y (Y.ldFl hr0 rfl (q := 0) rfl rfl h1066.1 h1066.2 rfl rfl rfl) rfl rfl rfl ?_; refine At.Quiet.run 2 rfl ?_; obtain ⟨h1067, j⟩ := bnone j; refine At.Quiet.y (Y.ixRd hr0 rfl rfl rfl rfl rfl rfl rfl h1067.1 h1067.2) rfl rfl rfl ?_; refine At.Quiet.y (Y.ldFl hr0 rfl (q := 0) rfl rfl h1067.1 h1067.2 rfl rfl rfl) rfl rfl rfl ?_; obtain ⟨t1068, hc1069, j⟩ := bbind j; refine At.Quiet.call rfl Q56.callee rfl rfl rfl (Q56.spec _ _  ((gt a0 (IntKind.i64.wrap (x853 - 1))).From) ((gt a0 (IntKind.i64.wrap (x853 - 1))).Action) ((gt a0 (IntKind.i64.wrap (x853 - 1))).To) ((gt a0 x853).From) ((gt a0 x853).Action) ((gt a0 x853).To)  hc1069) (fun _ _ h_ => ⟨h_.1, fun _ hs => h_.2 ▸ hs⟩) ?_; refine At.Quiet.run 1 rfl (At.Quiet.nil (At.thn ?_)); rcases bite j with ⟨h1070, j⟩ | ⟨h1070, j⟩
     ··refine At.condT rfl (decide_eq_true h1070) ?_
       refine At.seq (At.region (At.run 1 rfl (At.nil (At.thn (At.ret ?_))))); refine At.ibr ?_; refine At.thr ?_; have j := bupL hr1056 ho1059 j; refine At.thr ?_; refine At.ibr ?_; refine At.thr ?_; cases bret j; exact At.res (.inl rfl) rfl rfl ⟨rfl, rfl⟩
     ··refine At.condF rfl (decide_eq_false h1070) ?_
       refine At.skip ?_; refine At.ibn ?_; refine At.thn (At.region (At.run 3 rfl (At.nil ?_))); have j := bnx hf_ j; exact fun a w e hs => ⟨m1061, (IntKind.i64.wrap (x853 + 1)), hlt1063, j, e.sub ⟨rfl, rfl, rfl, trivial⟩, hs⟩
   ··refine At.condF rfl (decide_eq_false h1065) ?_
     refine At.exit ?_; refine At.the ?_; refine At.the ?_; exact fun a w e hs => J1064 () (bdn j ho1059) a w (e.sub trivial) hs

noncomputable def Q69.f (a0 a1 : Bs) : Option Int :=
 some (Lib.compareBytes a0 a1)
theorem Q69.callee : Callee Tryz.prog 88 := ⟨_, Tryz.func88, by kernel_rfl, by kernel_rfl⟩
theorem Q69.spec (R : Res) (Fr : List HProp)  (a0 a1 : Bs)  {r : Int} (j : Q69.f a0 a1 = some r) :
 Spec Tryz.prog 88 [.string ⟨(a0).toArray⟩, .string ⟨(a1).toArray⟩] R (Fr) (fun v l' => v = .int .i64 r ∧ Fr = l') := by
 refine Spec.of Tryz.func88 rfl rfl ?_; unfold Q69.f at j; have j := brun j; refine At.seq (At.region (At.run 1 rfl (At.nil (At.thn (At.seq (At.region (At.run 2 rfl ?_))))))); refine At.y (Y.ext bytealg_cmpstring.ext rfl rfl (fun w => Q246 _ _ w)) rfl rfl rfl ?_; refine At.run 1 rfl (At.nil (At.thn (At.ret ?_))); cases bret j; exact At.res (.inl rfl) rfl rfl ⟨rfl, rfl⟩

noncomputable def Q53.f (a0 a1 : Bs) : Option Int :=
 (Q69.f a0 a1).bind fun t252 =>
 some t252
theorem Q53.callee : Callee Tryz.prog 57 := ⟨_, Tryz.func57, by kernel_rfl, by kernel_rfl⟩
theorem Q53.spec (R : Res) (Fr : List HProp)  (a0 a1 : Bs)  {r : Int} (j : Q53.f a0 a1 = some r) :
 Spec Tryz.prog 57 [.string ⟨(a0).toArray⟩, .string ⟨(a1).toArray⟩] R (Fr) (fun v l' => v = .int .i64 r ∧ Fr = l') := by
 refine Spec.of Tryz.func57 rfl rfl ?_; unfold Q53.f at j; have j := brun j; refine At.seq (At.region (At.run 1 rfl (At.nil (At.thn (At.seq (At.region (At.run 2 rfl ?_))))))); obtain ⟨t252, hc253, j⟩ := bbind j; refine At.call rfl Q69.callee rfl rfl rfl (Q69.spec _ _  a0 a1  hc253) ?_; rintro _ _ ⟨rfl, rfl⟩; refine At.run 1 rfl (At.nil (At.thn (At.ret ?_))); cases bret j; exact At.res (.inl rfl) rfl rfl ⟨rfl, rfl⟩

noncomputable def Q29.l0b (a0 : List Bs) (x853 : Int) : Option ((Int) ⊕ ((Unit) ⊕ (Bool))) :=
 if x853 < (a0.length : Int) then
 if (0 : Int) ≤ IntKind.i64.wrap (x853 - 1) ∧ IntKind.i64.wrap (x853 - 1) < (a0.length : Int) then
 if (0 : Int) ≤ x853 ∧ x853 < (a0.length : Int) then
 (Q53.f (gt a0 (IntKind.i64.wrap (x853 - 1))) (gt a0 x853)).bind fun t1068 =>
 if 0 ≤ t1068 then
 upL (some false)
 else
 nx (IntKind.i64.wrap (x853 + 1))
 else none
 else none
 else
 dn (.inl ())
noncomputable def Q29.l0 (a0 : List Bs) (x853 : Int) : Option ((Unit) ⊕ (Bool)) := iter (fun t_ : Int => Q29.l0b a0 t_) x853
noncomputable def Q29.f (a0 : List Bs) : Option Bool :=
 jn (Q29.l0 a0 1) (fun (_ : Unit) =>
 some true)
theorem Q29.callee : Callee Tryz.prog 56 := ⟨_, Tryz.func56, by kernel_rfl, by kernel_rfl⟩
theorem Q29.spec (R : Res) (Fr : List HProp) (A0 : Option Addr) (n0 : Nat) (c0 : Nat) (a0 : List Bs) (hr0 : RdS Fl.bs.rep R.heap A0 a0) (hn0 : a0.length = n0) (hc0 : n0 ≤ c0) {r : Bool} (j : Q29.f a0 = some r) :
 Spec Tryz.prog 56 [.slice A0 n0 c0, .func (.func 57) #[] #[]] R (Fr) (fun v l' => v = .bool r ∧ Fr = l') := by
 subst hn0; refine Spec.of Tryz.func56 rfl rfl ?_; unfold Q29.f at j; have j := brun j; refine At.seq (At.region (At.run 1 rfl (At.nil (At.thn (At.seq (At.seq (At.region ?_))))))); refine At.run 1 rfl (At.nil (At.thn ?_)); refine At.block ?_; obtain ⟨G1054, hl1055, hr1056, j⟩ := bjoin j; obtain ⟨o1057, hlo1058, ho1059⟩ := bsome j; clear j; unfold Q29.l0 at hlo1058; obtain ⟨m1060, hit1062⟩ := Q17.1 hlo1058; clear hlo1058; refine At.loopJ (X := Int) (Y := Unit) (e0 := 0) (fun x853 => [(0, .slice A0 a0.length c0), (1, .func (.func 57) #[] #[]), (5, .int .i64 x853)]) (fun x853 => Fr) (fun m_ => fun x853 => iterN (fun t_ : Int => Q29.l0b a0 t_) m_ x853 = some o1057) m1060 1 hit1062 (fun _ => []) (fun _ => Fr) (fun _ => G1054 (.inl ()) = some r) (fun a w e hs => ⟨e.sub ⟨rfl, rfl, rfl, trivial⟩, (by exact hs)⟩) ?_ (fun J1064 => ?_)
 ·rintro _ j; have j := (hl1055 _).symm.trans j
  ·refine At.ibx ?_; refine At.thn (At.seq (At.region (At.run 1 rfl (At.nil (At.thn (At.ret ?_)))))); cases bret j; exact At.res (.inl rfl) rfl rfl ⟨rfl, rfl⟩
 ·clear hit1062 m1060; rintro m1060 x853 hit1062; obtain ⟨m1061, f_, hlt1063, hf_, j⟩ := bit hit1062; clear hit1062; have j : (Q29.l0b a0 x853).bind _ = some o1057 := j; unfold Q29.l0b at j
  ·refine At.seq (At.seq (At.region (At.run 4 rfl (At.nil (At.thn ?_))))); rcases bite j with ⟨h1065, j⟩ | ⟨h1065, j⟩
   ··refine At.condT rfl (decide_eq_true h1065) ?_
     refine At.skip (At.thn (At.seq ?_)); refine At.block ?_; refine At.seq ?_; refine At.quiet (by kernel_rfl) ?_; refine At.Quiet.run 4 rfl ?_; obtain ⟨h1066, j⟩ := bnone j; refine At.Quiet.y (Y.ixRd hr0 rfl rfl rfl rfl rfl rfl rfl h1066.1 h1066.2) rfl rfl rfl ?_; refine At.Quiet.y (Y.ldFl hr0 rfl (q := 0) rfl rfl h1066.1 h1066.2 rfl rfl rfl) rfl rfl rfl ?_; refine At.Quiet.run 2 rfl ?_; obtain ⟨h1067, j⟩ := bnone j; refine At.Quiet.y (Y.ixRd hr0 rfl rfl rfl rfl rfl rfl rfl h1067.1 h1067.2) rfl rfl rfl ?_; refine At.Quiet.y (Y.ldFl hr0 rfl (q := 0) rfl rfl h1067.1 h1067.2 rfl rfl rfl) rfl rfl rfl ?_; obtain ⟨t1068, hc1069, j⟩ := bbind j; refine At.Quiet.call rfl Q53.callee rfl rfl rfl (Q53.spec _ _  (gt a0 (IntKind.i64.wrap (x853 - 1))) (gt a0 x853)  hc1069) (fun _ _ h_ => ⟨h_.1, fun _ hs => h_.2 ▸ hs⟩) ?_; refine At.Quiet.run 1 rfl (At.Quiet.nil (At.thn ?_)); rcases bite j with ⟨h1070, j⟩ | ⟨h1070, j⟩
     ··refine At.condT rfl (decide_eq_true h1070) ?_
       refine At.seq (At.region (At.run 1 rfl (At.nil (At.thn (At.ret ?_))))); refine At.ibr ?_; refine At.thr ?_; have j := bupL hr1056 ho1059 j; refine At.thr ?_; refine At.ibr ?_; refine At.thr ?_; cases bret j; exact At.res (.inl rfl) rfl rfl ⟨rfl, rfl⟩
     ··refine At.condF rfl (decide_eq_false h1070) ?_
       refine At.skip ?_; refine At.ibn ?_; refine At.thn (At.region (At.run 3 rfl (At.nil ?_))); have j := bnx hf_ j; exact fun a w e hs => ⟨m1061, (IntKind.i64.wrap (x853 + 1)), hlt1063, j, e.sub ⟨rfl, rfl, rfl, trivial⟩, hs⟩
   ··refine At.condF rfl (decide_eq_false h1065) ?_
     refine At.exit ?_; refine At.the ?_; refine At.the ?_; exact fun a w e hs => J1064 () (bdn j ho1059) a w (e.sub trivial) hs

noncomputable def Q65.f (a0_0 : Bs) (a0_1 : List Int) (a1_0 : Bs) (a1_1 : List Int) : Option Int :=
 (Q53.f a0_0 a1_0).bind fun t256 =>
 some t256
theorem Q65.callee : Callee Tryz.prog 59 := ⟨_, Tryz.func59, by kernel_rfl, by kernel_rfl⟩
theorem Q65.spec (R : Res) (Fr : List HProp) (A0_1 : Option Addr) (n0_1 : Nat) (c0_1 : Nat) (A1_1 : Option Addr) (n1_1 : Nat) (c1_1 : Nat) (a0_0 : Bs) (a0_1 : List Int) (a1_0 : Bs) (a1_1 : List Int) (hr0_1 : RdS (Fl.int .i64).rep R.heap A0_1 a0_1) (hn0_1 : a0_1.length = n0_1) (hc0_1 : n0_1 ≤ c0_1) (hr1_1 : RdS (Fl.int .i64).rep R.heap A1_1 a1_1) (hn1_1 : a1_1.length = n1_1) (hc1_1 : n1_1 ≤ c1_1) {r : Int} (j : Q65.f a0_0 a0_1 a1_0 a1_1 = some r) :
 Spec Tryz.prog 59 [.agg #[.string ⟨(a0_0).toArray⟩, .slice A0_1 n0_1 c0_1], .agg #[.string ⟨(a1_0).toArray⟩, .slice A1_1 n1_1 c1_1]] R (Fr) (fun v l' => v = .int .i64 r ∧ Fr = l') := by
 subst hn0_1; subst hn1_1; refine Spec.of Tryz.func59 rfl rfl ?_; unfold Q65.f at j; have j := brun j; refine At.seq (At.region ?_); refine At.box rfl rfl (cs := [.string ⟨(a0_0).toArray⟩, .slice A0_1 a0_1.length c0_1]) rfl rfl (fun b254 => ?_); refine At.box rfl rfl (cs := [.string ⟨(a1_0).toArray⟩, .slice A1_1 a1_1.length c1_1]) rfl rfl (fun b255 => ?_); refine At.run 1 rfl (At.nil (At.thn (At.seq (At.region (At.run 1 rfl (At.y (Y.load rfl rfl (.s .z) rfl rfl rfl) rfl rfl rfl (At.run 1 rfl ?_))))))); refine At.y (Y.load rfl rfl .z rfl rfl rfl) rfl rfl rfl ?_; obtain ⟨t256, hc257, j⟩ := bbind j; refine At.call rfl Q53.callee rfl rfl rfl (Q53.spec _ _  a0_0 a1_0  hc257) ?_; rintro _ _ ⟨rfl, rfl⟩; refine At.run 1 rfl (At.nil (At.thn (At.ret (At.drop .z (At.drop .z ?_))))); cases bret j; exact At.res (.inl rfl) rfl rfl ⟨rfl, rfl⟩

noncomputable def Q27.l0b (a0 : List Q1) (x853 : Int) : Option ((Int) ⊕ ((Unit) ⊕ (Bool))) :=
 if x853 < (a0.length : Int) then
 if (0 : Int) ≤ IntKind.i64.wrap (x853 - 1) ∧ IntKind.i64.wrap (x853 - 1) < (a0.length : Int) then
 if (0 : Int) ≤ x853 ∧ x853 < (a0.length : Int) then
 (Q65.f ((gt a0 (IntKind.i64.wrap (x853 - 1))).Name) ((gt a0 (IntKind.i64.wrap (x853 - 1))).States) ((gt a0 x853).Name) ((gt a0 x853).States)).bind fun t1082 =>
 if 0 ≤ t1082 then
 upL (some false)
 else
 nx (IntKind.i64.wrap (x853 + 1))
 else none
 else none
 else
 dn (.inl ())
noncomputable def Q27.l0 (a0 : List Q1) (x853 : Int) : Option ((Unit) ⊕ (Bool)) := iter (fun t_ : Int => Q27.l0b a0 t_) x853
noncomputable def Q27.f (a0 : List Q1) : Option Bool :=
 jn (Q27.l0 a0 1) (fun (_ : Unit) =>
 some true)
theorem Q27.callee : Callee Tryz.prog 58 := ⟨_, Tryz.func58, by kernel_rfl, by kernel_rfl⟩
theorem Q27.spec (R : Res) (Fr : List HProp) (A0 : Option Addr) (n0 : Nat) (c0 : Nat) (a0 : List Q1) (hr0 : RdS Q1.rep R.heap A0 a0) (hn0 : a0.length = n0) (hc0 : n0 ≤ c0) {r : Bool} (j : Q27.f a0 = some r) :
 Spec Tryz.prog 58 [.slice A0 n0 c0, .func (.func 59) #[] #[]] R (Fr) (fun v l' => v = .bool r ∧ Fr = l') := by
 subst hn0; refine Spec.of Tryz.func58 rfl rfl ?_; unfold Q27.f at j; have j := brun j; refine At.seq (At.region (At.run 1 rfl (At.nil (At.thn (At.seq (At.seq (At.region ?_))))))); refine At.run 1 rfl (At.nil (At.thn ?_)); refine At.block ?_; obtain ⟨G1054, hl1055, hr1056, j⟩ := bjoin j; obtain ⟨o1057, hlo1058, ho1059⟩ := bsome j; clear j; unfold Q27.l0 at hlo1058; obtain ⟨m1060, hit1062⟩ := Q17.1 hlo1058; clear hlo1058; refine At.loopJ (X := Int) (Y := Unit) (e0 := 0) (fun x853 => [(0, .slice A0 a0.length c0), (1, .func (.func 59) #[] #[]), (5, .int .i64 x853)]) (fun x853 => Fr) (fun m_ => fun x853 => iterN (fun t_ : Int => Q27.l0b a0 t_) m_ x853 = some o1057) m1060 1 hit1062 (fun _ => []) (fun _ => Fr) (fun _ => G1054 (.inl ()) = some r) (fun a w e hs => ⟨e.sub ⟨rfl, rfl, rfl, trivial⟩, (by exact hs)⟩) ?_ (fun J1064 => ?_)
 ·rintro _ j; have j := (hl1055 _).symm.trans j
  ·refine At.ibx ?_; refine At.thn (At.seq (At.region (At.run 1 rfl (At.nil (At.thn (At.ret ?_)))))); cases bret j; exact At.res (.inl rfl) rfl rfl ⟨rfl, rfl⟩
 ·clear hit1062 m1060; rintro m1060 x853 hit1062; obtain ⟨m1061, f_, hlt1063, hf_, j⟩ := bit hit1062; clear hit1062; have j : (Q27.l0b a0 x853).bind _ = some o1057 := j; unfold Q27.l0b at j
  ·refine At.seq (At.seq (At.region (At.run 4 rfl (At.nil (At.thn ?_))))); rcases bite j with ⟨h1065, j⟩ | ⟨h1065, j⟩
   ··refine At.condT rfl (decide_eq_true h1065) ?_
     refine At.skip (At.thn (At.seq ?_)); refine At.block ?_; refine At.seq ?_; refine At.quiet (by kernel_rfl) ?_; refine At.Quiet.run 4 rfl ?_; obtain ⟨h1066, j⟩ := bnone j; refine At.Quiet.y (Y.ixRd hr0 rfl rfl rfl rfl rfl rfl rfl h1066.1 h1066.2) rfl rfl rfl ?_; obtain ⟨cs1067, hK1068, hy1069⟩ := RdS.whole (P := Tryz.prog) hr0 (Sub.refl _) rfl h1066.1 h1066.2; obtain ⟨_, _, rfl, rfl, ⟨A1070, c1071, rfl, hc1072, hr1073⟩⟩ := hK1068; refine At.Quiet.y (hy1069 rfl rfl rfl rfl) rfl rfl rfl ?_; refine At.Quiet.run 2 rfl ?_; obtain ⟨h1074, j⟩ := bnone j; refine At.Quiet.y (Y.ixRd hr0 rfl rfl rfl rfl rfl rfl rfl h1074.1 h1074.2) rfl rfl rfl ?_; obtain ⟨cs1075, hK1076, hy1077⟩ := RdS.whole (P := Tryz.prog) hr0 (Sub.refl _) rfl h1074.1 h1074.2; obtain ⟨_, _, rfl, rfl, ⟨A1078, c1079, rfl, hc1080, hr1081⟩⟩ := hK1076; refine At.Quiet.y (hy1077 rfl rfl rfl rfl) rfl rfl rfl ?_; obtain ⟨t1082, hc1083, j⟩ := bbind j; refine At.Quiet.call rfl Q65.callee rfl rfl rfl (Q65.spec _ _ A1070 ((gt a0 (IntKind.i64.wrap (x853 - 1))).States.length) c1071 A1078 ((gt a0 x853).States.length) c1079 ((gt a0 (IntKind.i64.wrap (x853 - 1))).Name) ((gt a0 (IntKind.i64.wrap (x853 - 1))).States) ((gt a0 x853).Name) ((gt a0 x853).States) hr1073 rfl hc1072 hr1081 rfl hc1080 hc1083) (fun _ _ h_ => ⟨h_.1, fun _ hs => h_.2 ▸ hs⟩) ?_; refine At.Quiet.run 1 rfl (At.Quiet.nil (At.thn ?_)); rcases bite j with ⟨h1084, j⟩ | ⟨h1084, j⟩
     ··refine At.condT rfl (decide_eq_true h1084) ?_
       refine At.seq (At.region (At.run 1 rfl (At.nil (At.thn (At.ret ?_))))); refine At.ibr ?_; refine At.thr ?_; have j := bupL hr1056 ho1059 j; refine At.thr ?_; refine At.ibr ?_; refine At.thr ?_; cases bret j; exact At.res (.inl rfl) rfl rfl ⟨rfl, rfl⟩
     ··refine At.condF rfl (decide_eq_false h1084) ?_
       refine At.skip ?_; refine At.ibn ?_; refine At.thn (At.region (At.run 3 rfl (At.nil ?_))); have j := bnx hf_ j; exact fun a w e hs => ⟨m1061, (IntKind.i64.wrap (x853 + 1)), hlt1063, j, e.sub ⟨rfl, rfl, rfl, trivial⟩, hs⟩
   ··refine At.condF rfl (decide_eq_false h1065) ?_
     refine At.exit ?_; refine At.the ?_; refine At.the ?_; exact fun a w e hs => J1064 () (bdn j ho1059) a w (e.sub trivial) hs

noncomputable def Q9.l1b (a0_0 : Int) (a0_1 : List Bs) (a0_2 : List Q0) (a0_3 : List Q1) (x2493 : Int) : Option ((Int) ⊕ ((Unit) ⊕ (Bool))) :=
 if x2493 < (a0_3.length : Int) then
 if (0 : Int) ≤ x2493 ∧ x2493 < (a0_3.length : Int) then
 (Q44.f ((gt a0_3 x2493).Name)).bind fun t3343 =>
 jn (
 if t3343 = true then
 (Q25.f ((gt a0_3 x2493).States)).bind fun t3760 =>
 some (.inl (!t3760))
 else
 some (.inl true)) (fun (x3545 : Bool) =>
 jn (
 if x3545 = true then
 some (.inl true)
 else
 (Q67.f ((gt a0_3 x2493).States) a0_0 a0_1 a0_2 a0_3).bind fun t3757 =>
 some (.inl t3757)) (fun (x3750 : Bool) =>
 if x3750 = true then
 upL (some false)
 else
 nx (IntKind.i64.wrap (x2493 + 1))))
 else none
 else
 dn (.inl ())
noncomputable def Q9.l1 (a0_0 : Int) (a0_1 : List Bs) (a0_2 : List Q0) (a0_3 : List Q1) (x2493 : Int) : Option ((Unit) ⊕ (Bool)) := iter (fun t_ : Int => Q9.l1b a0_0 a0_1 a0_2 a0_3 t_) x2493
noncomputable def Q9.l0b (a0_0 : Int) (a0_1 : List Bs) (a0_2 : List Q0) (a0_3 : List Q1) (x1678 x1679 : Int) : Option ((Int × Int) ⊕ ((Int) ⊕ (Bool))) :=
 if x1679 < (a0_2.length : Int) then
 if (0 : Int) ≤ x1679 ∧ x1679 < (a0_2.length : Int) then
 (Q45.f ((gt a0_2 x1679).From) a0_0 a0_1 a0_2 a0_3).bind fun t3765 =>
 jn (
 if t3765 = true then
 (Q45.f ((gt a0_2 x1679).To) a0_0 a0_1 a0_2 a0_3).bind fun t4387 =>
 some (.inl (!t4387))
 else
 some (.inl true)) (fun (x3967 : Bool) =>
 jn (
 if x3967 = true then
 some (.inl true)
 else
 some (.inl (decide ((gt a0_2 x1679).Action < 0)))) (fun (x4172 : Bool) =>
 jn (
 if x4172 = true then
 some (.inl true)
 else
 some (.inl (decide ((a0_1.length : Int) ≤ (gt a0_2 x1679).Action)))) (fun (x4377 : Bool) =>
 if x4377 = true then
 upL (some false)
 else
 if (0 : Int) ≤ (gt a0_2 x1679).Action then
 nx (bor .u8 x1678 (Bw.shl .u8 1 ((gt a0_2 x1679).Action)), IntKind.i64.wrap (x1679 + 1))
 else none)))
 else none
 else
 dn (.inl x1678)
noncomputable def Q9.l0 (a0_0 : Int) (a0_1 : List Bs) (a0_2 : List Q0) (a0_3 : List Q1) (x1678 x1679 : Int) : Option ((Int) ⊕ (Bool)) := iter (fun t_ : Int × Int => Q9.l0b a0_0 a0_1 a0_2 a0_3 t_.1 t_.2) (x1678, x1679)
noncomputable def Q9.f (a0_0 : Int) (a0_1 : List Bs) (a0_2 : List Q0) (a0_3 : List Q1) : Option Bool :=
 jn (
 if a0_0 < 1 then
 some (.inl true)
 else
 some (.inl (decide (24 < a0_0)))) (fun (x454 : Bool) =>
 jn (
 if x454 = true then
 some (.inl true)
 else
 some (.inl (decide (8 < (a0_1.length : Int))))) (fun (x659 : Bool) =>
 jn (
 if x659 = true then
 some (.inl true)
 else
 some (.inl (decide (8 < (a0_3.length : Int))))) (fun (x864 : Bool) =>
 jn (
 if x864 = true then
 some (.inl true)
 else
 some (.inl (decide (200 < (a0_2.length : Int))))) (fun (x1069 : Bool) =>
 if x1069 = true then
 some false
 else
 jn (Q9.l0 a0_0 a0_1 a0_2 a0_3 0 0) (fun (x1880 : Int) =>
 jn (Q9.l1 a0_0 a0_1 a0_2 a0_3 0) (fun (_ : Unit) =>
 (Q68.f a0_1).bind fun t2705 =>
 jn (
 if t2705 = true then
 some (.inl true)
 else
 if (0 : Int) ≤ (a0_1.length : Int) then
 some (.inl (!(decide (x1880 = IntKind.u8.wrap ((Bw.shl .u8 1 (a0_1.length : Int)) - 1)))))
 else none) (fun (x2907 : Bool) =>
 if x2907 = true then
 some false
 else
 (Q28.f a0_2).bind fun t2913 =>
 jn (
 if t2913 = true then
 (Q29.f a0_1).bind fun t3329 =>
 some (.inl t3329)
 else
 some (.inl false)) (fun (x3115 : Bool) =>
 jn (
 if x3115 = true then
 (Q27.f a0_3).bind fun t3326 =>
 some (.inl t3326)
 else
 some (.inl false)) (fun (x3320 : Bool) =>
 some x3320)))))))))
theorem Q9.callee : Callee Tryz.prog 18 := ⟨_, Tryz.func18, by kernel_rfl, by kernel_rfl⟩
theorem Q9.spec (R : Res) (Fr : List HProp) (A0_1 : Option Addr) (n0_1 : Nat) (c0_1 : Nat) (A0_2 : Option Addr) (n0_2 : Nat) (c0_2 : Nat) (A0_3 : Option Addr) (n0_3 : Nat) (c0_3 : Nat) (a0_0 : Int) (a0_1 : List Bs) (a0_2 : List Q0) (a0_3 : List Q1) (hr0_1 : RdS Fl.bs.rep R.heap A0_1 a0_1) (hn0_1 : a0_1.length = n0_1) (hc0_1 : n0_1 ≤ c0_1) (hr0_2 : RdS Q0.fl.rep R.heap A0_2 a0_2) (hn0_2 : a0_2.length = n0_2) (hc0_2 : n0_2 ≤ c0_2) (hr0_3 : RdS Q1.rep R.heap A0_3 a0_3) (hn0_3 : a0_3.length = n0_3) (hc0_3 : n0_3 ≤ c0_3) {r : Bool} (j : Q9.f a0_0 a0_1 a0_2 a0_3 = some r) :
 Spec Tryz.prog 18 [.agg #[.int .i64 a0_0, .slice A0_1 n0_1 c0_1, .slice A0_2 n0_2 c0_2, .slice A0_3 n0_3 c0_3]] R (Fr) (fun v l' => v = .bool r ∧ Fr = l') := by
 subst hn0_1; subst hn0_2; subst hn0_3; refine Spec.of Tryz.func18 rfl rfl ?_; unfold Q9.f at j; have j := brun j; refine At.seq (At.region ?_); refine At.box rfl rfl (cs := [.int .i64 a0_0, .slice A0_1 a0_1.length c0_1, .slice A0_2 a0_2.length c0_2, .slice A0_3 a0_3.length c0_3]) rfl rfl (fun b253 => ?_); refine At.run 1 rfl (At.nil (At.thn (At.seq (At.seq (At.region (At.run 1 rfl (At.y (Y.load rfl rfl .z rfl rfl rfl) rfl rfl rfl ?_))))))); refine At.run 2 rfl ?_; obtain ⟨G455, hl456, hr457, j⟩ := bjoin j; refine At.joinO 4 (X := Bool) (fun x454 => [(1, .pointer (some ⟨b253, 0, none⟩)), (16, .bool x454)]) (fun x454 => pt b253 (.cells [.int .i64 a0_0, .slice A0_1 a0_1.length c0_1, .slice A0_2 a0_2.length c0_2, .slice A0_3 a0_3.length c0_3].toArray 26) :: Fr) (fun x454 => G455 (.inl x454) = some r) ?_ (fun J458 => ?_)
 ·rintro x454 j; have j := (hl456 _).symm.trans j
  ·refine At.run 1 rfl ?_; obtain ⟨G660, hl661, hr662, j⟩ := bjoin j; refine At.joinO 5 (X := Bool) (fun x659 => [(1, .pointer (some ⟨b253, 0, none⟩)), (22, .bool x659)]) (fun x659 => pt b253 (.cells [.int .i64 a0_0, .slice A0_1 a0_1.length c0_1, .slice A0_2 a0_2.length c0_2, .slice A0_3 a0_3.length c0_3].toArray 26) :: Fr) (fun x659 => G660 (.inl x659) = some r) ?_ (fun J663 => ?_)
   ·rintro x659 j; have j := (hl661 _).symm.trans j
    ·refine At.run 1 rfl ?_; obtain ⟨G865, hl866, hr867, j⟩ := bjoin j; refine At.joinO 5 (X := Bool) (fun x864 => [(1, .pointer (some ⟨b253, 0, none⟩)), (28, .bool x864)]) (fun x864 => pt b253 (.cells [.int .i64 a0_0, .slice A0_1 a0_1.length c0_1, .slice A0_2 a0_2.length c0_2, .slice A0_3 a0_3.length c0_3].toArray 26) :: Fr) (fun x864 => G865 (.inl x864) = some r) ?_ (fun J868 => ?_)
     ·rintro x864 j; have j := (hl866 _).symm.trans j
      ·refine At.run 1 rfl ?_; obtain ⟨G1070, hl1071, hr1072, j⟩ := bjoin j; refine At.joinO 5 (X := Bool) (fun x1069 => [(1, .pointer (some ⟨b253, 0, none⟩)), (34, .bool x1069)]) (fun x1069 => pt b253 (.cells [.int .i64 a0_0, .slice A0_1 a0_1.length c0_1, .slice A0_2 a0_2.length c0_2, .slice A0_3 a0_3.length c0_3].toArray 26) :: Fr) (fun x1069 => G1070 (.inl x1069) = some r) ?_ (fun J1073 => ?_)
       ·rintro x1069 j; have j := (hl1071 _).symm.trans j
        ·refine At.nil (At.thn ?_); rcases bite j with ⟨h1074, j⟩ | ⟨h1074, j⟩
         ··refine At.condT rfl h1074 ?_
           refine At.seq (At.region (At.run 1 rfl (At.nil (At.thn (At.ret (At.thr (At.drop .z ?_))))))); cases bret j; exact At.res (.inl rfl) rfl rfl ⟨rfl, rfl⟩
         ··refine At.condF rfl (bn h1074) ?_
           refine At.skip (At.thn (At.seq (At.region (At.run 1 rfl ?_)))); refine At.alloc rfl rfl rfl (fun b1075 => ?_); refine At.store rfl rfl rfl rfl .z rfl rfl rfl (.c .n) ?_; refine At.nil (At.thn (At.seq (At.region (At.run 1 rfl (At.nil (At.thn (At.seq ?_))))))); refine At.seq (At.region (At.run 1 rfl (At.y (Y.load rfl rfl (.s .z) rfl rfl rfl) rfl rfl rfl (At.run 2 rfl (At.nil (At.thn ?_)))))); refine At.block ?_; obtain ⟨G1881, hl1882, hr1883, j⟩ := bjoin j; obtain ⟨o1884, hlo1885, ho1886⟩ := bsome j; clear j; unfold Q9.l0 at hlo1885; obtain ⟨m1887, hit1889⟩ := Q17.1 hlo1885; clear hlo1885; refine At.loopJ (X := Int × Int) (Y := Int) (e0 := 0) (fun s_ => [(1, .pointer (some ⟨b253, 0, none⟩)), (3, .pointer (some ⟨b1075, 0, none⟩)), (4, .int .u8 s_.1), (37, .slice A0_2 a0_2.length c0_2), (38, .int .i64 (a0_2.length : Int)), (39, .int .i64 s_.2)]) (fun s_ => pt b1075 (.cells [.func (.func 46) #[] #[.pointer (some ⟨b253, 0, none⟩)]].toArray 45) :: pt b253 (.cells [.int .i64 a0_0, .slice A0_1 a0_1.length c0_1, .slice A0_2 a0_2.length c0_2, .slice A0_3 a0_3.length c0_3].toArray 26) :: Fr) (fun m_ => fun s_ => iterN (fun t_ : Int × Int => Q9.l0b a0_0 a0_1 a0_2 a0_3 t_.1 t_.2) m_ (s_.1, s_.2) = some o1884) m1887 (0, 0) hit1889 (fun x1880 => [(1, .pointer (some ⟨b253, 0, none⟩)), (3, .pointer (some ⟨b1075, 0, none⟩)), (4, .int .u8 x1880)]) (fun x1880 => pt b1075 (.cells [.func (.func 46) #[] #[.pointer (some ⟨b253, 0, none⟩)]].toArray 45) :: pt b253 (.cells [.int .i64 a0_0, .slice A0_1 a0_1.length c0_1, .slice A0_2 a0_2.length c0_2, .slice A0_3 a0_3.length c0_3].toArray 26) :: Fr) (fun x1880 => G1881 (.inl x1880) = some r) (fun a w e hs => ⟨e.sub ⟨rfl, rfl, rfl, rfl, rfl, rfl, trivial⟩, (by exact hs)⟩) ?_ (fun J1891 => ?_)
           ·rintro x1880 j; have j := (hl1882 _).symm.trans j
            ·refine At.ibx ?_; refine At.thn (At.seq (At.seq (At.region (At.run 1 rfl (At.y (Y.load rfl rfl (.s .z) rfl rfl rfl) rfl rfl rfl (At.run 2 rfl (At.nil ?_))))))); refine At.thn ?_; refine At.block ?_; obtain ⟨G2694, hl2695, hr2696, j⟩ := bjoin j; obtain ⟨o2697, hlo2698, ho2699⟩ := bsome j; clear j; unfold Q9.l1 at hlo2698; obtain ⟨m2700, hit2702⟩ := Q17.1 hlo2698; clear hlo2698; refine At.loopJ (X := Int) (Y := Unit) (e0 := 2) (fun x2493 => [(1, .pointer (some ⟨b253, 0, none⟩)), (3, .pointer (some ⟨b1075, 0, none⟩)), (4, .int .u8 x1880), (75, .slice A0_3 a0_3.length c0_3), (76, .int .i64 (a0_3.length : Int)), (77, .int .i64 x2493)]) (fun x2493 => pt b1075 (.cells [.func (.func 46) #[] #[.pointer (some ⟨b253, 0, none⟩)]].toArray 45) :: pt b253 (.cells [.int .i64 a0_0, .slice A0_1 a0_1.length c0_1, .slice A0_2 a0_2.length c0_2, .slice A0_3 a0_3.length c0_3].toArray 26) :: Fr) (fun m_ => fun x2493 => iterN (fun t_ : Int => Q9.l1b a0_0 a0_1 a0_2 a0_3 t_) m_ x2493 = some o2697) m2700 0 hit2702 (fun _ => [(1, .pointer (some ⟨b253, 0, none⟩)), (4, .int .u8 x1880)]) (fun _ => pt b1075 (.cells [.func (.func 46) #[] #[.pointer (some ⟨b253, 0, none⟩)]].toArray 45) :: pt b253 (.cells [.int .i64 a0_0, .slice A0_1 a0_1.length c0_1, .slice A0_2 a0_2.length c0_2, .slice A0_3 a0_3.length c0_3].toArray 26) :: Fr) (fun _ => G2694 (.inl ()) = some r) (fun a w e hs => ⟨e.sub ⟨rfl, rfl, rfl, rfl, rfl, rfl, trivial⟩, (by exact hs)⟩) ?_ (fun J2704 => ?_)
             ·rintro _ j; have j := (hl2695 _).symm.trans j
              ·refine At.ibx ?_; refine At.thn (At.seq (At.seq (At.region (At.run 1 rfl (At.y (Y.load rfl rfl (.s .z) rfl rfl rfl) rfl rfl rfl ?_))))); obtain ⟨t2705, hc2706, j⟩ := bbind j; refine At.call rfl Q68.callee rfl rfl rfl (Q68.spec _ _ A0_1 a0_1.length c0_1 a0_1 hr0_1 rfl hc0_1 hc2706) ?_; rintro _ _ ⟨rfl, rfl⟩; refine At.run 1 rfl ?_; obtain ⟨G2908, hl2909, hr2910, j⟩ := bjoin j; refine At.joinO 8 (X := Bool) (fun x2907 => [(1, .pointer (some ⟨b253, 0, none⟩)), (109, .bool x2907)]) (fun x2907 => pt b1075 (.cells [.func (.func 46) #[] #[.pointer (some ⟨b253, 0, none⟩)]].toArray 45) :: pt b253 (.cells [.int .i64 a0_0, .slice A0_1 a0_1.length c0_1, .slice A0_2 a0_2.length c0_2, .slice A0_3 a0_3.length c0_3].toArray 26) :: Fr) (fun x2907 => G2908 (.inl x2907) = some r) ?_ (fun J2911 => ?_)
               ·rintro x2907 j; have j := (hl2909 _).symm.trans j
                ·refine At.nil (At.thn ?_); rcases bite j with ⟨h2912, j⟩ | ⟨h2912, j⟩
                 ··refine At.condT rfl h2912 ?_
                   refine At.seq (At.region (At.run 1 rfl (At.nil (At.thn (At.ret (At.thr (At.drop .z ?_))))))); refine At.drop .z ?_; cases bret j; exact At.res (.inl rfl) rfl rfl ⟨rfl, rfl⟩
                 ··refine At.condF rfl (bn h2912) ?_
                   refine At.skip (At.thn (At.seq (At.region (At.run 1 rfl (At.y (Y.load rfl rfl (.s .z) rfl rfl rfl) rfl rfl rfl ?_))))); obtain ⟨t2913, hc2914, j⟩ := bbind j; refine At.call rfl Q28.callee rfl rfl rfl (Q28.spec _ _ A0_2 a0_2.length c0_2 a0_2 hr0_2 rfl hc0_2 hc2914) ?_; rintro _ _ ⟨rfl, rfl⟩; refine At.run 1 rfl ?_; obtain ⟨G3116, hl3117, hr3118, j⟩ := bjoin j; refine At.joinO 4 (X := Bool) (fun x3115 => [(1, .pointer (some ⟨b253, 0, none⟩)), (117, .bool x3115)]) (fun x3115 => pt b1075 (.cells [.func (.func 46) #[] #[.pointer (some ⟨b253, 0, none⟩)]].toArray 45) :: pt b253 (.cells [.int .i64 a0_0, .slice A0_1 a0_1.length c0_1, .slice A0_2 a0_2.length c0_2, .slice A0_3 a0_3.length c0_3].toArray 26) :: Fr) (fun x3115 => G3116 (.inl x3115) = some r) ?_ (fun J3119 => ?_)
                   ·rintro x3115 j; have j := (hl3117 _).symm.trans j
                    ·refine At.run 1 rfl ?_; obtain ⟨G3321, hl3322, hr3323, j⟩ := bjoin j; refine At.joinO 4 (X := Bool) (fun x3320 => [(122, .bool x3320)]) (fun x3320 => pt b1075 (.cells [.func (.func 46) #[] #[.pointer (some ⟨b253, 0, none⟩)]].toArray 45) :: pt b253 (.cells [.int .i64 a0_0, .slice A0_1 a0_1.length c0_1, .slice A0_2 a0_2.length c0_2, .slice A0_3 a0_3.length c0_3].toArray 26) :: Fr) (fun x3320 => G3321 (.inl x3320) = some r) ?_ (fun J3324 => ?_)
                     ·rintro x3320 j; have j := (hl3322 _).symm.trans j
                      ·refine At.run 1 rfl (At.nil (At.thn (At.ret (At.drop .z (At.drop .z ?_))))); cases bret j; exact At.res (.inl rfl) rfl rfl ⟨rfl, rfl⟩
                     ··rcases bite j with ⟨h3325, j⟩ | ⟨h3325, j⟩
                       ··refine At.know (t := 118) rfl h3325 ?_
                         refine At.run 1 rfl (At.y (Y.load rfl rfl (.s .z) rfl rfl rfl) rfl rfl rfl ?_); obtain ⟨t3326, hc3327, j⟩ := bbind j; refine At.call rfl Q27.callee rfl rfl rfl (Q27.spec _ _ A0_3 a0_3.length c0_3 a0_3 hr0_3 rfl hc0_3 hc3327) ?_; rintro _ _ ⟨rfl, rfl⟩; refine At.run 1 rfl ?_; exact At.of (J3324 t3326 j) ⟨rfl, trivial⟩
                       ··refine At.know (t := 118) rfl (bn h3325) ?_
                         refine At.run 4 rfl ?_; exact At.of (J3324 false j) ⟨rfl, trivial⟩
                   ··rcases bite j with ⟨h3328, j⟩ | ⟨h3328, j⟩
                     ··refine At.know (t := 113) rfl h3328 ?_
                       refine At.run 1 rfl (At.y (Y.load rfl rfl (.s .z) rfl rfl rfl) rfl rfl rfl ?_); obtain ⟨t3329, hc3330, j⟩ := bbind j; refine At.call rfl Q29.callee rfl rfl rfl (Q29.spec _ _ A0_1 a0_1.length c0_1 a0_1 hr0_1 rfl hc0_1 hc3330) ?_; rintro _ _ ⟨rfl, rfl⟩; refine At.run 1 rfl ?_; exact At.of (J3119 t3329 j) ⟨rfl, rfl, trivial⟩
                     ··refine At.know (t := 113) rfl (bn h3328) ?_
                       refine At.run 4 rfl ?_; exact At.of (J3119 false j) ⟨rfl, rfl, trivial⟩
               ··rcases bite j with ⟨h3331, j⟩ | ⟨h3331, j⟩
                 ··refine At.know (t := 101) rfl h3331 ?_
                   refine At.run 8 rfl ?_; exact At.of (J2911 true j) ⟨rfl, rfl, trivial⟩
                 ··refine At.know (t := 101) rfl (bn h3331) ?_
                   refine At.run 2 rfl (At.y (Y.load rfl rfl (.s .z) rfl rfl rfl) rfl rfl rfl (At.run 1 rfl ?_)); obtain ⟨h3332, j⟩ := bnone j; refine At.y (Y.shl rfl rfl h3332) rfl rfl rfl (At.run 3 rfl ?_); exact At.of (J2911 (!(decide (x1880 = IntKind.u8.wrap ((Bw.shl .u8 1 (a0_1.length : Int)) - 1)))) j) ⟨rfl, rfl, trivial⟩
             ·clear hit2702 m2700; rintro m2700 x2493 hit2702; obtain ⟨m2701, f_, hlt2703, hf_, j⟩ := bit hit2702; clear hit2702; have j : (Q9.l1b a0_0 a0_1 a0_2 a0_3 x2493).bind _ = some o2697 := j; unfold Q9.l1b at j
              ·refine At.seq (At.region (At.run 1 rfl (At.nil (At.thn (At.seq ?_))))); rcases bite j with ⟨h3333, j⟩ | ⟨h3333, j⟩
               ··refine At.condT rfl (decide_eq_true h3333) ?_
                 refine At.skip (At.thn (At.seq ?_)); refine At.block ?_; refine At.seq (At.region ?_); obtain ⟨h3334, j⟩ := bnone j; refine At.y (Y.ixRd hr0_3 rfl rfl rfl rfl rfl rfl rfl h3334.1 h3334.2) rfl rfl rfl ?_; obtain ⟨cs3335, hK3336, hy3337⟩ := RdS.whole (P := Tryz.prog) hr0_3 (Sub.refl _) rfl h3334.1 h3334.2; obtain ⟨_, _, rfl, rfl, ⟨A3338, c3339, rfl, hc3340, hr3341⟩⟩ := hK3336; refine At.y (hy3337 rfl rfl rfl rfl) rfl rfl rfl ?_; refine At.alloc rfl rfl rfl (fun b3342 => ?_); refine At.store rfl rfl rfl rfl .z rfl rfl rfl (.c (.c .n)) ?_; refine At.nil (At.thn (At.seq (At.region (At.run 1 rfl (At.y (Y.load rfl rfl .z rfl rfl rfl) rfl rfl rfl ?_))))); obtain ⟨t3343, hc3344, j⟩ := bbind j; refine At.call rfl Q44.callee rfl rfl rfl (Q44.spec _ _  ((gt a0_3 x2493).Name)  hc3344) ?_; rintro _ _ ⟨rfl, rfl⟩; refine At.run 2 rfl ?_; obtain ⟨G3546, hl3547, hr3548, j⟩ := bjoin j; refine At.joinO 5 (X := Bool) (fun x3545 => [(1, .pointer (some ⟨b253, 0, none⟩)), (3, .pointer (some ⟨b1075, 0, none⟩)), (4, .int .u8 x1880), (8, .pointer (some ⟨b3342, 0, none⟩)), (75, .slice A0_3 a0_3.length c0_3), (76, .int .i64 (a0_3.length : Int)), (77, .int .i64 x2493), (90, .bool x3545)]) (fun x3545 => pt b3342 (.cells [.string ⟨((gt a0_3 x2493).Name).toArray⟩, .slice A3338 ((gt a0_3 x2493).States.length) c3339].toArray 37) :: pt b1075 (.cells [.func (.func 46) #[] #[.pointer (some ⟨b253, 0, none⟩)]].toArray 45) :: pt b253 (.cells [.int .i64 a0_0, .slice A0_1 a0_1.length c0_1, .slice A0_2 a0_2.length c0_2, .slice A0_3 a0_3.length c0_3].toArray 26) :: Fr) (fun x3545 => G3546 (.inl x3545) = some o2697) ?_ (fun J3549 => ?_)
                 ·rintro x3545 j; have j := (hl3547 _).symm.trans j
                  ·refine At.run 1 rfl ?_; obtain ⟨G3751, hl3752, hr3753, j⟩ := bjoin j; refine At.joinO 5 (X := Bool) (fun x3750 => [(1, .pointer (some ⟨b253, 0, none⟩)), (3, .pointer (some ⟨b1075, 0, none⟩)), (4, .int .u8 x1880), (75, .slice A0_3 a0_3.length c0_3), (76, .int .i64 (a0_3.length : Int)), (77, .int .i64 x2493), (96, .bool x3750)]) (fun x3750 => pt b3342 (.cells [.string ⟨((gt a0_3 x2493).Name).toArray⟩, .slice A3338 ((gt a0_3 x2493).States.length) c3339].toArray 37) :: pt b1075 (.cells [.func (.func 46) #[] #[.pointer (some ⟨b253, 0, none⟩)]].toArray 45) :: pt b253 (.cells [.int .i64 a0_0, .slice A0_1 a0_1.length c0_1, .slice A0_2 a0_2.length c0_2, .slice A0_3 a0_3.length c0_3].toArray 26) :: Fr) (fun x3750 => G3751 (.inl x3750) = some o2697) ?_ (fun J3754 => ?_)
                   ·rintro x3750 j; have j := (hl3752 _).symm.trans j
                    ·refine At.nil (At.thn ?_); rcases bite j with ⟨h3755, j⟩ | ⟨h3755, j⟩
                     ··refine At.condT rfl h3755 ?_
                       refine At.seq (At.region (At.run 1 rfl (At.nil (At.thn (At.ret ?_))))); refine At.ibr ?_; refine At.thr ?_; have j := bupL hr2696 ho2699 j; refine At.thr ?_; refine At.ibr ?_; refine At.thr (At.drop .z (At.drop .z (At.drop .z ?_))); cases bret j; exact At.res (.inl rfl) rfl rfl ⟨rfl, rfl⟩
                     ··refine At.condF rfl (bn h3755) ?_
                       refine At.skip ?_; refine At.ibn ?_; refine At.thn (At.region (At.run 2 rfl (At.nil (At.drop .z ?_)))); have j := bnx hf_ j; exact fun a w e hs => ⟨m2701, (IntKind.i64.wrap (x2493 + 1)), hlt2703, j, e.sub ⟨rfl, rfl, rfl, rfl, rfl, rfl, trivial⟩, hs⟩
                   ··rcases bite j with ⟨h3756, j⟩ | ⟨h3756, j⟩
                     ··refine At.know (t := 91) rfl h3756 ?_
                       refine At.run 5 rfl ?_; exact At.of (J3754 true j) ⟨rfl, rfl, rfl, rfl, rfl, rfl, rfl, trivial⟩
                     ··refine At.know (t := 91) rfl (bn h3756) ?_
                       refine At.run 1 rfl (At.y (Y.load rfl rfl .z rfl rfl rfl) rfl rfl rfl (At.run 1 rfl (At.f2 (At.f2 ?_)))); obtain ⟨t3757, hc3758, j⟩ := bbind j; refine At.call rfl Q67.callee rfl rfl rfl (Q67.spec _ _ A3338 ((gt a0_3 x2493).States.length) c3339 b1075 b253 A0_1 a0_1.length c0_1 A0_2 a0_2.length c0_2 A0_3 a0_3.length c0_3 ((gt a0_3 x2493).States) a0_0 a0_1 a0_2 a0_3 hr3341 rfl hc3340 hr0_1 rfl hc0_1 hr0_2 rfl hc0_2 hr0_3 rfl hc0_3 hc3758) ?_; rintro _ _ ⟨rfl, rfl⟩; refine At.run 1 rfl (At.f1 (At.f1 (At.f2 ?_))); exact At.of (J3754 t3757 j) ⟨rfl, rfl, rfl, rfl, rfl, rfl, rfl, trivial⟩
                 ··rcases bite j with ⟨h3759, j⟩ | ⟨h3759, j⟩
                   ··refine At.know (t := 85) rfl (nf h3759) ?_
                     refine At.run 1 rfl (At.y (Y.load rfl rfl .z rfl rfl rfl) rfl rfl rfl ?_); obtain ⟨t3760, hc3761, j⟩ := bbind j; refine At.call rfl Q25.callee rfl rfl rfl (Q25.spec _ _ A3338 ((gt a0_3 x2493).States.length) c3339 ((gt a0_3 x2493).States) hr3341 rfl hc3340 hc3761) ?_; rintro _ _ ⟨rfl, rfl⟩; refine At.run 2 rfl ?_; exact At.of (J3549 (!t3760) j) ⟨rfl, rfl, rfl, rfl, rfl, rfl, rfl, rfl, trivial⟩
                   ··refine At.know (t := 85) rfl (nt (bn h3759)) ?_
                     refine At.run 5 rfl ?_; exact At.of (J3549 true j) ⟨rfl, rfl, rfl, rfl, rfl, rfl, rfl, rfl, trivial⟩
               ··refine At.condF rfl (decide_eq_false h3333) ?_
                 refine At.exit ?_; refine At.the ?_; refine At.the ?_; exact fun a w e hs => J2704 () (bdn j ho2699) a w (e.sub ⟨rfl, rfl, trivial⟩) hs
           ·clear hit1889 m1887; rintro m1887 ⟨x1678, x1679⟩ hit1889; obtain ⟨m1888, f_, hlt1890, hf_, j⟩ := bit hit1889; clear hit1889; have j : (Q9.l0b a0_0 a0_1 a0_2 a0_3 x1678 x1679).bind _ = some o1884 := j; unfold Q9.l0b at j
            ·refine At.seq (At.region (At.run 1 rfl (At.nil (At.thn (At.seq ?_))))); rcases bite j with ⟨h3762, j⟩ | ⟨h3762, j⟩
             ··refine At.condT rfl (decide_eq_true h3762) ?_
               refine At.skip (At.thn (At.seq ?_)); refine At.block ?_; refine At.seq (At.region ?_); obtain ⟨h3763, j⟩ := bnone j; refine At.y (Y.ixRd hr0_2 rfl rfl rfl rfl rfl rfl rfl h3763.1 h3763.2) rfl rfl rfl (At.y (Y.ldFl hr0_2 rfl (q := 0) rfl rfl h3763.1 h3763.2 rfl rfl rfl) rfl rfl rfl ?_); refine At.alloc rfl rfl rfl (fun b3764 => ?_); refine At.store rfl rfl rfl rfl .z rfl rfl rfl (.c (.c (.c .n))) ?_; refine At.nil (At.thn (At.seq (At.seq (At.region (At.y (Y.load rfl rfl (.s .z) rfl rfl rfl) rfl rfl rfl (At.run 1 rfl (At.y (Y.load rfl rfl .z rfl rfl rfl) rfl rfl rfl ?_))))))); refine At.f2 ?_; obtain ⟨t3765, hc3766, j⟩ := bbind j; refine At.call rfl Q45.callee rfl rfl rfl (Q45.spec _ _ b253 A0_1 a0_1.length c0_1 A0_2 a0_2.length c0_2 A0_3 a0_3.length c0_3 ((gt a0_2 x1679).From) a0_0 a0_1 a0_2 a0_3 hr0_1 rfl hc0_1 hr0_2 rfl hc0_2 hr0_3 rfl hc0_3 hc3766) ?_; rintro _ _ ⟨rfl, rfl⟩; refine At.run 2 rfl ?_; obtain ⟨G3968, hl3969, hr3970, j⟩ := bjoin j; refine At.joinO 6 (X := Bool) (fun x3967 => [(1, .pointer (some ⟨b253, 0, none⟩)), (3, .pointer (some ⟨b1075, 0, none⟩)), (4, .int .u8 x1678), (6, .pointer (some ⟨b3764, 0, none⟩)), (37, .slice A0_2 a0_2.length c0_2), (38, .int .i64 (a0_2.length : Int)), (39, .int .i64 x1679), (54, .bool x3967)]) (fun x3967 => pt b253 (.cells [.int .i64 a0_0, .slice A0_1 a0_1.length c0_1, .slice A0_2 a0_2.length c0_2, .slice A0_3 a0_3.length c0_3].toArray 26) :: pt b3764 (.cells [.int .i64 ((gt a0_2 x1679).From), .int .i64 ((gt a0_2 x1679).Action), .int .i64 ((gt a0_2 x1679).To)].toArray 35) :: pt b1075 (.cells [.func (.func 46) #[] #[.pointer (some ⟨b253, 0, none⟩)]].toArray 45) :: Fr) (fun x3967 => G3968 (.inl x3967) = some o1884) ?_ (fun J3971 => ?_)
               ·rintro x3967 j; have j := (hl3969 _).symm.trans j
                ·refine At.run 1 rfl ?_; obtain ⟨G4173, hl4174, hr4175, j⟩ := bjoin j; refine At.joinO 4 (X := Bool) (fun x4172 => [(1, .pointer (some ⟨b253, 0, none⟩)), (3, .pointer (some ⟨b1075, 0, none⟩)), (4, .int .u8 x1678), (6, .pointer (some ⟨b3764, 0, none⟩)), (37, .slice A0_2 a0_2.length c0_2), (38, .int .i64 (a0_2.length : Int)), (39, .int .i64 x1679), (59, .bool x4172)]) (fun x4172 => pt b253 (.cells [.int .i64 a0_0, .slice A0_1 a0_1.length c0_1, .slice A0_2 a0_2.length c0_2, .slice A0_3 a0_3.length c0_3].toArray 26) :: pt b3764 (.cells [.int .i64 ((gt a0_2 x1679).From), .int .i64 ((gt a0_2 x1679).Action), .int .i64 ((gt a0_2 x1679).To)].toArray 35) :: pt b1075 (.cells [.func (.func 46) #[] #[.pointer (some ⟨b253, 0, none⟩)]].toArray 45) :: Fr) (fun x4172 => G4173 (.inl x4172) = some o1884) ?_ (fun J4176 => ?_)
                 ·rintro x4172 j; have j := (hl4174 _).symm.trans j
                  ·refine At.run 1 rfl ?_; obtain ⟨G4378, hl4379, hr4380, j⟩ := bjoin j; refine At.joinO 7 (X := Bool) (fun x4377 => [(1, .pointer (some ⟨b253, 0, none⟩)), (3, .pointer (some ⟨b1075, 0, none⟩)), (4, .int .u8 x1678), (6, .pointer (some ⟨b3764, 0, none⟩)), (37, .slice A0_2 a0_2.length c0_2), (38, .int .i64 (a0_2.length : Int)), (39, .int .i64 x1679), (67, .bool x4377)]) (fun x4377 => pt b253 (.cells [.int .i64 a0_0, .slice A0_1 a0_1.length c0_1, .slice A0_2 a0_2.length c0_2, .slice A0_3 a0_3.length c0_3].toArray 26) :: pt b3764 (.cells [.int .i64 ((gt a0_2 x1679).From), .int .i64 ((gt a0_2 x1679).Action), .int .i64 ((gt a0_2 x1679).To)].toArray 35) :: pt b1075 (.cells [.func (.func 46) #[] #[.pointer (some ⟨b253, 0, none⟩)]].toArray 45) :: Fr) (fun x4377 => G4378 (.inl x4377) = some o1884) ?_ (fun J4381 => ?_)
                   ·rintro x4377 j; have j := (hl4379 _).symm.trans j
                    ·refine At.nil (At.thn ?_); rcases bite j with ⟨h4382, j⟩ | ⟨h4382, j⟩
                     ··refine At.condT rfl h4382 ?_
                       refine At.seq (At.region (At.run 1 rfl (At.nil (At.thn (At.ret (At.thr ?_)))))); refine At.ibr ?_; refine At.thr ?_; have j := bupL hr1883 ho1886 j; refine At.thr ?_; refine At.ibr ?_; refine At.thr (At.drop .z (At.drop .z (At.drop .z ?_))); cases bret j; exact At.res (.inl rfl) rfl rfl ⟨rfl, rfl⟩
                     ··refine At.condF rfl (bn h4382) ?_
                       refine At.skip (At.thn (At.region (At.run 2 rfl (At.y (Y.load rfl rfl (.s .z) rfl rfl rfl) rfl rfl rfl ?_)))); obtain ⟨h4383, j⟩ := bnone j; refine At.y (Y.shl rfl rfl h4383) rfl rfl rfl (At.run 2 rfl (At.nil ?_)); refine At.ibn ?_; refine At.thn (At.region (At.run 2 rfl (At.nil (At.drop (.s .z) (At.f1 ?_))))); have j := bnx hf_ j; exact fun a w e hs => ⟨m1888, (bor .u8 x1678 (Bw.shl .u8 1 ((gt a0_2 x1679).Action)), IntKind.i64.wrap (x1679 + 1)), hlt1890, j, e.sub ⟨rfl, rfl, rfl, rfl, rfl, rfl, trivial⟩, hs⟩
                   ··rcases bite j with ⟨h4384, j⟩ | ⟨h4384, j⟩
                     ··refine At.know (t := 60) rfl h4384 ?_
                       refine At.run 7 rfl ?_; exact At.of (J4381 true j) ⟨rfl, rfl, rfl, rfl, rfl, rfl, rfl, rfl, trivial⟩
                     ··refine At.know (t := 60) rfl (bn h4384) ?_
                       refine At.run 1 rfl (At.y (Y.load rfl rfl (.s .z) rfl rfl rfl) rfl rfl rfl (At.run 1 rfl (At.y (Y.load rfl rfl .z rfl rfl rfl) rfl rfl rfl (At.run 3 rfl ?_)))); exact At.of (J4381 (decide ((a0_1.length : Int) ≤ (gt a0_2 x1679).Action)) j) ⟨rfl, rfl, rfl, rfl, rfl, rfl, rfl, rfl, trivial⟩
                 ··rcases bite j with ⟨h4385, j⟩ | ⟨h4385, j⟩
                   ··refine At.know (t := 55) rfl h4385 ?_
                     refine At.run 4 rfl ?_; exact At.of (J4176 true j) ⟨rfl, rfl, rfl, rfl, rfl, rfl, rfl, rfl, trivial⟩
                   ··refine At.know (t := 55) rfl (bn h4385) ?_
                     refine At.run 1 rfl (At.y (Y.load rfl rfl (.s .z) rfl rfl rfl) rfl rfl rfl (At.run 2 rfl ?_)); exact At.of (J4176 (decide ((gt a0_2 x1679).Action < 0)) j) ⟨rfl, rfl, rfl, rfl, rfl, rfl, rfl, rfl, trivial⟩
               ··rcases bite j with ⟨h4386, j⟩ | ⟨h4386, j⟩
                 ··refine At.know (t := 48) rfl (nf h4386) ?_
                   refine At.y (Y.load rfl rfl (.s (.s .z)) rfl rfl rfl) rfl rfl rfl (At.run 1 rfl (At.y (Y.load rfl rfl (.s .z) rfl rfl rfl) rfl rfl rfl ?_)); obtain ⟨t4387, hc4388, j⟩ := bbind j; refine At.call rfl Q45.callee rfl rfl rfl (Q45.spec _ _ b253 A0_1 a0_1.length c0_1 A0_2 a0_2.length c0_2 A0_3 a0_3.length c0_3 ((gt a0_2 x1679).To) a0_0 a0_1 a0_2 a0_3 hr0_1 rfl hc0_1 hr0_2 rfl hc0_2 hr0_3 rfl hc0_3 hc4388) ?_; rintro _ _ ⟨rfl, rfl⟩; refine At.run 2 rfl ?_; exact At.of (J3971 (!t4387) j) ⟨rfl, rfl, rfl, rfl, rfl, rfl, rfl, rfl, trivial⟩
                 ··refine At.know (t := 48) rfl (nt (bn h4386)) ?_
                   refine At.run 6 rfl ?_; exact At.of (J3971 true j) ⟨rfl, rfl, rfl, rfl, rfl, rfl, rfl, rfl, trivial⟩
             ··refine At.condF rfl (decide_eq_false h3762) ?_
               refine At.exit ?_; refine At.the ?_; refine At.the ?_; exact fun a w e hs => J1891 x1678 (bdn j ho1886) a w (e.sub ⟨rfl, rfl, rfl, trivial⟩) hs
       ··rcases bite j with ⟨h4389, j⟩ | ⟨h4389, j⟩
         ··refine At.know (t := 29) rfl h4389 ?_
           refine At.run 5 rfl ?_; exact At.of (J1073 true j) ⟨rfl, rfl, trivial⟩
         ··refine At.know (t := 29) rfl (bn h4389) ?_
           refine At.run 1 rfl (At.y (Y.load rfl rfl .z rfl rfl rfl) rfl rfl rfl (At.run 3 rfl ?_)); exact At.of (J1073 (decide (200 < (a0_2.length : Int))) j) ⟨rfl, rfl, trivial⟩
     ··rcases bite j with ⟨h4390, j⟩ | ⟨h4390, j⟩
       ··refine At.know (t := 23) rfl h4390 ?_
         refine At.run 5 rfl ?_; exact At.of (J868 true j) ⟨rfl, rfl, trivial⟩
       ··refine At.know (t := 23) rfl (bn h4390) ?_
         refine At.run 1 rfl (At.y (Y.load rfl rfl .z rfl rfl rfl) rfl rfl rfl (At.run 3 rfl ?_)); exact At.of (J868 (decide (8 < (a0_3.length : Int))) j) ⟨rfl, rfl, trivial⟩
   ··rcases bite j with ⟨h4391, j⟩ | ⟨h4391, j⟩
     ··refine At.know (t := 17) rfl h4391 ?_
       refine At.run 5 rfl ?_; exact At.of (J663 true j) ⟨rfl, rfl, trivial⟩
     ··refine At.know (t := 17) rfl (bn h4391) ?_
       refine At.run 1 rfl (At.y (Y.load rfl rfl .z rfl rfl rfl) rfl rfl rfl (At.run 3 rfl ?_)); exact At.of (J663 (decide (8 < (a0_1.length : Int))) j) ⟨rfl, rfl, trivial⟩
 ··rcases bite j with ⟨h4392, j⟩ | ⟨h4392, j⟩
   ··refine At.know (t := 12) rfl (decide_eq_true h4392) ?_
     refine At.run 4 rfl ?_; exact At.of (J458 true j) ⟨rfl, rfl, trivial⟩
   ··refine At.know (t := 12) rfl (decide_eq_false h4392) ?_
     refine At.run 1 rfl (At.y (Y.load rfl rfl .z rfl rfl rfl) rfl rfl rfl (At.run 2 rfl ?_)); exact At.of (J458 (decide (24 < a0_0)) j) ⟨rfl, rfl, trivial⟩

noncomputable def Q54.l0b (a0 : Bs) (x2289 : Int) : Option ((Int) ⊕ ((Unit) ⊕ (Bool))) :=
 if x2289 < (a0.length : Int) then
 if (0 : Int) ≤ x2289 ∧ x2289 < (a0.length : Int) then
 jn (
 if 97 ≤ bat a0 x2289 then
 some (.inl (decide (bat a0 x2289 ≤ 122)))
 else
 some (.inl false)) (fun (x2703 : Bool) =>
 jn (
 if x2703 = true then
 some (.inl true)
 else
 jn (
 if 65 ≤ bat a0 x2289 then
 some (.inl (true, decide (bat a0 x2289 ≤ 90)))
 else
 some (.inl (false, false))) (fun (s_ : Bool × Bool) =>
 some (.inl s_.2))) (fun (x2908 : Bool) =>
 jn (
 if x2908 = true then
 some (.inl true)
 else
 jn (
 if 48 ≤ bat a0 x2289 then
 some (.inl (true, decide (bat a0 x2289 ≤ 57)))
 else
 some (.inl (false, false))) (fun (s_ : Bool × Bool) =>
 some (.inl s_.2))) (fun (x3113 : Bool) =>
 jn (
 if x3113 = true then
 some (.inl true)
 else
 some (.inl (decide (bat a0 x2289 = 95)))) (fun (x3318 : Bool) =>
 if x3318 = true then
 nx (IntKind.i64.wrap (x2289 + 1))
 else
 upL (some false)))))
 else none
 else
 dn (.inl ())
noncomputable def Q54.l0 (a0 : Bs) (x2289 : Int) : Option ((Unit) ⊕ (Bool)) := iter (fun t_ : Int => Q54.l0b a0 t_) x2289
noncomputable def Q54.f (a0 : Bs) : Option Bool :=
 jn (
 if (a0.length : Int) < 1 then
 some (.inl true)
 else
 some (.inl (decide (8 < (a0.length : Int))))) (fun (x452 : Bool) =>
 jn (
 if x452 = true then
 some (.inl true)
 else
 if (0 : Int) ≤ 0 ∧ 0 < (a0.length : Int) then
 some (.inl (decide (bat a0 0 < 97)))
 else none) (fun (x657 : Bool) =>
 jn (
 if x657 = true then
 some (.inl true)
 else
 if (0 : Int) ≤ 0 ∧ 0 < (a0.length : Int) then
 some (.inl (decide (122 < bat a0 0)))
 else none) (fun (x862 : Bool) =>
 jn (
 if x862 = true then
 some (.inl true)
 else
 some (.inl (bseq a0 ([116, 116] : Bs)))) (fun (x1067 : Bool) =>
 jn (
 if x1067 = true then
 some (.inl true)
 else
 some (.inl (bseq a0 ([102, 102] : Bs)))) (fun (x1272 : Bool) =>
 jn (
 if x1272 = true then
 some (.inl true)
 else
 some (.inl (bseq a0 ([109, 117] : Bs)))) (fun (x1477 : Bool) =>
 jn (
 if x1477 = true then
 some (.inl true)
 else
 some (.inl (bseq a0 ([110, 117] : Bs)))) (fun (x1682 : Bool) =>
 if x1682 = true then
 some false
 else
 jn (Q54.l0 a0 0) (fun (_ : Unit) =>
 some true))))))))
theorem Q54.callee : Callee Tryz.prog 138 := ⟨_, Tryz.func138, by kernel_rfl, by kernel_rfl⟩
theorem Q54.spec (R : Res) (Fr : List HProp)  (a0 : Bs)  {r : Bool} (j : Q54.f a0 = some r) :
 Spec Tryz.prog 138 [.string ⟨(a0).toArray⟩] R (Fr) (fun v l' => v = .bool r ∧ Fr = l') := by
 refine Spec.of Tryz.func138 rfl rfl ?_; unfold Q54.f at j; have j := brun j; refine At.seq (At.region (At.run 1 rfl (At.nil (At.thn (At.seq (At.seq (At.region ?_))))))); refine At.run 4 rfl ?_; obtain ⟨G453, hl454, hr455, j⟩ := bjoin j; refine At.joinO 4 (X := Bool) (fun x452 => [(0, .string ⟨(a0).toArray⟩), (12, .bool x452)]) (fun x452 => Fr) (fun x452 => G453 (.inl x452) = some r) ?_ (fun J456 => ?_)
 ·rintro x452 j; have j := (hl454 _).symm.trans j
  ·refine At.run 1 rfl ?_; obtain ⟨G658, hl659, hr660, j⟩ := bjoin j; refine At.joinO 4 (X := Bool) (fun x657 => [(0, .string ⟨(a0).toArray⟩), (17, .bool x657)]) (fun x657 => Fr) (fun x657 => G658 (.inl x657) = some r) ?_ (fun J661 => ?_)
   ·rintro x657 j; have j := (hl659 _).symm.trans j
    ·refine At.run 1 rfl ?_; obtain ⟨G863, hl864, hr865, j⟩ := bjoin j; refine At.joinO 4 (X := Bool) (fun x862 => [(0, .string ⟨(a0).toArray⟩), (22, .bool x862)]) (fun x862 => Fr) (fun x862 => G863 (.inl x862) = some r) ?_ (fun J866 => ?_)
     ·rintro x862 j; have j := (hl864 _).symm.trans j
      ·refine At.run 1 rfl ?_; obtain ⟨G1068, hl1069, hr1070, j⟩ := bjoin j; refine At.joinO 3 (X := Bool) (fun x1067 => [(0, .string ⟨(a0).toArray⟩), (26, .bool x1067)]) (fun x1067 => Fr) (fun x1067 => G1068 (.inl x1067) = some r) ?_ (fun J1071 => ?_)
       ·rintro x1067 j; have j := (hl1069 _).symm.trans j
        ·refine At.run 1 rfl ?_; obtain ⟨G1273, hl1274, hr1275, j⟩ := bjoin j; refine At.joinO 3 (X := Bool) (fun x1272 => [(0, .string ⟨(a0).toArray⟩), (30, .bool x1272)]) (fun x1272 => Fr) (fun x1272 => G1273 (.inl x1272) = some r) ?_ (fun J1276 => ?_)
         ·rintro x1272 j; have j := (hl1274 _).symm.trans j
          ·refine At.run 1 rfl ?_; obtain ⟨G1478, hl1479, hr1480, j⟩ := bjoin j; refine At.joinO 3 (X := Bool) (fun x1477 => [(0, .string ⟨(a0).toArray⟩), (34, .bool x1477)]) (fun x1477 => Fr) (fun x1477 => G1478 (.inl x1477) = some r) ?_ (fun J1481 => ?_)
           ·rintro x1477 j; have j := (hl1479 _).symm.trans j
            ·refine At.run 1 rfl ?_; obtain ⟨G1683, hl1684, hr1685, j⟩ := bjoin j; refine At.joinO 3 (X := Bool) (fun x1682 => [(0, .string ⟨(a0).toArray⟩), (38, .bool x1682)]) (fun x1682 => Fr) (fun x1682 => G1683 (.inl x1682) = some r) ?_ (fun J1686 => ?_)
             ·rintro x1682 j; have j := (hl1684 _).symm.trans j
              ·refine At.nil (At.thn ?_); rcases bite j with ⟨h1687, j⟩ | ⟨h1687, j⟩
               ··refine At.condT rfl h1687 ?_
                 refine At.seq (At.region (At.run 1 rfl (At.nil (At.thn (At.ret (At.thr ?_)))))); cases bret j; exact At.res (.inl rfl) rfl rfl ⟨rfl, rfl⟩
               ··refine At.condF rfl (bn h1687) ?_
                 refine At.skip (At.thn (At.seq (At.seq (At.region (At.run 1 rfl (At.nil (At.thn ?_))))))); refine At.block ?_; obtain ⟨G2490, hl2491, hr2492, j⟩ := bjoin j; obtain ⟨o2493, hlo2494, ho2495⟩ := bsome j; clear j; unfold Q54.l0 at hlo2494; obtain ⟨m2496, hit2498⟩ := Q17.1 hlo2494; clear hlo2494; refine At.loopJ (X := Int) (Y := Unit) (e0 := 0) (fun x2289 => [(0, .string ⟨(a0).toArray⟩), (3, .int .i64 x2289)]) (fun x2289 => Fr) (fun m_ => fun x2289 => iterN (fun t_ : Int => Q54.l0b a0 t_) m_ x2289 = some o2493) m2496 0 hit2498 (fun _ => []) (fun _ => Fr) (fun _ => G2490 (.inl ()) = some r) (fun a w e hs => ⟨e.sub ⟨rfl, rfl, trivial⟩, (by exact hs)⟩) ?_ (fun J2500 => ?_)
                 ·rintro _ j; have j := (hl2491 _).symm.trans j
                  ·refine At.ibx ?_; refine At.thn (At.seq (At.region (At.run 1 rfl (At.nil (At.thn (At.ret ?_)))))); cases bret j; exact At.res (.inl rfl) rfl rfl ⟨rfl, rfl⟩
                 ·clear hit2498 m2496; rintro m2496 x2289 hit2498; obtain ⟨m2497, f_, hlt2499, hf_, j⟩ := bit hit2498; clear hit2498; have j : (Q54.l0b a0 x2289).bind _ = some o2493 := j; unfold Q54.l0b at j
                  ·refine At.seq (At.seq (At.region (At.run 4 rfl (At.nil (At.thn ?_))))); rcases bite j with ⟨h2501, j⟩ | ⟨h2501, j⟩
                   ··refine At.condT rfl (decide_eq_true h2501) ?_
                     refine At.skip (At.thn (At.seq ?_)); refine At.block ?_; refine At.seq (At.region (At.run 2 rfl ?_)); obtain ⟨h2502, j⟩ := bnone j; refine At.y (Y.ixStr rfl rfl rfl rfl h2502.1 h2502.2) rfl rfl rfl (At.run 1 rfl (At.nil (At.thn (At.seq (At.region (At.run 3 rfl ?_)))))); obtain ⟨G2704, hl2705, hr2706, j⟩ := bjoin j; refine At.joinO 3 (X := Bool) (fun x2703 => [(0, .string ⟨(a0).toArray⟩), (3, .int .i64 x2289), (4, .int .u8 (bat a0 x2289)), (53, .bool x2703)]) (fun x2703 => Fr) (fun x2703 => G2704 (.inl x2703) = some o2493) ?_ (fun J2707 => ?_)
                     ·rintro x2703 j; have j := (hl2705 _).symm.trans j
                      ·refine At.run 1 rfl ?_; obtain ⟨G2909, hl2910, hr2911, j⟩ := bjoin j; refine At.joinO 7 (X := Bool) (fun x2908 => [(0, .string ⟨(a0).toArray⟩), (3, .int .i64 x2289), (4, .int .u8 (bat a0 x2289)), (61, .bool x2908)]) (fun x2908 => Fr) (fun x2908 => G2909 (.inl x2908) = some o2493) ?_ (fun J2912 => ?_)
                       ·rintro x2908 j; have j := (hl2910 _).symm.trans j
                        ·refine At.run 1 rfl ?_; obtain ⟨G3114, hl3115, hr3116, j⟩ := bjoin j; refine At.joinO 7 (X := Bool) (fun x3113 => [(0, .string ⟨(a0).toArray⟩), (3, .int .i64 x2289), (4, .int .u8 (bat a0 x2289)), (69, .bool x3113)]) (fun x3113 => Fr) (fun x3113 => G3114 (.inl x3113) = some o2493) ?_ (fun J3117 => ?_)
                         ·rintro x3113 j; have j := (hl3115 _).symm.trans j
                          ·refine At.run 1 rfl ?_; obtain ⟨G3319, hl3320, hr3321, j⟩ := bjoin j; refine At.joinO 3 (X := Bool) (fun x3318 => [(0, .string ⟨(a0).toArray⟩), (3, .int .i64 x2289), (73, .bool x3318)]) (fun x3318 => Fr) (fun x3318 => G3319 (.inl x3318) = some o2493) ?_ (fun J3322 => ?_)
                           ·rintro x3318 j; have j := (hl3320 _).symm.trans j
                            ·refine At.run 1 rfl (At.nil (At.thn ?_)); rcases bite j with ⟨h3323, j⟩ | ⟨h3323, j⟩
                             ··refine At.condF rfl (nf h3323) ?_
                               refine At.skip ?_; refine At.ibn ?_; refine At.thn (At.region (At.run 3 rfl (At.nil ?_))); have j := bnx hf_ j; exact fun a w e hs => ⟨m2497, (IntKind.i64.wrap (x2289 + 1)), hlt2499, j, e.sub ⟨rfl, rfl, trivial⟩, hs⟩
                             ··refine At.condT rfl (nt (bn h3323)) ?_
                               refine At.seq (At.region (At.run 1 rfl (At.nil (At.thn (At.ret ?_))))); refine At.ibr ?_; refine At.thr ?_; have j := bupL hr2492 ho2495 j; refine At.thr ?_; refine At.ibr ?_; refine At.thr ?_; cases bret j; exact At.res (.inl rfl) rfl rfl ⟨rfl, rfl⟩
                           ··rcases bite j with ⟨h3324, j⟩ | ⟨h3324, j⟩
                             ··refine At.know (t := 70) rfl h3324 ?_
                               refine At.run 3 rfl ?_; exact At.of (J3322 true j) ⟨rfl, rfl, rfl, trivial⟩
                             ··refine At.know (t := 70) rfl (bn h3324) ?_
                               refine At.run 3 rfl ?_; exact At.of (J3322 (decide (bat a0 x2289 = 95)) j) ⟨rfl, rfl, rfl, trivial⟩
                         ··rcases bite j with ⟨h3325, j⟩ | ⟨h3325, j⟩
                           ··refine At.know (t := 62) rfl h3325 ?_
                             refine At.run 7 rfl ?_; exact At.of (J3117 true j) ⟨rfl, rfl, rfl, rfl, trivial⟩
                           ··refine At.know (t := 62) rfl (bn h3325) ?_
                             refine At.run 3 rfl ?_; obtain ⟨G3528, hl3529, hr3530, j⟩ := bjoin j; refine At.joinO 3 (X := Bool × Bool) (fun s_ => [(0, .string ⟨(a0).toArray⟩), (3, .int .i64 x2289), (4, .int .u8 (bat a0 x2289)), (62, .bool false), (63, .int .u8 (bat a0 x2289)), (64, .bool (decide (48 ≤ bat a0 x2289))), (65, .bool s_.1), (68, .bool s_.2)]) (fun s_ => Fr) (fun s_ => G3528 (.inl (s_.1, s_.2)) = some o2493) ?_ (fun J3531 => ?_)
                             ·rintro ⟨x3526, x3527⟩ j; have j := (hl3529 _).symm.trans j
                              ·refine At.run 1 rfl ?_; exact At.of (J3117 x3527 j) ⟨rfl, rfl, rfl, rfl, trivial⟩
                             ··rcases bite j with ⟨h3532, j⟩ | ⟨h3532, j⟩
                               ··refine At.know (t := 65) rfl (decide_eq_true h3532) ?_
                                 refine At.run 3 rfl ?_; exact At.of (J3531 (true, decide (bat a0 x2289 ≤ 57)) j) ⟨rfl, rfl, rfl, rfl, rfl, rfl, rfl, rfl, trivial⟩
                               ··refine At.know (t := 65) rfl (decide_eq_false h3532) ?_
                                 refine At.run 3 rfl ?_; exact At.of (J3531 (false, false) j) ⟨rfl, rfl, rfl, rfl, rfl, rfl, rfl, rfl, trivial⟩
                       ··rcases bite j with ⟨h3533, j⟩ | ⟨h3533, j⟩
                         ··refine At.know (t := 54) rfl h3533 ?_
                           refine At.run 7 rfl ?_; exact At.of (J2912 true j) ⟨rfl, rfl, rfl, rfl, trivial⟩
                         ··refine At.know (t := 54) rfl (bn h3533) ?_
                           refine At.run 3 rfl ?_; obtain ⟨G3736, hl3737, hr3738, j⟩ := bjoin j; refine At.joinO 3 (X := Bool × Bool) (fun s_ => [(0, .string ⟨(a0).toArray⟩), (3, .int .i64 x2289), (4, .int .u8 (bat a0 x2289)), (54, .bool false), (55, .int .u8 (bat a0 x2289)), (56, .bool (decide (65 ≤ bat a0 x2289))), (57, .bool s_.1), (60, .bool s_.2)]) (fun s_ => Fr) (fun s_ => G3736 (.inl (s_.1, s_.2)) = some o2493) ?_ (fun J3739 => ?_)
                           ·rintro ⟨x3734, x3735⟩ j; have j := (hl3737 _).symm.trans j
                            ·refine At.run 1 rfl ?_; exact At.of (J2912 x3735 j) ⟨rfl, rfl, rfl, rfl, trivial⟩
                           ··rcases bite j with ⟨h3740, j⟩ | ⟨h3740, j⟩
                             ··refine At.know (t := 57) rfl (decide_eq_true h3740) ?_
                               refine At.run 3 rfl ?_; exact At.of (J3739 (true, decide (bat a0 x2289 ≤ 90)) j) ⟨rfl, rfl, rfl, rfl, rfl, rfl, rfl, rfl, trivial⟩
                             ··refine At.know (t := 57) rfl (decide_eq_false h3740) ?_
                               refine At.run 3 rfl ?_; exact At.of (J3739 (false, false) j) ⟨rfl, rfl, rfl, rfl, rfl, rfl, rfl, rfl, trivial⟩
                     ··rcases bite j with ⟨h3741, j⟩ | ⟨h3741, j⟩
                       ··refine At.know (t := 50) rfl (decide_eq_true h3741) ?_
                         refine At.run 3 rfl ?_; exact At.of (J2707 (decide (bat a0 x2289 ≤ 122)) j) ⟨rfl, rfl, rfl, rfl, trivial⟩
                       ··refine At.know (t := 50) rfl (decide_eq_false h3741) ?_
                         refine At.run 3 rfl ?_; exact At.of (J2707 false j) ⟨rfl, rfl, rfl, rfl, trivial⟩
                   ··refine At.condF rfl (decide_eq_false h2501) ?_
                     refine At.exit ?_; refine At.the ?_; refine At.the ?_; exact fun a w e hs => J2500 () (bdn j ho2495) a w (e.sub trivial) hs
             ··rcases bite j with ⟨h3742, j⟩ | ⟨h3742, j⟩
               ··refine At.know (t := 35) rfl h3742 ?_
                 refine At.run 3 rfl ?_; exact At.of (J1686 true j) ⟨rfl, rfl, trivial⟩
               ··refine At.know (t := 35) rfl (bn h3742) ?_
                 refine At.run 3 rfl ?_; exact At.of (J1686 (bseq a0 ([110, 117] : Bs)) j) ⟨rfl, rfl, trivial⟩
           ··rcases bite j with ⟨h3743, j⟩ | ⟨h3743, j⟩
             ··refine At.know (t := 31) rfl h3743 ?_
               refine At.run 3 rfl ?_; exact At.of (J1481 true j) ⟨rfl, rfl, trivial⟩
             ··refine At.know (t := 31) rfl (bn h3743) ?_
               refine At.run 3 rfl ?_; exact At.of (J1481 (bseq a0 ([109, 117] : Bs)) j) ⟨rfl, rfl, trivial⟩
         ··rcases bite j with ⟨h3744, j⟩ | ⟨h3744, j⟩
           ··refine At.know (t := 27) rfl h3744 ?_
             refine At.run 3 rfl ?_; exact At.of (J1276 true j) ⟨rfl, rfl, trivial⟩
           ··refine At.know (t := 27) rfl (bn h3744) ?_
             refine At.run 3 rfl ?_; exact At.of (J1276 (bseq a0 ([102, 102] : Bs)) j) ⟨rfl, rfl, trivial⟩
       ··rcases bite j with ⟨h3745, j⟩ | ⟨h3745, j⟩
         ··refine At.know (t := 23) rfl h3745 ?_
           refine At.run 3 rfl ?_; exact At.of (J1071 true j) ⟨rfl, rfl, trivial⟩
         ··refine At.know (t := 23) rfl (bn h3745) ?_
           refine At.run 3 rfl ?_; exact At.of (J1071 (bseq a0 ([116, 116] : Bs)) j) ⟨rfl, rfl, trivial⟩
     ··rcases bite j with ⟨h3746, j⟩ | ⟨h3746, j⟩
       ··refine At.know (t := 18) rfl h3746 ?_
         refine At.run 4 rfl ?_; exact At.of (J866 true j) ⟨rfl, rfl, trivial⟩
       ··refine At.know (t := 18) rfl (bn h3746) ?_
         refine At.run 1 rfl ?_; obtain ⟨h3747, j⟩ := bnone j; refine At.y (Y.ixStr rfl rfl rfl rfl h3747.1 h3747.2) rfl rfl rfl (At.run 2 rfl ?_); exact At.of (J866 (decide (122 < bat a0 0)) j) ⟨rfl, rfl, trivial⟩
   ··rcases bite j with ⟨h3748, j⟩ | ⟨h3748, j⟩
     ··refine At.know (t := 13) rfl h3748 ?_
       refine At.run 4 rfl ?_; exact At.of (J661 true j) ⟨rfl, rfl, trivial⟩
     ··refine At.know (t := 13) rfl (bn h3748) ?_
       refine At.run 1 rfl ?_; obtain ⟨h3749, j⟩ := bnone j; refine At.y (Y.ixStr rfl rfl rfl rfl h3749.1 h3749.2) rfl rfl rfl (At.run 2 rfl ?_); exact At.of (J661 (decide (bat a0 0 < 97)) j) ⟨rfl, rfl, trivial⟩
 ··rcases bite j with ⟨h3750, j⟩ | ⟨h3750, j⟩
   ··refine At.know (t := 8) rfl (decide_eq_true h3750) ?_
     refine At.run 4 rfl ?_; exact At.of (J456 true j) ⟨rfl, rfl, trivial⟩
   ··refine At.know (t := 8) rfl (decide_eq_false h3750) ?_
     refine At.run 4 rfl ?_; exact At.of (J456 (decide (8 < (a0.length : Int))) j) ⟨rfl, rfl, trivial⟩

noncomputable def Q55.l0b (a0 : List Bs) (x853 : Int) : Option ((Int) ⊕ ((Unit) ⊕ (Bool))) :=
 if x853 < (a0.length : Int) then
 if (0 : Int) ≤ x853 ∧ x853 < (a0.length : Int) then
 (Q54.f (gt a0 x853)).bind fun t1067 =>
 jn (
 if t1067 = true then
 jn (
 if 0 < x853 then
 if (0 : Int) ≤ IntKind.i64.wrap (x853 - 1) ∧ IntKind.i64.wrap (x853 - 1) < (a0.length : Int) then
 some (.inl (true, !(bslt (gt a0 (IntKind.i64.wrap (x853 - 1))) (gt a0 x853))))
 else none
 else
 some (.inl (false, false))) (fun (s_ : Bool × Bool) =>
 some (.inl s_.2))
 else
 some (.inl true)) (fun (x1269 : Bool) =>
 if x1269 = true then
 upL (some false)
 else
 nx (IntKind.i64.wrap (x853 + 1)))
 else none
 else
 dn (.inl ())
noncomputable def Q55.l0 (a0 : List Bs) (x853 : Int) : Option ((Unit) ⊕ (Bool)) := iter (fun t_ : Int => Q55.l0b a0 t_) x853
noncomputable def Q55.f (a0 : List Bs) : Option Bool :=
 jn (Q55.l0 a0 0) (fun (_ : Unit) =>
 some true)
theorem Q55.callee : Callee Tryz.prog 92 := ⟨_, Tryz.func92, by kernel_rfl, by kernel_rfl⟩
theorem Q55.spec (R : Res) (Fr : List HProp) (A0 : Option Addr) (n0 : Nat) (c0 : Nat) (a0 : List Bs) (hr0 : RdS Fl.bs.rep R.heap A0 a0) (hn0 : a0.length = n0) (hc0 : n0 ≤ c0) {r : Bool} (j : Q55.f a0 = some r) :
 Spec Tryz.prog 92 [.slice A0 n0 c0] R (Fr) (fun v l' => v = .bool r ∧ Fr = l') := by
 subst hn0; refine Spec.of Tryz.func92 rfl rfl ?_; unfold Q55.f at j; have j := brun j; refine At.seq (At.region (At.run 1 rfl (At.nil (At.thn (At.seq (At.seq (At.region ?_))))))); refine At.run 1 rfl (At.nil (At.thn ?_)); refine At.block ?_; obtain ⟨G1054, hl1055, hr1056, j⟩ := bjoin j; obtain ⟨o1057, hlo1058, ho1059⟩ := bsome j; clear j; unfold Q55.l0 at hlo1058; obtain ⟨m1060, hit1062⟩ := Q17.1 hlo1058; clear hlo1058; refine At.loopJ (X := Int) (Y := Unit) (e0 := 0) (fun x853 => [(0, .slice A0 a0.length c0), (3, .int .i64 x853)]) (fun x853 => Fr) (fun m_ => fun x853 => iterN (fun t_ : Int => Q55.l0b a0 t_) m_ x853 = some o1057) m1060 0 hit1062 (fun _ => []) (fun _ => Fr) (fun _ => G1054 (.inl ()) = some r) (fun a w e hs => ⟨e.sub ⟨rfl, rfl, trivial⟩, (by exact hs)⟩) ?_ (fun J1064 => ?_)
 ·rintro _ j; have j := (hl1055 _).symm.trans j
  ·refine At.ibx ?_; refine At.thn (At.seq (At.region (At.run 1 rfl (At.nil (At.thn (At.ret ?_)))))); cases bret j; exact At.res (.inl rfl) rfl rfl ⟨rfl, rfl⟩
 ·clear hit1062 m1060; rintro m1060 x853 hit1062; obtain ⟨m1061, f_, hlt1063, hf_, j⟩ := bit hit1062; clear hit1062; have j : (Q55.l0b a0 x853).bind _ = some o1057 := j; unfold Q55.l0b at j
  ·refine At.seq (At.seq (At.region (At.run 4 rfl (At.nil (At.thn ?_))))); rcases bite j with ⟨h1065, j⟩ | ⟨h1065, j⟩
   ··refine At.condT rfl (decide_eq_true h1065) ?_
     refine At.skip (At.thn (At.seq ?_)); refine At.block ?_; refine At.seq (At.region (At.run 2 rfl ?_)); obtain ⟨h1066, j⟩ := bnone j; refine At.y (Y.ixRd hr0 rfl rfl rfl rfl rfl rfl rfl h1066.1 h1066.2) rfl rfl rfl (At.y (Y.ldFl hr0 rfl (q := 0) rfl rfl h1066.1 h1066.2 rfl rfl rfl) rfl rfl rfl ?_); obtain ⟨t1067, hc1068, j⟩ := bbind j; refine At.call rfl Q54.callee rfl rfl rfl (Q54.spec _ _  (gt a0 x853)  hc1068) ?_; rintro _ _ ⟨rfl, rfl⟩; refine At.run 1 rfl (At.nil (At.thn (At.seq ?_))); refine At.quiet (by kernel_rfl) ?_; refine At.Quiet.run 3 rfl ?_; obtain ⟨G1270, hl1271, hr1272, j⟩ := bjoin j; refine At.Quiet.joinO 15 (X := Bool) (fun x1269 => [(0, .slice A0 a0.length c0), (3, .int .i64 x853), (33, .bool x1269)]) (fun x1269 => Fr) (fun x1269 => G1270 (.inl x1269) = some o1057) ?_ (fun J1273 => ?_)
     ·rintro x1269 j; have j := (hl1271 _).symm.trans j
      ·refine At.Quiet.nil (At.thn ?_); rcases bite j with ⟨h1274, j⟩ | ⟨h1274, j⟩
       ··refine At.condT rfl h1274 ?_
         refine At.seq (At.region (At.run 1 rfl (At.nil (At.thn (At.ret ?_))))); refine At.ibr ?_; refine At.thr ?_; have j := bupL hr1056 ho1059 j; refine At.thr ?_; refine At.ibr ?_; refine At.thr ?_; cases bret j; exact At.res (.inl rfl) rfl rfl ⟨rfl, rfl⟩
       ··refine At.condF rfl (bn h1274) ?_
         refine At.skip ?_; refine At.ibn ?_; refine At.thn (At.region (At.run 3 rfl (At.nil ?_))); have j := bnx hf_ j; exact fun a w e hs => ⟨m1061, (IntKind.i64.wrap (x853 + 1)), hlt1063, j, e.sub ⟨rfl, rfl, trivial⟩, hs⟩
     ··rcases bite j with ⟨h1275, j⟩ | ⟨h1275, j⟩
       ··refine At.Quiet.know (t := 18) rfl (nf h1275) ?_
         refine At.Quiet.run 3 rfl ?_; obtain ⟨G1478, hl1479, hr1480, j⟩ := bjoin j; refine At.Quiet.joinO 11 (X := Bool × Bool) (fun s_ => [(0, .slice A0 a0.length c0), (3, .int .i64 x853), (18, .bool false), (19, .int .i64 x853), (20, .bool (decide (0 < x853))), (21, .bool s_.1), (32, .bool s_.2)]) (fun s_ => Fr) (fun s_ => G1478 (.inl (s_.1, s_.2)) = some o1057) ?_ (fun J1481 => ?_)
         ·rintro ⟨x1476, x1477⟩ j; have j := (hl1479 _).symm.trans j
          ·refine At.Quiet.run 1 rfl ?_; exact At.Quiet.of (J1273 x1477 j) ⟨rfl, rfl, rfl, trivial⟩
         ··rcases bite j with ⟨h1482, j⟩ | ⟨h1482, j⟩
           ··refine At.Quiet.know (t := 21) rfl (decide_eq_true h1482) ?_
             refine At.Quiet.run 3 rfl ?_; obtain ⟨h1483, j⟩ := bnone j; refine At.Quiet.y (Y.ixRd hr0 rfl rfl rfl rfl rfl rfl rfl h1483.1 h1483.2) rfl rfl rfl ?_; refine At.Quiet.y (Y.ldFl hr0 rfl (q := 0) rfl rfl h1483.1 h1483.2 rfl rfl rfl) rfl rfl rfl ?_; refine At.Quiet.run 2 rfl ?_; refine At.Quiet.y (Y.ixRd hr0 rfl rfl rfl rfl rfl rfl rfl h1066.1 h1066.2) rfl rfl rfl ?_; refine At.Quiet.y (Y.ldFl hr0 rfl (q := 0) rfl rfl h1066.1 h1066.2 rfl rfl rfl) rfl rfl rfl ?_; refine At.Quiet.run 2 rfl ?_; exact At.Quiet.of (J1481 (true, !(bslt (gt a0 (IntKind.i64.wrap (x853 - 1))) (gt a0 x853))) j) ⟨rfl, rfl, rfl, rfl, rfl, rfl, rfl, trivial⟩
           ··refine At.Quiet.know (t := 21) rfl (decide_eq_false h1482) ?_
             refine At.Quiet.run 11 rfl ?_; exact At.Quiet.of (J1481 (false, false) j) ⟨rfl, rfl, rfl, rfl, rfl, rfl, rfl, trivial⟩
       ··refine At.Quiet.know (t := 18) rfl (nt (bn h1275)) ?_
         refine At.Quiet.run 15 rfl ?_; exact At.Quiet.of (J1273 true j) ⟨rfl, rfl, rfl, trivial⟩
   ··refine At.condF rfl (decide_eq_false h1065) ?_
     refine At.exit ?_; refine At.the ?_; refine At.the ?_; exact fun a w e hs => J1064 () (bdn j ho1059) a w (e.sub trivial) hs

noncomputable def Q104.f (a0_0 a0_1 a0_2 a1_0 a1_1 a1_2 : Int) : Option Bool :=
 if a0_0 = a1_0 then
 if a0_1 = a1_1 then
 some (decide (a0_2 < a1_2))
 else
 some (decide (a0_1 < a1_1))
 else
 some (decide (a0_0 < a1_0))
theorem Q104.callee : Callee Tryz.prog 139 := ⟨_, Tryz.func139, by kernel_rfl, by kernel_rfl⟩
theorem Q104.spec (R : Res) (Fr : List HProp)  (a0_0 a0_1 a0_2 a1_0 a1_1 a1_2 : Int)  {r : Bool} (j : Q104.f a0_0 a0_1 a0_2 a1_0 a1_1 a1_2 = some r) :
 Spec Tryz.prog 139 [.agg #[.int .i64 a0_0, .int .i64 a0_1, .int .i64 a0_2], .agg #[.int .i64 a1_0, .int .i64 a1_1, .int .i64 a1_2]] R (Fr) (fun v l' => v = .bool r ∧ Fr = l') := by
 refine Spec.of Tryz.func139 rfl rfl ?_; unfold Q104.f at j; have j := brun j; refine At.seq (At.region ?_); refine At.box rfl rfl (cs := [.int .i64 a0_0, .int .i64 a0_1, .int .i64 a0_2]) rfl rfl (fun b254 => ?_); refine At.box rfl rfl (cs := [.int .i64 a1_0, .int .i64 a1_1, .int .i64 a1_2]) rfl rfl (fun b255 => ?_); refine At.run 1 rfl (At.nil (At.thn (At.seq (At.seq (At.region (At.run 1 rfl (At.y (Y.load rfl rfl (.s .z) rfl rfl rfl) rfl rfl rfl ?_))))))); refine At.run 1 rfl (At.y (Y.load rfl rfl .z rfl rfl rfl) rfl rfl rfl (At.run 1 rfl (At.nil (At.thn ?_)))); rcases bite j with ⟨h256, j⟩ | ⟨h256, j⟩
 ··refine At.condF rfl (nf (decide_eq_true h256)) ?_
   refine At.skip (At.thn (At.seq (At.seq (At.region (At.run 1 rfl (At.y (Y.load rfl rfl (.s .z) rfl rfl rfl) rfl rfl rfl (At.run 1 rfl ?_))))))); refine At.y (Y.load rfl rfl .z rfl rfl rfl) rfl rfl rfl (At.run 1 rfl (At.nil (At.thn ?_))); rcases bite j with ⟨h257, j⟩ | ⟨h257, j⟩
   ··refine At.condF rfl (nf (decide_eq_true h257)) ?_
     refine At.skip (At.thn (At.seq (At.region (At.run 1 rfl (At.y (Y.load rfl rfl (.s .z) rfl rfl rfl) rfl rfl rfl (At.run 1 rfl (At.y (Y.load rfl rfl .z rfl rfl rfl) rfl rfl rfl ?_))))))); refine At.run 2 rfl (At.nil (At.thn (At.ret (At.drop .z (At.drop .z ?_))))); cases bret j; exact At.res (.inl rfl) rfl rfl ⟨rfl, rfl⟩
   ··refine At.condT rfl (nt (decide_eq_false h257)) ?_
     refine At.seq (At.region (At.run 1 rfl (At.y (Y.load rfl rfl (.s .z) rfl rfl rfl) rfl rfl rfl (At.run 1 rfl (At.y (Y.load rfl rfl .z rfl rfl rfl) rfl rfl rfl (At.run 2 rfl (At.nil ?_))))))); refine At.thn (At.ret (At.thr (At.drop .z (At.drop .z ?_)))); cases bret j; exact At.res (.inl rfl) rfl rfl ⟨rfl, rfl⟩
 ··refine At.condT rfl (nt (decide_eq_false h256)) ?_
   refine At.seq (At.region (At.run 1 rfl (At.y (Y.load rfl rfl (.s .z) rfl rfl rfl) rfl rfl rfl (At.run 1 rfl (At.y (Y.load rfl rfl .z rfl rfl rfl) rfl rfl rfl (At.run 2 rfl (At.nil ?_))))))); refine At.thn (At.ret (At.thr (At.drop .z (At.drop .z ?_)))); cases bret j; exact At.res (.inl rfl) rfl rfl ⟨rfl, rfl⟩

noncomputable def Q41.l1b (a0_1 : List Bs) (x1065 : List Bool) (x1678 : Int) : Option ((Int) ⊕ ((Unit) ⊕ (Bool))) :=
 if x1678 < ((List.replicate (a0_1.length : Int).toNat (false : Bool)).length : Int) then
 if (0 : Int) ≤ x1678 ∧ x1678 < ((List.replicate (a0_1.length : Int).toNat (false : Bool)).length : Int) then
 if gt x1065 x1678 = true then
 nx (IntKind.i64.wrap (x1678 + 1))
 else
 upL (some false)
 else none
 else
 dn (.inl ())
noncomputable def Q41.l1 (a0_1 : List Bs) (x1065 : List Bool) (x1678 : Int) : Option ((Unit) ⊕ (Bool)) := iter (fun t_ : Int => Q41.l1b a0_1 x1065 t_) x1678
noncomputable def Q41.l0b (a0_0 : Int) (a0_1 : List Bs) (a0_2 : List Q0) (x863 : List Bool) (x864 : Int) : Option (((List Bool) × Int) ⊕ (((List Bool)) ⊕ (Bool))) :=
 if x864 < (a0_2.length : Int) then
 if (0 : Int) ≤ x864 ∧ x864 < (a0_2.length : Int) then
 jn (
 if (gt a0_2 x864).From < 0 then
 some (.inl true)
 else
 some (.inl (decide (a0_0 ≤ (gt a0_2 x864).From)))) (fun (x2096 : Bool) =>
 jn (
 if x2096 = true then
 some (.inl true)
 else
 some (.inl (decide ((gt a0_2 x864).To < 0)))) (fun (x2301 : Bool) =>
 jn (
 if x2301 = true then
 some (.inl true)
 else
 some (.inl (decide (a0_0 ≤ (gt a0_2 x864).To)))) (fun (x2506 : Bool) =>
 jn (
 if x2506 = true then
 some (.inl true)
 else
 some (.inl (decide ((gt a0_2 x864).Action < 0)))) (fun (x2711 : Bool) =>
 jn (
 if x2711 = true then
 some (.inl true)
 else
 some (.inl (decide ((a0_1.length : Int) ≤ (gt a0_2 x864).Action)))) (fun (x2916 : Bool) =>
 if x2916 = true then
 upL (some false)
 else
 if (0 : Int) ≤ (gt a0_2 x864).Action ∧ (gt a0_2 x864).Action < ((List.replicate (a0_1.length : Int).toNat (false : Bool)).length : Int) then
 jn (
 if 0 < x864 then
 if (0 : Int) ≤ IntKind.i64.wrap (x864 - 1) ∧ IntKind.i64.wrap (x864 - 1) < (a0_2.length : Int) then
 (Q104.f ((gt a0_2 (IntKind.i64.wrap (x864 - 1))).From) ((gt a0_2 (IntKind.i64.wrap (x864 - 1))).Action) ((gt a0_2 (IntKind.i64.wrap (x864 - 1))).To) ((gt a0_2 x864).From) ((gt a0_2 x864).Action) ((gt a0_2 x864).To)).bind fun t3131 =>
 some (.inl (!t3131))
 else none
 else
 some (.inl false)) (fun (x3123 : Bool) =>
 if x3123 = true then
 upL (some false)
 else
 nx ((st x863 ((gt a0_2 x864).Action) true), IntKind.i64.wrap (x864 + 1)))
 else none)))))
 else none
 else
 dn (.inl x863)
noncomputable def Q41.l0 (a0_0 : Int) (a0_1 : List Bs) (a0_2 : List Q0) (x863 : List Bool) (x864 : Int) : Option (((List Bool)) ⊕ (Bool)) := iter (fun t_ : (List Bool) × Int => Q41.l0b a0_0 a0_1 a0_2 t_.1 t_.2) (x863, x864)
noncomputable def Q41.f (a0_0 : Int) (a0_1 : List Bs) (a0_2 : List Q0) (a0_3 : List Q1) : Option Bool :=
 if (0 : Int) ≤ (a0_1.length : Int) ∧ (1 : Int) * (a0_1.length : Int) ≤ 281474976710656 then
 jn (Q41.l0 a0_0 a0_1 a0_2 (List.replicate (a0_1.length : Int).toNat (false : Bool)) 0) (fun (x1065 : List Bool) =>
 jn (Q41.l1 a0_1 x1065 0) (fun (_ : Unit) =>
 some true))
 else none
theorem Q41.callee : Callee Tryz.prog 93 := ⟨_, Tryz.func93, by kernel_rfl, by kernel_rfl⟩
theorem Q41.spec (R : Res) (Fr : List HProp) (A0_1 : Option Addr) (n0_1 : Nat) (c0_1 : Nat) (A0_2 : Option Addr) (n0_2 : Nat) (c0_2 : Nat) (A0_3 : Option Addr) (n0_3 : Nat) (c0_3 : Nat) (a0_0 : Int) (a0_1 : List Bs) (a0_2 : List Q0) (a0_3 : List Q1) (hr0_1 : RdS Fl.bs.rep R.heap A0_1 a0_1) (hn0_1 : a0_1.length = n0_1) (hc0_1 : n0_1 ≤ c0_1) (hr0_2 : RdS Q0.fl.rep R.heap A0_2 a0_2) (hn0_2 : a0_2.length = n0_2) (hc0_2 : n0_2 ≤ c0_2) (hr0_3 : RdS Q1.rep R.heap A0_3 a0_3) (hn0_3 : a0_3.length = n0_3) (hc0_3 : n0_3 ≤ c0_3) {r : Bool} (j : Q41.f a0_0 a0_1 a0_2 a0_3 = some r) :
 Spec Tryz.prog 93 [.agg #[.int .i64 a0_0, .slice A0_1 n0_1 c0_1, .slice A0_2 n0_2 c0_2, .slice A0_3 n0_3 c0_3]] R (Fr) (fun v l' => v = .bool r ∧ Fr = l') := by
 subst hn0_1; subst hn0_2; subst hn0_3; refine Spec.of Tryz.func93 rfl rfl ?_; unfold Q41.f at j; have j := brun j; refine At.seq (At.region ?_); refine At.box rfl rfl (cs := [.int .i64 a0_0, .slice A0_1 a0_1.length c0_1, .slice A0_2 a0_2.length c0_2, .slice A0_3 a0_3.length c0_3]) rfl rfl (fun b256 => ?_); refine At.run 1 rfl (At.nil (At.thn (At.seq (At.region (At.run 1 rfl (At.y (Y.load rfl rfl .z rfl rfl rfl) rfl rfl rfl (At.run 1 rfl ?_))))))); obtain ⟨h257, j⟩ := bnone j; refine At.make (F := Fl.bool) (z := false) rfl rfl rfl rfl rfl rfl rfl rfl rfl rfl h257.1 h257.2 (by decide) rfl (fun A258 c259 => ?_); refine At.run 1 rfl (At.nil (At.thn (At.seq (At.seq (At.region (At.run 1 rfl (At.nil ?_))))))); refine At.thn ?_; refine At.block ?_; obtain ⟨G1066, hl1067, hr1068, j⟩ := bjoin j; obtain ⟨o1069, hlo1070, ho1071⟩ := bsome j; clear j; unfold Q41.l0 at hlo1070; obtain ⟨m1072, hit1074⟩ := Q17.1 hlo1070; clear hlo1070; refine At.loopJ (X := (List Bool) × Int) (Y := (List Bool)) (e0 := 0) (fun s_ => [(1, .pointer (some ⟨b256, 0, none⟩)), (3, .slice A258 ((List.replicate (a0_1.length : Int).toNat (false : Bool)).length) c259), (4, .int .i64 s_.2)]) (fun s_ => row Fl.bool 4 A258 ((List.replicate (a0_1.length : Int).toNat (false : Bool)).length) c259 s_.1 :: pt b256 (.cells [.int .i64 a0_0, .slice A0_1 a0_1.length c0_1, .slice A0_2 a0_2.length c0_2, .slice A0_3 a0_3.length c0_3].toArray 26) :: Fr) (fun m_ => fun s_ => iterN (fun t_ : (List Bool) × Int => Q41.l0b a0_0 a0_1 a0_2 t_.1 t_.2) m_ (s_.1, s_.2) = some o1069) m1072 ((List.replicate (a0_1.length : Int).toNat (false : Bool)), 0) hit1074 (fun x1065 => [(3, .slice A258 ((List.replicate (a0_1.length : Int).toNat (false : Bool)).length) c259)]) (fun x1065 => row Fl.bool 4 A258 ((List.replicate (a0_1.length : Int).toNat (false : Bool)).length) c259 x1065 :: pt b256 (.cells [.int .i64 a0_0, .slice A0_1 a0_1.length c0_1, .slice A0_2 a0_2.length c0_2, .slice A0_3 a0_3.length c0_3].toArray 26) :: Fr) (fun x1065 => G1066 (.inl x1065) = some r) (fun a w e hs => ⟨e.sub ⟨rfl, rfl, rfl, trivial⟩, (by exact hs)⟩) ?_ (fun J1076 => ?_)
 ·rintro x1065 j; have j := (hl1067 _).symm.trans j
  ·refine At.ibx ?_; refine At.thn (At.seq (At.seq (At.region (At.run 1 rfl (At.nil (At.thn ?_)))))); refine At.block ?_; obtain ⟨G1879, hl1880, hr1881, j⟩ := bjoin j; obtain ⟨o1882, hlo1883, ho1884⟩ := bsome j; clear j; unfold Q41.l1 at hlo1883; obtain ⟨m1885, hit1887⟩ := Q17.1 hlo1883; clear hlo1883; refine At.loopJ (X := Int) (Y := Unit) (e0 := 2) (fun x1678 => [(3, .slice A258 ((List.replicate (a0_1.length : Int).toNat (false : Bool)).length) c259), (6, .int .i64 x1678)]) (fun x1678 => row Fl.bool 4 A258 ((List.replicate (a0_1.length : Int).toNat (false : Bool)).length) c259 x1065 :: pt b256 (.cells [.int .i64 a0_0, .slice A0_1 a0_1.length c0_1, .slice A0_2 a0_2.length c0_2, .slice A0_3 a0_3.length c0_3].toArray 26) :: Fr) (fun m_ => fun x1678 => iterN (fun t_ : Int => Q41.l1b a0_1 x1065 t_) m_ x1678 = some o1882) m1885 0 hit1887 (fun _ => []) (fun _ => row Fl.bool 4 A258 ((List.replicate (a0_1.length : Int).toNat (false : Bool)).length) c259 x1065 :: pt b256 (.cells [.int .i64 a0_0, .slice A0_1 a0_1.length c0_1, .slice A0_2 a0_2.length c0_2, .slice A0_3 a0_3.length c0_3].toArray 26) :: Fr) (fun _ => G1879 (.inl ()) = some r) (fun a w e hs => ⟨e.sub ⟨rfl, rfl, trivial⟩, (by exact hs)⟩) ?_ (fun J1889 => ?_)
   ·rintro _ j; have j := (hl1880 _).symm.trans j
    ·refine At.ibx ?_; refine At.thn (At.seq (At.region (At.run 1 rfl (At.nil (At.thn (At.ret (At.drop .z ?_))))))); refine At.drop .z ?_; cases bret j; exact At.res (.inl rfl) rfl rfl ⟨rfl, rfl⟩
   ·clear hit1887 m1885; rintro m1885 x1678 hit1887; obtain ⟨m1886, f_, hlt1888, hf_, j⟩ := bit hit1887; clear hit1887; have j : (Q41.l1b a0_1 x1065 x1678).bind _ = some o1882 := j; unfold Q41.l1b at j
    ·refine At.seq (At.seq (At.region (At.run 4 rfl (At.nil (At.thn ?_))))); rcases bite j with ⟨h1890, j⟩ | ⟨h1890, j⟩
     ··refine At.condT rfl (decide_eq_true h1890) ?_
       refine At.skip (At.thn (At.seq ?_)); refine At.block ?_; refine At.seq (At.region (At.run 2 rfl ?_)); obtain ⟨h1891, j⟩ := bnone j; refine At.y (Y.ix .z rfl rfl rfl rfl rfl rfl h1891.1 h1891.2) rfl rfl rfl (At.y (Y.ld .z (q := 0) rfl rfl h1891.1 h1891.2 rfl rfl rfl) rfl rfl rfl (At.run 1 rfl (At.nil (At.thn ?_)))); rcases bite j with ⟨h1892, j⟩ | ⟨h1892, j⟩
       ··refine At.condF rfl (nf h1892) ?_
         refine At.skip ?_; refine At.ibn ?_; refine At.thn (At.region (At.run 3 rfl (At.nil ?_))); have j := bnx hf_ j; exact fun a w e hs => ⟨m1886, (IntKind.i64.wrap (x1678 + 1)), hlt1888, j, e.sub ⟨rfl, rfl, trivial⟩, hs⟩
       ··refine At.condT rfl (nt (bn h1892)) ?_
         refine At.seq (At.region (At.run 1 rfl (At.nil (At.thn (At.ret ?_))))); refine At.ibr ?_; refine At.thr ?_; have j := bupL hr1881 ho1884 j; refine At.thr ?_; refine At.ibr ?_; refine At.thr (At.drop .z (At.drop .z ?_)); cases bret j; exact At.res (.inl rfl) rfl rfl ⟨rfl, rfl⟩
     ··refine At.condF rfl (decide_eq_false h1890) ?_
       refine At.exit ?_; refine At.the ?_; refine At.the ?_; exact fun a w e hs => J1889 () (bdn j ho1884) a w (e.sub trivial) hs
 ·clear hit1074 m1072; rintro m1072 ⟨x863, x864⟩ hit1074; obtain ⟨m1073, f_, hlt1075, hf_, j⟩ := bit hit1074; clear hit1074; have j : (Q41.l0b a0_0 a0_1 a0_2 x863 x864).bind _ = some o1069 := j; unfold Q41.l0b at j
  ·refine At.seq (At.seq (At.region (At.run 2 rfl (At.y (Y.load rfl rfl (.s .z) rfl rfl rfl) rfl rfl rfl (At.run 2 rfl (At.nil (At.thn ?_))))))); rcases bite j with ⟨h1893, j⟩ | ⟨h1893, j⟩
   ··refine At.condT rfl (decide_eq_true h1893) ?_
     refine At.skip (At.thn (At.seq ?_)); refine At.block ?_; refine At.seq (At.region (At.run 1 rfl (At.y (Y.load rfl rfl (.s .z) rfl rfl rfl) rfl rfl rfl (At.run 1 rfl ?_)))); obtain ⟨h1894, j⟩ := bnone j; refine At.y (Y.ixRd hr0_2 rfl rfl rfl rfl rfl rfl rfl h1894.1 h1894.2) rfl rfl rfl (At.y (Y.ldFl hr0_2 rfl (q := 0) rfl rfl h1894.1 h1894.2 rfl rfl rfl) rfl rfl rfl ?_); refine At.alloc rfl rfl rfl (fun b1895 => ?_); refine At.store rfl rfl rfl rfl .z rfl rfl rfl (.c (.c (.c .n))) ?_; refine At.nil (At.thn (At.seq (At.seq (At.region (At.run 1 rfl (At.y (Y.load rfl rfl .z rfl rfl rfl) rfl rfl rfl (At.run 2 rfl ?_))))))); obtain ⟨G2097, hl2098, hr2099, j⟩ := bjoin j; refine At.joinO 6 (X := Bool) (fun x2096 => [(1, .pointer (some ⟨b256, 0, none⟩)), (3, .slice A258 ((List.replicate (a0_1.length : Int).toNat (false : Bool)).length) c259), (4, .int .i64 x864), (5, .pointer (some ⟨b1895, 0, none⟩)), (32, .bool x2096)]) (fun x2096 => pt b1895 (.cells [.int .i64 ((gt a0_2 x864).From), .int .i64 ((gt a0_2 x864).Action), .int .i64 ((gt a0_2 x864).To)].toArray 35) :: row Fl.bool 4 A258 ((List.replicate (a0_1.length : Int).toNat (false : Bool)).length) c259 x863 :: pt b256 (.cells [.int .i64 a0_0, .slice A0_1 a0_1.length c0_1, .slice A0_2 a0_2.length c0_2, .slice A0_3 a0_3.length c0_3].toArray 26) :: Fr) (fun x2096 => G2097 (.inl x2096) = some o1069) ?_ (fun J2100 => ?_)
     ·rintro x2096 j; have j := (hl2098 _).symm.trans j
      ·refine At.run 1 rfl ?_; obtain ⟨G2302, hl2303, hr2304, j⟩ := bjoin j; refine At.joinO 4 (X := Bool) (fun x2301 => [(1, .pointer (some ⟨b256, 0, none⟩)), (3, .slice A258 ((List.replicate (a0_1.length : Int).toNat (false : Bool)).length) c259), (4, .int .i64 x864), (5, .pointer (some ⟨b1895, 0, none⟩)), (37, .bool x2301)]) (fun x2301 => pt b1895 (.cells [.int .i64 ((gt a0_2 x864).From), .int .i64 ((gt a0_2 x864).Action), .int .i64 ((gt a0_2 x864).To)].toArray 35) :: row Fl.bool 4 A258 ((List.replicate (a0_1.length : Int).toNat (false : Bool)).length) c259 x863 :: pt b256 (.cells [.int .i64 a0_0, .slice A0_1 a0_1.length c0_1, .slice A0_2 a0_2.length c0_2, .slice A0_3 a0_3.length c0_3].toArray 26) :: Fr) (fun x2301 => G2302 (.inl x2301) = some o1069) ?_ (fun J2305 => ?_)
       ·rintro x2301 j; have j := (hl2303 _).symm.trans j
        ·refine At.run 1 rfl ?_; obtain ⟨G2507, hl2508, hr2509, j⟩ := bjoin j; refine At.joinO 6 (X := Bool) (fun x2506 => [(1, .pointer (some ⟨b256, 0, none⟩)), (3, .slice A258 ((List.replicate (a0_1.length : Int).toNat (false : Bool)).length) c259), (4, .int .i64 x864), (5, .pointer (some ⟨b1895, 0, none⟩)), (44, .bool x2506)]) (fun x2506 => pt b1895 (.cells [.int .i64 ((gt a0_2 x864).From), .int .i64 ((gt a0_2 x864).Action), .int .i64 ((gt a0_2 x864).To)].toArray 35) :: row Fl.bool 4 A258 ((List.replicate (a0_1.length : Int).toNat (false : Bool)).length) c259 x863 :: pt b256 (.cells [.int .i64 a0_0, .slice A0_1 a0_1.length c0_1, .slice A0_2 a0_2.length c0_2, .slice A0_3 a0_3.length c0_3].toArray 26) :: Fr) (fun x2506 => G2507 (.inl x2506) = some o1069) ?_ (fun J2510 => ?_)
         ·rintro x2506 j; have j := (hl2508 _).symm.trans j
          ·refine At.run 1 rfl ?_; obtain ⟨G2712, hl2713, hr2714, j⟩ := bjoin j; refine At.joinO 4 (X := Bool) (fun x2711 => [(1, .pointer (some ⟨b256, 0, none⟩)), (3, .slice A258 ((List.replicate (a0_1.length : Int).toNat (false : Bool)).length) c259), (4, .int .i64 x864), (5, .pointer (some ⟨b1895, 0, none⟩)), (49, .bool x2711)]) (fun x2711 => pt b1895 (.cells [.int .i64 ((gt a0_2 x864).From), .int .i64 ((gt a0_2 x864).Action), .int .i64 ((gt a0_2 x864).To)].toArray 35) :: row Fl.bool 4 A258 ((List.replicate (a0_1.length : Int).toNat (false : Bool)).length) c259 x863 :: pt b256 (.cells [.int .i64 a0_0, .slice A0_1 a0_1.length c0_1, .slice A0_2 a0_2.length c0_2, .slice A0_3 a0_3.length c0_3].toArray 26) :: Fr) (fun x2711 => G2712 (.inl x2711) = some o1069) ?_ (fun J2715 => ?_)
           ·rintro x2711 j; have j := (hl2713 _).symm.trans j
            ·refine At.run 1 rfl ?_; obtain ⟨G2917, hl2918, hr2919, j⟩ := bjoin j; refine At.joinO 7 (X := Bool) (fun x2916 => [(1, .pointer (some ⟨b256, 0, none⟩)), (3, .slice A258 ((List.replicate (a0_1.length : Int).toNat (false : Bool)).length) c259), (4, .int .i64 x864), (5, .pointer (some ⟨b1895, 0, none⟩)), (57, .bool x2916)]) (fun x2916 => pt b1895 (.cells [.int .i64 ((gt a0_2 x864).From), .int .i64 ((gt a0_2 x864).Action), .int .i64 ((gt a0_2 x864).To)].toArray 35) :: row Fl.bool 4 A258 ((List.replicate (a0_1.length : Int).toNat (false : Bool)).length) c259 x863 :: pt b256 (.cells [.int .i64 a0_0, .slice A0_1 a0_1.length c0_1, .slice A0_2 a0_2.length c0_2, .slice A0_3 a0_3.length c0_3].toArray 26) :: Fr) (fun x2916 => G2917 (.inl x2916) = some o1069) ?_ (fun J2920 => ?_)
             ·rintro x2916 j; have j := (hl2918 _).symm.trans j
              ·refine At.nil (At.thn ?_); rcases bite j with ⟨h2921, j⟩ | ⟨h2921, j⟩
               ··refine At.condT rfl h2921 ?_
                 refine At.seq (At.region (At.run 1 rfl (At.nil (At.thn (At.ret (At.thr ?_)))))); refine At.ibr ?_; refine At.thr ?_; have j := bupL hr1068 ho1071 j; refine At.thr ?_; refine At.ibr ?_; refine At.thr (At.drop .z (At.drop .z (At.drop .z ?_))); cases bret j; exact At.res (.inl rfl) rfl rfl ⟨rfl, rfl⟩
               ··refine At.condF rfl (bn h2921) ?_
                 refine At.skip (At.thn (At.seq (At.region (At.run 2 rfl (At.y (Y.load rfl rfl .z rfl rfl rfl) rfl rfl rfl ?_))))); obtain ⟨h2922, j⟩ := bnone j; refine At.y (Y.ix (.s .z) rfl rfl rfl rfl rfl rfl h2922.1 h2922.2) rfl rfl rfl ?_; refine At.st rfl (.s .z) (q := 0) (z := true) rfl rfl rfl h2922.1 h2922.2 rfl rfl (.c .n) ?_; refine At.nil (At.thn (At.seq ?_)); refine At.quiet (by kernel_rfl) ?_; refine At.Quiet.run 3 rfl ?_; obtain ⟨G3124, hl3125, hr3126, j⟩ := bjoin j; refine At.Quiet.joinO 10 (X := Bool) (fun x3123 => [(1, .pointer (some ⟨b256, 0, none⟩)), (3, .slice A258 ((List.replicate (a0_1.length : Int).toNat (false : Bool)).length) c259), (4, .int .i64 x864), (74, .bool x3123)]) (fun x3123 => row Fl.bool 4 A258 ((List.replicate (a0_1.length : Int).toNat (false : Bool)).length) c259 (st x863 ((gt a0_2 x864).Action) true) :: pt b1895 (.cells [.int .i64 ((gt a0_2 x864).From), .int .i64 ((gt a0_2 x864).Action), .int .i64 ((gt a0_2 x864).To)].toArray 35) :: pt b256 (.cells [.int .i64 a0_0, .slice A0_1 a0_1.length c0_1, .slice A0_2 a0_2.length c0_2, .slice A0_3 a0_3.length c0_3].toArray 26) :: Fr) (fun x3123 => G3124 (.inl x3123) = some o1069) ?_ (fun J3127 => ?_)
                 ·rintro x3123 j; have j := (hl3125 _).symm.trans j
                  ·refine At.Quiet.nil (At.thn ?_); rcases bite j with ⟨h3128, j⟩ | ⟨h3128, j⟩
                   ··refine At.condT rfl h3128 ?_
                     refine At.seq (At.region (At.run 1 rfl (At.nil (At.thn (At.ret ?_))))); refine At.ibr ?_; refine At.thr ?_; have j := bupL hr1068 ho1071 j; refine At.thr ?_; refine At.ibr ?_; refine At.thr (At.drop .z (At.drop .z (At.drop .z ?_))); cases bret j; exact At.res (.inl rfl) rfl rfl ⟨rfl, rfl⟩
                   ··refine At.condF rfl (bn h3128) ?_
                     refine At.skip ?_; refine At.ibn ?_; refine At.thn (At.region (At.run 3 rfl (At.nil (At.drop (.s .z) ?_)))); have j := bnx hf_ j; exact fun a w e hs => ⟨m1073, ((st x863 ((gt a0_2 x864).Action) true), IntKind.i64.wrap (x864 + 1)), hlt1075, j, e.sub ⟨rfl, rfl, rfl, trivial⟩, hs⟩
                 ··rcases bite j with ⟨h3129, j⟩ | ⟨h3129, j⟩
                   ··refine At.Quiet.know (t := 64) rfl (decide_eq_true h3129) ?_
                     refine At.Quiet.run 1 rfl ?_; refine At.Quiet.y (Y.load rfl rfl (.s (.s .z)) rfl rfl rfl) rfl rfl rfl ?_; refine At.Quiet.run 2 rfl ?_; obtain ⟨h3130, j⟩ := bnone j; refine At.Quiet.y (Y.ixRd hr0_2 rfl rfl rfl rfl rfl rfl rfl h3130.1 h3130.2) rfl rfl rfl ?_; refine At.Quiet.y (Y.ldFl hr0_2 rfl (q := 0) rfl rfl h3130.1 h3130.2 rfl rfl rfl) rfl rfl rfl ?_; refine At.Quiet.y (Y.load rfl rfl (.s .z) rfl rfl rfl) rfl rfl rfl ?_; obtain ⟨t3131, hc3132, j⟩ := bbind j; refine At.Quiet.call rfl Q104.callee rfl rfl rfl (Q104.spec _ _  ((gt a0_2 (IntKind.i64.wrap (x864 - 1))).From) ((gt a0_2 (IntKind.i64.wrap (x864 - 1))).Action) ((gt a0_2 (IntKind.i64.wrap (x864 - 1))).To) ((gt a0_2 x864).From) ((gt a0_2 x864).Action) ((gt a0_2 x864).To)  hc3132) (fun _ _ h_ => ⟨h_.1, fun _ hs => h_.2 ▸ hs⟩) ?_; refine At.Quiet.run 2 rfl ?_; exact At.Quiet.of (J3127 (!t3131) j) ⟨rfl, rfl, rfl, rfl, trivial⟩
                   ··refine At.Quiet.know (t := 64) rfl (decide_eq_false h3129) ?_
                     refine At.Quiet.run 10 rfl ?_; exact At.Quiet.of (J3127 false j) ⟨rfl, rfl, rfl, rfl, trivial⟩
             ··rcases bite j with ⟨h3133, j⟩ | ⟨h3133, j⟩
               ··refine At.know (t := 50) rfl h3133 ?_
                 refine At.run 7 rfl ?_; exact At.of (J2920 true j) ⟨rfl, rfl, rfl, rfl, rfl, trivial⟩
               ··refine At.know (t := 50) rfl (bn h3133) ?_
                 refine At.run 1 rfl (At.y (Y.load rfl rfl .z rfl rfl rfl) rfl rfl rfl (At.run 1 rfl (At.y (Y.load rfl rfl (.s (.s .z)) rfl rfl rfl) rfl rfl rfl (At.run 3 rfl ?_)))); exact At.of (J2920 (decide ((a0_1.length : Int) ≤ (gt a0_2 x864).Action)) j) ⟨rfl, rfl, rfl, rfl, rfl, trivial⟩
           ··rcases bite j with ⟨h3134, j⟩ | ⟨h3134, j⟩
             ··refine At.know (t := 45) rfl h3134 ?_
               refine At.run 4 rfl ?_; exact At.of (J2715 true j) ⟨rfl, rfl, rfl, rfl, rfl, trivial⟩
             ··refine At.know (t := 45) rfl (bn h3134) ?_
               refine At.run 1 rfl (At.y (Y.load rfl rfl .z rfl rfl rfl) rfl rfl rfl (At.run 2 rfl ?_)); exact At.of (J2715 (decide ((gt a0_2 x864).Action < 0)) j) ⟨rfl, rfl, rfl, rfl, rfl, trivial⟩
         ··rcases bite j with ⟨h3135, j⟩ | ⟨h3135, j⟩
           ··refine At.know (t := 38) rfl h3135 ?_
             refine At.run 6 rfl ?_; exact At.of (J2510 true j) ⟨rfl, rfl, rfl, rfl, rfl, trivial⟩
           ··refine At.know (t := 38) rfl (bn h3135) ?_
             refine At.run 1 rfl (At.y (Y.load rfl rfl .z rfl rfl rfl) rfl rfl rfl (At.run 1 rfl (At.y (Y.load rfl rfl (.s (.s .z)) rfl rfl rfl) rfl rfl rfl (At.run 2 rfl ?_)))); exact At.of (J2510 (decide (a0_0 ≤ (gt a0_2 x864).To)) j) ⟨rfl, rfl, rfl, rfl, rfl, trivial⟩
       ··rcases bite j with ⟨h3136, j⟩ | ⟨h3136, j⟩
         ··refine At.know (t := 33) rfl h3136 ?_
           refine At.run 4 rfl ?_; exact At.of (J2305 true j) ⟨rfl, rfl, rfl, rfl, rfl, trivial⟩
         ··refine At.know (t := 33) rfl (bn h3136) ?_
           refine At.run 1 rfl (At.y (Y.load rfl rfl .z rfl rfl rfl) rfl rfl rfl (At.run 2 rfl ?_)); exact At.of (J2305 (decide ((gt a0_2 x864).To < 0)) j) ⟨rfl, rfl, rfl, rfl, rfl, trivial⟩
     ··rcases bite j with ⟨h3137, j⟩ | ⟨h3137, j⟩
       ··refine At.know (t := 26) rfl (decide_eq_true h3137) ?_
         refine At.run 6 rfl ?_; exact At.of (J2100 true j) ⟨rfl, rfl, rfl, rfl, rfl, trivial⟩
       ··refine At.know (t := 26) rfl (decide_eq_false h3137) ?_
         refine At.run 1 rfl (At.y (Y.load rfl rfl .z rfl rfl rfl) rfl rfl rfl (At.run 1 rfl (At.y (Y.load rfl rfl (.s (.s .z)) rfl rfl rfl) rfl rfl rfl (At.run 2 rfl ?_)))); exact At.of (J2100 (decide (a0_0 ≤ (gt a0_2 x864).From)) j) ⟨rfl, rfl, rfl, rfl, rfl, trivial⟩
   ··refine At.condF rfl (decide_eq_false h1893) ?_
     refine At.exit ?_; refine At.the ?_; refine At.the ?_; exact fun a w e hs => J1076 x863 (bdn j ho1071) a w (e.sub ⟨rfl, trivial⟩) hs

noncomputable def Q39.l1b (a0_0 : Int) (a0_3 : List Q1) (x1686 x2941 : Int) : Option ((Int) ⊕ ((Unit) ⊕ (((List Bs) × Int) ⊕ (((List Bs)) ⊕ (Bool))))) :=
 if x2941 < ((gt a0_3 x1686).States.length : Int) then
 if (0 : Int) ≤ x2941 ∧ x2941 < ((gt a0_3 x1686).States.length : Int) then
 jn (
 if gt ((gt a0_3 x1686).States) x2941 < 0 then
 some (.inl true)
 else
 some (.inl (decide (a0_0 ≤ gt ((gt a0_3 x1686).States) x2941)))) (fun (x3355 : Bool) =>
 jn (
 if x3355 = true then
 some (.inl true)
 else
 jn (
 if 0 < x2941 then
 if (0 : Int) ≤ IntKind.i64.wrap (x2941 - 1) ∧ IntKind.i64.wrap (x2941 - 1) < ((gt a0_3 x1686).States.length : Int) then
 some (.inl (true, decide (gt ((gt a0_3 x1686).States) x2941 ≤ gt ((gt a0_3 x1686).States) (IntKind.i64.wrap (x2941 - 1)))))
 else none
 else
 some (.inl (false, false))) (fun (s_ : Bool × Bool) =>
 some (.inl s_.2))) (fun (x3560 : Bool) =>
 if x3560 = true then
 upL (upL (some false))
 else
 nx (IntKind.i64.wrap (x2941 + 1))))
 else none
 else
 dn (.inl ())
noncomputable def Q39.l1 (a0_0 : Int) (a0_3 : List Q1) (x1686 x2941 : Int) : Option ((Unit) ⊕ (((List Bs) × Int) ⊕ (((List Bs)) ⊕ (Bool)))) := iter (fun t_ : Int => Q39.l1b a0_0 a0_3 x1686 t_) x2941
noncomputable def Q39.l0b (a0_0 : Int) (a0_3 : List Q1) (x1681 : List Bs) (x1686 : Int) : Option (((List Bs) × Int) ⊕ (((List Bs)) ⊕ (Bool))) :=
 if x1686 < (a0_3.length : Int) then
 if (0 : Int) ≤ x1686 ∧ x1686 < (a0_3.length : Int) then
 if (x1681.length + ([((gt a0_3 x1686).Name)] : List Bs).length) * 16 ≤ 140737488355328 then
 jn (Q39.l1 a0_0 a0_3 x1686 0) (fun (_ : Unit) =>
 nx ((x1681 ++ ([((gt a0_3 x1686).Name)] : List Bs)), IntKind.i64.wrap (x1686 + 1)))
 else none
 else none
 else
 dn (.inl x1681)
noncomputable def Q39.l0 (a0_0 : Int) (a0_3 : List Q1) (x1681 : List Bs) (x1686 : Int) : Option (((List Bs)) ⊕ (Bool)) := iter (fun t_ : (List Bs) × Int => Q39.l0b a0_0 a0_3 t_.1 t_.2) (x1681, x1686)
noncomputable def Q39.f (a0_0 : Int) (a0_1 : List Bs) (a0_2 : List Q0) (a0_3 : List Q1) : Option Bool :=
 jn (
 if a0_0 < 1 then
 some (.inl true)
 else
 some (.inl (decide (24 < a0_0)))) (fun (x454 : Bool) =>
 jn (
 if x454 = true then
 some (.inl true)
 else
 some (.inl (decide (8 < (a0_1.length : Int))))) (fun (x659 : Bool) =>
 jn (
 if x659 = true then
 some (.inl true)
 else
 some (.inl (decide (8 < (a0_3.length : Int))))) (fun (x864 : Bool) =>
 jn (
 if x864 = true then
 some (.inl true)
 else
 some (.inl (decide (200 < (a0_2.length : Int))))) (fun (x1069 : Bool) =>
 if x1069 = true then
 some false
 else
 jn (Q39.l0 a0_0 a0_3 ([] : List Bs) 0) (fun (x1887 : List Bs) =>
 (Q55.f x1887).bind fun t1909 =>
 jn (
 if t1909 = true then
 (Q55.f a0_1).bind fun t2325 =>
 some (.inl t2325)
 else
 some (.inl false)) (fun (x2111 : Bool) =>
 jn (
 if x2111 = true then
 (Q41.f a0_0 a0_1 a0_2 a0_3).bind fun t2322 =>
 some (.inl t2322)
 else
 some (.inl false)) (fun (x2316 : Bool) =>
 some x2316)))))))
theorem Q39.callee : Callee Tryz.prog 67 := ⟨_, Tryz.func67, by kernel_rfl, by kernel_rfl⟩
theorem Q39.spec (R : Res) (Fr : List HProp) (A0_1 : Option Addr) (n0_1 : Nat) (c0_1 : Nat) (A0_2 : Option Addr) (n0_2 : Nat) (c0_2 : Nat) (A0_3 : Option Addr) (n0_3 : Nat) (c0_3 : Nat) (a0_0 : Int) (a0_1 : List Bs) (a0_2 : List Q0) (a0_3 : List Q1) (hr0_1 : RdS Fl.bs.rep R.heap A0_1 a0_1) (hn0_1 : a0_1.length = n0_1) (hc0_1 : n0_1 ≤ c0_1) (hr0_2 : RdS Q0.fl.rep R.heap A0_2 a0_2) (hn0_2 : a0_2.length = n0_2) (hc0_2 : n0_2 ≤ c0_2) (hr0_3 : RdS Q1.rep R.heap A0_3 a0_3) (hn0_3 : a0_3.length = n0_3) (hc0_3 : n0_3 ≤ c0_3) {r : Bool} (j : Q39.f a0_0 a0_1 a0_2 a0_3 = some r) :
 Spec Tryz.prog 67 [.agg #[.int .i64 a0_0, .slice A0_1 n0_1 c0_1, .slice A0_2 n0_2 c0_2, .slice A0_3 n0_3 c0_3]] R (Fr) (fun v l' => v = .bool r ∧ Fr = l') := by
 subst hn0_1; subst hn0_2; subst hn0_3; refine Spec.of Tryz.func67 rfl rfl ?_; unfold Q39.f at j; have j := brun j; refine At.seq (At.region ?_); refine At.box rfl rfl (cs := [.int .i64 a0_0, .slice A0_1 a0_1.length c0_1, .slice A0_2 a0_2.length c0_2, .slice A0_3 a0_3.length c0_3]) rfl rfl (fun b253 => ?_); refine At.run 1 rfl (At.nil (At.thn (At.seq (At.seq (At.region (At.run 1 rfl (At.y (Y.load rfl rfl .z rfl rfl rfl) rfl rfl rfl ?_))))))); refine At.run 2 rfl ?_; obtain ⟨G455, hl456, hr457, j⟩ := bjoin j; refine At.joinO 4 (X := Bool) (fun x454 => [(1, .pointer (some ⟨b253, 0, none⟩)), (14, .bool x454)]) (fun x454 => pt b253 (.cells [.int .i64 a0_0, .slice A0_1 a0_1.length c0_1, .slice A0_2 a0_2.length c0_2, .slice A0_3 a0_3.length c0_3].toArray 26) :: Fr) (fun x454 => G455 (.inl x454) = some r) ?_ (fun J458 => ?_)
 ·rintro x454 j; have j := (hl456 _).symm.trans j
  ·refine At.run 1 rfl ?_; obtain ⟨G660, hl661, hr662, j⟩ := bjoin j; refine At.joinO 5 (X := Bool) (fun x659 => [(1, .pointer (some ⟨b253, 0, none⟩)), (20, .bool x659)]) (fun x659 => pt b253 (.cells [.int .i64 a0_0, .slice A0_1 a0_1.length c0_1, .slice A0_2 a0_2.length c0_2, .slice A0_3 a0_3.length c0_3].toArray 26) :: Fr) (fun x659 => G660 (.inl x659) = some r) ?_ (fun J663 => ?_)
   ·rintro x659 j; have j := (hl661 _).symm.trans j
    ·refine At.run 1 rfl ?_; obtain ⟨G865, hl866, hr867, j⟩ := bjoin j; refine At.joinO 5 (X := Bool) (fun x864 => [(1, .pointer (some ⟨b253, 0, none⟩)), (26, .bool x864)]) (fun x864 => pt b253 (.cells [.int .i64 a0_0, .slice A0_1 a0_1.length c0_1, .slice A0_2 a0_2.length c0_2, .slice A0_3 a0_3.length c0_3].toArray 26) :: Fr) (fun x864 => G865 (.inl x864) = some r) ?_ (fun J868 => ?_)
     ·rintro x864 j; have j := (hl866 _).symm.trans j
      ·refine At.run 1 rfl ?_; obtain ⟨G1070, hl1071, hr1072, j⟩ := bjoin j; refine At.joinO 5 (X := Bool) (fun x1069 => [(1, .pointer (some ⟨b253, 0, none⟩)), (32, .bool x1069)]) (fun x1069 => pt b253 (.cells [.int .i64 a0_0, .slice A0_1 a0_1.length c0_1, .slice A0_2 a0_2.length c0_2, .slice A0_3 a0_3.length c0_3].toArray 26) :: Fr) (fun x1069 => G1070 (.inl x1069) = some r) ?_ (fun J1073 => ?_)
       ·rintro x1069 j; have j := (hl1071 _).symm.trans j
        ·refine At.nil (At.thn ?_); rcases bite j with ⟨h1074, j⟩ | ⟨h1074, j⟩
         ··refine At.condT rfl h1074 ?_
           refine At.seq (At.region (At.run 1 rfl (At.nil (At.thn (At.ret (At.thr (At.drop .z ?_))))))); cases bret j; exact At.res (.inl rfl) rfl rfl ⟨rfl, rfl⟩
         ··refine At.condF rfl (bn h1074) ?_
           refine At.skip (At.thn (At.seq (At.region (At.run 1 rfl (At.nil (At.thn (At.seq ?_))))))); refine At.seq (At.region (At.run 1 rfl (At.nil (At.thn ?_)))); refine At.block ?_; obtain ⟨G1892, hl1893, hr1894, j⟩ := bjoin j; obtain ⟨o1895, hlo1896, ho1897⟩ := bsome j; clear j; unfold Q39.l0 at hlo1896; obtain ⟨m1898, hit1900⟩ := Q17.1 hlo1896; clear hlo1896; refine At.nilRow Fl.bs 9 ?_; refine At.loopJ (X := (List Bs) × Int × Nat × (Option Addr) × Nat) (Y := (List Bs) × Nat × (Option Addr) × Nat) (e0 := 0) (fun s_ => [(1, .pointer (some ⟨b253, 0, none⟩)), (3, .slice s_.2.2.2.1 s_.2.2.1 s_.2.2.2.2), (4, .int .i64 s_.2.1)]) (fun s_ => row Fl.bs 9 s_.2.2.2.1 s_.2.2.1 s_.2.2.2.2 s_.1 :: pt b253 (.cells [.int .i64 a0_0, .slice A0_1 a0_1.length c0_1, .slice A0_2 a0_2.length c0_2, .slice A0_3 a0_3.length c0_3].toArray 26) :: Fr) (fun m_ => fun s_ => iterN (fun t_ : (List Bs) × Int => Q39.l0b a0_0 a0_3 t_.1 t_.2) m_ (s_.1, s_.2.1) = some o1895 ∧ s_.1.length = s_.2.2.1) m1898 (([] : List Bs), 0, 0, none, 0) ⟨hit1900, rfl⟩ (fun s_ => [(1, .pointer (some ⟨b253, 0, none⟩)), (3, .slice s_.2.2.1 s_.2.1 s_.2.2.2)]) (fun s_ => row Fl.bs 9 s_.2.2.1 s_.2.1 s_.2.2.2 s_.1 :: pt b253 (.cells [.int .i64 a0_0, .slice A0_1 a0_1.length c0_1, .slice A0_2 a0_2.length c0_2, .slice A0_3 a0_3.length c0_3].toArray 26) :: Fr) (fun s_ => G1892 (.inl s_.1) = some r ∧ s_.1.length = s_.2.1) (fun a w e hs => ⟨e.sub ⟨rfl, rfl, rfl, trivial⟩, (by exact hs)⟩) ?_ (fun J1902 => ?_)
           ·rintro ⟨x1887, w1888, w1890, w1891⟩ ⟨j, hn1889⟩; obtain rfl : x1887.length = w1888 := hn1889; have j := (hl1893 _).symm.trans j
            ·refine At.ibx ?_; refine At.thn (At.seq (At.region (At.run 1 rfl ?_))); refine At.freeze .z fun R1903 hr1904 hn1905 hc1906 hs1907 th1908 => ?_; obtain ⟨t1909, hc1910, j⟩ := bbind j; refine At.call rfl Q55.callee rfl rfl rfl (Q55.spec _ _ w1890 x1887.length w1891 x1887 hr1904 hn1905 hc1906 hc1910) ?_; rintro _ _ ⟨rfl, rfl⟩; refine At.run 1 rfl ?_; obtain ⟨G2112, hl2113, hr2114, j⟩ := bjoin j; refine At.joinO 4 (X := Bool) (fun x2111 => [(1, .pointer (some ⟨b253, 0, none⟩)), (97, .bool x2111)]) (fun x2111 => pt b253 (.cells [.int .i64 a0_0, .slice A0_1 a0_1.length c0_1, .slice A0_2 a0_2.length c0_2, .slice A0_3 a0_3.length c0_3].toArray 26) :: Fr) (fun x2111 => G2112 (.inl x2111) = some r) ?_ (fun J2115 => ?_)
             ·rintro x2111 j; have j := (hl2113 _).symm.trans j
              ·refine At.run 1 rfl ?_; obtain ⟨G2317, hl2318, hr2319, j⟩ := bjoin j; refine At.joinO 3 (X := Bool) (fun x2316 => [(101, .bool x2316)]) (fun x2316 => pt b253 (.cells [.int .i64 a0_0, .slice A0_1 a0_1.length c0_1, .slice A0_2 a0_2.length c0_2, .slice A0_3 a0_3.length c0_3].toArray 26) :: Fr) (fun x2316 => G2317 (.inl x2316) = some r) ?_ (fun J2320 => ?_)
               ·rintro x2316 j; have j := (hl2318 _).symm.trans j
                ·refine At.run 1 rfl (At.nil (At.thn (At.ret ?_))); refine At.thaw th1908 ?_; refine At.drop .z (At.drop .z ?_); cases bret j; exact At.res (.inl rfl) rfl rfl ⟨rfl, rfl⟩
               ··rcases bite j with ⟨h2321, j⟩ | ⟨h2321, j⟩
                 ··refine At.know (t := 98) rfl h2321 ?_
                   refine At.y (Y.load rfl rfl .z rfl rfl rfl) rfl rfl rfl ?_; obtain ⟨t2322, hc2323, j⟩ := bbind j; refine At.call rfl Q41.callee rfl rfl rfl (Q41.spec _ _ A0_1 a0_1.length c0_1 A0_2 a0_2.length c0_2 A0_3 a0_3.length c0_3 a0_0 a0_1 a0_2 a0_3 (RdS.mono hs1907 hr0_1) rfl hc0_1 (RdS.mono hs1907 hr0_2) rfl hc0_2 (RdS.mono hs1907 hr0_3) rfl hc0_3 hc2323) ?_; rintro _ _ ⟨rfl, rfl⟩; refine At.run 1 rfl ?_; exact At.of (J2320 t2322 j) ⟨rfl, trivial⟩
                 ··refine At.know (t := 98) rfl (bn h2321) ?_
                   refine At.run 3 rfl ?_; exact At.of (J2320 false j) ⟨rfl, trivial⟩
             ··rcases bite j with ⟨h2324, j⟩ | ⟨h2324, j⟩
               ··refine At.know (t := 93) rfl h2324 ?_
                 refine At.run 1 rfl (At.y (Y.load rfl rfl .z rfl rfl rfl) rfl rfl rfl ?_); obtain ⟨t2325, hc2326, j⟩ := bbind j; refine At.call rfl Q55.callee rfl rfl rfl (Q55.spec _ _ A0_1 a0_1.length c0_1 a0_1 (RdS.mono hs1907 hr0_1) rfl hc0_1 hc2326) ?_; rintro _ _ ⟨rfl, rfl⟩; refine At.run 1 rfl ?_; exact At.of (J2115 t2325 j) ⟨rfl, rfl, trivial⟩
               ··refine At.know (t := 93) rfl (bn h2324) ?_
                 refine At.run 4 rfl ?_; exact At.of (J2115 false j) ⟨rfl, rfl, trivial⟩
           ·clear hit1900 m1898; rintro m1898 ⟨x1681, x1686, w1682, w1684, w1685⟩ ⟨hit1900, hn1683⟩; obtain rfl : x1681.length = w1682 := hn1683; obtain ⟨m1899, f_, hlt1901, hf_, j⟩ := bit hit1900; clear hit1900; have j : (Q39.l0b a0_0 a0_3 x1681 x1686).bind _ = some o1895 := j; unfold Q39.l0b at j
            ·refine At.seq (At.seq (At.region (At.run 2 rfl (At.y (Y.load rfl rfl (.s .z) rfl rfl rfl) rfl rfl rfl (At.run 2 rfl (At.nil (At.thn ?_))))))); rcases bite j with ⟨h2327, j⟩ | ⟨h2327, j⟩
             ··refine At.condT rfl (decide_eq_true h2327) ?_
               refine At.skip (At.thn (At.seq ?_)); refine At.block ?_; refine At.seq (At.region (At.run 2 rfl (At.y (Y.load rfl rfl (.s .z) rfl rfl rfl) rfl rfl rfl (At.run 1 rfl ?_)))); obtain ⟨h2328, j⟩ := bnone j; refine At.y (Y.ixRd hr0_3 rfl rfl rfl rfl rfl rfl rfl h2328.1 h2328.2) rfl rfl rfl ?_; refine At.y (Y.fa (RdS.some_ hr0_3 rfl h2328.1 h2328.2) rfl rfl rfl rfl rfl rfl) rfl rfl rfl ?_; refine At.y (Y.ldPrj Q1.prj_Name hr0_3 rfl rfl rfl h2328.1 h2328.2 rfl rfl) rfl rfl rfl ?_; refine At.lit rfl (xo := [.tmp 46]) (ys := ([((gt a0_3 x1686).Name)] : List Bs)) Fl.bs rfl rfl rfl rfl rfl rfl rfl rfl rfl rfl rfl (fun A2329 c2330 => ?_); obtain ⟨h2332, j⟩ := bnone j; refine At.append rfl (.s .z) (Src.own .z (by simp)) rfl rfl rfl rfl rfl rfl rfl rfl h2332 (by decide) rfl (fun A2333 c2334 => ?_); refine At.drop (.s .z) (At.run 1 rfl (At.nil (At.thn (At.seq (At.region (At.run 1 rfl (At.y (Y.load rfl rfl (.s .z) rfl rfl rfl) rfl rfl rfl ?_))))))); refine At.run 1 rfl (At.y (Y.ixRd hr0_3 rfl rfl rfl rfl rfl rfl rfl h2328.1 h2328.2) rfl rfl rfl ?_); refine At.y (Y.fa (RdS.some_ hr0_3 rfl h2328.1 h2328.2) rfl rfl rfl rfl rfl rfl) rfl rfl rfl ?_; obtain ⟨A2335, c2336, hc2337, hr2338, hy2339⟩ := RdS.prjSl (P := Tryz.prog) Q1.prj_States hr0_3 (Sub.refl _) rfl h2328.1 h2328.2; refine At.y (hy2339 rfl rfl rfl rfl) rfl rfl rfl ?_; refine At.run 1 rfl (At.nil (At.thn (At.seq (At.region (At.run 1 rfl (At.nil (At.thn ?_))))))); refine At.block ?_; obtain ⟨G3142, hl3143, hr3144, j⟩ := bjoin j; obtain ⟨o3145, hlo3146, ho3147⟩ := bsome j; clear j; unfold Q39.l1 at hlo3146; obtain ⟨m3148, hit3150⟩ := Q17.1 hlo3146; clear hlo3146; refine At.loopJ (X := Int) (Y := Unit) (e0 := 2) (fun x2941 => [(1, .pointer (some ⟨b253, 0, none⟩)), (3, .slice A2333 ((x1681 ++ ([((gt a0_3 x1686).Name)] : List Bs)).length) c2334), (4, .int .i64 x1686), (5, .slice A2335 ((gt a0_3 x1686).States.length) c2336), (6, .int .i64 x2941)]) (fun x2941 => row Fl.bs 9 A2333 ((x1681 ++ ([((gt a0_3 x1686).Name)] : List Bs)).length) c2334 (x1681 ++ ([((gt a0_3 x1686).Name)] : List Bs)) :: pt b253 (.cells [.int .i64 a0_0, .slice A0_1 a0_1.length c0_1, .slice A0_2 a0_2.length c0_2, .slice A0_3 a0_3.length c0_3].toArray 26) :: Fr) (fun m_ => fun x2941 => iterN (fun t_ : Int => Q39.l1b a0_0 a0_3 x1686 t_) m_ x2941 = some o3145) m3148 0 hit3150 (fun _ => [(1, .pointer (some ⟨b253, 0, none⟩)), (3, .slice A2333 ((x1681 ++ ([((gt a0_3 x1686).Name)] : List Bs)).length) c2334), (4, .int .i64 x1686)]) (fun _ => row Fl.bs 9 A2333 ((x1681 ++ ([((gt a0_3 x1686).Name)] : List Bs)).length) c2334 (x1681 ++ ([((gt a0_3 x1686).Name)] : List Bs)) :: pt b253 (.cells [.int .i64 a0_0, .slice A0_1 a0_1.length c0_1, .slice A0_2 a0_2.length c0_2, .slice A0_3 a0_3.length c0_3].toArray 26) :: Fr) (fun _ => G3142 (.inl ()) = some o1895) (fun a w e hs => ⟨e.sub ⟨rfl, rfl, rfl, rfl, rfl, trivial⟩, (by exact hs)⟩) ?_ (fun J3152 => ?_)
               ·rintro _ j; have j := (hl3143 _).symm.trans j
                ·refine At.ibx ?_; refine At.ibn ?_; refine At.thn (At.region (At.run 3 rfl (At.nil ?_))); have j := bnx hf_ j; exact fun a w e hs => ⟨m1899, ((x1681 ++ ([((gt a0_3 x1686).Name)] : List Bs)), IntKind.i64.wrap (x1686 + 1), (x1681 ++ ([((gt a0_3 x1686).Name)] : List Bs)).length, A2333, c2334), hlt1901, ⟨j, rfl⟩, e.sub ⟨rfl, rfl, rfl, trivial⟩, hs⟩
               ·clear hit3150 m3148; rintro m3148 x2941 hit3150; obtain ⟨m3149, f_, hlt3151, hf_, j⟩ := bit hit3150; clear hit3150; have j : (Q39.l1b a0_0 a0_3 x1686 x2941).bind _ = some o3145 := j; unfold Q39.l1b at j
                ·refine At.seq (At.seq (At.region (At.run 4 rfl (At.nil (At.thn ?_))))); rcases bite j with ⟨h3153, j⟩ | ⟨h3153, j⟩
                 ··refine At.condT rfl (decide_eq_true h3153) ?_
                   refine At.skip (At.thn (At.seq ?_)); refine At.block ?_; refine At.seq ?_; refine At.quiet (by kernel_rfl) ?_; refine At.Quiet.run 2 rfl ?_; obtain ⟨h3154, j⟩ := bnone j; refine At.Quiet.y (Y.ixRd hr2338 rfl rfl rfl rfl rfl rfl rfl h3154.1 h3154.2) rfl rfl rfl ?_; refine At.Quiet.y (Y.ldFl hr2338 rfl (q := 0) rfl rfl h3154.1 h3154.2 rfl rfl rfl) rfl rfl rfl ?_; refine At.Quiet.run 2 rfl ?_; obtain ⟨G3356, hl3357, hr3358, j⟩ := bjoin j; refine At.Quiet.joinO 8 (X := Bool) (fun x3355 => [(1, .pointer (some ⟨b253, 0, none⟩)), (3, .slice A2333 ((x1681 ++ ([((gt a0_3 x1686).Name)] : List Bs)).length) c2334), (4, .int .i64 x1686), (5, .slice A2335 ((gt a0_3 x1686).States.length) c2336), (6, .int .i64 x2941), (74, .bool x3355)]) (fun x3355 => row Fl.bs 9 A2333 ((x1681 ++ ([((gt a0_3 x1686).Name)] : List Bs)).length) c2334 (x1681 ++ ([((gt a0_3 x1686).Name)] : List Bs)) :: pt b253 (.cells [.int .i64 a0_0, .slice A0_1 a0_1.length c0_1, .slice A0_2 a0_2.length c0_2, .slice A0_3 a0_3.length c0_3].toArray 26) :: Fr) (fun x3355 => G3356 (.inl x3355) = some o3145) ?_ (fun J3359 => ?_)
                   ·rintro x3355 j; have j := (hl3357 _).symm.trans j
                    ·refine At.Quiet.run 1 rfl ?_; obtain ⟨G3561, hl3562, hr3563, j⟩ := bjoin j; refine At.Quiet.joinO 15 (X := Bool) (fun x3560 => [(1, .pointer (some ⟨b253, 0, none⟩)), (3, .slice A2333 ((x1681 ++ ([((gt a0_3 x1686).Name)] : List Bs)).length) c2334), (4, .int .i64 x1686), (5, .slice A2335 ((gt a0_3 x1686).States.length) c2336), (6, .int .i64 x2941), (90, .bool x3560)]) (fun x3560 => row Fl.bs 9 A2333 ((x1681 ++ ([((gt a0_3 x1686).Name)] : List Bs)).length) c2334 (x1681 ++ ([((gt a0_3 x1686).Name)] : List Bs)) :: pt b253 (.cells [.int .i64 a0_0, .slice A0_1 a0_1.length c0_1, .slice A0_2 a0_2.length c0_2, .slice A0_3 a0_3.length c0_3].toArray 26) :: Fr) (fun x3560 => G3561 (.inl x3560) = some o3145) ?_ (fun J3564 => ?_)
                     ·rintro x3560 j; have j := (hl3562 _).symm.trans j
                      ·refine At.Quiet.nil (At.thn ?_); rcases bite j with ⟨h3565, j⟩ | ⟨h3565, j⟩
                       ··refine At.condT rfl h3565 ?_
                         refine At.seq (At.region (At.run 1 rfl (At.nil (At.thn (At.ret ?_))))); refine At.ibr ?_; refine At.thr ?_; have j := bupL hr3144 ho3147 j; refine At.thr ?_; refine At.ibr ?_; refine At.ibr ?_; refine At.thr ?_; have j := bupL hr1894 ho1897 j; refine At.thr ?_; refine At.ibr ?_; refine At.thr (At.drop .z (At.drop .z ?_)); cases bret j; exact At.res (.inl rfl) rfl rfl ⟨rfl, rfl⟩
                       ··refine At.condF rfl (bn h3565) ?_
                         refine At.skip ?_; refine At.ibn ?_; refine At.thn (At.region (At.run 3 rfl (At.nil ?_))); have j := bnx hf_ j; exact fun a w e hs => ⟨m3149, (IntKind.i64.wrap (x2941 + 1)), hlt3151, j, e.sub ⟨rfl, rfl, rfl, rfl, rfl, trivial⟩, hs⟩
                     ··rcases bite j with ⟨h3566, j⟩ | ⟨h3566, j⟩
                       ··refine At.Quiet.know (t := 75) rfl h3566 ?_
                         refine At.Quiet.run 15 rfl ?_; exact At.Quiet.of (J3564 true j) ⟨rfl, rfl, rfl, rfl, rfl, rfl, trivial⟩
                       ··refine At.Quiet.know (t := 75) rfl (bn h3566) ?_
                         refine At.Quiet.run 3 rfl ?_; obtain ⟨G3769, hl3770, hr3771, j⟩ := bjoin j; refine At.Quiet.joinO 11 (X := Bool × Bool) (fun s_ => [(1, .pointer (some ⟨b253, 0, none⟩)), (3, .slice A2333 ((x1681 ++ ([((gt a0_3 x1686).Name)] : List Bs)).length) c2334), (4, .int .i64 x1686), (5, .slice A2335 ((gt a0_3 x1686).States.length) c2336), (6, .int .i64 x2941), (75, .bool false), (76, .int .i64 x2941), (77, .bool (decide (0 < x2941))), (78, .bool s_.1), (89, .bool s_.2)]) (fun s_ => row Fl.bs 9 A2333 ((x1681 ++ ([((gt a0_3 x1686).Name)] : List Bs)).length) c2334 (x1681 ++ ([((gt a0_3 x1686).Name)] : List Bs)) :: pt b253 (.cells [.int .i64 a0_0, .slice A0_1 a0_1.length c0_1, .slice A0_2 a0_2.length c0_2, .slice A0_3 a0_3.length c0_3].toArray 26) :: Fr) (fun s_ => G3769 (.inl (s_.1, s_.2)) = some o3145) ?_ (fun J3772 => ?_)
                         ·rintro ⟨x3767, x3768⟩ j; have j := (hl3770 _).symm.trans j
                          ·refine At.Quiet.run 1 rfl ?_; exact At.Quiet.of (J3564 x3768 j) ⟨rfl, rfl, rfl, rfl, rfl, rfl, trivial⟩
                         ··rcases bite j with ⟨h3773, j⟩ | ⟨h3773, j⟩
                           ··refine At.Quiet.know (t := 78) rfl (decide_eq_true h3773) ?_
                             refine At.Quiet.run 3 rfl ?_; obtain ⟨h3774, j⟩ := bnone j; refine At.Quiet.y (Y.ixRd hr2338 rfl rfl rfl rfl rfl rfl rfl h3774.1 h3774.2) rfl rfl rfl ?_; refine At.Quiet.y (Y.ldFl hr2338 rfl (q := 0) rfl rfl h3774.1 h3774.2 rfl rfl rfl) rfl rfl rfl ?_; refine At.Quiet.run 2 rfl ?_; refine At.Quiet.y (Y.ixRd hr2338 rfl rfl rfl rfl rfl rfl rfl h3154.1 h3154.2) rfl rfl rfl ?_; refine At.Quiet.y (Y.ldFl hr2338 rfl (q := 0) rfl rfl h3154.1 h3154.2 rfl rfl rfl) rfl rfl rfl ?_; refine At.Quiet.run 2 rfl ?_; exact At.Quiet.of (J3772 (true, decide (gt ((gt a0_3 x1686).States) x2941 ≤ gt ((gt a0_3 x1686).States) (IntKind.i64.wrap (x2941 - 1)))) j) ⟨rfl, rfl, rfl, rfl, rfl, rfl, rfl, rfl, rfl, rfl, trivial⟩
                           ··refine At.Quiet.know (t := 78) rfl (decide_eq_false h3773) ?_
                             refine At.Quiet.run 11 rfl ?_; exact At.Quiet.of (J3772 (false, false) j) ⟨rfl, rfl, rfl, rfl, rfl, rfl, rfl, rfl, rfl, rfl, trivial⟩
                   ··rcases bite j with ⟨h3775, j⟩ | ⟨h3775, j⟩
                     ··refine At.Quiet.know (t := 66) rfl (decide_eq_true h3775) ?_
                       refine At.Quiet.run 8 rfl ?_; exact At.Quiet.of (J3359 true j) ⟨rfl, rfl, rfl, rfl, rfl, rfl, trivial⟩
                     ··refine At.Quiet.know (t := 66) rfl (decide_eq_false h3775) ?_
                       refine At.Quiet.run 2 rfl ?_; refine At.Quiet.y (Y.ixRd hr2338 rfl rfl rfl rfl rfl rfl rfl h3154.1 h3154.2) rfl rfl rfl ?_; refine At.Quiet.y (Y.ldFl hr2338 rfl (q := 0) rfl rfl h3154.1 h3154.2 rfl rfl rfl) rfl rfl rfl ?_; refine At.Quiet.run 1 rfl ?_; refine At.Quiet.y (Y.load rfl rfl (.s .z) rfl rfl rfl) rfl rfl rfl ?_; refine At.Quiet.run 2 rfl ?_; exact At.Quiet.of (J3359 (decide (a0_0 ≤ gt ((gt a0_3 x1686).States) x2941)) j) ⟨rfl, rfl, rfl, rfl, rfl, rfl, trivial⟩
                 ··refine At.condF rfl (decide_eq_false h3153) ?_
                   refine At.exit ?_; refine At.the ?_; refine At.the ?_; exact fun a w e hs => J3152 () (bdn j ho3147) a w (e.sub ⟨rfl, rfl, rfl, trivial⟩) hs
             ··refine At.condF rfl (decide_eq_false h2327) ?_
               refine At.exit ?_; refine At.the ?_; refine At.the ?_; exact fun a w e hs => J1902 (x1681, x1681.length, w1684, w1685) ⟨(bdn j ho1897), rfl⟩ a w (e.sub ⟨rfl, rfl, trivial⟩) hs
       ··rcases bite j with ⟨h3776, j⟩ | ⟨h3776, j⟩
         ··refine At.know (t := 27) rfl h3776 ?_
           refine At.run 5 rfl ?_; exact At.of (J1073 true j) ⟨rfl, rfl, trivial⟩
         ··refine At.know (t := 27) rfl (bn h3776) ?_
           refine At.run 1 rfl (At.y (Y.load rfl rfl .z rfl rfl rfl) rfl rfl rfl (At.run 3 rfl ?_)); exact At.of (J1073 (decide (200 < (a0_2.length : Int))) j) ⟨rfl, rfl, trivial⟩
     ··rcases bite j with ⟨h3777, j⟩ | ⟨h3777, j⟩
       ··refine At.know (t := 21) rfl h3777 ?_
         refine At.run 5 rfl ?_; exact At.of (J868 true j) ⟨rfl, rfl, trivial⟩
       ··refine At.know (t := 21) rfl (bn h3777) ?_
         refine At.run 1 rfl (At.y (Y.load rfl rfl .z rfl rfl rfl) rfl rfl rfl (At.run 3 rfl ?_)); exact At.of (J868 (decide (8 < (a0_3.length : Int))) j) ⟨rfl, rfl, trivial⟩
   ··rcases bite j with ⟨h3778, j⟩ | ⟨h3778, j⟩
     ··refine At.know (t := 15) rfl h3778 ?_
       refine At.run 5 rfl ?_; exact At.of (J663 true j) ⟨rfl, rfl, trivial⟩
     ··refine At.know (t := 15) rfl (bn h3778) ?_
       refine At.run 1 rfl (At.y (Y.load rfl rfl .z rfl rfl rfl) rfl rfl rfl (At.run 3 rfl ?_)); exact At.of (J663 (decide (8 < (a0_1.length : Int))) j) ⟨rfl, rfl, trivial⟩
 ··rcases bite j with ⟨h3779, j⟩ | ⟨h3779, j⟩
   ··refine At.know (t := 10) rfl (decide_eq_true h3779) ?_
     refine At.run 4 rfl ?_; exact At.of (J458 true j) ⟨rfl, rfl, trivial⟩
   ··refine At.know (t := 10) rfl (decide_eq_false h3779) ?_
     refine At.run 1 rfl (At.y (Y.load rfl rfl .z rfl rfl rfl) rfl rfl rfl (At.run 2 rfl ?_)); exact At.of (J458 (decide (24 < a0_0)) j) ⟨rfl, rfl, trivial⟩

end Go.Bw
namespace Go.Bw
open Go Go.RowKit Go.Proofs
noncomputable def Q15.l3b (a0_3 a1_3 : List Q1) (x3099 x4137 : Int) : Option ((Int) ⊕ ((Unit) ⊕ ((Int) ⊕ ((Unit) ⊕ (Bool))))) :=
 if x4137 < ((gt a0_3 x3099).States.length : Int) then
 if (0 : Int) ≤ x4137 ∧ x4137 < ((gt a0_3 x3099).States.length : Int) then
 if (0 : Int) ≤ x4137 ∧ x4137 < ((gt a1_3 x3099).States.length : Int) then
 if gt ((gt a0_3 x3099).States) x4137 = gt ((gt a1_3 x3099).States) x4137 then
 nx (IntKind.i64.wrap (x4137 + 1))
 else
 upL (upL (some false))
 else none
 else none
 else
 dn (.inl ())
noncomputable def Q15.l3 (a0_3 a1_3 : List Q1) (x3099 x4137 : Int) : Option ((Unit) ⊕ ((Int) ⊕ ((Unit) ⊕ (Bool)))) := iter (fun t_ : Int => Q15.l3b a0_3 a1_3 x3099 t_) x4137
noncomputable def Q15.l2b (a0_3 a1_3 : List Q1) (x3099 : Int) : Option ((Int) ⊕ ((Unit) ⊕ (Bool))) :=
 if x3099 < (a0_3.length : Int) then
 if (0 : Int) ≤ x3099 ∧ x3099 < (a0_3.length : Int) then
 if (0 : Int) ≤ x3099 ∧ x3099 < (a1_3.length : Int) then
 jn (
 if bseq ((gt a0_3 x3099).Name) ((gt a1_3 x3099).Name) = true then
 some (.inl (!(decide (((gt a0_3 x3099).States.length : Int) = ((gt a1_3 x3099).States.length : Int)))))
 else
 some (.inl true)) (fun (x3530 : Bool) =>
 if x3530 = true then
 upL (some false)
 else
 jn (Q15.l3 a0_3 a1_3 x3099 0) (fun (_ : Unit) =>
 nx (IntKind.i64.wrap (x3099 + 1))))
 else none
 else none
 else
 dn (.inl ())
noncomputable def Q15.l2 (a0_3 a1_3 : List Q1) (x3099 : Int) : Option ((Unit) ⊕ (Bool)) := iter (fun t_ : Int => Q15.l2b a0_3 a1_3 t_) x3099
noncomputable def Q15.l1b (a0_2 a1_2 : List Q0) (x2286 : Int) : Option ((Int) ⊕ ((Unit) ⊕ (Bool))) :=
 if x2286 < (a0_2.length : Int) then
 if (0 : Int) ≤ x2286 ∧ x2286 < (a0_2.length : Int) then
 if (0 : Int) ≤ x2286 ∧ x2286 < (a1_2.length : Int) then
 if (decide ((gt a0_2 x2286).From = (gt a1_2 x2286).From) && (decide ((gt a0_2 x2286).Action = (gt a1_2 x2286).Action) && (decide ((gt a0_2 x2286).To = (gt a1_2 x2286).To) && true))) = true then
 nx (IntKind.i64.wrap (x2286 + 1))
 else
 upL (some false)
 else none
 else none
 else
 dn (.inl ())
noncomputable def Q15.l1 (a0_2 a1_2 : List Q0) (x2286 : Int) : Option ((Unit) ⊕ (Bool)) := iter (fun t_ : Int => Q15.l1b a0_2 a1_2 t_) x2286
noncomputable def Q15.l0b (a0_1 a1_1 : List Bs) (x1473 : Int) : Option ((Int) ⊕ ((Unit) ⊕ (Bool))) :=
 if x1473 < (a0_1.length : Int) then
 if (0 : Int) ≤ x1473 ∧ x1473 < (a0_1.length : Int) then
 if (0 : Int) ≤ x1473 ∧ x1473 < (a1_1.length : Int) then
 if bseq (gt a0_1 x1473) (gt a1_1 x1473) = true then
 nx (IntKind.i64.wrap (x1473 + 1))
 else
 upL (some false)
 else none
 else none
 else
 dn (.inl ())
noncomputable def Q15.l0 (a0_1 a1_1 : List Bs) (x1473 : Int) : Option ((Unit) ⊕ (Bool)) := iter (fun t_ : Int => Q15.l0b a0_1 a1_1 t_) x1473
noncomputable def Q15.f (a0_0 : Int) (a0_1 : List Bs) (a0_2 : List Q0) (a0_3 : List Q1) (a1_0 : Int) (a1_1 : List Bs) (a1_2 : List Q0) (a1_3 : List Q1) : Option Bool :=
 jn (
 if a0_0 = a1_0 then
 some (.inl (!(decide ((a0_1.length : Int) = (a1_1.length : Int)))))
 else
 some (.inl true)) (fun (x456 : Bool) =>
 jn (
 if x456 = true then
 some (.inl true)
 else
 some (.inl (!(decide ((a0_2.length : Int) = (a1_2.length : Int)))))) (fun (x661 : Bool) =>
 jn (
 if x661 = true then
 some (.inl true)
 else
 some (.inl (!(decide ((a0_3.length : Int) = (a1_3.length : Int)))))) (fun (x866 : Bool) =>
 if x866 = true then
 some false
 else
 jn (Q15.l0 a0_1 a1_1 0) (fun (_ : Unit) =>
 jn (Q15.l1 a0_2 a1_2 0) (fun (_ : Unit) =>
 jn (Q15.l2 a0_3 a1_3 0) (fun (_ : Unit) =>
 some true))))))
theorem Q15.callee : Callee Tryz.prog 17 := ⟨_, Tryz.func17, by kernel_rfl, by kernel_rfl⟩
theorem Q15.spec (R : Res) (Fr : List HProp) (A0_1 : Option Addr) (n0_1 : Nat) (c0_1 : Nat) (A0_2 : Option Addr) (n0_2 : Nat) (c0_2 : Nat) (A0_3 : Option Addr) (n0_3 : Nat) (c0_3 : Nat) (A1_1 : Option Addr) (n1_1 : Nat) (c1_1 : Nat) (A1_2 : Option Addr) (n1_2 : Nat) (c1_2 : Nat) (A1_3 : Option Addr) (n1_3 : Nat) (c1_3 : Nat) (a0_0 : Int) (a0_1 : List Bs) (a0_2 : List Q0) (a0_3 : List Q1) (a1_0 : Int) (a1_1 : List Bs) (a1_2 : List Q0) (a1_3 : List Q1) (hr0_1 : RdS Fl.bs.rep R.heap A0_1 a0_1) (hn0_1 : a0_1.length = n0_1) (hc0_1 : n0_1 ≤ c0_1) (hr0_2 : RdS Q0.fl.rep R.heap A0_2 a0_2) (hn0_2 : a0_2.length = n0_2) (hc0_2 : n0_2 ≤ c0_2) (hr0_3 : RdS Q1.rep R.heap A0_3 a0_3) (hn0_3 : a0_3.length = n0_3) (hc0_3 : n0_3 ≤ c0_3) (hr1_1 : RdS Fl.bs.rep R.heap A1_1 a1_1) (hn1_1 : a1_1.length = n1_1) (hc1_1 : n1_1 ≤ c1_1) (hr1_2 : RdS Q0.fl.rep R.heap A1_2 a1_2) (hn1_2 : a1_2.length = n1_2) (hc1_2 : n1_2 ≤ c1_2) (hr1_3 : RdS Q1.rep R.heap A1_3 a1_3) (hn1_3 : a1_3.length = n1_3) (hc1_3 : n1_3 ≤ c1_3) {r : Bool} (j : Q15.f a0_0 a0_1 a0_2 a0_3 a1_0 a1_1 a1_2 a1_3 = some r) :
 Spec Tryz.prog 17 [.agg #[.int .i64 a0_0, .slice A0_1 n0_1 c0_1, .slice A0_2 n0_2 c0_2, .slice A0_3 n0_3 c0_3], .agg #[.int .i64 a1_0, .slice A1_1 n1_1 c1_1, .slice A1_2 n1_2 c1_2, .slice A1_3 n1_3 c1_3]] R (Fr) (fun v l' => v = .bool r ∧ Fr = l') := by
 subst hn0_1; subst hn0_2; subst hn0_3; subst hn1_1; subst hn1_2; subst hn1_3; refine Spec.of Tryz.func17 rfl rfl ?_; unfold Q15.f at j; have j := brun j; refine At.seq (At.region ?_); refine At.box rfl rfl (cs := [.int .i64 a0_0, .slice A0_1 a0_1.length c0_1, .slice A0_2 a0_2.length c0_2, .slice A0_3 a0_3.length c0_3]) rfl rfl (fun b254 => ?_); refine At.box rfl rfl (cs := [.int .i64 a1_0, .slice A1_1 a1_1.length c1_1, .slice A1_2 a1_2.length c1_2, .slice A1_3 a1_3.length c1_3]) rfl rfl (fun b255 => ?_); refine At.run 1 rfl (At.nil (At.thn (At.seq (At.seq (At.region (At.run 1 rfl (At.y (Y.load rfl rfl (.s .z) rfl rfl rfl) rfl rfl rfl ?_))))))); refine At.run 1 rfl (At.y (Y.load rfl rfl .z rfl rfl rfl) rfl rfl rfl (At.run 2 rfl ?_)); obtain ⟨G457, hl458, hr459, j⟩ := bjoin j; refine At.joinO 8 (X := Bool) (fun x456 => [(2, .pointer (some ⟨b254, 0, none⟩)), (3, .pointer (some ⟨b255, 0, none⟩)), (24, .bool x456)]) (fun x456 => pt b255 (.cells [.int .i64 a1_0, .slice A1_1 a1_1.length c1_1, .slice A1_2 a1_2.length c1_2, .slice A1_3 a1_3.length c1_3].toArray 26) :: pt b254 (.cells [.int .i64 a0_0, .slice A0_1 a0_1.length c0_1, .slice A0_2 a0_2.length c0_2, .slice A0_3 a0_3.length c0_3].toArray 26) :: Fr) (fun x456 => G457 (.inl x456) = some r) ?_ (fun J460 => ?_)
 ·rintro x456 j; have j := (hl458 _).symm.trans j
  ·refine At.run 1 rfl ?_; obtain ⟨G662, hl663, hr664, j⟩ := bjoin j; refine At.joinO 8 (X := Bool) (fun x661 => [(2, .pointer (some ⟨b254, 0, none⟩)), (3, .pointer (some ⟨b255, 0, none⟩)), (33, .bool x661)]) (fun x661 => pt b255 (.cells [.int .i64 a1_0, .slice A1_1 a1_1.length c1_1, .slice A1_2 a1_2.length c1_2, .slice A1_3 a1_3.length c1_3].toArray 26) :: pt b254 (.cells [.int .i64 a0_0, .slice A0_1 a0_1.length c0_1, .slice A0_2 a0_2.length c0_2, .slice A0_3 a0_3.length c0_3].toArray 26) :: Fr) (fun x661 => G662 (.inl x661) = some r) ?_ (fun J665 => ?_)
   ·rintro x661 j; have j := (hl663 _).symm.trans j
    ·refine At.run 1 rfl ?_; obtain ⟨G867, hl868, hr869, j⟩ := bjoin j; refine At.joinO 8 (X := Bool) (fun x866 => [(2, .pointer (some ⟨b254, 0, none⟩)), (3, .pointer (some ⟨b255, 0, none⟩)), (42, .bool x866)]) (fun x866 => pt b255 (.cells [.int .i64 a1_0, .slice A1_1 a1_1.length c1_1, .slice A1_2 a1_2.length c1_2, .slice A1_3 a1_3.length c1_3].toArray 26) :: pt b254 (.cells [.int .i64 a0_0, .slice A0_1 a0_1.length c0_1, .slice A0_2 a0_2.length c0_2, .slice A0_3 a0_3.length c0_3].toArray 26) :: Fr) (fun x866 => G867 (.inl x866) = some r) ?_ (fun J870 => ?_)
     ·rintro x866 j; have j := (hl868 _).symm.trans j
      ·refine At.nil (At.thn ?_); rcases bite j with ⟨h871, j⟩ | ⟨h871, j⟩
       ··refine At.condT rfl h871 ?_
         refine At.seq (At.region (At.run 1 rfl (At.nil (At.thn (At.ret (At.thr (At.drop .z ?_))))))); refine At.drop .z ?_; cases bret j; exact At.res (.inl rfl) rfl rfl ⟨rfl, rfl⟩
       ··refine At.condF rfl (bn h871) ?_
         refine At.skip (At.thn (At.seq (At.seq (At.region (At.run 1 rfl (At.nil (At.thn ?_))))))); refine At.block ?_; obtain ⟨G1674, hl1675, hr1676, j⟩ := bjoin j; obtain ⟨o1677, hlo1678, ho1679⟩ := bsome j; clear j; unfold Q15.l0 at hlo1678; obtain ⟨m1680, hit1682⟩ := Q17.1 hlo1678; clear hlo1678; refine At.loopJ (X := Int) (Y := Unit) (e0 := 0) (fun x1473 => [(2, .pointer (some ⟨b254, 0, none⟩)), (3, .pointer (some ⟨b255, 0, none⟩)), (5, .int .i64 x1473)]) (fun x1473 => pt b255 (.cells [.int .i64 a1_0, .slice A1_1 a1_1.length c1_1, .slice A1_2 a1_2.length c1_2, .slice A1_3 a1_3.length c1_3].toArray 26) :: pt b254 (.cells [.int .i64 a0_0, .slice A0_1 a0_1.length c0_1, .slice A0_2 a0_2.length c0_2, .slice A0_3 a0_3.length c0_3].toArray 26) :: Fr) (fun m_ => fun x1473 => iterN (fun t_ : Int => Q15.l0b a0_1 a1_1 t_) m_ x1473 = some o1677) m1680 0 hit1682 (fun _ => [(2, .pointer (some ⟨b254, 0, none⟩)), (3, .pointer (some ⟨b255, 0, none⟩))]) (fun _ => pt b255 (.cells [.int .i64 a1_0, .slice A1_1 a1_1.length c1_1, .slice A1_2 a1_2.length c1_2, .slice A1_3 a1_3.length c1_3].toArray 26) :: pt b254 (.cells [.int .i64 a0_0, .slice A0_1 a0_1.length c0_1, .slice A0_2 a0_2.length c0_2, .slice A0_3 a0_3.length c0_3].toArray 26) :: Fr) (fun _ => G1674 (.inl ()) = some r) (fun a w e hs => ⟨e.sub ⟨rfl, rfl, rfl, trivial⟩, (by exact hs)⟩) ?_ (fun J1684 => ?_)
         ·rintro _ j; have j := (hl1675 _).symm.trans j
          ·refine At.ibx ?_; refine At.thn (At.seq (At.seq (At.region (At.run 1 rfl (At.nil (At.thn ?_)))))); refine At.block ?_; obtain ⟨G2487, hl2488, hr2489, j⟩ := bjoin j; obtain ⟨o2490, hlo2491, ho2492⟩ := bsome j; clear j; unfold Q15.l1 at hlo2491; obtain ⟨m2493, hit2495⟩ := Q17.1 hlo2491; clear hlo2491; refine At.loopJ (X := Int) (Y := Unit) (e0 := 2) (fun x2286 => [(2, .pointer (some ⟨b254, 0, none⟩)), (3, .pointer (some ⟨b255, 0, none⟩)), (6, .int .i64 x2286)]) (fun x2286 => pt b255 (.cells [.int .i64 a1_0, .slice A1_1 a1_1.length c1_1, .slice A1_2 a1_2.length c1_2, .slice A1_3 a1_3.length c1_3].toArray 26) :: pt b254 (.cells [.int .i64 a0_0, .slice A0_1 a0_1.length c0_1, .slice A0_2 a0_2.length c0_2, .slice A0_3 a0_3.length c0_3].toArray 26) :: Fr) (fun m_ => fun x2286 => iterN (fun t_ : Int => Q15.l1b a0_2 a1_2 t_) m_ x2286 = some o2490) m2493 0 hit2495 (fun _ => [(2, .pointer (some ⟨b254, 0, none⟩)), (3, .pointer (some ⟨b255, 0, none⟩))]) (fun _ => pt b255 (.cells [.int .i64 a1_0, .slice A1_1 a1_1.length c1_1, .slice A1_2 a1_2.length c1_2, .slice A1_3 a1_3.length c1_3].toArray 26) :: pt b254 (.cells [.int .i64 a0_0, .slice A0_1 a0_1.length c0_1, .slice A0_2 a0_2.length c0_2, .slice A0_3 a0_3.length c0_3].toArray 26) :: Fr) (fun _ => G2487 (.inl ()) = some r) (fun a w e hs => ⟨e.sub ⟨rfl, rfl, rfl, trivial⟩, (by exact hs)⟩) ?_ (fun J2497 => ?_)
           ·rintro _ j; have j := (hl2488 _).symm.trans j
            ·refine At.ibx ?_; refine At.thn (At.seq (At.seq (At.region (At.run 1 rfl (At.nil (At.thn ?_)))))); refine At.block ?_; obtain ⟨G3300, hl3301, hr3302, j⟩ := bjoin j; obtain ⟨o3303, hlo3304, ho3305⟩ := bsome j; clear j; unfold Q15.l2 at hlo3304; obtain ⟨m3306, hit3308⟩ := Q17.1 hlo3304; clear hlo3304; refine At.loopJ (X := Int) (Y := Unit) (e0 := 4) (fun x3099 => [(2, .pointer (some ⟨b254, 0, none⟩)), (3, .pointer (some ⟨b255, 0, none⟩)), (7, .int .i64 x3099)]) (fun x3099 => pt b255 (.cells [.int .i64 a1_0, .slice A1_1 a1_1.length c1_1, .slice A1_2 a1_2.length c1_2, .slice A1_3 a1_3.length c1_3].toArray 26) :: pt b254 (.cells [.int .i64 a0_0, .slice A0_1 a0_1.length c0_1, .slice A0_2 a0_2.length c0_2, .slice A0_3 a0_3.length c0_3].toArray 26) :: Fr) (fun m_ => fun x3099 => iterN (fun t_ : Int => Q15.l2b a0_3 a1_3 t_) m_ x3099 = some o3303) m3306 0 hit3308 (fun _ => []) (fun _ => pt b255 (.cells [.int .i64 a1_0, .slice A1_1 a1_1.length c1_1, .slice A1_2 a1_2.length c1_2, .slice A1_3 a1_3.length c1_3].toArray 26) :: pt b254 (.cells [.int .i64 a0_0, .slice A0_1 a0_1.length c0_1, .slice A0_2 a0_2.length c0_2, .slice A0_3 a0_3.length c0_3].toArray 26) :: Fr) (fun _ => G3300 (.inl ()) = some r) (fun a w e hs => ⟨e.sub ⟨rfl, rfl, rfl, trivial⟩, (by exact hs)⟩) ?_ (fun J3310 => ?_)
             ·rintro _ j; have j := (hl3301 _).symm.trans j
              ·refine At.ibx ?_; refine At.thn (At.seq (At.region (At.run 1 rfl (At.nil (At.thn (At.ret (At.drop .z ?_))))))); refine At.drop .z ?_; cases bret j; exact At.res (.inl rfl) rfl rfl ⟨rfl, rfl⟩
             ·clear hit3308 m3306; rintro m3306 x3099 hit3308; obtain ⟨m3307, f_, hlt3309, hf_, j⟩ := bit hit3308; clear hit3308; have j : (Q15.l2b a0_3 a1_3 x3099).bind _ = some o3303 := j; unfold Q15.l2b at j
              ·refine At.seq (At.seq (At.region (At.run 2 rfl (At.y (Y.load rfl rfl (.s .z) rfl rfl rfl) rfl rfl rfl (At.run 2 rfl (At.nil (At.thn ?_))))))); rcases bite j with ⟨h3311, j⟩ | ⟨h3311, j⟩
               ··refine At.condT rfl (decide_eq_true h3311) ?_
                 refine At.skip (At.thn (At.seq ?_)); refine At.block ?_; refine At.seq (At.region (At.run 1 rfl (At.y (Y.load rfl rfl (.s .z) rfl rfl rfl) rfl rfl rfl (At.run 1 rfl ?_)))); obtain ⟨h3312, j⟩ := bnone j; refine At.y (Y.ixRd hr0_3 rfl rfl rfl rfl rfl rfl rfl h3312.1 h3312.2) rfl rfl rfl ?_; obtain ⟨cs3313, hK3314, hy3315⟩ := RdS.whole (P := Tryz.prog) hr0_3 (Sub.refl _) rfl h3312.1 h3312.2; obtain ⟨_, _, rfl, rfl, ⟨A3316, c3317, rfl, hc3318, hr3319⟩⟩ := hK3314; refine At.y (hy3315 rfl rfl rfl rfl) rfl rfl rfl ?_; refine At.alloc rfl rfl rfl (fun b3320 => ?_); refine At.store rfl rfl rfl rfl .z rfl rfl rfl (.c (.c .n)) ?_; refine At.nil (At.thn (At.seq (At.region (At.run 1 rfl (At.y (Y.load rfl rfl (.s .z) rfl rfl rfl) rfl rfl rfl (At.run 1 rfl ?_)))))); obtain ⟨h3321, j⟩ := bnone j; refine At.y (Y.ixRd hr1_3 rfl rfl rfl rfl rfl rfl rfl h3321.1 h3321.2) rfl rfl rfl ?_; obtain ⟨cs3322, hK3323, hy3324⟩ := RdS.whole (P := Tryz.prog) hr1_3 (Sub.refl _) rfl h3321.1 h3321.2; obtain ⟨_, _, rfl, rfl, ⟨A3325, c3326, rfl, hc3327, hr3328⟩⟩ := hK3323; refine At.y (hy3324 rfl rfl rfl rfl) rfl rfl rfl ?_; refine At.alloc rfl rfl rfl (fun b3329 => ?_); refine At.store rfl rfl rfl rfl .z rfl rfl rfl (.c (.c .n)) ?_; refine At.nil (At.thn (At.seq (At.seq (At.region (At.run 1 rfl (At.y (Y.load rfl rfl (.s .z) rfl rfl rfl) rfl rfl rfl (At.run 1 rfl ?_))))))); refine At.y (Y.load rfl rfl .z rfl rfl rfl) rfl rfl rfl (At.run 2 rfl ?_); obtain ⟨G3531, hl3532, hr3533, j⟩ := bjoin j; refine At.joinO 8 (X := Bool) (fun x3530 => [(2, .pointer (some ⟨b254, 0, none⟩)), (3, .pointer (some ⟨b255, 0, none⟩)), (7, .int .i64 x3099), (8, .pointer (some ⟨b3320, 0, none⟩)), (9, .pointer (some ⟨b3329, 0, none⟩)), (109, .bool x3530)]) (fun x3530 => pt b3329 (.cells [.string ⟨((gt a1_3 x3099).Name).toArray⟩, .slice A3325 ((gt a1_3 x3099).States.length) c3326].toArray 37) :: pt b3320 (.cells [.string ⟨((gt a0_3 x3099).Name).toArray⟩, .slice A3316 ((gt a0_3 x3099).States.length) c3317].toArray 37) :: pt b255 (.cells [.int .i64 a1_0, .slice A1_1 a1_1.length c1_1, .slice A1_2 a1_2.length c1_2, .slice A1_3 a1_3.length c1_3].toArray 26) :: pt b254 (.cells [.int .i64 a0_0, .slice A0_1 a0_1.length c0_1, .slice A0_2 a0_2.length c0_2, .slice A0_3 a0_3.length c0_3].toArray 26) :: Fr) (fun x3530 => G3531 (.inl x3530) = some o3303) ?_ (fun J3534 => ?_)
                 ·rintro x3530 j; have j := (hl3532 _).symm.trans j
                  ·refine At.nil (At.thn ?_); rcases bite j with ⟨h3535, j⟩ | ⟨h3535, j⟩
                   ··refine At.condT rfl h3535 ?_
                     refine At.seq (At.region (At.run 1 rfl (At.nil (At.thn (At.ret (At.thr ?_)))))); refine At.ibr ?_; refine At.thr ?_; have j := bupL hr3302 ho3305 j; refine At.thr ?_; refine At.ibr ?_; refine At.thr (At.drop .z (At.drop .z (At.drop .z (At.drop .z ?_)))); cases bret j; exact At.res (.inl rfl) rfl rfl ⟨rfl, rfl⟩
                   ··refine At.condF rfl (bn h3535) ?_
                     refine At.skip (At.thn (At.seq (At.region (At.run 1 rfl (At.nil (At.thn ?_)))))); refine At.block ?_; obtain ⟨G4338, hl4339, hr4340, j⟩ := bjoin j; obtain ⟨o4341, hlo4342, ho4343⟩ := bsome j; clear j; unfold Q15.l3 at hlo4342; obtain ⟨m4344, hit4346⟩ := Q17.1 hlo4342; clear hlo4342; refine At.loopJ (X := Int) (Y := Unit) (e0 := 6) (fun x4137 => [(2, .pointer (some ⟨b254, 0, none⟩)), (3, .pointer (some ⟨b255, 0, none⟩)), (7, .int .i64 x3099), (8, .pointer (some ⟨b3320, 0, none⟩)), (9, .pointer (some ⟨b3329, 0, none⟩)), (10, .int .i64 x4137)]) (fun x4137 => pt b3329 (.cells [.string ⟨((gt a1_3 x3099).Name).toArray⟩, .slice A3325 ((gt a1_3 x3099).States.length) c3326].toArray 37) :: pt b3320 (.cells [.string ⟨((gt a0_3 x3099).Name).toArray⟩, .slice A3316 ((gt a0_3 x3099).States.length) c3317].toArray 37) :: pt b255 (.cells [.int .i64 a1_0, .slice A1_1 a1_1.length c1_1, .slice A1_2 a1_2.length c1_2, .slice A1_3 a1_3.length c1_3].toArray 26) :: pt b254 (.cells [.int .i64 a0_0, .slice A0_1 a0_1.length c0_1, .slice A0_2 a0_2.length c0_2, .slice A0_3 a0_3.length c0_3].toArray 26) :: Fr) (fun m_ => fun x4137 => iterN (fun t_ : Int => Q15.l3b a0_3 a1_3 x3099 t_) m_ x4137 = some o4341) m4344 0 hit4346 (fun _ => [(2, .pointer (some ⟨b254, 0, none⟩)), (3, .pointer (some ⟨b255, 0, none⟩)), (7, .int .i64 x3099)]) (fun _ => pt b3329 (.cells [.string ⟨((gt a1_3 x3099).Name).toArray⟩, .slice A3325 ((gt a1_3 x3099).States.length) c3326].toArray 37) :: pt b3320 (.cells [.string ⟨((gt a0_3 x3099).Name).toArray⟩, .slice A3316 ((gt a0_3 x3099).States.length) c3317].toArray 37) :: pt b255 (.cells [.int .i64 a1_0, .slice A1_1 a1_1.length c1_1, .slice A1_2 a1_2.length c1_2, .slice A1_3 a1_3.length c1_3].toArray 26) :: pt b254 (.cells [.int .i64 a0_0, .slice A0_1 a0_1.length c0_1, .slice A0_2 a0_2.length c0_2, .slice A0_3 a0_3.length c0_3].toArray 26) :: Fr) (fun _ => G4338 (.inl ()) = some o3303) (fun a w e hs => ⟨e.sub ⟨rfl, rfl, rfl, rfl, rfl, rfl, trivial⟩, (by exact hs)⟩) ?_ (fun J4348 => ?_)
                     ·rintro _ j; have j := (hl4339 _).symm.trans j
                      ·refine At.ibx ?_; refine At.ibn ?_; refine At.thn (At.region (At.run 3 rfl (At.nil (At.drop .z (At.drop .z ?_))))); have j := bnx hf_ j; exact fun a w e hs => ⟨m3307, (IntKind.i64.wrap (x3099 + 1)), hlt3309, j, e.sub ⟨rfl, rfl, rfl, trivial⟩, hs⟩
                     ·clear hit4346 m4344; rintro m4344 x4137 hit4346; obtain ⟨m4345, f_, hlt4347, hf_, j⟩ := bit hit4346; clear hit4346; have j : (Q15.l3b a0_3 a1_3 x3099 x4137).bind _ = some o4341 := j; unfold Q15.l3b at j
                      ·refine At.seq (At.seq (At.region (At.run 2 rfl (At.y (Y.load rfl rfl (.s .z) rfl rfl rfl) rfl rfl rfl (At.run 2 rfl (At.nil (At.thn ?_))))))); rcases bite j with ⟨h4349, j⟩ | ⟨h4349, j⟩
                       ··refine At.condT rfl (decide_eq_true h4349) ?_
                         refine At.skip (At.thn (At.seq ?_)); refine At.block ?_; refine At.seq ?_; refine At.quiet (by kernel_rfl) ?_; refine At.Quiet.run 1 rfl ?_; refine At.Quiet.y (Y.load rfl rfl (.s .z) rfl rfl rfl) rfl rfl rfl ?_; refine At.Quiet.run 1 rfl ?_; obtain ⟨h4350, j⟩ := bnone j; refine At.Quiet.y (Y.ixRd hr3319 rfl rfl rfl rfl rfl rfl rfl h4350.1 h4350.2) rfl rfl rfl ?_; refine At.Quiet.y (Y.ldFl hr3319 rfl (q := 0) rfl rfl h4350.1 h4350.2 rfl rfl rfl) rfl rfl rfl ?_; refine At.Quiet.run 1 rfl ?_; refine At.Quiet.y (Y.load rfl rfl .z rfl rfl rfl) rfl rfl rfl ?_; refine At.Quiet.run 1 rfl ?_; obtain ⟨h4351, j⟩ := bnone j; refine At.Quiet.y (Y.ixRd hr3328 rfl rfl rfl rfl rfl rfl rfl h4351.1 h4351.2) rfl rfl rfl ?_; refine At.Quiet.y (Y.ldFl hr3328 rfl (q := 0) rfl rfl h4351.1 h4351.2 rfl rfl rfl) rfl rfl rfl ?_; refine At.Quiet.run 1 rfl (At.Quiet.nil (At.thn ?_)); rcases bite j with ⟨h4352, j⟩ | ⟨h4352, j⟩
                         ··refine At.condF rfl (nf (decide_eq_true h4352)) ?_
                           refine At.skip ?_; refine At.ibn ?_; refine At.thn (At.region (At.run 3 rfl (At.nil ?_))); have j := bnx hf_ j; exact fun a w e hs => ⟨m4345, (IntKind.i64.wrap (x4137 + 1)), hlt4347, j, e.sub ⟨rfl, rfl, rfl, rfl, rfl, rfl, trivial⟩, hs⟩
                         ··refine At.condT rfl (nt (decide_eq_false h4352)) ?_
                           refine At.seq (At.region (At.run 1 rfl (At.nil (At.thn (At.ret ?_))))); refine At.ibr ?_; refine At.thr ?_; have j := bupL hr4340 ho4343 j; refine At.thr ?_; refine At.ibr ?_; refine At.ibr ?_; refine At.thr ?_; have j := bupL hr3302 ho3305 j; refine At.thr ?_; refine At.ibr ?_; refine At.thr (At.drop .z (At.drop .z (At.drop .z (At.drop .z ?_)))); cases bret j; exact At.res (.inl rfl) rfl rfl ⟨rfl, rfl⟩
                       ··refine At.condF rfl (decide_eq_false h4349) ?_
                         refine At.exit ?_; refine At.the ?_; refine At.the ?_; exact fun a w e hs => J4348 () (bdn j ho4343) a w (e.sub ⟨rfl, rfl, rfl, trivial⟩) hs
                 ··rcases bite j with ⟨h4353, j⟩ | ⟨h4353, j⟩
                   ··refine At.know (t := 101) rfl (nf h4353) ?_
                     refine At.run 1 rfl (At.y (Y.load rfl rfl (.s .z) rfl rfl rfl) rfl rfl rfl (At.run 2 rfl (At.y (Y.load rfl rfl .z rfl rfl rfl) rfl rfl rfl (At.run 3 rfl ?_)))); exact At.of (J3534 (!(decide (((gt a0_3 x3099).States.length : Int) = ((gt a1_3 x3099).States.length : Int)))) j) ⟨rfl, rfl, rfl, rfl, rfl, rfl, trivial⟩
                   ··refine At.know (t := 101) rfl (nt (bn h4353)) ?_
                     refine At.run 8 rfl ?_; exact At.of (J3534 true j) ⟨rfl, rfl, rfl, rfl, rfl, rfl, trivial⟩
               ··refine At.condF rfl (decide_eq_false h3311) ?_
                 refine At.exit ?_; refine At.the ?_; refine At.the ?_; exact fun a w e hs => J3310 () (bdn j ho3305) a w (e.sub trivial) hs
           ·clear hit2495 m2493; rintro m2493 x2286 hit2495; obtain ⟨m2494, f_, hlt2496, hf_, j⟩ := bit hit2495; clear hit2495; have j : (Q15.l1b a0_2 a1_2 x2286).bind _ = some o2490 := j; unfold Q15.l1b at j
            ·refine At.seq (At.seq (At.region (At.run 2 rfl (At.y (Y.load rfl rfl (.s .z) rfl rfl rfl) rfl rfl rfl (At.run 2 rfl (At.nil (At.thn ?_))))))); rcases bite j with ⟨h4354, j⟩ | ⟨h4354, j⟩
             ··refine At.condT rfl (decide_eq_true h4354) ?_
               refine At.skip (At.thn (At.seq ?_)); refine At.block ?_; refine At.seq ?_; refine At.quiet (by kernel_rfl) ?_; refine At.Quiet.run 1 rfl ?_; refine At.Quiet.y (Y.load rfl rfl (.s .z) rfl rfl rfl) rfl rfl rfl ?_; refine At.Quiet.run 1 rfl ?_; obtain ⟨h4355, j⟩ := bnone j; refine At.Quiet.y (Y.ixRd hr0_2 rfl rfl rfl rfl rfl rfl rfl h4355.1 h4355.2) rfl rfl rfl ?_; refine At.Quiet.y (Y.ldFl hr0_2 rfl (q := 0) rfl rfl h4355.1 h4355.2 rfl rfl rfl) rfl rfl rfl ?_; refine At.Quiet.run 1 rfl ?_; refine At.Quiet.y (Y.load rfl rfl .z rfl rfl rfl) rfl rfl rfl ?_; refine At.Quiet.run 1 rfl ?_; obtain ⟨h4356, j⟩ := bnone j; refine At.Quiet.y (Y.ixRd hr1_2 rfl rfl rfl rfl rfl rfl rfl h4356.1 h4356.2) rfl rfl rfl ?_; refine At.Quiet.y (Y.ldFl hr1_2 rfl (q := 0) rfl rfl h4356.1 h4356.2 rfl rfl rfl) rfl rfl rfl ?_; refine At.Quiet.y (Y.neSt (xs := [.int .i64 ((gt a0_2 x2286).From), .int .i64 ((gt a0_2 x2286).Action), .int .i64 ((gt a0_2 x2286).To)]) (ys := [.int .i64 ((gt a1_2 x2286).From), .int .i64 ((gt a1_2 x2286).Action), .int .i64 ((gt a1_2 x2286).To)]) rfl rfl rfl rfl (by kernel_rfl) (by kernel_rfl) (by kernel_rfl) rfl) rfl rfl rfl ?_; refine At.Quiet.nil (At.thn ?_); rcases bite j with ⟨h4357, j⟩ | ⟨h4357, j⟩
               ··refine At.condF rfl (nf h4357) ?_
                 refine At.skip ?_; refine At.ibn ?_; refine At.thn (At.region (At.run 3 rfl (At.nil ?_))); have j := bnx hf_ j; exact fun a w e hs => ⟨m2494, (IntKind.i64.wrap (x2286 + 1)), hlt2496, j, e.sub ⟨rfl, rfl, rfl, trivial⟩, hs⟩
               ··refine At.condT rfl (nt (bn h4357)) ?_
                 refine At.seq (At.region (At.run 1 rfl (At.nil (At.thn (At.ret ?_))))); refine At.ibr ?_; refine At.thr ?_; have j := bupL hr2489 ho2492 j; refine At.thr ?_; refine At.ibr ?_; refine At.thr (At.drop .z (At.drop .z ?_)); cases bret j; exact At.res (.inl rfl) rfl rfl ⟨rfl, rfl⟩
             ··refine At.condF rfl (decide_eq_false h4354) ?_
               refine At.exit ?_; refine At.the ?_; refine At.the ?_; exact fun a w e hs => J2497 () (bdn j ho2492) a w (e.sub ⟨rfl, rfl, trivial⟩) hs
         ·clear hit1682 m1680; rintro m1680 x1473 hit1682; obtain ⟨m1681, f_, hlt1683, hf_, j⟩ := bit hit1682; clear hit1682; have j : (Q15.l0b a0_1 a1_1 x1473).bind _ = some o1677 := j; unfold Q15.l0b at j
          ·refine At.seq (At.seq (At.region (At.run 2 rfl (At.y (Y.load rfl rfl (.s .z) rfl rfl rfl) rfl rfl rfl (At.run 2 rfl (At.nil (At.thn ?_))))))); rcases bite j with ⟨h4358, j⟩ | ⟨h4358, j⟩
           ··refine At.condT rfl (decide_eq_true h4358) ?_
             refine At.skip (At.thn (At.seq ?_)); refine At.block ?_; refine At.seq ?_; refine At.quiet (by kernel_rfl) ?_; refine At.Quiet.run 1 rfl ?_; refine At.Quiet.y (Y.load rfl rfl (.s .z) rfl rfl rfl) rfl rfl rfl ?_; refine At.Quiet.run 1 rfl ?_; obtain ⟨h4359, j⟩ := bnone j; refine At.Quiet.y (Y.ixRd hr0_1 rfl rfl rfl rfl rfl rfl rfl h4359.1 h4359.2) rfl rfl rfl ?_; refine At.Quiet.y (Y.ldFl hr0_1 rfl (q := 0) rfl rfl h4359.1 h4359.2 rfl rfl rfl) rfl rfl rfl ?_; refine At.Quiet.run 1 rfl ?_; refine At.Quiet.y (Y.load rfl rfl .z rfl rfl rfl) rfl rfl rfl ?_; refine At.Quiet.run 1 rfl ?_; obtain ⟨h4360, j⟩ := bnone j; refine At.Quiet.y (Y.ixRd hr1_1 rfl rfl rfl rfl rfl rfl rfl h4360.1 h4360.2) rfl rfl rfl ?_; refine At.Quiet.y (Y.ldFl hr1_1 rfl (q := 0) rfl rfl h4360.1 h4360.2 rfl rfl rfl) rfl rfl rfl ?_; refine At.Quiet.run 1 rfl (At.Quiet.nil (At.thn ?_)); rcases bite j with ⟨h4361, j⟩ | ⟨h4361, j⟩
             ··refine At.condF rfl (nf h4361) ?_
               refine At.skip ?_; refine At.ibn ?_; refine At.thn (At.region (At.run 3 rfl (At.nil ?_))); have j := bnx hf_ j; exact fun a w e hs => ⟨m1681, (IntKind.i64.wrap (x1473 + 1)), hlt1683, j, e.sub ⟨rfl, rfl, rfl, trivial⟩, hs⟩
             ··refine At.condT rfl (nt (bn h4361)) ?_
               refine At.seq (At.region (At.run 1 rfl (At.nil (At.thn (At.ret ?_))))); refine At.ibr ?_; refine At.thr ?_; have j := bupL hr1676 ho1679 j; refine At.thr ?_; refine At.ibr ?_; refine At.thr (At.drop .z (At.drop .z ?_)); cases bret j; exact At.res (.inl rfl) rfl rfl ⟨rfl, rfl⟩
           ··refine At.condF rfl (decide_eq_false h4358) ?_
             refine At.exit ?_; refine At.the ?_; refine At.the ?_; exact fun a w e hs => J1684 () (bdn j ho1679) a w (e.sub ⟨rfl, rfl, trivial⟩) hs
     ··rcases bite j with ⟨h4362, j⟩ | ⟨h4362, j⟩
       ··refine At.know (t := 34) rfl h4362 ?_
         refine At.run 8 rfl ?_; exact At.of (J870 true j) ⟨rfl, rfl, rfl, trivial⟩
       ··refine At.know (t := 34) rfl (bn h4362) ?_
         refine At.run 1 rfl (At.y (Y.load rfl rfl (.s .z) rfl rfl rfl) rfl rfl rfl (At.run 2 rfl (At.y (Y.load rfl rfl .z rfl rfl rfl) rfl rfl rfl (At.run 3 rfl ?_)))); exact At.of (J870 (!(decide ((a0_3.length : Int) = (a1_3.length : Int)))) j) ⟨rfl, rfl, rfl, trivial⟩
   ··rcases bite j with ⟨h4363, j⟩ | ⟨h4363, j⟩
     ··refine At.know (t := 25) rfl h4363 ?_
       refine At.run 8 rfl ?_; exact At.of (J665 true j) ⟨rfl, rfl, rfl, trivial⟩
     ··refine At.know (t := 25) rfl (bn h4363) ?_
       refine At.run 1 rfl (At.y (Y.load rfl rfl (.s .z) rfl rfl rfl) rfl rfl rfl (At.run 2 rfl (At.y (Y.load rfl rfl .z rfl rfl rfl) rfl rfl rfl (At.run 3 rfl ?_)))); exact At.of (J665 (!(decide ((a0_2.length : Int) = (a1_2.length : Int)))) j) ⟨rfl, rfl, rfl, trivial⟩
 ··rcases bite j with ⟨h4364, j⟩ | ⟨h4364, j⟩
   ··refine At.know (t := 16) rfl (nf (decide_eq_true h4364)) ?_
     refine At.run 1 rfl (At.y (Y.load rfl rfl (.s .z) rfl rfl rfl) rfl rfl rfl (At.run 2 rfl (At.y (Y.load rfl rfl .z rfl rfl rfl) rfl rfl rfl (At.run 3 rfl ?_)))); exact At.of (J460 (!(decide ((a0_1.length : Int) = (a1_1.length : Int)))) j) ⟨rfl, rfl, rfl, trivial⟩
   ··refine At.know (t := 16) rfl (nt (decide_eq_false h4364)) ?_
     refine At.run 8 rfl ?_; exact At.of (J460 true j) ⟨rfl, rfl, rfl, trivial⟩

end Go.Bw
namespace Go.Bw
open Go Go.RowKit

theorem TypeOk.map {P : Program} {t : Nat} {i : TI} (h : TypeOk P t i) {k e : Nat} (hk : i.k = .map k e) : P.underlying t = some (.map k e) := by
 obtain ⟨d, hd, hk'⟩ := h.under; rw [hk] at hk'; cases d <;> simp [tk] at hk'; rw [hk'.1, hk'.2] at hd; exact hd
def Fl.ov {α : Type} (F : Fl α) (x : α) : Value := (F.enc x).headD .nilFunc
def Fl.av {α : Type} (F : Fl α) (x : α) : Value := .agg (F.enc x).toArray
section
variable {κ ν : Type}
def mget [DecidableEq κ] : List (κ × ν) → κ → Option ν
 | [], _ => none
 | p :: r, k => if p.1 = k then some p.2 else mget r k
def mset [DecidableEq κ] : List (κ × ν) → κ → ν → List (κ × ν)
 | [], k, v => [(k, v)]
 | p :: r, k, v => if p.1 = k then (k, v) :: r else p :: mset r k v
structure KeyOk (P : Program) (t : Nat) (kv : κ → Value) [DecidableEq κ] : Prop where
 chk : ∀ k w em, (Instr.checkKey em 10000 t (kv k)).run P w = .ok () w
 find : ∀ (es : List MapEntry) (ks : List κ) k w, es.map (·.key) = ks.map kv → (Instr.findKey t (kv k) es).run P w = .ok ((ks.findIdx? (fun a => decide (a = k))).bind fun i => es[i]?.map fun e => (i, e.val)) w
 same : ∀ k, Instr.sameBits 10000 (kv k) (kv k) = true
def mapo (kv : κ → Value) (vv : ν → Value) (b : Nat) (kvs : List (κ × ν)) : HProp := fun h =>
 ∃ (es : List MapEntry) (clock : Nat), h b = some (.map es.toArray clock) ∧ es.map (fun e => (e.key, e.val)) = kvs.map (fun p => (kv p.1, vv p.2)) ∧ es.Pairwise (fun x y => x.born < y.born) ∧ ∀ e ∈ es, e.born < clock
theorem Q226 (s : Bs) : ∀ (es : List MapEntry) (ks : List Bs) (i : Nat), es.map (·.key) = ks.map (fun x => Value.string ⟨x.toArray⟩) →
 Instr.findNow .string (.string ⟨s.toArray⟩) es i = some ((ks.findIdx? (fun a => decide (a = s))).bind fun j => es[j]?.map fun e => (i + j, e.val))
 | [], [], _, _ => rfl
 | [], _ :: _, _, h => by simp at h
 | _ :: _, [], _, h => by simp at h
 | e :: es, k :: ks, i, h => by
  simp only [List.map_cons, List.cons.injEq] at h
  unfold Instr.findNow
  have hb : ((ByteArray.mk s.toArray) == (ByteArray.mk k.toArray)) = decide (k = s) := by
   rw [Q135]
   by_cases hks : k = s
   ·subst hks; rw [decide_eq_true rfl]; exact Q93.2 rfl
   ·rw [decide_eq_false hks]
    exact Bool.eq_false_iff.2 fun hc => hks (Q93.1 hc).symm
  rw [h.1]
  simp only [Instr.sameNow, hb]
  rw [List.findIdx?_cons]
  by_cases hks : k = s
  ·rw [decide_eq_true hks]
   simp
  ·rw [decide_eq_false hks]
   simp only [Bool.false_eq_true, if_false]
   rw [Q226 s es ks (i + 1) h.2]
   cases hf : ks.findIdx? (fun a => decide (a = s)) with
   | none => rfl
   | some j =>
    simp
    congr 1
    funext e
    congr 1
    omega
theorem KeyOk.str {P : Program} [Tys P] {t : Nat} {i : TI} (hi : ti P t = some i) (hk : i.k = .string) : KeyOk P t Fl.bs.ov := by
 have hu := (Q10 hi).string hk
 refine ⟨fun k w em => ?_, fun es ks k w h => ?_, fun k => ?_⟩
 ·exact MapKept.run_checkKey (k := .string ⟨k.toArray⟩) hu (by simp [MapKept.IsKey]) em 9999
 ·have := Q226 k es ks 0 h
  simp only [Nat.zero_add] at this
  exact MapKept.run_findKey (k := .string ⟨k.toArray⟩) hu this
 ·show Instr.sameBits (9999 + 1) (.string ⟨k.toArray⟩) (.string ⟨k.toArray⟩) = true
  simp only [Instr.sameBits]
  rw [Q135]
  exact Q93.2 rfl
theorem Q189 [DecidableEq κ] {kv : κ → Value} {vv : ν → Value} : ∀ {es : List MapEntry} {kvs : List (κ × ν)} {k : κ}, es.map (fun e => (e.key, e.val)) = kvs.map (fun p => (kv p.1, vv p.2)) →
 (((kvs.map (·.1)).findIdx? (fun a => decide (a = k))).bind fun i => es[i]?.map fun e => (i, e.val)).map (·.2) = (mget kvs k).map vv
 | [], [], _, _ => rfl
 | [], _ :: _, _, h => by simp at h
 | _ :: _, [], _, h => by simp at h
 | e :: es, p :: kvs, k, h => by
  simp only [List.map_cons, List.cons.injEq, Prod.mk.injEq] at h
  rw [List.map_cons, List.findIdx?_cons]
  unfold mget
  by_cases hk : p.1 = k
  ·rw [if_pos hk, decide_eq_true hk]
   simp [h.1.2]
  ·rw [if_neg hk, decide_eq_false hk]
   simp only [Bool.false_eq_true, if_false]
   rw [← Q189 (k := k) h.2]
   cases (kvs.map (·.1)).findIdx? (fun a => decide (a = k)) with
   | none => rfl
   | some j => simp; rfl
theorem Q179 {kv : κ → Value} {vv : ν → Value} {es : List MapEntry} {kvs : List (κ × ν)} (h : es.map (fun e => (e.key, e.val)) = kvs.map (fun p => (kv p.1, vv p.2))) : es.map (·.key) = (kvs.map (·.1)).map kv := by
 have := congrArg (List.map (·.1)) h
 simpa [List.map_map, Function.comp_def] using this
end
section
variable {P : Program} [Tys P] {os : List Oper} {Q : Exit → Act → World → Prop} {rest : List Oper} {n : Nat} {ds : List Deferred} {R : Res} {env : List (Nat × Value)} {l l' : List HProp}
variable {d ty : Nat} {pos : String} {af : Array Edge} {g : Option (Nat × Bool)} {κ ν : Type} [DecidableEq κ] {kv : κ → Value} {vv : ν → Value} {kvs : List (κ × ν)} {b t kt et : Nat} {K : Act → World → Prop} {dd : Option Nat}
theorem Q143 {w : World} (hs : sat R (mapo kv vv b kvs :: l) w) : ∃ (es : List MapEntry) (clock : Nat), w.heap[b]? = some (.map es.toArray clock) ∧ es.map (fun e => (e.key, e.val)) = kvs.map (fun p => (kv p.1, vv p.2)) ∧ es.Pairwise (fun x y => x.born < y.born) ∧ ∀ e ∈ es, e.born < clock := by
 obtain ⟨h1, ⟨es, clock, a, r⟩, s⟩ := hs.head
 exact ⟨es, clock, s _ _ a, r⟩
theorem At.makeMap (kv : κ → Value) (vv : ν → Value) (hg : grd os env g = some true) (hd : Nat.blt d n = true)
 (h : ∀ b, At n ds R ((d, .map (some b)) :: env) (mapo kv vv b [] :: l) (wpList P os.toArray Q rest)) :
 At n ds R env l (wpList P os.toArray Q (⟨some d, .makeMap t none, ty, pos, af, g⟩ :: rest)) := Q91 hg rfl hd fun a w e hs => by
 refine ⟨_, _, _, ?_, (hs.alloc (.map #[] 0)).imp fun h p => ⟨[], 0, p, rfl, List.Pairwise.nil, fun e he => by cases he⟩, h _⟩
 simp [execOp, Instr.makeMap]
theorem Q250 {w : World} {ii : TI} {z : ν} (hi : ti P t = some ii) (hk : ii.k = .map kt et) (ko : KeyOk P kt kv) (hz : ((P.info? et).bind fun x => x.zero) = some (vv z)) (hs : sat R (mapo kv vv b kvs :: l) w) (k : κ) (ok : Bool) :
 (Instr.lookup t (.map (some b)) (kv k) ok).run P w = .ok (if ok then .tuple #[vv ((mget kvs k).getD z), .bool (mget kvs k).isSome] else vv ((mget kvs k).getD z)) w := by
 obtain ⟨es, clock, hb, hm, _⟩ := Q143 hs
 have hu := (Q10 hi).map hk
 have hf := ko.find es (kvs.map (·.1)) k w (Q179 hm)
 have hg := Q189 (k := k) hm
 have hgo : (getObj b).run P w = .ok (.map es.toArray clock) w := MapKept.run_getObj_map hb
 simp only [Instr.lookup, Sem.run_bind, run_underlying hu, Result.andThen, hgo, Sem.run_pure, ko.chk, hf]
 cases hr : ((kvs.map (·.1)).findIdx? (fun a => decide (a = k))).bind fun i => es[i]?.map fun e => (i, e.val) with
 | none =>
  rw [hr] at hg
  have hgn : mget kvs k = none := by cases hq : mget kvs k with | none => rfl | some v => rw [hq] at hg; cases hg
  obtain ⟨x, hx, hx2⟩ := Option.bind_eq_some_iff.1 hz
  rw [hgn]
  cases ok <;> simp [zeroValue, typeInfo, hx, hx2]
 | some p =>
  obtain ⟨i, v⟩ := p
  rw [hr] at hg
  cases hq : mget kvs k with
  | none => rw [hq] at hg; cases hg
  | some v' =>
   rw [hq] at hg
   have hv : v = vv v' := by simpa using hg
   subst hv
   cases ok <;> simp
theorem Y.lookup {x y : Operand} {k : κ} {v : Value} {ii : TI} {z : ν} (f : Frt l (mapo kv vv b kvs) l') (hi : ti P t = some ii) (hk : ii.k = .map kt et) (ko : KeyOk P kt kv) (hz : ((P.info? et).bind fun x => x.zero) = some (vv z))
 (hx : ev env x = some (.map (some b))) (hy : ev env y = some v) (hv : v = kv k) :
 Y P n ds R env l ⟨dd, .lookup t x y false, ty, pos, af, g⟩ (vv ((mget kvs k).getD z)) := fun a w e hs => by
 subst hv
 have := Q250 hi hk ko hz (hs.frt f) k false
 simp only [execOp, e.ev hx, e.ev hy, Sem.run_bind, this, Result.andThen, Sem.run_pure]
 rfl
theorem Q153 {es : List MapEntry} (h : es.map (fun e => (e.key, e.val)) = kvs.map (fun p => (kv p.1, vv p.2))) : es.length = kvs.length := by
 have := congrArg List.length h
 simpa using this
theorem Y.lenMap {x : Operand} {ii : TI} (f : Frt l (mapo kv vv b kvs) l') (hi : ti P t = some ii) (hk : ii.k = .map kt et) (hx : ev env x = some (.map (some b))) :
 Y P n ds R env l ⟨dd, .call ⟨.builtin .len, #[x], #[t]⟩, ty, pos, af, g⟩ (.int .i64 (kvs.length : Int)) := fun a w e hs => by
 obtain ⟨es, clock, hb, hm, _⟩ := Q143 (hs.frt f)
 have hu := (Q10 hi).map hk
 have hgo : (getObj b).run P w = .ok (.map es.toArray clock) w := MapKept.run_getObj_map hb
 simp [execOp, resolve, invoke, builtin, Builtin.len_, e.ev hx, run_underlying hu, hgo, Result.andThen, goInt, Q153 hm]
theorem set_mset {es : List MapEntry} {kvs : List (κ × ν)} {k : κ} {v : ν} (h : es.map (fun e => (e.key, e.val)) = kvs.map (fun p => (kv p.1, vv p.2))) :
 (match ((kvs.map (·.1)).findIdx? (fun a => decide (a = k))).bind fun i => es[i]?.map fun e => (i, e.val) with
  | some (i, _) => (es.modify i fun e => { e with key := kv k, val := vv v }).map (fun e => (e.key, e.val))
  | none => es.map (fun e => (e.key, e.val)) ++ [(kv k, vv v)]) = (mset kvs k v).map (fun p => (kv p.1, vv p.2)) := by
 induction kvs generalizing es with
 | nil =>
  cases es with
  | nil => rfl
  | cons e es => simp at h
 | cons p kvs ih =>
  cases es with
  | nil => simp at h
  | cons e es =>
   simp only [List.map_cons, List.cons.injEq, Prod.mk.injEq] at h
   rw [List.map_cons, List.findIdx?_cons]
   unfold mset
   by_cases hk : p.1 = k
   ·rw [if_pos hk, decide_eq_true hk]
    simp [h.2]
   ·rw [if_neg hk, decide_eq_false hk]
    simp only [Bool.false_eq_true, if_false]
    have := ih h.2
    cases hf : (kvs.map (·.1)).findIdx? (fun a => decide (a = k)) with
    | none =>
     rw [hf] at this
     simp at this ⊢
     exact ⟨h.1, this⟩
    | some j =>
     rw [hf] at this
     simp at this ⊢
     have hj : j < es.length := by
      have := (List.findIdx?_eq_some_iff_getElem.1 hf).1
      simp at this
      have h3 := Q153 h.2
      omega
     rw [List.getElem?_eq_getElem hj] at this ⊢
     simp at this ⊢
     exact ⟨h.1, this⟩
theorem Q213 {es : List MapEntry} {i : Nat} {f : MapEntry → MapEntry} (hf : ∀ e, (f e).born = e.born) : (es.modify i f).map (·.born) = es.map (·.born) := by
 apply List.ext_getElem?
 intro j
 rw [List.getElem?_map, List.getElem?_map, List.getElem?_modify]
 cases es[j]? with
 | none => rfl
 | some e => by_cases h : i = j <;> simp [h, hf]
theorem At.mapUpdate {x y z : Operand} {k : κ} {v : ν} {u u' : Value} {ii : TI} (hg : grd os env g = some true) (f : Frt l (mapo kv vv b kvs) l') (hi : ti P t = some ii) (hk : ii.k = .map kt et) (ko : KeyOk P kt kv)
 (hx : ev env x = some (.map (some b))) (hy : ev env y = some u) (hu : u = kv k) (hz : ev env z = some u') (hu' : u' = vv v)
 (h : At n ds R env (mapo kv vv b (mset kvs k v) :: l') (wpList P os.toArray Q rest)) :
 At n ds R env l (wpList P os.toArray Q (⟨none, .mapUpdate t x y z, ty, pos, af, g⟩ :: rest)) := op_sk hg rfl fun a w e hs => by
 subst hu hu'
 have hs1 := hs.frt f
 obtain ⟨es, clock, hb, hm, hbn, hcl⟩ := Q143 hs1
 have hun := (Q10 hi).map hk
 have hf := ko.find es (kvs.map (·.1)) k w (Q179 hm)
 have hset := set_mset (k := k) (v := v) hm
 have hgo : (getObj b).run P w = .ok (.map es.toArray clock) w := MapKept.run_getObj_map hb
 have hso : ∀ o, (setObj b o).run P w = .ok () { w with heap := w.heap.setIfInBounds b o } := fun o => MapKept.run_setObj_map o hb
 have hlt : b < w.heap.size := (Array.getElem?_eq_some_iff.1 hb).1
 have fin : ∀ (es' : List MapEntry) (clock' : Nat), es'.map (fun e => (e.key, e.val)) = (mset kvs k v).map (fun p => (kv p.1, vv p.2)) → es'.Pairwise (fun x y => x.born < y.born) → (∀ e ∈ es', e.born < clock') →
  sat R (mapo kv vv b (mset kvs k v) :: l') { w with heap := w.heap.setIfInBounds b (.map es'.toArray clock') } := fun es' clock' h1 h2 h3 => by
  obtain ⟨hh, ⟨_, _, hp, _⟩, s, kk⟩ := hs1.upd
  refine kk _ (single b (.map es'.toArray clock')) _ ⟨es', clock', Q188 _ _, h1, h2, h3⟩ rfl rfl rfl (Nat.le_refl _) (fun x o hx hn => ?_) (fun x o hx => ?_) (fun x o hx => ?_)
  ·have hne : b ≠ x := fun hxb => by subst hxb; rw [hp] at hn; cases hn
   show (w.heap.setIfInBounds b _)[x]? = _
   rw [Array.getElem?_setIfInBounds_ne hne]; exact hx
  ·obtain ⟨rfl, rfl⟩ := Q106 hx
   show (w.heap.setIfInBounds x _)[x]? = _
   simp [hlt]
  ·obtain ⟨rfl, rfl⟩ := Q106 hx; exact .inl ⟨_, hp⟩
 cases hr : ((kvs.map (·.1)).findIdx? (fun a => decide (a = k))).bind fun i => es[i]?.map fun e => (i, e.val) with
 | none =>
  rw [hr] at hset hf
  refine ⟨_, _, ?_, fin (es ++ [{ key := kv k, val := vv v, born := clock }]) (clock + 1) (by simpa using hset) ?_ ?_, h⟩
  ·simp [execOp, e.ev hx, e.ev hy, e.ev hz, Instr.mapUpdate, run_underlying hun, Result.andThen, hgo, ko.chk, hf, hso]
  ·rw [List.pairwise_append]
   exact ⟨hbn, by simp, fun x hx y hy => by simp at hy; subst hy; exact hcl x hx⟩
  ·intro e he
   rcases List.mem_append.1 he with he | he
   ·have := hcl e he; omega
   ·simp at he; subst he; exact Nat.lt_succ_self _
 | some p =>
  obtain ⟨i, v0⟩ := p
  rw [hr] at hset hf
  obtain ⟨j, hj, hj2⟩ := Option.bind_eq_some_iff.1 hr
  obtain ⟨e1, he1, he2⟩ := Option.map_eq_some_iff.1 hj2
  simp only [Prod.mk.injEq] at he2
  obtain ⟨rfl, rfl⟩ := he2
  have hkey : e1.key = kv k := by
   have hq := congrArg (fun l => l[j]?) (Q179 hm)
   simp only [List.getElem?_map, he1, Option.map_some] at hq
   obtain ⟨hl, hd, _⟩ := List.findIdx?_eq_some_iff_getElem.1 hj
   rw [← List.getElem?_map, List.getElem?_eq_getElem hl] at hq
   have hd' := of_decide_eq_true hd
   rw [hd'] at hq
   simpa using hq
  have hst : (Instr.keyThatStays (kv k) (kv k)).run P w = .ok (kv k) w := by simp [Instr.keyThatStays, ko.same]
  refine ⟨_, _, ?_, fin (es.modify j fun e => { e with key := kv k, val := vv v }) clock hset ?_ ?_, h⟩
  ·simp only [execOp, e.ev hx, e.ev hy, e.ev hz, Instr.mapUpdate, Sem.run_bind, run_underlying hun, Result.andThen, hgo, ko.chk, hf, List.getElem?_toArray, he1, Option.map_some, hkey, Option.getD_some, hst, hso, Sem.run_pure]
   simp
  ·have := Q213 (es := es) (i := j) (f := fun e => { e with key := kv k, val := vv v }) (fun _ => rfl)
   refine (List.pairwise_map (f := fun e : MapEntry => e.born) (R := fun x y : Nat => x < y)).1 ?_
   rw [this]
   exact List.pairwise_map.2 hbn
  ·intro e he
   have hmem : e.born ∈ (es.modify j fun e => { e with key := kv k, val := vv v }).map (·.born) := List.mem_map_of_mem he
   rw [Q213 (es := es) (i := j) (f := fun e => { e with key := kv k, val := vv v }) (fun _ => rfl)] at hmem
   obtain ⟨e', he', hb'⟩ := List.mem_map.1 hmem
   rw [← hb']
   exact hcl e' he'
theorem mapo_up {h h' : PHeap} (o : mapo kv vv b kvs h) (s : Sub h h') : mapo kv vv b kvs h' := let ⟨es, c, a, r⟩ := o; ⟨es, c, s _ _ a, r⟩
def Ow.mp (kv : κ → Value) (vv : ν → Value) : Ow (List (κ × ν)) := ⟨1, fun kvs cs h => ∃ b, cs = [.map (some b)] ∧ mapo kv vv b kvs h, fun ⟨_, h, _⟩ => by rw [h]; rfl, fun ⟨_, h, _⟩ u hu => by rw [h] at hu; simp at hu; subst hu; rfl, by decide,
 ⟨1, fun H kvs cs => ∃ b, cs = [.map (some b)] ∧ mapo kv vv b kvs H, fun ⟨_, h, _⟩ => by rw [h]; rfl, fun s ⟨b, h, o⟩ => ⟨b, h, let ⟨es, c, a, r⟩ := o; ⟨es, c, s _ _ a, r⟩⟩, by decide⟩, rfl, fun ⟨b, h, o⟩ s => ⟨b, h, let ⟨es, c, a, r⟩ := o; ⟨es, c, s _ _ a, r⟩⟩⟩
theorem Ent.mp : Ent [mapo kv vv b kvs] ((Ow.mp kv vv).own kvs [.map (some b)]) := fun h ⟨h1, _, a, _, _, s, _⟩ => ⟨b, rfl, mapo_up a s⟩
theorem At.ownMp {cs : List Value} (f : Frt l ((Ow.mp kv vv).own kvs cs) l') (h : ∀ b, cs = [.map (some b)] → At n ds R env (mapo kv vv b kvs :: l') K) : At n ds R env l K := fun a w e0 hs => by
 obtain ⟨ok, k, ⟨h1, h2, ⟨b, e1, r⟩, s⟩, dR⟩ := hs.frt f
 exact h b e1 a w e0 ⟨ok, k, ⟨h1, h2, r, s⟩, dR⟩
end
end Go.Bw
namespace Go.Bw
open Go Go.RowKit

theorem Q229 (s : Bs) : ((ByteArray.mk s.toArray) == (ByteArray.mk s.toArray)) = true := by rw [Q135]; exact Q93.2 rfl
section
variable {P : Program} [Tys P] {κ : Type} [DecidableEq κ] {w : World} {t : Nat}
theorem Q152 {xs : List Value} (em : Bool) : ∀ {fl : List Field} {fs : List (Nat × Nat)} {r : Bool}, fl.map (fun f => (f.type, f.offset)) = fs → eqcs P fs xs xs = some r →
 (do for f in fl do if f.name ≠ "_" then Instr.checkKey em 9999 f.type (← part f.type xs.toArray f.offset) : Sem Unit).run P w = .ok () w
 | [], _, r, rfl, h => by simp
 | f :: fl, _, r, rfl, h => by
  simp only [List.map_cons, eqcs] at h
  split at h
  ·rename_i j hj
   split at h
   ·rename_i hk hx hy
    split at h
    ·obtain ⟨q, hq, rfl⟩ := Option.map_eq_some_iff.1 h
     have hu := (Q10 hj).int hk
     have ih := Q152 em (fl := fl) rfl hq
     have hc : ∀ k a, (Instr.checkKey em 9999 f.type (.int k a)).run P w = .ok () w := fun k a => by
      show (Instr.checkKey em (9998 + 1) f.type _).run P w = _
      rw [Instr.checkKey]
      simp [run_underlying hu, Result.andThen]
     by_cases hn : f.name = "_"
     ·simpa [hn, Result.andThen] using ih
     ·simpa [hn, Q96 hx, hc, Result.andThen] using ih
    ·cases h
   ·rename_i hk hx hy
    obtain ⟨q, hq, rfl⟩ := Option.map_eq_some_iff.1 h
    have hu := (Q10 hj).bool hk
    have ih := Q152 em (fl := fl) rfl hq
    have hc : ∀ a, (Instr.checkKey em 9999 f.type (.bool a)).run P w = .ok () w := fun a => by
     show (Instr.checkKey em (9998 + 1) f.type _).run P w = _
     rw [Instr.checkKey]
     simp [run_underlying hu, Result.andThen]
    by_cases hn : f.name = "_"
    ·simpa [hn, Result.andThen] using ih
    ·simpa [hn, Q96 hx, hc, Result.andThen] using ih
   ·rename_i hk hx hy
    obtain ⟨q, hq, rfl⟩ := Option.map_eq_some_iff.1 h
    have hu := (Q10 hj).string hk
    have ih := Q152 em (fl := fl) rfl hq
    have hc : ∀ a, (Instr.checkKey em 9999 f.type (.string a)).run P w = .ok () w := fun a => by
     show (Instr.checkKey em (9998 + 1) f.type _).run P w = _
     rw [Instr.checkKey]
     simp [run_underlying hu, Result.andThen]
    by_cases hn : f.name = "_"
    ·simpa [hn, Result.andThen] using ih
    ·simpa [hn, Q96 hx, hc, Result.andThen] using ih
   ·cases h
  ·cases h
theorem Q211 {kv : κ → Value} (k : κ) (he : ∀ a, (Op.equal t (kv k) (kv a)).run P w = .ok (decide (a = k)) w) : ∀ (es : List MapEntry) (ks : List κ) (i : Nat), es.map (·.key) = ks.map kv →
 (Instr.findAsking t (kv k) es i).run P w = .ok ((ks.findIdx? (fun a => decide (a = k))).bind fun j => es[j]?.map fun e => (i + j, e.val)) w
 | [], [], i, _ => by simp [Instr.findAsking]
 | [], _ :: _, _, h => by simp at h
 | _ :: _, [], _, h => by simp at h
 | e :: es, a :: ks, i, h => by
  simp only [List.map_cons, List.cons.injEq] at h
  rw [Instr.findAsking, h.1]
  simp only [Sem.run_bind, he, Result.andThen]
  rw [List.findIdx?_cons]
  by_cases hk : a = k
  ·simp [hk]
  ·simp only [hk, decide_false, Bool.false_eq_true, if_false]
   rw [Q211 k he es ks (i + 1) h.2]
   cases hf : ks.findIdx? (fun a => decide (a = k)) with
   | none => rfl
   | some j =>
    simp
    congr 1
    funext e
    congr 1
    omega
theorem Q241 {kv : κ → Value} {fl : Array Field} (hu : P.underlying t = some (.struct fl)) (k : κ) (he : ∀ a, (Op.equal t (kv k) (kv a)).run P w = .ok (decide (a = k)) w) (es : List MapEntry) (ks : List κ) (h : es.map (·.key) = ks.map kv) :
 (Instr.findKey t (kv k) es).run P w = .ok ((ks.findIdx? (fun a => decide (a = k))).bind fun j => es[j]?.map fun e => (j, e.val)) w := by
 unfold Instr.findKey
 simp only [Sem.run_bind, run_underlying hu, Result.andThen]
 cases es with
 | nil =>
  cases ks with
  | nil => simp [Instr.findNow]
  | cons a ks => simp at h
 | cons e es =>
  have : Instr.findNow (.struct fl) (kv k) (e :: es) 0 = none := by simp [Instr.findNow, Instr.sameNow]
  rw [this]
  have := Q211 (P := P) (w := w) (t := t) k he (e :: es) ks 0 h
  simpa using this
theorem KeyOk.st {F : Fl κ} {fs : List (Nat × Nat)} {ii : TI} (hi : ti P t = some ii) (hk : ii.k = .struct fs) (hn : named P t = true) (hp : P.stoodInHeld t = false)
 (he : ∀ x y : κ, eqcs P fs (F.enc x) (F.enc y) = some (decide (x = y))) (hs : ∀ x : κ, ((F.enc x).zip (F.enc x)).all (fun p => Instr.sameBits 9999 p.1 p.2) = true) : KeyOk P t F.av := by
 obtain ⟨fl, hu, hm⟩ := (Q10 hi).struct hk
 refine ⟨fun k w em => ?_, fun es ks k w h => ?_, fun k => ?_⟩
 ·show (Instr.checkKey em (9999 + 1) t (.agg (F.enc k).toArray)).run P w = _
  rw [Instr.checkKey]
  have := Q152 (P := P) (w := w) em hm (he k k)
  simp only [Sem.run_bind, run_underlying hu, Result.andThen]
  rw [← Array.forIn_toList]
  simp [Result.andThen] at this ⊢
  rw [this]
 ·refine Q241 hu k (fun a => ?_) es ks h
  rw [show decide (a = k) = decide (k = a) from decide_eq_decide.2 eq_comm]
  exact Q163 hi hk hn hp (he k a)
 ·show Instr.sameBits (9999 + 1) (.agg (F.enc k).toArray) (.agg (F.enc k).toArray) = true
  simp only [Instr.sameBits]
  simpa using hs k
end
end Go.Bw
namespace Go.Bw
open Go Go.RowKit Go.Proofs
structure Q5 where
 c0 : Int
 c1 : Int
 c2 : Int
 c3 : Int
deriving Inhabited, DecidableEq
def Q5.fl : Fl Q5 := ⟨4, fun x => [.int .u64 x.c0, .int .u64 x.c1, .int .u64 x.c2, .int .u64 x.c3], fun _ => rfl, fun x u hu => by simp at hu; rcases hu with rfl | rfl | rfl | rfl <;> rfl, by decide⟩
structure Q7 where
 from_ : Int
 action : Bs
deriving Inhabited, DecidableEq
def Q7.fl : Fl Q7 := ⟨2, fun x => [.int .i64 x.from_, .string ⟨(x.action).toArray⟩], fun _ => rfl, fun x u hu => by simp at hu; rcases hu with rfl | rfl <;> rfl, by decide⟩
structure Q46 where
 states : Int
 holds : List (Bs × Q5)
 next : List (Q7 × Q5)
deriving Inhabited
def Q46.ow : Ow Q46 := ((Ow.fl (Fl.int .i64)).pair ((Ow.mp Fl.bs.ov Q5.fl.av).pair (Ow.mp Q7.fl.av Q5.fl.av))).iso (fun x => (x.states, x.holds, x.next))
theorem Q46.ent {x0 : Int} {b1 : Nat} {x1 : List (Bs × Q5)} {b2 : Nat} {x2 : List (Q7 × Q5)} : Ent [mapo Fl.bs.ov Q5.fl.av b1 x1, mapo Q7.fl.av Q5.fl.av b2 x2] (Q46.ow.own ⟨x0, x1, x2⟩ [.int .i64 x0, .map (some b1), .map (some b2)]) := (Ent.pair (c1 := [.int .i64 x0]) (c2 := [.map (some b1), .map (some b2)]) (Ent.fl (Fl.int .i64) rfl) (Ent.pair (c1 := [.map (some b1)]) (c2 := [.map (some b2)]) Ent.mp Ent.mp))
theorem Q7.keyok : KeyOk Tryz.prog 94 Q7.fl.av := KeyOk.st rfl rfl (by kernel_rfl) (by kernel_rfl) (fun x y => by
 refine (show _ = some (decide (x.from_ = y.from_) && (bseq x.action y.action && true)) from rfl).trans (congrArg some ?_)
 cases x
 cases y
 rw [Bool.eq_iff_iff]
 simp [Q93]) (fun x => by simp [Q7.fl, Instr.sameBits, Q229])

noncomputable def Q59.f (a0_0 a0_1 a0_2 a0_3 a1 : Int) : Option (Int × Int × Int × Int) :=
 jn (
 if 0 ≤ a1 then
 some (.inl (decide (a1 < 256)))
 else
 some (.inl false)) (fun (x467 : Bool) =>
 if x467 = true then
 if (0 : Int) ≤ (Bw.shr .i64 a1 6) ∧ (Bw.shr .i64 a1 6) < (4 : Int) then
 if (Bw.shr .i64 a1 6) = 0 then
 if (0 : Int) ≤ IntKind.u64.wrap (band .i64 a1 63) then
 some (bor .u64 a0_0 (Bw.shl .u64 1 (IntKind.u64.wrap (band .i64 a1 63))), a0_1, a0_2, a0_3)
 else none
 else
 if (Bw.shr .i64 a1 6) = 1 then
 if (0 : Int) ≤ IntKind.u64.wrap (band .i64 a1 63) then
 some (a0_0, bor .u64 a0_1 (Bw.shl .u64 1 (IntKind.u64.wrap (band .i64 a1 63))), a0_2, a0_3)
 else none
 else
 if (Bw.shr .i64 a1 6) = 2 then
 if (0 : Int) ≤ IntKind.u64.wrap (band .i64 a1 63) then
 some (a0_0, a0_1, bor .u64 a0_2 (Bw.shl .u64 1 (IntKind.u64.wrap (band .i64 a1 63))), a0_3)
 else none
 else
 if (0 : Int) ≤ IntKind.u64.wrap (band .i64 a1 63) then
 some (a0_0, a0_1, a0_2, bor .u64 a0_3 (Bw.shl .u64 1 (IntKind.u64.wrap (band .i64 a1 63))))
 else none
 else none
 else
 some (a0_0, a0_1, a0_2, a0_3))
theorem Q59.callee : Callee Tryz.prog 38 := ⟨_, Tryz.func38, by kernel_rfl, by kernel_rfl⟩
theorem Q59.spec (R : Res) (Fr : List HProp)  (a0_0 a0_1 a0_2 a0_3 a1 : Int)  {r : Int × Int × Int × Int} (j : Q59.f a0_0 a0_1 a0_2 a0_3 a1 = some r) :
 Spec Tryz.prog 38 [.agg #[.int .u64 a0_0, .int .u64 a0_1, .int .u64 a0_2, .int .u64 a0_3], .int .i64 a1] R (Fr) (fun v l' => v = .agg #[.int .u64 r.1, .int .u64 r.2.1, .int .u64 r.2.2.1, .int .u64 r.2.2.2] ∧ Fr = l') := by
 refine Spec.of Tryz.func38 rfl rfl ?_; unfold Q59.f at j; have j := brun j; refine At.seq (At.region ?_); refine At.box rfl rfl (cs := [.int .u64 a0_0, .int .u64 a0_1, .int .u64 a0_2, .int .u64 a0_3]) rfl rfl (fun b265 => ?_); refine At.alloc rfl rfl rfl (fun b266 => ?_); refine At.nil (At.thn (At.seq (At.seq (At.region (At.run 3 rfl ?_))))); obtain ⟨G468, hl469, hr470, j⟩ := bjoin j; refine At.joinO 3 (X := Bool) (fun x467 => [(1, .int .i64 a1), (2, .pointer (some ⟨b265, 0, none⟩)), (4, .pointer (some ⟨b266, 0, none⟩)), (10, .bool x467)]) (fun x467 => pt b266 (.cells ([.int .u64 0, .int .u64 0, .int .u64 0, .int .u64 0] : List Value).toArray 43) :: pt b265 (.cells [.int .u64 a0_0, .int .u64 a0_1, .int .u64 a0_2, .int .u64 a0_3].toArray 43) :: Fr) (fun x467 => G468 (.inl x467) = some r) ?_ (fun J471 => ?_)
 ·rintro x467 j; have j := (hl469 _).symm.trans j
  ·refine At.nil (At.thn ?_); rcases bite j with ⟨h472, j⟩ | ⟨h472, j⟩
   ··refine At.condT rfl h472 ?_
     refine At.region (At.run 1 rfl (At.y (Y.shr rfl rfl (by decide)) rfl rfl rfl ?_)); obtain ⟨h473, j⟩ := bnone j; rcases bite j with ⟨h474, j⟩ | ⟨h474, j⟩
     ··refine At.y (Y.ixArrK rfl rfl rfl rfl rfl h473.1 h473.2 (q := 0) (off := 0) h474 rfl) rfl rfl rfl ?_
       refine At.y (Y.load rfl rfl (.s .z) rfl rfl rfl) rfl rfl rfl (At.run 3 rfl ?_); obtain ⟨h475, j⟩ := bnone j; refine At.y (Y.shl rfl rfl h475) rfl rfl rfl (At.run 1 rfl (At.y (Y.ixArrK rfl rfl rfl rfl rfl h473.1 h473.2 (q := 0) (off := 0) h474 rfl) rfl rfl rfl ?_)); refine At.store rfl rfl rfl rfl (.s .z) rfl rfl rfl (.c .n) ?_; refine At.nil (At.thn (At.seq (At.region (At.y (Y.load rfl rfl .z rfl rfl rfl) rfl rfl rfl ?_)))); refine At.store rfl rfl rfl rfl (.s .z) rfl rfl rfl (.c (.c (.c (.c .n)))) ?_; refine At.nil (At.thn (At.ret ?_)); refine At.resM (.inl rfl) rfl (RV.cell rfl rfl .z rfl rfl rfl RV.nil) ?_; refine At.drop .z (At.drop .z ?_); cases bret j; exact fun a w e hs => ⟨_, ⟨rfl, rfl⟩, hs⟩
     ··rcases bite j with ⟨h477, j⟩ | ⟨h477, j⟩
       ··refine At.y (Y.ixArrK rfl rfl rfl rfl rfl h473.1 h473.2 (q := 1) (off := 1) h477 rfl) rfl rfl rfl ?_
         refine At.y (Y.load rfl rfl (.s .z) rfl rfl rfl) rfl rfl rfl (At.run 3 rfl ?_); obtain ⟨h478, j⟩ := bnone j; refine At.y (Y.shl rfl rfl h478) rfl rfl rfl (At.run 1 rfl (At.y (Y.ixArrK rfl rfl rfl rfl rfl h473.1 h473.2 (q := 1) (off := 1) h477 rfl) rfl rfl rfl ?_)); refine At.store rfl rfl rfl rfl (.s .z) rfl rfl rfl (.s (.c .n)) ?_; refine At.nil (At.thn (At.seq (At.region (At.y (Y.load rfl rfl .z rfl rfl rfl) rfl rfl rfl ?_)))); refine At.store rfl rfl rfl rfl (.s .z) rfl rfl rfl (.c (.c (.c (.c .n)))) ?_; refine At.nil (At.thn (At.ret ?_)); refine At.resM (.inl rfl) rfl (RV.cell rfl rfl .z rfl rfl rfl RV.nil) ?_; refine At.drop .z (At.drop .z ?_); cases bret j; exact fun a w e hs => ⟨_, ⟨rfl, rfl⟩, hs⟩
       ··rcases bite j with ⟨h481, j⟩ | ⟨h481, j⟩
         ··refine At.y (Y.ixArrK rfl rfl rfl rfl rfl h473.1 h473.2 (q := 2) (off := 2) h481 rfl) rfl rfl rfl ?_
           refine At.y (Y.load rfl rfl (.s .z) rfl rfl rfl) rfl rfl rfl (At.run 3 rfl ?_); obtain ⟨h482, j⟩ := bnone j; refine At.y (Y.shl rfl rfl h482) rfl rfl rfl (At.run 1 rfl (At.y (Y.ixArrK rfl rfl rfl rfl rfl h473.1 h473.2 (q := 2) (off := 2) h481 rfl) rfl rfl rfl ?_)); refine At.store rfl rfl rfl rfl (.s .z) rfl rfl rfl (.s (.s (.c .n))) ?_; refine At.nil (At.thn (At.seq (At.region (At.y (Y.load rfl rfl .z rfl rfl rfl) rfl rfl rfl ?_)))); refine At.store rfl rfl rfl rfl (.s .z) rfl rfl rfl (.c (.c (.c (.c .n)))) ?_; refine At.nil (At.thn (At.ret ?_)); refine At.resM (.inl rfl) rfl (RV.cell rfl rfl .z rfl rfl rfl RV.nil) ?_; refine At.drop .z (At.drop .z ?_); cases bret j; exact fun a w e hs => ⟨_, ⟨rfl, rfl⟩, hs⟩
         ··have h486 : (Bw.shr .i64 a1 6) = 3 := by have h1_ := h473; omega
           refine At.y (Y.ixArrK rfl rfl rfl rfl rfl h473.1 h473.2 (q := 3) (off := 3) h486 rfl) rfl rfl rfl (At.y (Y.load rfl rfl (.s .z) rfl rfl rfl) rfl rfl rfl (At.run 3 rfl ?_)); obtain ⟨h487, j⟩ := bnone j; refine At.y (Y.shl rfl rfl h487) rfl rfl rfl (At.run 1 rfl (At.y (Y.ixArrK rfl rfl rfl rfl rfl h473.1 h473.2 (q := 3) (off := 3) h486 rfl) rfl rfl rfl ?_)); refine At.store rfl rfl rfl rfl (.s .z) rfl rfl rfl (.s (.s (.s (.c .n)))) ?_; refine At.nil (At.thn (At.seq (At.region (At.y (Y.load rfl rfl .z rfl rfl rfl) rfl rfl rfl ?_)))); refine At.store rfl rfl rfl rfl (.s .z) rfl rfl rfl (.c (.c (.c (.c .n)))) ?_; refine At.nil (At.thn (At.ret ?_)); refine At.resM (.inl rfl) rfl (RV.cell rfl rfl .z rfl rfl rfl RV.nil) ?_; refine At.drop .z (At.drop .z ?_); cases bret j; exact fun a w e hs => ⟨_, ⟨rfl, rfl⟩, hs⟩
   ··refine At.condF rfl (bn h472) ?_
     refine At.skip (At.thn (At.seq (At.region (At.y (Y.load rfl rfl (.s .z) rfl rfl rfl) rfl rfl rfl ?_)))); refine At.store rfl rfl rfl rfl .z rfl rfl rfl (.c (.c (.c (.c .n)))) ?_; refine At.nil (At.thn (At.ret ?_)); refine At.resM (.inl rfl) rfl (RV.cell rfl rfl .z rfl rfl rfl RV.nil) ?_; refine At.drop .z (At.drop .z ?_); cases bret j; exact fun a w e hs => ⟨_, ⟨rfl, rfl⟩, hs⟩
 ··rcases bite j with ⟨h491, j⟩ | ⟨h491, j⟩
   ··refine At.know (t := 7) rfl (decide_eq_true h491) ?_
     refine At.run 3 rfl ?_; exact At.of (J471 (decide (a1 < 256)) j) ⟨rfl, rfl, rfl, rfl, trivial⟩
   ··refine At.know (t := 7) rfl (decide_eq_false h491) ?_
     refine At.run 3 rfl ?_; exact At.of (J471 false j) ⟨rfl, rfl, rfl, rfl, trivial⟩

noncomputable def Q32.l0b (a0 : List Int) (x872 x873 x874 x875 x876 : Int) : Option ((Int × Int × Int × Int × Int) ⊕ ((Int × Int × Int × Int) ⊕ (Int × Int × Int × Int))) :=
 if x876 < (a0.length : Int) then
 if (0 : Int) ≤ x876 ∧ x876 < (a0.length : Int) then
 (Q59.f x872 x873 x874 x875 (gt a0 x876)).bind fun t1094 =>
 nx (t1094.1, t1094.2.1, t1094.2.2.1, t1094.2.2.2, IntKind.i64.wrap (x876 + 1))
 else none
 else
 dn (.inl (x872, x873, x874, x875))
noncomputable def Q32.l0 (a0 : List Int) (x872 x873 x874 x875 x876 : Int) : Option ((Int × Int × Int × Int) ⊕ (Int × Int × Int × Int)) := iter (fun t_ : Int × Int × Int × Int × Int => Q32.l0b a0 t_.1 t_.2.1 t_.2.2.1 t_.2.2.2.1 t_.2.2.2.2) (x872, x873, x874, x875, x876)
noncomputable def Q32.f (a0 : List Int) : Option (Int × Int × Int × Int) :=
 jn (Q32.l0 a0 0 0 0 0 0) (fun (s_ : Int × Int × Int × Int) =>
 some (s_.1, s_.2.1, s_.2.2.1, s_.2.2.2))
theorem Q32.callee : Callee Tryz.prog 60 := ⟨_, Tryz.func60, by kernel_rfl, by kernel_rfl⟩
theorem Q32.spec (R : Res) (Fr : List HProp) (A0 : Option Addr) (n0 : Nat) (c0 : Nat) (a0 : List Int) (hr0 : RdS (Fl.int .i64).rep R.heap A0 a0) (hn0 : a0.length = n0) (hc0 : n0 ≤ c0) {r : Int × Int × Int × Int} (j : Q32.f a0 = some r) :
 Spec Tryz.prog 60 [.slice A0 n0 c0] R (Fr) (fun v l' => v = .agg #[.int .u64 r.1, .int .u64 r.2.1, .int .u64 r.2.2.1, .int .u64 r.2.2.2] ∧ Fr = l') := by
 subst hn0; refine Spec.of Tryz.func60 rfl rfl ?_; unfold Q32.f at j; have j := brun j; refine At.seq (At.region ?_); refine At.alloc rfl rfl rfl (fun b265 => ?_); refine At.nil (At.thn (At.seq (At.region ?_))); refine At.alloc rfl rfl rfl (fun b266 => ?_); refine At.nil (At.thn (At.seq (At.seq (At.region (At.run 3 rfl (At.nil (At.thn ?_))))))); refine At.block ?_; obtain ⟨G1081, hl1082, hr1083, j⟩ := bjoin j; obtain ⟨o1084, hlo1085, ho1086⟩ := bsome j; clear j; unfold Q32.l0 at hlo1085; obtain ⟨m1087, hit1089⟩ := Q17.1 hlo1085; clear hlo1085; refine At.loopJ (X := Int × Int × Int × Int × Int) (Y := Int × Int × Int × Int) (e0 := 0) (fun s_ => [(2, .pointer (some ⟨b265, 0, none⟩)), (3, .pointer (some ⟨b266, 0, none⟩)), (6, .slice A0 a0.length c0), (7, .int .i64 (a0.length : Int)), (8, .int .i64 s_.2.2.2.2)]) (fun s_ => pt b266 (.cells [.int .u64 s_.1, .int .u64 s_.2.1, .int .u64 s_.2.2.1, .int .u64 s_.2.2.2.1].toArray 43) :: pt b265 (.cells ([.int .u64 0, .int .u64 0, .int .u64 0, .int .u64 0] : List Value).toArray 43) :: Fr) (fun m_ => fun s_ => iterN (fun t_ : Int × Int × Int × Int × Int => Q32.l0b a0 t_.1 t_.2.1 t_.2.2.1 t_.2.2.2.1 t_.2.2.2.2) m_ (s_.1, s_.2.1, s_.2.2.1, s_.2.2.2.1, s_.2.2.2.2) = some o1084) m1087 (0, 0, 0, 0, 0) hit1089 (fun s_ => [(2, .pointer (some ⟨b265, 0, none⟩)), (3, .pointer (some ⟨b266, 0, none⟩))]) (fun s_ => pt b266 (.cells [.int .u64 s_.1, .int .u64 s_.2.1, .int .u64 s_.2.2.1, .int .u64 s_.2.2.2].toArray 43) :: pt b265 (.cells ([.int .u64 0, .int .u64 0, .int .u64 0, .int .u64 0] : List Value).toArray 43) :: Fr) (fun s_ => G1081 (.inl (s_.1, s_.2.1, s_.2.2.1, s_.2.2.2)) = some r) (fun a w e hs => ⟨e.sub ⟨rfl, rfl, rfl, rfl, rfl, trivial⟩, (by exact hs)⟩) ?_ (fun J1091 => ?_)
 ·rintro ⟨x1077, x1078, x1079, x1080⟩ j; have j := (hl1082 _).symm.trans j
  ·refine At.ibx ?_; refine At.thn (At.seq (At.region (At.y (Y.load rfl rfl .z rfl rfl rfl) rfl rfl rfl ?_))); refine At.store rfl rfl rfl rfl (.s .z) rfl rfl rfl (.c (.c (.c (.c .n)))) ?_; refine At.nil (At.thn (At.ret ?_)); refine At.resM (.inl rfl) rfl (RV.cell rfl rfl .z rfl rfl rfl RV.nil) ?_; refine At.drop .z (At.drop .z ?_); cases bret j; exact fun a w e hs => ⟨_, ⟨rfl, rfl⟩, hs⟩
 ·clear hit1089 m1087; rintro m1087 ⟨x872, x873, x874, x875, x876⟩ hit1089; obtain ⟨m1088, f_, hlt1090, hf_, j⟩ := bit hit1089; clear hit1089; have j : (Q32.l0b a0 x872 x873 x874 x875 x876).bind _ = some o1084 := j; unfold Q32.l0b at j
  ·refine At.seq (At.region (At.run 1 rfl (At.nil (At.thn (At.seq ?_))))); rcases bite j with ⟨h1092, j⟩ | ⟨h1092, j⟩
   ··refine At.condT rfl (decide_eq_true h1092) ?_
     refine At.skip (At.thn (At.seq ?_)); refine At.block ?_; refine At.seq (At.region ?_); obtain ⟨h1093, j⟩ := bnone j; refine At.y (Y.ixRd hr0 rfl rfl rfl rfl rfl rfl rfl h1093.1 h1093.2) rfl rfl rfl (At.y (Y.ldFl hr0 rfl (q := 0) rfl rfl h1093.1 h1093.2 rfl rfl rfl) rfl rfl rfl (At.run 1 rfl (At.nil (At.thn (At.region (At.y (Y.load rfl rfl .z rfl rfl rfl) rfl rfl rfl (At.run 1 rfl ?_))))))); obtain ⟨t1094, hc1095, j⟩ := bbind j; refine At.call rfl Q59.callee rfl rfl rfl (Q59.spec _ _  x872 x873 x874 x875 (gt a0 x876)  hc1095) ?_; rintro _ _ ⟨rfl, rfl⟩; refine At.store rfl rfl rfl rfl .z rfl rfl rfl (.c (.c (.c (.c .n)))) ?_; refine At.nil ?_; refine At.ibn ?_; refine At.thn (At.region (At.run 2 rfl (At.nil ?_))); have j := bnx hf_ j; exact fun a w e hs => ⟨m1088, (t1094.1, t1094.2.1, t1094.2.2.1, t1094.2.2.2, IntKind.i64.wrap (x876 + 1)), hlt1090, j, e.sub ⟨rfl, rfl, rfl, rfl, rfl, trivial⟩, hs⟩
   ··refine At.condF rfl (decide_eq_false h1092) ?_
     refine At.exit ?_; refine At.the ?_; refine At.the ?_; exact fun a w e hs => J1091 (x872, x873, x874, x875) (bdn j ho1086) a w (e.sub ⟨rfl, rfl, trivial⟩) hs

noncomputable def Q8.l2b (a0_1 : List Bs) (a0_2 : List Q0) (x1680 : Int) (x2502 : List (Q7 × Q5)) (x2503 : Int) : Option (((List (Q7 × Q5)) × Int) ⊕ (((List (Q7 × Q5))) ⊕ (((List (Q7 × Q5)) × Int) ⊕ (((List (Q7 × Q5))) ⊕ ((Option Q46)))))) :=
 if x2503 < (([(gt a0_1 ((gt a0_2 x1680).Action)), ([45] : Bs)] : List Bs).length : Int) then
 if (0 : Int) ≤ x2503 ∧ x2503 < (([(gt a0_1 ((gt a0_2 x1680).Action)), ([45] : Bs)] : List Bs).length : Int) then
 (Q59.f (((mget x2502 (⟨(gt a0_2 x1680).From, gt ([(gt a0_1 ((gt a0_2 x1680).Action)), ([45] : Bs)] : List Bs) x2503⟩ : Q7)).getD (⟨(0 : Int), (0 : Int), (0 : Int), (0 : Int)⟩ : Q5)).c0) (((mget x2502 (⟨(gt a0_2 x1680).From, gt ([(gt a0_1 ((gt a0_2 x1680).Action)), ([45] : Bs)] : List Bs) x2503⟩ : Q7)).getD (⟨(0 : Int), (0 : Int), (0 : Int), (0 : Int)⟩ : Q5)).c1) (((mget x2502 (⟨(gt a0_2 x1680).From, gt ([(gt a0_1 ((gt a0_2 x1680).Action)), ([45] : Bs)] : List Bs) x2503⟩ : Q7)).getD (⟨(0 : Int), (0 : Int), (0 : Int), (0 : Int)⟩ : Q5)).c2) (((mget x2502 (⟨(gt a0_2 x1680).From, gt ([(gt a0_1 ((gt a0_2 x1680).Action)), ([45] : Bs)] : List Bs) x2503⟩ : Q7)).getD (⟨(0 : Int), (0 : Int), (0 : Int), (0 : Int)⟩ : Q5)).c3) ((gt a0_2 x1680).To)).bind fun t2721 =>
 nx ((mset x2502 (⟨(gt a0_2 x1680).From, gt ([(gt a0_1 ((gt a0_2 x1680).Action)), ([45] : Bs)] : List Bs) x2503⟩ : Q7) (⟨t2721.1, t2721.2.1, t2721.2.2.1, t2721.2.2.2⟩ : Q5)), IntKind.i64.wrap (x2503 + 1))
 else none
 else
 dn (.inl x2502)
noncomputable def Q8.l2 (a0_1 : List Bs) (a0_2 : List Q0) (x1680 : Int) (x2502 : List (Q7 × Q5)) (x2503 : Int) : Option (((List (Q7 × Q5))) ⊕ (((List (Q7 × Q5)) × Int) ⊕ (((List (Q7 × Q5))) ⊕ ((Option Q46))))) := iter (fun t_ : (List (Q7 × Q5)) × Int => Q8.l2b a0_1 a0_2 x1680 t_.1 t_.2) (x2502, x2503)
noncomputable def Q8.l1b (a0_1 : List Bs) (a0_2 : List Q0) (x1679 : List (Q7 × Q5)) (x1680 : Int) : Option (((List (Q7 × Q5)) × Int) ⊕ (((List (Q7 × Q5))) ⊕ ((Option Q46)))) :=
 if x1680 < (a0_2.length : Int) then
 if (0 : Int) ≤ x1680 ∧ x1680 < (a0_2.length : Int) then
 if (0 : Int) ≤ (gt a0_2 x1680).Action ∧ (gt a0_2 x1680).Action < (a0_1.length : Int) then
 jn (Q8.l2 a0_1 a0_2 x1680 x1679 0) (fun (x2704 : List (Q7 × Q5)) =>
 nx (x2704, IntKind.i64.wrap (x1680 + 1)))
 else none
 else none
 else
 dn (.inl x1679)
noncomputable def Q8.l1 (a0_1 : List Bs) (a0_2 : List Q0) (x1679 : List (Q7 × Q5)) (x1680 : Int) : Option (((List (Q7 × Q5))) ⊕ ((Option Q46))) := iter (fun t_ : (List (Q7 × Q5)) × Int => Q8.l1b a0_1 a0_2 t_.1 t_.2) (x1679, x1680)
noncomputable def Q8.l0b (a0_3 : List Q1) (x863 : List (Bs × Q5)) (x864 : Int) : Option (((List (Bs × Q5)) × Int) ⊕ (((List (Bs × Q5))) ⊕ ((Option Q46)))) :=
 if x864 < (a0_3.length : Int) then
 if (0 : Int) ≤ x864 ∧ x864 < (a0_3.length : Int) then
 (Q32.f ((gt a0_3 x864).States)).bind fun t2735 =>
 nx ((mset x863 ((gt a0_3 x864).Name) (⟨t2735.1, t2735.2.1, t2735.2.2.1, t2735.2.2.2⟩ : Q5)), IntKind.i64.wrap (x864 + 1))
 else none
 else
 dn (.inl x863)
noncomputable def Q8.l0 (a0_3 : List Q1) (x863 : List (Bs × Q5)) (x864 : Int) : Option (((List (Bs × Q5))) ⊕ ((Option Q46))) := iter (fun t_ : (List (Bs × Q5)) × Int => Q8.l0b a0_3 t_.1 t_.2) (x863, x864)
noncomputable def Q8.f (a0_0 : Int) (a0_1 : List Bs) (a0_2 : List Q0) (a0_3 : List Q1) : Option (Option Q46) :=
 (Q9.f a0_0 a0_1 a0_2 a0_3).bind fun t255 =>
 if t255 = true then
 jn (Q8.l0 a0_3 ([] : List (Bs × Q5)) 0) (fun (x1065 : List (Bs × Q5)) =>
 jn (Q8.l1 a0_1 a0_2 ([] : List (Q7 × Q5)) 0) (fun (x1881 : List (Q7 × Q5)) =>
 some (some (⟨a0_0, x1065, x1881⟩ : Q46))))
 else
 some none
theorem Q8.callee : Callee Tryz.prog 19 := ⟨_, Tryz.func19, by kernel_rfl, by kernel_rfl⟩
theorem Q8.spec (R : Res) (Fr : List HProp) (A0_1 : Option Addr) (n0_1 : Nat) (c0_1 : Nat) (A0_2 : Option Addr) (n0_2 : Nat) (c0_2 : Nat) (A0_3 : Option Addr) (n0_3 : Nat) (c0_3 : Nat) (a0_0 : Int) (a0_1 : List Bs) (a0_2 : List Q0) (a0_3 : List Q1) (hr0_1 : RdS Fl.bs.rep R.heap A0_1 a0_1) (hn0_1 : a0_1.length = n0_1) (hc0_1 : n0_1 ≤ c0_1) (hr0_2 : RdS Q0.fl.rep R.heap A0_2 a0_2) (hn0_2 : a0_2.length = n0_2) (hc0_2 : n0_2 ≤ c0_2) (hr0_3 : RdS Q1.rep R.heap A0_3 a0_3) (hn0_3 : a0_3.length = n0_3) (hc0_3 : n0_3 ≤ c0_3) {r : (Option Q46)} (j : Q8.f a0_0 a0_1 a0_2 a0_3 = some r) :
 Spec Tryz.prog 19 [.agg #[.int .i64 a0_0, .slice A0_1 n0_1 c0_1, .slice A0_2 n0_2 c0_2, .slice A0_3 n0_3 c0_3]] R (Fr) (fun v l' => ∃ (w251 : Option Nat), v = optp w251 ∧ optb Q46.ow 91 w251 r :: Fr = l') := by
 subst hn0_1; subst hn0_2; subst hn0_3; refine Spec.of Tryz.func19 rfl rfl ?_; unfold Q8.f at j; have j := brun j; refine At.seq (At.region ?_); refine At.box rfl rfl (cs := [.int .i64 a0_0, .slice A0_1 a0_1.length c0_1, .slice A0_2 a0_2.length c0_2, .slice A0_3 a0_3.length c0_3]) rfl rfl (fun b254 => ?_); refine At.run 1 rfl (At.nil (At.thn (At.seq (At.seq (At.region (At.y (Y.load rfl rfl .z rfl rfl rfl) rfl rfl rfl ?_)))))); obtain ⟨t255, hc256, j⟩ := bbind j; refine At.call rfl Q9.callee rfl rfl rfl (Q9.spec _ _ A0_1 a0_1.length c0_1 A0_2 a0_2.length c0_2 A0_3 a0_3.length c0_3 a0_0 a0_1 a0_2 a0_3 hr0_1 rfl hc0_1 hr0_2 rfl hc0_2 hr0_3 rfl hc0_3 hc256) ?_; rintro _ _ ⟨rfl, rfl⟩; refine At.run 1 rfl (At.nil (At.thn ?_)); rcases bite j with ⟨h257, j⟩ | ⟨h257, j⟩
 ··refine At.condF rfl (nf h257) ?_
   refine At.skip (At.thn (At.seq (At.region (At.run 1 rfl (At.y (Y.load rfl rfl .z rfl rfl rfl) rfl rfl rfl ?_))))); refine At.makeMap Fl.bs.ov Q5.fl.av rfl rfl (fun b258 => ?_); refine At.makeMap Q7.fl.av Q5.fl.av rfl rfl (fun b259 => ?_); refine At.y (Y.build (is := [0, 1, 2]) (xo := [.tmp 15, .tmp 16, .tmp 17]) (vs := [.int .i64 a0_0, .map (some b258), .map (some b259)]) (cs := [.int .i64 a0_0, .map (some b258), .map (some b259)]) rfl rfl rfl rfl rfl rfl) rfl rfl rfl ?_; refine At.box rfl rfl (cs := [.int .i64 a0_0, .map (some b258), .map (some b259)]) rfl rfl (fun b260 => ?_); refine At.run 1 rfl (At.nil (At.thn (At.seq (At.seq (At.region (At.run 1 rfl (At.y (Y.load rfl rfl (.s (.s (.s .z))) rfl rfl rfl) rfl rfl rfl ?_))))))); refine At.run 2 rfl (At.nil (At.thn ?_)); refine At.block ?_; obtain ⟨G1066, hl1067, hr1068, j⟩ := bjoin j; obtain ⟨o1069, hlo1070, ho1071⟩ := bsome j; clear j; unfold Q8.l0 at hlo1070; obtain ⟨m1072, hit1074⟩ := Q17.1 hlo1070; clear hlo1070; refine At.loopJ (X := (List (Bs × Q5)) × Int) (Y := (List (Bs × Q5))) (e0 := 0) (fun s_ => [(1, .pointer (some ⟨b254, 0, none⟩)), (3, .pointer (some ⟨b260, 0, none⟩)), (21, .slice A0_3 a0_3.length c0_3), (22, .int .i64 (a0_3.length : Int)), (23, .int .i64 s_.2)]) (fun s_ => pt b260 (.cells [.int .i64 a0_0, .map (some b258), .map (some b259)].toArray 91) :: mapo Q7.fl.av Q5.fl.av b259 ([] : List (Q7 × Q5)) :: mapo Fl.bs.ov Q5.fl.av b258 s_.1 :: pt b254 (.cells [.int .i64 a0_0, .slice A0_1 a0_1.length c0_1, .slice A0_2 a0_2.length c0_2, .slice A0_3 a0_3.length c0_3].toArray 26) :: Fr) (fun m_ => fun s_ => iterN (fun t_ : (List (Bs × Q5)) × Int => Q8.l0b a0_3 t_.1 t_.2) m_ (s_.1, s_.2) = some o1069) m1072 (([] : List (Bs × Q5)), 0) hit1074 (fun x1065 => [(1, .pointer (some ⟨b254, 0, none⟩)), (3, .pointer (some ⟨b260, 0, none⟩))]) (fun x1065 => pt b260 (.cells [.int .i64 a0_0, .map (some b258), .map (some b259)].toArray 91) :: mapo Q7.fl.av Q5.fl.av b259 ([] : List (Q7 × Q5)) :: mapo Fl.bs.ov Q5.fl.av b258 x1065 :: pt b254 (.cells [.int .i64 a0_0, .slice A0_1 a0_1.length c0_1, .slice A0_2 a0_2.length c0_2, .slice A0_3 a0_3.length c0_3].toArray 26) :: Fr) (fun x1065 => G1066 (.inl x1065) = some r) (fun a w e hs => ⟨e.sub ⟨rfl, rfl, rfl, rfl, rfl, trivial⟩, (by exact hs)⟩) ?_ (fun J1076 => ?_)
   ·rintro x1065 j; have j := (hl1067 _).symm.trans j
    ·refine At.ibx ?_; refine At.thn (At.seq (At.seq (At.region (At.run 1 rfl (At.y (Y.load rfl rfl (.s (.s (.s .z))) rfl rfl rfl) rfl rfl rfl (At.run 2 rfl (At.nil ?_))))))); refine At.thn ?_; refine At.block ?_; obtain ⟨G1882, hl1883, hr1884, j⟩ := bjoin j; obtain ⟨o1885, hlo1886, ho1887⟩ := bsome j; clear j; unfold Q8.l1 at hlo1886; obtain ⟨m1888, hit1890⟩ := Q17.1 hlo1886; clear hlo1886; refine At.loopJ (X := (List (Q7 × Q5)) × Int) (Y := (List (Q7 × Q5))) (e0 := 2) (fun s_ => [(1, .pointer (some ⟨b254, 0, none⟩)), (3, .pointer (some ⟨b260, 0, none⟩)), (38, .slice A0_2 a0_2.length c0_2), (39, .int .i64 (a0_2.length : Int)), (40, .int .i64 s_.2)]) (fun s_ => pt b260 (.cells [.int .i64 a0_0, .map (some b258), .map (some b259)].toArray 91) :: mapo Q7.fl.av Q5.fl.av b259 s_.1 :: mapo Fl.bs.ov Q5.fl.av b258 x1065 :: pt b254 (.cells [.int .i64 a0_0, .slice A0_1 a0_1.length c0_1, .slice A0_2 a0_2.length c0_2, .slice A0_3 a0_3.length c0_3].toArray 26) :: Fr) (fun m_ => fun s_ => iterN (fun t_ : (List (Q7 × Q5)) × Int => Q8.l1b a0_1 a0_2 t_.1 t_.2) m_ (s_.1, s_.2) = some o1885) m1888 (([] : List (Q7 × Q5)), 0) hit1890 (fun x1881 => [(3, .pointer (some ⟨b260, 0, none⟩))]) (fun x1881 => pt b260 (.cells [.int .i64 a0_0, .map (some b258), .map (some b259)].toArray 91) :: mapo Q7.fl.av Q5.fl.av b259 x1881 :: mapo Fl.bs.ov Q5.fl.av b258 x1065 :: pt b254 (.cells [.int .i64 a0_0, .slice A0_1 a0_1.length c0_1, .slice A0_2 a0_2.length c0_2, .slice A0_3 a0_3.length c0_3].toArray 26) :: Fr) (fun x1881 => G1882 (.inl x1881) = some r) (fun a w e hs => ⟨e.sub ⟨rfl, rfl, rfl, rfl, rfl, trivial⟩, (by exact hs)⟩) ?_ (fun J1892 => ?_)
     ·rintro x1881 j; have j := (hl1883 _).symm.trans j
      ·refine At.ibx ?_; refine At.thn (At.seq (At.region (At.run 2 rfl (At.nil (At.thn (At.ret (At.f1 ?_))))))); refine At.f2 (At.f2 ?_); refine At.optSome (x := (⟨a0_0, x1065, x1881⟩ : Q46)) Q46.ent ?_; refine At.drop (.s .z) ?_; cases bret j; exact At.res (.inl rfl) rfl rfl ⟨(some b260), rfl, rfl⟩
     ·clear hit1890 m1888; rintro m1888 ⟨x1679, x1680⟩ hit1890; obtain ⟨m1889, f_, hlt1891, hf_, j⟩ := bit hit1890; clear hit1890; have j : (Q8.l1b a0_1 a0_2 x1679 x1680).bind _ = some o1885 := j; unfold Q8.l1b at j
      ·refine At.seq (At.region (At.run 1 rfl (At.nil (At.thn (At.seq ?_))))); rcases bite j with ⟨h1893, j⟩ | ⟨h1893, j⟩
       ··refine At.condT rfl (decide_eq_true h1893) ?_
         refine At.skip (At.thn (At.seq ?_)); refine At.block ?_; refine At.seq (At.region ?_); obtain ⟨h1894, j⟩ := bnone j; refine At.y (Y.ixRd hr0_2 rfl rfl rfl rfl rfl rfl rfl h1894.1 h1894.2) rfl rfl rfl (At.y (Y.ldFl hr0_2 rfl (q := 0) rfl rfl h1894.1 h1894.2 rfl rfl rfl) rfl rfl rfl ?_); refine At.alloc rfl rfl rfl (fun b1895 => ?_); refine At.store rfl rfl rfl rfl .z rfl rfl rfl (.c (.c (.c .n))) ?_; refine At.nil (At.thn (At.seq (At.region (At.run 1 rfl ?_)))); refine At.y (Y.load rfl rfl (.s (.s (.s (.s .z)))) rfl rfl rfl) rfl rfl rfl ?_; refine At.run 1 rfl (At.y (Y.load rfl rfl .z rfl rfl rfl) rfl rfl rfl ?_); obtain ⟨h1896, j⟩ := bnone j; refine At.y (Y.ixRd hr0_1 rfl rfl rfl rfl rfl rfl rfl h1896.1 h1896.2) rfl rfl rfl (At.y (Y.ldFl hr0_1 rfl (q := 0) rfl rfl h1896.1 h1896.2 rfl rfl rfl) rfl rfl rfl ?_); refine At.lit rfl (xo := [.tmp 49, .const (.string ⟨#[45]⟩)]) (ys := ([(gt a0_1 ((gt a0_2 x1680).Action)), ([45] : Bs)] : List Bs)) Fl.bs rfl rfl rfl rfl rfl rfl rfl rfl rfl rfl rfl (fun A1897 c1898 => ?_); refine At.run 2 rfl (At.nil (At.thn ?_)); refine At.block ?_; obtain ⟨G2705, hl2706, hr2707, j⟩ := bjoin j; obtain ⟨o2708, hlo2709, ho2710⟩ := bsome j; clear j; unfold Q8.l2 at hlo2709; obtain ⟨m2711, hit2713⟩ := Q17.1 hlo2709; clear hlo2709; refine At.loopJ (X := (List (Q7 × Q5)) × Int) (Y := (List (Q7 × Q5))) (e0 := 4) (fun s_ => [(1, .pointer (some ⟨b254, 0, none⟩)), (3, .pointer (some ⟨b260, 0, none⟩)), (7, .pointer (some ⟨b1895, 0, none⟩)), (38, .slice A0_2 a0_2.length c0_2), (39, .int .i64 (a0_2.length : Int)), (40, .int .i64 x1680), (50, .slice A1897 (([(gt a0_1 ((gt a0_2 x1680).Action)), ([45] : Bs)] : List Bs).length) c1898), (51, .int .i64 (([(gt a0_1 ((gt a0_2 x1680).Action)), ([45] : Bs)] : List Bs).length : Int)), (52, .int .i64 s_.2)]) (fun s_ => row Fl.bs 9 A1897 (([(gt a0_1 ((gt a0_2 x1680).Action)), ([45] : Bs)] : List Bs).length) c1898 ([(gt a0_1 ((gt a0_2 x1680).Action)), ([45] : Bs)] : List Bs) :: pt b1895 (.cells [.int .i64 ((gt a0_2 x1680).From), .int .i64 ((gt a0_2 x1680).Action), .int .i64 ((gt a0_2 x1680).To)].toArray 35) :: pt b260 (.cells [.int .i64 a0_0, .map (some b258), .map (some b259)].toArray 91) :: mapo Q7.fl.av Q5.fl.av b259 s_.1 :: mapo Fl.bs.ov Q5.fl.av b258 x1065 :: pt b254 (.cells [.int .i64 a0_0, .slice A0_1 a0_1.length c0_1, .slice A0_2 a0_2.length c0_2, .slice A0_3 a0_3.length c0_3].toArray 26) :: Fr) (fun m_ => fun s_ => iterN (fun t_ : (List (Q7 × Q5)) × Int => Q8.l2b a0_1 a0_2 x1680 t_.1 t_.2) m_ (s_.1, s_.2) = some o2708) m2711 (x1679, 0) hit2713 (fun x2704 => [(1, .pointer (some ⟨b254, 0, none⟩)), (3, .pointer (some ⟨b260, 0, none⟩)), (38, .slice A0_2 a0_2.length c0_2), (39, .int .i64 (a0_2.length : Int)), (40, .int .i64 x1680)]) (fun x2704 => row Fl.bs 9 A1897 (([(gt a0_1 ((gt a0_2 x1680).Action)), ([45] : Bs)] : List Bs).length) c1898 ([(gt a0_1 ((gt a0_2 x1680).Action)), ([45] : Bs)] : List Bs) :: pt b1895 (.cells [.int .i64 ((gt a0_2 x1680).From), .int .i64 ((gt a0_2 x1680).Action), .int .i64 ((gt a0_2 x1680).To)].toArray 35) :: pt b260 (.cells [.int .i64 a0_0, .map (some b258), .map (some b259)].toArray 91) :: mapo Q7.fl.av Q5.fl.av b259 x2704 :: mapo Fl.bs.ov Q5.fl.av b258 x1065 :: pt b254 (.cells [.int .i64 a0_0, .slice A0_1 a0_1.length c0_1, .slice A0_2 a0_2.length c0_2, .slice A0_3 a0_3.length c0_3].toArray 26) :: Fr) (fun x2704 => G2705 (.inl x2704) = some o1885) (fun a w e hs => ⟨e.sub ⟨rfl, rfl, rfl, rfl, rfl, rfl, rfl, rfl, rfl, trivial⟩, (by exact hs)⟩) ?_ (fun J2715 => ?_)
         ·rintro x2704 j; have j := (hl2706 _).symm.trans j
          ·refine At.ibx ?_; refine At.ibn ?_; refine At.thn (At.region (At.run 2 rfl (At.nil (At.drop .z (At.drop .z ?_))))); have j := bnx hf_ j; exact fun a w e hs => ⟨m1889, (x2704, IntKind.i64.wrap (x1680 + 1)), hlt1891, j, e.sub ⟨rfl, rfl, rfl, rfl, rfl, trivial⟩, hs⟩
         ·clear hit2713 m2711; rintro m2711 ⟨x2502, x2503⟩ hit2713; obtain ⟨m2712, f_, hlt2714, hf_, j⟩ := bit hit2713; clear hit2713; have j : (Q8.l2b a0_1 a0_2 x1680 x2502 x2503).bind _ = some o2708 := j; unfold Q8.l2b at j
          ·refine At.seq (At.region (At.run 1 rfl (At.nil (At.thn (At.seq ?_))))); rcases bite j with ⟨h2716, j⟩ | ⟨h2716, j⟩
           ··refine At.condT rfl (decide_eq_true h2716) ?_
             refine At.skip (At.thn (At.seq ?_)); refine At.block ?_; refine At.seq (At.region ?_); obtain ⟨h2717, j⟩ := bnone j; refine At.y (Y.ix .z rfl rfl rfl rfl rfl rfl h2717.1 h2717.2) rfl rfl rfl (At.y (Y.ld .z (q := 0) rfl rfl h2717.1 h2717.2 rfl rfl rfl) rfl rfl rfl (At.run 1 rfl (At.nil (At.thn (At.seq (At.region (At.run 1 rfl ?_))))))); refine At.y (Y.load rfl rfl (.s .z) rfl rfl rfl) rfl rfl rfl (At.run 1 rfl ?_); refine At.y (Y.build (is := [0, 1]) (xo := [.tmp 57, .tmp 58]) (vs := [.int .i64 ((gt a0_2 x1680).From), .string ⟨(gt ([(gt a0_1 ((gt a0_2 x1680).Action)), ([45] : Bs)] : List Bs) x2503).toArray⟩]) (cs := [.int .i64 ((gt a0_2 x1680).From), .string ⟨(gt ([(gt a0_1 ((gt a0_2 x1680).Action)), ([45] : Bs)] : List Bs) x2503).toArray⟩]) rfl rfl rfl rfl rfl rfl) rfl rfl rfl ?_; refine At.alloc rfl rfl rfl (fun b2718 => ?_); refine At.store rfl rfl rfl rfl .z rfl rfl rfl (.c (.c .n)) ?_; refine At.nil (At.thn ?_); refine At.held [pt b2718 (.cells [.int .i64 ((gt a0_2 x1680).From), .string ⟨(gt ([(gt a0_1 ((gt a0_2 x1680).Action)), ([45] : Bs)] : List Bs) x2503).toArray⟩].toArray 94), row Fl.bs 9 A1897 (([(gt a0_1 ((gt a0_2 x1680).Action)), ([45] : Bs)] : List Bs).length) c1898 ([(gt a0_1 ((gt a0_2 x1680).Action)), ([45] : Bs)] : List Bs), pt b1895 (.cells [.int .i64 ((gt a0_2 x1680).From), .int .i64 ((gt a0_2 x1680).Action), .int .i64 ((gt a0_2 x1680).To)].toArray 35), pt b260 (.cells [.int .i64 a0_0, .map (some b258), .map (some b259)].toArray 91), mapo Fl.bs.ov Q5.fl.av b258 x1065, pt b254 (.cells [.int .i64 a0_0, .slice A0_1 a0_1.length c0_1, .slice A0_2 a0_2.length c0_2, .slice A0_3 a0_3.length c0_3].toArray 26)] 15 rfl ?_; refine At.H.pw 0 rfl rfl rfl rfl rfl (.c .z (.c .z (.c .z (.c .z (.c (.s .z) (.c (.s .z) .n)))))) ?_; refine At.H.pw 1 rfl rfl rfl rfl rfl (.c .z (.c .z (.c .z (.c .z (.c (.s .z) (.c (.s .z) .n)))))) ?_; refine At.H.pw 2 rfl rfl rfl rfl rfl (.c .z (.c .z (.c .z (.c .z (.c (.s .z) (.c (.s .z) .n)))))) ?_; refine At.H.tw 3 rfl (Y.load rfl rfl (.s (.s (.s .z))) rfl rfl rfl) rfl rfl rfl (.c .z (.c .z (.c .z (.c .z (.c (.s .z) (.c (.s .z) .n)))))) ?_; refine At.H.tw 4 rfl (Y.load rfl rfl .z rfl rfl rfl) rfl rfl rfl (.c .z (.c .z (.c .z (.c .z (.c (.s .z) (.c (.s .z) .n)))))) ?_; refine At.H.pw 5 rfl rfl rfl rfl rfl (.c .z (.c .z (.c .z (.c .z (.c (.s .z) (.c (.s .z) .n)))))) ?_; refine At.H.pw 6 rfl rfl rfl rfl rfl (.c .z (.c .z (.c .z (.c .z (.c (.s .z) (.c (.s .z) .n)))))) ?_; refine At.H.pw 7 rfl rfl rfl rfl rfl (.c .z (.c .z (.c .z (.c .z (.c (.s .z) (.c (.s .z) .n)))))) ?_; refine At.H.tw 8 rfl (Y.load rfl rfl (.s (.s (.s .z))) rfl rfl rfl) rfl rfl rfl (.c .z (.c .z (.c .z (.c .z (.c (.s .z) (.c (.s .z) .n)))))) ?_; refine At.H.tw 9 rfl (Y.load rfl rfl .z rfl rfl rfl) rfl rfl rfl (.c .z (.c .z (.c .z (.c .z (.c (.s .z) (.c (.s .z) .n)))))) ?_; refine At.H.pw 11 rfl rfl rfl rfl rfl (.c .z (.c .z (.c .z (.c .z (.c (.s .z) (.c (.s .z) .n)))))) ?_; refine At.H.tw 12 rfl (Y.load rfl rfl (.s (.s .z)) rfl rfl rfl) rfl rfl rfl (.c .z (.c .z (.c .z (.c .z (.c (.s .z) (.c (.s .z) .n)))))) ?_; refine At.H.al [10] (Q12 ?_ Q14)
             ··refine At.HO.op rfl ?_
               refine At.y (Y.lookup (k := (⟨(gt a0_2 x1680).From, gt ([(gt a0_1 ((gt a0_2 x1680).Action)), ([45] : Bs)] : List Bs) x2503⟩ : Q7)) (z := (⟨(0 : Int), (0 : Int), (0 : Int), (0 : Int)⟩ : Q5)) (.s (.s (.s (.s .z)))) rfl rfl Q7.keyok (by kernel_rfl) rfl rfl rfl) rfl rfl rfl ?_; refine At.HO.back (.c .z (.c .z (.c .z (.c .z (.c (.s .z) (.c (.s .z) .n)))))) ?_; refine At.H.al [13] (Q12 ?_ Q14)
               ··refine At.HO.op rfl ?_
                 obtain ⟨t2721, hc2722, j⟩ := bbind j; refine At.call rfl Q59.callee rfl rfl rfl (Q59.spec _ _  (((mget x2502 (⟨(gt a0_2 x1680).From, gt ([(gt a0_1 ((gt a0_2 x1680).Action)), ([45] : Bs)] : List Bs) x2503⟩ : Q7)).getD (⟨(0 : Int), (0 : Int), (0 : Int), (0 : Int)⟩ : Q5)).c0) (((mget x2502 (⟨(gt a0_2 x1680).From, gt ([(gt a0_1 ((gt a0_2 x1680).Action)), ([45] : Bs)] : List Bs) x2503⟩ : Q7)).getD (⟨(0 : Int), (0 : Int), (0 : Int), (0 : Int)⟩ : Q5)).c1) (((mget x2502 (⟨(gt a0_2 x1680).From, gt ([(gt a0_1 ((gt a0_2 x1680).Action)), ([45] : Bs)] : List Bs) x2503⟩ : Q7)).getD (⟨(0 : Int), (0 : Int), (0 : Int), (0 : Int)⟩ : Q5)).c2) (((mget x2502 (⟨(gt a0_2 x1680).From, gt ([(gt a0_1 ((gt a0_2 x1680).Action)), ([45] : Bs)] : List Bs) x2503⟩ : Q7)).getD (⟨(0 : Int), (0 : Int), (0 : Int), (0 : Int)⟩ : Q5)).c3) ((gt a0_2 x1680).To)  hc2722) ?_; rintro _ _ ⟨rfl, rfl⟩; refine At.HO.back (.c .z (.c .z (.c .z (.c .z (.c (.s .z) (.c (.s .z) .n)))))) ?_; refine At.H.al [14] (Q12 ?_ Q14)
                 ··refine At.HO.op rfl ?_
                   refine At.mapUpdate (k := (⟨(gt a0_2 x1680).From, gt ([(gt a0_1 ((gt a0_2 x1680).Action)), ([45] : Bs)] : List Bs) x2503⟩ : Q7)) (v := (⟨t2721.1, t2721.2.1, t2721.2.2.1, t2721.2.2.2⟩ : Q5)) rfl (.s (.s (.s (.s .z)))) rfl rfl Q7.keyok rfl rfl rfl rfl rfl ?_; refine At.HO.back (.c (.s .z) (.c (.s .z) (.c (.s .z) (.c (.s .z) (.c (.s .z) (.c (.s .z) .n)))))) ?_; refine At.H.done (by kernel_rfl) ?_; refine At.ibn ?_; refine At.thn (At.region (At.run 2 rfl (At.nil (At.drop (.s .z) (At.f5 (At.f5 (At.f2 ?_))))))); refine At.f5 (At.f5 (At.f5 ?_)); have j := bnx hf_ j; exact fun a w e hs => ⟨m2712, ((mset x2502 (⟨(gt a0_2 x1680).From, gt ([(gt a0_1 ((gt a0_2 x1680).Action)), ([45] : Bs)] : List Bs) x2503⟩ : Q7) (⟨t2721.1, t2721.2.1, t2721.2.2.1, t2721.2.2.2⟩ : Q5)), IntKind.i64.wrap (x2503 + 1)), hlt2714, j, e.sub ⟨rfl, rfl, rfl, rfl, rfl, rfl, rfl, rfl, rfl, trivial⟩, hs⟩
           ··refine At.condF rfl (decide_eq_false h2716) ?_
             refine At.exit ?_; refine At.the ?_; refine At.the ?_; exact fun a w e hs => J2715 x2502 (bdn j ho2710) a w (e.sub ⟨rfl, rfl, rfl, rfl, rfl, trivial⟩) hs
       ··refine At.condF rfl (decide_eq_false h1893) ?_
         refine At.exit ?_; refine At.the ?_; refine At.the ?_; exact fun a w e hs => J1892 x1679 (bdn j ho1887) a w (e.sub ⟨rfl, trivial⟩) hs
   ·clear hit1074 m1072; rintro m1072 ⟨x863, x864⟩ hit1074; obtain ⟨m1073, f_, hlt1075, hf_, j⟩ := bit hit1074; clear hit1074; have j : (Q8.l0b a0_3 x863 x864).bind _ = some o1069 := j; unfold Q8.l0b at j
    ·refine At.seq (At.region (At.run 1 rfl (At.nil (At.thn (At.seq ?_))))); rcases bite j with ⟨h2723, j⟩ | ⟨h2723, j⟩
     ··refine At.condT rfl (decide_eq_true h2723) ?_
       refine At.skip (At.thn (At.seq ?_)); refine At.block ?_; refine At.seq (At.region ?_); obtain ⟨h2724, j⟩ := bnone j; refine At.y (Y.ixRd hr0_3 rfl rfl rfl rfl rfl rfl rfl h2724.1 h2724.2) rfl rfl rfl ?_; obtain ⟨cs2725, hK2726, hy2727⟩ := RdS.whole (P := Tryz.prog) hr0_3 (Sub.refl _) rfl h2724.1 h2724.2; obtain ⟨_, _, rfl, rfl, ⟨A2728, c2729, rfl, hc2730, hr2731⟩⟩ := hK2726; refine At.y (hy2727 rfl rfl rfl rfl) rfl rfl rfl ?_; refine At.alloc rfl rfl rfl (fun b2732 => ?_); refine At.store rfl rfl rfl rfl .z rfl rfl rfl (.c (.c .n)) ?_; refine At.nil (At.thn ?_); refine At.held [pt b2732 (.cells [.string ⟨((gt a0_3 x864).Name).toArray⟩, .slice A2728 ((gt a0_3 x864).States.length) c2729].toArray 37), pt b260 (.cells [.int .i64 a0_0, .map (some b258), .map (some b259)].toArray 91), mapo Q7.fl.av Q5.fl.av b259 ([] : List (Q7 × Q5)), pt b254 (.cells [.int .i64 a0_0, .slice A0_1 a0_1.length c0_1, .slice A0_2 a0_2.length c0_2, .slice A0_3 a0_3.length c0_3].toArray 26)] 10 rfl ?_; refine At.H.pw 0 rfl rfl rfl rfl rfl (.c .z (.c .z (.c .z (.c (.s .z) .n)))) ?_; refine At.H.pw 1 rfl rfl rfl rfl rfl (.c .z (.c .z (.c .z (.c (.s .z) .n)))) ?_; refine At.H.pw 2 rfl rfl rfl rfl rfl (.c .z (.c .z (.c .z (.c (.s .z) .n)))) ?_; refine At.H.tw 3 rfl (Y.load rfl rfl (.s .z) rfl rfl rfl) rfl rfl rfl (.c .z (.c .z (.c .z (.c (.s .z) .n)))) ?_; refine At.H.pw 4 rfl rfl rfl rfl rfl (.c .z (.c .z (.c .z (.c (.s .z) .n)))) ?_; refine At.H.tw 5 rfl (Y.load rfl rfl .z rfl rfl rfl) rfl rfl rfl (.c .z (.c .z (.c .z (.c (.s .z) .n)))) ?_; refine At.H.pw 6 rfl rfl rfl rfl rfl (.c .z (.c .z (.c .z (.c (.s .z) .n)))) ?_; refine At.H.tw 7 rfl (Y.load rfl rfl .z rfl rfl rfl) rfl rfl rfl (.c .z (.c .z (.c .z (.c (.s .z) .n)))) ?_; refine At.H.al [8] (Q12 ?_ Q14)
       ··refine At.HO.op rfl ?_
         obtain ⟨t2735, hc2736, j⟩ := bbind j; refine At.call rfl Q32.callee rfl rfl rfl (Q32.spec _ _ A2728 ((gt a0_3 x864).States.length) c2729 ((gt a0_3 x864).States) hr2731 rfl hc2730 hc2736) ?_; rintro _ _ ⟨rfl, rfl⟩; refine At.HO.back (.c .z (.c .z (.c .z (.c (.s .z) .n)))) ?_; refine At.H.al [9] (Q12 ?_ Q14)
         ··refine At.HO.op rfl ?_
           refine At.mapUpdate (k := ((gt a0_3 x864).Name)) (v := (⟨t2735.1, t2735.2.1, t2735.2.2.1, t2735.2.2.2⟩ : Q5)) rfl (.s (.s (.s .z))) rfl rfl (KeyOk.str rfl rfl) rfl rfl rfl rfl rfl ?_; refine At.HO.back (.c (.s .z) (.c (.s .z) (.c (.s .z) (.c (.s .z) .n)))) ?_; refine At.H.done (by kernel_rfl) ?_; refine At.ibn ?_; refine At.thn (At.region (At.run 2 rfl (At.nil (At.drop (.s .z) (At.f3 (At.f1 (At.f3 ?_))))))); refine At.f3 ?_; have j := bnx hf_ j; exact fun a w e hs => ⟨m1073, ((mset x863 ((gt a0_3 x864).Name) (⟨t2735.1, t2735.2.1, t2735.2.2.1, t2735.2.2.2⟩ : Q5)), IntKind.i64.wrap (x864 + 1)), hlt1075, j, e.sub ⟨rfl, rfl, rfl, rfl, rfl, trivial⟩, hs⟩
     ··refine At.condF rfl (decide_eq_false h2723) ?_
       refine At.exit ?_; refine At.the ?_; refine At.the ?_; exact fun a w e hs => J1076 x863 (bdn j ho1071) a w (e.sub ⟨rfl, rfl, trivial⟩) hs
 ··refine At.condT rfl (nt (bn h257)) ?_
   refine At.seq (At.region (At.run 1 rfl (At.nil (At.thn (At.ret (At.thr ?_)))))); refine At.optNone Q46.ow 91 ?_; refine At.drop (.s .z) ?_; cases bret j; exact At.res (.inl rfl) rfl rfl ⟨none, rfl, rfl⟩




end Go.Bw
