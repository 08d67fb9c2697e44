/- BisimAlike, part 2: walks and plain laws. Conditions: none. -/
import Derived.Test.YtbkooifhcekpmaaGreatDoorProg
import Derived.MapKept
import Derived.Shelf.SortG.Plain
import Derived.Shelf.SortG.SortNone
import Derived.Shelf.SlSortCmp.NoneTotal
import Derived.Ground.SlgnProg
import Derived.Ground.SlsfProg
import Derived.Test.YtbkooifhcekpmaaGreatDoorBwBisimAlikeA
set_option linter.unusedVariables false
set_option linter.unusedSimpArgs false
set_option linter.unusedSectionVars false
set_option maxRecDepth 100000
set_option maxHeartbeats 2000000
namespace Go.Bw
open Go Go.RowKit Go.Proofs
structure Q0 where
 From : Int
 Action : Int
 To : Int
deriving Inhabited, DecidableEq
def Q0.fl : Fl Q0 := ⟨3, fun x => [.int .i64 x.From, .int .i64 x.Action, .int .i64 x.To], fun _ => rfl, fun x u hu => by simp at hu; rcases hu with rfl | rfl | rfl <;> rfl, by decide⟩
structure Q2 where
 Name : Bs
 States : List Int
deriving Inhabited
def Q2.rep : Rep Q2 := ((Fl.bs.rep).pair (((Fl.int .i64).rep).slice)).iso (fun x => (x.Name, x.States))
def Q2.ow : Ow Q2 := ((Ow.fl Fl.bs).pair (Ow.sl (Fl.int .i64) 3)).iso (fun x => (x.Name, x.States))
theorem Q2.prj_Name : Prj Q2.rep 0 Fl.bs.rep (fun x => x.Name) := Prj.iso _ (Prj.fst (Prj.self _))
theorem Q2.ent {x0 : Bs} {A1 : Option Addr} {n1 c1 : Nat} {x1 : List Int} : Ent [row (Fl.int .i64) 3 A1 n1 c1 x1] (Q2.ow.own ⟨x0, x1⟩ [.string ⟨(x0).toArray⟩, .slice A1 n1 c1]) := (Ent.pair (c1 := [.string ⟨(x0).toArray⟩]) (c2 := [.slice A1 n1 c1]) (Ent.fl Fl.bs rfl) (Ent.sl (Fl.int .i64)))
theorem bytealg_cmpstring.ext : ExtOk Tryz.prog 135 Extern.BytealgCompare.compare := ⟨_, Tryz.func135, by kernel_rfl, by kernel_rfl, by kernel_rfl, by kernel_rfl⟩

noncomputable def Q57.f (a0 a1_0 : Int) (a1_1 : List Bs) (a1_2 : List Q0) (a1_3 : List Q2) : Option Bool :=
 jn (
 if 0 ≤ a0 then
 some (.inl (decide (a0 < a1_0)))
 else
 some (.inl false)) (fun (x452 : Bool) =>
 some x452)
theorem Q57.callee : Callee Tryz.prog 46 := ⟨_, Tryz.func46, by kernel_rfl, by kernel_rfl⟩
theorem Q57.spec (R : Res) (Fr : List HProp) (b1 : Nat) (A1_1 : Option Addr) (n1_1 : Nat) (c1_1 : Nat) (A1_2 : Option Addr) (n1_2 : Nat) (c1_2 : Nat) (A1_3 : Option Addr) (n1_3 : Nat) (c1_3 : Nat) (a0 : Int) (a1_0 : Int) (a1_1 : List Bs) (a1_2 : List Q0) (a1_3 : List Q2) (hr1_1 : RdS Fl.bs.rep R.heap A1_1 a1_1) (hn1_1 : a1_1.length = n1_1) (hc1_1 : n1_1 ≤ c1_1) (hr1_2 : RdS Q0.fl.rep R.heap A1_2 a1_2) (hn1_2 : a1_2.length = n1_2) (hc1_2 : n1_2 ≤ c1_2) (hr1_3 : RdS Q2.rep R.heap A1_3 a1_3) (hn1_3 : a1_3.length = n1_3) (hc1_3 : n1_3 ≤ c1_3) {r : Bool} (j : Q57.f a0 a1_0 a1_1 a1_2 a1_3 = some r) :
 Spec Tryz.prog 46 [.int .i64 a0, .pointer (some ⟨b1, 0, none⟩)] R (pt b1 (.cells [.int .i64 a1_0, .slice A1_1 n1_1 c1_1, .slice A1_2 n1_2 c1_2, .slice A1_3 n1_3 c1_3].toArray 26) :: Fr) (fun v l' => v = .bool r ∧ pt b1 (.cells [.int .i64 a1_0, .slice A1_1 n1_1 c1_1, .slice A1_2 n1_2 c1_2, .slice A1_3 n1_3 c1_3].toArray 26) :: Fr = l') := by
 subst hn1_1; subst hn1_2; subst hn1_3; refine Spec.of Tryz.func46 rfl rfl ?_; unfold Q57.f at j; have j := brun j; refine At.seq (At.region (At.run 1 rfl (At.nil (At.thn (At.seq (At.region (At.run 3 rfl ?_))))))); obtain ⟨G453, hl454, hr455, j⟩ := bjoin j; refine At.joinO 5 (X := Bool) (fun x452 => [(11, .bool x452)]) (fun x452 => pt b1 (.cells [.int .i64 a1_0, .slice A1_1 a1_1.length c1_1, .slice A1_2 a1_2.length c1_2, .slice A1_3 a1_3.length c1_3].toArray 26) :: Fr) (fun x452 => G453 (.inl x452) = some r) ?_ (fun J456 => ?_)
 ·rintro x452 j; have j := (hl454 _).symm.trans j
  ·refine At.run 1 rfl (At.nil (At.thn (At.ret ?_))); cases bret j; exact At.res (.inl rfl) rfl rfl ⟨rfl, rfl⟩
 ··rcases bite j with ⟨h457, j⟩ | ⟨h457, j⟩
   ··refine At.know (t := 6) rfl (decide_eq_true h457) ?_
     refine At.run 2 rfl (At.y (Y.load rfl rfl .z rfl rfl rfl) rfl rfl rfl (At.run 2 rfl ?_)); exact At.of (J456 (decide (a0 < a1_0)) j) ⟨rfl, trivial⟩
   ··refine At.know (t := 6) rfl (decide_eq_false h457) ?_
     refine At.run 5 rfl ?_; exact At.of (J456 false j) ⟨rfl, trivial⟩

noncomputable def Q71.f (a0 : Int) : Option Bool :=
 jn (
 if 97 ≤ a0 then
 some (.inl (decide (a0 ≤ 122)))
 else
 some (.inl false)) (fun (x452 : Bool) =>
 jn (
 if x452 = true then
 some (.inl true)
 else
 jn (
 if 65 ≤ a0 then
 some (.inl (decide (a0 ≤ 90)))
 else
 some (.inl false)) (fun (x1481 : Bool) =>
 some (.inl x1481))) (fun (x657 : Bool) =>
 jn (
 if x657 = true then
 some (.inl true)
 else
 jn (
 if 48 ≤ a0 then
 some (.inl (decide (a0 ≤ 57)))
 else
 some (.inl false)) (fun (x1274 : Bool) =>
 some (.inl x1274))) (fun (x862 : Bool) =>
 jn (
 if x862 = true then
 some (.inl true)
 else
 some (.inl (decide (a0 = 95)))) (fun (x1067 : Bool) =>
 some (!x1067)))))
theorem Q71.callee : Callee Tryz.prog 84 := ⟨_, Tryz.func84, by kernel_rfl, by kernel_rfl⟩
theorem Q71.spec (R : Res) (Fr : List HProp)  (a0 : Int)  {r : Bool} (j : Q71.f a0 = some r) :
 Spec Tryz.prog 84 [.int .i32 a0] R (Fr) (fun v l' => v = .bool r ∧ Fr = l') := by
 refine Spec.of Tryz.func84 rfl rfl ?_; unfold Q71.f at j; have j := brun j; refine At.seq (At.region (At.run 1 rfl (At.nil (At.thn (At.seq (At.region (At.run 3 rfl ?_))))))); obtain ⟨G453, hl454, hr455, j⟩ := bjoin j; refine At.joinO 3 (X := Bool) (fun x452 => [(0, .int .i32 a0), (8, .bool x452)]) (fun x452 => Fr) (fun x452 => G453 (.inl x452) = some r) ?_ (fun J456 => ?_)
 ·rintro x452 j; have j := (hl454 _).symm.trans j
  ·refine At.run 1 rfl ?_; obtain ⟨G658, hl659, hr660, j⟩ := bjoin j; refine At.joinO 7 (X := Bool) (fun x657 => [(0, .int .i32 a0), (16, .bool x657)]) (fun x657 => Fr) (fun x657 => G658 (.inl x657) = some r) ?_ (fun J661 => ?_)
   ·rintro x657 j; have j := (hl659 _).symm.trans j
    ·refine At.run 1 rfl ?_; obtain ⟨G863, hl864, hr865, j⟩ := bjoin j; refine At.joinO 7 (X := Bool) (fun x862 => [(0, .int .i32 a0), (24, .bool x862)]) (fun x862 => Fr) (fun x862 => G863 (.inl x862) = some r) ?_ (fun J866 => ?_)
     ·rintro x862 j; have j := (hl864 _).symm.trans j
      ·refine At.run 1 rfl ?_; obtain ⟨G1068, hl1069, hr1070, j⟩ := bjoin j; refine At.joinO 3 (X := Bool) (fun x1067 => [(28, .bool x1067)]) (fun x1067 => Fr) (fun x1067 => G1068 (.inl x1067) = some r) ?_ (fun J1071 => ?_)
       ·rintro x1067 j; have j := (hl1069 _).symm.trans j
        ·refine At.run 2 rfl (At.nil (At.thn (At.ret ?_))); cases bret j; exact At.res (.inl rfl) rfl rfl ⟨rfl, rfl⟩
       ··rcases bite j with ⟨h1072, j⟩ | ⟨h1072, j⟩
         ··refine At.know (t := 25) rfl h1072 ?_
           refine At.run 3 rfl ?_; exact At.of (J1071 true j) ⟨rfl, trivial⟩
         ··refine At.know (t := 25) rfl (bn h1072) ?_
           refine At.run 3 rfl ?_; exact At.of (J1071 (decide (a0 = 95)) j) ⟨rfl, trivial⟩
     ··rcases bite j with ⟨h1073, j⟩ | ⟨h1073, j⟩
       ··refine At.know (t := 17) rfl h1073 ?_
         refine At.run 7 rfl ?_; exact At.of (J866 true j) ⟨rfl, rfl, trivial⟩
       ··refine At.know (t := 17) rfl (bn h1073) ?_
         refine At.run 3 rfl ?_; obtain ⟨G1275, hl1276, hr1277, j⟩ := bjoin j; refine At.joinO 3 (X := Bool) (fun x1274 => [(0, .int .i32 a0), (17, .bool false), (23, .bool x1274)]) (fun x1274 => Fr) (fun x1274 => G1275 (.inl x1274) = some r) ?_ (fun J1278 => ?_)
         ·rintro x1274 j; have j := (hl1276 _).symm.trans j
          ·refine At.run 1 rfl ?_; exact At.of (J866 x1274 j) ⟨rfl, rfl, trivial⟩
         ··rcases bite j with ⟨h1279, j⟩ | ⟨h1279, j⟩
           ··refine At.know (t := 20) rfl (decide_eq_true h1279) ?_
             refine At.run 3 rfl ?_; exact At.of (J1278 (decide (a0 ≤ 57)) j) ⟨rfl, rfl, rfl, trivial⟩
           ··refine At.know (t := 20) rfl (decide_eq_false h1279) ?_
             refine At.run 3 rfl ?_; exact At.of (J1278 false j) ⟨rfl, rfl, rfl, trivial⟩
   ··rcases bite j with ⟨h1280, j⟩ | ⟨h1280, j⟩
     ··refine At.know (t := 9) rfl h1280 ?_
       refine At.run 7 rfl ?_; exact At.of (J661 true j) ⟨rfl, rfl, trivial⟩
     ··refine At.know (t := 9) rfl (bn h1280) ?_
       refine At.run 3 rfl ?_; obtain ⟨G1482, hl1483, hr1484, j⟩ := bjoin j; refine At.joinO 3 (X := Bool) (fun x1481 => [(0, .int .i32 a0), (9, .bool false), (15, .bool x1481)]) (fun x1481 => Fr) (fun x1481 => G1482 (.inl x1481) = some r) ?_ (fun J1485 => ?_)
       ·rintro x1481 j; have j := (hl1483 _).symm.trans j
        ·refine At.run 1 rfl ?_; exact At.of (J661 x1481 j) ⟨rfl, rfl, trivial⟩
       ··rcases bite j with ⟨h1486, j⟩ | ⟨h1486, j⟩
         ··refine At.know (t := 12) rfl (decide_eq_true h1486) ?_
           refine At.run 3 rfl ?_; exact At.of (J1485 (decide (a0 ≤ 90)) j) ⟨rfl, rfl, rfl, trivial⟩
         ··refine At.know (t := 12) rfl (decide_eq_false h1486) ?_
           refine At.run 3 rfl ?_; exact At.of (J1485 false j) ⟨rfl, rfl, rfl, trivial⟩
 ··rcases bite j with ⟨h1487, j⟩ | ⟨h1487, j⟩
   ··refine At.know (t := 5) rfl (decide_eq_true h1487) ?_
     refine At.run 3 rfl ?_; exact At.of (J456 (decide (a0 ≤ 122)) j) ⟨rfl, rfl, trivial⟩
   ··refine At.know (t := 5) rfl (decide_eq_false h1487) ?_
     refine At.run 3 rfl ?_; exact At.of (J456 false j) ⟨rfl, rfl, trivial⟩

noncomputable def Q36.l0b (a0 : Bs) (a2 : Bool) (x856 : Nat) : Option ((Nat) ⊕ ((Nat) ⊕ (Int))) :=
 if x856 < a0.length then
 (Q71.f (runeAt a0 x856)).bind fun t1070 =>
 if (t1070 == a2) = true then
 upL (some (x856 : Int))
 else
 nx (x856 + runeLen a0 x856)
 else
 dn (.inl x856)
noncomputable def Q36.l0 (a0 : Bs) (a2 : Bool) (x856 : Nat) : Option ((Nat) ⊕ (Int)) := iter (fun t_ : Nat => Q36.l0b a0 a2 t_) x856
noncomputable def Q36.f (a0 : Bs) (a2 : Bool) : Option Int :=
 jn (Q36.l0 a0 a2 0) (fun (x1057 : Nat) =>
 some (-1))
theorem Q36.callee : Callee Tryz.prog 163 := ⟨_, Tryz.func163, by kernel_rfl, by kernel_rfl⟩
theorem Q36.spec (R : Res) (Fr : List HProp)  (a0 : Bs) (a2 : Bool)  {r : Int} (j : Q36.f a0 a2 = some r) :
 Spec Tryz.prog 163 [.string ⟨(a0).toArray⟩, .func (.func 84) #[] #[], .bool a2] R (Fr) (fun v l' => v = .int .i64 r ∧ Fr = l') := by
 refine Spec.of Tryz.func163 rfl rfl ?_; unfold Q36.f at j; have j := brun j; refine At.seq (At.region (At.run 1 rfl (At.nil (At.thn (At.seq (At.seq (At.region ?_))))))); refine At.run 1 rfl ?_; refine At.rangeStr rfl rfl rfl rfl rfl (fun b254 => ?_); refine At.nil (At.thn ?_); refine At.block ?_; obtain ⟨G1058, hl1059, hr1060, j⟩ := bjoin j; obtain ⟨o1061, hlo1062, ho1063⟩ := bsome j; clear j; unfold Q36.l0 at hlo1062; obtain ⟨m1064, hit1066⟩ := Q25.1 hlo1062; clear hlo1062; refine At.loopJ (X := Nat) (Y := Nat) (e0 := 0) (fun x856 => [(1, .func (.func 84) #[] #[]), (2, .bool a2), (10, .pointer (some ⟨b254, 0, none⟩))]) (fun x856 => pt b254 (.stringIter ⟨(a0).toArray⟩ x856) :: Fr) (fun m_ => fun x856 => iterN (fun t_ : Nat => Q36.l0b a0 a2 t_) m_ x856 = some o1061) m1064 0 hit1066 (fun x1057 => []) (fun x1057 => pt b254 (.stringIter ⟨(a0).toArray⟩ x1057) :: Fr) (fun x1057 => G1058 (.inl x1057) = some r) (fun a w e hs => ⟨e.sub ⟨rfl, rfl, rfl, trivial⟩, (by exact hs)⟩) ?_ (fun J1068 => ?_)
 ·rintro x1057 j; have j := (hl1059 _).symm.trans j
  ·refine At.ibx ?_; refine At.thn (At.seq (At.region (At.run 1 rfl (At.nil (At.thn (At.ret (At.drop .z ?_))))))); cases bret j; exact At.res (.inl rfl) rfl rfl ⟨rfl, rfl⟩
 ·clear hit1066 m1064; rintro m1064 x856 hit1066; obtain ⟨m1065, f_, hlt1067, hf_, j⟩ := bit hit1066; clear hit1066; have j : (Q36.l0b a0 a2 x856).bind _ = some o1061 := j; unfold Q36.l0b at j
  ·refine At.seq (At.region ?_); rcases bite j with ⟨h1069, j⟩ | ⟨h1069, j⟩
   ··refine At.nextT rfl rfl .z (of_decide_eq_true (decide_eq_true h1069)) rfl ?_
     refine At.run 1 rfl (At.nil (At.thn (At.seq ?_))); refine At.condT rfl rfl ?_; refine At.skip (At.thn ?_); refine At.block ?_; refine At.seq (At.region (At.run 4 rfl (At.nil (At.thn (At.seq (At.region (At.run 2 rfl ?_))))))); obtain ⟨t1070, hc1071, j⟩ := bbind j; refine At.call rfl Q71.callee rfl rfl rfl (Q71.spec _ _  (runeAt a0 x856)  hc1071) ?_; rintro _ _ ⟨rfl, rfl⟩; refine At.run 2 rfl (At.nil (At.thn ?_)); rcases bite j with ⟨h1072, j⟩ | ⟨h1072, j⟩
     ··refine At.condT rfl h1072 ?_
       refine At.seq (At.region (At.run 2 rfl (At.nil (At.thn (At.ret ?_))))); refine At.ibr ?_; have j := bupL hr1060 ho1063 j; refine At.thr ?_; refine At.ibr ?_; refine At.thr (At.drop .z ?_); cases bret j; exact At.res (.inl rfl) rfl rfl ⟨rfl, rfl⟩
     ··refine At.condF rfl (bn h1072) ?_
       refine At.skip ?_; refine At.ibn ?_; have j := bnx hf_ j; exact fun a w e hs => ⟨m1065, (x856 + runeLen a0 x856), hlt1067, j, e.sub ⟨rfl, rfl, rfl, trivial⟩, hs⟩
   ··refine At.nextF rfl rfl .z (of_decide_eq_false (decide_eq_false h1069)) rfl ?_
     refine At.run 1 rfl (At.nil (At.thn (At.seq ?_))); refine At.condF rfl rfl ?_; refine At.exit ?_; refine At.the ?_; refine At.the ?_; exact fun a w e hs => J1068 x856 (bdn j ho1063) a w (e.sub trivial) hs

noncomputable def Q84.f (a0 : Bs) : Option Int :=
 (Q36.f a0 true).bind fun t252 =>
 some t252
theorem Q84.callee : Callee Tryz.prog 134 := ⟨_, Tryz.func134, by kernel_rfl, by kernel_rfl⟩
theorem Q84.spec (R : Res) (Fr : List HProp)  (a0 : Bs)  {r : Int} (j : Q84.f a0 = some r) :
 Spec Tryz.prog 134 [.string ⟨(a0).toArray⟩, .func (.func 84) #[] #[]] R (Fr) (fun v l' => v = .int .i64 r ∧ Fr = l') := by
 refine Spec.of Tryz.func134 rfl rfl ?_; unfold Q84.f at j; have j := brun j; refine At.seq (At.region (At.run 1 rfl (At.nil (At.thn (At.seq (At.region (At.run 2 rfl ?_))))))); obtain ⟨t252, hc253, j⟩ := bbind j; refine At.call rfl Q36.callee rfl rfl rfl (Q36.spec _ _  a0 true  hc253) ?_; rintro _ _ ⟨rfl, rfl⟩; refine At.run 1 rfl (At.nil (At.thn (At.ret ?_))); cases bret j; exact At.res (.inl rfl) rfl rfl ⟨rfl, rfl⟩

noncomputable def Q73.f (a0 : Bs) : Option Bool :=
 (Q84.f a0).bind fun t252 =>
 some (decide (0 ≤ t252))
theorem Q73.callee : Callee Tryz.prog 83 := ⟨_, Tryz.func83, by kernel_rfl, by kernel_rfl⟩
theorem Q73.spec (R : Res) (Fr : List HProp)  (a0 : Bs)  {r : Bool} (j : Q73.f a0 = some r) :
 Spec Tryz.prog 83 [.string ⟨(a0).toArray⟩, .func (.func 84) #[] #[]] R (Fr) (fun v l' => v = .bool r ∧ Fr = l') := by
 refine Spec.of Tryz.func83 rfl rfl ?_; unfold Q73.f at j; have j := brun j; refine At.seq (At.region (At.run 1 rfl (At.nil (At.thn (At.seq (At.region (At.run 2 rfl ?_))))))); obtain ⟨t252, hc253, j⟩ := bbind j; refine At.call rfl Q84.callee rfl rfl rfl (Q84.spec _ _  a0  hc253) ?_; rintro _ _ ⟨rfl, rfl⟩; refine At.run 2 rfl (At.nil (At.thn (At.ret ?_))); cases bret j; exact At.res (.inl rfl) rfl rfl ⟨rfl, rfl⟩

noncomputable def Q55.f (a0 : Bs) : Option Bool :=
 jn (
 if (a0.length : Int) < 1 then
 some (.inl true)
 else
 some (.inl (decide (8 < (a0.length : Int))))) (fun (x452 : Bool) =>
 jn (
 if x452 = true then
 some (.inl true)
 else
 if (0 : Int) ≤ 0 ∧ 0 < (a0.length : Int) then
 some (.inl (decide (bat a0 0 < 97)))
 else none) (fun (x657 : Bool) =>
 jn (
 if x657 = true then
 some (.inl true)
 else
 if (0 : Int) ≤ 0 ∧ 0 < (a0.length : Int) then
 some (.inl (decide (122 < bat a0 0)))
 else none) (fun (x862 : Bool) =>
 if x862 = true then
 some false
 else
 if bseq a0 ([116, 116] : Bs) = true then
 some false
 else
 if bseq a0 ([102, 102] : Bs) = true then
 some false
 else
 if bseq a0 ([109, 117] : Bs) = true then
 some false
 else
 if bseq a0 ([110, 117] : Bs) = true then
 some false
 else
 (Q73.f a0).bind fun t875 =>
 some (!t875))))
theorem Q55.callee : Callee Tryz.prog 47 := ⟨_, Tryz.func47, by kernel_rfl, by kernel_rfl⟩
theorem Q55.spec (R : Res) (Fr : List HProp)  (a0 : Bs)  {r : Bool} (j : Q55.f a0 = some r) :
 Spec Tryz.prog 47 [.string ⟨(a0).toArray⟩] R (Fr) (fun v l' => v = .bool r ∧ Fr = l') := by
 refine Spec.of Tryz.func47 rfl rfl ?_; unfold Q55.f at j; have j := brun j; refine At.seq (At.region (At.run 1 rfl (At.nil (At.thn (At.seq (At.seq (At.region ?_))))))); refine At.run 4 rfl ?_; obtain ⟨G453, hl454, hr455, j⟩ := bjoin j; refine At.joinO 4 (X := Bool) (fun x452 => [(0, .string ⟨(a0).toArray⟩), (10, .bool x452)]) (fun x452 => Fr) (fun x452 => G453 (.inl x452) = some r) ?_ (fun J456 => ?_)
 ·rintro x452 j; have j := (hl454 _).symm.trans j
  ·refine At.run 1 rfl ?_; obtain ⟨G658, hl659, hr660, j⟩ := bjoin j; refine At.joinO 4 (X := Bool) (fun x657 => [(0, .string ⟨(a0).toArray⟩), (15, .bool x657)]) (fun x657 => Fr) (fun x657 => G658 (.inl x657) = some r) ?_ (fun J661 => ?_)
   ·rintro x657 j; have j := (hl659 _).symm.trans j
    ·refine At.run 1 rfl ?_; obtain ⟨G863, hl864, hr865, j⟩ := bjoin j; refine At.joinO 4 (X := Bool) (fun x862 => [(0, .string ⟨(a0).toArray⟩), (20, .bool x862)]) (fun x862 => Fr) (fun x862 => G863 (.inl x862) = some r) ?_ (fun J866 => ?_)
     ·rintro x862 j; have j := (hl864 _).symm.trans j
      ·refine At.nil (At.thn ?_); rcases bite j with ⟨h867, j⟩ | ⟨h867, j⟩
       ··refine At.condT rfl h867 ?_
         refine At.seq (At.region (At.run 1 rfl (At.nil (At.thn (At.ret (At.thr ?_)))))); cases bret j; exact At.res (.inl rfl) rfl rfl ⟨rfl, rfl⟩
       ··refine At.condF rfl (bn h867) ?_
         refine At.skip (At.thn (At.seq (At.seq (At.region (At.run 1 rfl (At.nil (At.thn ?_))))))); refine At.block ?_; refine At.seq (At.seq (At.region (At.run 2 rfl (At.nil (At.thn ?_))))); rcases bite j with ⟨h868, j⟩ | ⟨h868, j⟩
         ··refine At.condT rfl h868 ?_
           refine At.skip (At.thn ?_); refine At.condT rfl h868 ?_; refine At.seq (At.region (At.run 1 rfl (At.nil (At.thn (At.ret ?_))))); refine At.ibr ?_; refine At.thr ?_; cases bret j; exact At.res (.inl rfl) rfl rfl ⟨rfl, rfl⟩
         ··refine At.condF rfl (bn h868) ?_
           refine At.seq (At.region (At.run 2 rfl (At.nil (At.thn ?_)))); rcases bite j with ⟨h870, j⟩ | ⟨h870, j⟩
           ··refine At.condT rfl h870 ?_
             refine At.skip (At.thn ?_); refine At.condT rfl h870 ?_; refine At.seq (At.region (At.run 1 rfl (At.nil (At.thn (At.ret ?_))))); refine At.ibr ?_; refine At.thr ?_; cases bret j; exact At.res (.inl rfl) rfl rfl ⟨rfl, rfl⟩
           ··refine At.condF rfl (bn h870) ?_
             refine At.seq (At.region (At.run 2 rfl (At.nil (At.thn ?_)))); rcases bite j with ⟨h872, j⟩ | ⟨h872, j⟩
             ··refine At.condT rfl h872 ?_
               refine At.skip (At.thn ?_); refine At.condT rfl h872 ?_; refine At.seq (At.region (At.run 1 rfl (At.nil (At.thn (At.ret ?_))))); refine At.ibr ?_; refine At.thr ?_; cases bret j; exact At.res (.inl rfl) rfl rfl ⟨rfl, rfl⟩
             ··refine At.condF rfl (bn h872) ?_
               refine At.region (At.run 2 rfl (At.nil (At.thn ?_))); rcases bite j with ⟨h874, j⟩ | ⟨h874, j⟩
               ··refine At.condT rfl h874 ?_
                 refine At.seq (At.region (At.run 1 rfl (At.nil (At.thn (At.ret ?_))))); refine At.ibr ?_; refine At.thr ?_; cases bret j; exact At.res (.inl rfl) rfl rfl ⟨rfl, rfl⟩
               ··refine At.condF rfl (bn h874) ?_
                 refine At.skip ?_; refine At.ibn ?_; refine At.thn (At.seq (At.region (At.run 1 rfl ?_))); obtain ⟨t875, hc876, j⟩ := bbind j; refine At.call rfl Q73.callee rfl rfl rfl (Q73.spec _ _  a0  hc876) ?_; rintro _ _ ⟨rfl, rfl⟩; refine At.run 2 rfl (At.nil (At.thn (At.ret ?_))); cases bret j; exact At.res (.inl rfl) rfl rfl ⟨rfl, rfl⟩
     ··rcases bite j with ⟨h877, j⟩ | ⟨h877, j⟩
       ··refine At.know (t := 16) rfl h877 ?_
         refine At.run 4 rfl ?_; exact At.of (J866 true j) ⟨rfl, rfl, trivial⟩
       ··refine At.know (t := 16) rfl (bn h877) ?_
         refine At.run 1 rfl ?_; obtain ⟨h878, j⟩ := bnone j; refine At.y (Y.ixStr rfl rfl rfl rfl h878.1 h878.2) rfl rfl rfl (At.run 2 rfl ?_); exact At.of (J866 (decide (122 < bat a0 0)) j) ⟨rfl, rfl, trivial⟩
   ··rcases bite j with ⟨h879, j⟩ | ⟨h879, j⟩
     ··refine At.know (t := 11) rfl h879 ?_
       refine At.run 4 rfl ?_; exact At.of (J661 true j) ⟨rfl, rfl, trivial⟩
     ··refine At.know (t := 11) rfl (bn h879) ?_
       refine At.run 1 rfl ?_; obtain ⟨h880, j⟩ := bnone j; refine At.y (Y.ixStr rfl rfl rfl rfl h880.1 h880.2) rfl rfl rfl (At.run 2 rfl ?_); exact At.of (J661 (decide (bat a0 0 < 97)) j) ⟨rfl, rfl, trivial⟩
 ··rcases bite j with ⟨h881, j⟩ | ⟨h881, j⟩
   ··refine At.know (t := 6) rfl (decide_eq_true h881) ?_
     refine At.run 4 rfl ?_; exact At.of (J456 true j) ⟨rfl, rfl, trivial⟩
   ··refine At.know (t := 6) rfl (decide_eq_false h881) ?_
     refine At.run 4 rfl ?_; exact At.of (J456 (decide (8 < (a0.length : Int))) j) ⟨rfl, rfl, trivial⟩

noncomputable def Q67.f (a0 : Int) : Option Bool :=
 some (!(decide (a0 = a0)))
theorem Q67.callee : Callee Tryz.prog 85 := ⟨_, Tryz.func85, by kernel_rfl, by kernel_rfl⟩
theorem Q67.spec (R : Res) (Fr : List HProp)  (a0 : Int)  {r : Bool} (j : Q67.f a0 = some r) :
 Spec Tryz.prog 85 [.int .i64 a0] R (Fr) (fun v l' => v = .bool r ∧ Fr = l') := by
 refine Spec.of Tryz.func85 rfl rfl ?_; unfold Q67.f at j; have j := brun j; refine At.seq (At.region (At.run 1 rfl (At.nil (At.thn (At.seq (At.region (At.run 4 rfl ?_))))))); refine At.nil (At.thn (At.ret ?_)); cases bret j; exact At.res (.inl rfl) rfl rfl ⟨rfl, rfl⟩

noncomputable def Q54.f (a0 a1 : Int) : Option Int :=
 (Q67.f a0).bind fun t252 =>
 (Q67.f a1).bind fun t254 =>
 if t252 = true then
 if t254 = true then
 some 0
 else
 some (-1)
 else
 if t254 = true then
 some 1
 else
 if a0 < a1 then
 some (-1)
 else
 if a1 < a0 then
 some 1
 else
 some 0
theorem Q54.callee : Callee Tryz.prog 49 := ⟨_, Tryz.func49, by kernel_rfl, by kernel_rfl⟩
theorem Q54.spec (R : Res) (Fr : List HProp)  (a0 a1 : Int)  {r : Int} (j : Q54.f a0 a1 = some r) :
 Spec Tryz.prog 49 [.int .i64 a0, .int .i64 a1] R (Fr) (fun v l' => v = .int .i64 r ∧ Fr = l') := by
 refine Spec.of Tryz.func49 rfl rfl ?_; unfold Q54.f at j; have j := brun j; refine At.seq (At.region (At.run 1 rfl (At.nil (At.thn (At.seq (At.region (At.run 1 rfl ?_))))))); obtain ⟨t252, hc253, j⟩ := bbind j; refine At.call rfl Q67.callee rfl rfl rfl (Q67.spec _ _  a0  hc253) ?_; rintro _ _ ⟨rfl, rfl⟩; refine At.run 1 rfl (At.nil (At.thn (At.seq (At.region (At.run 1 rfl ?_))))); obtain ⟨t254, hc255, j⟩ := bbind j; refine At.call rfl Q67.callee rfl rfl rfl (Q67.spec _ _  a1  hc255) ?_; rintro _ _ ⟨rfl, rfl⟩; refine At.run 1 rfl (At.nil (At.thn (At.seq (At.seq (At.region (At.run 1 rfl (At.nil ?_))))))); refine At.thn ?_; rcases bite j with ⟨h256, j⟩ | ⟨h256, j⟩
 ··refine At.condT rfl h256 ?_
   refine At.seq (At.seq (At.region (At.run 1 rfl (At.nil (At.thn ?_))))); rcases bite j with ⟨h257, j⟩ | ⟨h257, j⟩
   ··refine At.condT rfl h257 ?_
     refine At.seq (At.region (At.run 1 rfl (At.nil (At.thn (At.ret (At.thr (At.thr ?_))))))); cases bret j; exact At.res (.inl rfl) rfl rfl ⟨rfl, rfl⟩
   ··refine At.condF rfl (bn h257) ?_
     refine At.skip (At.thn (At.seq (At.region (At.run 1 rfl (At.nil (At.thn (At.ret ?_))))))); refine At.thr ?_; cases bret j; exact At.res (.inl rfl) rfl rfl ⟨rfl, rfl⟩
 ··refine At.condF rfl (bn h256) ?_
   refine At.skip (At.thn (At.seq (At.seq (At.region (At.run 1 rfl (At.nil (At.thn ?_))))))); rcases bite j with ⟨h258, j⟩ | ⟨h258, j⟩
   ··refine At.condT rfl h258 ?_
     refine At.seq (At.region (At.run 1 rfl (At.nil (At.thn (At.ret (At.thr ?_)))))); cases bret j; exact At.res (.inl rfl) rfl rfl ⟨rfl, rfl⟩
   ··refine At.condF rfl (bn h258) ?_
     refine At.skip (At.thn (At.seq (At.seq (At.region (At.run 3 rfl (At.nil (At.thn ?_))))))); rcases bite j with ⟨h259, j⟩ | ⟨h259, j⟩
     ··refine At.condT rfl (decide_eq_true h259) ?_
       refine At.seq (At.region (At.run 1 rfl (At.nil (At.thn (At.ret (At.thr ?_)))))); cases bret j; exact At.res (.inl rfl) rfl rfl ⟨rfl, rfl⟩
     ··refine At.condF rfl (decide_eq_false h259) ?_
       refine At.skip (At.thn (At.seq (At.seq (At.region (At.run 3 rfl (At.nil (At.thn ?_))))))); rcases bite j with ⟨h260, j⟩ | ⟨h260, j⟩
       ··refine At.condT rfl (decide_eq_true h260) ?_
         refine At.seq (At.region (At.run 1 rfl (At.nil (At.thn (At.ret (At.thr ?_)))))); cases bret j; exact At.res (.inl rfl) rfl rfl ⟨rfl, rfl⟩
       ··refine At.condF rfl (decide_eq_false h260) ?_
         refine At.skip (At.thn (At.seq (At.region (At.run 1 rfl (At.nil (At.thn (At.ret ?_))))))); cases bret j; exact At.res (.inl rfl) rfl rfl ⟨rfl, rfl⟩

noncomputable def Q42.l0b (a0 : List Int) (x853 : Int) : Option ((Int) ⊕ ((Unit) ⊕ (Bool))) :=
 if x853 < (a0.length : Int) then
 if (0 : Int) ≤ IntKind.i64.wrap (x853 - 1) ∧ IntKind.i64.wrap (x853 - 1) < (a0.length : Int) then
 if (0 : Int) ≤ x853 ∧ x853 < (a0.length : Int) then
 (Q54.f (gt a0 (IntKind.i64.wrap (x853 - 1))) (gt a0 x853)).bind fun t1068 =>
 if 0 ≤ t1068 then
 upL (some false)
 else
 nx (IntKind.i64.wrap (x853 + 1))
 else none
 else none
 else
 dn (.inl ())
noncomputable def Q42.l0 (a0 : List Int) (x853 : Int) : Option ((Unit) ⊕ (Bool)) := iter (fun t_ : Int => Q42.l0b a0 t_) x853
noncomputable def Q42.f (a0 : List Int) : Option Bool :=
 jn (Q42.l0 a0 1) (fun (_ : Unit) =>
 some true)
theorem Q42.callee : Callee Tryz.prog 48 := ⟨_, Tryz.func48, by kernel_rfl, by kernel_rfl⟩
theorem Q42.spec (R : Res) (Fr : List HProp) (A0 : Option Addr) (n0 : Nat) (c0 : Nat) (a0 : List Int) (hr0 : RdS (Fl.int .i64).rep R.heap A0 a0) (hn0 : a0.length = n0) (hc0 : n0 ≤ c0) {r : Bool} (j : Q42.f a0 = some r) :
 Spec Tryz.prog 48 [.slice A0 n0 c0, .func (.func 49) #[] #[]] R (Fr) (fun v l' => v = .bool r ∧ Fr = l') := by
 subst hn0; refine Spec.of Tryz.func48 rfl rfl ?_; unfold Q42.f at j; have j := brun j; refine At.seq (At.region (At.run 1 rfl (At.nil (At.thn (At.seq (At.seq (At.region ?_))))))); refine At.run 1 rfl (At.nil (At.thn ?_)); refine At.block ?_; obtain ⟨G1054, hl1055, hr1056, j⟩ := bjoin j; obtain ⟨o1057, hlo1058, ho1059⟩ := bsome j; clear j; unfold Q42.l0 at hlo1058; obtain ⟨m1060, hit1062⟩ := Q25.1 hlo1058; clear hlo1058; refine At.loopJ (X := Int) (Y := Unit) (e0 := 0) (fun x853 => [(0, .slice A0 a0.length c0), (1, .func (.func 49) #[] #[]), (5, .int .i64 x853)]) (fun x853 => Fr) (fun m_ => fun x853 => iterN (fun t_ : Int => Q42.l0b a0 t_) m_ x853 = some o1057) m1060 1 hit1062 (fun _ => []) (fun _ => Fr) (fun _ => G1054 (.inl ()) = some r) (fun a w e hs => ⟨e.sub ⟨rfl, rfl, rfl, trivial⟩, (by exact hs)⟩) ?_ (fun J1064 => ?_)
 ·rintro _ j; have j := (hl1055 _).symm.trans j
  ·refine At.ibx ?_; refine At.thn (At.seq (At.region (At.run 1 rfl (At.nil (At.thn (At.ret ?_)))))); cases bret j; exact At.res (.inl rfl) rfl rfl ⟨rfl, rfl⟩
 ·clear hit1062 m1060; rintro m1060 x853 hit1062; obtain ⟨m1061, f_, hlt1063, hf_, j⟩ := bit hit1062; clear hit1062; have j : (Q42.l0b a0 x853).bind _ = some o1057 := j; unfold Q42.l0b at j
  ·refine At.seq (At.seq (At.region (At.run 4 rfl (At.nil (At.thn ?_))))); rcases bite j with ⟨h1065, j⟩ | ⟨h1065, j⟩
   ··refine At.condT rfl (decide_eq_true h1065) ?_
     refine At.skip (At.thn (At.seq ?_)); refine At.block ?_; refine At.seq ?_; refine At.quiet (by kernel_rfl) ?_; refine At.Quiet.run 4 rfl ?_; obtain ⟨h1066, j⟩ := bnone j; refine At.Quiet.y (Y.ixRd hr0 rfl rfl rfl rfl rfl rfl rfl h1066.1 h1066.2) rfl rfl rfl ?_; refine At.Quiet.y (Y.ldFl hr0 rfl (q := 0) rfl rfl h1066.1 h1066.2 rfl rfl rfl) rfl rfl rfl ?_; refine At.Quiet.run 2 rfl ?_; obtain ⟨h1067, j⟩ := bnone j; refine At.Quiet.y (Y.ixRd hr0 rfl rfl rfl rfl rfl rfl rfl h1067.1 h1067.2) rfl rfl rfl ?_; refine At.Quiet.y (Y.ldFl hr0 rfl (q := 0) rfl rfl h1067.1 h1067.2 rfl rfl rfl) rfl rfl rfl ?_; obtain ⟨t1068, hc1069, j⟩ := bbind j; refine At.Quiet.call rfl Q54.callee rfl rfl rfl (Q54.spec _ _  (gt a0 (IntKind.i64.wrap (x853 - 1))) (gt a0 x853)  hc1069) (fun _ _ h_ => ⟨h_.1, fun _ hs => h_.2 ▸ hs⟩) ?_; refine At.Quiet.run 1 rfl (At.Quiet.nil (At.thn ?_)); rcases bite j with ⟨h1070, j⟩ | ⟨h1070, j⟩
     ··refine At.condT rfl (decide_eq_true h1070) ?_
       refine At.seq (At.region (At.run 1 rfl (At.nil (At.thn (At.ret ?_))))); refine At.ibr ?_; refine At.thr ?_; have j := bupL hr1056 ho1059 j; refine At.thr ?_; refine At.ibr ?_; refine At.thr ?_; cases bret j; exact At.res (.inl rfl) rfl rfl ⟨rfl, rfl⟩
     ··refine At.condF rfl (decide_eq_false h1070) ?_
       refine At.skip ?_; refine At.ibn ?_; refine At.thn (At.region (At.run 3 rfl (At.nil ?_))); have j := bnx hf_ j; exact fun a w e hs => ⟨m1061, (IntKind.i64.wrap (x853 + 1)), hlt1063, j, e.sub ⟨rfl, rfl, rfl, trivial⟩, hs⟩
   ··refine At.condF rfl (decide_eq_false h1065) ?_
     refine At.exit ?_; refine At.the ?_; refine At.the ?_; exact fun a w e hs => J1064 () (bdn j ho1059) a w (e.sub trivial) hs

noncomputable def Q83.f (a0 a1_0_c0_0 : Int) (a1_0_c0_1 : List Bs) (a1_0_c0_2 : List Q0) (a1_0_c0_3 : List Q2) : Option Bool :=
 (Q57.f a0 a1_0_c0_0 a1_0_c0_1 a1_0_c0_2 a1_0_c0_3).bind fun t252 =>
 some (!t252)
theorem Q83.callee : Callee Tryz.prog 51 := ⟨_, Tryz.func51, by kernel_rfl, by kernel_rfl⟩
theorem Q83.spec (R : Res) (Fr : List HProp) (b1 b1_0_c0 : Nat) (A1_0_c0_1 : Option Addr) (n1_0_c0_1 : Nat) (c1_0_c0_1 : Nat) (A1_0_c0_2 : Option Addr) (n1_0_c0_2 : Nat) (c1_0_c0_2 : Nat) (A1_0_c0_3 : Option Addr) (n1_0_c0_3 : Nat) (c1_0_c0_3 : Nat) (a0 : Int) (a1_0_c0_0 : Int) (a1_0_c0_1 : List Bs) (a1_0_c0_2 : List Q0) (a1_0_c0_3 : List Q2) (hr1_0_c0_1 : RdS Fl.bs.rep R.heap A1_0_c0_1 a1_0_c0_1) (hn1_0_c0_1 : a1_0_c0_1.length = n1_0_c0_1) (hc1_0_c0_1 : n1_0_c0_1 ≤ c1_0_c0_1) (hr1_0_c0_2 : RdS Q0.fl.rep R.heap A1_0_c0_2 a1_0_c0_2) (hn1_0_c0_2 : a1_0_c0_2.length = n1_0_c0_2) (hc1_0_c0_2 : n1_0_c0_2 ≤ c1_0_c0_2) (hr1_0_c0_3 : RdS Q2.rep R.heap A1_0_c0_3 a1_0_c0_3) (hn1_0_c0_3 : a1_0_c0_3.length = n1_0_c0_3) (hc1_0_c0_3 : n1_0_c0_3 ≤ c1_0_c0_3) {r : Bool} (j : Q83.f a0 a1_0_c0_0 a1_0_c0_1 a1_0_c0_2 a1_0_c0_3 = some r) :
 Spec Tryz.prog 51 [.int .i64 a0, .pointer (some ⟨b1, 0, none⟩)] R (pt b1 (.cells [.func (.func 46) #[] #[.pointer (some ⟨b1_0_c0, 0, none⟩)]].toArray 45) :: pt b1_0_c0 (.cells [.int .i64 a1_0_c0_0, .slice A1_0_c0_1 n1_0_c0_1 c1_0_c0_1, .slice A1_0_c0_2 n1_0_c0_2 c1_0_c0_2, .slice A1_0_c0_3 n1_0_c0_3 c1_0_c0_3].toArray 26) :: Fr) (fun v l' => v = .bool r ∧ pt b1 (.cells [.func (.func 46) #[] #[.pointer (some ⟨b1_0_c0, 0, none⟩)]].toArray 45) :: pt b1_0_c0 (.cells [.int .i64 a1_0_c0_0, .slice A1_0_c0_1 n1_0_c0_1 c1_0_c0_1, .slice A1_0_c0_2 n1_0_c0_2 c1_0_c0_2, .slice A1_0_c0_3 n1_0_c0_3 c1_0_c0_3].toArray 26) :: Fr = l') := by
 subst hn1_0_c0_1; subst hn1_0_c0_2; subst hn1_0_c0_3; refine Spec.of Tryz.func51 rfl rfl ?_; unfold Q83.f at j; have j := brun j; refine At.seq (At.region (At.run 1 rfl (At.nil (At.thn (At.seq (At.region (At.y (Y.load rfl rfl .z rfl rfl rfl) rfl rfl rfl ?_))))))); refine At.run 1 rfl (At.f1 ?_); obtain ⟨t252, hc253, j⟩ := bbind j; refine At.call rfl Q57.callee rfl rfl rfl (Q57.spec _ _ b1_0_c0 A1_0_c0_1 a1_0_c0_1.length c1_0_c0_1 A1_0_c0_2 a1_0_c0_2.length c1_0_c0_2 A1_0_c0_3 a1_0_c0_3.length c1_0_c0_3 a0 a1_0_c0_0 a1_0_c0_1 a1_0_c0_2 a1_0_c0_3 hr1_0_c0_1 rfl hc1_0_c0_1 hr1_0_c0_2 rfl hc1_0_c0_2 hr1_0_c0_3 rfl hc1_0_c0_3 hc253) ?_; rintro _ _ ⟨rfl, rfl⟩; refine At.run 2 rfl (At.nil (At.thn (At.ret (At.f1 ?_)))); cases bret j; exact At.res (.inl rfl) rfl rfl ⟨rfl, rfl⟩

noncomputable def Q41.l0b (a0 : List Int) (a1_c0_0_c0_0 : Int) (a1_c0_0_c0_1 : List Bs) (a1_c0_0_c0_2 : List Q0) (a1_c0_0_c0_3 : List Q2) (x853 : Int) : Option ((Int) ⊕ ((Unit) ⊕ (Int))) :=
 if x853 < (a0.length : Int) then
 if (0 : Int) ≤ x853 ∧ x853 < (a0.length : Int) then
 (Q83.f (gt a0 x853) a1_c0_0_c0_0 a1_c0_0_c0_1 a1_c0_0_c0_2 a1_c0_0_c0_3).bind fun t1067 =>
 if t1067 = true then
 upL (some x853)
 else
 nx (IntKind.i64.wrap (x853 + 1))
 else none
 else
 dn (.inl ())
noncomputable def Q41.l0 (a0 : List Int) (a1_c0_0_c0_0 : Int) (a1_c0_0_c0_1 : List Bs) (a1_c0_0_c0_2 : List Q0) (a1_c0_0_c0_3 : List Q2) (x853 : Int) : Option ((Unit) ⊕ (Int)) := iter (fun t_ : Int => Q41.l0b a0 a1_c0_0_c0_0 a1_c0_0_c0_1 a1_c0_0_c0_2 a1_c0_0_c0_3 t_) x853
noncomputable def Q41.f (a0 : List Int) (a1_c0_0_c0_0 : Int) (a1_c0_0_c0_1 : List Bs) (a1_c0_0_c0_2 : List Q0) (a1_c0_0_c0_3 : List Q2) : Option Int :=
 jn (Q41.l0 a0 a1_c0_0_c0_0 a1_c0_0_c0_1 a1_c0_0_c0_2 a1_c0_0_c0_3 0) (fun (_ : Unit) =>
 some (-1))
theorem Q41.callee : Callee Tryz.prog 86 := ⟨_, Tryz.func86, by kernel_rfl, by kernel_rfl⟩
theorem Q41.spec (R : Res) (Fr : List HProp) (A0 : Option Addr) (n0 : Nat) (c0 : Nat) (b1_c0 : Nat) (b1_c0_0_c0 : Nat) (A1_c0_0_c0_1 : Option Addr) (n1_c0_0_c0_1 : Nat) (c1_c0_0_c0_1 : Nat) (A1_c0_0_c0_2 : Option Addr) (n1_c0_0_c0_2 : Nat) (c1_c0_0_c0_2 : Nat) (A1_c0_0_c0_3 : Option Addr) (n1_c0_0_c0_3 : Nat) (c1_c0_0_c0_3 : Nat) (a0 : List Int) (a1_c0_0_c0_0 : Int) (a1_c0_0_c0_1 : List Bs) (a1_c0_0_c0_2 : List Q0) (a1_c0_0_c0_3 : List Q2) (hr0 : RdS (Fl.int .i64).rep R.heap A0 a0) (hn0 : a0.length = n0) (hc0 : n0 ≤ c0) (hr1_c0_0_c0_1 : RdS Fl.bs.rep R.heap A1_c0_0_c0_1 a1_c0_0_c0_1) (hn1_c0_0_c0_1 : a1_c0_0_c0_1.length = n1_c0_0_c0_1) (hc1_c0_0_c0_1 : n1_c0_0_c0_1 ≤ c1_c0_0_c0_1) (hr1_c0_0_c0_2 : RdS Q0.fl.rep R.heap A1_c0_0_c0_2 a1_c0_0_c0_2) (hn1_c0_0_c0_2 : a1_c0_0_c0_2.length = n1_c0_0_c0_2) (hc1_c0_0_c0_2 : n1_c0_0_c0_2 ≤ c1_c0_0_c0_2) (hr1_c0_0_c0_3 : RdS Q2.rep R.heap A1_c0_0_c0_3 a1_c0_0_c0_3) (hn1_c0_0_c0_3 : a1_c0_0_c0_3.length = n1_c0_0_c0_3) (hc1_c0_0_c0_3 : n1_c0_0_c0_3 ≤ c1_c0_0_c0_3) {r : Int} (j : Q41.f a0 a1_c0_0_c0_0 a1_c0_0_c0_1 a1_c0_0_c0_2 a1_c0_0_c0_3 = some r) :
 Spec Tryz.prog 86 [.slice A0 n0 c0, .func (.func 51) #[] #[.pointer (some ⟨b1_c0, 0, none⟩)]] R (pt b1_c0 (.cells [.func (.func 46) #[] #[.pointer (some ⟨b1_c0_0_c0, 0, none⟩)]].toArray 45) :: pt b1_c0_0_c0 (.cells [.int .i64 a1_c0_0_c0_0, .slice A1_c0_0_c0_1 n1_c0_0_c0_1 c1_c0_0_c0_1, .slice A1_c0_0_c0_2 n1_c0_0_c0_2 c1_c0_0_c0_2, .slice A1_c0_0_c0_3 n1_c0_0_c0_3 c1_c0_0_c0_3].toArray 26) :: Fr) (fun v l' => v = .int .i64 r ∧ pt b1_c0 (.cells [.func (.func 46) #[] #[.pointer (some ⟨b1_c0_0_c0, 0, none⟩)]].toArray 45) :: pt b1_c0_0_c0 (.cells [.int .i64 a1_c0_0_c0_0, .slice A1_c0_0_c0_1 n1_c0_0_c0_1 c1_c0_0_c0_1, .slice A1_c0_0_c0_2 n1_c0_0_c0_2 c1_c0_0_c0_2, .slice A1_c0_0_c0_3 n1_c0_0_c0_3 c1_c0_0_c0_3].toArray 26) :: Fr = l') := by
 subst hn0; subst hn1_c0_0_c0_1; subst hn1_c0_0_c0_2; subst hn1_c0_0_c0_3; refine Spec.of Tryz.func86 rfl rfl ?_; unfold Q41.f at j; have j := brun j; refine At.seq (At.region (At.run 1 rfl (At.nil (At.thn (At.seq (At.seq (At.region ?_))))))); refine At.run 3 rfl (At.nil (At.thn ?_)); refine At.block ?_; obtain ⟨G1054, hl1055, hr1056, j⟩ := bjoin j; obtain ⟨o1057, hlo1058, ho1059⟩ := bsome j; clear j; unfold Q41.l0 at hlo1058; obtain ⟨m1060, hit1062⟩ := Q25.1 hlo1058; clear hlo1058; refine At.loopJ (X := Int) (Y := Unit) (e0 := 0) (fun x853 => [(0, .slice A0 a0.length c0), (1, .func (.func 51) #[] #[.pointer (some ⟨b1_c0, 0, none⟩)]), (7, .int .i64 (a0.length : Int)), (8, .int .i64 x853)]) (fun x853 => pt b1_c0 (.cells [.func (.func 46) #[] #[.pointer (some ⟨b1_c0_0_c0, 0, none⟩)]].toArray 45) :: pt b1_c0_0_c0 (.cells [.int .i64 a1_c0_0_c0_0, .slice A1_c0_0_c0_1 a1_c0_0_c0_1.length c1_c0_0_c0_1, .slice A1_c0_0_c0_2 a1_c0_0_c0_2.length c1_c0_0_c0_2, .slice A1_c0_0_c0_3 a1_c0_0_c0_3.length c1_c0_0_c0_3].toArray 26) :: Fr) (fun m_ => fun x853 => iterN (fun t_ : Int => Q41.l0b a0 a1_c0_0_c0_0 a1_c0_0_c0_1 a1_c0_0_c0_2 a1_c0_0_c0_3 t_) m_ x853 = some o1057) m1060 0 hit1062 (fun _ => []) (fun _ => pt b1_c0 (.cells [.func (.func 46) #[] #[.pointer (some ⟨b1_c0_0_c0, 0, none⟩)]].toArray 45) :: pt b1_c0_0_c0 (.cells [.int .i64 a1_c0_0_c0_0, .slice A1_c0_0_c0_1 a1_c0_0_c0_1.length c1_c0_0_c0_1, .slice A1_c0_0_c0_2 a1_c0_0_c0_2.length c1_c0_0_c0_2, .slice A1_c0_0_c0_3 a1_c0_0_c0_3.length c1_c0_0_c0_3].toArray 26) :: Fr) (fun _ => G1054 (.inl ()) = some r) (fun a w e hs => ⟨e.sub ⟨rfl, rfl, rfl, rfl, trivial⟩, (by exact hs)⟩) ?_ (fun J1064 => ?_)
 ·rintro _ j; have j := (hl1055 _).symm.trans j
  ·refine At.ibx ?_; refine At.thn (At.seq (At.region (At.run 1 rfl (At.nil (At.thn (At.ret ?_)))))); cases bret j; exact At.res (.inl rfl) rfl rfl ⟨rfl, rfl⟩
 ·clear hit1062 m1060; rintro m1060 x853 hit1062; obtain ⟨m1061, f_, hlt1063, hf_, j⟩ := bit hit1062; clear hit1062; have j : (Q41.l0b a0 a1_c0_0_c0_0 a1_c0_0_c0_1 a1_c0_0_c0_2 a1_c0_0_c0_3 x853).bind _ = some o1057 := j; unfold Q41.l0b at j
  ·refine At.seq (At.region (At.run 1 rfl (At.nil (At.thn (At.seq ?_))))); rcases bite j with ⟨h1065, j⟩ | ⟨h1065, j⟩
   ··refine At.condT rfl (decide_eq_true h1065) ?_
     refine At.skip (At.thn (At.seq ?_)); refine At.block ?_; refine At.seq (At.region (At.run 2 rfl (At.nil (At.thn (At.seq (At.region (At.run 3 rfl ?_))))))); obtain ⟨h1066, j⟩ := bnone j; refine At.y (Y.ixRd hr0 rfl rfl rfl rfl rfl rfl rfl h1066.1 h1066.2) rfl rfl rfl (At.y (Y.ldFl hr0 rfl (q := 0) rfl rfl h1066.1 h1066.2 rfl rfl rfl) rfl rfl rfl ?_); obtain ⟨t1067, hc1068, j⟩ := bbind j; refine At.call rfl Q83.callee rfl rfl rfl (Q83.spec _ _ b1_c0 b1_c0_0_c0 A1_c0_0_c0_1 a1_c0_0_c0_1.length c1_c0_0_c0_1 A1_c0_0_c0_2 a1_c0_0_c0_2.length c1_c0_0_c0_2 A1_c0_0_c0_3 a1_c0_0_c0_3.length c1_c0_0_c0_3 (gt a0 x853) a1_c0_0_c0_0 a1_c0_0_c0_1 a1_c0_0_c0_2 a1_c0_0_c0_3 hr1_c0_0_c0_1 rfl hc1_c0_0_c0_1 hr1_c0_0_c0_2 rfl hc1_c0_0_c0_2 hr1_c0_0_c0_3 rfl hc1_c0_0_c0_3 hc1068) ?_; rintro _ _ ⟨rfl, rfl⟩; refine At.nil (At.thn ?_); rcases bite j with ⟨h1069, j⟩ | ⟨h1069, j⟩
     ··refine At.condT rfl h1069 ?_
       refine At.seq (At.region (At.run 2 rfl (At.nil (At.thn (At.ret ?_))))); refine At.ibr ?_; refine At.thr ?_; have j := bupL hr1056 ho1059 j; refine At.thr ?_; refine At.ibr ?_; refine At.thr ?_; cases bret j; exact At.res (.inl rfl) rfl rfl ⟨rfl, rfl⟩
     ··refine At.condF rfl (bn h1069) ?_
       refine At.skip ?_; refine At.ibn ?_; refine At.thn (At.region (At.run 2 rfl (At.nil ?_))); have j := bnx hf_ j; exact fun a w e hs => ⟨m1061, (IntKind.i64.wrap (x853 + 1)), hlt1063, j, e.sub ⟨rfl, rfl, rfl, rfl, trivial⟩, hs⟩
   ··refine At.condF rfl (decide_eq_false h1065) ?_
     refine At.exit ?_; refine At.the ?_; refine At.the ?_; exact fun a w e hs => J1064 () (bdn j ho1059) a w (e.sub trivial) hs

noncomputable def Q76.f (a0 : List Int) (a1_c0_0_c0_0 : Int) (a1_c0_0_c0_1 : List Bs) (a1_c0_0_c0_2 : List Q0) (a1_c0_0_c0_3 : List Q2) : Option Bool :=
 (Q41.f a0 a1_c0_0_c0_0 a1_c0_0_c0_1 a1_c0_0_c0_2 a1_c0_0_c0_3).bind fun t252 =>
 some (decide (0 ≤ t252))
theorem Q76.callee : Callee Tryz.prog 50 := ⟨_, Tryz.func50, by kernel_rfl, by kernel_rfl⟩
theorem Q76.spec (R : Res) (Fr : List HProp) (A0 : Option Addr) (n0 : Nat) (c0 : Nat) (b1_c0 : Nat) (b1_c0_0_c0 : Nat) (A1_c0_0_c0_1 : Option Addr) (n1_c0_0_c0_1 : Nat) (c1_c0_0_c0_1 : Nat) (A1_c0_0_c0_2 : Option Addr) (n1_c0_0_c0_2 : Nat) (c1_c0_0_c0_2 : Nat) (A1_c0_0_c0_3 : Option Addr) (n1_c0_0_c0_3 : Nat) (c1_c0_0_c0_3 : Nat) (a0 : List Int) (a1_c0_0_c0_0 : Int) (a1_c0_0_c0_1 : List Bs) (a1_c0_0_c0_2 : List Q0) (a1_c0_0_c0_3 : List Q2) (hr0 : RdS (Fl.int .i64).rep R.heap A0 a0) (hn0 : a0.length = n0) (hc0 : n0 ≤ c0) (hr1_c0_0_c0_1 : RdS Fl.bs.rep R.heap A1_c0_0_c0_1 a1_c0_0_c0_1) (hn1_c0_0_c0_1 : a1_c0_0_c0_1.length = n1_c0_0_c0_1) (hc1_c0_0_c0_1 : n1_c0_0_c0_1 ≤ c1_c0_0_c0_1) (hr1_c0_0_c0_2 : RdS Q0.fl.rep R.heap A1_c0_0_c0_2 a1_c0_0_c0_2) (hn1_c0_0_c0_2 : a1_c0_0_c0_2.length = n1_c0_0_c0_2) (hc1_c0_0_c0_2 : n1_c0_0_c0_2 ≤ c1_c0_0_c0_2) (hr1_c0_0_c0_3 : RdS Q2.rep R.heap A1_c0_0_c0_3 a1_c0_0_c0_3) (hn1_c0_0_c0_3 : a1_c0_0_c0_3.length = n1_c0_0_c0_3) (hc1_c0_0_c0_3 : n1_c0_0_c0_3 ≤ c1_c0_0_c0_3) {r : Bool} (j : Q76.f a0 a1_c0_0_c0_0 a1_c0_0_c0_1 a1_c0_0_c0_2 a1_c0_0_c0_3 = some r) :
 Spec Tryz.prog 50 [.slice A0 n0 c0, .func (.func 51) #[] #[.pointer (some ⟨b1_c0, 0, none⟩)]] R (pt b1_c0 (.cells [.func (.func 46) #[] #[.pointer (some ⟨b1_c0_0_c0, 0, none⟩)]].toArray 45) :: pt b1_c0_0_c0 (.cells [.int .i64 a1_c0_0_c0_0, .slice A1_c0_0_c0_1 n1_c0_0_c0_1 c1_c0_0_c0_1, .slice A1_c0_0_c0_2 n1_c0_0_c0_2 c1_c0_0_c0_2, .slice A1_c0_0_c0_3 n1_c0_0_c0_3 c1_c0_0_c0_3].toArray 26) :: Fr) (fun v l' => v = .bool r ∧ pt b1_c0 (.cells [.func (.func 46) #[] #[.pointer (some ⟨b1_c0_0_c0, 0, none⟩)]].toArray 45) :: pt b1_c0_0_c0 (.cells [.int .i64 a1_c0_0_c0_0, .slice A1_c0_0_c0_1 n1_c0_0_c0_1 c1_c0_0_c0_1, .slice A1_c0_0_c0_2 n1_c0_0_c0_2 c1_c0_0_c0_2, .slice A1_c0_0_c0_3 n1_c0_0_c0_3 c1_c0_0_c0_3].toArray 26) :: Fr = l') := by
 subst hn0; subst hn1_c0_0_c0_1; subst hn1_c0_0_c0_2; subst hn1_c0_0_c0_3; refine Spec.of Tryz.func50 rfl rfl ?_; unfold Q76.f at j; have j := brun j; refine At.seq (At.region (At.run 1 rfl (At.nil (At.thn (At.seq (At.region (At.run 2 rfl ?_))))))); obtain ⟨t252, hc253, j⟩ := bbind j; refine At.call rfl Q41.callee rfl rfl rfl (Q41.spec _ _ A0 a0.length c0 b1_c0 b1_c0_0_c0 A1_c0_0_c0_1 a1_c0_0_c0_1.length c1_c0_0_c0_1 A1_c0_0_c0_2 a1_c0_0_c0_2.length c1_c0_0_c0_2 A1_c0_0_c0_3 a1_c0_0_c0_3.length c1_c0_0_c0_3 a0 a1_c0_0_c0_0 a1_c0_0_c0_1 a1_c0_0_c0_2 a1_c0_0_c0_3 hr0 rfl hc0 hr1_c0_0_c0_1 rfl hc1_c0_0_c0_1 hr1_c0_0_c0_2 rfl hc1_c0_0_c0_2 hr1_c0_0_c0_3 rfl hc1_c0_0_c0_3 hc253) ?_; rintro _ _ ⟨rfl, rfl⟩; refine At.run 2 rfl (At.nil (At.thn (At.ret ?_))); cases bret j; exact At.res (.inl rfl) rfl rfl ⟨rfl, rfl⟩

noncomputable def Q82.f (a0 : Bs) : Option Bool :=
 (Q55.f a0).bind fun t252 =>
 some (!t252)
theorem Q82.callee : Callee Tryz.prog 53 := ⟨_, Tryz.func53, by kernel_rfl, by kernel_rfl⟩
theorem Q82.spec (R : Res) (Fr : List HProp)  (a0 : Bs)  {r : Bool} (j : Q82.f a0 = some r) :
 Spec Tryz.prog 53 [.string ⟨(a0).toArray⟩] R (Fr) (fun v l' => v = .bool r ∧ Fr = l') := by
 refine Spec.of Tryz.func53 rfl rfl ?_; unfold Q82.f at j; have j := brun j; refine At.seq (At.region (At.run 1 rfl (At.nil (At.thn (At.seq (At.region (At.run 1 rfl ?_))))))); obtain ⟨t252, hc253, j⟩ := bbind j; refine At.call rfl Q55.callee rfl rfl rfl (Q55.spec _ _  a0  hc253) ?_; rintro _ _ ⟨rfl, rfl⟩; refine At.run 2 rfl (At.nil (At.thn (At.ret ?_))); cases bret j; exact At.res (.inl rfl) rfl rfl ⟨rfl, rfl⟩

noncomputable def Q40.l0b (a0 : List Bs) (x853 : Int) : Option ((Int) ⊕ ((Unit) ⊕ (Int))) :=
 if x853 < (a0.length : Int) then
 if (0 : Int) ≤ x853 ∧ x853 < (a0.length : Int) then
 (Q82.f (gt a0 x853)).bind fun t1067 =>
 if t1067 = true then
 upL (some x853)
 else
 nx (IntKind.i64.wrap (x853 + 1))
 else none
 else
 dn (.inl ())
noncomputable def Q40.l0 (a0 : List Bs) (x853 : Int) : Option ((Unit) ⊕ (Int)) := iter (fun t_ : Int => Q40.l0b a0 t_) x853
noncomputable def Q40.f (a0 : List Bs) : Option Int :=
 jn (Q40.l0 a0 0) (fun (_ : Unit) =>
 some (-1))
theorem Q40.callee : Callee Tryz.prog 87 := ⟨_, Tryz.func87, by kernel_rfl, by kernel_rfl⟩
theorem Q40.spec (R : Res) (Fr : List HProp) (A0 : Option Addr) (n0 : Nat) (c0 : Nat) (a0 : List Bs) (hr0 : RdS Fl.bs.rep R.heap A0 a0) (hn0 : a0.length = n0) (hc0 : n0 ≤ c0) {r : Int} (j : Q40.f a0 = some r) :
 Spec Tryz.prog 87 [.slice A0 n0 c0, .func (.func 53) #[] #[]] R (Fr) (fun v l' => v = .int .i64 r ∧ Fr = l') := by
 subst hn0; refine Spec.of Tryz.func87 rfl rfl ?_; unfold Q40.f at j; have j := brun j; refine At.seq (At.region (At.run 1 rfl (At.nil (At.thn (At.seq (At.seq (At.region ?_))))))); refine At.run 3 rfl (At.nil (At.thn ?_)); refine At.block ?_; obtain ⟨G1054, hl1055, hr1056, j⟩ := bjoin j; obtain ⟨o1057, hlo1058, ho1059⟩ := bsome j; clear j; unfold Q40.l0 at hlo1058; obtain ⟨m1060, hit1062⟩ := Q25.1 hlo1058; clear hlo1058; refine At.loopJ (X := Int) (Y := Unit) (e0 := 0) (fun x853 => [(0, .slice A0 a0.length c0), (1, .func (.func 53) #[] #[]), (7, .int .i64 (a0.length : Int)), (8, .int .i64 x853)]) (fun x853 => Fr) (fun m_ => fun x853 => iterN (fun t_ : Int => Q40.l0b a0 t_) m_ x853 = some o1057) m1060 0 hit1062 (fun _ => []) (fun _ => Fr) (fun _ => G1054 (.inl ()) = some r) (fun a w e hs => ⟨e.sub ⟨rfl, rfl, rfl, rfl, trivial⟩, (by exact hs)⟩) ?_ (fun J1064 => ?_)
 ·rintro _ j; have j := (hl1055 _).symm.trans j
  ·refine At.ibx ?_; refine At.thn (At.seq (At.region (At.run 1 rfl (At.nil (At.thn (At.ret ?_)))))); cases bret j; exact At.res (.inl rfl) rfl rfl ⟨rfl, rfl⟩
 ·clear hit1062 m1060; rintro m1060 x853 hit1062; obtain ⟨m1061, f_, hlt1063, hf_, j⟩ := bit hit1062; clear hit1062; have j : (Q40.l0b a0 x853).bind _ = some o1057 := j; unfold Q40.l0b at j
  ·refine At.seq (At.region (At.run 1 rfl (At.nil (At.thn (At.seq ?_))))); rcases bite j with ⟨h1065, j⟩ | ⟨h1065, j⟩
   ··refine At.condT rfl (decide_eq_true h1065) ?_
     refine At.skip (At.thn (At.seq ?_)); refine At.block ?_; refine At.seq (At.region (At.run 2 rfl (At.nil (At.thn (At.seq (At.region (At.run 3 rfl ?_))))))); obtain ⟨h1066, j⟩ := bnone j; refine At.y (Y.ixRd hr0 rfl rfl rfl rfl rfl rfl rfl h1066.1 h1066.2) rfl rfl rfl (At.y (Y.ldFl hr0 rfl (q := 0) rfl rfl h1066.1 h1066.2 rfl rfl rfl) rfl rfl rfl ?_); obtain ⟨t1067, hc1068, j⟩ := bbind j; refine At.call rfl Q82.callee rfl rfl rfl (Q82.spec _ _  (gt a0 x853)  hc1068) ?_; rintro _ _ ⟨rfl, rfl⟩; refine At.nil (At.thn ?_); rcases bite j with ⟨h1069, j⟩ | ⟨h1069, j⟩
     ··refine At.condT rfl h1069 ?_
       refine At.seq (At.region (At.run 2 rfl (At.nil (At.thn (At.ret ?_))))); refine At.ibr ?_; refine At.thr ?_; have j := bupL hr1056 ho1059 j; refine At.thr ?_; refine At.ibr ?_; refine At.thr ?_; cases bret j; exact At.res (.inl rfl) rfl rfl ⟨rfl, rfl⟩
     ··refine At.condF rfl (bn h1069) ?_
       refine At.skip ?_; refine At.ibn ?_; refine At.thn (At.region (At.run 2 rfl (At.nil ?_))); have j := bnx hf_ j; exact fun a w e hs => ⟨m1061, (IntKind.i64.wrap (x853 + 1)), hlt1063, j, e.sub ⟨rfl, rfl, rfl, rfl, trivial⟩, hs⟩
   ··refine At.condF rfl (decide_eq_false h1065) ?_
     refine At.exit ?_; refine At.the ?_; refine At.the ?_; exact fun a w e hs => J1064 () (bdn j ho1059) a w (e.sub trivial) hs

noncomputable def Q77.f (a0 : List Bs) : Option Bool :=
 (Q40.f a0).bind fun t252 =>
 some (decide (0 ≤ t252))
theorem Q77.callee : Callee Tryz.prog 52 := ⟨_, Tryz.func52, by kernel_rfl, by kernel_rfl⟩
theorem Q77.spec (R : Res) (Fr : List HProp) (A0 : Option Addr) (n0 : Nat) (c0 : Nat) (a0 : List Bs) (hr0 : RdS Fl.bs.rep R.heap A0 a0) (hn0 : a0.length = n0) (hc0 : n0 ≤ c0) {r : Bool} (j : Q77.f a0 = some r) :
 Spec Tryz.prog 52 [.slice A0 n0 c0, .func (.func 53) #[] #[]] R (Fr) (fun v l' => v = .bool r ∧ Fr = l') := by
 subst hn0; refine Spec.of Tryz.func52 rfl rfl ?_; unfold Q77.f at j; have j := brun j; refine At.seq (At.region (At.run 1 rfl (At.nil (At.thn (At.seq (At.region (At.run 2 rfl ?_))))))); obtain ⟨t252, hc253, j⟩ := bbind j; refine At.call rfl Q40.callee rfl rfl rfl (Q40.spec _ _ A0 a0.length c0 a0 hr0 rfl hc0 hc253) ?_; rintro _ _ ⟨rfl, rfl⟩; refine At.run 2 rfl (At.nil (At.thn (At.ret ?_))); cases bret j; exact At.res (.inl rfl) rfl rfl ⟨rfl, rfl⟩

noncomputable def Q24.l0b (a0 : List Int) (x853 : Int) : Option ((Int) ⊕ ((Unit) ⊕ (Int))) :=
 if x853 < (a0.length : Int) then
 if (0 : Int) ≤ x853 ∧ x853 < (a0.length : Int) then
 if gt a0 x853 = 0 then
 nx (IntKind.i64.wrap (x853 + 1))
 else
 upL (some (gt a0 x853))
 else none
 else
 dn (.inl ())
noncomputable def Q24.l0 (a0 : List Int) (x853 : Int) : Option ((Unit) ⊕ (Int)) := iter (fun t_ : Int => Q24.l0b a0 t_) x853
noncomputable def Q24.f (a0 : List Int) : Option Int :=
 jn (Q24.l0 a0 0) (fun (_ : Unit) =>
 some 0)
theorem Q24.callee : Callee Tryz.prog 44 := ⟨_, Tryz.func44, by kernel_rfl, by kernel_rfl⟩
theorem Q24.spec (R : Res) (Fr : List HProp) (A0 : Option Addr) (n0 : Nat) (c0 : Nat) (a0 : List Int) (hr0 : RdS (Fl.int .i64).rep R.heap A0 a0) (hn0 : a0.length = n0) (hc0 : n0 ≤ c0) {r : Int} (j : Q24.f a0 = some r) :
 Spec Tryz.prog 44 [.slice A0 n0 c0] R (Fr) (fun v l' => v = .int .i64 r ∧ Fr = l') := by
 subst hn0; refine Spec.of Tryz.func44 rfl rfl ?_; unfold Q24.f at j; have j := brun j; refine At.seq (At.region (At.run 1 rfl (At.nil (At.thn (At.seq (At.region (At.run 1 rfl ?_))))))); refine At.nil (At.thn (At.seq (At.seq (At.region (At.run 3 rfl (At.nil (At.thn ?_))))))); refine At.block ?_; obtain ⟨G1054, hl1055, hr1056, j⟩ := bjoin j; obtain ⟨o1057, hlo1058, ho1059⟩ := bsome j; clear j; unfold Q24.l0 at hlo1058; obtain ⟨m1060, hit1062⟩ := Q25.1 hlo1058; clear hlo1058; refine At.loopJ (X := Int) (Y := Unit) (e0 := 0) (fun x853 => [(3, .int .i64 0), (6, .slice A0 a0.length c0), (7, .int .i64 (a0.length : Int)), (8, .int .i64 x853)]) (fun x853 => Fr) (fun m_ => fun x853 => iterN (fun t_ : Int => Q24.l0b a0 t_) m_ x853 = some o1057) m1060 0 hit1062 (fun _ => [(3, .int .i64 0)]) (fun _ => Fr) (fun _ => G1054 (.inl ()) = some r) (fun a w e hs => ⟨e.sub ⟨rfl, rfl, rfl, rfl, trivial⟩, (by exact hs)⟩) ?_ (fun J1064 => ?_)
 ·rintro _ j; have j := (hl1055 _).symm.trans j
  ·refine At.ibx ?_; refine At.thn (At.seq (At.region (At.run 2 rfl (At.nil (At.thn (At.ret ?_)))))); cases bret j; exact At.res (.inl rfl) rfl rfl ⟨rfl, rfl⟩
 ·clear hit1062 m1060; rintro m1060 x853 hit1062; obtain ⟨m1061, f_, hlt1063, hf_, j⟩ := bit hit1062; clear hit1062; have j : (Q24.l0b a0 x853).bind _ = some o1057 := j; unfold Q24.l0b at j
  ·refine At.seq (At.region (At.run 1 rfl (At.nil (At.thn (At.seq ?_))))); rcases bite j with ⟨h1065, j⟩ | ⟨h1065, j⟩
   ··refine At.condT rfl (decide_eq_true h1065) ?_
     refine At.skip (At.thn (At.seq ?_)); refine At.block ?_; refine At.seq (At.region ?_); obtain ⟨h1066, j⟩ := bnone j; refine At.y (Y.ixRd hr0 rfl rfl rfl rfl rfl rfl rfl h1066.1 h1066.2) rfl rfl rfl (At.y (Y.ldFl hr0 rfl (q := 0) rfl rfl h1066.1 h1066.2 rfl rfl rfl) rfl rfl rfl (At.run 1 rfl (At.nil (At.thn (At.seq (At.region (At.run 3 rfl ?_))))))); refine At.nil (At.thn ?_); rcases bite j with ⟨h1067, j⟩ | ⟨h1067, j⟩
     ··refine At.condF rfl (nf (decide_eq_true h1067)) ?_
       refine At.skip ?_; refine At.ibn ?_; refine At.thn (At.region (At.run 2 rfl (At.nil ?_))); have j := bnx hf_ j; exact fun a w e hs => ⟨m1061, (IntKind.i64.wrap (x853 + 1)), hlt1063, j, e.sub ⟨rfl, rfl, rfl, rfl, trivial⟩, hs⟩
     ··refine At.condT rfl (nt (decide_eq_false h1067)) ?_
       refine At.seq (At.region (At.run 2 rfl (At.nil (At.thn (At.ret ?_))))); refine At.ibr ?_; refine At.thr ?_; have j := bupL hr1056 ho1059 j; refine At.thr ?_; refine At.ibr ?_; refine At.thr ?_; cases bret j; exact At.res (.inl rfl) rfl rfl ⟨rfl, rfl⟩
   ··refine At.condF rfl (decide_eq_false h1065) ?_
     refine At.exit ?_; refine At.the ?_; refine At.the ?_; exact fun a w e hs => J1064 () (bdn j ho1059) a w (e.sub ⟨rfl, trivial⟩) hs

noncomputable def Q65.f (a0_0 a0_1 a0_2 a1_0 a1_1 a1_2 : Int) : Option Int :=
 (Q54.f a0_0 a1_0).bind fun t269 =>
 (Q54.f a0_1 a1_1).bind fun t271 =>
 (Q54.f a0_2 a1_2).bind fun t273 =>
 (Q24.f ([t269, t271, t273] : List Int)).bind fun t284 =>
 some t284
theorem Q65.callee : Callee Tryz.prog 55 := ⟨_, Tryz.func55, by kernel_rfl, by kernel_rfl⟩
theorem Q65.spec (R : Res) (Fr : List HProp)  (a0_0 a0_1 a0_2 a1_0 a1_1 a1_2 : Int)  {r : Int} (j : Q65.f a0_0 a0_1 a0_2 a1_0 a1_1 a1_2 = some r) :
 Spec Tryz.prog 55 [.agg #[.int .i64 a0_0, .int .i64 a0_1, .int .i64 a0_2], .agg #[.int .i64 a1_0, .int .i64 a1_1, .int .i64 a1_2]] R (Fr) (fun v l' => v = .int .i64 r ∧ Fr = l') := by
 refine Spec.of Tryz.func55 rfl rfl ?_; unfold Q65.f at j; have j := brun j; refine At.seq (At.region ?_); refine At.box rfl rfl (cs := [.int .i64 a0_0, .int .i64 a0_1, .int .i64 a0_2]) rfl rfl (fun b259 => ?_); refine At.box rfl rfl (cs := [.int .i64 a1_0, .int .i64 a1_1, .int .i64 a1_2]) rfl rfl (fun b260 => ?_); refine At.run 1 rfl (At.nil (At.thn (At.seq ?_))); refine At.held [pt b260 (.cells [.int .i64 a1_0, .int .i64 a1_1, .int .i64 a1_2].toArray 35), pt b259 (.cells [.int .i64 a0_0, .int .i64 a0_1, .int .i64 a0_2].toArray 35)] 18 rfl ?_; refine At.H.pw 0 rfl rfl rfl rfl rfl (.c .z (.c .z .n)) ?_; refine At.H.tw 1 rfl (Y.load rfl rfl (.s .z) rfl rfl rfl) rfl rfl rfl (.c .z (.c .z .n)) ?_; refine At.H.pw 2 rfl rfl rfl rfl rfl (.c .z (.c .z .n)) ?_; refine At.H.tw 3 rfl (Y.load rfl rfl .z rfl rfl rfl) rfl rfl rfl (.c .z (.c .z .n)) ?_; refine At.H.pw 5 rfl rfl rfl rfl rfl (.c .z (.c .z .n)) ?_; refine At.H.tw 6 rfl (Y.load rfl rfl (.s .z) rfl rfl rfl) rfl rfl rfl (.c .z (.c .z .n)) ?_; refine At.H.pw 7 rfl rfl rfl rfl rfl (.c .z (.c .z .n)) ?_; refine At.H.tw 8 rfl (Y.load rfl rfl .z rfl rfl rfl) rfl rfl rfl (.c .z (.c .z .n)) ?_; refine At.H.pw 10 rfl rfl rfl rfl rfl (.c .z (.c .z .n)) ?_; refine At.H.tw 11 rfl (Y.load rfl rfl (.s .z) rfl rfl rfl) rfl rfl rfl (.c .z (.c .z .n)) ?_; refine At.H.pw 12 rfl rfl rfl rfl rfl (.c .z (.c .z .n)) ?_; refine At.H.tw 13 rfl (Y.load rfl rfl .z rfl rfl rfl) rfl rfl rfl (.c .z (.c .z .n)) ?_; refine At.H.al [4] (Q7 ?_ Q9)
 ··refine At.HO.op rfl ?_
   obtain ⟨t269, hc270, j⟩ := bbind j; refine At.call rfl Q54.callee rfl rfl rfl (Q54.spec _ _  a0_0 a1_0  hc270) ?_; rintro _ _ ⟨rfl, rfl⟩; refine At.HO.back (.c .z (.c .z .n)) ?_; refine At.H.al [9] (Q7 ?_ Q9)
   ··refine At.HO.op rfl ?_
     obtain ⟨t271, hc272, j⟩ := bbind j; refine At.call rfl Q54.callee rfl rfl rfl (Q54.spec _ _  a0_1 a1_1  hc272) ?_; rintro _ _ ⟨rfl, rfl⟩; refine At.HO.back (.c .z (.c .z .n)) ?_; refine At.H.al [14] (Q7 ?_ Q9)
     ··refine At.HO.op rfl ?_
       obtain ⟨t273, hc274, j⟩ := bbind j; refine At.call rfl Q54.callee rfl rfl rfl (Q54.spec _ _  a0_2 a1_2  hc274) ?_; rintro _ _ ⟨rfl, rfl⟩; refine At.HO.back (.c .z (.c .z .n)) ?_; refine At.H.al [15] (Q7 ?_ Q9)
       ··refine At.HO.op rfl ?_
         refine At.lit rfl (xo := [.tmp 9, .tmp 14, .tmp 19]) (ys := ([t269, t271, t273] : List Int)) (Fl.int .i64) rfl rfl rfl rfl rfl rfl rfl rfl rfl rfl rfl (fun A275 c276 => ?_); refine At.HO.back (.c (.s .z) (.c (.s .z) .n)) ?_; refine At.H.al [16] (Q7 ?_ Q9)
         ··refine At.HO.op rfl ?_
           refine At.freeze .z fun R278 hr279 hn280 hc281 hs282 th283 => ?_; obtain ⟨t284, hc285, j⟩ := bbind j; refine At.call rfl Q24.callee rfl rfl rfl (Q24.spec _ _ A275 (([t269, t271, t273] : List Int).length) c276 ([t269, t271, t273] : List Int) hr279 hn280 hc281 hc285) ?_; rintro _ _ ⟨rfl, rfl⟩; refine At.thaw th283 ?_; refine At.HO.back (.c (.s .z) (.c (.s .z) .n)) ?_; refine At.H.pw 17 rfl rfl rfl rfl rfl (.c (.s .z) (.c (.s .z) .n)) ?_; refine At.H.done (by kernel_rfl) ?_; refine At.thn (At.ret (At.drop .z (At.drop .z (At.drop .z ?_)))); cases bret j; exact At.res (.inl rfl) rfl rfl ⟨rfl, rfl⟩

noncomputable def Q43.l0b (a0 : List Q0) (x853 : Int) : Option ((Int) ⊕ ((Unit) ⊕ (Bool))) :=
 if x853 < (a0.length : Int) then
 if (0 : Int) ≤ IntKind.i64.wrap (x853 - 1) ∧ IntKind.i64.wrap (x853 - 1) < (a0.length : Int) then
 if (0 : Int) ≤ x853 ∧ x853 < (a0.length : Int) then
 (Q65.f ((gt a0 (IntKind.i64.wrap (x853 - 1))).From) ((gt a0 (IntKind.i64.wrap (x853 - 1))).Action) ((gt a0 (IntKind.i64.wrap (x853 - 1))).To) ((gt a0 x853).From) ((gt a0 x853).Action) ((gt a0 x853).To)).bind fun t1068 =>
 if 0 ≤ t1068 then
 upL (some false)
 else
 nx (IntKind.i64.wrap (x853 + 1))
 else none
 else none
 else
 dn (.inl ())
noncomputable def Q43.l0 (a0 : List Q0) (x853 : Int) : Option ((Unit) ⊕ (Bool)) := iter (fun t_ : Int => Q43.l0b a0 t_) x853
noncomputable def Q43.f (a0 : List Q0) : Option Bool :=
 jn (Q43.l0 a0 1) (fun (_ : Unit) =>
 some true)
theorem Q43.callee : Callee Tryz.prog 54 := ⟨_, Tryz.func54, by kernel_rfl, by kernel_rfl⟩
theorem Q43.spec (R : Res) (Fr : List HProp) (A0 : Option Addr) (n0 : Nat) (c0 : Nat) (a0 : List Q0) (hr0 : RdS Q0.fl.rep R.heap A0 a0) (hn0 : a0.length = n0) (hc0 : n0 ≤ c0) {r : Bool} (j : Q43.f a0 = some r) :
 Spec Tryz.prog 54 [.slice A0 n0 c0, .func (.func 55) #[] #[]] R (Fr) (fun v l' => v = .bool r ∧ Fr = l') := by
 subst hn0; refine Spec.of Tryz.func54 rfl rfl ?_; unfold Q43.f at j; have j := brun j; refine At.seq (At.region (At.run 1 rfl (At.nil (At.thn (At.seq (At.seq (At.region ?_))))))); refine At.run 1 rfl (At.nil (At.thn ?_)); refine At.block ?_; obtain ⟨G1054, hl1055, hr1056, j⟩ := bjoin j; obtain ⟨o1057, hlo1058, ho1059⟩ := bsome j; clear j; unfold Q43.l0 at hlo1058; obtain ⟨m1060, hit1062⟩ := Q25.1 hlo1058; clear hlo1058; refine At.loopJ (X := Int) (Y := Unit) (e0 := 0) (fun x853 => [(0, .slice A0 a0.length c0), (1, .func (.func 55) #[] #[]), (5, .int .i64 x853)]) (fun x853 => Fr) (fun m_ => fun x853 => iterN (fun t_ : Int => Q43.l0b a0 t_) m_ x853 = some o1057) m1060 1 hit1062 (fun _ => []) (fun _ => Fr) (fun _ => G1054 (.inl ()) = some r) (fun a w e hs => ⟨e.sub ⟨rfl, rfl, rfl, trivial⟩, (by exact hs)⟩) ?_ (fun J1064 => ?_)
 ·rintro _ j; have j := (hl1055 _).symm.trans j
  ·refine At.ibx ?_; refine At.thn (At.seq (At.region (At.run 1 rfl (At.nil (At.thn (At.ret ?_)))))); cases bret j; exact At.res (.inl rfl) rfl rfl ⟨rfl, rfl⟩
 ·clear hit1062 m1060; rintro m1060 x853 hit1062; obtain ⟨m1061, f_, hlt1063, hf_, j⟩ := bit hit1062; clear hit1062; have j : (Q43.l0b a0 x853).bind _ = some o1057 := j; unfold Q43.l0b at j
  ·refine At.seq (At.seq (At.region (At.run 4 rfl (At.nil (At.thn ?_))))); rcases bite j with ⟨h1065, j⟩ | ⟨h1065, j⟩
   ··refine At.condT rfl (decide_eq_true h1065) ?_
     refine At.skip (At.thn (At.seq ?_)); refine At.block ?_; refine At.seq ?_; refine At.quiet (by kernel_rfl) ?_; refine At.Quiet.run 4 rfl ?_; obtain ⟨h1066, j⟩ := bnone j; refine At.Quiet.y (Y.ixRd hr0 rfl rfl rfl rfl rfl rfl rfl h1066.1 h1066.2) rfl rfl rfl ?_; refine At.Quiet.y (Y.ldFl hr0 rfl (q := 0) rfl rfl h1066.1 h1066.2 rfl rfl rfl) rfl rfl rfl ?_; refine At.Quiet.run 2 rfl ?_; obtain ⟨h1067, j⟩ := bnone j; refine At.Quiet.y (Y.ixRd hr0 rfl rfl rfl rfl rfl rfl rfl h1067.1 h1067.2) rfl rfl rfl ?_; refine At.Quiet.y (Y.ldFl hr0 rfl (q := 0) rfl rfl h1067.1 h1067.2 rfl rfl rfl) rfl rfl rfl ?_; obtain ⟨t1068, hc1069, j⟩ := bbind j; refine At.Quiet.call rfl Q65.callee rfl rfl rfl (Q65.spec _ _  ((gt a0 (IntKind.i64.wrap (x853 - 1))).From) ((gt a0 (IntKind.i64.wrap (x853 - 1))).Action) ((gt a0 (IntKind.i64.wrap (x853 - 1))).To) ((gt a0 x853).From) ((gt a0 x853).Action) ((gt a0 x853).To)  hc1069) (fun _ _ h_ => ⟨h_.1, fun _ hs => h_.2 ▸ hs⟩) ?_; refine At.Quiet.run 1 rfl (At.Quiet.nil (At.thn ?_)); rcases bite j with ⟨h1070, j⟩ | ⟨h1070, j⟩
     ··refine At.condT rfl (decide_eq_true h1070) ?_
       refine At.seq (At.region (At.run 1 rfl (At.nil (At.thn (At.ret ?_))))); refine At.ibr ?_; refine At.thr ?_; have j := bupL hr1056 ho1059 j; refine At.thr ?_; refine At.ibr ?_; refine At.thr ?_; cases bret j; exact At.res (.inl rfl) rfl rfl ⟨rfl, rfl⟩
     ··refine At.condF rfl (decide_eq_false h1070) ?_
       refine At.skip ?_; refine At.ibn ?_; refine At.thn (At.region (At.run 3 rfl (At.nil ?_))); have j := bnx hf_ j; exact fun a w e hs => ⟨m1061, (IntKind.i64.wrap (x853 + 1)), hlt1063, j, e.sub ⟨rfl, rfl, rfl, trivial⟩, hs⟩
   ··refine At.condF rfl (decide_eq_false h1065) ?_
     refine At.exit ?_; refine At.the ?_; refine At.the ?_; exact fun a w e hs => J1064 () (bdn j ho1059) a w (e.sub trivial) hs

noncomputable def Q78.f (a0 a1 : Bs) : Option Int :=
 some (Lib.compareBytes a0 a1)
theorem Q78.callee : Callee Tryz.prog 88 := ⟨_, Tryz.func88, by kernel_rfl, by kernel_rfl⟩
theorem Q78.spec (R : Res) (Fr : List HProp)  (a0 a1 : Bs)  {r : Int} (j : Q78.f a0 a1 = some r) :
 Spec Tryz.prog 88 [.string ⟨(a0).toArray⟩, .string ⟨(a1).toArray⟩] R (Fr) (fun v l' => v = .int .i64 r ∧ Fr = l') := by
 refine Spec.of Tryz.func88 rfl rfl ?_; unfold Q78.f at j; have j := brun j; refine At.seq (At.region (At.run 1 rfl (At.nil (At.thn (At.seq (At.region (At.run 2 rfl ?_))))))); refine At.y (Y.ext bytealg_cmpstring.ext rfl rfl (fun w => Q240 _ _ w)) rfl rfl rfl ?_; refine At.run 1 rfl (At.nil (At.thn (At.ret ?_))); cases bret j; exact At.res (.inl rfl) rfl rfl ⟨rfl, rfl⟩

noncomputable def Q64.f (a0 a1 : Bs) : Option Int :=
 (Q78.f a0 a1).bind fun t252 =>
 some t252
theorem Q64.callee : Callee Tryz.prog 57 := ⟨_, Tryz.func57, by kernel_rfl, by kernel_rfl⟩
theorem Q64.spec (R : Res) (Fr : List HProp)  (a0 a1 : Bs)  {r : Int} (j : Q64.f a0 a1 = some r) :
 Spec Tryz.prog 57 [.string ⟨(a0).toArray⟩, .string ⟨(a1).toArray⟩] R (Fr) (fun v l' => v = .int .i64 r ∧ Fr = l') := by
 refine Spec.of Tryz.func57 rfl rfl ?_; unfold Q64.f at j; have j := brun j; refine At.seq (At.region (At.run 1 rfl (At.nil (At.thn (At.seq (At.region (At.run 2 rfl ?_))))))); obtain ⟨t252, hc253, j⟩ := bbind j; refine At.call rfl Q78.callee rfl rfl rfl (Q78.spec _ _  a0 a1  hc253) ?_; rintro _ _ ⟨rfl, rfl⟩; refine At.run 1 rfl (At.nil (At.thn (At.ret ?_))); cases bret j; exact At.res (.inl rfl) rfl rfl ⟨rfl, rfl⟩

noncomputable def Q39.l0b (a0 : List Bs) (x853 : Int) : Option ((Int) ⊕ ((Unit) ⊕ (Bool))) :=
 if x853 < (a0.length : Int) then
 if (0 : Int) ≤ IntKind.i64.wrap (x853 - 1) ∧ IntKind.i64.wrap (x853 - 1) < (a0.length : Int) then
 if (0 : Int) ≤ x853 ∧ x853 < (a0.length : Int) then
 (Q64.f (gt a0 (IntKind.i64.wrap (x853 - 1))) (gt a0 x853)).bind fun t1068 =>
 if 0 ≤ t1068 then
 upL (some false)
 else
 nx (IntKind.i64.wrap (x853 + 1))
 else none
 else none
 else
 dn (.inl ())
noncomputable def Q39.l0 (a0 : List Bs) (x853 : Int) : Option ((Unit) ⊕ (Bool)) := iter (fun t_ : Int => Q39.l0b a0 t_) x853
noncomputable def Q39.f (a0 : List Bs) : Option Bool :=
 jn (Q39.l0 a0 1) (fun (_ : Unit) =>
 some true)
theorem Q39.callee : Callee Tryz.prog 56 := ⟨_, Tryz.func56, by kernel_rfl, by kernel_rfl⟩
theorem Q39.spec (R : Res) (Fr : List HProp) (A0 : Option Addr) (n0 : Nat) (c0 : Nat) (a0 : List Bs) (hr0 : RdS Fl.bs.rep R.heap A0 a0) (hn0 : a0.length = n0) (hc0 : n0 ≤ c0) {r : Bool} (j : Q39.f a0 = some r) :
 Spec Tryz.prog 56 [.slice A0 n0 c0, .func (.func 57) #[] #[]] R (Fr) (fun v l' => v = .bool r ∧ Fr = l') := by
 subst hn0; refine Spec.of Tryz.func56 rfl rfl ?_; unfold Q39.f at j; have j := brun j; refine At.seq (At.region (At.run 1 rfl (At.nil (At.thn (At.seq (At.seq (At.region ?_))))))); refine At.run 1 rfl (At.nil (At.thn ?_)); refine At.block ?_; obtain ⟨G1054, hl1055, hr1056, j⟩ := bjoin j; obtain ⟨o1057, hlo1058, ho1059⟩ := bsome j; clear j; unfold Q39.l0 at hlo1058; obtain ⟨m1060, hit1062⟩ := Q25.1 hlo1058; clear hlo1058; refine At.loopJ (X := Int) (Y := Unit) (e0 := 0) (fun x853 => [(0, .slice A0 a0.length c0), (1, .func (.func 57) #[] #[]), (5, .int .i64 x853)]) (fun x853 => Fr) (fun m_ => fun x853 => iterN (fun t_ : Int => Q39.l0b a0 t_) m_ x853 = some o1057) m1060 1 hit1062 (fun _ => []) (fun _ => Fr) (fun _ => G1054 (.inl ()) = some r) (fun a w e hs => ⟨e.sub ⟨rfl, rfl, rfl, trivial⟩, (by exact hs)⟩) ?_ (fun J1064 => ?_)
 ·rintro _ j; have j := (hl1055 _).symm.trans j
  ·refine At.ibx ?_; refine At.thn (At.seq (At.region (At.run 1 rfl (At.nil (At.thn (At.ret ?_)))))); cases bret j; exact At.res (.inl rfl) rfl rfl ⟨rfl, rfl⟩
 ·clear hit1062 m1060; rintro m1060 x853 hit1062; obtain ⟨m1061, f_, hlt1063, hf_, j⟩ := bit hit1062; clear hit1062; have j : (Q39.l0b a0 x853).bind _ = some o1057 := j; unfold Q39.l0b at j
  ·refine At.seq (At.seq (At.region (At.run 4 rfl (At.nil (At.thn ?_))))); rcases bite j with ⟨h1065, j⟩ | ⟨h1065, j⟩
   ··refine At.condT rfl (decide_eq_true h1065) ?_
     refine At.skip (At.thn (At.seq ?_)); refine At.block ?_; refine At.seq ?_; refine At.quiet (by kernel_rfl) ?_; refine At.Quiet.run 4 rfl ?_; obtain ⟨h1066, j⟩ := bnone j; refine At.Quiet.y (Y.ixRd hr0 rfl rfl rfl rfl rfl rfl rfl h1066.1 h1066.2) rfl rfl rfl ?_; refine At.Quiet.y (Y.ldFl hr0 rfl (q := 0) rfl rfl h1066.1 h1066.2 rfl rfl rfl) rfl rfl rfl ?_; refine At.Quiet.run 2 rfl ?_; obtain ⟨h1067, j⟩ := bnone j; refine At.Quiet.y (Y.ixRd hr0 rfl rfl rfl rfl rfl rfl rfl h1067.1 h1067.2) rfl rfl rfl ?_; refine At.Quiet.y (Y.ldFl hr0 rfl (q := 0) rfl rfl h1067.1 h1067.2 rfl rfl rfl) rfl rfl rfl ?_; obtain ⟨t1068, hc1069, j⟩ := bbind j; refine At.Quiet.call rfl Q64.callee rfl rfl rfl (Q64.spec _ _  (gt a0 (IntKind.i64.wrap (x853 - 1))) (gt a0 x853)  hc1069) (fun _ _ h_ => ⟨h_.1, fun _ hs => h_.2 ▸ hs⟩) ?_; refine At.Quiet.run 1 rfl (At.Quiet.nil (At.thn ?_)); rcases bite j with ⟨h1070, j⟩ | ⟨h1070, j⟩
     ··refine At.condT rfl (decide_eq_true h1070) ?_
       refine At.seq (At.region (At.run 1 rfl (At.nil (At.thn (At.ret ?_))))); refine At.ibr ?_; refine At.thr ?_; have j := bupL hr1056 ho1059 j; refine At.thr ?_; refine At.ibr ?_; refine At.thr ?_; cases bret j; exact At.res (.inl rfl) rfl rfl ⟨rfl, rfl⟩
     ··refine At.condF rfl (decide_eq_false h1070) ?_
       refine At.skip ?_; refine At.ibn ?_; refine At.thn (At.region (At.run 3 rfl (At.nil ?_))); have j := bnx hf_ j; exact fun a w e hs => ⟨m1061, (IntKind.i64.wrap (x853 + 1)), hlt1063, j, e.sub ⟨rfl, rfl, rfl, trivial⟩, hs⟩
   ··refine At.condF rfl (decide_eq_false h1065) ?_
     refine At.exit ?_; refine At.the ?_; refine At.the ?_; exact fun a w e hs => J1064 () (bdn j ho1059) a w (e.sub trivial) hs

noncomputable def Q72.f (a0_0 : Bs) (a0_1 : List Int) (a1_0 : Bs) (a1_1 : List Int) : Option Int :=
 (Q64.f a0_0 a1_0).bind fun t256 =>
 some t256
theorem Q72.callee : Callee Tryz.prog 59 := ⟨_, Tryz.func59, by kernel_rfl, by kernel_rfl⟩
theorem Q72.spec (R : Res) (Fr : List HProp) (A0_1 : Option Addr) (n0_1 : Nat) (c0_1 : Nat) (A1_1 : Option Addr) (n1_1 : Nat) (c1_1 : Nat) (a0_0 : Bs) (a0_1 : List Int) (a1_0 : Bs) (a1_1 : List Int) (hr0_1 : RdS (Fl.int .i64).rep R.heap A0_1 a0_1) (hn0_1 : a0_1.length = n0_1) (hc0_1 : n0_1 ≤ c0_1) (hr1_1 : RdS (Fl.int .i64).rep R.heap A1_1 a1_1) (hn1_1 : a1_1.length = n1_1) (hc1_1 : n1_1 ≤ c1_1) {r : Int} (j : Q72.f a0_0 a0_1 a1_0 a1_1 = some r) :
 Spec Tryz.prog 59 [.agg #[.string ⟨(a0_0).toArray⟩, .slice A0_1 n0_1 c0_1], .agg #[.string ⟨(a1_0).toArray⟩, .slice A1_1 n1_1 c1_1]] R (Fr) (fun v l' => v = .int .i64 r ∧ Fr = l') := by
 subst hn0_1; subst hn1_1; refine Spec.of Tryz.func59 rfl rfl ?_; unfold Q72.f at j; have j := brun j; refine At.seq (At.region ?_); refine At.box rfl rfl (cs := [.string ⟨(a0_0).toArray⟩, .slice A0_1 a0_1.length c0_1]) rfl rfl (fun b254 => ?_); refine At.box rfl rfl (cs := [.string ⟨(a1_0).toArray⟩, .slice A1_1 a1_1.length c1_1]) rfl rfl (fun b255 => ?_); refine At.run 1 rfl (At.nil (At.thn (At.seq (At.region (At.run 1 rfl (At.y (Y.load rfl rfl (.s .z) rfl rfl rfl) rfl rfl rfl (At.run 1 rfl ?_))))))); refine At.y (Y.load rfl rfl .z rfl rfl rfl) rfl rfl rfl ?_; obtain ⟨t256, hc257, j⟩ := bbind j; refine At.call rfl Q64.callee rfl rfl rfl (Q64.spec _ _  a0_0 a1_0  hc257) ?_; rintro _ _ ⟨rfl, rfl⟩; refine At.run 1 rfl (At.nil (At.thn (At.ret (At.drop .z (At.drop .z ?_))))); cases bret j; exact At.res (.inl rfl) rfl rfl ⟨rfl, rfl⟩

noncomputable def Q38.l0b (a0 : List Q2) (x853 : Int) : Option ((Int) ⊕ ((Unit) ⊕ (Bool))) :=
 if x853 < (a0.length : Int) then
 if (0 : Int) ≤ IntKind.i64.wrap (x853 - 1) ∧ IntKind.i64.wrap (x853 - 1) < (a0.length : Int) then
 if (0 : Int) ≤ x853 ∧ x853 < (a0.length : Int) then
 (Q72.f ((gt a0 (IntKind.i64.wrap (x853 - 1))).Name) ((gt a0 (IntKind.i64.wrap (x853 - 1))).States) ((gt a0 x853).Name) ((gt a0 x853).States)).bind fun t1082 =>
 if 0 ≤ t1082 then
 upL (some false)
 else
 nx (IntKind.i64.wrap (x853 + 1))
 else none
 else none
 else
 dn (.inl ())
noncomputable def Q38.l0 (a0 : List Q2) (x853 : Int) : Option ((Unit) ⊕ (Bool)) := iter (fun t_ : Int => Q38.l0b a0 t_) x853
noncomputable def Q38.f (a0 : List Q2) : Option Bool :=
 jn (Q38.l0 a0 1) (fun (_ : Unit) =>
 some true)
theorem Q38.callee : Callee Tryz.prog 58 := ⟨_, Tryz.func58, by kernel_rfl, by kernel_rfl⟩
theorem Q38.spec (R : Res) (Fr : List HProp) (A0 : Option Addr) (n0 : Nat) (c0 : Nat) (a0 : List Q2) (hr0 : RdS Q2.rep R.heap A0 a0) (hn0 : a0.length = n0) (hc0 : n0 ≤ c0) {r : Bool} (j : Q38.f a0 = some r) :
 Spec Tryz.prog 58 [.slice A0 n0 c0, .func (.func 59) #[] #[]] R (Fr) (fun v l' => v = .bool r ∧ Fr = l') := by
 subst hn0; refine Spec.of Tryz.func58 rfl rfl ?_; unfold Q38.f at j; have j := brun j; refine At.seq (At.region (At.run 1 rfl (At.nil (At.thn (At.seq (At.seq (At.region ?_))))))); refine At.run 1 rfl (At.nil (At.thn ?_)); refine At.block ?_; obtain ⟨G1054, hl1055, hr1056, j⟩ := bjoin j; obtain ⟨o1057, hlo1058, ho1059⟩ := bsome j; clear j; unfold Q38.l0 at hlo1058; obtain ⟨m1060, hit1062⟩ := Q25.1 hlo1058; clear hlo1058; refine At.loopJ (X := Int) (Y := Unit) (e0 := 0) (fun x853 => [(0, .slice A0 a0.length c0), (1, .func (.func 59) #[] #[]), (5, .int .i64 x853)]) (fun x853 => Fr) (fun m_ => fun x853 => iterN (fun t_ : Int => Q38.l0b a0 t_) m_ x853 = some o1057) m1060 1 hit1062 (fun _ => []) (fun _ => Fr) (fun _ => G1054 (.inl ()) = some r) (fun a w e hs => ⟨e.sub ⟨rfl, rfl, rfl, trivial⟩, (by exact hs)⟩) ?_ (fun J1064 => ?_)
 ·rintro _ j; have j := (hl1055 _).symm.trans j
  ·refine At.ibx ?_; refine At.thn (At.seq (At.region (At.run 1 rfl (At.nil (At.thn (At.ret ?_)))))); cases bret j; exact At.res (.inl rfl) rfl rfl ⟨rfl, rfl⟩
 ·clear hit1062 m1060; rintro m1060 x853 hit1062; obtain ⟨m1061, f_, hlt1063, hf_, j⟩ := bit hit1062; clear hit1062; have j : (Q38.l0b a0 x853).bind _ = some o1057 := j; unfold Q38.l0b at j
  ·refine At.seq (At.seq (At.region (At.run 4 rfl (At.nil (At.thn ?_))))); rcases bite j with ⟨h1065, j⟩ | ⟨h1065, j⟩
   ··refine At.condT rfl (decide_eq_true h1065) ?_
     refine At.skip (At.thn (At.seq ?_)); refine At.block ?_; refine At.seq ?_; refine At.quiet (by kernel_rfl) ?_; refine At.Quiet.run 4 rfl ?_; obtain ⟨h1066, j⟩ := bnone j; refine At.Quiet.y (Y.ixRd hr0 rfl rfl rfl rfl rfl rfl rfl h1066.1 h1066.2) rfl rfl rfl ?_; obtain ⟨cs1067, hK1068, hy1069⟩ := RdS.whole (P := Tryz.prog) hr0 (Sub.refl _) rfl h1066.1 h1066.2; obtain ⟨_, _, rfl, rfl, ⟨A1070, c1071, rfl, hc1072, hr1073⟩⟩ := hK1068; refine At.Quiet.y (hy1069 rfl rfl rfl rfl) rfl rfl rfl ?_; refine At.Quiet.run 2 rfl ?_; obtain ⟨h1074, j⟩ := bnone j; refine At.Quiet.y (Y.ixRd hr0 rfl rfl rfl rfl rfl rfl rfl h1074.1 h1074.2) rfl rfl rfl ?_; obtain ⟨cs1075, hK1076, hy1077⟩ := RdS.whole (P := Tryz.prog) hr0 (Sub.refl _) rfl h1074.1 h1074.2; obtain ⟨_, _, rfl, rfl, ⟨A1078, c1079, rfl, hc1080, hr1081⟩⟩ := hK1076; refine At.Quiet.y (hy1077 rfl rfl rfl rfl) rfl rfl rfl ?_; obtain ⟨t1082, hc1083, j⟩ := bbind j; refine At.Quiet.call rfl Q72.callee rfl rfl rfl (Q72.spec _ _ A1070 ((gt a0 (IntKind.i64.wrap (x853 - 1))).States.length) c1071 A1078 ((gt a0 x853).States.length) c1079 ((gt a0 (IntKind.i64.wrap (x853 - 1))).Name) ((gt a0 (IntKind.i64.wrap (x853 - 1))).States) ((gt a0 x853).Name) ((gt a0 x853).States) hr1073 rfl hc1072 hr1081 rfl hc1080 hc1083) (fun _ _ h_ => ⟨h_.1, fun _ hs => h_.2 ▸ hs⟩) ?_; refine At.Quiet.run 1 rfl (At.Quiet.nil (At.thn ?_)); rcases bite j with ⟨h1084, j⟩ | ⟨h1084, j⟩
     ··refine At.condT rfl (decide_eq_true h1084) ?_
       refine At.seq (At.region (At.run 1 rfl (At.nil (At.thn (At.ret ?_))))); refine At.ibr ?_; refine At.thr ?_; have j := bupL hr1056 ho1059 j; refine At.thr ?_; refine At.ibr ?_; refine At.thr ?_; cases bret j; exact At.res (.inl rfl) rfl rfl ⟨rfl, rfl⟩
     ··refine At.condF rfl (decide_eq_false h1084) ?_
       refine At.skip ?_; refine At.ibn ?_; refine At.thn (At.region (At.run 3 rfl (At.nil ?_))); have j := bnx hf_ j; exact fun a w e hs => ⟨m1061, (IntKind.i64.wrap (x853 + 1)), hlt1063, j, e.sub ⟨rfl, rfl, rfl, trivial⟩, hs⟩
   ··refine At.condF rfl (decide_eq_false h1065) ?_
     refine At.exit ?_; refine At.the ?_; refine At.the ?_; exact fun a w e hs => J1064 () (bdn j ho1059) a w (e.sub trivial) hs

noncomputable def Q18.l1b (a0_0 : Int) (a0_1 : List Bs) (a0_2 : List Q0) (a0_3 : List Q2) (x2493 : Int) : Option ((Int) ⊕ ((Unit) ⊕ (Bool))) :=
 if x2493 < (a0_3.length : Int) then
 if (0 : Int) ≤ x2493 ∧ x2493 < (a0_3.length : Int) then
 (Q55.f ((gt a0_3 x2493).Name)).bind fun t3343 =>
 jn (
 if t3343 = true then
 (Q42.f ((gt a0_3 x2493).States)).bind fun t3760 =>
 some (.inl (!t3760))
 else
 some (.inl true)) (fun (x3545 : Bool) =>
 jn (
 if x3545 = true then
 some (.inl true)
 else
 (Q76.f ((gt a0_3 x2493).States) a0_0 a0_1 a0_2 a0_3).bind fun t3757 =>
 some (.inl t3757)) (fun (x3750 : Bool) =>
 if x3750 = true then
 upL (some false)
 else
 nx (IntKind.i64.wrap (x2493 + 1))))
 else none
 else
 dn (.inl ())
noncomputable def Q18.l1 (a0_0 : Int) (a0_1 : List Bs) (a0_2 : List Q0) (a0_3 : List Q2) (x2493 : Int) : Option ((Unit) ⊕ (Bool)) := iter (fun t_ : Int => Q18.l1b a0_0 a0_1 a0_2 a0_3 t_) x2493
noncomputable def Q18.l0b (a0_0 : Int) (a0_1 : List Bs) (a0_2 : List Q0) (a0_3 : List Q2) (x1678 x1679 : Int) : Option ((Int × Int) ⊕ ((Int) ⊕ (Bool))) :=
 if x1679 < (a0_2.length : Int) then
 if (0 : Int) ≤ x1679 ∧ x1679 < (a0_2.length : Int) then
 (Q57.f ((gt a0_2 x1679).From) a0_0 a0_1 a0_2 a0_3).bind fun t3765 =>
 jn (
 if t3765 = true then
 (Q57.f ((gt a0_2 x1679).To) a0_0 a0_1 a0_2 a0_3).bind fun t4387 =>
 some (.inl (!t4387))
 else
 some (.inl true)) (fun (x3967 : Bool) =>
 jn (
 if x3967 = true then
 some (.inl true)
 else
 some (.inl (decide ((gt a0_2 x1679).Action < 0)))) (fun (x4172 : Bool) =>
 jn (
 if x4172 = true then
 some (.inl true)
 else
 some (.inl (decide ((a0_1.length : Int) ≤ (gt a0_2 x1679).Action)))) (fun (x4377 : Bool) =>
 if x4377 = true then
 upL (some false)
 else
 if (0 : Int) ≤ (gt a0_2 x1679).Action then
 nx (bor .u8 x1678 (Bw.shl .u8 1 ((gt a0_2 x1679).Action)), IntKind.i64.wrap (x1679 + 1))
 else none)))
 else none
 else
 dn (.inl x1678)
noncomputable def Q18.l0 (a0_0 : Int) (a0_1 : List Bs) (a0_2 : List Q0) (a0_3 : List Q2) (x1678 x1679 : Int) : Option ((Int) ⊕ (Bool)) := iter (fun t_ : Int × Int => Q18.l0b a0_0 a0_1 a0_2 a0_3 t_.1 t_.2) (x1678, x1679)
noncomputable def Q18.f (a0_0 : Int) (a0_1 : List Bs) (a0_2 : List Q0) (a0_3 : List Q2) : Option Bool :=
 jn (
 if a0_0 < 1 then
 some (.inl true)
 else
 some (.inl (decide (24 < a0_0)))) (fun (x454 : Bool) =>
 jn (
 if x454 = true then
 some (.inl true)
 else
 some (.inl (decide (8 < (a0_1.length : Int))))) (fun (x659 : Bool) =>
 jn (
 if x659 = true then
 some (.inl true)
 else
 some (.inl (decide (8 < (a0_3.length : Int))))) (fun (x864 : Bool) =>
 jn (
 if x864 = true then
 some (.inl true)
 else
 some (.inl (decide (200 < (a0_2.length : Int))))) (fun (x1069 : Bool) =>
 if x1069 = true then
 some false
 else
 jn (Q18.l0 a0_0 a0_1 a0_2 a0_3 0 0) (fun (x1880 : Int) =>
 jn (Q18.l1 a0_0 a0_1 a0_2 a0_3 0) (fun (_ : Unit) =>
 (Q77.f a0_1).bind fun t2705 =>
 jn (
 if t2705 = true then
 some (.inl true)
 else
 if (0 : Int) ≤ (a0_1.length : Int) then
 some (.inl (!(decide (x1880 = IntKind.u8.wrap ((Bw.shl .u8 1 (a0_1.length : Int)) - 1)))))
 else none) (fun (x2907 : Bool) =>
 if x2907 = true then
 some false
 else
 (Q43.f a0_2).bind fun t2913 =>
 jn (
 if t2913 = true then
 (Q39.f a0_1).bind fun t3329 =>
 some (.inl t3329)
 else
 some (.inl false)) (fun (x3115 : Bool) =>
 jn (
 if x3115 = true then
 (Q38.f a0_3).bind fun t3326 =>
 some (.inl t3326)
 else
 some (.inl false)) (fun (x3320 : Bool) =>
 some x3320)))))))))
theorem Q18.callee : Callee Tryz.prog 18 := ⟨_, Tryz.func18, by kernel_rfl, by kernel_rfl⟩
theorem Q18.spec (R : Res) (Fr : List HProp) (A0_1 : Option Addr) (n0_1 : Nat) (c0_1 : Nat) (A0_2 : Option Addr) (n0_2 : Nat) (c0_2 : Nat) (A0_3 : Option Addr) (n0_3 : Nat) (c0_3 : Nat) (a0_0 : Int) (a0_1 : List Bs) (a0_2 : List Q0) (a0_3 : List Q2) (hr0_1 : RdS Fl.bs.rep R.heap A0_1 a0_1) (hn0_1 : a0_1.length = n0_1) (hc0_1 : n0_1 ≤ c0_1) (hr0_2 : RdS Q0.fl.rep R.heap A0_2 a0_2) (hn0_2 : a0_2.length = n0_2) (hc0_2 : n0_2 ≤ c0_2) (hr0_3 : RdS Q2.rep R.heap A0_3 a0_3) (hn0_3 : a0_3.length = n0_3) (hc0_3 : n0_3 ≤ c0_3) {r : Bool} (j : Q18.f a0_0 a0_1 a0_2 a0_3 = some r) :
 Spec Tryz.prog 18 [.agg #[.int .i64 a0_0, .slice A0_1 n0_1 c0_1, .slice A0_2 n0_2 c0_2, .slice A0_3 n0_3 c0_3]] R (Fr) (fun v l' => v = .bool r ∧ Fr = l') := by
 subst hn0_1; subst hn0_2; subst hn0_3; refine Spec.of Tryz.func18 rfl rfl ?_; unfold Q18.f at j; have j := brun j; refine At.seq (At.region ?_); refine At.box rfl rfl (cs := [.int .i64 a0_0, .slice A0_1 a0_1.length c0_1, .slice A0_2 a0_2.length c0_2, .slice A0_3 a0_3.length c0_3]) rfl rfl (fun b253 => ?_); refine At.run 1 rfl (At.nil (At.thn (At.seq (At.seq (At.region (At.run 1 rfl (At.y (Y.load rfl rfl .z rfl rfl rfl) rfl rfl rfl ?_))))))); refine At.run 2 rfl ?_; obtain ⟨G455, hl456, hr457, j⟩ := bjoin j; refine At.joinO 4 (X := Bool) (fun x454 => [(1, .pointer (some ⟨b253, 0, none⟩)), (16, .bool x454)]) (fun x454 => pt b253 (.cells [.int .i64 a0_0, .slice A0_1 a0_1.length c0_1, .slice A0_2 a0_2.length c0_2, .slice A0_3 a0_3.length c0_3].toArray 26) :: Fr) (fun x454 => G455 (.inl x454) = some r) ?_ (fun J458 => ?_)
 ·rintro x454 j; have j := (hl456 _).symm.trans j
  ·refine At.run 1 rfl ?_; obtain ⟨G660, hl661, hr662, j⟩ := bjoin j; refine At.joinO 5 (X := Bool) (fun x659 => [(1, .pointer (some ⟨b253, 0, none⟩)), (22, .bool x659)]) (fun x659 => pt b253 (.cells [.int .i64 a0_0, .slice A0_1 a0_1.length c0_1, .slice A0_2 a0_2.length c0_2, .slice A0_3 a0_3.length c0_3].toArray 26) :: Fr) (fun x659 => G660 (.inl x659) = some r) ?_ (fun J663 => ?_)
   ·rintro x659 j; have j := (hl661 _).symm.trans j
    ·refine At.run 1 rfl ?_; obtain ⟨G865, hl866, hr867, j⟩ := bjoin j; refine At.joinO 5 (X := Bool) (fun x864 => [(1, .pointer (some ⟨b253, 0, none⟩)), (28, .bool x864)]) (fun x864 => pt b253 (.cells [.int .i64 a0_0, .slice A0_1 a0_1.length c0_1, .slice A0_2 a0_2.length c0_2, .slice A0_3 a0_3.length c0_3].toArray 26) :: Fr) (fun x864 => G865 (.inl x864) = some r) ?_ (fun J868 => ?_)
     ·rintro x864 j; have j := (hl866 _).symm.trans j
      ·refine At.run 1 rfl ?_; obtain ⟨G1070, hl1071, hr1072, j⟩ := bjoin j; refine At.joinO 5 (X := Bool) (fun x1069 => [(1, .pointer (some ⟨b253, 0, none⟩)), (34, .bool x1069)]) (fun x1069 => pt b253 (.cells [.int .i64 a0_0, .slice A0_1 a0_1.length c0_1, .slice A0_2 a0_2.length c0_2, .slice A0_3 a0_3.length c0_3].toArray 26) :: Fr) (fun x1069 => G1070 (.inl x1069) = some r) ?_ (fun J1073 => ?_)
       ·rintro x1069 j; have j := (hl1071 _).symm.trans j
        ·refine At.nil (At.thn ?_); rcases bite j with ⟨h1074, j⟩ | ⟨h1074, j⟩
         ··refine At.condT rfl h1074 ?_
           refine At.seq (At.region (At.run 1 rfl (At.nil (At.thn (At.ret (At.thr (At.drop .z ?_))))))); cases bret j; exact At.res (.inl rfl) rfl rfl ⟨rfl, rfl⟩
         ··refine At.condF rfl (bn h1074) ?_
           refine At.skip (At.thn (At.seq (At.region (At.run 1 rfl ?_)))); refine At.alloc rfl rfl rfl (fun b1075 => ?_); refine At.store rfl rfl rfl rfl .z rfl rfl rfl (.c .n) ?_; refine At.nil (At.thn (At.seq (At.region (At.run 1 rfl (At.nil (At.thn (At.seq ?_))))))); refine At.seq (At.region (At.run 1 rfl (At.y (Y.load rfl rfl (.s .z) rfl rfl rfl) rfl rfl rfl (At.run 2 rfl (At.nil (At.thn ?_)))))); refine At.block ?_; obtain ⟨G1881, hl1882, hr1883, j⟩ := bjoin j; obtain ⟨o1884, hlo1885, ho1886⟩ := bsome j; clear j; unfold Q18.l0 at hlo1885; obtain ⟨m1887, hit1889⟩ := Q25.1 hlo1885; clear hlo1885; refine At.loopJ (X := Int × Int) (Y := Int) (e0 := 0) (fun s_ => [(1, .pointer (some ⟨b253, 0, none⟩)), (3, .pointer (some ⟨b1075, 0, none⟩)), (4, .int .u8 s_.1), (37, .slice A0_2 a0_2.length c0_2), (38, .int .i64 (a0_2.length : Int)), (39, .int .i64 s_.2)]) (fun s_ => pt b1075 (.cells [.func (.func 46) #[] #[.pointer (some ⟨b253, 0, none⟩)]].toArray 45) :: pt b253 (.cells [.int .i64 a0_0, .slice A0_1 a0_1.length c0_1, .slice A0_2 a0_2.length c0_2, .slice A0_3 a0_3.length c0_3].toArray 26) :: Fr) (fun m_ => fun s_ => iterN (fun t_ : Int × Int => Q18.l0b a0_0 a0_1 a0_2 a0_3 t_.1 t_.2) m_ (s_.1, s_.2) = some o1884) m1887 (0, 0) hit1889 (fun x1880 => [(1, .pointer (some ⟨b253, 0, none⟩)), (3, .pointer (some ⟨b1075, 0, none⟩)), (4, .int .u8 x1880)]) (fun x1880 => pt b1075 (.cells [.func (.func 46) #[] #[.pointer (some ⟨b253, 0, none⟩)]].toArray 45) :: pt b253 (.cells [.int .i64 a0_0, .slice A0_1 a0_1.length c0_1, .slice A0_2 a0_2.length c0_2, .slice A0_3 a0_3.length c0_3].toArray 26) :: Fr) (fun x1880 => G1881 (.inl x1880) = some r) (fun a w e hs => ⟨e.sub ⟨rfl, rfl, rfl, rfl, rfl, rfl, trivial⟩, (by exact hs)⟩) ?_ (fun J1891 => ?_)
           ·rintro x1880 j; have j := (hl1882 _).symm.trans j
            ·refine At.ibx ?_; refine At.thn (At.seq (At.seq (At.region (At.run 1 rfl (At.y (Y.load rfl rfl (.s .z) rfl rfl rfl) rfl rfl rfl (At.run 2 rfl (At.nil ?_))))))); refine At.thn ?_; refine At.block ?_; obtain ⟨G2694, hl2695, hr2696, j⟩ := bjoin j; obtain ⟨o2697, hlo2698, ho2699⟩ := bsome j; clear j; unfold Q18.l1 at hlo2698; obtain ⟨m2700, hit2702⟩ := Q25.1 hlo2698; clear hlo2698; refine At.loopJ (X := Int) (Y := Unit) (e0 := 2) (fun x2493 => [(1, .pointer (some ⟨b253, 0, none⟩)), (3, .pointer (some ⟨b1075, 0, none⟩)), (4, .int .u8 x1880), (75, .slice A0_3 a0_3.length c0_3), (76, .int .i64 (a0_3.length : Int)), (77, .int .i64 x2493)]) (fun x2493 => pt b1075 (.cells [.func (.func 46) #[] #[.pointer (some ⟨b253, 0, none⟩)]].toArray 45) :: pt b253 (.cells [.int .i64 a0_0, .slice A0_1 a0_1.length c0_1, .slice A0_2 a0_2.length c0_2, .slice A0_3 a0_3.length c0_3].toArray 26) :: Fr) (fun m_ => fun x2493 => iterN (fun t_ : Int => Q18.l1b a0_0 a0_1 a0_2 a0_3 t_) m_ x2493 = some o2697) m2700 0 hit2702 (fun _ => [(1, .pointer (some ⟨b253, 0, none⟩)), (4, .int .u8 x1880)]) (fun _ => pt b1075 (.cells [.func (.func 46) #[] #[.pointer (some ⟨b253, 0, none⟩)]].toArray 45) :: pt b253 (.cells [.int .i64 a0_0, .slice A0_1 a0_1.length c0_1, .slice A0_2 a0_2.length c0_2, .slice A0_3 a0_3.length c0_3].toArray 26) :: Fr) (fun _ => G2694 (.inl ()) = some r) (fun a w e hs => ⟨e.sub ⟨rfl, rfl, rfl, rfl, rfl, rfl, trivial⟩, (by exact hs)⟩) ?_ (fun J2704 => ?_)
             ·rintro _ j; have j := (hl2695 _).symm.trans j
              ·refine At.ibx ?_; refine At.thn (At.seq (At.seq (At.region (At.run 1 rfl (At.y (Y.load rfl rfl (.s .z) rfl rfl rfl) rfl rfl rfl ?_))))); obtain ⟨t2705, hc2706, j⟩ := bbind j; refine At.call rfl Q77.callee rfl rfl rfl (Q77.spec _ _ A0_1 a0_1.length c0_1 a0_1 hr0_1 rfl hc0_1 hc2706) ?_; rintro _ _ ⟨rfl, rfl⟩; refine At.run 1 rfl ?_; obtain ⟨G2908, hl2909, hr2910, j⟩ := bjoin j; refine At.joinO 8 (X := Bool) (fun x2907 => [(1, .pointer (some ⟨b253, 0, none⟩)), (109, .bool x2907)]) (fun x2907 => pt b1075 (.cells [.func (.func 46) #[] #[.pointer (some ⟨b253, 0, none⟩)]].toArray 45) :: pt b253 (.cells [.int .i64 a0_0, .slice A0_1 a0_1.length c0_1, .slice A0_2 a0_2.length c0_2, .slice A0_3 a0_3.length c0_3].toArray 26) :: Fr) (fun x2907 => G2908 (.inl x2907) = some r) ?_ (fun J2911 => ?_)
               ·rintro x2907 j; have j := (hl2909 _).symm.trans j
                ·refine At.nil (At.thn ?_); rcases bite j with ⟨h2912, j⟩ | ⟨h2912, j⟩
                 ··refine At.condT rfl h2912 ?_
                   refine At.seq (At.region (At.run 1 rfl (At.nil (At.thn (At.ret (At.thr (At.drop .z ?_))))))); refine At.drop .z ?_; cases bret j; exact At.res (.inl rfl) rfl rfl ⟨rfl, rfl⟩
                 ··refine At.condF rfl (bn h2912) ?_
                   refine At.skip (At.thn (At.seq (At.region (At.run 1 rfl (At.y (Y.load rfl rfl (.s .z) rfl rfl rfl) rfl rfl rfl ?_))))); obtain ⟨t2913, hc2914, j⟩ := bbind j; refine At.call rfl Q43.callee rfl rfl rfl (Q43.spec _ _ A0_2 a0_2.length c0_2 a0_2 hr0_2 rfl hc0_2 hc2914) ?_; rintro _ _ ⟨rfl, rfl⟩; refine At.run 1 rfl ?_; obtain ⟨G3116, hl3117, hr3118, j⟩ := bjoin j; refine At.joinO 4 (X := Bool) (fun x3115 => [(1, .pointer (some ⟨b253, 0, none⟩)), (117, .bool x3115)]) (fun x3115 => pt b1075 (.cells [.func (.func 46) #[] #[.pointer (some ⟨b253, 0, none⟩)]].toArray 45) :: pt b253 (.cells [.int .i64 a0_0, .slice A0_1 a0_1.length c0_1, .slice A0_2 a0_2.length c0_2, .slice A0_3 a0_3.length c0_3].toArray 26) :: Fr) (fun x3115 => G3116 (.inl x3115) = some r) ?_ (fun J3119 => ?_)
                   ·rintro x3115 j; have j := (hl3117 _).symm.trans j
                    ·refine At.run 1 rfl ?_; obtain ⟨G3321, hl3322, hr3323, j⟩ := bjoin j; refine At.joinO 4 (X := Bool) (fun x3320 => [(122, .bool x3320)]) (fun x3320 => pt b1075 (.cells [.func (.func 46) #[] #[.pointer (some ⟨b253, 0, none⟩)]].toArray 45) :: pt b253 (.cells [.int .i64 a0_0, .slice A0_1 a0_1.length c0_1, .slice A0_2 a0_2.length c0_2, .slice A0_3 a0_3.length c0_3].toArray 26) :: Fr) (fun x3320 => G3321 (.inl x3320) = some r) ?_ (fun J3324 => ?_)
                     ·rintro x3320 j; have j := (hl3322 _).symm.trans j
                      ·refine At.run 1 rfl (At.nil (At.thn (At.ret (At.drop .z (At.drop .z ?_))))); cases bret j; exact At.res (.inl rfl) rfl rfl ⟨rfl, rfl⟩
                     ··rcases bite j with ⟨h3325, j⟩ | ⟨h3325, j⟩
                       ··refine At.know (t := 118) rfl h3325 ?_
                         refine At.run 1 rfl (At.y (Y.load rfl rfl (.s .z) rfl rfl rfl) rfl rfl rfl ?_); obtain ⟨t3326, hc3327, j⟩ := bbind j; refine At.call rfl Q38.callee rfl rfl rfl (Q38.spec _ _ A0_3 a0_3.length c0_3 a0_3 hr0_3 rfl hc0_3 hc3327) ?_; rintro _ _ ⟨rfl, rfl⟩; refine At.run 1 rfl ?_; exact At.of (J3324 t3326 j) ⟨rfl, trivial⟩
                       ··refine At.know (t := 118) rfl (bn h3325) ?_
                         refine At.run 4 rfl ?_; exact At.of (J3324 false j) ⟨rfl, trivial⟩
                   ··rcases bite j with ⟨h3328, j⟩ | ⟨h3328, j⟩
                     ··refine At.know (t := 113) rfl h3328 ?_
                       refine At.run 1 rfl (At.y (Y.load rfl rfl (.s .z) rfl rfl rfl) rfl rfl rfl ?_); obtain ⟨t3329, hc3330, j⟩ := bbind j; refine At.call rfl Q39.callee rfl rfl rfl (Q39.spec _ _ A0_1 a0_1.length c0_1 a0_1 hr0_1 rfl hc0_1 hc3330) ?_; rintro _ _ ⟨rfl, rfl⟩; refine At.run 1 rfl ?_; exact At.of (J3119 t3329 j) ⟨rfl, rfl, trivial⟩
                     ··refine At.know (t := 113) rfl (bn h3328) ?_
                       refine At.run 4 rfl ?_; exact At.of (J3119 false j) ⟨rfl, rfl, trivial⟩
               ··rcases bite j with ⟨h3331, j⟩ | ⟨h3331, j⟩
                 ··refine At.know (t := 101) rfl h3331 ?_
                   refine At.run 8 rfl ?_; exact At.of (J2911 true j) ⟨rfl, rfl, trivial⟩
                 ··refine At.know (t := 101) rfl (bn h3331) ?_
                   refine At.run 2 rfl (At.y (Y.load rfl rfl (.s .z) rfl rfl rfl) rfl rfl rfl (At.run 1 rfl ?_)); obtain ⟨h3332, j⟩ := bnone j; refine At.y (Y.shl rfl rfl h3332) rfl rfl rfl (At.run 3 rfl ?_); exact At.of (J2911 (!(decide (x1880 = IntKind.u8.wrap ((Bw.shl .u8 1 (a0_1.length : Int)) - 1)))) j) ⟨rfl, rfl, trivial⟩
             ·clear hit2702 m2700; rintro m2700 x2493 hit2702; obtain ⟨m2701, f_, hlt2703, hf_, j⟩ := bit hit2702; clear hit2702; have j : (Q18.l1b a0_0 a0_1 a0_2 a0_3 x2493).bind _ = some o2697 := j; unfold Q18.l1b at j
              ·refine At.seq (At.region (At.run 1 rfl (At.nil (At.thn (At.seq ?_))))); rcases bite j with ⟨h3333, j⟩ | ⟨h3333, j⟩
               ··refine At.condT rfl (decide_eq_true h3333) ?_
                 refine At.skip (At.thn (At.seq ?_)); refine At.block ?_; refine At.seq (At.region ?_); obtain ⟨h3334, j⟩ := bnone j; refine At.y (Y.ixRd hr0_3 rfl rfl rfl rfl rfl rfl rfl h3334.1 h3334.2) rfl rfl rfl ?_; obtain ⟨cs3335, hK3336, hy3337⟩ := RdS.whole (P := Tryz.prog) hr0_3 (Sub.refl _) rfl h3334.1 h3334.2; obtain ⟨_, _, rfl, rfl, ⟨A3338, c3339, rfl, hc3340, hr3341⟩⟩ := hK3336; refine At.y (hy3337 rfl rfl rfl rfl) rfl rfl rfl ?_; refine At.alloc rfl rfl rfl (fun b3342 => ?_); refine At.store rfl rfl rfl rfl .z rfl rfl rfl (.c (.c .n)) ?_; refine At.nil (At.thn (At.seq (At.region (At.run 1 rfl (At.y (Y.load rfl rfl .z rfl rfl rfl) rfl rfl rfl ?_))))); obtain ⟨t3343, hc3344, j⟩ := bbind j; refine At.call rfl Q55.callee rfl rfl rfl (Q55.spec _ _  ((gt a0_3 x2493).Name)  hc3344) ?_; rintro _ _ ⟨rfl, rfl⟩; refine At.run 2 rfl ?_; obtain ⟨G3546, hl3547, hr3548, j⟩ := bjoin j; refine At.joinO 5 (X := Bool) (fun x3545 => [(1, .pointer (some ⟨b253, 0, none⟩)), (3, .pointer (some ⟨b1075, 0, none⟩)), (4, .int .u8 x1880), (8, .pointer (some ⟨b3342, 0, none⟩)), (75, .slice A0_3 a0_3.length c0_3), (76, .int .i64 (a0_3.length : Int)), (77, .int .i64 x2493), (90, .bool x3545)]) (fun x3545 => pt b3342 (.cells [.string ⟨((gt a0_3 x2493).Name).toArray⟩, .slice A3338 ((gt a0_3 x2493).States.length) c3339].toArray 37) :: pt b1075 (.cells [.func (.func 46) #[] #[.pointer (some ⟨b253, 0, none⟩)]].toArray 45) :: pt b253 (.cells [.int .i64 a0_0, .slice A0_1 a0_1.length c0_1, .slice A0_2 a0_2.length c0_2, .slice A0_3 a0_3.length c0_3].toArray 26) :: Fr) (fun x3545 => G3546 (.inl x3545) = some o2697) ?_ (fun J3549 => ?_)
                 ·rintro x3545 j; have j := (hl3547 _).symm.trans j
                  ·refine At.run 1 rfl ?_; obtain ⟨G3751, hl3752, hr3753, j⟩ := bjoin j; refine At.joinO 5 (X := Bool) (fun x3750 => [(1, .pointer (some ⟨b253, 0, none⟩)), (3, .pointer (some ⟨b1075, 0, none⟩)), (4, .int .u8 x1880), (75, .slice A0_3 a0_3.length c0_3), (76, .int .i64 (a0_3.length : Int)), (77, .int .i64 x2493), (96, .bool x3750)]) (fun x3750 => pt b3342 (.cells [.string ⟨((gt a0_3 x2493).Name).toArray⟩, .slice A3338 ((gt a0_3 x2493).States.length) c3339].toArray 37) :: pt b1075 (.cells [.func (.func 46) #[] #[.pointer (some ⟨b253, 0, none⟩)]].toArray 45) :: pt b253 (.cells [.int .i64 a0_0, .slice A0_1 a0_1.length c0_1, .slice A0_2 a0_2.length c0_2, .slice A0_3 a0_3.length c0_3].toArray 26) :: Fr) (fun x3750 => G3751 (.inl x3750) = some o2697) ?_ (fun J3754 => ?_)
                   ·rintro x3750 j; have j := (hl3752 _).symm.trans j
                    ·refine At.nil (At.thn ?_); rcases bite j with ⟨h3755, j⟩ | ⟨h3755, j⟩
                     ··refine At.condT rfl h3755 ?_
                       refine At.seq (At.region (At.run 1 rfl (At.nil (At.thn (At.ret ?_))))); refine At.ibr ?_; refine At.thr ?_; have j := bupL hr2696 ho2699 j; refine At.thr ?_; refine At.ibr ?_; refine At.thr (At.drop .z (At.drop .z (At.drop .z ?_))); cases bret j; exact At.res (.inl rfl) rfl rfl ⟨rfl, rfl⟩
                     ··refine At.condF rfl (bn h3755) ?_
                       refine At.skip ?_; refine At.ibn ?_; refine At.thn (At.region (At.run 2 rfl (At.nil (At.drop .z ?_)))); have j := bnx hf_ j; exact fun a w e hs => ⟨m2701, (IntKind.i64.wrap (x2493 + 1)), hlt2703, j, e.sub ⟨rfl, rfl, rfl, rfl, rfl, rfl, trivial⟩, hs⟩
                   ··rcases bite j with ⟨h3756, j⟩ | ⟨h3756, j⟩
                     ··refine At.know (t := 91) rfl h3756 ?_
                       refine At.run 5 rfl ?_; exact At.of (J3754 true j) ⟨rfl, rfl, rfl, rfl, rfl, rfl, rfl, trivial⟩
                     ··refine At.know (t := 91) rfl (bn h3756) ?_
                       refine At.run 1 rfl (At.y (Y.load rfl rfl .z rfl rfl rfl) rfl rfl rfl (At.run 1 rfl (At.f2 (At.f2 ?_)))); obtain ⟨t3757, hc3758, j⟩ := bbind j; refine At.call rfl Q76.callee rfl rfl rfl (Q76.spec _ _ A3338 ((gt a0_3 x2493).States.length) c3339 b1075 b253 A0_1 a0_1.length c0_1 A0_2 a0_2.length c0_2 A0_3 a0_3.length c0_3 ((gt a0_3 x2493).States) a0_0 a0_1 a0_2 a0_3 hr3341 rfl hc3340 hr0_1 rfl hc0_1 hr0_2 rfl hc0_2 hr0_3 rfl hc0_3 hc3758) ?_; rintro _ _ ⟨rfl, rfl⟩; refine At.run 1 rfl (At.f1 (At.f1 (At.f2 ?_))); exact At.of (J3754 t3757 j) ⟨rfl, rfl, rfl, rfl, rfl, rfl, rfl, trivial⟩
                 ··rcases bite j with ⟨h3759, j⟩ | ⟨h3759, j⟩
                   ··refine At.know (t := 85) rfl (nf h3759) ?_
                     refine At.run 1 rfl (At.y (Y.load rfl rfl .z rfl rfl rfl) rfl rfl rfl ?_); obtain ⟨t3760, hc3761, j⟩ := bbind j; refine At.call rfl Q42.callee rfl rfl rfl (Q42.spec _ _ A3338 ((gt a0_3 x2493).States.length) c3339 ((gt a0_3 x2493).States) hr3341 rfl hc3340 hc3761) ?_; rintro _ _ ⟨rfl, rfl⟩; refine At.run 2 rfl ?_; exact At.of (J3549 (!t3760) j) ⟨rfl, rfl, rfl, rfl, rfl, rfl, rfl, rfl, trivial⟩
                   ··refine At.know (t := 85) rfl (nt (bn h3759)) ?_
                     refine At.run 5 rfl ?_; exact At.of (J3549 true j) ⟨rfl, rfl, rfl, rfl, rfl, rfl, rfl, rfl, trivial⟩
               ··refine At.condF rfl (decide_eq_false h3333) ?_
                 refine At.exit ?_; refine At.the ?_; refine At.the ?_; exact fun a w e hs => J2704 () (bdn j ho2699) a w (e.sub ⟨rfl, rfl, trivial⟩) hs
           ·clear hit1889 m1887; rintro m1887 ⟨x1678, x1679⟩ hit1889; obtain ⟨m1888, f_, hlt1890, hf_, j⟩ := bit hit1889; clear hit1889; have j : (Q18.l0b a0_0 a0_1 a0_2 a0_3 x1678 x1679).bind _ = some o1884 := j; unfold Q18.l0b at j
            ·refine At.seq (At.region (At.run 1 rfl (At.nil (At.thn (At.seq ?_))))); rcases bite j with ⟨h3762, j⟩ | ⟨h3762, j⟩
             ··refine At.condT rfl (decide_eq_true h3762) ?_
               refine At.skip (At.thn (At.seq ?_)); refine At.block ?_; refine At.seq (At.region ?_); obtain ⟨h3763, j⟩ := bnone j; refine At.y (Y.ixRd hr0_2 rfl rfl rfl rfl rfl rfl rfl h3763.1 h3763.2) rfl rfl rfl (At.y (Y.ldFl hr0_2 rfl (q := 0) rfl rfl h3763.1 h3763.2 rfl rfl rfl) rfl rfl rfl ?_); refine At.alloc rfl rfl rfl (fun b3764 => ?_); refine At.store rfl rfl rfl rfl .z rfl rfl rfl (.c (.c (.c .n))) ?_; refine At.nil (At.thn (At.seq (At.seq (At.region (At.y (Y.load rfl rfl (.s .z) rfl rfl rfl) rfl rfl rfl (At.run 1 rfl (At.y (Y.load rfl rfl .z rfl rfl rfl) rfl rfl rfl ?_))))))); refine At.f2 ?_; obtain ⟨t3765, hc3766, j⟩ := bbind j; refine At.call rfl Q57.callee rfl rfl rfl (Q57.spec _ _ b253 A0_1 a0_1.length c0_1 A0_2 a0_2.length c0_2 A0_3 a0_3.length c0_3 ((gt a0_2 x1679).From) a0_0 a0_1 a0_2 a0_3 hr0_1 rfl hc0_1 hr0_2 rfl hc0_2 hr0_3 rfl hc0_3 hc3766) ?_; rintro _ _ ⟨rfl, rfl⟩; refine At.run 2 rfl ?_; obtain ⟨G3968, hl3969, hr3970, j⟩ := bjoin j; refine At.joinO 6 (X := Bool) (fun x3967 => [(1, .pointer (some ⟨b253, 0, none⟩)), (3, .pointer (some ⟨b1075, 0, none⟩)), (4, .int .u8 x1678), (6, .pointer (some ⟨b3764, 0, none⟩)), (37, .slice A0_2 a0_2.length c0_2), (38, .int .i64 (a0_2.length : Int)), (39, .int .i64 x1679), (54, .bool x3967)]) (fun x3967 => pt b253 (.cells [.int .i64 a0_0, .slice A0_1 a0_1.length c0_1, .slice A0_2 a0_2.length c0_2, .slice A0_3 a0_3.length c0_3].toArray 26) :: pt b3764 (.cells [.int .i64 ((gt a0_2 x1679).From), .int .i64 ((gt a0_2 x1679).Action), .int .i64 ((gt a0_2 x1679).To)].toArray 35) :: pt b1075 (.cells [.func (.func 46) #[] #[.pointer (some ⟨b253, 0, none⟩)]].toArray 45) :: Fr) (fun x3967 => G3968 (.inl x3967) = some o1884) ?_ (fun J3971 => ?_)
               ·rintro x3967 j; have j := (hl3969 _).symm.trans j
                ·refine At.run 1 rfl ?_; obtain ⟨G4173, hl4174, hr4175, j⟩ := bjoin j; refine At.joinO 4 (X := Bool) (fun x4172 => [(1, .pointer (some ⟨b253, 0, none⟩)), (3, .pointer (some ⟨b1075, 0, none⟩)), (4, .int .u8 x1678), (6, .pointer (some ⟨b3764, 0, none⟩)), (37, .slice A0_2 a0_2.length c0_2), (38, .int .i64 (a0_2.length : Int)), (39, .int .i64 x1679), (59, .bool x4172)]) (fun x4172 => pt b253 (.cells [.int .i64 a0_0, .slice A0_1 a0_1.length c0_1, .slice A0_2 a0_2.length c0_2, .slice A0_3 a0_3.length c0_3].toArray 26) :: pt b3764 (.cells [.int .i64 ((gt a0_2 x1679).From), .int .i64 ((gt a0_2 x1679).Action), .int .i64 ((gt a0_2 x1679).To)].toArray 35) :: pt b1075 (.cells [.func (.func 46) #[] #[.pointer (some ⟨b253, 0, none⟩)]].toArray 45) :: Fr) (fun x4172 => G4173 (.inl x4172) = some o1884) ?_ (fun J4176 => ?_)
                 ·rintro x4172 j; have j := (hl4174 _).symm.trans j
                  ·refine At.run 1 rfl ?_; obtain ⟨G4378, hl4379, hr4380, j⟩ := bjoin j; refine At.joinO 7 (X := Bool) (fun x4377 => [(1, .pointer (some ⟨b253, 0, none⟩)), (3, .pointer (some ⟨b1075, 0, none⟩)), (4, .int .u8 x1678), (6, .pointer (some ⟨b3764, 0, none⟩)), (37, .slice A0_2 a0_2.length c0_2), (38, .int .i64 (a0_2.length : Int)), (39, .int .i64 x1679), (67, .bool x4377)]) (fun x4377 => pt b253 (.cells [.int .i64 a0_0, .slice A0_1 a0_1.length c0_1, .slice A0_2 a0_2.length c0_2, .slice A0_3 a0_3.length c0_3].toArray 26) :: pt b3764 (.cells [.int .i64 ((gt a0_2 x1679).From), .int .i64 ((gt a0_2 x1679).Action), .int .i64 ((gt a0_2 x1679).To)].toArray 35) :: pt b1075 (.cells [.func (.func 46) #[] #[.pointer (some ⟨b253, 0, none⟩)]].toArray 45) :: Fr) (fun x4377 => G4378 (.inl x4377) = some o1884) ?_ (fun J4381 => ?_)
                   ·rintro x4377 j; have j := (hl4379 _).symm.trans j
                    ·refine At.nil (At.thn ?_); rcases bite j with ⟨h4382, j⟩ | ⟨h4382, j⟩
                     ··refine At.condT rfl h4382 ?_
                       refine At.seq (At.region (At.run 1 rfl (At.nil (At.thn (At.ret (At.thr ?_)))))); refine At.ibr ?_; refine At.thr ?_; have j := bupL hr1883 ho1886 j; refine At.thr ?_; refine At.ibr ?_; refine At.thr (At.drop .z (At.drop .z (At.drop .z ?_))); cases bret j; exact At.res (.inl rfl) rfl rfl ⟨rfl, rfl⟩
                     ··refine At.condF rfl (bn h4382) ?_
                       refine At.skip (At.thn (At.region (At.run 2 rfl (At.y (Y.load rfl rfl (.s .z) rfl rfl rfl) rfl rfl rfl ?_)))); obtain ⟨h4383, j⟩ := bnone j; refine At.y (Y.shl rfl rfl h4383) rfl rfl rfl (At.run 2 rfl (At.nil ?_)); refine At.ibn ?_; refine At.thn (At.region (At.run 2 rfl (At.nil (At.drop (.s .z) (At.f1 ?_))))); have j := bnx hf_ j; exact fun a w e hs => ⟨m1888, (bor .u8 x1678 (Bw.shl .u8 1 ((gt a0_2 x1679).Action)), IntKind.i64.wrap (x1679 + 1)), hlt1890, j, e.sub ⟨rfl, rfl, rfl, rfl, rfl, rfl, trivial⟩, hs⟩
                   ··rcases bite j with ⟨h4384, j⟩ | ⟨h4384, j⟩
                     ··refine At.know (t := 60) rfl h4384 ?_
                       refine At.run 7 rfl ?_; exact At.of (J4381 true j) ⟨rfl, rfl, rfl, rfl, rfl, rfl, rfl, rfl, trivial⟩
                     ··refine At.know (t := 60) rfl (bn h4384) ?_
                       refine At.run 1 rfl (At.y (Y.load rfl rfl (.s .z) rfl rfl rfl) rfl rfl rfl (At.run 1 rfl (At.y (Y.load rfl rfl .z rfl rfl rfl) rfl rfl rfl (At.run 3 rfl ?_)))); exact At.of (J4381 (decide ((a0_1.length : Int) ≤ (gt a0_2 x1679).Action)) j) ⟨rfl, rfl, rfl, rfl, rfl, rfl, rfl, rfl, trivial⟩
                 ··rcases bite j with ⟨h4385, j⟩ | ⟨h4385, j⟩
                   ··refine At.know (t := 55) rfl h4385 ?_
                     refine At.run 4 rfl ?_; exact At.of (J4176 true j) ⟨rfl, rfl, rfl, rfl, rfl, rfl, rfl, rfl, trivial⟩
                   ··refine At.know (t := 55) rfl (bn h4385) ?_
                     refine At.run 1 rfl (At.y (Y.load rfl rfl (.s .z) rfl rfl rfl) rfl rfl rfl (At.run 2 rfl ?_)); exact At.of (J4176 (decide ((gt a0_2 x1679).Action < 0)) j) ⟨rfl, rfl, rfl, rfl, rfl, rfl, rfl, rfl, trivial⟩
               ··rcases bite j with ⟨h4386, j⟩ | ⟨h4386, j⟩
                 ··refine At.know (t := 48) rfl (nf h4386) ?_
                   refine At.y (Y.load rfl rfl (.s (.s .z)) rfl rfl rfl) rfl rfl rfl (At.run 1 rfl (At.y (Y.load rfl rfl (.s .z) rfl rfl rfl) rfl rfl rfl ?_)); obtain ⟨t4387, hc4388, j⟩ := bbind j; refine At.call rfl Q57.callee rfl rfl rfl (Q57.spec _ _ b253 A0_1 a0_1.length c0_1 A0_2 a0_2.length c0_2 A0_3 a0_3.length c0_3 ((gt a0_2 x1679).To) a0_0 a0_1 a0_2 a0_3 hr0_1 rfl hc0_1 hr0_2 rfl hc0_2 hr0_3 rfl hc0_3 hc4388) ?_; rintro _ _ ⟨rfl, rfl⟩; refine At.run 2 rfl ?_; exact At.of (J3971 (!t4387) j) ⟨rfl, rfl, rfl, rfl, rfl, rfl, rfl, rfl, trivial⟩
                 ··refine At.know (t := 48) rfl (nt (bn h4386)) ?_
                   refine At.run 6 rfl ?_; exact At.of (J3971 true j) ⟨rfl, rfl, rfl, rfl, rfl, rfl, rfl, rfl, trivial⟩
             ··refine At.condF rfl (decide_eq_false h3762) ?_
               refine At.exit ?_; refine At.the ?_; refine At.the ?_; exact fun a w e hs => J1891 x1678 (bdn j ho1886) a w (e.sub ⟨rfl, rfl, rfl, trivial⟩) hs
       ··rcases bite j with ⟨h4389, j⟩ | ⟨h4389, j⟩
         ··refine At.know (t := 29) rfl h4389 ?_
           refine At.run 5 rfl ?_; exact At.of (J1073 true j) ⟨rfl, rfl, trivial⟩
         ··refine At.know (t := 29) rfl (bn h4389) ?_
           refine At.run 1 rfl (At.y (Y.load rfl rfl .z rfl rfl rfl) rfl rfl rfl (At.run 3 rfl ?_)); exact At.of (J1073 (decide (200 < (a0_2.length : Int))) j) ⟨rfl, rfl, trivial⟩
     ··rcases bite j with ⟨h4390, j⟩ | ⟨h4390, j⟩
       ··refine At.know (t := 23) rfl h4390 ?_
         refine At.run 5 rfl ?_; exact At.of (J868 true j) ⟨rfl, rfl, trivial⟩
       ··refine At.know (t := 23) rfl (bn h4390) ?_
         refine At.run 1 rfl (At.y (Y.load rfl rfl .z rfl rfl rfl) rfl rfl rfl (At.run 3 rfl ?_)); exact At.of (J868 (decide (8 < (a0_3.length : Int))) j) ⟨rfl, rfl, trivial⟩
   ··rcases bite j with ⟨h4391, j⟩ | ⟨h4391, j⟩
     ··refine At.know (t := 17) rfl h4391 ?_
       refine At.run 5 rfl ?_; exact At.of (J663 true j) ⟨rfl, rfl, trivial⟩
     ··refine At.know (t := 17) rfl (bn h4391) ?_
       refine At.run 1 rfl (At.y (Y.load rfl rfl .z rfl rfl rfl) rfl rfl rfl (At.run 3 rfl ?_)); exact At.of (J663 (decide (8 < (a0_1.length : Int))) j) ⟨rfl, rfl, trivial⟩
 ··rcases bite j with ⟨h4392, j⟩ | ⟨h4392, j⟩
   ··refine At.know (t := 12) rfl (decide_eq_true h4392) ?_
     refine At.run 4 rfl ?_; exact At.of (J458 true j) ⟨rfl, rfl, trivial⟩
   ··refine At.know (t := 12) rfl (decide_eq_false h4392) ?_
     refine At.run 1 rfl (At.y (Y.load rfl rfl .z rfl rfl rfl) rfl rfl rfl (At.run 2 rfl ?_)); exact At.of (J458 (decide (24 < a0_0)) j) ⟨rfl, rfl, trivial⟩






end Go.Bw
namespace Go.Bw
open Go Go.RowKit

theorem TypeOk.map {P : Program} {t : Nat} {i : TI} (h : TypeOk P t i) {k e : Nat} (hk : i.k = .map k e) : P.underlying t = some (.map k e) := by
 obtain ⟨d, hd, hk'⟩ := h.under; rw [hk] at hk'; cases d <;> simp [tk] at hk'; rw [hk'.1, hk'.2] at hd; exact hd
def Fl.ov {α : Type} (F : Fl α) (x : α) : Value := (F.enc x).headD .nilFunc
def Fl.av {α : Type} (F : Fl α) (x : α) : Value := .agg (F.enc x).toArray
section
variable {κ ν : Type}
def mget [DecidableEq κ] : List (κ × ν) → κ → Option ν
 | [], _ => none
 | p :: r, k => if p.1 = k then some p.2 else mget r k
def mset [DecidableEq κ] : List (κ × ν) → κ → ν → List (κ × ν)
 | [], k, v => [(k, v)]
 | p :: r, k, v => if p.1 = k then (k, v) :: r else p :: mset r k v
structure KeyOk (P : Program) (t : Nat) (kv : κ → Value) [DecidableEq κ] : Prop where
 chk : ∀ k w em, (Instr.checkKey em 10000 t (kv k)).run P w = .ok () w
 find : ∀ (es : List MapEntry) (ks : List κ) k w, es.map (·.key) = ks.map kv → (Instr.findKey t (kv k) es).run P w = .ok ((ks.findIdx? (fun a => decide (a = k))).bind fun i => es[i]?.map fun e => (i, e.val)) w
 same : ∀ k, Instr.sameBits 10000 (kv k) (kv k) = true
def mapo (kv : κ → Value) (vv : ν → Value) (b : Nat) (kvs : List (κ × ν)) : HProp := fun h =>
 ∃ (es : List MapEntry) (clock : Nat), h b = some (.map es.toArray clock) ∧ es.map (fun e => (e.key, e.val)) = kvs.map (fun p => (kv p.1, vv p.2)) ∧ es.Pairwise (fun x y => x.born < y.born) ∧ ∀ e ∈ es, e.born < clock
theorem Q206 (s : Bs) : ∀ (es : List MapEntry) (ks : List Bs) (i : Nat), es.map (·.key) = ks.map (fun x => Value.string ⟨x.toArray⟩) →
 Instr.findNow .string (.string ⟨s.toArray⟩) es i = some ((ks.findIdx? (fun a => decide (a = s))).bind fun j => es[j]?.map fun e => (i + j, e.val))
 | [], [], _, _ => rfl
 | [], _ :: _, _, h => by simp at h
 | _ :: _, [], _, h => by simp at h
 | e :: es, k :: ks, i, h => by
  simp only [List.map_cons, List.cons.injEq] at h
  unfold Instr.findNow
  have hb : ((ByteArray.mk s.toArray) == (ByteArray.mk k.toArray)) = decide (k = s) := by
   rw [Q125]
   by_cases hks : k = s
   ·subst hks; rw [decide_eq_true rfl]; exact Q110.2 rfl
   ·rw [decide_eq_false hks]
    exact Bool.eq_false_iff.2 fun hc => hks (Q110.1 hc).symm
  rw [h.1]
  simp only [Instr.sameNow, hb]
  rw [List.findIdx?_cons]
  by_cases hks : k = s
  ·rw [decide_eq_true hks]
   simp
  ·rw [decide_eq_false hks]
   simp only [Bool.false_eq_true, if_false]
   rw [Q206 s es ks (i + 1) h.2]
   cases hf : ks.findIdx? (fun a => decide (a = s)) with
   | none => rfl
   | some j =>
    simp
    congr 1
    funext e
    congr 1
    omega
theorem KeyOk.str {P : Program} [Tys P] {t : Nat} {i : TI} (hi : ti P t = some i) (hk : i.k = .string) : KeyOk P t Fl.bs.ov := by
 have hu := (Q15 hi).string hk
 refine ⟨fun k w em => ?_, fun es ks k w h => ?_, fun k => ?_⟩
 ·exact MapKept.run_checkKey (k := .string ⟨k.toArray⟩) hu (by simp [MapKept.IsKey]) em 9999
 ·have := Q206 k es ks 0 h
  simp only [Nat.zero_add] at this
  exact MapKept.run_findKey (k := .string ⟨k.toArray⟩) hu this
 ·show Instr.sameBits (9999 + 1) (.string ⟨k.toArray⟩) (.string ⟨k.toArray⟩) = true
  simp only [Instr.sameBits]
  rw [Q125]
  exact Q110.2 rfl
theorem Q224 [DecidableEq κ] {kv : κ → Value} {vv : ν → Value} : ∀ {es : List MapEntry} {kvs : List (κ × ν)} {k : κ}, es.map (fun e => (e.key, e.val)) = kvs.map (fun p => (kv p.1, vv p.2)) →
 (((kvs.map (·.1)).findIdx? (fun a => decide (a = k))).bind fun i => es[i]?.map fun e => (i, e.val)).map (·.2) = (mget kvs k).map vv
 | [], [], _, _ => rfl
 | [], _ :: _, _, h => by simp at h
 | _ :: _, [], _, h => by simp at h
 | e :: es, p :: kvs, k, h => by
  simp only [List.map_cons, List.cons.injEq, Prod.mk.injEq] at h
  rw [List.map_cons, List.findIdx?_cons]
  unfold mget
  by_cases hk : p.1 = k
  ·rw [if_pos hk, decide_eq_true hk]
   simp [h.1.2]
  ·rw [if_neg hk, decide_eq_false hk]
   simp only [Bool.false_eq_true, if_false]
   rw [← Q224 (k := k) h.2]
   cases (kvs.map (·.1)).findIdx? (fun a => decide (a = k)) with
   | none => rfl
   | some j => simp; rfl
theorem Q174 {kv : κ → Value} {vv : ν → Value} {es : List MapEntry} {kvs : List (κ × ν)} (h : es.map (fun e => (e.key, e.val)) = kvs.map (fun p => (kv p.1, vv p.2))) : es.map (·.key) = (kvs.map (·.1)).map kv := by
 have := congrArg (List.map (·.1)) h
 simpa [List.map_map, Function.comp_def] using this
end
section
variable {P : Program} [Tys P] {os : List Oper} {Q : Exit → Act → World → Prop} {rest : List Oper} {n : Nat} {ds : List Deferred} {R : Res} {env : List (Nat × Value)} {l l' : List HProp}
variable {d ty : Nat} {pos : String} {af : Array Edge} {g : Option (Nat × Bool)} {κ ν : Type} [DecidableEq κ] {kv : κ → Value} {vv : ν → Value} {kvs : List (κ × ν)} {b t kt et : Nat} {K : Act → World → Prop} {dd : Option Nat}
theorem Q131 {w : World} (hs : sat R (mapo kv vv b kvs :: l) w) : ∃ (es : List MapEntry) (clock : Nat), w.heap[b]? = some (.map es.toArray clock) ∧ es.map (fun e => (e.key, e.val)) = kvs.map (fun p => (kv p.1, vv p.2)) ∧ es.Pairwise (fun x y => x.born < y.born) ∧ ∀ e ∈ es, e.born < clock := by
 obtain ⟨h1, ⟨es, clock, a, r⟩, s⟩ := hs.head
 exact ⟨es, clock, s _ _ a, r⟩
theorem At.makeMap (kv : κ → Value) (vv : ν → Value) (hg : grd os env g = some true) (hd : Nat.blt d n = true)
 (h : ∀ b, At n ds R ((d, .map (some b)) :: env) (mapo kv vv b [] :: l) (wpList P os.toArray Q rest)) :
 At n ds R env l (wpList P os.toArray Q (⟨some d, .makeMap t none, ty, pos, af, g⟩ :: rest)) := Q98 hg rfl hd fun a w e hs => by
 refine ⟨_, _, _, ?_, (hs.alloc (.map #[] 0)).imp fun h p => ⟨[], 0, p, rfl, List.Pairwise.nil, fun e he => by cases he⟩, h _⟩
 simp [execOp, Instr.makeMap]
theorem Q199 {w : World} {ii : TI} {z : ν} (hi : ti P t = some ii) (hk : ii.k = .map kt et) (ko : KeyOk P kt kv) (hz : ((P.info? et).bind fun x => x.zero) = some (vv z)) (hs : sat R (mapo kv vv b kvs :: l) w) (k : κ) (ok : Bool) :
 (Instr.lookup t (.map (some b)) (kv k) ok).run P w = .ok (if ok then .tuple #[vv ((mget kvs k).getD z), .bool (mget kvs k).isSome] else vv ((mget kvs k).getD z)) w := by
 obtain ⟨es, clock, hb, hm, _⟩ := Q131 hs
 have hu := (Q15 hi).map hk
 have hf := ko.find es (kvs.map (·.1)) k w (Q174 hm)
 have hg := Q224 (k := k) hm
 have hgo : (getObj b).run P w = .ok (.map es.toArray clock) w := MapKept.run_getObj_map hb
 simp only [Instr.lookup, Sem.run_bind, run_underlying hu, Result.andThen, hgo, Sem.run_pure, ko.chk, hf]
 cases hr : ((kvs.map (·.1)).findIdx? (fun a => decide (a = k))).bind fun i => es[i]?.map fun e => (i, e.val) with
 | none =>
  rw [hr] at hg
  have hgn : mget kvs k = none := by cases hq : mget kvs k with | none => rfl | some v => rw [hq] at hg; cases hg
  obtain ⟨x, hx, hx2⟩ := Option.bind_eq_some_iff.1 hz
  rw [hgn]
  cases ok <;> simp [zeroValue, typeInfo, hx, hx2]
 | some p =>
  obtain ⟨i, v⟩ := p
  rw [hr] at hg
  cases hq : mget kvs k with
  | none => rw [hq] at hg; cases hg
  | some v' =>
   rw [hq] at hg
   have hv : v = vv v' := by simpa using hg
   subst hv
   cases ok <;> simp
theorem Y.lookup {x y : Operand} {k : κ} {v : Value} {ii : TI} {z : ν} (f : Frt l (mapo kv vv b kvs) l') (hi : ti P t = some ii) (hk : ii.k = .map kt et) (ko : KeyOk P kt kv) (hz : ((P.info? et).bind fun x => x.zero) = some (vv z))
 (hx : ev env x = some (.map (some b))) (hy : ev env y = some v) (hv : v = kv k) :
 Y P n ds R env l ⟨dd, .lookup t x y false, ty, pos, af, g⟩ (vv ((mget kvs k).getD z)) := fun a w e hs => by
 subst hv
 have := Q199 hi hk ko hz (hs.frt f) k false
 simp only [execOp, e.ev hx, e.ev hy, Sem.run_bind, this, Result.andThen, Sem.run_pure]
 rfl
theorem Y.lookupOk {x y : Operand} {k : κ} {v : Value} {ii : TI} {z : ν} (f : Frt l (mapo kv vv b kvs) l') (hi : ti P t = some ii) (hk : ii.k = .map kt et) (ko : KeyOk P kt kv) (hz : ((P.info? et).bind fun x => x.zero) = some (vv z))
 (hx : ev env x = some (.map (some b))) (hy : ev env y = some v) (hv : v = kv k) :
 Y P n ds R env l ⟨dd, .lookup t x y true, ty, pos, af, g⟩ (.tuple #[vv ((mget kvs k).getD z), .bool (mget kvs k).isSome]) := fun a w e hs => by
 subst hv
 have := Q199 hi hk ko hz (hs.frt f) k true
 simp only [execOp, e.ev hx, e.ev hy, Sem.run_bind, this, Result.andThen, Sem.run_pure]
 rfl
theorem Q136 {es : List MapEntry} (h : es.map (fun e => (e.key, e.val)) = kvs.map (fun p => (kv p.1, vv p.2))) : es.length = kvs.length := by
 have := congrArg List.length h
 simpa using this
theorem Y.lenMap {x : Operand} {ii : TI} (f : Frt l (mapo kv vv b kvs) l') (hi : ti P t = some ii) (hk : ii.k = .map kt et) (hx : ev env x = some (.map (some b))) :
 Y P n ds R env l ⟨dd, .call ⟨.builtin .len, #[x], #[t]⟩, ty, pos, af, g⟩ (.int .i64 (kvs.length : Int)) := fun a w e hs => by
 obtain ⟨es, clock, hb, hm, _⟩ := Q131 (hs.frt f)
 have hu := (Q15 hi).map hk
 have hgo : (getObj b).run P w = .ok (.map es.toArray clock) w := MapKept.run_getObj_map hb
 simp [execOp, resolve, invoke, builtin, Builtin.len_, e.ev hx, run_underlying hu, hgo, Result.andThen, goInt, Q136 hm]
theorem set_mset {es : List MapEntry} {kvs : List (κ × ν)} {k : κ} {v : ν} (h : es.map (fun e => (e.key, e.val)) = kvs.map (fun p => (kv p.1, vv p.2))) :
 (match ((kvs.map (·.1)).findIdx? (fun a => decide (a = k))).bind fun i => es[i]?.map fun e => (i, e.val) with
  | some (i, _) => (es.modify i fun e => { e with key := kv k, val := vv v }).map (fun e => (e.key, e.val))
  | none => es.map (fun e => (e.key, e.val)) ++ [(kv k, vv v)]) = (mset kvs k v).map (fun p => (kv p.1, vv p.2)) := by
 induction kvs generalizing es with
 | nil =>
  cases es with
  | nil => rfl
  | cons e es => simp at h
 | cons p kvs ih =>
  cases es with
  | nil => simp at h
  | cons e es =>
   simp only [List.map_cons, List.cons.injEq, Prod.mk.injEq] at h
   rw [List.map_cons, List.findIdx?_cons]
   unfold mset
   by_cases hk : p.1 = k
   ·rw [if_pos hk, decide_eq_true hk]
    simp [h.2]
   ·rw [if_neg hk, decide_eq_false hk]
    simp only [Bool.false_eq_true, if_false]
    have := ih h.2
    cases hf : (kvs.map (·.1)).findIdx? (fun a => decide (a = k)) with
    | none =>
     rw [hf] at this
     simp at this ⊢
     exact ⟨h.1, this⟩
    | some j =>
     rw [hf] at this
     simp at this ⊢
     have hj : j < es.length := by
      have := (List.findIdx?_eq_some_iff_getElem.1 hf).1
      simp at this
      have h3 := Q136 h.2
      omega
     rw [List.getElem?_eq_getElem hj] at this ⊢
     simp at this ⊢
     exact ⟨h.1, this⟩
theorem Q181 {es : List MapEntry} {i : Nat} {f : MapEntry → MapEntry} (hf : ∀ e, (f e).born = e.born) : (es.modify i f).map (·.born) = es.map (·.born) := by
 apply List.ext_getElem?
 intro j
 rw [List.getElem?_map, List.getElem?_map, List.getElem?_modify]
 cases es[j]? with
 | none => rfl
 | some e => by_cases h : i = j <;> simp [h, hf]
theorem At.mapUpdate {x y z : Operand} {k : κ} {v : ν} {u u' : Value} {ii : TI} (hg : grd os env g = some true) (f : Frt l (mapo kv vv b kvs) l') (hi : ti P t = some ii) (hk : ii.k = .map kt et) (ko : KeyOk P kt kv)
 (hx : ev env x = some (.map (some b))) (hy : ev env y = some u) (hu : u = kv k) (hz : ev env z = some u') (hu' : u' = vv v)
 (h : At n ds R env (mapo kv vv b (mset kvs k v) :: l') (wpList P os.toArray Q rest)) :
 At n ds R env l (wpList P os.toArray Q (⟨none, .mapUpdate t x y z, ty, pos, af, g⟩ :: rest)) := op_sk hg rfl fun a w e hs => by
 subst hu hu'
 have hs1 := hs.frt f
 obtain ⟨es, clock, hb, hm, hbn, hcl⟩ := Q131 hs1
 have hun := (Q15 hi).map hk
 have hf := ko.find es (kvs.map (·.1)) k w (Q174 hm)
 have hset := set_mset (k := k) (v := v) hm
 have hgo : (getObj b).run P w = .ok (.map es.toArray clock) w := MapKept.run_getObj_map hb
 have hso : ∀ o, (setObj b o).run P w = .ok () { w with heap := w.heap.setIfInBounds b o } := fun o => MapKept.run_setObj_map o hb
 have hlt : b < w.heap.size := (Array.getElem?_eq_some_iff.1 hb).1
 have fin : ∀ (es' : List MapEntry) (clock' : Nat), es'.map (fun e => (e.key, e.val)) = (mset kvs k v).map (fun p => (kv p.1, vv p.2)) → es'.Pairwise (fun x y => x.born < y.born) → (∀ e ∈ es', e.born < clock') →
  sat R (mapo kv vv b (mset kvs k v) :: l') { w with heap := w.heap.setIfInBounds b (.map es'.toArray clock') } := fun es' clock' h1 h2 h3 => by
  obtain ⟨hh, ⟨_, _, hp, _⟩, s, kk⟩ := hs1.upd
  refine kk _ (single b (.map es'.toArray clock')) _ ⟨es', clock', Q168 _ _, h1, h2, h3⟩ rfl rfl rfl (Nat.le_refl _) (fun x o hx hn => ?_) (fun x o hx => ?_) (fun x o hx => ?_)
  ·have hne : b ≠ x := fun hxb => by subst hxb; rw [hp] at hn; cases hn
   show (w.heap.setIfInBounds b _)[x]? = _
   rw [Array.getElem?_setIfInBounds_ne hne]; exact hx
  ·obtain ⟨rfl, rfl⟩ := Q103 hx
   show (w.heap.setIfInBounds x _)[x]? = _
   simp [hlt]
  ·obtain ⟨rfl, rfl⟩ := Q103 hx; exact .inl ⟨_, hp⟩
 cases hr : ((kvs.map (·.1)).findIdx? (fun a => decide (a = k))).bind fun i => es[i]?.map fun e => (i, e.val) with
 | none =>
  rw [hr] at hset hf
  refine ⟨_, _, ?_, fin (es ++ [{ key := kv k, val := vv v, born := clock }]) (clock + 1) (by simpa using hset) ?_ ?_, h⟩
  ·simp [execOp, e.ev hx, e.ev hy, e.ev hz, Instr.mapUpdate, run_underlying hun, Result.andThen, hgo, ko.chk, hf, hso]
  ·rw [List.pairwise_append]
   exact ⟨hbn, by simp, fun x hx y hy => by simp at hy; subst hy; exact hcl x hx⟩
  ·intro e he
   rcases List.mem_append.1 he with he | he
   ·have := hcl e he; omega
   ·simp at he; subst he; exact Nat.lt_succ_self _
 | some p =>
  obtain ⟨i, v0⟩ := p
  rw [hr] at hset hf
  obtain ⟨j, hj, hj2⟩ := Option.bind_eq_some_iff.1 hr
  obtain ⟨e1, he1, he2⟩ := Option.map_eq_some_iff.1 hj2
  simp only [Prod.mk.injEq] at he2
  obtain ⟨rfl, rfl⟩ := he2
  have hkey : e1.key = kv k := by
   have hq := congrArg (fun l => l[j]?) (Q174 hm)
   simp only [List.getElem?_map, he1, Option.map_some] at hq
   obtain ⟨hl, hd, _⟩ := List.findIdx?_eq_some_iff_getElem.1 hj
   rw [← List.getElem?_map, List.getElem?_eq_getElem hl] at hq
   have hd' := of_decide_eq_true hd
   rw [hd'] at hq
   simpa using hq
  have hst : (Instr.keyThatStays (kv k) (kv k)).run P w = .ok (kv k) w := by simp [Instr.keyThatStays, ko.same]
  refine ⟨_, _, ?_, fin (es.modify j fun e => { e with key := kv k, val := vv v }) clock hset ?_ ?_, h⟩
  ·simp only [execOp, e.ev hx, e.ev hy, e.ev hz, Instr.mapUpdate, Sem.run_bind, run_underlying hun, Result.andThen, hgo, ko.chk, hf, List.getElem?_toArray, he1, Option.map_some, hkey, Option.getD_some, hst, hso, Sem.run_pure]
   simp
  ·have := Q181 (es := es) (i := j) (f := fun e => { e with key := kv k, val := vv v }) (fun _ => rfl)
   refine (List.pairwise_map (f := fun e : MapEntry => e.born) (R := fun x y : Nat => x < y)).1 ?_
   rw [this]
   exact List.pairwise_map.2 hbn
  ·intro e he
   have hmem : e.born ∈ (es.modify j fun e => { e with key := kv k, val := vv v }).map (·.born) := List.mem_map_of_mem he
   rw [Q181 (es := es) (i := j) (f := fun e => { e with key := kv k, val := vv v }) (fun _ => rfl)] at hmem
   obtain ⟨e', he', hb'⟩ := List.mem_map.1 hmem
   rw [← hb']
   exact hcl e' he'
theorem mapo_up {h h' : PHeap} (o : mapo kv vv b kvs h) (s : Sub h h') : mapo kv vv b kvs h' := let ⟨es, c, a, r⟩ := o; ⟨es, c, s _ _ a, r⟩
def Ow.mp (kv : κ → Value) (vv : ν → Value) : Ow (List (κ × ν)) := ⟨1, fun kvs cs h => ∃ b, cs = [.map (some b)] ∧ mapo kv vv b kvs h, fun ⟨_, h, _⟩ => by rw [h]; rfl, fun ⟨_, h, _⟩ u hu => by rw [h] at hu; simp at hu; subst hu; rfl, by decide,
 ⟨1, fun H kvs cs => ∃ b, cs = [.map (some b)] ∧ mapo kv vv b kvs H, fun ⟨_, h, _⟩ => by rw [h]; rfl, fun s ⟨b, h, o⟩ => ⟨b, h, let ⟨es, c, a, r⟩ := o; ⟨es, c, s _ _ a, r⟩⟩, by decide⟩, rfl, fun ⟨b, h, o⟩ s => ⟨b, h, let ⟨es, c, a, r⟩ := o; ⟨es, c, s _ _ a, r⟩⟩⟩
theorem Ent.mp : Ent [mapo kv vv b kvs] ((Ow.mp kv vv).own kvs [.map (some b)]) := fun h ⟨h1, _, a, _, _, s, _⟩ => ⟨b, rfl, mapo_up a s⟩
theorem At.ownMp {cs : List Value} (f : Frt l ((Ow.mp kv vv).own kvs cs) l') (h : ∀ b, cs = [.map (some b)] → At n ds R env (mapo kv vv b kvs :: l') K) : At n ds R env l K := fun a w e0 hs => by
 obtain ⟨ok, k, ⟨h1, h2, ⟨b, e1, r⟩, s⟩, dR⟩ := hs.frt f
 exact h b e1 a w e0 ⟨ok, k, ⟨h1, h2, r, s⟩, dR⟩
end
end Go.Bw
namespace Go.Bw
open Go Go.RowKit

theorem Q188 (s : Bs) : ((ByteArray.mk s.toArray) == (ByteArray.mk s.toArray)) = true := by rw [Q125]; exact Q110.2 rfl
section
variable {P : Program} [Tys P] {κ : Type} [DecidableEq κ] {w : World} {t : Nat}
theorem Q149 {xs : List Value} (em : Bool) : ∀ {fl : List Field} {fs : List (Nat × Nat)} {r : Bool}, fl.map (fun f => (f.type, f.offset)) = fs → eqcs P fs xs xs = some r →
 (do for f in fl do if f.name ≠ "_" then Instr.checkKey em 9999 f.type (← part f.type xs.toArray f.offset) : Sem Unit).run P w = .ok () w
 | [], _, r, rfl, h => by simp
 | f :: fl, _, r, rfl, h => by
  simp only [List.map_cons, eqcs] at h
  split at h
  ·rename_i j hj
   split at h
   ·rename_i hk hx hy
    split at h
    ·obtain ⟨q, hq, rfl⟩ := Option.map_eq_some_iff.1 h
     have hu := (Q15 hj).int hk
     have ih := Q149 em (fl := fl) rfl hq
     have hc : ∀ k a, (Instr.checkKey em 9999 f.type (.int k a)).run P w = .ok () w := fun k a => by
      show (Instr.checkKey em (9998 + 1) f.type _).run P w = _
      rw [Instr.checkKey]
      simp [run_underlying hu, Result.andThen]
     by_cases hn : f.name = "_"
     ·simpa [hn, Result.andThen] using ih
     ·simpa [hn, Q74 hx, hc, Result.andThen] using ih
    ·cases h
   ·rename_i hk hx hy
    obtain ⟨q, hq, rfl⟩ := Option.map_eq_some_iff.1 h
    have hu := (Q15 hj).bool hk
    have ih := Q149 em (fl := fl) rfl hq
    have hc : ∀ a, (Instr.checkKey em 9999 f.type (.bool a)).run P w = .ok () w := fun a => by
     show (Instr.checkKey em (9998 + 1) f.type _).run P w = _
     rw [Instr.checkKey]
     simp [run_underlying hu, Result.andThen]
    by_cases hn : f.name = "_"
    ·simpa [hn, Result.andThen] using ih
    ·simpa [hn, Q74 hx, hc, Result.andThen] using ih
   ·rename_i hk hx hy
    obtain ⟨q, hq, rfl⟩ := Option.map_eq_some_iff.1 h
    have hu := (Q15 hj).string hk
    have ih := Q149 em (fl := fl) rfl hq
    have hc : ∀ a, (Instr.checkKey em 9999 f.type (.string a)).run P w = .ok () w := fun a => by
     show (Instr.checkKey em (9998 + 1) f.type _).run P w = _
     rw [Instr.checkKey]
     simp [run_underlying hu, Result.andThen]
    by_cases hn : f.name = "_"
    ·simpa [hn, Result.andThen] using ih
    ·simpa [hn, Q74 hx, hc, Result.andThen] using ih
   ·cases h
  ·cases h
theorem Q213 {kv : κ → Value} (k : κ) (he : ∀ a, (Op.equal t (kv k) (kv a)).run P w = .ok (decide (a = k)) w) : ∀ (es : List MapEntry) (ks : List κ) (i : Nat), es.map (·.key) = ks.map kv →
 (Instr.findAsking t (kv k) es i).run P w = .ok ((ks.findIdx? (fun a => decide (a = k))).bind fun j => es[j]?.map fun e => (i + j, e.val)) w
 | [], [], i, _ => by simp [Instr.findAsking]
 | [], _ :: _, _, h => by simp at h
 | _ :: _, [], _, h => by simp at h
 | e :: es, a :: ks, i, h => by
  simp only [List.map_cons, List.cons.injEq] at h
  rw [Instr.findAsking, h.1]
  simp only [Sem.run_bind, he, Result.andThen]
  rw [List.findIdx?_cons]
  by_cases hk : a = k
  ·simp [hk]
  ·simp only [hk, decide_false, Bool.false_eq_true, if_false]
   rw [Q213 k he es ks (i + 1) h.2]
   cases hf : ks.findIdx? (fun a => decide (a = k)) with
   | none => rfl
   | some j =>
    simp
    congr 1
    funext e
    congr 1
    omega
theorem Q179 {kv : κ → Value} {fl : Array Field} (hu : P.underlying t = some (.struct fl)) (k : κ) (he : ∀ a, (Op.equal t (kv k) (kv a)).run P w = .ok (decide (a = k)) w) (es : List MapEntry) (ks : List κ) (h : es.map (·.key) = ks.map kv) :
 (Instr.findKey t (kv k) es).run P w = .ok ((ks.findIdx? (fun a => decide (a = k))).bind fun j => es[j]?.map fun e => (j, e.val)) w := by
 unfold Instr.findKey
 simp only [Sem.run_bind, run_underlying hu, Result.andThen]
 cases es with
 | nil =>
  cases ks with
  | nil => simp [Instr.findNow]
  | cons a ks => simp at h
 | cons e es =>
  have : Instr.findNow (.struct fl) (kv k) (e :: es) 0 = none := by simp [Instr.findNow, Instr.sameNow]
  rw [this]
  have := Q213 (P := P) (w := w) (t := t) k he (e :: es) ks 0 h
  simpa using this
theorem KeyOk.st {F : Fl κ} {fs : List (Nat × Nat)} {ii : TI} (hi : ti P t = some ii) (hk : ii.k = .struct fs) (hn : named P t = true) (hp : P.stoodInHeld t = false)
 (he : ∀ x y : κ, eqcs P fs (F.enc x) (F.enc y) = some (decide (x = y))) (hs : ∀ x : κ, ((F.enc x).zip (F.enc x)).all (fun p => Instr.sameBits 9999 p.1 p.2) = true) : KeyOk P t F.av := by
 obtain ⟨fl, hu, hm⟩ := (Q15 hi).struct hk
 refine ⟨fun k w em => ?_, fun es ks k w h => ?_, fun k => ?_⟩
 ·show (Instr.checkKey em (9999 + 1) t (.agg (F.enc k).toArray)).run P w = _
  rw [Instr.checkKey]
  have := Q149 (P := P) (w := w) em hm (he k k)
  simp only [Sem.run_bind, run_underlying hu, Result.andThen]
  rw [← Array.forIn_toList]
  simp [Result.andThen] at this ⊢
  rw [this]
 ·refine Q179 hu k (fun a => ?_) es ks h
  rw [show decide (a = k) = decide (k = a) from decide_eq_decide.2 eq_comm]
  exact Q163 hi hk hn hp (he k a)
 ·show Instr.sameBits (9999 + 1) (.agg (F.enc k).toArray) (.agg (F.enc k).toArray) = true
  simp only [Instr.sameBits]
  simpa using hs k
end
end Go.Bw
namespace Go.Bw
open Go Go.RowKit Go.Proofs
structure Q4 where
 c0 : Int
 c1 : Int
 c2 : Int
 c3 : Int
deriving Inhabited, DecidableEq
def Q4.fl : Fl Q4 := ⟨4, fun x => [.int .u64 x.c0, .int .u64 x.c1, .int .u64 x.c2, .int .u64 x.c3], fun _ => rfl, fun x u hu => by simp at hu; rcases hu with rfl | rfl | rfl | rfl <;> rfl, by decide⟩
structure Q8 where
 from_ : Int
 action : Bs
deriving Inhabited, DecidableEq
def Q8.fl : Fl Q8 := ⟨2, fun x => [.int .i64 x.from_, .string ⟨(x.action).toArray⟩], fun _ => rfl, fun x u hu => by simp at hu; rcases hu with rfl | rfl <;> rfl, by decide⟩
structure Q1 where
 states : Int
 holds : List (Bs × Q4)
 next : List (Q8 × Q4)
deriving Inhabited
def Q1.ow : Ow Q1 := ((Ow.fl (Fl.int .i64)).pair ((Ow.mp Fl.bs.ov Q4.fl.av).pair (Ow.mp Q8.fl.av Q4.fl.av))).iso (fun x => (x.states, x.holds, x.next))
theorem Q1.ent {x0 : Int} {b1 : Nat} {x1 : List (Bs × Q4)} {b2 : Nat} {x2 : List (Q8 × Q4)} : Ent [mapo Fl.bs.ov Q4.fl.av b1 x1, mapo Q8.fl.av Q4.fl.av b2 x2] (Q1.ow.own ⟨x0, x1, x2⟩ [.int .i64 x0, .map (some b1), .map (some b2)]) := (Ent.pair (c1 := [.int .i64 x0]) (c2 := [.map (some b1), .map (some b2)]) (Ent.fl (Fl.int .i64) rfl) (Ent.pair (c1 := [.map (some b1)]) (c2 := [.map (some b2)]) Ent.mp Ent.mp))
theorem Q8.keyok : KeyOk Tryz.prog 94 Q8.fl.av := KeyOk.st rfl rfl (by kernel_rfl) (by kernel_rfl) (fun x y => by
 refine (show _ = some (decide (x.from_ = y.from_) && (bseq x.action y.action && true)) from rfl).trans (congrArg some ?_)
 cases x
 cases y
 rw [Bool.eq_iff_iff]
 simp [Q110]) (fun x => by simp [Q8.fl, Instr.sameBits, Q188])

noncomputable def Q21.f (a0_0 a0_1 a0_2 a0_3 a1 : Int) : Option (Int × Int × Int × Int) :=
 jn (
 if 0 ≤ a1 then
 some (.inl (decide (a1 < 256)))
 else
 some (.inl false)) (fun (x467 : Bool) =>
 if x467 = true then
 if (0 : Int) ≤ (Bw.shr .i64 a1 6) ∧ (Bw.shr .i64 a1 6) < (4 : Int) then
 if (Bw.shr .i64 a1 6) = 0 then
 if (0 : Int) ≤ IntKind.u64.wrap (band .i64 a1 63) then
 some (bor .u64 a0_0 (Bw.shl .u64 1 (IntKind.u64.wrap (band .i64 a1 63))), a0_1, a0_2, a0_3)
 else none
 else
 if (Bw.shr .i64 a1 6) = 1 then
 if (0 : Int) ≤ IntKind.u64.wrap (band .i64 a1 63) then
 some (a0_0, bor .u64 a0_1 (Bw.shl .u64 1 (IntKind.u64.wrap (band .i64 a1 63))), a0_2, a0_3)
 else none
 else
 if (Bw.shr .i64 a1 6) = 2 then
 if (0 : Int) ≤ IntKind.u64.wrap (band .i64 a1 63) then
 some (a0_0, a0_1, bor .u64 a0_2 (Bw.shl .u64 1 (IntKind.u64.wrap (band .i64 a1 63))), a0_3)
 else none
 else
 if (0 : Int) ≤ IntKind.u64.wrap (band .i64 a1 63) then
 some (a0_0, a0_1, a0_2, bor .u64 a0_3 (Bw.shl .u64 1 (IntKind.u64.wrap (band .i64 a1 63))))
 else none
 else none
 else
 some (a0_0, a0_1, a0_2, a0_3))
theorem Q21.callee : Callee Tryz.prog 38 := ⟨_, Tryz.func38, by kernel_rfl, by kernel_rfl⟩
theorem Q21.spec (R : Res) (Fr : List HProp)  (a0_0 a0_1 a0_2 a0_3 a1 : Int)  {r : Int × Int × Int × Int} (j : Q21.f a0_0 a0_1 a0_2 a0_3 a1 = some r) :
 Spec Tryz.prog 38 [.agg #[.int .u64 a0_0, .int .u64 a0_1, .int .u64 a0_2, .int .u64 a0_3], .int .i64 a1] R (Fr) (fun v l' => v = .agg #[.int .u64 r.1, .int .u64 r.2.1, .int .u64 r.2.2.1, .int .u64 r.2.2.2] ∧ Fr = l') := by
 refine Spec.of Tryz.func38 rfl rfl ?_; unfold Q21.f at j; have j := brun j; refine At.seq (At.region ?_); refine At.box rfl rfl (cs := [.int .u64 a0_0, .int .u64 a0_1, .int .u64 a0_2, .int .u64 a0_3]) rfl rfl (fun b265 => ?_); refine At.alloc rfl rfl rfl (fun b266 => ?_); refine At.nil (At.thn (At.seq (At.seq (At.region (At.run 3 rfl ?_))))); obtain ⟨G468, hl469, hr470, j⟩ := bjoin j; refine At.joinO 3 (X := Bool) (fun x467 => [(1, .int .i64 a1), (2, .pointer (some ⟨b265, 0, none⟩)), (4, .pointer (some ⟨b266, 0, none⟩)), (10, .bool x467)]) (fun x467 => pt b266 (.cells ([.int .u64 0, .int .u64 0, .int .u64 0, .int .u64 0] : List Value).toArray 43) :: pt b265 (.cells [.int .u64 a0_0, .int .u64 a0_1, .int .u64 a0_2, .int .u64 a0_3].toArray 43) :: Fr) (fun x467 => G468 (.inl x467) = some r) ?_ (fun J471 => ?_)
 ·rintro x467 j; have j := (hl469 _).symm.trans j
  ·refine At.nil (At.thn ?_); rcases bite j with ⟨h472, j⟩ | ⟨h472, j⟩
   ··refine At.condT rfl h472 ?_
     refine At.region (At.run 1 rfl (At.y (Y.shr rfl rfl (by decide)) rfl rfl rfl ?_)); obtain ⟨h473, j⟩ := bnone j; rcases bite j with ⟨h474, j⟩ | ⟨h474, j⟩
     ··refine At.y (Y.ixArrK rfl rfl rfl rfl rfl h473.1 h473.2 (q := 0) (off := 0) h474 rfl) rfl rfl rfl ?_
       refine At.y (Y.load rfl rfl (.s .z) rfl rfl rfl) rfl rfl rfl (At.run 3 rfl ?_); obtain ⟨h475, j⟩ := bnone j; refine At.y (Y.shl rfl rfl h475) rfl rfl rfl (At.run 1 rfl (At.y (Y.ixArrK rfl rfl rfl rfl rfl h473.1 h473.2 (q := 0) (off := 0) h474 rfl) rfl rfl rfl ?_)); refine At.store rfl rfl rfl rfl (.s .z) rfl rfl rfl (.c .n) ?_; refine At.nil (At.thn (At.seq (At.region (At.y (Y.load rfl rfl .z rfl rfl rfl) rfl rfl rfl ?_)))); refine At.store rfl rfl rfl rfl (.s .z) rfl rfl rfl (.c (.c (.c (.c .n)))) ?_; refine At.nil (At.thn (At.ret ?_)); refine At.resM (.inl rfl) rfl (RV.cell rfl rfl .z rfl rfl rfl RV.nil) ?_; refine At.drop .z (At.drop .z ?_); cases bret j; exact fun a w e hs => ⟨_, ⟨rfl, rfl⟩, hs⟩
     ··rcases bite j with ⟨h477, j⟩ | ⟨h477, j⟩
       ··refine At.y (Y.ixArrK rfl rfl rfl rfl rfl h473.1 h473.2 (q := 1) (off := 1) h477 rfl) rfl rfl rfl ?_
         refine At.y (Y.load rfl rfl (.s .z) rfl rfl rfl) rfl rfl rfl (At.run 3 rfl ?_); obtain ⟨h478, j⟩ := bnone j; refine At.y (Y.shl rfl rfl h478) rfl rfl rfl (At.run 1 rfl (At.y (Y.ixArrK rfl rfl rfl rfl rfl h473.1 h473.2 (q := 1) (off := 1) h477 rfl) rfl rfl rfl ?_)); refine At.store rfl rfl rfl rfl (.s .z) rfl rfl rfl (.s (.c .n)) ?_; refine At.nil (At.thn (At.seq (At.region (At.y (Y.load rfl rfl .z rfl rfl rfl) rfl rfl rfl ?_)))); refine At.store rfl rfl rfl rfl (.s .z) rfl rfl rfl (.c (.c (.c (.c .n)))) ?_; refine At.nil (At.thn (At.ret ?_)); refine At.resM (.inl rfl) rfl (RV.cell rfl rfl .z rfl rfl rfl RV.nil) ?_; refine At.drop .z (At.drop .z ?_); cases bret j; exact fun a w e hs => ⟨_, ⟨rfl, rfl⟩, hs⟩
       ··rcases bite j with ⟨h481, j⟩ | ⟨h481, j⟩
         ··refine At.y (Y.ixArrK rfl rfl rfl rfl rfl h473.1 h473.2 (q := 2) (off := 2) h481 rfl) rfl rfl rfl ?_
           refine At.y (Y.load rfl rfl (.s .z) rfl rfl rfl) rfl rfl rfl (At.run 3 rfl ?_); obtain ⟨h482, j⟩ := bnone j; refine At.y (Y.shl rfl rfl h482) rfl rfl rfl (At.run 1 rfl (At.y (Y.ixArrK rfl rfl rfl rfl rfl h473.1 h473.2 (q := 2) (off := 2) h481 rfl) rfl rfl rfl ?_)); refine At.store rfl rfl rfl rfl (.s .z) rfl rfl rfl (.s (.s (.c .n))) ?_; refine At.nil (At.thn (At.seq (At.region (At.y (Y.load rfl rfl .z rfl rfl rfl) rfl rfl rfl ?_)))); refine At.store rfl rfl rfl rfl (.s .z) rfl rfl rfl (.c (.c (.c (.c .n)))) ?_; refine At.nil (At.thn (At.ret ?_)); refine At.resM (.inl rfl) rfl (RV.cell rfl rfl .z rfl rfl rfl RV.nil) ?_; refine At.drop .z (At.drop .z ?_); cases bret j; exact fun a w e hs => ⟨_, ⟨rfl, rfl⟩, hs⟩
         ··have h486 : (Bw.shr .i64 a1 6) = 3 := by have h1_ := h473; omega
           refine At.y (Y.ixArrK rfl rfl rfl rfl rfl h473.1 h473.2 (q := 3) (off := 3) h486 rfl) rfl rfl rfl (At.y (Y.load rfl rfl (.s .z) rfl rfl rfl) rfl rfl rfl (At.run 3 rfl ?_)); obtain ⟨h487, j⟩ := bnone j; refine At.y (Y.shl rfl rfl h487) rfl rfl rfl (At.run 1 rfl (At.y (Y.ixArrK rfl rfl rfl rfl rfl h473.1 h473.2 (q := 3) (off := 3) h486 rfl) rfl rfl rfl ?_)); refine At.store rfl rfl rfl rfl (.s .z) rfl rfl rfl (.s (.s (.s (.c .n)))) ?_; refine At.nil (At.thn (At.seq (At.region (At.y (Y.load rfl rfl .z rfl rfl rfl) rfl rfl rfl ?_)))); refine At.store rfl rfl rfl rfl (.s .z) rfl rfl rfl (.c (.c (.c (.c .n)))) ?_; refine At.nil (At.thn (At.ret ?_)); refine At.resM (.inl rfl) rfl (RV.cell rfl rfl .z rfl rfl rfl RV.nil) ?_; refine At.drop .z (At.drop .z ?_); cases bret j; exact fun a w e hs => ⟨_, ⟨rfl, rfl⟩, hs⟩
   ··refine At.condF rfl (bn h472) ?_
     refine At.skip (At.thn (At.seq (At.region (At.y (Y.load rfl rfl (.s .z) rfl rfl rfl) rfl rfl rfl ?_)))); refine At.store rfl rfl rfl rfl .z rfl rfl rfl (.c (.c (.c (.c .n)))) ?_; refine At.nil (At.thn (At.ret ?_)); refine At.resM (.inl rfl) rfl (RV.cell rfl rfl .z rfl rfl rfl RV.nil) ?_; refine At.drop .z (At.drop .z ?_); cases bret j; exact fun a w e hs => ⟨_, ⟨rfl, rfl⟩, hs⟩
 ··rcases bite j with ⟨h491, j⟩ | ⟨h491, j⟩
   ··refine At.know (t := 7) rfl (decide_eq_true h491) ?_
     refine At.run 3 rfl ?_; exact At.of (J471 (decide (a1 < 256)) j) ⟨rfl, rfl, rfl, rfl, trivial⟩
   ··refine At.know (t := 7) rfl (decide_eq_false h491) ?_
     refine At.run 3 rfl ?_; exact At.of (J471 false j) ⟨rfl, rfl, rfl, rfl, trivial⟩

noncomputable def Q34.l0b (a0 : List Int) (x872 x873 x874 x875 x876 : Int) : Option ((Int × Int × Int × Int × Int) ⊕ ((Int × Int × Int × Int) ⊕ (Int × Int × Int × Int))) :=
 if x876 < (a0.length : Int) then
 if (0 : Int) ≤ x876 ∧ x876 < (a0.length : Int) then
 (Q21.f x872 x873 x874 x875 (gt a0 x876)).bind fun t1094 =>
 nx (t1094.1, t1094.2.1, t1094.2.2.1, t1094.2.2.2, IntKind.i64.wrap (x876 + 1))
 else none
 else
 dn (.inl (x872, x873, x874, x875))
noncomputable def Q34.l0 (a0 : List Int) (x872 x873 x874 x875 x876 : Int) : Option ((Int × Int × Int × Int) ⊕ (Int × Int × Int × Int)) := iter (fun t_ : Int × Int × Int × Int × Int => Q34.l0b a0 t_.1 t_.2.1 t_.2.2.1 t_.2.2.2.1 t_.2.2.2.2) (x872, x873, x874, x875, x876)
noncomputable def Q34.f (a0 : List Int) : Option (Int × Int × Int × Int) :=
 jn (Q34.l0 a0 0 0 0 0 0) (fun (s_ : Int × Int × Int × Int) =>
 some (s_.1, s_.2.1, s_.2.2.1, s_.2.2.2))
theorem Q34.callee : Callee Tryz.prog 60 := ⟨_, Tryz.func60, by kernel_rfl, by kernel_rfl⟩
theorem Q34.spec (R : Res) (Fr : List HProp) (A0 : Option Addr) (n0 : Nat) (c0 : Nat) (a0 : List Int) (hr0 : RdS (Fl.int .i64).rep R.heap A0 a0) (hn0 : a0.length = n0) (hc0 : n0 ≤ c0) {r : Int × Int × Int × Int} (j : Q34.f a0 = some r) :
 Spec Tryz.prog 60 [.slice A0 n0 c0] R (Fr) (fun v l' => v = .agg #[.int .u64 r.1, .int .u64 r.2.1, .int .u64 r.2.2.1, .int .u64 r.2.2.2] ∧ Fr = l') := by
 subst hn0; refine Spec.of Tryz.func60 rfl rfl ?_; unfold Q34.f at j; have j := brun j; refine At.seq (At.region ?_); refine At.alloc rfl rfl rfl (fun b265 => ?_); refine At.nil (At.thn (At.seq (At.region ?_))); refine At.alloc rfl rfl rfl (fun b266 => ?_); refine At.nil (At.thn (At.seq (At.seq (At.region (At.run 3 rfl (At.nil (At.thn ?_))))))); refine At.block ?_; obtain ⟨G1081, hl1082, hr1083, j⟩ := bjoin j; obtain ⟨o1084, hlo1085, ho1086⟩ := bsome j; clear j; unfold Q34.l0 at hlo1085; obtain ⟨m1087, hit1089⟩ := Q25.1 hlo1085; clear hlo1085; refine At.loopJ (X := Int × Int × Int × Int × Int) (Y := Int × Int × Int × Int) (e0 := 0) (fun s_ => [(2, .pointer (some ⟨b265, 0, none⟩)), (3, .pointer (some ⟨b266, 0, none⟩)), (6, .slice A0 a0.length c0), (7, .int .i64 (a0.length : Int)), (8, .int .i64 s_.2.2.2.2)]) (fun s_ => pt b266 (.cells [.int .u64 s_.1, .int .u64 s_.2.1, .int .u64 s_.2.2.1, .int .u64 s_.2.2.2.1].toArray 43) :: pt b265 (.cells ([.int .u64 0, .int .u64 0, .int .u64 0, .int .u64 0] : List Value).toArray 43) :: Fr) (fun m_ => fun s_ => iterN (fun t_ : Int × Int × Int × Int × Int => Q34.l0b a0 t_.1 t_.2.1 t_.2.2.1 t_.2.2.2.1 t_.2.2.2.2) m_ (s_.1, s_.2.1, s_.2.2.1, s_.2.2.2.1, s_.2.2.2.2) = some o1084) m1087 (0, 0, 0, 0, 0) hit1089 (fun s_ => [(2, .pointer (some ⟨b265, 0, none⟩)), (3, .pointer (some ⟨b266, 0, none⟩))]) (fun s_ => pt b266 (.cells [.int .u64 s_.1, .int .u64 s_.2.1, .int .u64 s_.2.2.1, .int .u64 s_.2.2.2].toArray 43) :: pt b265 (.cells ([.int .u64 0, .int .u64 0, .int .u64 0, .int .u64 0] : List Value).toArray 43) :: Fr) (fun s_ => G1081 (.inl (s_.1, s_.2.1, s_.2.2.1, s_.2.2.2)) = some r) (fun a w e hs => ⟨e.sub ⟨rfl, rfl, rfl, rfl, rfl, trivial⟩, (by exact hs)⟩) ?_ (fun J1091 => ?_)
 ·rintro ⟨x1077, x1078, x1079, x1080⟩ j; have j := (hl1082 _).symm.trans j
  ·refine At.ibx ?_; refine At.thn (At.seq (At.region (At.y (Y.load rfl rfl .z rfl rfl rfl) rfl rfl rfl ?_))); refine At.store rfl rfl rfl rfl (.s .z) rfl rfl rfl (.c (.c (.c (.c .n)))) ?_; refine At.nil (At.thn (At.ret ?_)); refine At.resM (.inl rfl) rfl (RV.cell rfl rfl .z rfl rfl rfl RV.nil) ?_; refine At.drop .z (At.drop .z ?_); cases bret j; exact fun a w e hs => ⟨_, ⟨rfl, rfl⟩, hs⟩
 ·clear hit1089 m1087; rintro m1087 ⟨x872, x873, x874, x875, x876⟩ hit1089; obtain ⟨m1088, f_, hlt1090, hf_, j⟩ := bit hit1089; clear hit1089; have j : (Q34.l0b a0 x872 x873 x874 x875 x876).bind _ = some o1084 := j; unfold Q34.l0b at j
  ·refine At.seq (At.region (At.run 1 rfl (At.nil (At.thn (At.seq ?_))))); rcases bite j with ⟨h1092, j⟩ | ⟨h1092, j⟩
   ··refine At.condT rfl (decide_eq_true h1092) ?_
     refine At.skip (At.thn (At.seq ?_)); refine At.block ?_; refine At.seq (At.region ?_); obtain ⟨h1093, j⟩ := bnone j; refine At.y (Y.ixRd hr0 rfl rfl rfl rfl rfl rfl rfl h1093.1 h1093.2) rfl rfl rfl (At.y (Y.ldFl hr0 rfl (q := 0) rfl rfl h1093.1 h1093.2 rfl rfl rfl) rfl rfl rfl (At.run 1 rfl (At.nil (At.thn (At.region (At.y (Y.load rfl rfl .z rfl rfl rfl) rfl rfl rfl (At.run 1 rfl ?_))))))); obtain ⟨t1094, hc1095, j⟩ := bbind j; refine At.call rfl Q21.callee rfl rfl rfl (Q21.spec _ _  x872 x873 x874 x875 (gt a0 x876)  hc1095) ?_; rintro _ _ ⟨rfl, rfl⟩; refine At.store rfl rfl rfl rfl .z rfl rfl rfl (.c (.c (.c (.c .n)))) ?_; refine At.nil ?_; refine At.ibn ?_; refine At.thn (At.region (At.run 2 rfl (At.nil ?_))); have j := bnx hf_ j; exact fun a w e hs => ⟨m1088, (t1094.1, t1094.2.1, t1094.2.2.1, t1094.2.2.2, IntKind.i64.wrap (x876 + 1)), hlt1090, j, e.sub ⟨rfl, rfl, rfl, rfl, rfl, trivial⟩, hs⟩
   ··refine At.condF rfl (decide_eq_false h1092) ?_
     refine At.exit ?_; refine At.the ?_; refine At.the ?_; exact fun a w e hs => J1091 (x872, x873, x874, x875) (bdn j ho1086) a w (e.sub ⟨rfl, rfl, trivial⟩) hs

noncomputable def Q11.l2b (a0_1 : List Bs) (a0_2 : List Q0) (x1680 : Int) (x2502 : List (Q8 × Q4)) (x2503 : Int) : Option (((List (Q8 × Q4)) × Int) ⊕ (((List (Q8 × Q4))) ⊕ (((List (Q8 × Q4)) × Int) ⊕ (((List (Q8 × Q4))) ⊕ ((Option Q1)))))) :=
 if x2503 < (([(gt a0_1 ((gt a0_2 x1680).Action)), ([45] : Bs)] : List Bs).length : Int) then
 if (0 : Int) ≤ x2503 ∧ x2503 < (([(gt a0_1 ((gt a0_2 x1680).Action)), ([45] : Bs)] : List Bs).length : Int) then
 (Q21.f (((mget x2502 (⟨(gt a0_2 x1680).From, gt ([(gt a0_1 ((gt a0_2 x1680).Action)), ([45] : Bs)] : List Bs) x2503⟩ : Q8)).getD (⟨(0 : Int), (0 : Int), (0 : Int), (0 : Int)⟩ : Q4)).c0) (((mget x2502 (⟨(gt a0_2 x1680).From, gt ([(gt a0_1 ((gt a0_2 x1680).Action)), ([45] : Bs)] : List Bs) x2503⟩ : Q8)).getD (⟨(0 : Int), (0 : Int), (0 : Int), (0 : Int)⟩ : Q4)).c1) (((mget x2502 (⟨(gt a0_2 x1680).From, gt ([(gt a0_1 ((gt a0_2 x1680).Action)), ([45] : Bs)] : List Bs) x2503⟩ : Q8)).getD (⟨(0 : Int), (0 : Int), (0 : Int), (0 : Int)⟩ : Q4)).c2) (((mget x2502 (⟨(gt a0_2 x1680).From, gt ([(gt a0_1 ((gt a0_2 x1680).Action)), ([45] : Bs)] : List Bs) x2503⟩ : Q8)).getD (⟨(0 : Int), (0 : Int), (0 : Int), (0 : Int)⟩ : Q4)).c3) ((gt a0_2 x1680).To)).bind fun t2721 =>
 nx ((mset x2502 (⟨(gt a0_2 x1680).From, gt ([(gt a0_1 ((gt a0_2 x1680).Action)), ([45] : Bs)] : List Bs) x2503⟩ : Q8) (⟨t2721.1, t2721.2.1, t2721.2.2.1, t2721.2.2.2⟩ : Q4)), IntKind.i64.wrap (x2503 + 1))
 else none
 else
 dn (.inl x2502)
noncomputable def Q11.l2 (a0_1 : List Bs) (a0_2 : List Q0) (x1680 : Int) (x2502 : List (Q8 × Q4)) (x2503 : Int) : Option (((List (Q8 × Q4))) ⊕ (((List (Q8 × Q4)) × Int) ⊕ (((List (Q8 × Q4))) ⊕ ((Option Q1))))) := iter (fun t_ : (List (Q8 × Q4)) × Int => Q11.l2b a0_1 a0_2 x1680 t_.1 t_.2) (x2502, x2503)
noncomputable def Q11.l1b (a0_1 : List Bs) (a0_2 : List Q0) (x1679 : List (Q8 × Q4)) (x1680 : Int) : Option (((List (Q8 × Q4)) × Int) ⊕ (((List (Q8 × Q4))) ⊕ ((Option Q1)))) :=
 if x1680 < (a0_2.length : Int) then
 if (0 : Int) ≤ x1680 ∧ x1680 < (a0_2.length : Int) then
 if (0 : Int) ≤ (gt a0_2 x1680).Action ∧ (gt a0_2 x1680).Action < (a0_1.length : Int) then
 jn (Q11.l2 a0_1 a0_2 x1680 x1679 0) (fun (x2704 : List (Q8 × Q4)) =>
 nx (x2704, IntKind.i64.wrap (x1680 + 1)))
 else none
 else none
 else
 dn (.inl x1679)
noncomputable def Q11.l1 (a0_1 : List Bs) (a0_2 : List Q0) (x1679 : List (Q8 × Q4)) (x1680 : Int) : Option (((List (Q8 × Q4))) ⊕ ((Option Q1))) := iter (fun t_ : (List (Q8 × Q4)) × Int => Q11.l1b a0_1 a0_2 t_.1 t_.2) (x1679, x1680)
noncomputable def Q11.l0b (a0_3 : List Q2) (x863 : List (Bs × Q4)) (x864 : Int) : Option (((List (Bs × Q4)) × Int) ⊕ (((List (Bs × Q4))) ⊕ ((Option Q1)))) :=
 if x864 < (a0_3.length : Int) then
 if (0 : Int) ≤ x864 ∧ x864 < (a0_3.length : Int) then
 (Q34.f ((gt a0_3 x864).States)).bind fun t2735 =>
 nx ((mset x863 ((gt a0_3 x864).Name) (⟨t2735.1, t2735.2.1, t2735.2.2.1, t2735.2.2.2⟩ : Q4)), IntKind.i64.wrap (x864 + 1))
 else none
 else
 dn (.inl x863)
noncomputable def Q11.l0 (a0_3 : List Q2) (x863 : List (Bs × Q4)) (x864 : Int) : Option (((List (Bs × Q4))) ⊕ ((Option Q1))) := iter (fun t_ : (List (Bs × Q4)) × Int => Q11.l0b a0_3 t_.1 t_.2) (x863, x864)
noncomputable def Q11.f (a0_0 : Int) (a0_1 : List Bs) (a0_2 : List Q0) (a0_3 : List Q2) : Option (Option Q1) :=
 (Q18.f a0_0 a0_1 a0_2 a0_3).bind fun t255 =>
 if t255 = true then
 jn (Q11.l0 a0_3 ([] : List (Bs × Q4)) 0) (fun (x1065 : List (Bs × Q4)) =>
 jn (Q11.l1 a0_1 a0_2 ([] : List (Q8 × Q4)) 0) (fun (x1881 : List (Q8 × Q4)) =>
 some (some (⟨a0_0, x1065, x1881⟩ : Q1))))
 else
 some none
theorem Q11.callee : Callee Tryz.prog 19 := ⟨_, Tryz.func19, by kernel_rfl, by kernel_rfl⟩
theorem Q11.spec (R : Res) (Fr : List HProp) (A0_1 : Option Addr) (n0_1 : Nat) (c0_1 : Nat) (A0_2 : Option Addr) (n0_2 : Nat) (c0_2 : Nat) (A0_3 : Option Addr) (n0_3 : Nat) (c0_3 : Nat) (a0_0 : Int) (a0_1 : List Bs) (a0_2 : List Q0) (a0_3 : List Q2) (hr0_1 : RdS Fl.bs.rep R.heap A0_1 a0_1) (hn0_1 : a0_1.length = n0_1) (hc0_1 : n0_1 ≤ c0_1) (hr0_2 : RdS Q0.fl.rep R.heap A0_2 a0_2) (hn0_2 : a0_2.length = n0_2) (hc0_2 : n0_2 ≤ c0_2) (hr0_3 : RdS Q2.rep R.heap A0_3 a0_3) (hn0_3 : a0_3.length = n0_3) (hc0_3 : n0_3 ≤ c0_3) {r : (Option Q1)} (j : Q11.f a0_0 a0_1 a0_2 a0_3 = some r) :
 Spec Tryz.prog 19 [.agg #[.int .i64 a0_0, .slice A0_1 n0_1 c0_1, .slice A0_2 n0_2 c0_2, .slice A0_3 n0_3 c0_3]] R (Fr) (fun v l' => ∃ (w251 : Option Nat), v = optp w251 ∧ optb Q1.ow 91 w251 r :: Fr = l') := by
 subst hn0_1; subst hn0_2; subst hn0_3; refine Spec.of Tryz.func19 rfl rfl ?_; unfold Q11.f at j; have j := brun j; refine At.seq (At.region ?_); refine At.box rfl rfl (cs := [.int .i64 a0_0, .slice A0_1 a0_1.length c0_1, .slice A0_2 a0_2.length c0_2, .slice A0_3 a0_3.length c0_3]) rfl rfl (fun b254 => ?_); refine At.run 1 rfl (At.nil (At.thn (At.seq (At.seq (At.region (At.y (Y.load rfl rfl .z rfl rfl rfl) rfl rfl rfl ?_)))))); obtain ⟨t255, hc256, j⟩ := bbind j; refine At.call rfl Q18.callee rfl rfl rfl (Q18.spec _ _ A0_1 a0_1.length c0_1 A0_2 a0_2.length c0_2 A0_3 a0_3.length c0_3 a0_0 a0_1 a0_2 a0_3 hr0_1 rfl hc0_1 hr0_2 rfl hc0_2 hr0_3 rfl hc0_3 hc256) ?_; rintro _ _ ⟨rfl, rfl⟩; refine At.run 1 rfl (At.nil (At.thn ?_)); rcases bite j with ⟨h257, j⟩ | ⟨h257, j⟩
 ··refine At.condF rfl (nf h257) ?_
   refine At.skip (At.thn (At.seq (At.region (At.run 1 rfl (At.y (Y.load rfl rfl .z rfl rfl rfl) rfl rfl rfl ?_))))); refine At.makeMap Fl.bs.ov Q4.fl.av rfl rfl (fun b258 => ?_); refine At.makeMap Q8.fl.av Q4.fl.av rfl rfl (fun b259 => ?_); refine At.y (Y.build (is := [0, 1, 2]) (xo := [.tmp 15, .tmp 16, .tmp 17]) (vs := [.int .i64 a0_0, .map (some b258), .map (some b259)]) (cs := [.int .i64 a0_0, .map (some b258), .map (some b259)]) rfl rfl rfl rfl rfl rfl) rfl rfl rfl ?_; refine At.box rfl rfl (cs := [.int .i64 a0_0, .map (some b258), .map (some b259)]) rfl rfl (fun b260 => ?_); refine At.run 1 rfl (At.nil (At.thn (At.seq (At.seq (At.region (At.run 1 rfl (At.y (Y.load rfl rfl (.s (.s (.s .z))) rfl rfl rfl) rfl rfl rfl ?_))))))); refine At.run 2 rfl (At.nil (At.thn ?_)); refine At.block ?_; obtain ⟨G1066, hl1067, hr1068, j⟩ := bjoin j; obtain ⟨o1069, hlo1070, ho1071⟩ := bsome j; clear j; unfold Q11.l0 at hlo1070; obtain ⟨m1072, hit1074⟩ := Q25.1 hlo1070; clear hlo1070; refine At.loopJ (X := (List (Bs × Q4)) × Int) (Y := (List (Bs × Q4))) (e0 := 0) (fun s_ => [(1, .pointer (some ⟨b254, 0, none⟩)), (3, .pointer (some ⟨b260, 0, none⟩)), (21, .slice A0_3 a0_3.length c0_3), (22, .int .i64 (a0_3.length : Int)), (23, .int .i64 s_.2)]) (fun s_ => pt b260 (.cells [.int .i64 a0_0, .map (some b258), .map (some b259)].toArray 91) :: mapo Q8.fl.av Q4.fl.av b259 ([] : List (Q8 × Q4)) :: mapo Fl.bs.ov Q4.fl.av b258 s_.1 :: pt b254 (.cells [.int .i64 a0_0, .slice A0_1 a0_1.length c0_1, .slice A0_2 a0_2.length c0_2, .slice A0_3 a0_3.length c0_3].toArray 26) :: Fr) (fun m_ => fun s_ => iterN (fun t_ : (List (Bs × Q4)) × Int => Q11.l0b a0_3 t_.1 t_.2) m_ (s_.1, s_.2) = some o1069) m1072 (([] : List (Bs × Q4)), 0) hit1074 (fun x1065 => [(1, .pointer (some ⟨b254, 0, none⟩)), (3, .pointer (some ⟨b260, 0, none⟩))]) (fun x1065 => pt b260 (.cells [.int .i64 a0_0, .map (some b258), .map (some b259)].toArray 91) :: mapo Q8.fl.av Q4.fl.av b259 ([] : List (Q8 × Q4)) :: mapo Fl.bs.ov Q4.fl.av b258 x1065 :: pt b254 (.cells [.int .i64 a0_0, .slice A0_1 a0_1.length c0_1, .slice A0_2 a0_2.length c0_2, .slice A0_3 a0_3.length c0_3].toArray 26) :: Fr) (fun x1065 => G1066 (.inl x1065) = some r) (fun a w e hs => ⟨e.sub ⟨rfl, rfl, rfl, rfl, rfl, trivial⟩, (by exact hs)⟩) ?_ (fun J1076 => ?_)
   ·rintro x1065 j; have j := (hl1067 _).symm.trans j
    ·refine At.ibx ?_; refine At.thn (At.seq (At.seq (At.region (At.run 1 rfl (At.y (Y.load rfl rfl (.s (.s (.s .z))) rfl rfl rfl) rfl rfl rfl (At.run 2 rfl (At.nil ?_))))))); refine At.thn ?_; refine At.block ?_; obtain ⟨G1882, hl1883, hr1884, j⟩ := bjoin j; obtain ⟨o1885, hlo1886, ho1887⟩ := bsome j; clear j; unfold Q11.l1 at hlo1886; obtain ⟨m1888, hit1890⟩ := Q25.1 hlo1886; clear hlo1886; refine At.loopJ (X := (List (Q8 × Q4)) × Int) (Y := (List (Q8 × Q4))) (e0 := 2) (fun s_ => [(1, .pointer (some ⟨b254, 0, none⟩)), (3, .pointer (some ⟨b260, 0, none⟩)), (38, .slice A0_2 a0_2.length c0_2), (39, .int .i64 (a0_2.length : Int)), (40, .int .i64 s_.2)]) (fun s_ => pt b260 (.cells [.int .i64 a0_0, .map (some b258), .map (some b259)].toArray 91) :: mapo Q8.fl.av Q4.fl.av b259 s_.1 :: mapo Fl.bs.ov Q4.fl.av b258 x1065 :: pt b254 (.cells [.int .i64 a0_0, .slice A0_1 a0_1.length c0_1, .slice A0_2 a0_2.length c0_2, .slice A0_3 a0_3.length c0_3].toArray 26) :: Fr) (fun m_ => fun s_ => iterN (fun t_ : (List (Q8 × Q4)) × Int => Q11.l1b a0_1 a0_2 t_.1 t_.2) m_ (s_.1, s_.2) = some o1885) m1888 (([] : List (Q8 × Q4)), 0) hit1890 (fun x1881 => [(3, .pointer (some ⟨b260, 0, none⟩))]) (fun x1881 => pt b260 (.cells [.int .i64 a0_0, .map (some b258), .map (some b259)].toArray 91) :: mapo Q8.fl.av Q4.fl.av b259 x1881 :: mapo Fl.bs.ov Q4.fl.av b258 x1065 :: pt b254 (.cells [.int .i64 a0_0, .slice A0_1 a0_1.length c0_1, .slice A0_2 a0_2.length c0_2, .slice A0_3 a0_3.length c0_3].toArray 26) :: Fr) (fun x1881 => G1882 (.inl x1881) = some r) (fun a w e hs => ⟨e.sub ⟨rfl, rfl, rfl, rfl, rfl, trivial⟩, (by exact hs)⟩) ?_ (fun J1892 => ?_)
     ·rintro x1881 j; have j := (hl1883 _).symm.trans j
      ·refine At.ibx ?_; refine At.thn (At.seq (At.region (At.run 2 rfl (At.nil (At.thn (At.ret (At.f1 ?_))))))); refine At.f2 (At.f2 ?_); refine At.optSome (x := (⟨a0_0, x1065, x1881⟩ : Q1)) Q1.ent ?_; refine At.drop (.s .z) ?_; cases bret j; exact At.res (.inl rfl) rfl rfl ⟨(some b260), rfl, rfl⟩
     ·clear hit1890 m1888; rintro m1888 ⟨x1679, x1680⟩ hit1890; obtain ⟨m1889, f_, hlt1891, hf_, j⟩ := bit hit1890; clear hit1890; have j : (Q11.l1b a0_1 a0_2 x1679 x1680).bind _ = some o1885 := j; unfold Q11.l1b at j
      ·refine At.seq (At.region (At.run 1 rfl (At.nil (At.thn (At.seq ?_))))); rcases bite j with ⟨h1893, j⟩ | ⟨h1893, j⟩
       ··refine At.condT rfl (decide_eq_true h1893) ?_
         refine At.skip (At.thn (At.seq ?_)); refine At.block ?_; refine At.seq (At.region ?_); obtain ⟨h1894, j⟩ := bnone j; refine At.y (Y.ixRd hr0_2 rfl rfl rfl rfl rfl rfl rfl h1894.1 h1894.2) rfl rfl rfl (At.y (Y.ldFl hr0_2 rfl (q := 0) rfl rfl h1894.1 h1894.2 rfl rfl rfl) rfl rfl rfl ?_); refine At.alloc rfl rfl rfl (fun b1895 => ?_); refine At.store rfl rfl rfl rfl .z rfl rfl rfl (.c (.c (.c .n))) ?_; refine At.nil (At.thn (At.seq (At.region (At.run 1 rfl ?_)))); refine At.y (Y.load rfl rfl (.s (.s (.s (.s .z)))) rfl rfl rfl) rfl rfl rfl ?_; refine At.run 1 rfl (At.y (Y.load rfl rfl .z rfl rfl rfl) rfl rfl rfl ?_); obtain ⟨h1896, j⟩ := bnone j; refine At.y (Y.ixRd hr0_1 rfl rfl rfl rfl rfl rfl rfl h1896.1 h1896.2) rfl rfl rfl (At.y (Y.ldFl hr0_1 rfl (q := 0) rfl rfl h1896.1 h1896.2 rfl rfl rfl) rfl rfl rfl ?_); refine At.lit rfl (xo := [.tmp 49, .const (.string ⟨#[45]⟩)]) (ys := ([(gt a0_1 ((gt a0_2 x1680).Action)), ([45] : Bs)] : List Bs)) Fl.bs rfl rfl rfl rfl rfl rfl rfl rfl rfl rfl rfl (fun A1897 c1898 => ?_); refine At.run 2 rfl (At.nil (At.thn ?_)); refine At.block ?_; obtain ⟨G2705, hl2706, hr2707, j⟩ := bjoin j; obtain ⟨o2708, hlo2709, ho2710⟩ := bsome j; clear j; unfold Q11.l2 at hlo2709; obtain ⟨m2711, hit2713⟩ := Q25.1 hlo2709; clear hlo2709; refine At.loopJ (X := (List (Q8 × Q4)) × Int) (Y := (List (Q8 × Q4))) (e0 := 4) (fun s_ => [(1, .pointer (some ⟨b254, 0, none⟩)), (3, .pointer (some ⟨b260, 0, none⟩)), (7, .pointer (some ⟨b1895, 0, none⟩)), (38, .slice A0_2 a0_2.length c0_2), (39, .int .i64 (a0_2.length : Int)), (40, .int .i64 x1680), (50, .slice A1897 (([(gt a0_1 ((gt a0_2 x1680).Action)), ([45] : Bs)] : List Bs).length) c1898), (51, .int .i64 (([(gt a0_1 ((gt a0_2 x1680).Action)), ([45] : Bs)] : List Bs).length : Int)), (52, .int .i64 s_.2)]) (fun s_ => row Fl.bs 9 A1897 (([(gt a0_1 ((gt a0_2 x1680).Action)), ([45] : Bs)] : List Bs).length) c1898 ([(gt a0_1 ((gt a0_2 x1680).Action)), ([45] : Bs)] : List Bs) :: pt b1895 (.cells [.int .i64 ((gt a0_2 x1680).From), .int .i64 ((gt a0_2 x1680).Action), .int .i64 ((gt a0_2 x1680).To)].toArray 35) :: pt b260 (.cells [.int .i64 a0_0, .map (some b258), .map (some b259)].toArray 91) :: mapo Q8.fl.av Q4.fl.av b259 s_.1 :: mapo Fl.bs.ov Q4.fl.av b258 x1065 :: pt b254 (.cells [.int .i64 a0_0, .slice A0_1 a0_1.length c0_1, .slice A0_2 a0_2.length c0_2, .slice A0_3 a0_3.length c0_3].toArray 26) :: Fr) (fun m_ => fun s_ => iterN (fun t_ : (List (Q8 × Q4)) × Int => Q11.l2b a0_1 a0_2 x1680 t_.1 t_.2) m_ (s_.1, s_.2) = some o2708) m2711 (x1679, 0) hit2713 (fun x2704 => [(1, .pointer (some ⟨b254, 0, none⟩)), (3, .pointer (some ⟨b260, 0, none⟩)), (38, .slice A0_2 a0_2.length c0_2), (39, .int .i64 (a0_2.length : Int)), (40, .int .i64 x1680)]) (fun x2704 => row Fl.bs 9 A1897 (([(gt a0_1 ((gt a0_2 x1680).Action)), ([45] : Bs)] : List Bs).length) c1898 ([(gt a0_1 ((gt a0_2 x1680).Action)), ([45] : Bs)] : List Bs) :: pt b1895 (.cells [.int .i64 ((gt a0_2 x1680).From), .int .i64 ((gt a0_2 x1680).Action), .int .i64 ((gt a0_2 x1680).To)].toArray 35) :: pt b260 (.cells [.int .i64 a0_0, .map (some b258), .map (some b259)].toArray 91) :: mapo Q8.fl.av Q4.fl.av b259 x2704 :: mapo Fl.bs.ov Q4.fl.av b258 x1065 :: pt b254 (.cells [.int .i64 a0_0, .slice A0_1 a0_1.length c0_1, .slice A0_2 a0_2.length c0_2, .slice A0_3 a0_3.length c0_3].toArray 26) :: Fr) (fun x2704 => G2705 (.inl x2704) = some o1885) (fun a w e hs => ⟨e.sub ⟨rfl, rfl, rfl, rfl, rfl, rfl, rfl, rfl, rfl, trivial⟩, (by exact hs)⟩) ?_ (fun J2715 => ?_)
         ·rintro x2704 j; have j := (hl2706 _).symm.trans j
          ·refine At.ibx ?_; refine At.ibn ?_; refine At.thn (At.region (At.run 2 rfl (At.nil (At.drop .z (At.drop .z ?_))))); have j := bnx hf_ j; exact fun a w e hs => ⟨m1889, (x2704, IntKind.i64.wrap (x1680 + 1)), hlt1891, j, e.sub ⟨rfl, rfl, rfl, rfl, rfl, trivial⟩, hs⟩
         ·clear hit2713 m2711; rintro m2711 ⟨x2502, x2503⟩ hit2713; obtain ⟨m2712, f_, hlt2714, hf_, j⟩ := bit hit2713; clear hit2713; have j : (Q11.l2b a0_1 a0_2 x1680 x2502 x2503).bind _ = some o2708 := j; unfold Q11.l2b at j
          ·refine At.seq (At.region (At.run 1 rfl (At.nil (At.thn (At.seq ?_))))); rcases bite j with ⟨h2716, j⟩ | ⟨h2716, j⟩
           ··refine At.condT rfl (decide_eq_true h2716) ?_
             refine At.skip (At.thn (At.seq ?_)); refine At.block ?_; refine At.seq (At.region ?_); obtain ⟨h2717, j⟩ := bnone j; refine At.y (Y.ix .z rfl rfl rfl rfl rfl rfl h2717.1 h2717.2) rfl rfl rfl (At.y (Y.ld .z (q := 0) rfl rfl h2717.1 h2717.2 rfl rfl rfl) rfl rfl rfl (At.run 1 rfl (At.nil (At.thn (At.seq (At.region (At.run 1 rfl ?_))))))); refine At.y (Y.load rfl rfl (.s .z) rfl rfl rfl) rfl rfl rfl (At.run 1 rfl ?_); refine At.y (Y.build (is := [0, 1]) (xo := [.tmp 57, .tmp 58]) (vs := [.int .i64 ((gt a0_2 x1680).From), .string ⟨(gt ([(gt a0_1 ((gt a0_2 x1680).Action)), ([45] : Bs)] : List Bs) x2503).toArray⟩]) (cs := [.int .i64 ((gt a0_2 x1680).From), .string ⟨(gt ([(gt a0_1 ((gt a0_2 x1680).Action)), ([45] : Bs)] : List Bs) x2503).toArray⟩]) rfl rfl rfl rfl rfl rfl) rfl rfl rfl ?_; refine At.alloc rfl rfl rfl (fun b2718 => ?_); refine At.store rfl rfl rfl rfl .z rfl rfl rfl (.c (.c .n)) ?_; refine At.nil (At.thn ?_); refine At.held [pt b2718 (.cells [.int .i64 ((gt a0_2 x1680).From), .string ⟨(gt ([(gt a0_1 ((gt a0_2 x1680).Action)), ([45] : Bs)] : List Bs) x2503).toArray⟩].toArray 94), row Fl.bs 9 A1897 (([(gt a0_1 ((gt a0_2 x1680).Action)), ([45] : Bs)] : List Bs).length) c1898 ([(gt a0_1 ((gt a0_2 x1680).Action)), ([45] : Bs)] : List Bs), pt b1895 (.cells [.int .i64 ((gt a0_2 x1680).From), .int .i64 ((gt a0_2 x1680).Action), .int .i64 ((gt a0_2 x1680).To)].toArray 35), pt b260 (.cells [.int .i64 a0_0, .map (some b258), .map (some b259)].toArray 91), mapo Fl.bs.ov Q4.fl.av b258 x1065, pt b254 (.cells [.int .i64 a0_0, .slice A0_1 a0_1.length c0_1, .slice A0_2 a0_2.length c0_2, .slice A0_3 a0_3.length c0_3].toArray 26)] 15 rfl ?_; refine At.H.pw 0 rfl rfl rfl rfl rfl (.c .z (.c .z (.c .z (.c .z (.c (.s .z) (.c (.s .z) .n)))))) ?_; refine At.H.pw 1 rfl rfl rfl rfl rfl (.c .z (.c .z (.c .z (.c .z (.c (.s .z) (.c (.s .z) .n)))))) ?_; refine At.H.pw 2 rfl rfl rfl rfl rfl (.c .z (.c .z (.c .z (.c .z (.c (.s .z) (.c (.s .z) .n)))))) ?_; refine At.H.tw 3 rfl (Y.load rfl rfl (.s (.s (.s .z))) rfl rfl rfl) rfl rfl rfl (.c .z (.c .z (.c .z (.c .z (.c (.s .z) (.c (.s .z) .n)))))) ?_; refine At.H.tw 4 rfl (Y.load rfl rfl .z rfl rfl rfl) rfl rfl rfl (.c .z (.c .z (.c .z (.c .z (.c (.s .z) (.c (.s .z) .n)))))) ?_; refine At.H.pw 5 rfl rfl rfl rfl rfl (.c .z (.c .z (.c .z (.c .z (.c (.s .z) (.c (.s .z) .n)))))) ?_; refine At.H.pw 6 rfl rfl rfl rfl rfl (.c .z (.c .z (.c .z (.c .z (.c (.s .z) (.c (.s .z) .n)))))) ?_; refine At.H.pw 7 rfl rfl rfl rfl rfl (.c .z (.c .z (.c .z (.c .z (.c (.s .z) (.c (.s .z) .n)))))) ?_; refine At.H.tw 8 rfl (Y.load rfl rfl (.s (.s (.s .z))) rfl rfl rfl) rfl rfl rfl (.c .z (.c .z (.c .z (.c .z (.c (.s .z) (.c (.s .z) .n)))))) ?_; refine At.H.tw 9 rfl (Y.load rfl rfl .z rfl rfl rfl) rfl rfl rfl (.c .z (.c .z (.c .z (.c .z (.c (.s .z) (.c (.s .z) .n)))))) ?_; refine At.H.pw 11 rfl rfl rfl rfl rfl (.c .z (.c .z (.c .z (.c .z (.c (.s .z) (.c (.s .z) .n)))))) ?_; refine At.H.tw 12 rfl (Y.load rfl rfl (.s (.s .z)) rfl rfl rfl) rfl rfl rfl (.c .z (.c .z (.c .z (.c .z (.c (.s .z) (.c (.s .z) .n)))))) ?_; refine At.H.al [10] (Q7 ?_ Q9)
             ··refine At.HO.op rfl ?_
               refine At.y (Y.lookup (k := (⟨(gt a0_2 x1680).From, gt ([(gt a0_1 ((gt a0_2 x1680).Action)), ([45] : Bs)] : List Bs) x2503⟩ : Q8)) (z := (⟨(0 : Int), (0 : Int), (0 : Int), (0 : Int)⟩ : Q4)) (.s (.s (.s (.s .z)))) rfl rfl Q8.keyok (by kernel_rfl) rfl rfl rfl) rfl rfl rfl ?_; refine At.HO.back (.c .z (.c .z (.c .z (.c .z (.c (.s .z) (.c (.s .z) .n)))))) ?_; refine At.H.al [13] (Q7 ?_ Q9)
               ··refine At.HO.op rfl ?_
                 obtain ⟨t2721, hc2722, j⟩ := bbind j; refine At.call rfl Q21.callee rfl rfl rfl (Q21.spec _ _  (((mget x2502 (⟨(gt a0_2 x1680).From, gt ([(gt a0_1 ((gt a0_2 x1680).Action)), ([45] : Bs)] : List Bs) x2503⟩ : Q8)).getD (⟨(0 : Int), (0 : Int), (0 : Int), (0 : Int)⟩ : Q4)).c0) (((mget x2502 (⟨(gt a0_2 x1680).From, gt ([(gt a0_1 ((gt a0_2 x1680).Action)), ([45] : Bs)] : List Bs) x2503⟩ : Q8)).getD (⟨(0 : Int), (0 : Int), (0 : Int), (0 : Int)⟩ : Q4)).c1) (((mget x2502 (⟨(gt a0_2 x1680).From, gt ([(gt a0_1 ((gt a0_2 x1680).Action)), ([45] : Bs)] : List Bs) x2503⟩ : Q8)).getD (⟨(0 : Int), (0 : Int), (0 : Int), (0 : Int)⟩ : Q4)).c2) (((mget x2502 (⟨(gt a0_2 x1680).From, gt ([(gt a0_1 ((gt a0_2 x1680).Action)), ([45] : Bs)] : List Bs) x2503⟩ : Q8)).getD (⟨(0 : Int), (0 : Int), (0 : Int), (0 : Int)⟩ : Q4)).c3) ((gt a0_2 x1680).To)  hc2722) ?_; rintro _ _ ⟨rfl, rfl⟩; refine At.HO.back (.c .z (.c .z (.c .z (.c .z (.c (.s .z) (.c (.s .z) .n)))))) ?_; refine At.H.al [14] (Q7 ?_ Q9)
                 ··refine At.HO.op rfl ?_
                   refine At.mapUpdate (k := (⟨(gt a0_2 x1680).From, gt ([(gt a0_1 ((gt a0_2 x1680).Action)), ([45] : Bs)] : List Bs) x2503⟩ : Q8)) (v := (⟨t2721.1, t2721.2.1, t2721.2.2.1, t2721.2.2.2⟩ : Q4)) rfl (.s (.s (.s (.s .z)))) rfl rfl Q8.keyok rfl rfl rfl rfl rfl ?_; refine At.HO.back (.c (.s .z) (.c (.s .z) (.c (.s .z) (.c (.s .z) (.c (.s .z) (.c (.s .z) .n)))))) ?_; refine At.H.done (by kernel_rfl) ?_; refine At.ibn ?_; refine At.thn (At.region (At.run 2 rfl (At.nil (At.drop (.s .z) (At.f5 (At.f5 (At.f2 ?_))))))); refine At.f5 (At.f5 (At.f5 ?_)); have j := bnx hf_ j; exact fun a w e hs => ⟨m2712, ((mset x2502 (⟨(gt a0_2 x1680).From, gt ([(gt a0_1 ((gt a0_2 x1680).Action)), ([45] : Bs)] : List Bs) x2503⟩ : Q8) (⟨t2721.1, t2721.2.1, t2721.2.2.1, t2721.2.2.2⟩ : Q4)), IntKind.i64.wrap (x2503 + 1)), hlt2714, j, e.sub ⟨rfl, rfl, rfl, rfl, rfl, rfl, rfl, rfl, rfl, trivial⟩, hs⟩
           ··refine At.condF rfl (decide_eq_false h2716) ?_
             refine At.exit ?_; refine At.the ?_; refine At.the ?_; exact fun a w e hs => J2715 x2502 (bdn j ho2710) a w (e.sub ⟨rfl, rfl, rfl, rfl, rfl, trivial⟩) hs
       ··refine At.condF rfl (decide_eq_false h1893) ?_
         refine At.exit ?_; refine At.the ?_; refine At.the ?_; exact fun a w e hs => J1892 x1679 (bdn j ho1887) a w (e.sub ⟨rfl, trivial⟩) hs
   ·clear hit1074 m1072; rintro m1072 ⟨x863, x864⟩ hit1074; obtain ⟨m1073, f_, hlt1075, hf_, j⟩ := bit hit1074; clear hit1074; have j : (Q11.l0b a0_3 x863 x864).bind _ = some o1069 := j; unfold Q11.l0b at j
    ·refine At.seq (At.region (At.run 1 rfl (At.nil (At.thn (At.seq ?_))))); rcases bite j with ⟨h2723, j⟩ | ⟨h2723, j⟩
     ··refine At.condT rfl (decide_eq_true h2723) ?_
       refine At.skip (At.thn (At.seq ?_)); refine At.block ?_; refine At.seq (At.region ?_); obtain ⟨h2724, j⟩ := bnone j; refine At.y (Y.ixRd hr0_3 rfl rfl rfl rfl rfl rfl rfl h2724.1 h2724.2) rfl rfl rfl ?_; obtain ⟨cs2725, hK2726, hy2727⟩ := RdS.whole (P := Tryz.prog) hr0_3 (Sub.refl _) rfl h2724.1 h2724.2; obtain ⟨_, _, rfl, rfl, ⟨A2728, c2729, rfl, hc2730, hr2731⟩⟩ := hK2726; refine At.y (hy2727 rfl rfl rfl rfl) rfl rfl rfl ?_; refine At.alloc rfl rfl rfl (fun b2732 => ?_); refine At.store rfl rfl rfl rfl .z rfl rfl rfl (.c (.c .n)) ?_; refine At.nil (At.thn ?_); refine At.held [pt b2732 (.cells [.string ⟨((gt a0_3 x864).Name).toArray⟩, .slice A2728 ((gt a0_3 x864).States.length) c2729].toArray 37), pt b260 (.cells [.int .i64 a0_0, .map (some b258), .map (some b259)].toArray 91), mapo Q8.fl.av Q4.fl.av b259 ([] : List (Q8 × Q4)), pt b254 (.cells [.int .i64 a0_0, .slice A0_1 a0_1.length c0_1, .slice A0_2 a0_2.length c0_2, .slice A0_3 a0_3.length c0_3].toArray 26)] 10 rfl ?_; refine At.H.pw 0 rfl rfl rfl rfl rfl (.c .z (.c .z (.c .z (.c (.s .z) .n)))) ?_; refine At.H.pw 1 rfl rfl rfl rfl rfl (.c .z (.c .z (.c .z (.c (.s .z) .n)))) ?_; refine At.H.pw 2 rfl rfl rfl rfl rfl (.c .z (.c .z (.c .z (.c (.s .z) .n)))) ?_; refine At.H.tw 3 rfl (Y.load rfl rfl (.s .z) rfl rfl rfl) rfl rfl rfl (.c .z (.c .z (.c .z (.c (.s .z) .n)))) ?_; refine At.H.pw 4 rfl rfl rfl rfl rfl (.c .z (.c .z (.c .z (.c (.s .z) .n)))) ?_; refine At.H.tw 5 rfl (Y.load rfl rfl .z rfl rfl rfl) rfl rfl rfl (.c .z (.c .z (.c .z (.c (.s .z) .n)))) ?_; refine At.H.pw 6 rfl rfl rfl rfl rfl (.c .z (.c .z (.c .z (.c (.s .z) .n)))) ?_; refine At.H.tw 7 rfl (Y.load rfl rfl .z rfl rfl rfl) rfl rfl rfl (.c .z (.c .z (.c .z (.c (.s .z) .n)))) ?_; refine At.H.al [8] (Q7 ?_ Q9)
       ··refine At.HO.op rfl ?_
         obtain ⟨t2735, hc2736, j⟩ := bbind j; refine At.call rfl Q34.callee rfl rfl rfl (Q34.spec _ _ A2728 ((gt a0_3 x864).States.length) c2729 ((gt a0_3 x864).States) hr2731 rfl hc2730 hc2736) ?_; rintro _ _ ⟨rfl, rfl⟩; refine At.HO.back (.c .z (.c .z (.c .z (.c (.s .z) .n)))) ?_; refine At.H.al [9] (Q7 ?_ Q9)
         ··refine At.HO.op rfl ?_
           refine At.mapUpdate (k := ((gt a0_3 x864).Name)) (v := (⟨t2735.1, t2735.2.1, t2735.2.2.1, t2735.2.2.2⟩ : Q4)) rfl (.s (.s (.s .z))) rfl rfl (KeyOk.str rfl rfl) rfl rfl rfl rfl rfl ?_; refine At.HO.back (.c (.s .z) (.c (.s .z) (.c (.s .z) (.c (.s .z) .n)))) ?_; refine At.H.done (by kernel_rfl) ?_; refine At.ibn ?_; refine At.thn (At.region (At.run 2 rfl (At.nil (At.drop (.s .z) (At.f3 (At.f1 (At.f3 ?_))))))); refine At.f3 ?_; have j := bnx hf_ j; exact fun a w e hs => ⟨m1073, ((mset x863 ((gt a0_3 x864).Name) (⟨t2735.1, t2735.2.1, t2735.2.2.1, t2735.2.2.2⟩ : Q4)), IntKind.i64.wrap (x864 + 1)), hlt1075, j, e.sub ⟨rfl, rfl, rfl, rfl, rfl, trivial⟩, hs⟩
     ··refine At.condF rfl (decide_eq_false h2723) ?_
       refine At.exit ?_; refine At.the ?_; refine At.the ?_; exact fun a w e hs => J1076 x863 (bdn j ho1071) a w (e.sub ⟨rfl, rfl, trivial⟩) hs
 ··refine At.condT rfl (nt (bn h257)) ?_
   refine At.seq (At.region (At.run 1 rfl (At.nil (At.thn (At.ret (At.thr ?_)))))); refine At.optNone Q1.ow 91 ?_; refine At.drop (.s .z) ?_; cases bret j; exact At.res (.inl rfl) rfl rfl ⟨none, rfl, rfl⟩




end Go.Bw
namespace Go.Proofs
open Go.Shelf
def Tryz.sort104_ren : Go.Shelf.Ren := ⟨fun | 53 => 104 | 64 => 82 | 63 => 147 | 78 => 132 | 79 => 133 | 70 => 169 | 71 => 170 | 72 => 171 | 73 => 172 | 74 => 173 | 75 => 174 | 59 => 175 | 76 => 176 | 77 => 177 | 88 => 203 | 89 => 159 | 90 => 160 | 91 => 204 | 92 => 205 | 68 => 85 | 96 => 217 | n => n, fun | 22 => 28 | 23 => 3 | 3 => 3 | 51 => 95 | 0 => 0 | 67 => 192 | 69 => 41 | 4 => 4 | 61 => 186 | 60 => 185 | 44 => 130 | 5 => 5 | 9 => 9 | 75 => 228 | 79 => 232 | 83 => 258 | 84 => 259 | n => n, fun | n => n⟩
theorem Tryz.sort104 : Go.Proofs.SlLaysN.n53 Tryz.prog Tryz.sort104_ren := {
  mixed := by kernel_rfl
  f53 := ⟨Tryz.f104.name, by decide, Tryz.func104.trans (congrArg some (by kernel_rfl))⟩
  f59 := ⟨Tryz.f175.name, by decide, Tryz.func175.trans (congrArg some (by kernel_rfl))⟩
  f63 := ⟨Tryz.f147.name, by decide, Tryz.func147.trans (congrArg some (by kernel_rfl))⟩
  f64 := Tryz.func82.trans (congrArg some (by kernel_rfl))
  f68 := ⟨Tryz.f85.name, by decide, Tryz.func85.trans (congrArg some (by kernel_rfl))⟩
  f70 := ⟨Tryz.f169.name, by decide, Tryz.func169.trans (congrArg some (by kernel_rfl))⟩
  f71 := ⟨Tryz.f170.name, by decide, Tryz.func170.trans (congrArg some (by kernel_rfl))⟩
  f72 := ⟨Tryz.f171.name, by decide, Tryz.func171.trans (congrArg some (by kernel_rfl))⟩
  f73 := ⟨Tryz.f172.name, by decide, Tryz.func172.trans (congrArg some (by kernel_rfl))⟩
  f74 := ⟨Tryz.f173.name, by decide, Tryz.func173.trans (congrArg some (by kernel_rfl))⟩
  f75 := ⟨Tryz.f174.name, by decide, Tryz.func174.trans (congrArg some (by kernel_rfl))⟩
  f76 := ⟨Tryz.f176.name, by decide, Tryz.func176.trans (congrArg some (by kernel_rfl))⟩
  f77 := ⟨Tryz.f177.name, by decide, Tryz.func177.trans (congrArg some (by kernel_rfl))⟩
  f78 := Tryz.func132.trans (congrArg some (by kernel_rfl))
  f79 := Tryz.func133.trans (congrArg some (by kernel_rfl))
  f88 := ⟨Tryz.f203.name, by decide, Tryz.func203.trans (congrArg some (by kernel_rfl))⟩
  f89 := Tryz.func159.trans (congrArg some (by kernel_rfl))
  f90 := Tryz.func160.trans (congrArg some (by kernel_rfl))
  f91 := ⟨Tryz.f204.name, by decide, Tryz.func204.trans (congrArg some (by kernel_rfl))⟩
  f92 := ⟨Tryz.f205.name, by decide, Tryz.func205.trans (congrArg some (by kernel_rfl))⟩
  f96 := ⟨Tryz.f217.name, by decide, Tryz.func217.trans (congrArg some (by kernel_rfl))⟩
  t0 := Tryz.underlying0
  a0 := Tryz.isAgg0
  z0 := Tryz.sizeOf0
  v0 := Tryz.zeroValue0
  t3 := Tryz.underlying3
  a3 := Tryz.isAgg3
  z3 := Tryz.sizeOf3
  v3 := Tryz.zeroValue3
  t4 := Tryz.underlying4
  a4 := Tryz.isAgg4
  z4 := Tryz.sizeOf4
  v4 := Tryz.zeroValue4
  t5 := Tryz.underlying5
  a5 := Tryz.isAgg5
  z5 := Tryz.sizeOf5
  v5 := Tryz.zeroValue5
  t9 := Tryz.underlying9
  a9 := Tryz.isAgg9
  z9 := Tryz.sizeOf9
  v9 := Tryz.zeroValue9
  t22 := Tryz.underlying28
  a22 := Tryz.isAgg28
  z22 := Tryz.sizeOf28
  v22 := Tryz.zeroValue28
  t23 := Tryz.underlying3
  a23 := Tryz.isAgg3
  z23 := Tryz.sizeOf3
  v23 := Tryz.zeroValue3
  t44 := Tryz.underlying130
  a44 := Tryz.isAgg130
  z44 := Tryz.sizeOf130
  v44 := Tryz.zeroValue130
  t51 := Tryz.underlying95
  a51 := Tryz.isAgg95
  z51 := Tryz.sizeOf95
  v51 := Tryz.zeroValue95
  t60 := Tryz.underlying185
  a60 := Tryz.isAgg185
  z60 := Tryz.sizeOf185
  v60 := Tryz.zeroValue185
  t61 := Tryz.underlying186
  a61 := Tryz.isAgg186
  z61 := Tryz.sizeOf186
  v61 := Tryz.zeroValue186
  t67 := Tryz.underlying192
  a67 := Tryz.isAgg192
  z67 := Tryz.sizeOf192
  v67 := Tryz.zeroValue192
  t69 := Tryz.underlying41
  a69 := Tryz.isAgg41
  z69 := Tryz.sizeOf41
  v69 := Tryz.zeroValue41
  t75 := Tryz.underlying228
  a75 := Tryz.isAgg228
  z75 := Tryz.sizeOf228
  v75 := Tryz.zeroValue228
  t79 := Tryz.underlying232
  a79 := Tryz.isAgg232
  z79 := Tryz.sizeOf232
  v79 := Tryz.zeroValue232
  t83 := Tryz.underlying258
  a83 := Tryz.isAgg258
  z83 := Tryz.sizeOf258
  v83 := Tryz.zeroValue258
  t84 := Tryz.underlying259
  a84 := Tryz.isAgg259
  z84 := Tryz.sizeOf259
  v84 := Tryz.zeroValue259 }
def Tryz.sort105_ren : Go.Shelf.Ren := ⟨fun | 54 => 105 | 64 => 82 | 65 => 148 | 78 => 132 | 79 => 133 | 80 => 178 | 81 => 179 | 82 => 180 | 83 => 181 | 84 => 182 | 85 => 183 | 61 => 184 | 86 => 185 | 87 => 186 | 93 => 206 | 89 => 159 | 90 => 160 | 94 => 207 | 95 => 208 | 69 => 209 | 97 => 218 | n => n, fun | 25 => 22 | 26 => 9 | 3 => 3 | 51 => 95 | 0 => 0 | 67 => 192 | 69 => 41 | 4 => 4 | 61 => 186 | 60 => 185 | 44 => 130 | 5 => 5 | 9 => 9 | 75 => 228 | 79 => 232 | 83 => 258 | 84 => 259 | n => n, fun | n => n⟩
theorem Tryz.sort105 : Go.Proofs.SlLaysN.n54 Tryz.prog Tryz.sort105_ren := {
  mixed := by kernel_rfl
  f54 := ⟨Tryz.f105.name, by decide, Tryz.func105.trans (congrArg some (by kernel_rfl))⟩
  f61 := ⟨Tryz.f184.name, by decide, Tryz.func184.trans (congrArg some (by kernel_rfl))⟩
  f64 := Tryz.func82.trans (congrArg some (by kernel_rfl))
  f65 := ⟨Tryz.f148.name, by decide, Tryz.func148.trans (congrArg some (by kernel_rfl))⟩
  f69 := ⟨Tryz.f209.name, by decide, Tryz.func209.trans (congrArg some (by kernel_rfl))⟩
  f78 := Tryz.func132.trans (congrArg some (by kernel_rfl))
  f79 := Tryz.func133.trans (congrArg some (by kernel_rfl))
  f80 := ⟨Tryz.f178.name, by decide, Tryz.func178.trans (congrArg some (by kernel_rfl))⟩
  f81 := ⟨Tryz.f179.name, by decide, Tryz.func179.trans (congrArg some (by kernel_rfl))⟩
  f82 := ⟨Tryz.f180.name, by decide, Tryz.func180.trans (congrArg some (by kernel_rfl))⟩
  f83 := ⟨Tryz.f181.name, by decide, Tryz.func181.trans (congrArg some (by kernel_rfl))⟩
  f84 := ⟨Tryz.f182.name, by decide, Tryz.func182.trans (congrArg some (by kernel_rfl))⟩
  f85 := ⟨Tryz.f183.name, by decide, Tryz.func183.trans (congrArg some (by kernel_rfl))⟩
  f86 := ⟨Tryz.f185.name, by decide, Tryz.func185.trans (congrArg some (by kernel_rfl))⟩
  f87 := ⟨Tryz.f186.name, by decide, Tryz.func186.trans (congrArg some (by kernel_rfl))⟩
  f89 := Tryz.func159.trans (congrArg some (by kernel_rfl))
  f90 := Tryz.func160.trans (congrArg some (by kernel_rfl))
  f93 := ⟨Tryz.f206.name, by decide, Tryz.func206.trans (congrArg some (by kernel_rfl))⟩
  f94 := ⟨Tryz.f207.name, by decide, Tryz.func207.trans (congrArg some (by kernel_rfl))⟩
  f95 := ⟨Tryz.f208.name, by decide, Tryz.func208.trans (congrArg some (by kernel_rfl))⟩
  f97 := ⟨Tryz.f218.name, by decide, Tryz.func218.trans (congrArg some (by kernel_rfl))⟩
  t0 := Tryz.underlying0
  a0 := Tryz.isAgg0
  z0 := Tryz.sizeOf0
  v0 := Tryz.zeroValue0
  t3 := Tryz.underlying3
  a3 := Tryz.isAgg3
  z3 := Tryz.sizeOf3
  v3 := Tryz.zeroValue3
  t4 := Tryz.underlying4
  a4 := Tryz.isAgg4
  z4 := Tryz.sizeOf4
  v4 := Tryz.zeroValue4
  t5 := Tryz.underlying5
  a5 := Tryz.isAgg5
  z5 := Tryz.sizeOf5
  v5 := Tryz.zeroValue5
  t9 := Tryz.underlying9
  a9 := Tryz.isAgg9
  z9 := Tryz.sizeOf9
  v9 := Tryz.zeroValue9
  t25 := Tryz.underlying22
  a25 := Tryz.isAgg22
  z25 := Tryz.sizeOf22
  v25 := Tryz.zeroValue22
  t26 := Tryz.underlying9
  a26 := Tryz.isAgg9
  z26 := Tryz.sizeOf9
  v26 := Tryz.zeroValue9
  t44 := Tryz.underlying130
  a44 := Tryz.isAgg130
  z44 := Tryz.sizeOf130
  v44 := Tryz.zeroValue130
  t51 := Tryz.underlying95
  a51 := Tryz.isAgg95
  z51 := Tryz.sizeOf95
  v51 := Tryz.zeroValue95
  t60 := Tryz.underlying185
  a60 := Tryz.isAgg185
  z60 := Tryz.sizeOf185
  v60 := Tryz.zeroValue185
  t61 := Tryz.underlying186
  a61 := Tryz.isAgg186
  z61 := Tryz.sizeOf186
  v61 := Tryz.zeroValue186
  t67 := Tryz.underlying192
  a67 := Tryz.isAgg192
  z67 := Tryz.sizeOf192
  v67 := Tryz.zeroValue192
  t69 := Tryz.underlying41
  a69 := Tryz.isAgg41
  z69 := Tryz.sizeOf41
  v69 := Tryz.zeroValue41
  t75 := Tryz.underlying228
  a75 := Tryz.isAgg228
  z75 := Tryz.sizeOf228
  v75 := Tryz.zeroValue228
  t79 := Tryz.underlying232
  a79 := Tryz.isAgg232
  z79 := Tryz.sizeOf232
  v79 := Tryz.zeroValue232
  t83 := Tryz.underlying258
  a83 := Tryz.isAgg258
  z83 := Tryz.sizeOf258
  v83 := Tryz.zeroValue258
  t84 := Tryz.underlying259
  a84 := Tryz.isAgg259
  z84 := Tryz.sizeOf259
  v84 := Tryz.zeroValue259 }
def Tryz.sort42_ren : Go.Shelf.Ren := ⟨fun | 6 => 42 | 15 => 82 | 14 => 81 | 28 => 132 | 29 => 133 | 20 => 124 | 21 => 125 | 22 => 126 | 23 => 127 | 24 => 128 | 25 => 129 | 26 => 130 | 27 => 131 | 46 => 158 | 47 => 159 | 48 => 160 | 49 => 161 | 50 => 162 | 57 => 198 | n => n, fun | 22 => 23 | 24 => 35 | 25 => 77 | 3 => 3 | 39 => 95 | 0 => 0 | 53 => 192 | 55 => 41 | 4 => 4 | 46 => 186 | 45 => 185 | 50 => 130 | 5 => 5 | 9 => 9 | 66 => 228 | 70 => 232 | 76 => 258 | 77 => 259 | n => n, fun | n => n⟩
theorem Tryz.sort42 : Go.Proofs.SlLaysF0.n6 Tryz.prog Tryz.sort42_ren := {
  mixed := by kernel_rfl
  f6 := ⟨Tryz.f42.name, by decide, Tryz.func42.trans (congrArg some (by kernel_rfl))⟩
  f14 := ⟨Tryz.f81.name, by decide, Tryz.func81.trans (congrArg some (by kernel_rfl))⟩
  f15 := Tryz.func82.trans (congrArg some (by kernel_rfl))
  f20 := ⟨Tryz.f124.name, by decide, Tryz.func124.trans (congrArg some (by kernel_rfl))⟩
  f21 := ⟨Tryz.f125.name, by decide, Tryz.func125.trans (congrArg some (by kernel_rfl))⟩
  f22 := ⟨Tryz.f126.name, by decide, Tryz.func126.trans (congrArg some (by kernel_rfl))⟩
  f23 := ⟨Tryz.f127.name, by decide, Tryz.func127.trans (congrArg some (by kernel_rfl))⟩
  f24 := ⟨Tryz.f128.name, by decide, Tryz.func128.trans (congrArg some (by kernel_rfl))⟩
  f25 := ⟨Tryz.f129.name, by decide, Tryz.func129.trans (congrArg some (by kernel_rfl))⟩
  f26 := ⟨Tryz.f130.name, by decide, Tryz.func130.trans (congrArg some (by kernel_rfl))⟩
  f27 := ⟨Tryz.f131.name, by decide, Tryz.func131.trans (congrArg some (by kernel_rfl))⟩
  f28 := Tryz.func132.trans (congrArg some (by kernel_rfl))
  f29 := Tryz.func133.trans (congrArg some (by kernel_rfl))
  f46 := ⟨Tryz.f158.name, by decide, Tryz.func158.trans (congrArg some (by kernel_rfl))⟩
  f47 := Tryz.func159.trans (congrArg some (by kernel_rfl))
  f48 := Tryz.func160.trans (congrArg some (by kernel_rfl))
  f49 := ⟨Tryz.f161.name, by decide, Tryz.func161.trans (congrArg some (by kernel_rfl))⟩
  f50 := ⟨Tryz.f162.name, by decide, Tryz.func162.trans (congrArg some (by kernel_rfl))⟩
  f57 := ⟨Tryz.f198.name, by decide, Tryz.func198.trans (congrArg some (by kernel_rfl))⟩
  t0 := Tryz.underlying0
  a0 := Tryz.isAgg0
  z0 := Tryz.sizeOf0
  v0 := Tryz.zeroValue0
  t3 := Tryz.underlying3
  a3 := Tryz.isAgg3
  z3 := Tryz.sizeOf3
  v3 := Tryz.zeroValue3
  t4 := Tryz.underlying4
  a4 := Tryz.isAgg4
  z4 := Tryz.sizeOf4
  v4 := Tryz.zeroValue4
  t5 := Tryz.underlying5
  a5 := Tryz.isAgg5
  z5 := Tryz.sizeOf5
  v5 := Tryz.zeroValue5
  t9 := Tryz.underlying9
  a9 := Tryz.isAgg9
  z9 := Tryz.sizeOf9
  v9 := Tryz.zeroValue9
  t22 := Tryz.underlying23
  a22 := Tryz.isAgg23
  z22 := Tryz.sizeOf23
  v22 := Tryz.zeroValue23
  t25 := Tryz.underlying77
  a25 := Tryz.isAgg77
  z25 := Tryz.sizeOf77
  v25 := Tryz.zeroValue77
  t39 := Tryz.underlying95
  a39 := Tryz.isAgg95
  z39 := Tryz.sizeOf95
  v39 := Tryz.zeroValue95
  t45 := Tryz.underlying185
  a45 := Tryz.isAgg185
  z45 := Tryz.sizeOf185
  v45 := Tryz.zeroValue185
  t46 := Tryz.underlying186
  a46 := Tryz.isAgg186
  z46 := Tryz.sizeOf186
  v46 := Tryz.zeroValue186
  t50 := Tryz.underlying130
  a50 := Tryz.isAgg130
  z50 := Tryz.sizeOf130
  v50 := Tryz.zeroValue130
  t53 := Tryz.underlying192
  a53 := Tryz.isAgg192
  z53 := Tryz.sizeOf192
  v53 := Tryz.zeroValue192
  t55 := Tryz.underlying41
  a55 := Tryz.isAgg41
  z55 := Tryz.sizeOf41
  v55 := Tryz.zeroValue41
  t66 := Tryz.underlying228
  a66 := Tryz.isAgg228
  z66 := Tryz.sizeOf228
  v66 := Tryz.zeroValue228
  t70 := Tryz.underlying232
  a70 := Tryz.isAgg232
  z70 := Tryz.sizeOf232
  v70 := Tryz.zeroValue232
  t76 := Tryz.underlying258
  a76 := Tryz.isAgg258
  z76 := Tryz.sizeOf258
  v76 := Tryz.zeroValue258
  t77 := Tryz.underlying259
  a77 := Tryz.isAgg259
  z77 := Tryz.sizeOf259
  v77 := Tryz.zeroValue259 }
def Tryz.sort107_ren : Go.Shelf.Ren := ⟨fun | 6 => 107 | 15 => 82 | 14 => 149 | 28 => 132 | 29 => 133 | 20 => 187 | 21 => 188 | 22 => 189 | 23 => 190 | 24 => 191 | 25 => 192 | 26 => 193 | 27 => 194 | 46 => 210 | 47 => 159 | 48 => 160 | 49 => 211 | 50 => 212 | 57 => 219 | n => n, fun | 22 => 24 | 24 => 37 | 25 => 87 | 3 => 3 | 39 => 95 | 0 => 0 | 53 => 192 | 55 => 41 | 4 => 4 | 46 => 186 | 45 => 185 | 50 => 130 | 5 => 5 | 9 => 9 | 66 => 228 | 70 => 232 | 76 => 258 | 77 => 259 | n => n, fun | n => n⟩
theorem Tryz.sort107 : Go.Proofs.SlLaysF0.n6 Tryz.prog Tryz.sort107_ren := {
  mixed := by kernel_rfl
  f6 := ⟨Tryz.f107.name, by decide, Tryz.func107.trans (congrArg some (by kernel_rfl))⟩
  f14 := ⟨Tryz.f149.name, by decide, Tryz.func149.trans (congrArg some (by kernel_rfl))⟩
  f15 := Tryz.func82.trans (congrArg some (by kernel_rfl))
  f20 := ⟨Tryz.f187.name, by decide, Tryz.func187.trans (congrArg some (by kernel_rfl))⟩
  f21 := ⟨Tryz.f188.name, by decide, Tryz.func188.trans (congrArg some (by kernel_rfl))⟩
  f22 := ⟨Tryz.f189.name, by decide, Tryz.func189.trans (congrArg some (by kernel_rfl))⟩
  f23 := ⟨Tryz.f190.name, by decide, Tryz.func190.trans (congrArg some (by kernel_rfl))⟩
  f24 := ⟨Tryz.f191.name, by decide, Tryz.func191.trans (congrArg some (by kernel_rfl))⟩
  f25 := ⟨Tryz.f192.name, by decide, Tryz.func192.trans (congrArg some (by kernel_rfl))⟩
  f26 := ⟨Tryz.f193.name, by decide, Tryz.func193.trans (congrArg some (by kernel_rfl))⟩
  f27 := ⟨Tryz.f194.name, by decide, Tryz.func194.trans (congrArg some (by kernel_rfl))⟩
  f28 := Tryz.func132.trans (congrArg some (by kernel_rfl))
  f29 := Tryz.func133.trans (congrArg some (by kernel_rfl))
  f46 := ⟨Tryz.f210.name, by decide, Tryz.func210.trans (congrArg some (by kernel_rfl))⟩
  f47 := Tryz.func159.trans (congrArg some (by kernel_rfl))
  f48 := Tryz.func160.trans (congrArg some (by kernel_rfl))
  f49 := ⟨Tryz.f211.name, by decide, Tryz.func211.trans (congrArg some (by kernel_rfl))⟩
  f50 := ⟨Tryz.f212.name, by decide, Tryz.func212.trans (congrArg some (by kernel_rfl))⟩
  f57 := ⟨Tryz.f219.name, by decide, Tryz.func219.trans (congrArg some (by kernel_rfl))⟩
  t0 := Tryz.underlying0
  a0 := Tryz.isAgg0
  z0 := Tryz.sizeOf0
  v0 := Tryz.zeroValue0
  t3 := Tryz.underlying3
  a3 := Tryz.isAgg3
  z3 := Tryz.sizeOf3
  v3 := Tryz.zeroValue3
  t4 := Tryz.underlying4
  a4 := Tryz.isAgg4
  z4 := Tryz.sizeOf4
  v4 := Tryz.zeroValue4
  t5 := Tryz.underlying5
  a5 := Tryz.isAgg5
  z5 := Tryz.sizeOf5
  v5 := Tryz.zeroValue5
  t9 := Tryz.underlying9
  a9 := Tryz.isAgg9
  z9 := Tryz.sizeOf9
  v9 := Tryz.zeroValue9
  t22 := Tryz.underlying24
  a22 := Tryz.isAgg24
  z22 := Tryz.sizeOf24
  v22 := Tryz.zeroValue24
  t25 := Tryz.underlying87
  a25 := Tryz.isAgg87
  z25 := Tryz.sizeOf87
  v25 := Tryz.zeroValue87
  t39 := Tryz.underlying95
  a39 := Tryz.isAgg95
  z39 := Tryz.sizeOf95
  v39 := Tryz.zeroValue95
  t45 := Tryz.underlying185
  a45 := Tryz.isAgg185
  z45 := Tryz.sizeOf185
  v45 := Tryz.zeroValue185
  t46 := Tryz.underlying186
  a46 := Tryz.isAgg186
  z46 := Tryz.sizeOf186
  v46 := Tryz.zeroValue186
  t50 := Tryz.underlying130
  a50 := Tryz.isAgg130
  z50 := Tryz.sizeOf130
  v50 := Tryz.zeroValue130
  t53 := Tryz.underlying192
  a53 := Tryz.isAgg192
  z53 := Tryz.sizeOf192
  v53 := Tryz.zeroValue192
  t55 := Tryz.underlying41
  a55 := Tryz.isAgg41
  z55 := Tryz.sizeOf41
  v55 := Tryz.zeroValue41
  t66 := Tryz.underlying228
  a66 := Tryz.isAgg228
  z66 := Tryz.sizeOf228
  v66 := Tryz.zeroValue228
  t70 := Tryz.underlying232
  a70 := Tryz.isAgg232
  z70 := Tryz.sizeOf232
  v70 := Tryz.zeroValue232
  t76 := Tryz.underlying258
  a76 := Tryz.isAgg258
  z76 := Tryz.sizeOf258
  v76 := Tryz.zeroValue258
  t77 := Tryz.underlying259
  a77 := Tryz.isAgg259
  z77 := Tryz.sizeOf259
  v77 := Tryz.zeroValue259 }
end Go.Proofs
namespace Go.Bw
open Go Go.RowKit Go.Sort Go.Proofs Go.Shelf

theorem flat_str (xs : List Bs) : xs.flatMap Fl.bs.enc = xs.map encStr := by
 induction xs with
 | nil => rfl
 | cons x xs ih => rw [List.flatMap_cons, ih]; rfl
theorem Q165 (e : Nat) (A : Option Addr) (n c : Nat) (xs : List Bs) : row Fl.bs e A n c xs = own e 1 A n c (xs.map encStr) := by
 unfold row
 rw [flat_str]
 rfl
theorem Q259 {P : Program} {ρ : Ren} (Ly : SlLaysN.n54 P ρ) (R : Res) (l : List HProp) {e n c : Nat} {A : Option Addr} {xs : List Bs} (hb : xs.length < 4611686018427387904) :
 Spec P (ρ.f 54) [.slice A n c] R (row Fl.bs e A n c xs :: l) (fun v l' => v = .tuple #[] ∧ row Fl.bs e A n c (xs.mergeSort fun x y => decide (x ≤ y)) :: l = l') := fun w hs => by
 obtain ⟨h, o, s⟩ := hs.head
 have hn := Q106 o
 subst hn
 rw [Q165] at o hs
 rcases o.2 with ⟨rfl, h0, rfl⟩ | ⟨g, cur, rfl, hg, h3, h4, h5, h6⟩
 ·have hx : xs = [] := List.eq_nil_of_length_eq_zero h0
  subst hx
  refine (AnyG.slices_Sort_string_none Ly none 0 w).mono fun e w' ⟨he, hw⟩ => ⟨_, _, he, ⟨rfl, rfl⟩, ?_⟩
  subst hw
  rw [Q165]
  simpa using hs
 ·have hgw : w.heap[g]? = some (.cells cur e) := s g _ hg
  have hH : Holds encStr w g 0 xs.toArray := Q171 hgw (by rw [Nat.mul_one] at h6; exact h6)
  refine (AnyG.slices_Sort_string Ly g 0 c xs w hH (Array.getElem?_eq_some_iff.1 hgw).1 hb).mono fun e' w' ⟨he, n, os, hw⟩ => ⟨_, _, he, ⟨rfl, rfl⟩, ?_⟩
  subst hw
  rw [Q165]
  exact sat.sorted hs (by simp)

theorem grown_of {W w : World} (h : sat (Res.of W) [] w) : ∃ q os, w = Sort.grow (W.drewN q) os := by
 obtain ⟨ok, _⟩ := h
 obtain ⟨s, h1, h2, h3, h4⟩ := ok
 refine ⟨w.drawn - W.drawn, w.heap.extract W.heap.size w.heap.size, ?_⟩
 have h4' : W.drawn ≤ w.drawn := h4
 have hsz : W.heap.size ≤ w.heap.size := by
  rcases Nat.eq_zero_or_pos W.heap.size with h0 | h0
  ·omega
  ·have := s (W.heap.size - 1) _ (Array.getElem?_eq_getElem (by omega))
   have := (Array.getElem?_eq_some_iff.1 this).1
   omega
 have hh : w.heap = W.heap ++ w.heap.extract W.heap.size w.heap.size := by
  apply Array.ext_getElem?
  intro i
  by_cases hi : i < W.heap.size
  ·rw [Array.getElem?_append_left hi]
   exact (s i _ (Array.getElem?_eq_getElem hi)).trans (Array.getElem?_eq_getElem hi).symm
  ·rw [Array.getElem?_append_right (by omega), Array.getElem?_extract]
   by_cases h2 : i < w.heap.size
   ·rw [if_pos (by omega)]
    congr 1
    omega
   ·rw [if_neg (by omega), Array.getElem?_eq_none (by omega)]
 have hd : W.drawn + (w.drawn - W.drawn) = w.drawn := by omega
 cases w
 simp only [Sort.grow, World.drewN] at *
 simp only [World.mk.injEq]
 exact ⟨hh, h2, hd.symm, h1, h3⟩
theorem Spec.reads {P : Program} {f : Nat} {args : List Value} {W : World} {u : Value} (h : Spec P f args (Res.of W) [] (fun v l' => v = u ∧ [] = l')) :
 Calls P f args.toArray W fun e w' => e = .returned u ∧ ∃ q os', w' = Sort.grow (W.drewN q) os' :=
 (h W (sat_of W)).mono fun e w' ⟨v, l', he, ⟨hv, hl⟩, hs⟩ => by
  subst hv hl
  exact ⟨he, grown_of hs⟩

section
variable {β : Type} [Inhabited β] {enc : β → List Value} {k : Nat}
theorem Q146 (hk : ∀ x, (enc x).length = k) (hk0 : 0 < k) : ∀ (xs : List β), (flatK enc k xs.toArray).toList = xs.flatMap enc := fun xs => by
 have hl : ∀ (ys : List β), (ys.flatMap enc).length = ys.length * k := fun ys => by
  induction ys with
  | nil => simp
  | cons y ys ih => rw [List.flatMap_cons, List.length_append, ih, hk, List.length_cons, Nat.succ_mul]; omega
 have hg : ∀ (ys : List β) (t : Nat), t < ys.length * k → (ys.flatMap enc)[t]? = (enc (ys[t / k]!))[t % k]? := fun ys => by
  induction ys with
  | nil => intro t ht; simp at ht
  | cons y ys ih =>
   intro t ht
   rw [List.flatMap_cons]
   by_cases h : t < k
   ·rw [List.getElem?_append_left (by rw [hk]; exact h), Nat.div_eq_of_lt h, Nat.mod_eq_of_lt h]
    rfl
   ·rw [List.length_cons, Nat.succ_mul] at ht
    rw [List.getElem?_append_right (by rw [hk]; omega), hk, ih (t - k) (by omega)]
    have h1 : t / k = (t - k) / k + 1 := by rw [Nat.div_eq, if_pos ⟨hk0, by omega⟩]
    have h2 : t % k = (t - k) % k := by rw [Nat.mod_eq_sub_mod (by omega)]
    rw [h1, h2]
    rfl
 apply List.ext_getElem?
 intro t
 by_cases ht : t < xs.length * k
 ·rw [hg xs t ht]
  have hm : t % k < k := Nat.mod_lt _ hk0
  have hq : t / k < xs.length := Nat.div_lt_of_lt_mul (by rw [Nat.mul_comm]; exact ht)
  have : t < (flatK enc k xs.toArray).size := by rw [size_flatK]; simpa using ht
  rw [Array.getElem?_toList, Array.getElem?_eq_getElem this]
  have h1 := get_flatK enc k xs.toArray t (by simpa using ht)
  rw [getElem!_pos _ t this] at h1
  rw [h1]
  have : xs.toArray[t / k]! = xs[t / k]! := by simp
  rw [this, getElem!_pos _ (t % k) (by rw [hk]; exact hm), List.getElem?_eq_getElem (by rw [hk]; exact hm)]
 ·have h1 : (xs.flatMap enc).length ≤ t := by rw [hl]; omega
  rw [List.getElem?_eq_none (l := xs.flatMap enc) h1, List.getElem?_eq_none (by rw [Array.length_toList, size_flatK]; simpa using ht)]
variable {R : Res} {l : List HProp} {w : World} {g n c e : Nat} {os : Array Obj} {cur : Array Value} {xs ys : List β}
theorem Q260 (hk : ∀ x, (enc x).length = k) (hk0 : 0 < k) (hb : w.heap[g]? = some (.cells cur e (0, 0))) (ht : cur.toList.take (xs.length * k) = xs.flatMap enc) : HoldsK enc k w g 0 xs.toArray := by
 unfold HoldsK
 have h1 := Q171 (enc := (id : Value → Value)) (xs := xs.flatMap enc) hb (by
  rw [List.map_id, ← ht, List.length_take]
  have hlen : (xs.flatMap enc).length = xs.length * k := by rw [← Q146 hk hk0]; simp
  have : (cur.toList.take (xs.length * k)).length = xs.length * k := by rw [ht, hlen]
  rw [List.length_take] at this
  rw [this])
 rw [← Q146 hk hk0] at h1
 exact h1
theorem sat.sortedK (hk : ∀ x, (enc x).length = k) (hk0 : 0 < k) (hs : sat R (own e k (some ⟨g, 0, none⟩) xs.length c (xs.flatMap enc) :: l) w) (hl : ys.length = xs.length) :
 sat R (own e k (some ⟨g, 0, none⟩) xs.length c (ys.flatMap enc) :: l) (sortWorldK enc k w g 0 n ys.toArray os) := by
 have hf : ∀ zs : List β, (zs.flatMap enc).length = zs.length * k := fun zs => by rw [← Q146 hk hk0]; simp
 obtain ⟨h, o, s⟩ := hs.head
 rcases o.2 with ⟨h0, _⟩ | ⟨g', cur, h1, hg, h3, h4, h5, h6⟩
 ·cases h0
 ·cases h1
  have hgw : w.heap[g]? = some (.cells cur e) := s g _ hg
  have hfl : flatK enc k ys.toArray = (ys.flatMap enc).toArray := by apply Array.ext'; rw [Q146 hk hk0]
  have hq : (ys.flatMap enc).length ≤ cur.size := by rw [hf, hl, h5]; exact Nat.mul_le_mul_right _ h3
  unfold sortWorldK putRowK
  rw [hfl]
  obtain ⟨A', c', hv, hs'⟩ := hs.grown (v' := .slice (some ⟨g, 0, none⟩) xs.length c) (m' := xs.length) (ys := ys.flatMap enc) (Q164 (enc := (id : Value → Value)) (n := n) (os := os) (ys.flatMap enc).toArray) (Nat.le_add_right _ _)
   ⟨by rw [hf, hl], .inr ⟨g, c, _, rfl, Nat.zero_le _, Q197 (enc := (id : Value → Value)) _ hgw, h3, h4, by simp [putCells, h5], by
    rw [← hl, ← hf]
    have := Q200 (enc := (id : Value → Value)) cur (ys.flatMap enc) hq
    rw [List.map_id] at this
    exact this⟩⟩ (.inl rfl)
  cases hv
  exact hs'
theorem sortk {P : Program} {ρ : Ren} (L : SlLaysF0.n6 P ρ) (hk : ∀ x, (enc x).length = k) (hk0 : 0 < k) (h1 : ∀ x, ∀ v ∈ enc x, v.oneCell' = true) (aE : ∀ w, (isAgg (ρ.t 24)).run P w = .ok true w) (zE : ∀ w, (Go.sizeOf (ρ.t 24)).run P w = .ok k w)
 (cf : β → β → Int) (hO : SWO (ltOf cf)) (hT : ∀ x y, (ltOf cf) x y = false → (ltOf cf) y x = false → x = y) (gf : Nat) (eg : ∀ args w, (callFunc gf args).run P w = .ok (.enter gf args) w) (hb : xs.length < 4611686018427387904)
 (hcmp : ∀ W : World, (∀ b o, b ≠ g → w.heap[b]? = some o → W.heap[b]? = some o) → ∀ x y, Calls P gf #[.agg (enc x).toArray, .agg (enc y).toArray] W fun e w' => e = .returned (.int .i64 (cf x y)) ∧ ∃ q os', w' = Sort.grow (W.drewN q) os')
 (hs : sat R (own e k (some ⟨g, 0, none⟩) xs.length c (xs.flatMap enc) :: l) w) :
 Calls P (ρ.f 6) #[.slice (some ⟨g, 0, none⟩) xs.length c, .func (.func gf) #[] #[]] w fun e' w' => e' = .returned (.tuple #[]) ∧ sat R (own e k (some ⟨g, 0, none⟩) xs.length c ((xs.mergeSort fun x y => !(ltOf cf) y x).flatMap enc) :: l) w' := by
 obtain ⟨h, o, s⟩ := hs.head
 rcases o.2 with ⟨h0, _⟩ | ⟨g', cur, h1', hg, h3, h4, h5, h6⟩
 ·cases h0
 ·cases h1'
  have hgw : w.heap[g]? = some (.cells cur e) := s g _ hg
  have hsz : xs.toArray.size = xs.length := by simp
  have hrun := AnyQ.slices_SortFunc_total L k aE zE enc hk h1 cf hO gf #[] g 0 c xs.toArray w eg (fun m os dk hdk x y => by
   have := hcmp (sortWorldK enc k w g 0 m dk os) (fun b o hb ho => by
    have hw := (Q164 (w := w) (enc := (id : Value → Value)) (g := g) (n := m) (os := os) (flatK enc k dk)).block b (Array.getElem?_eq_some_iff.1 ho).1 (fun e => hb (by cases e; rfl))
    exact hw.trans ho) x y
   simpa using this) (Q260 hk hk0 hgw h6) (Array.getElem?_eq_some_iff.1 hgw).1 (by rw [hsz]; exact hb) hT
  rw [hsz] at hrun
  refine hrun.mono fun e' w' ⟨he, m, os, hw⟩ => ⟨he, ?_⟩
  subst hw
  exact sat.sortedK hk hk0 hs (by simp)
end
section
variable {P : Program} {ρ : Ren} {α : Type}
theorem Q231 [Inhabited α] (L : SlLaysF0.n6 P ρ) (F : Fl α) (aE : ∀ w, (isAgg (ρ.t 24)).run P w = .ok true w) (zE : ∀ w, (Go.sizeOf (ρ.t 24)).run P w = .ok F.sz w)
 (cf : α → α → Int) (hO : SWO (ltOf cf)) (hT : ∀ x y, (ltOf cf) x y = false → (ltOf cf) y x = false → x = y) (gf : Nat) (eg : ∀ args w, (callFunc gf args).run P w = .ok (.enter gf args) w)
 (hcmp : ∀ R x y, Spec P gf [.agg (F.enc x).toArray, .agg (F.enc y).toArray] R [] (fun v l' => v = .int .i64 (cf x y) ∧ [] = l')) (R : Res) (l : List HProp) {e n c : Nat} {A : Option Addr} {xs : List α} (hb : xs.length < 4611686018427387904) :
 Spec P (ρ.f 6) [.slice A n c, .func (.func gf) #[] #[]] R (row F e A n c xs :: l) (fun v l' => v = .tuple #[] ∧ row F e A n c (xs.mergeSort fun x y => !(ltOf cf) y x) :: l = l') := fun w hs => by
 have hn : xs.length = n := let ⟨_, o, _⟩ := hs.head; Q106 o
 subst hn
 obtain ⟨h, o, s⟩ := hs.head
 rcases o.2 with ⟨rfl, h0, rfl⟩ | ⟨g, cur, rfl, hg, h3, h4, h5, h6⟩
 ·have hx : xs = [] := List.eq_nil_of_length_eq_zero h0
  subst hx
  refine (AnyF.slices_SortFunc_none L none 0 _ w).mono fun e' w' ⟨he, hw⟩ => ⟨_, _, he, ⟨rfl, rfl⟩, ?_⟩
  subst hw
  simpa using hs
 ·refine (sortk L F.len F.pos F.one aE zE cf hO hT gf eg hb (fun W _ x y => (hcmp _ x y).reads) hs).mono fun e' w' ⟨he, h7⟩ => ⟨_, _, he, ⟨rfl, rfl⟩, ?_⟩
  have : (xs.mergeSort fun x y => !(ltOf cf) y x).length = xs.length := by simp
  exact h7.imp fun h o => o
theorem Q275 (L : SlLaysF0.n6 P ρ) (T : Ow α) (aE : ∀ w, (isAgg (ρ.t 24)).run P w = .ok true w) (zE : ∀ w, (Go.sizeOf (ρ.t 24)).run P w = .ok T.sz w)
 (cf : α → α → Int) (hO : SWO (ltOf cf)) (gf : Nat) (eg : ∀ args w, (callFunc gf args).run P w = .ok (.enter gf args) w)
 (hcmp : ∀ R x y cs cs', T.rep.K R.heap x cs → T.rep.K R.heap y cs' → Spec P gf [.agg cs.toArray, .agg cs'.toArray] R [] (fun v l' => v = .int .i64 (cf x y) ∧ [] = l')) (R : Res) (l : List HProp) {e n c : Nat} {A : Option Addr} {xs : List α} (hb : xs.length < 4611686018427387904)
 (hT : xs.Pairwise fun x y => ¬ ((ltOf cf) x y = false ∧ (ltOf cf) y x = false)) :
 Spec P (ρ.f 6) [.slice A n c, .func (.func gf) #[] #[]] R (Bw.grow T e A n c xs :: l) (fun v l' => v = .tuple #[] ∧ Bw.grow T e A n c (xs.mergeSort fun x y => !(ltOf cf) y x) :: l = l') := fun w hs => by
 have hn : xs.length = n := let ⟨_, o, _⟩ := hs.head; (Q122 o).1
 subst hn
 obtain ⟨css, hbl, h2⟩ := sat.grow.1 hs
 rw [← hbl] at h2
 obtain ⟨h, o, s⟩ := h2.head
 rcases o.2 with ⟨rfl, h0, rfl⟩ | ⟨g, cur, rfl, hg, h3, h4, h5, h6⟩
 ·have hx : xs = [] := List.eq_nil_of_length_eq_zero (hbl.symm.trans h0)
  subst hx
  refine (AnyF.slices_SortFunc_none L none 0 _ w).mono fun e' w' ⟨he, hw⟩ => ⟨_, _, he, ⟨rfl, rfl⟩, ?_⟩
  subst hw
  simpa using hs
 ·by_cases hne : xs.length = 0
  ·have : xs = [] := List.eq_nil_of_length_eq_zero hne
   subst this
   refine (AnyF.slices_SortFunc_none L (some ⟨g, 0, none⟩) c _ w).mono fun e' w' ⟨he, hw⟩ => ⟨_, _, he, ⟨rfl, rfl⟩, ?_⟩
   subst hw
   simpa using hs
  have hpos : 0 < xs.length := Nat.pos_of_ne_zero hne
  have hinh : Inhabited (Fin xs.length) := ⟨⟨0, hpos⟩⟩
  let ci : Fin xs.length → Raw T.sz := fun i => css[i.1]'(by rw [hbl]; exact i.2)
  let enc : Fin xs.length → List Value := fun i => (ci i).1
  let cf' : Fin xs.length → Fin xs.length → Int := fun i j => cf xs[i.1] xs[j.1]
  have hO' : SWO (ltOf cf') := ⟨fun x => hO.irrefl _, fun x y z => hO.trans _ _ _, fun x y z => hO.ntrans _ _ _⟩
  have hT' : ∀ x y, ltOf cf' x y = false → ltOf cf' y x = false → x = y := fun x y h1 h2 => by
   have hp := List.pairwise_iff_getElem.1 hT
   rcases Nat.lt_trichotomy x.1 y.1 with h3 | h3 | h3
   ·exact absurd ⟨h1, h2⟩ (hp x.1 y.1 x.2 y.2 h3)
   ·exact Fin.ext h3
   ·exact absurd ⟨h2, h1⟩ (hp y.1 x.1 y.2 x.2 h3)
  have hcss : css = (List.finRange xs.length).map ci := by
   apply List.ext_getElem
   ·simp [hbl]
   ·intro i h1 h2
    simp [ci]
  have hfl : css.flatMap (Fl.raw T.sz T.pos).enc = (List.finRange xs.length).flatMap enc := by
   rw [hcss, List.flatMap_map]
   rfl
  have hgins : gins T xs css = (List.finRange xs.length).map fun i => T.own xs[i.1] (ci i).1 := by
   apply List.ext_getElem
   ·simp [gins, hbl]
   ·intro i h1 h2
    simp [gins, ci]
  have hlen : (List.finRange xs.length).length = css.length := by rw [List.length_finRange, hbl]
  have h2' : sat R (own e T.sz (some ⟨g, 0, none⟩) (List.finRange xs.length).length c ((List.finRange xs.length).flatMap enc) :: (gins T xs css ++ l)) w := by
   rw [hlen, ← hfl]; exact h2
  have hgw : w.heap[g]? = some (.cells cur e) := s g _ hg
  have hrun := sortk L (enc := enc) (fun x => (ci x).2.1) T.pos (fun x => (ci x).2.2) aE zE cf' hO' hT' gf eg (by simpa using hb) (fun W hW x y => by
   have hK : ∀ i : Fin xs.length, T.rep.K (wh W) xs[i.1] (ci i).1 := fun i => by
    obtain ⟨ok, k, ⟨k1, k2, ow, inn, dd, t1, t2⟩, dR, ss⟩ := h2
    obtain ⟨h', ro, sr⟩ := Q173 (Q107.1 inn).choose_spec.choose_spec.1 (Q227 (T := T) (xs := xs) (css := css) (i := i.1) (List.getElem?_eq_getElem i.2) (List.getElem?_eq_getElem (by rw [hbl]; exact i.2)))
    have s3 : Sub h' k2 := sr.trans (Q107.1 inn).choose_spec.choose_spec.2.2.2.1
    refine T.rd ro fun b ob hob => hW b ob (fun hbg => ?_) (ss b ob (t2 b ob (s3 b ob hob)))
    subst hbg
    have hgk : ∃ ob', k1 b = some ob' := by
     rcases ow.2 with ⟨e0, _⟩ | ⟨g2, cur2, e2, hg2, _⟩
     ·cases e0
     ·cases e2
      exact ⟨_, hg2⟩
    exact dd b _ _ hgk.choose_spec (s3 b ob hob)
   exact (hcmp (Res.of W) _ _ _ _ (hK x) (hK y)).reads) h2'
  rw [hlen, hbl] at hrun
  refine hrun.mono fun e' w' ⟨he, h7⟩ => ⟨_, _, he, ⟨rfl, rfl⟩, ?_⟩
  let ys := (List.finRange xs.length).mergeSort fun x y => !(ltOf cf') y x
  have hperm : ys.Perm (List.finRange xs.length) := List.mergeSort_perm _ _
  have hxs : (xs.mergeSort fun x y => !(ltOf cf) y x) = ys.map fun i => xs[i.1] := by
   show _ = ((List.finRange xs.length).mergeSort fun x y => !(ltOf cf') y x).map fun i => xs[i.1]
   rw [List.map_mergeSort (r := fun x y => !(ltOf cf') y x) (s := fun x y => !(ltOf cf) y x) (f := fun i : Fin xs.length => xs[i.1]) (fun a _ b _ => rfl)]
   congr 1
   apply List.ext_getElem
   ·simp
   ·intro i h1 h2
    simp
  rw [hxs]
  refine sat.grow.2 ⟨ys.map ci, by simp, ?_⟩
  have e1 : (ys.map ci).flatMap (Fl.raw T.sz T.pos).enc = ys.flatMap enc := by rw [List.flatMap_map]; rfl
  have e2 : gins T (ys.map fun i => xs[i.1]) (ys.map ci) = ys.map fun i => T.own xs[i.1] (ci i).1 := by
   apply List.ext_getElem
   ·simp [gins]
   ·intro i h1 h2
    simp [gins]
  have h8 : sat R (own e T.sz (some ⟨g, 0, none⟩) xs.length c (ys.flatMap enc) :: (gins T xs css ++ l)) w' := h7
  rw [e2]
  rw [hgins] at h8
  obtain ⟨ok, k, ⟨k1, k2, a, b, d, t1, t2⟩, dR, ss⟩ := h8
  refine ⟨ok, k, ⟨k1, k2, ?_, Q245 (hperm.symm.map _) b, d, t1, t2⟩, dR, ss⟩
  show own e T.sz (some ⟨g, 0, none⟩) xs.length c ((ys.map ci).flatMap (Fl.raw T.sz T.pos).enc) k1
  rw [e1]
  exact a
end
def gcf {α : Type} (c : α → α → Option Int) (x y : α) : Int := (c x y).getD 0
def CmpSwo {α : Type} (c : α → α → Option Int) : Prop := (∀ x y, (c x y).isSome = true) ∧ SWO (ltOf (gcf c))
def CmpTot {α : Type} (c : α → α → Option Int) : Prop := CmpSwo c ∧ ∀ x y, ltOf (gcf c) x y = false → ltOf (gcf c) y x = false → x = y
def CmpParts {α : Type} (c : α → α → Option Int) (xs : List α) : Prop := xs.Pairwise fun x y => ¬ (ltOf (gcf c) x y = false ∧ ltOf (gcf c) y x = false)
def byCmp {α : Type} (c : α → α → Option Int) (xs : List α) : List α := xs.mergeSort fun x y => !(ltOf (gcf c)) y x
theorem gcf_eq {α : Type} {c : α → α → Option Int} (h : CmpSwo c) (x y : α) : c x y = some (gcf c x y) := by
 have := h.1 x y
 unfold gcf
 cases hc : c x y with
 | none => rw [hc] at this; cases this
 | some v => rfl
end Go.Bw
