/- LtsPrints, part 3: walks and plain laws. Conditions: none. -/
import Derived.Test.YtbkooifhcekpmaaGreatDoorProg
import Derived.Deep.QuietTactic
import Derived.Maps.RangeRun
import Derived.Test.YtbkooifhcekpmaaGreatDoorBwLtsPrintsB
set_option linter.unusedVariables false
set_option linter.unusedSimpArgs false
set_option linter.unusedSectionVars false
set_option maxRecDepth 100000
set_option maxHeartbeats 2000000
namespace Go.Bw
open Go Go.RowKit Go.Proofs
structure Q3 where
 Kind : Int
 At : Int
 Text : Bs
 Number : Int
deriving Inhabited, DecidableEq
def Q3.fl : Fl Q3 := ⟨4, fun x => [.int .i64 x.Kind, .int .i64 x.At, .string ⟨(x.Text).toArray⟩, .int .i64 x.Number], fun _ => rfl, fun x u hu => by simp at hu; rcases hu with rfl | rfl | rfl | rfl <;> rfl, by decide⟩
structure Q2 where
 At : Int
 Err : Int
deriving Inhabited, DecidableEq
def Q2.fl : Fl Q2 := ⟨2, fun x => [.int .i64 x.At, .int .i64 x.Err], fun _ => rfl, fun x u hu => by simp at hu; rcases hu with rfl | rfl <;> rfl, by decide⟩
structure Q4 where
 from_ : Int
 action : Bs
 to : Int
deriving Inhabited, DecidableEq
def Q4.fl : Fl Q4 := ⟨3, fun x => [.int .i64 x.from_, .string ⟨(x.action).toArray⟩, .int .i64 x.to], fun _ => rfl, fun x u hu => by simp at hu; rcases hu with rfl | rfl | rfl <;> rfl, by decide⟩
theorem bytealg_IndexByteString.ext : ExtOk Tryz.prog 168 Extern.BytealgIndexByte.indexByte := ⟨_, Tryz.func168, by kernel_rfl, by kernel_rfl, by kernel_rfl, by kernel_rfl⟩

noncomputable def Q76.f (a0 : Bs) (a1 : Int) : Option Int :=
 some (Lib.indexByte a0 a1.toNat.toUInt8)
theorem Q76.callee : Callee Tryz.prog 140 := ⟨_, Tryz.func140, by kernel_rfl, by kernel_rfl⟩
theorem Q76.spec (R : Res) (Fr : List HProp)  (a0 : Bs) (a1 : Int)  {r : Int} (j : Q76.f a0 a1 = some r) :
 Spec Tryz.prog 140 [.string ⟨(a0).toArray⟩, .int .u8 a1] R (Fr) (fun v l' => v = .int .i64 r ∧ Fr = l') := by
 refine Spec.of Tryz.func140 rfl rfl ?_; unfold Q76.f at j; have j := brun j; refine At.seq (At.region (At.run 1 rfl (At.nil (At.thn (At.seq (At.region (At.run 2 rfl ?_))))))); refine At.y (Y.ext bytealg_IndexByteString.ext rfl rfl (fun w => Q255 _ _ w)) rfl rfl rfl ?_; refine At.run 1 rfl (At.nil (At.thn (At.ret ?_))); cases bret j; exact At.res (.inl rfl) rfl rfl ⟨rfl, rfl⟩

noncomputable def Q78.f (a0 : Bs) (a1 : Int) : Option Int :=
 (Q76.f a0 a1).bind fun t252 =>
 some t252
theorem Q78.callee : Callee Tryz.prog 94 := ⟨_, Tryz.func94, by kernel_rfl, by kernel_rfl⟩
theorem Q78.spec (R : Res) (Fr : List HProp)  (a0 : Bs) (a1 : Int)  {r : Int} (j : Q78.f a0 a1 = some r) :
 Spec Tryz.prog 94 [.string ⟨(a0).toArray⟩, .int .u8 a1] R (Fr) (fun v l' => v = .int .i64 r ∧ Fr = l') := by
 refine Spec.of Tryz.func94 rfl rfl ?_; unfold Q78.f at j; have j := brun j; refine At.seq (At.region (At.run 1 rfl (At.nil (At.thn (At.seq (At.region (At.run 2 rfl ?_))))))); obtain ⟨t252, hc253, j⟩ := bbind j; refine At.call rfl Q76.callee rfl rfl rfl (Q76.spec _ _  a0 a1  hc253) ?_; rintro _ _ ⟨rfl, rfl⟩; refine At.run 1 rfl (At.nil (At.thn (At.ret ?_))); cases bret j; exact At.res (.inl rfl) rfl rfl ⟨rfl, rfl⟩

noncomputable def Q84.f (a0 : Int) : Option Int :=
 if a0 = 10 then
 some 1
 else
 jn (
 if 97 ≤ a0 then
 some (.inl (decide (a0 ≤ 122)))
 else
 some (.inl false)) (fun (x453 : Bool) =>
 if x453 = true then
 some 2
 else
 jn (
 if 65 ≤ a0 then
 some (.inl (decide (a0 ≤ 90)))
 else
 some (.inl false)) (fun (x659 : Bool) =>
 if x659 = true then
 some 3
 else
 jn (
 if 48 ≤ a0 then
 some (.inl (decide (a0 ≤ 57)))
 else
 some (.inl false)) (fun (x865 : Bool) =>
 if x865 = true then
 some 4
 else
 jn (
 if 32 < a0 then
 some (.inl (decide (a0 < 127)))
 else
 some (.inl false)) (fun (x1071 : Bool) =>
 jn (
 if x1071 = true then
 some (.inl (!(decide (a0 = 95))))
 else
 some (.inl false)) (fun (x1276 : Bool) =>
 if x1276 = true then
 some 5
 else
 some 0)))))
theorem Q84.callee : Callee Tryz.prog 141 := ⟨_, Tryz.func141, by kernel_rfl, by kernel_rfl⟩
theorem Q84.spec (R : Res) (Fr : List HProp)  (a0 : Int)  {r : Int} (j : Q84.f a0 = some r) :
 Spec Tryz.prog 141 [.int .u8 a0] R (Fr) (fun v l' => v = .int .i64 r ∧ Fr = l') := by
 refine Spec.of Tryz.func141 rfl rfl ?_; unfold Q84.f at j; have j := brun j; refine At.seq (At.region (At.run 1 rfl (At.nil (At.thn (At.seq ?_))))); refine At.block ?_; refine At.seq (At.region (At.run 3 rfl (At.nil (At.thn ?_)))); rcases bite j with ⟨h252, j⟩ | ⟨h252, j⟩
 ··refine At.condT rfl (decide_eq_true h252) ?_
   refine At.seq (At.region (At.run 1 rfl (At.nil (At.thn (At.ret ?_))))); refine At.ibr ?_; refine At.thr ?_; cases bret j; exact At.res (.inl rfl) rfl rfl ⟨rfl, rfl⟩
 ··refine At.condF rfl (decide_eq_false h252) ?_
   refine At.seq (At.region (At.run 3 rfl ?_)); obtain ⟨G454, hl455, hr456, j⟩ := bjoin j; refine At.joinO 3 (X := Bool) (fun x453 => [(0, .int .u8 a0), (12, .bool x453)]) (fun x453 => Fr) (fun x453 => G454 (.inl x453) = some r) ?_ (fun J457 => ?_)
   ·rintro x453 j; have j := (hl455 _).symm.trans j
    ·refine At.run 1 rfl (At.nil (At.thn ?_)); rcases bite j with ⟨h458, j⟩ | ⟨h458, j⟩
     ··refine At.condT rfl h458 ?_
       refine At.seq (At.region (At.run 1 rfl (At.nil (At.thn (At.ret ?_))))); refine At.ibr ?_; refine At.thr ?_; cases bret j; exact At.res (.inl rfl) rfl rfl ⟨rfl, rfl⟩
     ··refine At.condF rfl (bn h458) ?_
       refine At.seq (At.region (At.run 3 rfl ?_)); obtain ⟨G660, hl661, hr662, j⟩ := bjoin j; refine At.joinO 3 (X := Bool) (fun x659 => [(0, .int .u8 a0), (19, .bool x659)]) (fun x659 => Fr) (fun x659 => G660 (.inl x659) = some r) ?_ (fun J663 => ?_)
       ·rintro x659 j; have j := (hl661 _).symm.trans j
        ·refine At.run 1 rfl (At.nil (At.thn ?_)); rcases bite j with ⟨h664, j⟩ | ⟨h664, j⟩
         ··refine At.condT rfl h664 ?_
           refine At.seq (At.region (At.run 1 rfl (At.nil (At.thn (At.ret ?_))))); refine At.ibr ?_; refine At.thr ?_; cases bret j; exact At.res (.inl rfl) rfl rfl ⟨rfl, rfl⟩
         ··refine At.condF rfl (bn h664) ?_
           refine At.seq (At.region (At.run 3 rfl ?_)); obtain ⟨G866, hl867, hr868, j⟩ := bjoin j; refine At.joinO 3 (X := Bool) (fun x865 => [(0, .int .u8 a0), (26, .bool x865)]) (fun x865 => Fr) (fun x865 => G866 (.inl x865) = some r) ?_ (fun J869 => ?_)
           ·rintro x865 j; have j := (hl867 _).symm.trans j
            ·refine At.run 1 rfl (At.nil (At.thn ?_)); rcases bite j with ⟨h870, j⟩ | ⟨h870, j⟩
             ··refine At.condT rfl h870 ?_
               refine At.seq (At.region (At.run 1 rfl (At.nil (At.thn (At.ret ?_))))); refine At.ibr ?_; refine At.thr ?_; cases bret j; exact At.res (.inl rfl) rfl rfl ⟨rfl, rfl⟩
             ··refine At.condF rfl (bn h870) ?_
               refine At.seq (At.region (At.run 3 rfl ?_)); obtain ⟨G1072, hl1073, hr1074, j⟩ := bjoin j; refine At.joinO 3 (X := Bool) (fun x1071 => [(0, .int .u8 a0), (33, .bool x1071)]) (fun x1071 => Fr) (fun x1071 => G1072 (.inl x1071) = some r) ?_ (fun J1075 => ?_)
               ·rintro x1071 j; have j := (hl1073 _).symm.trans j
                ·refine At.run 1 rfl ?_; obtain ⟨G1277, hl1278, hr1279, j⟩ := bjoin j; refine At.joinO 3 (X := Bool) (fun x1276 => [(37, .bool x1276)]) (fun x1276 => Fr) (fun x1276 => G1277 (.inl x1276) = some r) ?_ (fun J1280 => ?_)
                 ·rintro x1276 j; have j := (hl1278 _).symm.trans j
                  ·refine At.run 1 rfl (At.nil (At.thn ?_)); rcases bite j with ⟨h1281, j⟩ | ⟨h1281, j⟩
                   ··refine At.condT rfl h1281 ?_
                     refine At.seq (At.region (At.run 1 rfl (At.nil (At.thn (At.ret ?_))))); refine At.ibr ?_; refine At.thr ?_; cases bret j; exact At.res (.inl rfl) rfl rfl ⟨rfl, rfl⟩
                   ··refine At.condF rfl (bn h1281) ?_
                     refine At.skip ?_; refine At.ibn ?_; refine At.thn (At.seq (At.region (At.run 1 rfl (At.nil (At.thn (At.ret ?_)))))); cases bret j; exact At.res (.inl rfl) rfl rfl ⟨rfl, rfl⟩
                 ··rcases bite j with ⟨h1282, j⟩ | ⟨h1282, j⟩
                   ··refine At.know (t := 34) rfl h1282 ?_
                     refine At.run 3 rfl ?_; exact At.of (J1280 (!(decide (a0 = 95))) j) ⟨rfl, trivial⟩
                   ··refine At.know (t := 34) rfl (bn h1282) ?_
                     refine At.run 3 rfl ?_; exact At.of (J1280 false j) ⟨rfl, trivial⟩
               ··rcases bite j with ⟨h1283, j⟩ | ⟨h1283, j⟩
                 ··refine At.know (t := 30) rfl (decide_eq_true h1283) ?_
                   refine At.run 3 rfl ?_; exact At.of (J1075 (decide (a0 < 127)) j) ⟨rfl, rfl, trivial⟩
                 ··refine At.know (t := 30) rfl (decide_eq_false h1283) ?_
                   refine At.run 3 rfl ?_; exact At.of (J1075 false j) ⟨rfl, rfl, trivial⟩
           ··rcases bite j with ⟨h1284, j⟩ | ⟨h1284, j⟩
             ··refine At.know (t := 23) rfl (decide_eq_true h1284) ?_
               refine At.run 3 rfl ?_; exact At.of (J869 (decide (a0 ≤ 57)) j) ⟨rfl, rfl, trivial⟩
             ··refine At.know (t := 23) rfl (decide_eq_false h1284) ?_
               refine At.run 3 rfl ?_; exact At.of (J869 false j) ⟨rfl, rfl, trivial⟩
       ··rcases bite j with ⟨h1285, j⟩ | ⟨h1285, j⟩
         ··refine At.know (t := 16) rfl (decide_eq_true h1285) ?_
           refine At.run 3 rfl ?_; exact At.of (J663 (decide (a0 ≤ 90)) j) ⟨rfl, rfl, trivial⟩
         ··refine At.know (t := 16) rfl (decide_eq_false h1285) ?_
           refine At.run 3 rfl ?_; exact At.of (J663 false j) ⟨rfl, rfl, trivial⟩
   ··rcases bite j with ⟨h1286, j⟩ | ⟨h1286, j⟩
     ··refine At.know (t := 9) rfl (decide_eq_true h1286) ?_
       refine At.run 3 rfl ?_; exact At.of (J457 (decide (a0 ≤ 122)) j) ⟨rfl, rfl, trivial⟩
     ··refine At.know (t := 9) rfl (decide_eq_false h1286) ?_
       refine At.run 3 rfl ?_; exact At.of (J457 false j) ⟨rfl, rfl, trivial⟩

noncomputable def Q13.l0b (a1 : Bs) (x1059 : Int) : Option ((Int) ⊕ ((Int) ⊕ ((Int) ⊕ (Int)))) :=
 jn (
 if x1059 < (a1.length : Int) then
 if (0 : Int) ≤ x1059 ∧ x1059 < (a1.length : Int) then
 some (.inl (decide (48 ≤ bat a1 x1059)))
 else none
 else
 some (.inl false)) (fun (x1472 : Bool) =>
 jn (
 if x1472 = true then
 if (0 : Int) ≤ x1059 ∧ x1059 < (a1.length : Int) then
 some (.inl (decide (bat a1 x1059 ≤ 57)))
 else none
 else
 some (.inl false)) (fun (x1677 : Bool) =>
 if x1677 = true then
 nx (IntKind.i64.wrap (x1059 + 1))
 else
 dn (.inl x1059)))
noncomputable def Q13.l0 (a1 : Bs) (x1059 : Int) : Option ((Int) ⊕ ((Int) ⊕ (Int))) := iter (fun t_ : Int => Q13.l0b a1 t_) x1059
noncomputable def Q13.l1b (a1 : Bs) (x2494 : Int) : Option ((Int) ⊕ ((Int) ⊕ ((Int) ⊕ (Int)))) :=
 jn (
 if x2494 < (a1.length : Int) then
 if (0 : Int) ≤ x2494 ∧ x2494 < (a1.length : Int) then
 jn (
 if bat a1 x2494 = 95 then
 some (.inl (true, true))
 else
 jn (
 if 97 ≤ bat a1 x2494 then
 some (.inl (true, decide (bat a1 x2494 ≤ 122)))
 else
 some (.inl (false, false))) (fun (s_ : Bool × Bool) =>
 some (.inl (false, s_.2)))) (fun (s_ : Bool × Bool) =>
 jn (
 if s_.2 = true then
 some (.inl (true, true))
 else
 jn (
 if 65 ≤ bat a1 x2494 then
 some (.inl (true, decide (bat a1 x2494 ≤ 90)))
 else
 some (.inl (false, false))) (fun (s_ : Bool × Bool) =>
 some (.inl (false, s_.2)))) (fun (s_ : Bool × Bool) =>
 jn (
 if s_.2 = true then
 some (.inl (true, true))
 else
 jn (
 if 48 ≤ bat a1 x2494 then
 some (.inl (true, decide (bat a1 x2494 ≤ 57)))
 else
 some (.inl (false, false))) (fun (s_ : Bool × Bool) =>
 some (.inl (false, s_.2)))) (fun (s_ : Bool × Bool) =>
 some (.inl s_.2))))
 else none
 else
 some (.inl false)) (fun (x2907 : Bool) =>
 if x2907 = true then
 nx (IntKind.i64.wrap (x2494 + 1))
 else
 dn (.inl x2494))
noncomputable def Q13.l1 (a1 : Bs) (x2494 : Int) : Option ((Int) ⊕ ((Int) ⊕ (Int))) := iter (fun t_ : Int => Q13.l1b a1 t_) x2494
noncomputable def Q13.f (a0 : Int) (a1 : Bs) : Option Int :=
 jn (
 if a0 = 4 then
 jn (Q13.l0 a1 1) (fun (x1260 : Int) =>
 some (.inl x1260))
 else
 jn (
 if a0 = 2 then
 some (.inl (decide (a0 = 2)))
 else
 some (.inl (decide (a0 = 3)))) (fun (x1891 : Bool) =>
 if x1891 = true then
 jn (Q13.l1 a1 1) (fun (x2695 : Int) =>
 some (.inl x2695))
 else
 some (.inl 1))) (fun (x456 : Int) =>
 some x456)
theorem Q13.callee : Callee Tryz.prog 142 := ⟨_, Tryz.func142, by kernel_rfl, by kernel_rfl⟩
theorem Q13.spec (R : Res) (Fr : List HProp)  (a0 : Int) (a1 : Bs)  {r : Int} (j : Q13.f a0 a1 = some r) :
 Spec Tryz.prog 142 [.int .i64 a0, .string ⟨(a1).toArray⟩] R (Fr) (fun v l' => v = .int .i64 r ∧ Fr = l') := by
 refine Spec.of Tryz.func142 rfl rfl ?_; unfold Q13.f at j; have j := brun j; refine At.seq (At.region (At.run 1 rfl (At.nil (At.thn (At.seq (At.region (At.run 1 rfl ?_))))))); refine At.nil (At.thn (At.seq (At.seq (At.region (At.run 1 rfl (At.nil (At.thn ?_))))))); obtain ⟨G252, hl253, hr254, j⟩ := bjoin j; refine At.join (X := Int) (fun x456 => [(5, .int .i64 x456)]) (fun x456 => Fr) (fun x456 => G252 (.inl x456) = some r) ?_ (fun J255 => ?_)
 ·rintro x456 j; have j := (hl253 _).symm.trans j
  ·refine At.seq (At.region (At.run 2 rfl (At.nil (At.thn (At.ret ?_))))); cases bret j; exact At.res (.inl rfl) rfl rfl ⟨rfl, rfl⟩
 ··refine At.block ?_
   refine At.seq (At.region (At.run 2 rfl (At.nil (At.thn ?_)))); rcases bite j with ⟨h457, j⟩ | ⟨h457, j⟩
   ··refine At.condT rfl (decide_eq_true h457) ?_
     refine At.block ?_; obtain ⟨G1261, hl1262, hr1263, j⟩ := bjoin j; obtain ⟨o1264, hlo1265, ho1266⟩ := bsome j; clear j; unfold Q13.l0 at hlo1265; obtain ⟨m1267, hit1269⟩ := Q17.1 hlo1265; clear hlo1265; refine At.loopJ (X := Int) (Y := Int) (e0 := 1) (fun x1059 => [(1, .string ⟨(a1).toArray⟩), (5, .int .i64 x1059)]) (fun x1059 => Fr) (fun m_ => fun x1059 => iterN (fun t_ : Int => Q13.l0b a1 t_) m_ x1059 = some o1264) m1267 1 hit1269 (fun x1260 => [(5, .int .i64 x1260)]) (fun x1260 => Fr) (fun x1260 => G1261 (.inl x1260) = some r) (fun a w e hs => ⟨e.sub ⟨rfl, rfl, trivial⟩, (by exact hs)⟩) ?_ (fun J1271 => ?_)
     ·rintro x1260 j; have j := (hl1262 _).symm.trans j
      ·refine At.ibx ?_; refine At.ibn ?_; refine At.thn ?_; exact fun a w e hs => J255 x1260 j a w (e.sub ⟨rfl, trivial⟩) hs
     ·clear hit1269 m1267; rintro m1267 x1059 hit1269; obtain ⟨m1268, f_, hlt1270, hf_, j⟩ := bit hit1269; clear hit1269; have j : (Q13.l0b a1 x1059).bind _ = some o1264 := j; unfold Q13.l0b at j
      ·refine At.seq (At.seq (At.region (At.run 5 rfl ?_))); obtain ⟨G1473, hl1474, hr1475, j⟩ := bjoin j; refine At.joinO 5 (X := Bool) (fun x1472 => [(1, .string ⟨(a1).toArray⟩), (5, .int .i64 x1059), (18, .bool x1472)]) (fun x1472 => Fr) (fun x1472 => G1473 (.inl x1472) = some o1264) ?_ (fun J1476 => ?_)
       ·rintro x1472 j; have j := (hl1474 _).symm.trans j
        ·refine At.run 1 rfl ?_; obtain ⟨G1678, hl1679, hr1680, j⟩ := bjoin j; refine At.joinO 5 (X := Bool) (fun x1677 => [(1, .string ⟨(a1).toArray⟩), (5, .int .i64 x1059), (24, .bool x1677)]) (fun x1677 => Fr) (fun x1677 => G1678 (.inl x1677) = some o1264) ?_ (fun J1681 => ?_)
         ·rintro x1677 j; have j := (hl1679 _).symm.trans j
          ·refine At.nil (At.thn ?_); rcases bite j with ⟨h1682, j⟩ | ⟨h1682, j⟩
           ··refine At.condT rfl h1682 ?_
             refine At.skip (At.thn ?_); refine At.block ?_; refine At.region (At.run 3 rfl (At.nil ?_)); refine At.ibn ?_; have j := bnx hf_ j; exact fun a w e hs => ⟨m1268, (IntKind.i64.wrap (x1059 + 1)), hlt1270, j, e.sub ⟨rfl, rfl, trivial⟩, hs⟩
           ··refine At.condF rfl (bn h1682) ?_
             refine At.exit ?_; refine At.the ?_; refine At.the ?_; exact fun a w e hs => J1271 x1059 (bdn j ho1266) a w (e.sub ⟨rfl, trivial⟩) hs
         ··rcases bite j with ⟨h1683, j⟩ | ⟨h1683, j⟩
           ··refine At.know (t := 19) rfl h1683 ?_
             refine At.run 2 rfl ?_; obtain ⟨h1684, j⟩ := bnone j; refine At.y (Y.ixStr rfl rfl rfl rfl h1684.1 h1684.2) rfl rfl rfl (At.run 2 rfl ?_); exact At.of (J1681 (decide (bat a1 x1059 ≤ 57)) j) ⟨rfl, rfl, rfl, trivial⟩
           ··refine At.know (t := 19) rfl (bn h1683) ?_
             refine At.run 5 rfl ?_; exact At.of (J1681 false j) ⟨rfl, rfl, rfl, trivial⟩
       ··rcases bite j with ⟨h1685, j⟩ | ⟨h1685, j⟩
         ··refine At.know (t := 13) rfl (decide_eq_true h1685) ?_
           refine At.run 2 rfl ?_; obtain ⟨h1686, j⟩ := bnone j; refine At.y (Y.ixStr rfl rfl rfl rfl h1686.1 h1686.2) rfl rfl rfl (At.run 2 rfl ?_); exact At.of (J1476 (decide (48 ≤ bat a1 x1059)) j) ⟨rfl, rfl, rfl, trivial⟩
         ··refine At.know (t := 13) rfl (decide_eq_false h1685) ?_
           refine At.run 5 rfl ?_; exact At.of (J1476 false j) ⟨rfl, rfl, rfl, trivial⟩
   ··refine At.condF rfl (decide_eq_false h457) ?_
     refine At.seq (At.seq (At.region (At.run 2 rfl (At.nil (At.thn ?_))))); obtain ⟨G1687, hl1688, hr1689, j⟩ := bjoin j; refine At.join (X := Bool) (fun x1891 => [(1, .string ⟨(a1).toArray⟩), (5, .int .i64 1), (27, .bool x1891)]) (fun x1891 => Fr) (fun x1891 => G1687 (.inl x1891) = some r) ?_ (fun J1690 => ?_)
     ·rintro x1891 j; have j := (hl1688 _).symm.trans j
      ·rcases bite j with ⟨h1892, j⟩ | ⟨h1892, j⟩
       ··refine At.condT rfl h1892 ?_
         refine At.block ?_; obtain ⟨G2696, hl2697, hr2698, j⟩ := bjoin j; obtain ⟨o2699, hlo2700, ho2701⟩ := bsome j; clear j; unfold Q13.l1 at hlo2700; obtain ⟨m2702, hit2704⟩ := Q17.1 hlo2700; clear hlo2700; refine At.loopJ (X := Int) (Y := Int) (e0 := 3) (fun x2494 => [(1, .string ⟨(a1).toArray⟩), (5, .int .i64 x2494)]) (fun x2494 => Fr) (fun m_ => fun x2494 => iterN (fun t_ : Int => Q13.l1b a1 t_) m_ x2494 = some o2699) m2702 1 hit2704 (fun x2695 => [(5, .int .i64 x2695)]) (fun x2695 => Fr) (fun x2695 => G2696 (.inl x2695) = some r) (fun a w e hs => ⟨e.sub ⟨rfl, rfl, trivial⟩, (by exact hs)⟩) ?_ (fun J2706 => ?_)
         ·rintro x2695 j; have j := (hl2697 _).symm.trans j
          ·refine At.ibx ?_; refine At.ibn ?_; refine At.thn ?_; exact fun a w e hs => J255 x2695 j a w (e.sub ⟨rfl, trivial⟩) hs
         ·clear hit2704 m2702; rintro m2702 x2494 hit2704; obtain ⟨m2703, f_, hlt2705, hf_, j⟩ := bit hit2704; clear hit2704; have j : (Q13.l1b a1 x2494).bind _ = some o2699 := j; unfold Q13.l1b at j
          ·refine At.seq (At.seq (At.region (At.run 5 rfl ?_))); obtain ⟨G2908, hl2909, hr2910, j⟩ := bjoin j; refine At.joinO 41 (X := Bool) (fun x2907 => [(1, .string ⟨(a1).toArray⟩), (5, .int .i64 x2494), (75, .bool x2907)]) (fun x2907 => Fr) (fun x2907 => G2908 (.inl x2907) = some o2699) ?_ (fun J2911 => ?_)
           ·rintro x2907 j; have j := (hl2909 _).symm.trans j
            ·refine At.nil (At.thn ?_); rcases bite j with ⟨h2912, j⟩ | ⟨h2912, j⟩
             ··refine At.condT rfl h2912 ?_
               refine At.skip (At.thn ?_); refine At.block ?_; refine At.region (At.run 3 rfl (At.nil ?_)); refine At.ibn ?_; have j := bnx hf_ j; exact fun a w e hs => ⟨m2703, (IntKind.i64.wrap (x2494 + 1)), hlt2705, j, e.sub ⟨rfl, rfl, trivial⟩, hs⟩
             ··refine At.condF rfl (bn h2912) ?_
               refine At.exit ?_; refine At.the ?_; refine At.the ?_; exact fun a w e hs => J2706 x2494 (bdn j ho2701) a w (e.sub ⟨rfl, trivial⟩) hs
           ··rcases bite j with ⟨h2913, j⟩ | ⟨h2913, j⟩
             ··refine At.know (t := 34) rfl (decide_eq_true h2913) ?_
               refine At.run 2 rfl ?_; obtain ⟨h2914, j⟩ := bnone j; refine At.y (Y.ixStr rfl rfl rfl rfl h2914.1 h2914.2) rfl rfl rfl (At.run 2 rfl ?_); obtain ⟨G3117, hl3118, hr3119, j⟩ := bjoin j; refine At.joinO 11 (X := Bool × Bool) (fun s_ => [(1, .string ⟨(a1).toArray⟩), (5, .int .i64 x2494), (34, .bool true), (35, .string ⟨(a1).toArray⟩), (36, .int .i64 x2494), (37, .int .u8 (bat a1 x2494)), (38, .bool (decide (bat a1 x2494 = 95))), (39, .bool s_.1), (50, .bool s_.2)]) (fun s_ => Fr) (fun s_ => G3117 (.inl (s_.1, s_.2)) = some o2699) ?_ (fun J3120 => ?_)
               ·rintro ⟨x3115, x3116⟩ j; have j := (hl3118 _).symm.trans j
                ·refine At.run 1 rfl ?_; obtain ⟨G3323, hl3324, hr3325, j⟩ := bjoin j; refine At.joinO 11 (X := Bool × Bool) (fun s_ => [(1, .string ⟨(a1).toArray⟩), (5, .int .i64 x2494), (34, .bool true), (35, .string ⟨(a1).toArray⟩), (36, .int .i64 x2494), (37, .int .u8 (bat a1 x2494)), (38, .bool (decide (bat a1 x2494 = 95))), (39, .bool x3115), (50, .bool x3116), (51, .bool s_.1), (62, .bool s_.2)]) (fun s_ => Fr) (fun s_ => G3323 (.inl (s_.1, s_.2)) = some o2699) ?_ (fun J3326 => ?_)
                 ·rintro ⟨x3321, x3322⟩ j; have j := (hl3324 _).symm.trans j
                  ·refine At.run 1 rfl ?_; obtain ⟨G3529, hl3530, hr3531, j⟩ := bjoin j; refine At.joinO 11 (X := Bool × Bool) (fun s_ => [(1, .string ⟨(a1).toArray⟩), (5, .int .i64 x2494), (34, .bool true), (35, .string ⟨(a1).toArray⟩), (36, .int .i64 x2494), (37, .int .u8 (bat a1 x2494)), (38, .bool (decide (bat a1 x2494 = 95))), (39, .bool x3115), (50, .bool x3116), (51, .bool x3321), (62, .bool x3322), (63, .bool s_.1), (74, .bool s_.2)]) (fun s_ => Fr) (fun s_ => G3529 (.inl (s_.1, s_.2)) = some o2699) ?_ (fun J3532 => ?_)
                   ·rintro ⟨x3527, x3528⟩ j; have j := (hl3530 _).symm.trans j
                    ·refine At.run 1 rfl ?_; exact At.of (J2911 x3528 j) ⟨rfl, rfl, rfl, trivial⟩
                   ··rcases bite j with ⟨h3533, j⟩ | ⟨h3533, j⟩
                     ··refine At.know (t := 63) rfl h3533 ?_
                       refine At.run 11 rfl ?_; exact At.of (J3532 (true, true) j) ⟨rfl, rfl, rfl, rfl, rfl, rfl, rfl, rfl, rfl, rfl, rfl, rfl, rfl, trivial⟩
                     ··refine At.know (t := 63) rfl (bn h3533) ?_
                       refine At.run 2 rfl (At.y (Y.ixStr rfl rfl rfl rfl h2914.1 h2914.2) rfl rfl rfl (At.run 2 rfl ?_)); obtain ⟨G3736, hl3737, hr3738, j⟩ := bjoin j; refine At.joinO 5 (X := Bool × Bool) (fun s_ => [(1, .string ⟨(a1).toArray⟩), (5, .int .i64 x2494), (34, .bool true), (35, .string ⟨(a1).toArray⟩), (36, .int .i64 x2494), (37, .int .u8 (bat a1 x2494)), (38, .bool (decide (bat a1 x2494 = 95))), (39, .bool x3115), (50, .bool x3116), (51, .bool x3321), (62, .bool x3322), (63, .bool false), (64, .string ⟨(a1).toArray⟩), (65, .int .i64 x2494), (66, .int .u8 (bat a1 x2494)), (67, .bool (decide (48 ≤ bat a1 x2494))), (68, .bool s_.1), (73, .bool s_.2)]) (fun s_ => Fr) (fun s_ => G3736 (.inl (s_.1, s_.2)) = some o2699) ?_ (fun J3739 => ?_)
                       ·rintro ⟨x3734, x3735⟩ j; have j := (hl3737 _).symm.trans j
                        ·refine At.run 1 rfl ?_; exact At.of (J3532 (false, x3735) j) ⟨rfl, rfl, rfl, rfl, rfl, rfl, rfl, rfl, rfl, rfl, rfl, rfl, rfl, trivial⟩
                       ··rcases bite j with ⟨h3740, j⟩ | ⟨h3740, j⟩
                         ··refine At.know (t := 68) rfl (decide_eq_true h3740) ?_
                           refine At.run 2 rfl (At.y (Y.ixStr rfl rfl rfl rfl h2914.1 h2914.2) rfl rfl rfl (At.run 2 rfl ?_)); exact At.of (J3739 (true, decide (bat a1 x2494 ≤ 57)) j) ⟨rfl, rfl, rfl, rfl, rfl, rfl, rfl, rfl, rfl, rfl, rfl, rfl, rfl, rfl, rfl, rfl, rfl, rfl, trivial⟩
                         ··refine At.know (t := 68) rfl (decide_eq_false h3740) ?_
                           refine At.run 5 rfl ?_; exact At.of (J3739 (false, false) j) ⟨rfl, rfl, rfl, rfl, rfl, rfl, rfl, rfl, rfl, rfl, rfl, rfl, rfl, rfl, rfl, rfl, rfl, rfl, trivial⟩
                 ··rcases bite j with ⟨h3741, j⟩ | ⟨h3741, j⟩
                   ··refine At.know (t := 51) rfl h3741 ?_
                     refine At.run 11 rfl ?_; exact At.of (J3326 (true, true) j) ⟨rfl, rfl, rfl, rfl, rfl, rfl, rfl, rfl, rfl, rfl, rfl, trivial⟩
                   ··refine At.know (t := 51) rfl (bn h3741) ?_
                     refine At.run 2 rfl (At.y (Y.ixStr rfl rfl rfl rfl h2914.1 h2914.2) rfl rfl rfl (At.run 2 rfl ?_)); obtain ⟨G3944, hl3945, hr3946, j⟩ := bjoin j; refine At.joinO 5 (X := Bool × Bool) (fun s_ => [(1, .string ⟨(a1).toArray⟩), (5, .int .i64 x2494), (34, .bool true), (35, .string ⟨(a1).toArray⟩), (36, .int .i64 x2494), (37, .int .u8 (bat a1 x2494)), (38, .bool (decide (bat a1 x2494 = 95))), (39, .bool x3115), (50, .bool x3116), (51, .bool false), (52, .string ⟨(a1).toArray⟩), (53, .int .i64 x2494), (54, .int .u8 (bat a1 x2494)), (55, .bool (decide (65 ≤ bat a1 x2494))), (56, .bool s_.1), (61, .bool s_.2)]) (fun s_ => Fr) (fun s_ => G3944 (.inl (s_.1, s_.2)) = some o2699) ?_ (fun J3947 => ?_)
                     ·rintro ⟨x3942, x3943⟩ j; have j := (hl3945 _).symm.trans j
                      ·refine At.run 1 rfl ?_; exact At.of (J3326 (false, x3943) j) ⟨rfl, rfl, rfl, rfl, rfl, rfl, rfl, rfl, rfl, rfl, rfl, trivial⟩
                     ··rcases bite j with ⟨h3948, j⟩ | ⟨h3948, j⟩
                       ··refine At.know (t := 56) rfl (decide_eq_true h3948) ?_
                         refine At.run 2 rfl (At.y (Y.ixStr rfl rfl rfl rfl h2914.1 h2914.2) rfl rfl rfl (At.run 2 rfl ?_)); exact At.of (J3947 (true, decide (bat a1 x2494 ≤ 90)) j) ⟨rfl, rfl, rfl, rfl, rfl, rfl, rfl, rfl, rfl, rfl, rfl, rfl, rfl, rfl, rfl, rfl, trivial⟩
                       ··refine At.know (t := 56) rfl (decide_eq_false h3948) ?_
                         refine At.run 5 rfl ?_; exact At.of (J3947 (false, false) j) ⟨rfl, rfl, rfl, rfl, rfl, rfl, rfl, rfl, rfl, rfl, rfl, rfl, rfl, rfl, rfl, rfl, trivial⟩
               ··rcases bite j with ⟨h3949, j⟩ | ⟨h3949, j⟩
                 ··refine At.know (t := 39) rfl (decide_eq_true h3949) ?_
                   refine At.run 11 rfl ?_; exact At.of (J3120 (true, true) j) ⟨rfl, rfl, rfl, rfl, rfl, rfl, rfl, rfl, rfl, trivial⟩
                 ··refine At.know (t := 39) rfl (decide_eq_false h3949) ?_
                   refine At.run 2 rfl (At.y (Y.ixStr rfl rfl rfl rfl h2914.1 h2914.2) rfl rfl rfl (At.run 2 rfl ?_)); obtain ⟨G4152, hl4153, hr4154, j⟩ := bjoin j; refine At.joinO 5 (X := Bool × Bool) (fun s_ => [(1, .string ⟨(a1).toArray⟩), (5, .int .i64 x2494), (34, .bool true), (35, .string ⟨(a1).toArray⟩), (36, .int .i64 x2494), (37, .int .u8 (bat a1 x2494)), (38, .bool (decide (bat a1 x2494 = 95))), (39, .bool false), (40, .string ⟨(a1).toArray⟩), (41, .int .i64 x2494), (42, .int .u8 (bat a1 x2494)), (43, .bool (decide (97 ≤ bat a1 x2494))), (44, .bool s_.1), (49, .bool s_.2)]) (fun s_ => Fr) (fun s_ => G4152 (.inl (s_.1, s_.2)) = some o2699) ?_ (fun J4155 => ?_)
                   ·rintro ⟨x4150, x4151⟩ j; have j := (hl4153 _).symm.trans j
                    ·refine At.run 1 rfl ?_; exact At.of (J3120 (false, x4151) j) ⟨rfl, rfl, rfl, rfl, rfl, rfl, rfl, rfl, rfl, trivial⟩
                   ··rcases bite j with ⟨h4156, j⟩ | ⟨h4156, j⟩
                     ··refine At.know (t := 44) rfl (decide_eq_true h4156) ?_
                       refine At.run 2 rfl (At.y (Y.ixStr rfl rfl rfl rfl h2914.1 h2914.2) rfl rfl rfl (At.run 2 rfl ?_)); exact At.of (J4155 (true, decide (bat a1 x2494 ≤ 122)) j) ⟨rfl, rfl, rfl, rfl, rfl, rfl, rfl, rfl, rfl, rfl, rfl, rfl, rfl, rfl, trivial⟩
                     ··refine At.know (t := 44) rfl (decide_eq_false h4156) ?_
                       refine At.run 5 rfl ?_; exact At.of (J4155 (false, false) j) ⟨rfl, rfl, rfl, rfl, rfl, rfl, rfl, rfl, rfl, rfl, rfl, rfl, rfl, rfl, trivial⟩
             ··refine At.know (t := 34) rfl (decide_eq_false h2913) ?_
               refine At.run 41 rfl ?_; exact At.of (J2911 false j) ⟨rfl, rfl, rfl, trivial⟩
       ··refine At.condF rfl (bn h1892) ?_
         refine At.skip ?_; refine At.ibn ?_; refine At.thn ?_; exact fun a w e hs => J255 1 j a w (e.sub ⟨rfl, trivial⟩) hs
     ··rcases bite j with ⟨h4157, j⟩ | ⟨h4157, j⟩
       ··refine At.condT rfl (decide_eq_true h4157) ?_
         refine At.skip (At.thn ?_); exact fun a w e hs => J1690 (decide (a0 = 2)) j a w (e.sub ⟨rfl, rfl, rfl, trivial⟩) hs
       ··refine At.condF rfl (decide_eq_false h4157) ?_
         refine At.region (At.run 2 rfl (At.nil (At.thn ?_))); exact fun a w e hs => J1690 (decide (a0 = 3)) j a w (e.sub ⟨rfl, rfl, rfl, trivial⟩) hs

noncomputable def Q31.l0b (a0 : Bs) (x1061 x1062 : Int) : Option ((Int × Int) ⊕ ((Int) ⊕ (Bool × Int))) :=
 if x1062 < (a0.length : Int) then
 if (0 : Int) ≤ x1062 ∧ x1062 < (a0.length : Int) then
 nx (IntKind.i64.wrap (IntKind.i64.wrap (10 * x1061) + (IntKind.i64.wrap (IntKind.u8.wrap (bat a0 x1062 - 48)))), IntKind.i64.wrap (x1062 + 1))
 else none
 else
 dn (.inl x1061)
noncomputable def Q31.l0 (a0 : Bs) (x1061 x1062 : Int) : Option ((Int) ⊕ (Bool × Int)) := iter (fun t_ : Int × Int => Q31.l0b a0 t_.1 t_.2) (x1061, x1062)
noncomputable def Q31.f (a0 : Bs) : Option (Bool × Int) :=
 jn (
 if 4 < (a0.length : Int) then
 some (.inl true)
 else
 jn (
 if 1 < (a0.length : Int) then
 if (0 : Int) ≤ 0 ∧ 0 < (a0.length : Int) then
 some (.inl (decide (bat a0 0 = 48)))
 else none
 else
 some (.inl false)) (fun (x1478 : Bool) =>
 some (.inl x1478))) (fun (x453 : Bool) =>
 if x453 = true then
 some (false, 0)
 else
 jn (Q31.l0 a0 0 0) (fun (x1263 : Int) =>
 some (decide (x1263 ≤ 9999), x1263)))
theorem Q31.callee : Callee Tryz.prog 143 := ⟨_, Tryz.func143, by kernel_rfl, by kernel_rfl⟩
theorem Q31.spec (R : Res) (Fr : List HProp)  (a0 : Bs)  {r : Bool × Int} (j : Q31.f a0 = some r) :
 Spec Tryz.prog 143 [.string ⟨(a0).toArray⟩] R (Fr) (fun v l' => v = .tuple #[.int .i64 r.2, .bool r.1] ∧ Fr = l') := by
 refine Spec.of Tryz.func143 rfl rfl ?_; unfold Q31.f at j; have j := brun j; refine At.seq (At.region (At.run 2 rfl (At.nil (At.thn (At.seq (At.seq (At.region ?_))))))); refine At.run 4 rfl ?_; obtain ⟨G454, hl455, hr456, j⟩ := bjoin j; refine At.joinO 9 (X := Bool) (fun x453 => [(0, .string ⟨(a0).toArray⟩), (18, .bool x453)]) (fun x453 => Fr) (fun x453 => G454 (.inl x453) = some r) ?_ (fun J457 => ?_)
 ·rintro x453 j; have j := (hl455 _).symm.trans j
  ·refine At.nil (At.thn ?_); rcases bite j with ⟨h458, j⟩ | ⟨h458, j⟩
   ··refine At.condT rfl h458 ?_
     refine At.seq (At.region (At.run 2 rfl (At.nil (At.thn (At.ret (At.thr ?_)))))); cases bret j; exact At.res (.inl rfl) rfl rfl ⟨rfl, rfl⟩
   ··refine At.condF rfl (bn h458) ?_
     refine At.skip (At.thn (At.seq (At.region (At.run 1 rfl (At.nil (At.thn (At.seq ?_))))))); refine At.seq (At.region (At.run 3 rfl (At.nil (At.thn ?_)))); refine At.block ?_; obtain ⟨G1264, hl1265, hr1266, j⟩ := bjoin j; obtain ⟨o1267, hlo1268, ho1269⟩ := bsome j; clear j; unfold Q31.l0 at hlo1268; obtain ⟨m1270, hit1272⟩ := Q17.1 hlo1268; clear hlo1268; refine At.loopJ (X := Int × Int) (Y := Int) (e0 := 0) (fun s_ => [(0, .string ⟨(a0).toArray⟩), (4, .int .i64 s_.1), (20, .int .i64 (a0.length : Int)), (21, .int .i64 s_.2)]) (fun s_ => Fr) (fun m_ => fun s_ => iterN (fun t_ : Int × Int => Q31.l0b a0 t_.1 t_.2) m_ (s_.1, s_.2) = some o1267) m1270 (0, 0) hit1272 (fun x1263 => [(4, .int .i64 x1263)]) (fun x1263 => Fr) (fun x1263 => G1264 (.inl x1263) = some r) (fun a w e hs => ⟨e.sub ⟨rfl, rfl, rfl, rfl, trivial⟩, (by exact hs)⟩) ?_ (fun J1274 => ?_)
     ·rintro x1263 j; have j := (hl1265 _).symm.trans j
      ·refine At.ibx ?_; refine At.thn (At.seq (At.region (At.run 5 rfl (At.nil (At.thn (At.ret ?_)))))); cases bret j; exact At.res (.inl rfl) rfl rfl ⟨rfl, rfl⟩
     ·clear hit1272 m1270; rintro m1270 ⟨x1061, x1062⟩ hit1272; obtain ⟨m1271, f_, hlt1273, hf_, j⟩ := bit hit1272; clear hit1272; have j : (Q31.l0b a0 x1061 x1062).bind _ = some o1267 := j; unfold Q31.l0b at j
      ·refine At.seq (At.region (At.run 1 rfl (At.nil (At.thn (At.seq ?_))))); rcases bite j with ⟨h1275, j⟩ | ⟨h1275, j⟩
       ··refine At.condT rfl (decide_eq_true h1275) ?_
         refine At.skip (At.thn (At.seq ?_)); refine At.block ?_; refine At.seq (At.region (At.run 2 rfl (At.nil (At.thn (At.region (At.run 4 rfl ?_)))))); obtain ⟨h1276, j⟩ := bnone j; refine At.y (Y.ixStr rfl rfl rfl rfl h1276.1 h1276.2) rfl rfl rfl (At.run 4 rfl (At.nil ?_)); refine At.ibn ?_; refine At.thn (At.region (At.run 2 rfl (At.nil ?_))); have j := bnx hf_ j; exact fun a w e hs => ⟨m1271, (IntKind.i64.wrap (IntKind.i64.wrap (10 * x1061) + (IntKind.i64.wrap (IntKind.u8.wrap (bat a0 x1062 - 48)))), IntKind.i64.wrap (x1062 + 1)), hlt1273, j, e.sub ⟨rfl, rfl, rfl, rfl, trivial⟩, hs⟩
       ··refine At.condF rfl (decide_eq_false h1275) ?_
         refine At.exit ?_; refine At.the ?_; refine At.the ?_; exact fun a w e hs => J1274 x1061 (bdn j ho1269) a w (e.sub ⟨rfl, trivial⟩) hs
 ··rcases bite j with ⟨h1277, j⟩ | ⟨h1277, j⟩
   ··refine At.know (t := 9) rfl (decide_eq_true h1277) ?_
     refine At.run 9 rfl ?_; exact At.of (J457 true j) ⟨rfl, rfl, trivial⟩
   ··refine At.know (t := 9) rfl (decide_eq_false h1277) ?_
     refine At.run 4 rfl ?_; obtain ⟨G1479, hl1480, hr1481, j⟩ := bjoin j; refine At.joinO 4 (X := Bool) (fun x1478 => [(0, .string ⟨(a0).toArray⟩), (9, .bool false), (17, .bool x1478)]) (fun x1478 => Fr) (fun x1478 => G1479 (.inl x1478) = some r) ?_ (fun J1482 => ?_)
     ·rintro x1478 j; have j := (hl1480 _).symm.trans j
      ·refine At.run 1 rfl ?_; exact At.of (J457 x1478 j) ⟨rfl, rfl, trivial⟩
     ··rcases bite j with ⟨h1483, j⟩ | ⟨h1483, j⟩
       ··refine At.know (t := 13) rfl (decide_eq_true h1483) ?_
         refine At.run 1 rfl ?_; obtain ⟨h1484, j⟩ := bnone j; refine At.y (Y.ixStr rfl rfl rfl rfl h1484.1 h1484.2) rfl rfl rfl (At.run 2 rfl ?_); exact At.of (J1482 (decide (bat a0 0 = 48)) j) ⟨rfl, rfl, rfl, trivial⟩
       ··refine At.know (t := 13) rfl (decide_eq_false h1483) ?_
         refine At.run 4 rfl ?_; exact At.of (J1482 false j) ⟨rfl, rfl, rfl, trivial⟩

noncomputable def Q81.f (a0 : Bs) (a1 : Int) : Option (Int × Int × Int × Bs × Int) :=
 if (0 : Int) ≤ a1 ∧ a1 < (a0.length : Int) then
 (Q84.f (bat a0 a1)).bind fun t266 =>
 if (0 : Int) ≤ a1 ∧ a1 ≤ (a0.length : Int) then
 (Q13.f t266 (a0.drop a1.toNat)).bind fun t272 =>
 if (0 : Int) ≤ a1 ∧ a1 ≤ IntKind.i64.wrap (a1 + t272) ∧ IntKind.i64.wrap (a1 + t272) ≤ (a0.length : Int) then
 jn (
 if t266 = 0 then
 up (some (3, t266, a1, (bsl a0 a1 (IntKind.i64.wrap (a1 + t272))), 0))
 else
 jn (
 if t266 = 2 then
 some (.inl (decide (t266 = 2)))
 else
 some (.inl (decide (t266 = 3)))) (fun (x685 : Bool) =>
 if x685 = true then
 if 8 < ((bsl a0 a1 (IntKind.i64.wrap (a1 + t272))).length : Int) then
 up (some (5, t266, a1, (bsl a0 a1 (IntKind.i64.wrap (a1 + t272))), 0))
 else
 some (.inl 0)
 else
 if t266 = 4 then
 (Q31.f (bsl a0 a1 (IntKind.i64.wrap (a1 + t272)))).bind fun t689 =>
 if t689.1 = true then
 some (.inl t689.2)
 else
 up (some (4, t266, a1, (bsl a0 a1 (IntKind.i64.wrap (a1 + t272))), 0))
 else
 some (.inl 0))) (fun (x479 : Int) =>
 some (0, t266, a1, (bsl a0 a1 (IntKind.i64.wrap (a1 + t272))), x479))
 else none
 else none
 else none
theorem Q81.callee : Callee Tryz.prog 95 := ⟨_, Tryz.func95, by kernel_rfl, by kernel_rfl⟩
theorem Q81.spec (R : Res) (Fr : List HProp)  (a0 : Bs) (a1 : Int)  {r : Int × Int × Int × Bs × Int} (j : Q81.f a0 a1 = some r) :
 Spec Tryz.prog 95 [.string ⟨(a0).toArray⟩, .int .i64 a1] R (Fr) (fun v l' => v = .tuple #[.agg #[.int .i64 r.2.1, .int .i64 r.2.2.1, .string ⟨(r.2.2.2.1).toArray⟩, .int .i64 r.2.2.2.2], .int .i64 r.1] ∧ Fr = l') := by
 refine Spec.of Tryz.func95 rfl rfl ?_; unfold Q81.f at j; have j := brun j; refine At.seq (At.region ?_); refine At.alloc rfl rfl rfl (fun b264 => ?_); refine At.run 1 rfl (At.nil (At.thn (At.seq (At.region (At.run 2 rfl ?_))))); obtain ⟨h265, j⟩ := bnone j; refine At.y (Y.ixStr rfl rfl rfl rfl h265.1 h265.2) rfl rfl rfl ?_; obtain ⟨t266, hc267, j⟩ := bbind j; refine At.call rfl Q84.callee rfl rfl rfl (Q84.spec _ _  (bat a0 a1)  hc267) ?_; rintro _ _ ⟨rfl, rfl⟩; refine At.run 1 rfl ?_; refine At.y (Y.build (is := [0, 1]) (xo := [.tmp 12, .tmp 13]) (vs := [.int .i64 t266, .int .i64 a1]) (cs := [.int .i64 t266, .int .i64 a1, .string ⟨(([] : Bs)).toArray⟩, .int .i64 0]) rfl rfl rfl rfl rfl rfl) rfl rfl rfl ?_; refine At.alloc rfl rfl rfl (fun b268 => ?_); refine At.store rfl rfl rfl rfl .z rfl rfl rfl (.c (.c (.c (.c .n)))) ?_; refine At.nil (At.thn (At.seq ?_)); refine At.held [pt b264 (.cells [.int .i64 0, .int .i64 0, .string ⟨(([] : Bs)).toArray⟩, .int .i64 0].toArray 116)] 13 rfl ?_; refine At.H.pw 0 rfl rfl rfl rfl rfl (.c (.s .z) .n) ?_; refine At.H.pw 1 rfl rfl rfl rfl rfl (.c (.s .z) .n) ?_; refine At.H.pw 2 rfl rfl rfl rfl rfl (.c (.s .z) .n) ?_; refine At.H.pw 3 rfl rfl rfl rfl rfl (.c (.s .z) .n) ?_; refine At.H.pw 5 rfl rfl rfl rfl rfl (.c (.s .z) .n) ?_; refine At.H.pw 6 rfl rfl rfl rfl rfl (.c (.s .z) .n) ?_; obtain ⟨h271, j⟩ := bnone j; refine At.H.tw 7 rfl (Y.slStrL rfl rfl rfl rfl h271.1 h271.2) rfl rfl rfl (.c (.s .z) .n) ?_; refine At.H.al [4] (Q12 ?_ Q14)
 ··refine At.HO.op rfl ?_
   refine At.y (Y.load rfl rfl .z rfl rfl rfl) rfl rfl rfl ?_; refine At.HO.back (.c (.s .z) .n) ?_; refine At.H.al [8] (Q12 ?_ Q14)
   ··refine At.HO.op rfl ?_
     obtain ⟨t272, hc273, j⟩ := bbind j; refine At.call rfl Q13.callee rfl rfl rfl (Q13.spec _ _  t266 (a0.drop a1.toNat)  hc273) ?_; rintro _ _ ⟨rfl, rfl⟩; refine At.HO.back (.c (.s .z) .n) ?_; refine At.H.pw 9 rfl rfl rfl rfl rfl (.c (.s .z) .n) ?_; obtain ⟨h274, j⟩ := bnone j; refine At.H.tw 10 rfl (Y.slStrLH rfl rfl rfl rfl rfl h274.1 h274.2.1 h274.2.2) rfl rfl rfl (.c (.s .z) .n) ?_; refine At.H.pw 11 rfl rfl rfl rfl rfl (.c (.s .z) .n) ?_; refine At.H.al [12] (Q12 ?_ Q14)
     ··refine At.HO.op rfl ?_
       refine At.store rfl rfl rfl rfl .z rfl rfl rfl (.s (.s (.c .n))) ?_; refine At.HO.back (.c (.s .z) .n) ?_; refine At.H.done (by kernel_rfl) ?_; refine At.thn (At.seq (At.seq (At.region (At.run 1 rfl (At.y (Y.load rfl rfl .z rfl rfl rfl) rfl rfl rfl (At.nil (At.thn ?_))))))); obtain ⟨G275, hl276, hr277, j⟩ := bjoin j; refine At.join (X := Int) (fun x479 => [(4, .pointer (some ⟨b264, 0, none⟩)), (6, .pointer (some ⟨b268, 0, none⟩))]) (fun x479 => pt b268 (.cells [.int .i64 t266, .int .i64 a1, .string ⟨((bsl a0 a1 (IntKind.i64.wrap (a1 + t272)))).toArray⟩, .int .i64 x479].toArray 116) :: pt b264 (.cells [.int .i64 0, .int .i64 0, .string ⟨(([] : Bs)).toArray⟩, .int .i64 0].toArray 116) :: Fr) (fun x479 => G275 (.inl x479) = some r) ?_ (fun J278 => ?_)
       ·rintro x479 j; have j := (hl276 _).symm.trans j
        ·refine At.seq (At.region (At.y (Y.load rfl rfl .z rfl rfl rfl) rfl rfl rfl ?_)); refine At.store rfl rfl rfl rfl (.s .z) rfl rfl rfl (.c (.c (.c (.c .n)))) ?_; refine At.run 1 rfl (At.nil (At.thn (At.ret ?_))); refine At.resM (.inl rfl) rfl (RV.cell rfl rfl .z rfl rfl rfl (RV.tmp rfl RV.nil)) ?_; refine At.drop .z (At.drop .z ?_); cases bret j; exact fun a w e hs => ⟨_, ⟨rfl, rfl⟩, hs⟩
       ··refine At.block ?_
         refine At.seq (At.region (At.run 2 rfl (At.nil (At.thn ?_)))); rcases bite j with ⟨h480, j⟩ | ⟨h480, j⟩
         ··refine At.condT rfl (decide_eq_true h480) ?_
           refine At.seq (At.region (At.y (Y.load rfl rfl .z rfl rfl rfl) rfl rfl rfl ?_)); refine At.store rfl rfl rfl rfl (.s .z) rfl rfl rfl (.c (.c (.c (.c .n)))) ?_; refine At.run 1 rfl (At.nil (At.thn (At.ret ?_))); refine At.ibr ?_; have j := bup hr277 j; refine At.thr ?_; refine At.resM (.inl rfl) rfl (RV.cell rfl rfl .z rfl rfl rfl (RV.tmp rfl RV.nil)) ?_; refine At.drop .z (At.drop .z ?_); cases bret j; exact fun a w e hs => ⟨_, ⟨rfl, rfl⟩, hs⟩
         ··refine At.condF rfl (decide_eq_false h480) ?_
           refine At.seq (At.seq (At.region (At.run 2 rfl (At.nil (At.thn ?_))))); obtain ⟨G481, hl482, hr483, j⟩ := bjoin j; refine At.join (X := Bool) (fun x685 => [(4, .pointer (some ⟨b264, 0, none⟩)), (6, .pointer (some ⟨b268, 0, none⟩)), (28, .int .i64 t266), (32, .bool x685)]) (fun x685 => pt b268 (.cells [.int .i64 t266, .int .i64 a1, .string ⟨((bsl a0 a1 (IntKind.i64.wrap (a1 + t272)))).toArray⟩, .int .i64 0].toArray 116) :: pt b264 (.cells [.int .i64 0, .int .i64 0, .string ⟨(([] : Bs)).toArray⟩, .int .i64 0].toArray 116) :: Fr) (fun x685 => G481 (.inl x685) = some r) ?_ (fun J484 => ?_)
           ·rintro x685 j; have j := (hl482 _).symm.trans j
            ·rcases bite j with ⟨h686, j⟩ | ⟨h686, j⟩
             ··refine At.condT rfl h686 ?_
               refine At.seq (At.region (At.run 1 rfl (At.y (Y.load rfl rfl .z rfl rfl rfl) rfl rfl rfl (At.run 2 rfl (At.nil (At.thn ?_)))))); rcases bite j with ⟨h687, j⟩ | ⟨h687, j⟩
               ··refine At.condT rfl (decide_eq_true h687) ?_
                 refine At.seq (At.region (At.y (Y.load rfl rfl .z rfl rfl rfl) rfl rfl rfl ?_)); refine At.store rfl rfl rfl rfl (.s .z) rfl rfl rfl (.c (.c (.c (.c .n)))) ?_; refine At.run 1 rfl (At.nil (At.thn (At.ret ?_))); refine At.ibr ?_; have j := bup hr277 j; refine At.thr ?_; refine At.resM (.inl rfl) rfl (RV.cell rfl rfl .z rfl rfl rfl (RV.tmp rfl RV.nil)) ?_; refine At.drop .z (At.drop .z ?_); cases bret j; exact fun a w e hs => ⟨_, ⟨rfl, rfl⟩, hs⟩
               ··refine At.condF rfl (decide_eq_false h687) ?_
                 refine At.skip ?_; refine At.ibn ?_; refine At.thn ?_; exact fun a w e hs => J278 0 j a w (e.sub ⟨rfl, rfl, trivial⟩) hs
             ··refine At.condF rfl (bn h686) ?_
               refine At.seq (At.region (At.run 2 rfl (At.nil (At.thn ?_)))); rcases bite j with ⟨h688, j⟩ | ⟨h688, j⟩
               ··refine At.condT rfl (decide_eq_true h688) ?_
                 refine At.seq (At.region (At.run 1 rfl (At.y (Y.load rfl rfl .z rfl rfl rfl) rfl rfl rfl ?_))); obtain ⟨t689, hc690, j⟩ := bbind j; refine At.call rfl Q31.callee rfl rfl rfl (Q31.spec _ _  (bsl a0 a1 (IntKind.i64.wrap (a1 + t272)))  hc690) ?_; rintro _ _ ⟨rfl, rfl⟩; refine At.run 5 rfl (At.nil (At.thn (At.seq (At.seq (At.region (At.run 2 rfl (At.nil ?_))))))); refine At.thn ?_; rcases bite j with ⟨h691, j⟩ | ⟨h691, j⟩
                 ··refine At.condF rfl (nf h691) ?_
                   refine At.skip (At.thn (At.region (At.run 2 rfl ?_))); refine At.store rfl rfl rfl rfl .z rfl rfl rfl (.s (.s (.s (.c .n)))) ?_; refine At.nil ?_; refine At.ibn ?_; refine At.thn ?_; exact fun a w e hs => J278 t689.2 j a w (e.sub ⟨rfl, rfl, trivial⟩) hs
                 ··refine At.condT rfl (nt (bn h691)) ?_
                   refine At.seq (At.region (At.y (Y.load rfl rfl .z rfl rfl rfl) rfl rfl rfl ?_)); refine At.store rfl rfl rfl rfl (.s .z) rfl rfl rfl (.c (.c (.c (.c .n)))) ?_; refine At.run 1 rfl (At.nil (At.thn (At.ret (At.thr ?_)))); refine At.ibr ?_; have j := bup hr277 j; refine At.thr ?_; refine At.resM (.inl rfl) rfl (RV.cell rfl rfl .z rfl rfl rfl (RV.tmp rfl RV.nil)) ?_; refine At.drop .z (At.drop .z ?_); cases bret j; exact fun a w e hs => ⟨_, ⟨rfl, rfl⟩, hs⟩
               ··refine At.condF rfl (decide_eq_false h688) ?_
                 refine At.skip ?_; refine At.ibn ?_; refine At.thn ?_; exact fun a w e hs => J278 0 j a w (e.sub ⟨rfl, rfl, trivial⟩) hs
           ··rcases bite j with ⟨h692, j⟩ | ⟨h692, j⟩
             ··refine At.condT rfl (decide_eq_true h692) ?_
               refine At.skip (At.thn ?_); exact fun a w e hs => J484 (decide (t266 = 2)) j a w (e.sub ⟨rfl, rfl, rfl, rfl, trivial⟩) hs
             ··refine At.condF rfl (decide_eq_false h692) ?_
               refine At.region (At.run 2 rfl (At.nil (At.thn ?_))); exact fun a w e hs => J484 (decide (t266 = 3)) j a w (e.sub ⟨rfl, rfl, rfl, rfl, trivial⟩) hs

noncomputable def Q37.l0b (a0 : Bs) (x867 : List Q3) (x872 : Int) : Option (((List Q3) × Int) ⊕ (((List Q3)) ⊕ ((Option Q2) × (List Q3)))) :=
 if x872 < (a0.length : Int) then
 if (0 : Int) ≤ x872 ∧ x872 < (a0.length : Int) then
 jn (
 if bat a0 x872 = 32 then
 some (.inl true)
 else
 some (.inl (decide (bat a0 x872 = 9)))) (fun (x1297 : Bool) =>
 if x1297 = true then
 nx (x867, IntKind.i64.wrap (x872 + 1))
 else
 if bat a0 x872 = 35 then
 if (0 : Int) ≤ x872 ∧ x872 ≤ (a0.length : Int) then
 (Q78.f (a0.drop x872.toNat) 10).bind fun t1305 =>
 jn (
 if t1305 < 0 then
 some (.inl (IntKind.i64.wrap ((a0.length : Int) - x872)))
 else
 some (.inl t1305)) (fun (x1511 : Int) =>
 nx (x867, IntKind.i64.wrap (x872 + x1511)))
 else none
 else
 (Q81.f a0 x872).bind fun t1513 =>
 if t1513.1 = 0 then
 if (x867.length + ([(⟨t1513.2.1, t1513.2.2.1, t1513.2.2.2.1, t1513.2.2.2.2⟩ : Q3)] : List Q3).length) * 40 ≤ 140737488355328 then
 nx ((x867 ++ ([(⟨t1513.2.1, t1513.2.2.1, t1513.2.2.2.1, t1513.2.2.2.2⟩ : Q3)] : List Q3)), IntKind.i64.wrap (x872 + (t1513.2.2.2.1.length : Int)))
 else none
 else
 upL (some ((some (⟨x872, t1513.1⟩ : Q2)), ([] : List Q3))))
 else none
 else
 dn (.inl x867)
noncomputable def Q37.l0 (a0 : Bs) (x867 : List Q3) (x872 : Int) : Option (((List Q3)) ⊕ ((Option Q2) × (List Q3))) := iter (fun t_ : (List Q3) × Int => Q37.l0b a0 t_.1 t_.2) (x867, x872)
noncomputable def Q37.f (a0 : Bs) : Option ((Option Q2) × (List Q3)) :=
 if 262144 < (a0.length : Int) then
 some ((some (⟨262144, 2⟩ : Q2)), ([] : List Q3))
 else
 jn (Q37.l0 a0 ([] : List Q3) 0) (fun (x1073 : List Q3) =>
 if (x1073.length + ([(⟨0, (a0.length : Int), ([] : Bs), 0⟩ : Q3)] : List Q3).length) * 40 ≤ 140737488355328 then
 some (none, (x1073 ++ ([(⟨0, (a0.length : Int), ([] : Bs), 0⟩ : Q3)] : List Q3)))
 else none)
theorem Q37.callee : Callee Tryz.prog 69 := ⟨_, Tryz.func69, by kernel_rfl, by kernel_rfl⟩
theorem Q37.spec (R : Res) (Fr : List HProp)  (a0 : Bs)  {r : (Option Q2) × (List Q3)} (j : Q37.f a0 = some r) :
 Spec Tryz.prog 69 [.string ⟨(a0).toArray⟩] R (Fr) (fun v l' => ∃ (w251 : Option Nat) (w254 : Nat) (w256 : Option Addr) (w257 : Nat), v = .tuple #[.slice w256 w254 w257, opti 111 w251] ∧ row Q3.fl 116 w256 w254 w257 r.2 :: optb (Ow.fl Q2.fl) 58 w251 r.1 :: Fr = l' ∧ r.2.length = w254) := by
 refine Spec.of Tryz.func69 rfl rfl ?_; unfold Q37.f at j; have j := brun j; refine At.seq (At.region (At.run 2 rfl (At.nil (At.thn (At.seq (At.seq (At.region ?_))))))); refine At.run 3 rfl (At.nil (At.thn ?_)); rcases bite j with ⟨h258, j⟩ | ⟨h258, j⟩
 ··refine At.condT rfl (decide_eq_true h258) ?_
   refine At.seq (At.region ?_); refine At.y (Y.build (is := [0, 1]) (xo := [.const (.int .i64 262144), .const (.int .i64 2)]) (vs := [.int .i64 262144, .int .i64 2]) (cs := [.int .i64 262144, .int .i64 2]) rfl rfl rfl rfl rfl rfl) rfl rfl rfl ?_; refine At.box rfl rfl (cs := [.int .i64 262144, .int .i64 2]) rfl rfl (fun b259 => ?_); refine At.run 3 rfl (At.nil (At.thn (At.ret (At.thr ?_)))); refine At.nilRow Q3.fl 116 ?_; refine At.f1 ?_; refine At.optSome (x := (⟨262144, 2⟩ : Q2)) (Ent.fl Q2.fl (x := (⟨262144, 2⟩ : Q2)) rfl) ?_; refine At.f1 ?_; cases bret j; exact At.res (.inl rfl) rfl rfl ⟨(some b259), 0, none, 0, rfl, rfl, rfl⟩
 ··refine At.condF rfl (decide_eq_false h258) ?_
   refine At.skip (At.thn (At.seq (At.region (At.run 1 rfl (At.nil (At.thn (At.seq ?_))))))); refine At.seq (At.region (At.run 1 rfl (At.nil (At.thn ?_)))); refine At.block ?_; obtain ⟨G1078, hl1079, hr1080, j⟩ := bjoin j; obtain ⟨o1081, hlo1082, ho1083⟩ := bsome j; clear j; unfold Q37.l0 at hlo1082; obtain ⟨m1084, hit1086⟩ := Q17.1 hlo1082; clear hlo1082; refine At.nilRow Q3.fl 116 ?_; refine At.loopJ (X := (List Q3) × Int × Nat × (Option Addr) × Nat) (Y := (List Q3) × Nat × (Option Addr) × Nat) (e0 := 0) (fun s_ => [(0, .string ⟨(a0).toArray⟩), (4, .slice s_.2.2.2.1 s_.2.2.1 s_.2.2.2.2), (5, .int .i64 s_.2.1)]) (fun s_ => row Q3.fl 116 s_.2.2.2.1 s_.2.2.1 s_.2.2.2.2 s_.1 :: Fr) (fun m_ => fun s_ => iterN (fun t_ : (List Q3) × Int => Q37.l0b a0 t_.1 t_.2) m_ (s_.1, s_.2.1) = some o1081 ∧ s_.1.length = s_.2.2.1) m1084 (([] : List Q3), 0, 0, none, 0) ⟨hit1086, rfl⟩ (fun s_ => [(0, .string ⟨(a0).toArray⟩), (4, .slice s_.2.2.1 s_.2.1 s_.2.2.2)]) (fun s_ => row Q3.fl 116 s_.2.2.1 s_.2.1 s_.2.2.2 s_.1 :: Fr) (fun s_ => G1078 (.inl s_.1) = some r ∧ s_.1.length = s_.2.1) (fun a w e hs => ⟨e.sub ⟨rfl, rfl, rfl, trivial⟩, (by exact hs)⟩) ?_ (fun J1088 => ?_)
   ·rintro ⟨x1073, w1074, w1076, w1077⟩ ⟨j, hn1075⟩; obtain rfl : x1073.length = w1074 := hn1075; have j := (hl1079 _).symm.trans j
    ·refine At.ibx ?_; refine At.thn (At.seq (At.region (At.run 3 rfl ?_))); refine At.y (Y.build (is := [0, 1]) (xo := [.const (.int .i64 0), .tmp 72]) (vs := [.int .i64 0, .int .i64 (a0.length : Int)]) (cs := [.int .i64 0, .int .i64 (a0.length : Int), .string ⟨(([] : Bs)).toArray⟩, .int .i64 0]) rfl rfl rfl rfl rfl rfl) rfl rfl rfl ?_; refine At.lit rfl (xo := [.tmp 73]) (ys := ([(⟨0, (a0.length : Int), ([] : Bs), 0⟩ : Q3)] : List Q3)) Q3.fl rfl rfl rfl rfl rfl rfl rfl rfl rfl rfl rfl (fun A1089 c1090 => ?_); obtain ⟨h1092, j⟩ := bnone j; refine At.append rfl (.s .z) (Src.own .z (by simp)) rfl rfl rfl rfl rfl rfl rfl rfl h1092 (by decide) rfl (fun A1093 c1094 => ?_); refine At.drop (.s .z) (At.run 2 rfl (At.nil (At.thn (At.ret ?_)))); refine At.optNone (Ow.fl Q2.fl) 58 ?_; refine At.f1 ?_; cases bret j; exact At.res (.inl rfl) rfl rfl ⟨none, (x1073 ++ ([(⟨0, (a0.length : Int), ([] : Bs), 0⟩ : Q3)] : List Q3)).length, A1093, c1094, rfl, rfl, rfl⟩
   ·clear hit1086 m1084; rintro m1084 ⟨x867, x872, w868, w870, w871⟩ ⟨hit1086, hn869⟩; obtain rfl : x867.length = w868 := hn869; obtain ⟨m1085, f_, hlt1087, hf_, j⟩ := bit hit1086; clear hit1086; have j : (Q37.l0b a0 x867 x872).bind _ = some o1081 := j; unfold Q37.l0b at j
    ·refine At.seq (At.seq (At.region (At.run 4 rfl (At.nil (At.thn ?_))))); rcases bite j with ⟨h1095, j⟩ | ⟨h1095, j⟩
     ··refine At.condT rfl (decide_eq_true h1095) ?_
       refine At.skip (At.thn ?_); refine At.block ?_; refine At.seq (At.region (At.run 2 rfl ?_)); obtain ⟨h1096, j⟩ := bnone j; refine At.y (Y.ixStr rfl rfl rfl rfl h1096.1 h1096.2) rfl rfl rfl (At.run 1 rfl (At.nil (At.thn ?_))); refine At.block ?_; refine At.seq (At.region (At.run 3 rfl ?_)); obtain ⟨G1298, hl1299, hr1300, j⟩ := bjoin j; refine At.joinO 3 (X := Bool) (fun x1297 => [(0, .string ⟨(a0).toArray⟩), (4, .slice w870 x867.length w871), (5, .int .i64 x872), (6, .int .u8 (bat a0 x872)), (51, .bool x1297)]) (fun x1297 => row Q3.fl 116 w870 x867.length w871 x867 :: Fr) (fun x1297 => G1298 (.inl x1297) = some o1081) ?_ (fun J1301 => ?_)
       ·rintro x1297 j; have j := (hl1299 _).symm.trans j
        ·refine At.run 1 rfl (At.nil (At.thn ?_)); rcases bite j with ⟨h1302, j⟩ | ⟨h1302, j⟩
         ··refine At.condT rfl h1302 ?_
           refine At.region (At.run 3 rfl (At.nil ?_)); refine At.ibn ?_; refine At.ibn ?_; have j := bnx hf_ j; exact fun a w e hs => ⟨m1085, (x867, IntKind.i64.wrap (x872 + 1), x867.length, w870, w871), hlt1087, ⟨j, rfl⟩, e.sub ⟨rfl, rfl, rfl, trivial⟩, hs⟩
         ··refine At.condF rfl (bn h1302) ?_
           refine At.seq (At.region (At.run 3 rfl (At.nil (At.thn ?_)))); rcases bite j with ⟨h1303, j⟩ | ⟨h1303, j⟩
           ··refine At.condT rfl (decide_eq_true h1303) ?_
             refine At.seq (At.region (At.run 2 rfl ?_)); obtain ⟨h1304, j⟩ := bnone j; refine At.y (Y.slStrL rfl rfl rfl rfl h1304.1 h1304.2) rfl rfl rfl ?_; obtain ⟨t1305, hc1306, j⟩ := bbind j; refine At.call rfl Q78.callee rfl rfl rfl (Q78.spec _ _  (a0.drop x872.toNat) 10  hc1306) ?_; rintro _ _ ⟨rfl, rfl⟩; refine At.run 1 rfl (At.nil (At.thn (At.seq (At.seq (At.region (At.run 2 rfl (At.nil ?_))))))); refine At.thn ?_; obtain ⟨G1307, hl1308, hr1309, j⟩ := bjoin j; refine At.join (X := Int) (fun x1511 => [(0, .string ⟨(a0).toArray⟩), (4, .slice w870 x867.length w871), (5, .int .i64 x872), (7, .int .i64 x1511)]) (fun x1511 => row Q3.fl 116 w870 x867.length w871 x867 :: Fr) (fun x1511 => G1307 (.inl x1511) = some o1081) ?_ (fun J1310 => ?_)
             ·rintro x1511 j; have j := (hl1308 _).symm.trans j
              ·refine At.region (At.run 4 rfl (At.nil ?_)); refine At.ibn ?_; refine At.ibn ?_; have j := bnx hf_ j; exact fun a w e hs => ⟨m1085, (x867, IntKind.i64.wrap (x872 + x1511), x867.length, w870, w871), hlt1087, ⟨j, rfl⟩, e.sub ⟨rfl, rfl, rfl, trivial⟩, hs⟩
             ··rcases bite j with ⟨h1512, j⟩ | ⟨h1512, j⟩
               ··refine At.condT rfl (decide_eq_true h1512) ?_
                 refine At.region (At.run 5 rfl (At.nil (At.thn ?_))); exact fun a w e hs => J1310 (IntKind.i64.wrap ((a0.length : Int) - x872)) j a w (e.sub ⟨rfl, rfl, rfl, rfl, trivial⟩) hs
               ··refine At.condF rfl (decide_eq_false h1512) ?_
                 refine At.skip (At.thn ?_); exact fun a w e hs => J1310 t1305 j a w (e.sub ⟨rfl, rfl, rfl, rfl, trivial⟩) hs
           ··refine At.condF rfl (decide_eq_false h1303) ?_
             refine At.seq (At.region (At.run 2 rfl ?_)); obtain ⟨t1513, hc1514, j⟩ := bbind j; refine At.call rfl Q81.callee rfl rfl rfl (Q81.spec _ _  a0 x872  hc1514) ?_; rintro _ _ ⟨rfl, rfl⟩; refine At.run 3 rfl ?_; refine At.alloc rfl rfl rfl (fun b1515 => ?_); refine At.store rfl rfl rfl rfl .z rfl rfl rfl (.c (.c (.c (.c .n)))) ?_; refine At.run 1 rfl (At.nil (At.thn (At.seq (At.seq (At.region (At.run 2 rfl (At.nil ?_))))))); refine At.thn ?_; rcases bite j with ⟨h1516, j⟩ | ⟨h1516, j⟩
             ··refine At.condF rfl (nf (decide_eq_true h1516)) ?_
               refine At.skip (At.thn (At.seq (At.region (At.run 1 rfl (At.y (Y.load rfl rfl .z rfl rfl rfl) rfl rfl rfl ?_))))); refine At.lit rfl (xo := [.tmp 37]) (ys := ([(⟨t1513.2.1, t1513.2.2.1, t1513.2.2.2.1, t1513.2.2.2.2⟩ : Q3)] : List Q3)) Q3.fl rfl rfl rfl rfl rfl rfl rfl rfl rfl rfl rfl (fun A1517 c1518 => ?_); obtain ⟨h1520, j⟩ := bnone j; refine At.append rfl (.s (.s .z)) (Src.own .z (by simp)) rfl rfl rfl rfl rfl rfl rfl rfl h1520 (by decide) rfl (fun A1521 c1522 => ?_); refine At.drop (.s .z) (At.run 1 rfl (At.nil (At.thn (At.region (At.run 2 rfl (At.y (Y.load rfl rfl (.s .z) rfl rfl rfl) rfl rfl rfl (At.run 3 rfl ?_))))))); refine At.nil ?_; refine At.ibn ?_; refine At.ibn ?_; refine At.drop (.s .z) ?_; have j := bnx hf_ j; exact fun a w e hs => ⟨m1085, ((x867 ++ ([(⟨t1513.2.1, t1513.2.2.1, t1513.2.2.2.1, t1513.2.2.2.2⟩ : Q3)] : List Q3)), IntKind.i64.wrap (x872 + (t1513.2.2.2.1.length : Int)), (x867 ++ ([(⟨t1513.2.1, t1513.2.2.1, t1513.2.2.2.1, t1513.2.2.2.2⟩ : Q3)] : List Q3)).length, A1521, c1522), hlt1087, ⟨j, rfl⟩, e.sub ⟨rfl, rfl, rfl, trivial⟩, hs⟩
             ··refine At.condT rfl (nt (decide_eq_false h1516)) ?_
               refine At.seq (At.region (At.run 2 rfl ?_)); refine At.y (Y.build (is := [0, 1]) (xo := [.tmp 31, .tmp 32]) (vs := [.int .i64 x872, .int .i64 t1513.1]) (cs := [.int .i64 x872, .int .i64 t1513.1]) rfl rfl rfl rfl rfl rfl) rfl rfl rfl ?_; refine At.box rfl rfl (cs := [.int .i64 x872, .int .i64 t1513.1]) rfl rfl (fun b1523 => ?_); refine At.run 3 rfl (At.nil (At.thn (At.ret (At.thr ?_)))); refine At.ibr ?_; refine At.ibr ?_; have j := bupL hr1080 ho1083 j; refine At.thr ?_; refine At.ibr ?_; refine At.thr ?_; refine At.nilRow Q3.fl 116 ?_; refine At.f1 ?_; refine At.optSome (x := (⟨x872, t1513.1⟩ : Q2)) (Ent.fl Q2.fl (x := (⟨x872, t1513.1⟩ : Q2)) rfl) ?_; refine At.drop (.s (.s .z)) (At.drop (.s (.s .z)) (At.f1 ?_)); cases bret j; exact At.res (.inl rfl) rfl rfl ⟨(some b1523), 0, none, 0, rfl, rfl, rfl⟩
       ··rcases bite j with ⟨h1525, j⟩ | ⟨h1525, j⟩
         ··refine At.know (t := 48) rfl (decide_eq_true h1525) ?_
           refine At.run 3 rfl ?_; exact At.of (J1301 true j) ⟨rfl, rfl, rfl, rfl, rfl, trivial⟩
         ··refine At.know (t := 48) rfl (decide_eq_false h1525) ?_
           refine At.run 3 rfl ?_; exact At.of (J1301 (decide (bat a0 x872 = 9)) j) ⟨rfl, rfl, rfl, rfl, rfl, trivial⟩
     ··refine At.condF rfl (decide_eq_false h1095) ?_
       refine At.exit ?_; refine At.the ?_; refine At.the ?_; exact fun a w e hs => J1088 (x867, x867.length, w870, w871) ⟨(bdn j ho1083), rfl⟩ a w (e.sub ⟨rfl, rfl, trivial⟩) hs

noncomputable def Q22.l0b  (x868 : List Q3) : Option (((List Q3)) ⊕ (((List Q3)) ⊕ ((List Q3)))) :=
 if (0 : Int) ≤ 0 ∧ 0 < (x868.length : Int) then
 if (gt x868 0).Kind = 1 then
 if (0 : Int) ≤ 1 ∧ 1 ≤ (x868.length : Int) then
 nx (x868.drop (1 : Int).toNat)
 else none
 else
 dn (.inl x868)
 else none
noncomputable def Q22.l0  (x868 : List Q3) : Option (((List Q3)) ⊕ ((List Q3))) := iter (fun t_ : (List Q3) => Q22.l0b  t_) x868
noncomputable def Q22.f (a0_0 : List Q3) (a0_1 : Option Q2) (a0_2 : Int) (a0_3 : List Bs) (a0_4 : List Q0) (a0_5 : List Q1) (a0_6 : List Q4) (a0_7 : List (Bs × Bool)) : Option (List Q3) :=
 jn (Q22.l0  a0_0) (fun (x1075 : List Q3) =>
 some x1075)
theorem Q22.callee : Callee Tryz.prog 71 := ⟨_, Tryz.func71, by kernel_rfl, by kernel_rfl⟩
theorem Q22.spec (R : Res) (Fr : List HProp) (b0 : Nat) (A0_0 : Option Addr) (n0_0 : Nat) (c0_0 : Nat) (p0_1 : Option Nat) (A0_3 : Option Addr) (n0_3 : Nat) (c0_3 : Nat) (A0_4 : Option Addr) (n0_4 : Nat) (c0_4 : Nat) (A0_5 : Option Addr) (n0_5 : Nat) (c0_5 : Nat) (A0_6 : Option Addr) (n0_6 : Nat) (c0_6 : Nat) (b0_7 : Nat) (a0_0 : List Q3) (a0_1 : Option Q2) (a0_2 : Int) (a0_3 : List Bs) (a0_4 : List Q0) (a0_5 : List Q1) (a0_6 : List Q4) (a0_7 : List (Bs × Bool)) (hr0_0 : RdS Q3.fl.rep R.heap A0_0 a0_0) (hn0_0 : a0_0.length = n0_0) (hc0_0 : n0_0 ≤ c0_0) (hn0_3 : a0_3.length = n0_3) (hn0_4 : a0_4.length = n0_4) (hn0_5 : a0_5.length = n0_5) (hn0_6 : a0_6.length = n0_6) {r : (List Q3)} (j : Q22.f a0_0 a0_1 a0_2 a0_3 a0_4 a0_5 a0_6 a0_7 = some r) :
 Spec Tryz.prog 71 [.pointer (some ⟨b0, 0, none⟩)] R (pt b0 (.cells [.slice A0_0 n0_0 c0_0, optp p0_1, .int .i64 a0_2, .slice A0_3 n0_3 c0_3, .slice A0_4 n0_4 c0_4, .slice A0_5 n0_5 c0_5, .slice A0_6 n0_6 c0_6, .map (some b0_7)].toArray 114) :: optb (Ow.fl Q2.fl) 58 p0_1 a0_1 :: row Fl.bs 9 A0_3 n0_3 c0_3 a0_3 :: row Q0.fl 35 A0_4 n0_4 c0_4 a0_4 :: grow Q1.ow 37 A0_5 n0_5 c0_5 a0_5 :: row Q4.fl 148 A0_6 n0_6 c0_6 a0_6 :: mapo Fl.bs.ov Fl.bool.ov b0_7 a0_7 :: Fr) (fun v l' => ∃ (w251 : Option Addr) (w252 : Nat) (w253 : Nat), v = .tuple #[] ∧ pt b0 (.cells [.slice w251 w252 w253, optp p0_1, .int .i64 a0_2, .slice A0_3 n0_3 c0_3, .slice A0_4 n0_4 c0_4, .slice A0_5 n0_5 c0_5, .slice A0_6 n0_6 c0_6, .map (some b0_7)].toArray 114) :: optb (Ow.fl Q2.fl) 58 p0_1 a0_1 :: row Fl.bs 9 A0_3 n0_3 c0_3 a0_3 :: row Q0.fl 35 A0_4 n0_4 c0_4 a0_4 :: grow Q1.ow 37 A0_5 n0_5 c0_5 a0_5 :: row Q4.fl 148 A0_6 n0_6 c0_6 a0_6 :: mapo Fl.bs.ov Fl.bool.ov b0_7 a0_7 :: Fr = l' ∧ RdS Q3.fl.rep R.heap w251 r ∧ r.length = w252 ∧ w252 ≤ w253) := by
 subst hn0_0; subst hn0_3; subst hn0_4; subst hn0_5; subst hn0_6; refine Spec.of Tryz.func71 rfl rfl ?_; unfold Q22.f at j; have j := brun j; refine At.block ?_; obtain ⟨G1079, hl1080, hr1081, j⟩ := bjoin j; obtain ⟨o1082, hlo1083, ho1084⟩ := bsome j; clear j; unfold Q22.l0 at hlo1083; obtain ⟨m1085, hit1087⟩ := Q17.1 hlo1083; clear hlo1083; refine At.loopJ (X := (List Q3) × (Option Addr) × Nat × Nat) (Y := (List Q3) × (Option Addr) × Nat × Nat) (e0 := 0) (fun s_ => [(0, .pointer (some ⟨b0, 0, none⟩))]) (fun s_ => pt b0 (.cells [.slice s_.2.1 s_.2.2.1 s_.2.2.2, optp p0_1, .int .i64 a0_2, .slice A0_3 a0_3.length c0_3, .slice A0_4 a0_4.length c0_4, .slice A0_5 a0_5.length c0_5, .slice A0_6 a0_6.length c0_6, .map (some b0_7)].toArray 114) :: optb (Ow.fl Q2.fl) 58 p0_1 a0_1 :: row Fl.bs 9 A0_3 a0_3.length c0_3 a0_3 :: row Q0.fl 35 A0_4 a0_4.length c0_4 a0_4 :: grow Q1.ow 37 A0_5 a0_5.length c0_5 a0_5 :: row Q4.fl 148 A0_6 a0_6.length c0_6 a0_6 :: mapo Fl.bs.ov Fl.bool.ov b0_7 a0_7 :: Fr) (fun m_ => fun s_ => iterN (fun t_ : (List Q3) => Q22.l0b  t_) m_ s_.1 = some o1082 ∧ RdS Q3.fl.rep R.heap s_.2.1 s_.1 ∧ s_.1.length = s_.2.2.1 ∧ s_.2.2.1 ≤ s_.2.2.2) m1085 (a0_0, A0_0, a0_0.length, c0_0) ⟨hit1087, hr0_0, rfl, hc0_0⟩ (fun s_ => []) (fun s_ => pt b0 (.cells [.slice s_.2.1 s_.2.2.1 s_.2.2.2, optp p0_1, .int .i64 a0_2, .slice A0_3 a0_3.length c0_3, .slice A0_4 a0_4.length c0_4, .slice A0_5 a0_5.length c0_5, .slice A0_6 a0_6.length c0_6, .map (some b0_7)].toArray 114) :: optb (Ow.fl Q2.fl) 58 p0_1 a0_1 :: row Fl.bs 9 A0_3 a0_3.length c0_3 a0_3 :: row Q0.fl 35 A0_4 a0_4.length c0_4 a0_4 :: grow Q1.ow 37 A0_5 a0_5.length c0_5 a0_5 :: row Q4.fl 148 A0_6 a0_6.length c0_6 a0_6 :: mapo Fl.bs.ov Fl.bool.ov b0_7 a0_7 :: Fr) (fun s_ => G1079 (.inl s_.1) = some r ∧ RdS Q3.fl.rep R.heap s_.2.1 s_.1 ∧ s_.1.length = s_.2.2.1 ∧ s_.2.2.1 ≤ s_.2.2.2) (fun a w e hs => ⟨e.sub ⟨rfl, trivial⟩, (by exact hs)⟩) ?_ (fun J1089 => ?_)
 ·rintro ⟨x1075, w1072, w1073, w1074⟩ ⟨j, hr1076, hn1077, hc1078⟩; obtain rfl : x1075.length = w1073 := hn1077; have j := (hl1080 _).symm.trans j
  ·refine At.ibx ?_; cases bret j; exact At.res (.inr rfl) rfl rfl ⟨w1072, x1075.length, w1074, rfl, rfl, hr1076, rfl, hc1078⟩
 ·clear hit1087 m1085; rintro m1085 ⟨x868, w865, w866, w867⟩ ⟨hit1087, hr869, hn870, hc871⟩; obtain rfl : x868.length = w866 := hn870; obtain ⟨m1086, f_, hlt1088, hf_, j⟩ := bit hit1087; clear hit1087; have j : (Q22.l0b  x868).bind _ = some o1082 := j; unfold Q22.l0b at j
  ·refine At.seq (At.seq (At.region (At.run 3 rfl (At.y (Y.load rfl rfl .z rfl rfl rfl) rfl rfl rfl ?_)))); obtain ⟨h1090, j⟩ := bnone j; refine At.y (Y.ixRd hr869 rfl rfl rfl rfl rfl rfl rfl h1090.1 h1090.2) rfl rfl rfl ?_; refine At.y (Y.fa (RdS.some_ hr869 rfl h1090.1 h1090.2) rfl rfl rfl rfl rfl rfl) rfl rfl rfl ?_; refine At.y (Y.ldFl hr869 rfl (q := 0) rfl rfl h1090.1 h1090.2 rfl rfl rfl) rfl rfl rfl (At.run 1 rfl (At.nil (At.thn ?_))); rcases bite j with ⟨h1091, j⟩ | ⟨h1091, j⟩
   ··refine At.condT rfl (decide_eq_true h1091) ?_
     refine At.skip (At.thn ?_); refine At.block ?_; refine At.region (At.run 4 rfl (At.y (Y.load rfl rfl .z rfl rfl rfl) rfl rfl rfl ?_)); obtain ⟨h1092, j⟩ := bnone j; obtain ⟨A1093, hr1094, hc1095, hy1096⟩ := Y.slFromAt (P := Tryz.prog) (R := R) rfl hr869 hc871 h1092.1 h1092.2; refine At.y (hy1096 rfl rfl rfl rfl rfl rfl) rfl rfl rfl ?_; refine At.run 2 rfl ?_; refine At.store rfl rfl rfl rfl .z rfl rfl rfl (.c .n) ?_; refine At.nil ?_; refine At.ibn ?_; have j := bnx hf_ j; exact fun a w e hs => ⟨m1086, ((x868.drop (1 : Int).toNat), A1093, (x868.drop (1 : Int).toNat).length, (w867 - (1 : Int).toNat)), hlt1088, ⟨j, hr1094, rfl, hc1095⟩, e.sub ⟨rfl, trivial⟩, hs⟩
   ··refine At.condF rfl (decide_eq_false h1091) ?_
     refine At.exit ?_; refine At.the ?_; refine At.the ?_; exact fun a w e hs => J1089 (x868, w865, x868.length, w867) ⟨(bdn j ho1084), hr869, rfl, hc871⟩ a w (e.sub trivial) hs

noncomputable def Q11.f (a0_0 : List Q3) (a0_1 : Option Q2) (a0_2 : Int) (a0_3 : List Bs) (a0_4 : List Q0) (a0_5 : List Q1) (a0_6 : List Q4) (a0_7 : List (Bs × Bool)) (a1_0 : Int) (a1_1 : Int) (a1_2 : Bs) (a1_3 : Int) (a2 : Int) : Option (Option Q2) :=
 if a0_1.isNone = true then
 some (some (⟨a1_1, a2⟩ : Q2))
 else
 some a0_1
theorem Q11.callee : Callee Tryz.prog 75 := ⟨_, Tryz.func75, by kernel_rfl, by kernel_rfl⟩
theorem Q11.spec (R : Res) (Fr : List HProp) (b0 : Nat) (A0_0 : Option Addr) (n0_0 : Nat) (c0_0 : Nat) (p0_1 : Option Nat) (A0_3 : Option Addr) (n0_3 : Nat) (c0_3 : Nat) (A0_4 : Option Addr) (n0_4 : Nat) (c0_4 : Nat) (A0_5 : Option Addr) (n0_5 : Nat) (c0_5 : Nat) (A0_6 : Option Addr) (n0_6 : Nat) (c0_6 : Nat) (b0_7 : Nat) (a0_0 : List Q3) (a0_1 : Option Q2) (a0_2 : Int) (a0_3 : List Bs) (a0_4 : List Q0) (a0_5 : List Q1) (a0_6 : List Q4) (a0_7 : List (Bs × Bool)) (a1_0 : Int) (a1_1 : Int) (a1_2 : Bs) (a1_3 : Int) (a2 : Int) (hr0_0 : RdS Q3.fl.rep R.heap A0_0 a0_0) (hn0_0 : a0_0.length = n0_0) (hc0_0 : n0_0 ≤ c0_0) (hn0_3 : a0_3.length = n0_3) (hn0_4 : a0_4.length = n0_4) (hn0_5 : a0_5.length = n0_5) (hn0_6 : a0_6.length = n0_6) {r : (Option Q2)} (j : Q11.f a0_0 a0_1 a0_2 a0_3 a0_4 a0_5 a0_6 a0_7 a1_0 a1_1 a1_2 a1_3 a2 = some r) :
 Spec Tryz.prog 75 [.pointer (some ⟨b0, 0, none⟩), .agg #[.int .i64 a1_0, .int .i64 a1_1, .string ⟨(a1_2).toArray⟩, .int .i64 a1_3], .int .i64 a2] R (pt b0 (.cells [.slice A0_0 n0_0 c0_0, optp p0_1, .int .i64 a0_2, .slice A0_3 n0_3 c0_3, .slice A0_4 n0_4 c0_4, .slice A0_5 n0_5 c0_5, .slice A0_6 n0_6 c0_6, .map (some b0_7)].toArray 114) :: optb (Ow.fl Q2.fl) 58 p0_1 a0_1 :: row Fl.bs 9 A0_3 n0_3 c0_3 a0_3 :: row Q0.fl 35 A0_4 n0_4 c0_4 a0_4 :: grow Q1.ow 37 A0_5 n0_5 c0_5 a0_5 :: row Q4.fl 148 A0_6 n0_6 c0_6 a0_6 :: mapo Fl.bs.ov Fl.bool.ov b0_7 a0_7 :: Fr) (fun v l' => ∃ (w251 : Option Nat), v = .tuple #[] ∧ optb (Ow.fl Q2.fl) 58 w251 r :: pt b0 (.cells [.slice A0_0 n0_0 c0_0, optp w251, .int .i64 a0_2, .slice A0_3 n0_3 c0_3, .slice A0_4 n0_4 c0_4, .slice A0_5 n0_5 c0_5, .slice A0_6 n0_6 c0_6, .map (some b0_7)].toArray 114) :: row Fl.bs 9 A0_3 n0_3 c0_3 a0_3 :: row Q0.fl 35 A0_4 n0_4 c0_4 a0_4 :: grow Q1.ow 37 A0_5 n0_5 c0_5 a0_5 :: row Q4.fl 148 A0_6 n0_6 c0_6 a0_6 :: mapo Fl.bs.ov Fl.bool.ov b0_7 a0_7 :: Fr = l') := by
 subst hn0_0; subst hn0_3; subst hn0_4; subst hn0_5; subst hn0_6; refine Spec.of Tryz.func75 rfl rfl ?_; unfold Q11.f at j; have j := brun j; refine At.seq (At.region ?_); refine At.box rfl rfl (cs := [.int .i64 a1_0, .int .i64 a1_1, .string ⟨(a1_2).toArray⟩, .int .i64 a1_3]) rfl rfl (fun b254 => ?_); refine At.nil (At.thn (At.seq (At.region (At.run 3 rfl (At.y (Y.load rfl rfl (.s .z) rfl rfl rfl) rfl rfl rfl ?_))))); refine At.y (Y.eqOpt (.s (.s .z)) rfl rfl rfl rfl) rfl rfl rfl ?_; refine At.nil (At.thn ?_); rcases bite j with ⟨h255, j⟩ | ⟨h255, j⟩
 ··refine At.condT rfl h255 ?_
   refine At.region (At.run 2 rfl (At.y (Y.load rfl rfl .z rfl rfl rfl) rfl rfl rfl (At.run 1 rfl ?_))); refine At.y (Y.build (is := [0, 1]) (xo := [.tmp 13, .tmp 14]) (vs := [.int .i64 a1_1, .int .i64 a2]) (cs := [.int .i64 a1_1, .int .i64 a2]) rfl rfl rfl rfl rfl rfl) rfl rfl rfl ?_; refine At.box rfl rfl (cs := [.int .i64 a1_1, .int .i64 a2]) rfl rfl (fun b256 => ?_); refine At.run 2 rfl ?_; refine At.store rfl rfl rfl rfl (.s (.s .z)) rfl rfl rfl (.s (.c .n)) ?_; refine At.nil (At.f1 ?_); refine At.optSome (x := (⟨a1_1, a2⟩ : Q2)) (Ent.fl Q2.fl (x := (⟨a1_1, a2⟩ : Q2)) rfl) ?_; refine At.drop (.s (.s .z)) (At.drop (.s (.s .z)) ?_); cases bret j; exact At.res (.inr rfl) rfl rfl ⟨(some b256), rfl, rfl⟩
 ··refine At.condF rfl (bn h255) ?_
   refine At.skip (At.drop .z (At.f6 (At.f6 (At.f6 (At.f6 (At.f6 (At.f5 ?_))))))); refine At.f6 ?_; cases bret j; exact At.res (.inr rfl) rfl rfl ⟨p0_1, rfl, rfl⟩

noncomputable def Q40.f (a0_0 : List Q3) (a0_1 : Option Q2) (a0_2 : Int) (a0_3 : List Bs) (a0_4 : List Q0) (a0_5 : List Q1) (a0_6 : List Q4) (a0_7 : List (Bs × Bool)) (a1 : Int) : Option ((Option Q2) × (List Q3) × Int × Int × Bs × Int) :=
 if a0_1.isNone = true then
 if (0 : Int) ≤ 0 ∧ 0 < (a0_0.length : Int) then
 jn (
 if (gt a0_0 0).Kind = a1 then
 if (0 : Int) ≤ 1 ∧ 1 ≤ (a0_0.length : Int) then
 up (some (a0_1, (a0_0.drop (1 : Int).toNat), (gt a0_0 0).Kind, (gt a0_0 0).At, (gt a0_0 0).Text, (gt a0_0 0).Number))
 else none
 else
 if (gt a0_0 0).Kind = 0 then
 (Q11.f a0_0 a0_1 a0_2 a0_3 a0_4 a0_5 a0_6 a0_7 ((gt a0_0 0).Kind) ((gt a0_0 0).At) ((gt a0_0 0).Text) ((gt a0_0 0).Number) 6).bind fun t485 =>
 some (.inl t485)
 else
 (Q11.f a0_0 a0_1 a0_2 a0_3 a0_4 a0_5 a0_6 a0_7 ((gt a0_0 0).Kind) ((gt a0_0 0).At) ((gt a0_0 0).Text) ((gt a0_0 0).Number) 7).bind fun t489 =>
 some (.inl t489)) (fun (x477 : Option Q2) =>
 some (x477, a0_0, 0, 0, ([] : Bs), 0))
 else none
 else
 some (a0_1, a0_0, 0, 0, ([] : Bs), 0)
theorem Q40.callee : Callee Tryz.prog 72 := ⟨_, Tryz.func72, by kernel_rfl, by kernel_rfl⟩
theorem Q40.spec (R : Res) (Fr : List HProp) (b0 : Nat) (A0_0 : Option Addr) (n0_0 : Nat) (c0_0 : Nat) (p0_1 : Option Nat) (A0_3 : Option Addr) (n0_3 : Nat) (c0_3 : Nat) (A0_4 : Option Addr) (n0_4 : Nat) (c0_4 : Nat) (A0_5 : Option Addr) (n0_5 : Nat) (c0_5 : Nat) (A0_6 : Option Addr) (n0_6 : Nat) (c0_6 : Nat) (b0_7 : Nat) (a0_0 : List Q3) (a0_1 : Option Q2) (a0_2 : Int) (a0_3 : List Bs) (a0_4 : List Q0) (a0_5 : List Q1) (a0_6 : List Q4) (a0_7 : List (Bs × Bool)) (a1 : Int) (hr0_0 : RdS Q3.fl.rep R.heap A0_0 a0_0) (hn0_0 : a0_0.length = n0_0) (hc0_0 : n0_0 ≤ c0_0) (hn0_3 : a0_3.length = n0_3) (hn0_4 : a0_4.length = n0_4) (hn0_5 : a0_5.length = n0_5) (hn0_6 : a0_6.length = n0_6) {r : (Option Q2) × (List Q3) × Int × Int × Bs × Int} (j : Q40.f a0_0 a0_1 a0_2 a0_3 a0_4 a0_5 a0_6 a0_7 a1 = some r) :
 Spec Tryz.prog 72 [.pointer (some ⟨b0, 0, none⟩), .int .i64 a1] R (pt b0 (.cells [.slice A0_0 n0_0 c0_0, optp p0_1, .int .i64 a0_2, .slice A0_3 n0_3 c0_3, .slice A0_4 n0_4 c0_4, .slice A0_5 n0_5 c0_5, .slice A0_6 n0_6 c0_6, .map (some b0_7)].toArray 114) :: optb (Ow.fl Q2.fl) 58 p0_1 a0_1 :: row Fl.bs 9 A0_3 n0_3 c0_3 a0_3 :: row Q0.fl 35 A0_4 n0_4 c0_4 a0_4 :: grow Q1.ow 37 A0_5 n0_5 c0_5 a0_5 :: row Q4.fl 148 A0_6 n0_6 c0_6 a0_6 :: mapo Fl.bs.ov Fl.bool.ov b0_7 a0_7 :: Fr) (fun v l' => ∃ (w252 : Option Nat) (w258 : Option Addr) (w259 : Nat) (w260 : Nat), v = .agg #[.int .i64 r.2.2.1, .int .i64 r.2.2.2.1, .string ⟨(r.2.2.2.2.1).toArray⟩, .int .i64 r.2.2.2.2.2] ∧ optb (Ow.fl Q2.fl) 58 w252 r.1 :: pt b0 (.cells [.slice w258 w259 w260, optp w252, .int .i64 a0_2, .slice A0_3 n0_3 c0_3, .slice A0_4 n0_4 c0_4, .slice A0_5 n0_5 c0_5, .slice A0_6 n0_6 c0_6, .map (some b0_7)].toArray 114) :: row Fl.bs 9 A0_3 n0_3 c0_3 a0_3 :: row Q0.fl 35 A0_4 n0_4 c0_4 a0_4 :: grow Q1.ow 37 A0_5 n0_5 c0_5 a0_5 :: row Q4.fl 148 A0_6 n0_6 c0_6 a0_6 :: mapo Fl.bs.ov Fl.bool.ov b0_7 a0_7 :: Fr = l' ∧ RdS Q3.fl.rep R.heap w258 r.2.1 ∧ r.2.1.length = w259 ∧ w259 ≤ w260) := by
 subst hn0_0; subst hn0_3; subst hn0_4; subst hn0_5; subst hn0_6; refine Spec.of Tryz.func72 rfl rfl ?_; unfold Q40.f at j; have j := brun j; refine At.seq (At.region ?_); refine At.alloc rfl rfl rfl (fun b269 => ?_); refine At.nil (At.thn (At.seq (At.seq (At.region (At.run 3 rfl (At.y (Y.load rfl rfl (.s .z) rfl rfl rfl) rfl rfl rfl ?_)))))); refine At.y (Y.neOpt (.s (.s .z)) rfl rfl rfl rfl) rfl rfl rfl ?_; refine At.nil (At.thn ?_); rcases bite j with ⟨h270, j⟩ | ⟨h270, j⟩
 ··refine At.condF rfl (nf h270) ?_
   refine At.skip (At.thn (At.seq (At.region (At.run 3 rfl (At.y (Y.load rfl rfl (.s .z) rfl rfl rfl) rfl rfl rfl ?_))))); obtain ⟨h271, j⟩ := bnone j; refine At.y (Y.ixRd hr0_0 rfl rfl rfl rfl rfl rfl rfl h271.1 h271.2) rfl rfl rfl (At.y (Y.ldFl hr0_0 rfl (q := 0) rfl rfl h271.1 h271.2 rfl rfl rfl) rfl rfl rfl ?_); refine At.store rfl rfl rfl rfl .z rfl rfl rfl (.c (.c (.c (.c .n)))) ?_; refine At.nil (At.thn (At.seq ?_)); obtain ⟨G272, hl273, hr274, j⟩ := bjoin j; refine At.join (X := (Option Q2) × (Option Nat)) (fun s_ => [(4, .pointer (some ⟨b269, 0, none⟩))]) (fun s_ => optb (Ow.fl Q2.fl) 58 s_.2 s_.1 :: pt b0 (.cells [.slice A0_0 a0_0.length c0_0, optp s_.2, .int .i64 a0_2, .slice A0_3 a0_3.length c0_3, .slice A0_4 a0_4.length c0_4, .slice A0_5 a0_5.length c0_5, .slice A0_6 a0_6.length c0_6, .map (some b0_7)].toArray 114) :: row Fl.bs 9 A0_3 a0_3.length c0_3 a0_3 :: row Q0.fl 35 A0_4 a0_4.length c0_4 a0_4 :: grow Q1.ow 37 A0_5 a0_5.length c0_5 a0_5 :: row Q4.fl 148 A0_6 a0_6.length c0_6 a0_6 :: mapo Fl.bs.ov Fl.bool.ov b0_7 a0_7 :: pt b269 (.cells [.int .i64 ((gt a0_0 0).Kind), .int .i64 ((gt a0_0 0).At), .string ⟨((gt a0_0 0).Text).toArray⟩, .int .i64 ((gt a0_0 0).Number)].toArray 116) :: Fr) (fun s_ => G272 (.inl s_.1) = some r) ?_ (fun J275 => ?_)
   ·rintro ⟨x477, w476⟩ j; have j := (hl273 _).symm.trans j
    ·refine At.seq (At.region ?_); refine At.y (Y.build (is := []) (xo := []) (vs := []) (cs := [.int .i64 0, .int .i64 0, .string ⟨(([] : Bs)).toArray⟩, .int .i64 0]) rfl rfl rfl rfl rfl rfl) rfl rfl rfl ?_; refine At.store rfl rfl rfl rfl (.s (.s (.s (.s (.s (.s (.s .z))))))) rfl rfl rfl (.c (.c (.c (.c .n)))) ?_; refine At.nil (At.thn (At.ret ?_)); refine At.resM (.inl rfl) rfl (RV.cell rfl rfl .z rfl rfl rfl RV.nil) ?_; refine At.drop .z ?_; cases bret j; exact fun a w e hs => ⟨_, ⟨w476, A0_0, a0_0.length, c0_0, rfl, rfl, hr0_0, rfl, hc0_0⟩, hs⟩
   ··refine At.block ?_
     refine At.seq (At.region (At.run 1 rfl (At.y (Y.load rfl rfl .z rfl rfl rfl) rfl rfl rfl (At.run 3 rfl (At.nil (At.thn ?_)))))); rcases bite j with ⟨h478, j⟩ | ⟨h478, j⟩
     ··refine At.condT rfl (decide_eq_true h478) ?_
       refine At.seq (At.region (At.run 4 rfl (At.y (Y.load rfl rfl (.s .z) rfl rfl rfl) rfl rfl rfl ?_))); obtain ⟨h479, j⟩ := bnone j; obtain ⟨A480, hr481, hc482, hy483⟩ := Y.slFromAt (P := Tryz.prog) (R := R) rfl hr0_0 hc0_0 h479.1 h479.2; refine At.y (hy483 rfl rfl rfl rfl rfl rfl) rfl rfl rfl ?_; refine At.run 2 rfl ?_; refine At.store rfl rfl rfl rfl (.s .z) rfl rfl rfl (.c .n) ?_; refine At.nil (At.thn (At.seq (At.region (At.y (Y.load rfl rfl (.s .z) rfl rfl rfl) rfl rfl rfl ?_)))); refine At.store rfl rfl rfl rfl (.s .z) rfl rfl rfl (.c (.c (.c (.c .n)))) ?_; refine At.nil (At.thn (At.ret ?_)); refine At.ibr ?_; have j := bup hr274 j; refine At.thr ?_; refine At.resM (.inl rfl) rfl (RV.cell rfl rfl .z rfl rfl rfl RV.nil) ?_; refine At.drop .z (At.f6 (At.f6 (At.f6 (At.f6 (At.f6 (At.f5 (At.f6 ?_))))))); cases bret j; exact fun a w e hs => ⟨_, ⟨p0_1, A480, (a0_0.drop (1 : Int).toNat).length, (c0_0 - (1 : Int).toNat), rfl, rfl, hr481, rfl, hc482⟩, hs⟩
     ··refine At.condF rfl (decide_eq_false h478) ?_
       refine At.seq (At.region (At.run 1 rfl (At.y (Y.load rfl rfl .z rfl rfl rfl) rfl rfl rfl (At.run 2 rfl (At.nil (At.thn ?_)))))); rcases bite j with ⟨h484, j⟩ | ⟨h484, j⟩
       ··refine At.condT rfl (decide_eq_true h484) ?_
         refine At.region (At.run 1 rfl (At.y (Y.load rfl rfl .z rfl rfl rfl) rfl rfl rfl (At.f7 (At.f7 (At.f7 (At.f7 (At.f7 ?_))))))); refine At.f7 (At.f7 ?_); obtain ⟨t485, hc486, j⟩ := bbind j; refine At.call rfl Q11.callee rfl rfl rfl (Q11.spec _ _ b0 A0_0 a0_0.length c0_0 p0_1 A0_3 a0_3.length c0_3 A0_4 a0_4.length c0_4 A0_5 a0_5.length c0_5 A0_6 a0_6.length c0_6 b0_7 a0_0 a0_1 a0_2 a0_3 a0_4 a0_5 a0_6 a0_7 ((gt a0_0 0).Kind) ((gt a0_0 0).At) ((gt a0_0 0).Text) ((gt a0_0 0).Number) 6 hr0_0 rfl hc0_0 rfl rfl rfl rfl hc486) ?_; rintro _ _ ⟨w487, rfl, rfl⟩; refine At.nil ?_; refine At.ibn ?_; refine At.thn ?_; exact fun a w e hs => J275 (t485, w487) j a w (e.sub ⟨rfl, trivial⟩) hs
       ··refine At.condF rfl (decide_eq_false h484) ?_
         refine At.region (At.run 1 rfl (At.y (Y.load rfl rfl .z rfl rfl rfl) rfl rfl rfl (At.f7 (At.f7 (At.f7 (At.f7 (At.f7 ?_))))))); refine At.f7 (At.f7 ?_); obtain ⟨t489, hc490, j⟩ := bbind j; refine At.call rfl Q11.callee rfl rfl rfl (Q11.spec _ _ b0 A0_0 a0_0.length c0_0 p0_1 A0_3 a0_3.length c0_3 A0_4 a0_4.length c0_4 A0_5 a0_5.length c0_5 A0_6 a0_6.length c0_6 b0_7 a0_0 a0_1 a0_2 a0_3 a0_4 a0_5 a0_6 a0_7 ((gt a0_0 0).Kind) ((gt a0_0 0).At) ((gt a0_0 0).Text) ((gt a0_0 0).Number) 7 hr0_0 rfl hc0_0 rfl rfl rfl rfl hc490) ?_; rintro _ _ ⟨w491, rfl, rfl⟩; refine At.nil ?_; refine At.ibn ?_; refine At.thn ?_; exact fun a w e hs => J275 (t489, w491) j a w (e.sub ⟨rfl, trivial⟩) hs
 ··refine At.condT rfl (nt (bn h270)) ?_
   refine At.seq (At.region (At.y (Y.load rfl rfl .z rfl rfl rfl) rfl rfl rfl ?_)); refine At.store rfl rfl rfl rfl .z rfl rfl rfl (.c (.c (.c (.c .n)))) ?_; refine At.nil (At.thn (At.ret (At.thr ?_))); refine At.resM (.inl rfl) rfl (RV.cell rfl rfl .z rfl rfl rfl RV.nil) ?_; refine At.drop .z (At.f6 (At.f6 (At.f6 (At.f6 (At.f6 (At.f5 (At.f6 ?_))))))); cases bret j; exact fun a w e hs => ⟨_, ⟨p0_1, A0_0, a0_0.length, c0_0, rfl, rfl, hr0_0, rfl, hc0_0⟩, hs⟩

noncomputable def Q60.f (a0_0 : List Q3) (a0_1 : Option Q2) (a0_2 : Int) (a0_3 : List Bs) (a0_4 : List Q0) (a0_5 : List Q1) (a0_6 : List Q4) (a0_7 : List (Bs × Bool)) : Option Bool :=
 if (0 : Int) ≤ 0 ∧ 0 < (a0_0.length : Int) then
 jn (
 if (gt a0_0 0).Kind = 0 then
 some (.inl true)
 else
 some (.inl (decide ((gt a0_0 0).Kind = 1)))) (fun (x453 : Bool) =>
 some x453)
 else none
theorem Q60.callee : Callee Tryz.prog 102 := ⟨_, Tryz.func102, by kernel_rfl, by kernel_rfl⟩
theorem Q60.spec (R : Res) (Fr : List HProp) (b0 : Nat) (A0_0 : Option Addr) (n0_0 : Nat) (c0_0 : Nat) (p0_1 : Option Nat) (A0_3 : Option Addr) (n0_3 : Nat) (c0_3 : Nat) (A0_4 : Option Addr) (n0_4 : Nat) (c0_4 : Nat) (A0_5 : Option Addr) (n0_5 : Nat) (c0_5 : Nat) (A0_6 : Option Addr) (n0_6 : Nat) (c0_6 : Nat) (b0_7 : Nat) (a0_0 : List Q3) (a0_1 : Option Q2) (a0_2 : Int) (a0_3 : List Bs) (a0_4 : List Q0) (a0_5 : List Q1) (a0_6 : List Q4) (a0_7 : List (Bs × Bool)) (hr0_0 : RdS Q3.fl.rep R.heap A0_0 a0_0) (hn0_0 : a0_0.length = n0_0) (hc0_0 : n0_0 ≤ c0_0) (hn0_3 : a0_3.length = n0_3) (hn0_4 : a0_4.length = n0_4) (hn0_5 : a0_5.length = n0_5) (hn0_6 : a0_6.length = n0_6) {r : Bool} (j : Q60.f a0_0 a0_1 a0_2 a0_3 a0_4 a0_5 a0_6 a0_7 = some r) :
 Spec Tryz.prog 102 [.pointer (some ⟨b0, 0, none⟩)] R (pt b0 (.cells [.slice A0_0 n0_0 c0_0, optp p0_1, .int .i64 a0_2, .slice A0_3 n0_3 c0_3, .slice A0_4 n0_4 c0_4, .slice A0_5 n0_5 c0_5, .slice A0_6 n0_6 c0_6, .map (some b0_7)].toArray 114) :: optb (Ow.fl Q2.fl) 58 p0_1 a0_1 :: row Fl.bs 9 A0_3 n0_3 c0_3 a0_3 :: row Q0.fl 35 A0_4 n0_4 c0_4 a0_4 :: grow Q1.ow 37 A0_5 n0_5 c0_5 a0_5 :: row Q4.fl 148 A0_6 n0_6 c0_6 a0_6 :: mapo Fl.bs.ov Fl.bool.ov b0_7 a0_7 :: Fr) (fun v l' => v = .bool r ∧ pt b0 (.cells [.slice A0_0 n0_0 c0_0, optp p0_1, .int .i64 a0_2, .slice A0_3 n0_3 c0_3, .slice A0_4 n0_4 c0_4, .slice A0_5 n0_5 c0_5, .slice A0_6 n0_6 c0_6, .map (some b0_7)].toArray 114) :: optb (Ow.fl Q2.fl) 58 p0_1 a0_1 :: row Fl.bs 9 A0_3 n0_3 c0_3 a0_3 :: row Q0.fl 35 A0_4 n0_4 c0_4 a0_4 :: grow Q1.ow 37 A0_5 n0_5 c0_5 a0_5 :: row Q4.fl 148 A0_6 n0_6 c0_6 a0_6 :: mapo Fl.bs.ov Fl.bool.ov b0_7 a0_7 :: Fr = l') := by
 subst hn0_0; subst hn0_3; subst hn0_4; subst hn0_5; subst hn0_6; refine Spec.of Tryz.func102 rfl rfl ?_; unfold Q60.f at j; have j := brun j; refine At.seq (At.region (At.run 1 rfl (At.nil (At.thn (At.seq (At.region (At.run 3 rfl ?_))))))); refine At.y (Y.load rfl rfl .z rfl rfl rfl) rfl rfl rfl ?_; obtain ⟨h252, j⟩ := bnone j; refine At.y (Y.ixRd hr0_0 rfl rfl rfl rfl rfl rfl rfl h252.1 h252.2) rfl rfl rfl ?_; refine At.y (Y.fa (RdS.some_ hr0_0 rfl h252.1 h252.2) rfl rfl rfl rfl rfl rfl) rfl rfl rfl ?_; refine At.y (Y.ldFl hr0_0 rfl (q := 0) rfl rfl h252.1 h252.2 rfl rfl rfl) rfl rfl rfl (At.run 2 rfl ?_); obtain ⟨G454, hl455, hr456, j⟩ := bjoin j; refine At.joinO 9 (X := Bool) (fun x453 => [(20, .bool x453)]) (fun x453 => pt b0 (.cells [.slice A0_0 a0_0.length c0_0, optp p0_1, .int .i64 a0_2, .slice A0_3 a0_3.length c0_3, .slice A0_4 a0_4.length c0_4, .slice A0_5 a0_5.length c0_5, .slice A0_6 a0_6.length c0_6, .map (some b0_7)].toArray 114) :: optb (Ow.fl Q2.fl) 58 p0_1 a0_1 :: row Fl.bs 9 A0_3 a0_3.length c0_3 a0_3 :: row Q0.fl 35 A0_4 a0_4.length c0_4 a0_4 :: grow Q1.ow 37 A0_5 a0_5.length c0_5 a0_5 :: row Q4.fl 148 A0_6 a0_6.length c0_6 a0_6 :: mapo Fl.bs.ov Fl.bool.ov b0_7 a0_7 :: Fr) (fun x453 => G454 (.inl x453) = some r) ?_ (fun J457 => ?_)
 ·rintro x453 j; have j := (hl455 _).symm.trans j
  ·refine At.run 1 rfl (At.nil (At.thn (At.ret ?_))); cases bret j; exact At.res (.inl rfl) rfl rfl ⟨rfl, rfl⟩
 ··rcases bite j with ⟨h458, j⟩ | ⟨h458, j⟩
   ··refine At.know (t := 11) rfl (decide_eq_true h458) ?_
     refine At.run 9 rfl ?_; exact At.of (J457 true j) ⟨rfl, trivial⟩
   ··refine At.know (t := 11) rfl (decide_eq_false h458) ?_
     refine At.run 3 rfl (At.y (Y.load rfl rfl .z rfl rfl rfl) rfl rfl rfl (At.y (Y.ixRd hr0_0 rfl rfl rfl rfl rfl rfl rfl h252.1 h252.2) rfl rfl rfl ?_)); refine At.y (Y.fa (RdS.some_ hr0_0 rfl h252.1 h252.2) rfl rfl rfl rfl rfl rfl) rfl rfl rfl ?_; refine At.y (Y.ldFl hr0_0 rfl (q := 0) rfl rfl h252.1 h252.2 rfl rfl rfl) rfl rfl rfl (At.run 2 rfl ?_); exact At.of (J457 (decide ((gt a0_0 0).Kind = 1)) j) ⟨rfl, trivial⟩

noncomputable def Q58.f (a0_0 : List Q3) (a0_1 : Option Q2) (a0_2 : Int) (a0_3 : List Bs) (a0_4 : List Q0) (a0_5 : List Q1) (a0_6 : List Q4) (a0_7 : List (Bs × Bool)) : Option (Option Q2) :=
 (Q60.f a0_0 a0_1 a0_2 a0_3 a0_4 a0_5 a0_6 a0_7).bind fun t253 =>
 if t253 = true then
 some a0_1
 else
 if (0 : Int) ≤ 0 ∧ 0 < (a0_0.length : Int) then
 (Q11.f a0_0 a0_1 a0_2 a0_3 a0_4 a0_5 a0_6 a0_7 ((gt a0_0 0).Kind) ((gt a0_0 0).At) ((gt a0_0 0).Text) ((gt a0_0 0).Number) 7).bind fun t257 =>
 some t257
 else none
theorem Q58.callee : Callee Tryz.prog 96 := ⟨_, Tryz.func96, by kernel_rfl, by kernel_rfl⟩
theorem Q58.spec (R : Res) (Fr : List HProp) (b0 : Nat) (A0_0 : Option Addr) (n0_0 : Nat) (c0_0 : Nat) (p0_1 : Option Nat) (A0_3 : Option Addr) (n0_3 : Nat) (c0_3 : Nat) (A0_4 : Option Addr) (n0_4 : Nat) (c0_4 : Nat) (A0_5 : Option Addr) (n0_5 : Nat) (c0_5 : Nat) (A0_6 : Option Addr) (n0_6 : Nat) (c0_6 : Nat) (b0_7 : Nat) (a0_0 : List Q3) (a0_1 : Option Q2) (a0_2 : Int) (a0_3 : List Bs) (a0_4 : List Q0) (a0_5 : List Q1) (a0_6 : List Q4) (a0_7 : List (Bs × Bool)) (hr0_0 : RdS Q3.fl.rep R.heap A0_0 a0_0) (hn0_0 : a0_0.length = n0_0) (hc0_0 : n0_0 ≤ c0_0) (hn0_3 : a0_3.length = n0_3) (hn0_4 : a0_4.length = n0_4) (hn0_5 : a0_5.length = n0_5) (hn0_6 : a0_6.length = n0_6) {r : (Option Q2)} (j : Q58.f a0_0 a0_1 a0_2 a0_3 a0_4 a0_5 a0_6 a0_7 = some r) :
 Spec Tryz.prog 96 [.pointer (some ⟨b0, 0, none⟩)] R (pt b0 (.cells [.slice A0_0 n0_0 c0_0, optp p0_1, .int .i64 a0_2, .slice A0_3 n0_3 c0_3, .slice A0_4 n0_4 c0_4, .slice A0_5 n0_5 c0_5, .slice A0_6 n0_6 c0_6, .map (some b0_7)].toArray 114) :: optb (Ow.fl Q2.fl) 58 p0_1 a0_1 :: row Fl.bs 9 A0_3 n0_3 c0_3 a0_3 :: row Q0.fl 35 A0_4 n0_4 c0_4 a0_4 :: grow Q1.ow 37 A0_5 n0_5 c0_5 a0_5 :: row Q4.fl 148 A0_6 n0_6 c0_6 a0_6 :: mapo Fl.bs.ov Fl.bool.ov b0_7 a0_7 :: Fr) (fun v l' => ∃ (w251 : Option Nat), v = .tuple #[] ∧ pt b0 (.cells [.slice A0_0 n0_0 c0_0, optp w251, .int .i64 a0_2, .slice A0_3 n0_3 c0_3, .slice A0_4 n0_4 c0_4, .slice A0_5 n0_5 c0_5, .slice A0_6 n0_6 c0_6, .map (some b0_7)].toArray 114) :: optb (Ow.fl Q2.fl) 58 w251 r :: row Fl.bs 9 A0_3 n0_3 c0_3 a0_3 :: row Q0.fl 35 A0_4 n0_4 c0_4 a0_4 :: grow Q1.ow 37 A0_5 n0_5 c0_5 a0_5 :: row Q4.fl 148 A0_6 n0_6 c0_6 a0_6 :: mapo Fl.bs.ov Fl.bool.ov b0_7 a0_7 :: Fr = l') := by
 subst hn0_0; subst hn0_3; subst hn0_4; subst hn0_5; subst hn0_6; refine Spec.of Tryz.func96 rfl rfl ?_; unfold Q58.f at j; have j := brun j; refine At.seq (At.region (At.run 1 rfl ?_)); obtain ⟨t253, hc254, j⟩ := bbind j; refine At.call rfl Q60.callee rfl rfl rfl (Q60.spec _ _ b0 A0_0 a0_0.length c0_0 p0_1 A0_3 a0_3.length c0_3 A0_4 a0_4.length c0_4 A0_5 a0_5.length c0_5 A0_6 a0_6.length c0_6 b0_7 a0_0 a0_1 a0_2 a0_3 a0_4 a0_5 a0_6 a0_7 hr0_0 rfl hc0_0 rfl rfl rfl rfl hc254) ?_; rintro _ _ ⟨rfl, rfl⟩; refine At.run 1 rfl (At.nil (At.thn ?_)); rcases bite j with ⟨h255, j⟩ | ⟨h255, j⟩
 ··refine At.condF rfl (nf h255) ?_
   refine At.skip ?_; cases bret j; exact At.res (.inr rfl) rfl rfl ⟨p0_1, rfl, rfl⟩
 ··refine At.condT rfl (nt (bn h255)) ?_
   refine At.region (At.run 4 rfl (At.y (Y.load rfl rfl .z rfl rfl rfl) rfl rfl rfl ?_)); obtain ⟨h256, j⟩ := bnone j; refine At.y (Y.ixRd hr0_0 rfl rfl rfl rfl rfl rfl rfl h256.1 h256.2) rfl rfl rfl (At.y (Y.ldFl hr0_0 rfl (q := 0) rfl rfl h256.1 h256.2 rfl rfl rfl) rfl rfl rfl ?_); obtain ⟨t257, hc258, j⟩ := bbind j; refine At.call rfl Q11.callee rfl rfl rfl (Q11.spec _ _ b0 A0_0 a0_0.length c0_0 p0_1 A0_3 a0_3.length c0_3 A0_4 a0_4.length c0_4 A0_5 a0_5.length c0_5 A0_6 a0_6.length c0_6 b0_7 a0_0 a0_1 a0_2 a0_3 a0_4 a0_5 a0_6 a0_7 ((gt a0_0 0).Kind) ((gt a0_0 0).At) ((gt a0_0 0).Text) ((gt a0_0 0).Number) 7 hr0_0 rfl hc0_0 rfl rfl rfl rfl hc258) ?_; rintro _ _ ⟨w259, rfl, rfl⟩; refine At.nil (At.f6 (At.f6 (At.f6 (At.f6 (At.f6 (At.f5 (At.f6 ?_))))))); cases bret j; exact At.res (.inr rfl) rfl rfl ⟨w259, rfl, rfl⟩

noncomputable def Q74.f (a0_0 : List Q3) (a0_1 : Option Q2) (a0_2 : Int) (a0_3 : List Bs) (a0_4 : List Q0) (a0_5 : List Q1) (a0_6 : List Q4) (a0_7 : List (Bs × Bool)) : Option ((Option Q2) × (List Q3) × Int) :=
 (Q22.f a0_0 a0_1 a0_2 a0_3 a0_4 a0_5 a0_6 a0_7).bind fun t271 =>
 (Q40.f t271 a0_1 a0_2 a0_3 a0_4 a0_5 a0_6 a0_7 2).bind fun t279 =>
 jn (
 if t279.1.isNone = true then
 some (.inl (!(bseq t279.2.2.2.2.1 ([115, 116, 97, 116, 101, 115] : Bs))))
 else
 some (.inl false)) (fun (x490 : Bool) =>
 jn (
 if x490 = true then
 (Q11.f t279.2.1 t279.1 a0_2 a0_3 a0_4 a0_5 a0_6 a0_7 t279.2.2.1 t279.2.2.2.1 t279.2.2.2.2.1 t279.2.2.2.2.2 7).bind fun t1339 =>
 some (.inl t1339)
 else
 some (.inl t279.1)) (fun (x700 : Option Q2) =>
 (Q40.f t279.2.1 x700 a0_2 a0_3 a0_4 a0_5 a0_6 a0_7 4).bind fun t701 =>
 jn (
 if t701.1.isNone = true then
 jn (
 if t701.2.2.2.2.2 < 1 then
 some (.inl true)
 else
 some (.inl (decide (24 < t701.2.2.2.2.2)))) (fun (x1332 : Bool) =>
 some (.inl x1332))
 else
 some (.inl false)) (fun (x912 : Bool) =>
 jn (
 if x912 = true then
 (Q11.f t701.2.1 t701.1 t701.2.2.2.2.2 a0_3 a0_4 a0_5 a0_6 a0_7 t701.2.2.1 t701.2.2.2.1 t701.2.2.2.2.1 t701.2.2.2.2.2 8).bind fun t1127 =>
 some (.inl t1127)
 else
 some (.inl t701.1)) (fun (x1122 : Option Q2) =>
 (Q58.f t701.2.1 x1122 t701.2.2.2.2.2 a0_3 a0_4 a0_5 a0_6 a0_7).bind fun t1123 =>
 some (t1123, t701.2.1, t701.2.2.2.2.2)))))
theorem Q74.callee : Callee Tryz.prog 70 := ⟨_, Tryz.func70, by kernel_rfl, by kernel_rfl⟩
theorem Q74.spec (R : Res) (Fr : List HProp) (b0 : Nat) (A0_0 : Option Addr) (n0_0 : Nat) (c0_0 : Nat) (p0_1 : Option Nat) (A0_3 : Option Addr) (n0_3 : Nat) (c0_3 : Nat) (A0_4 : Option Addr) (n0_4 : Nat) (c0_4 : Nat) (A0_5 : Option Addr) (n0_5 : Nat) (c0_5 : Nat) (A0_6 : Option Addr) (n0_6 : Nat) (c0_6 : Nat) (b0_7 : Nat) (a0_0 : List Q3) (a0_1 : Option Q2) (a0_2 : Int) (a0_3 : List Bs) (a0_4 : List Q0) (a0_5 : List Q1) (a0_6 : List Q4) (a0_7 : List (Bs × Bool)) (hr0_0 : RdS Q3.fl.rep R.heap A0_0 a0_0) (hn0_0 : a0_0.length = n0_0) (hc0_0 : n0_0 ≤ c0_0) (hn0_3 : a0_3.length = n0_3) (hn0_4 : a0_4.length = n0_4) (hn0_5 : a0_5.length = n0_5) (hn0_6 : a0_6.length = n0_6) {r : (Option Q2) × (List Q3) × Int} (j : Q74.f a0_0 a0_1 a0_2 a0_3 a0_4 a0_5 a0_6 a0_7 = some r) :
 Spec Tryz.prog 70 [.pointer (some ⟨b0, 0, none⟩)] R (pt b0 (.cells [.slice A0_0 n0_0 c0_0, optp p0_1, .int .i64 a0_2, .slice A0_3 n0_3 c0_3, .slice A0_4 n0_4 c0_4, .slice A0_5 n0_5 c0_5, .slice A0_6 n0_6 c0_6, .map (some b0_7)].toArray 114) :: optb (Ow.fl Q2.fl) 58 p0_1 a0_1 :: row Fl.bs 9 A0_3 n0_3 c0_3 a0_3 :: row Q0.fl 35 A0_4 n0_4 c0_4 a0_4 :: grow Q1.ow 37 A0_5 n0_5 c0_5 a0_5 :: row Q4.fl 148 A0_6 n0_6 c0_6 a0_6 :: mapo Fl.bs.ov Fl.bool.ov b0_7 a0_7 :: Fr) (fun v l' => ∃ (w251 : Option Nat) (w255 : Option Addr) (w256 : Nat) (w257 : Nat), v = .tuple #[] ∧ optb (Ow.fl Q2.fl) 58 w251 r.1 :: pt b0 (.cells [.slice w255 w256 w257, optp w251, .int .i64 r.2.2, .slice A0_3 n0_3 c0_3, .slice A0_4 n0_4 c0_4, .slice A0_5 n0_5 c0_5, .slice A0_6 n0_6 c0_6, .map (some b0_7)].toArray 114) :: row Fl.bs 9 A0_3 n0_3 c0_3 a0_3 :: row Q0.fl 35 A0_4 n0_4 c0_4 a0_4 :: grow Q1.ow 37 A0_5 n0_5 c0_5 a0_5 :: row Q4.fl 148 A0_6 n0_6 c0_6 a0_6 :: mapo Fl.bs.ov Fl.bool.ov b0_7 a0_7 :: Fr = l' ∧ RdS Q3.fl.rep R.heap w255 r.2.1 ∧ r.2.1.length = w256 ∧ w256 ≤ w257) := by
 subst hn0_0; subst hn0_3; subst hn0_4; subst hn0_5; subst hn0_6; refine Spec.of Tryz.func70 rfl rfl ?_; unfold Q74.f at j; have j := brun j; refine At.seq (At.region (At.run 1 rfl ?_)); obtain ⟨t271, hc272, j⟩ := bbind j; refine At.call rfl Q22.callee rfl rfl rfl (Q22.spec _ _ b0 A0_0 a0_0.length c0_0 p0_1 A0_3 a0_3.length c0_3 A0_4 a0_4.length c0_4 A0_5 a0_5.length c0_5 A0_6 a0_6.length c0_6 b0_7 a0_0 a0_1 a0_2 a0_3 a0_4 a0_5 a0_6 a0_7 hr0_0 rfl hc0_0 rfl rfl rfl rfl hc272) ?_; rintro _ _ ⟨w273, w274, w275, rfl, rfl, hr276, rfl, hc278⟩; refine At.nil (At.thn (At.seq (At.seq (At.region (At.run 1 rfl ?_))))); obtain ⟨t279, hc280, j⟩ := bbind j; refine At.call rfl Q40.callee rfl rfl rfl (Q40.spec _ _ b0 w273 t271.length w275 p0_1 A0_3 a0_3.length c0_3 A0_4 a0_4.length c0_4 A0_5 a0_5.length c0_5 A0_6 a0_6.length c0_6 b0_7 t271 a0_1 a0_2 a0_3 a0_4 a0_5 a0_6 a0_7 2 hr276 rfl hc278 rfl rfl rfl rfl hc280) ?_; rintro _ _ ⟨w281, w282, w283, w284, rfl, rfl, hr285, rfl, hc287⟩; refine At.alloc rfl rfl rfl (fun b289 => ?_); refine At.store rfl rfl rfl rfl .z rfl rfl rfl (.c (.c (.c (.c .n)))) ?_; refine At.nil (At.thn (At.seq (At.region (At.run 3 rfl (At.y (Y.load rfl rfl (.s (.s .z)) rfl rfl rfl) rfl rfl rfl ?_))))); refine At.y (Y.eqOpt (.s .z) rfl rfl rfl rfl) rfl rfl rfl ?_; refine At.run 1 rfl ?_; obtain ⟨G491, hl492, hr493, j⟩ := bjoin j; refine At.joinO 4 (X := Bool) (fun x490 => [(0, .pointer (some ⟨b0, 0, none⟩)), (2, .pointer (some ⟨b289, 0, none⟩)), (17, .bool x490)]) (fun x490 => pt b289 (.cells [.int .i64 t279.2.2.1, .int .i64 t279.2.2.2.1, .string ⟨(t279.2.2.2.2.1).toArray⟩, .int .i64 t279.2.2.2.2.2].toArray 116) :: optb (Ow.fl Q2.fl) 58 w281 t279.1 :: pt b0 (.cells [.slice w282 t279.2.1.length w284, optp w281, .int .i64 a0_2, .slice A0_3 a0_3.length c0_3, .slice A0_4 a0_4.length c0_4, .slice A0_5 a0_5.length c0_5, .slice A0_6 a0_6.length c0_6, .map (some b0_7)].toArray 114) :: row Fl.bs 9 A0_3 a0_3.length c0_3 a0_3 :: row Q0.fl 35 A0_4 a0_4.length c0_4 a0_4 :: grow Q1.ow 37 A0_5 a0_5.length c0_5 a0_5 :: row Q4.fl 148 A0_6 a0_6.length c0_6 a0_6 :: mapo Fl.bs.ov Fl.bool.ov b0_7 a0_7 :: Fr) (fun x490 => G491 (.inl x490) = some r) ?_ (fun J494 => ?_)
 ·rintro x490 j; have j := (hl492 _).symm.trans j
  ·refine At.nil (At.thn ?_); obtain ⟨G495, hl496, hr497, j⟩ := bjoin j; refine At.join (X := (Option Q2) × (Option Nat)) (fun s_ => [(0, .pointer (some ⟨b0, 0, none⟩))]) (fun s_ => optb (Ow.fl Q2.fl) 58 s_.2 s_.1 :: pt b0 (.cells [.slice w282 t279.2.1.length w284, optp s_.2, .int .i64 a0_2, .slice A0_3 a0_3.length c0_3, .slice A0_4 a0_4.length c0_4, .slice A0_5 a0_5.length c0_5, .slice A0_6 a0_6.length c0_6, .map (some b0_7)].toArray 114) :: row Fl.bs 9 A0_3 a0_3.length c0_3 a0_3 :: row Q0.fl 35 A0_4 a0_4.length c0_4 a0_4 :: grow Q1.ow 37 A0_5 a0_5.length c0_5 a0_5 :: row Q4.fl 148 A0_6 a0_6.length c0_6 a0_6 :: mapo Fl.bs.ov Fl.bool.ov b0_7 a0_7 :: pt b289 (.cells [.int .i64 t279.2.2.1, .int .i64 t279.2.2.2.1, .string ⟨(t279.2.2.2.2.1).toArray⟩, .int .i64 t279.2.2.2.2.2].toArray 116) :: Fr) (fun s_ => G495 (.inl s_.1) = some r) ?_ (fun J498 => ?_)
   ·rintro ⟨x700, w699⟩ j; have j := (hl496 _).symm.trans j
    ·refine At.seq (At.region (At.run 1 rfl (At.f6 (At.f6 (At.f6 (At.f6 (At.f6 ?_))))))); refine At.f5 (At.f6 ?_); obtain ⟨t701, hc702, j⟩ := bbind j; refine At.call rfl Q40.callee rfl rfl rfl (Q40.spec _ _ b0 w282 t279.2.1.length w284 w699 A0_3 a0_3.length c0_3 A0_4 a0_4.length c0_4 A0_5 a0_5.length c0_5 A0_6 a0_6.length c0_6 b0_7 t279.2.1 x700 a0_2 a0_3 a0_4 a0_5 a0_6 a0_7 4 hr285 rfl hc287 rfl rfl rfl rfl hc702) ?_; rintro _ _ ⟨w703, w704, w705, w706, rfl, rfl, hr707, rfl, hc709⟩; refine At.alloc rfl rfl rfl (fun b711 => ?_); refine At.store rfl rfl rfl rfl .z rfl rfl rfl (.c (.c (.c (.c .n)))) ?_; refine At.nil (At.thn (At.seq (At.region (At.run 2 rfl (At.y (Y.load rfl rfl .z rfl rfl rfl) rfl rfl rfl (At.run 3 rfl ?_)))))); refine At.store rfl rfl rfl rfl (.s (.s .z)) rfl rfl rfl (.s (.s (.c .n))) ?_; refine At.nil (At.thn (At.seq (At.seq (At.region (At.run 3 rfl (At.y (Y.load rfl rfl .z rfl rfl rfl) rfl rfl rfl ?_)))))); refine At.y (Y.eqOpt (.s (.s .z)) rfl rfl rfl rfl) rfl rfl rfl ?_; refine At.run 1 rfl ?_; obtain ⟨G913, hl914, hr915, j⟩ := bjoin j; refine At.joinO 9 (X := Bool) (fun x912 => [(0, .pointer (some ⟨b0, 0, none⟩)), (3, .pointer (some ⟨b711, 0, none⟩)), (43, .bool x912)]) (fun x912 => pt b0 (.cells [.slice w704 t701.2.1.length w706, optp w703, .int .i64 t701.2.2.2.2.2, .slice A0_3 a0_3.length c0_3, .slice A0_4 a0_4.length c0_4, .slice A0_5 a0_5.length c0_5, .slice A0_6 a0_6.length c0_6, .map (some b0_7)].toArray 114) :: pt b711 (.cells [.int .i64 t701.2.2.1, .int .i64 t701.2.2.2.1, .string ⟨(t701.2.2.2.2.1).toArray⟩, .int .i64 t701.2.2.2.2.2].toArray 116) :: optb (Ow.fl Q2.fl) 58 w703 t701.1 :: row Fl.bs 9 A0_3 a0_3.length c0_3 a0_3 :: row Q0.fl 35 A0_4 a0_4.length c0_4 a0_4 :: grow Q1.ow 37 A0_5 a0_5.length c0_5 a0_5 :: row Q4.fl 148 A0_6 a0_6.length c0_6 a0_6 :: mapo Fl.bs.ov Fl.bool.ov b0_7 a0_7 :: pt b289 (.cells [.int .i64 t279.2.2.1, .int .i64 t279.2.2.2.1, .string ⟨(t279.2.2.2.2.1).toArray⟩, .int .i64 t279.2.2.2.2.2].toArray 116) :: Fr) (fun x912 => G913 (.inl x912) = some r) ?_ (fun J916 => ?_)
     ·rintro x912 j; have j := (hl914 _).symm.trans j
      ·refine At.nil (At.thn ?_); obtain ⟨G917, hl918, hr919, j⟩ := bjoin j; refine At.join (X := (Option Q2) × (Option Nat)) (fun s_ => [(0, .pointer (some ⟨b0, 0, none⟩))]) (fun s_ => optb (Ow.fl Q2.fl) 58 s_.2 s_.1 :: pt b0 (.cells [.slice w704 t701.2.1.length w706, optp s_.2, .int .i64 t701.2.2.2.2.2, .slice A0_3 a0_3.length c0_3, .slice A0_4 a0_4.length c0_4, .slice A0_5 a0_5.length c0_5, .slice A0_6 a0_6.length c0_6, .map (some b0_7)].toArray 114) :: row Fl.bs 9 A0_3 a0_3.length c0_3 a0_3 :: row Q0.fl 35 A0_4 a0_4.length c0_4 a0_4 :: grow Q1.ow 37 A0_5 a0_5.length c0_5 a0_5 :: row Q4.fl 148 A0_6 a0_6.length c0_6 a0_6 :: mapo Fl.bs.ov Fl.bool.ov b0_7 a0_7 :: pt b711 (.cells [.int .i64 t701.2.2.1, .int .i64 t701.2.2.2.1, .string ⟨(t701.2.2.2.2.1).toArray⟩, .int .i64 t701.2.2.2.2.2].toArray 116) :: pt b289 (.cells [.int .i64 t279.2.2.1, .int .i64 t279.2.2.2.1, .string ⟨(t279.2.2.2.2.1).toArray⟩, .int .i64 t279.2.2.2.2.2].toArray 116) :: Fr) (fun s_ => G917 (.inl s_.1) = some r) ?_ (fun J920 => ?_)
       ·rintro ⟨x1122, w1121⟩ j; have j := (hl918 _).symm.trans j
        ·refine At.region (At.run 1 rfl (At.f6 (At.f6 (At.f6 (At.f6 (At.f6 (At.f5 ?_))))))); refine At.f6 ?_; obtain ⟨t1123, hc1124, j⟩ := bbind j; refine At.call rfl Q58.callee rfl rfl rfl (Q58.spec _ _ b0 w704 t701.2.1.length w706 w1121 A0_3 a0_3.length c0_3 A0_4 a0_4.length c0_4 A0_5 a0_5.length c0_5 A0_6 a0_6.length c0_6 b0_7 t701.2.1 x1122 t701.2.2.2.2.2 a0_3 a0_4 a0_5 a0_6 a0_7 hr707 rfl hc709 rfl rfl rfl rfl hc1124) ?_; rintro _ _ ⟨w1125, rfl, rfl⟩; refine At.nil (At.drop (.s (.s (.s (.s (.s (.s (.s .z))))))) (At.drop (.s (.s (.s (.s (.s (.s (.s .z))))))) (At.f6 (At.f6 (At.f6 (At.f6 (At.f6 ?_))))))); refine At.f5 (At.f6 ?_); cases bret j; exact At.res (.inr rfl) rfl rfl ⟨w1125, w704, t701.2.1.length, w706, rfl, rfl, hr707, rfl, hc709⟩
       ··rcases bite j with ⟨h1126, j⟩ | ⟨h1126, j⟩
         ··refine At.condT rfl h1126 ?_
           refine At.region (At.run 1 rfl (At.y (Y.load rfl rfl (.s .z) rfl rfl rfl) rfl rfl rfl (At.f7 (At.f7 (At.f7 (At.f7 (At.f7 ?_))))))); refine At.f7 (At.f6 ?_); obtain ⟨t1127, hc1128, j⟩ := bbind j; refine At.call rfl Q11.callee rfl rfl rfl (Q11.spec _ _ b0 w704 t701.2.1.length w706 w703 A0_3 a0_3.length c0_3 A0_4 a0_4.length c0_4 A0_5 a0_5.length c0_5 A0_6 a0_6.length c0_6 b0_7 t701.2.1 t701.1 t701.2.2.2.2.2 a0_3 a0_4 a0_5 a0_6 a0_7 t701.2.2.1 t701.2.2.2.1 t701.2.2.2.2.1 t701.2.2.2.2.2 8 hr707 rfl hc709 rfl rfl rfl rfl hc1128) ?_; rintro _ _ ⟨w1129, rfl, rfl⟩; refine At.nil (At.thn ?_); exact fun a w e hs => J920 (t1127, w1129) j a w (e.sub ⟨rfl, trivial⟩) hs
         ··refine At.condF rfl (bn h1126) ?_
           refine At.skip (At.thn (At.f8 (At.f2 (At.f8 (At.f8 (At.f8 (At.f8 ?_))))))); refine At.f8 (At.f7 (At.f8 ?_)); exact fun a w e hs => J920 (t701.1, w703) j a w (e.sub ⟨rfl, trivial⟩) hs
     ··rcases bite j with ⟨h1131, j⟩ | ⟨h1131, j⟩
       ··refine At.know (t := 34) rfl h1131 ?_
         refine At.run 1 rfl (At.y (Y.load rfl rfl (.s .z) rfl rfl rfl) rfl rfl rfl (At.run 2 rfl ?_)); obtain ⟨G1333, hl1334, hr1335, j⟩ := bjoin j; refine At.joinO 4 (X := Bool) (fun x1332 => [(0, .pointer (some ⟨b0, 0, none⟩)), (3, .pointer (some ⟨b711, 0, none⟩)), (34, .bool true), (42, .bool x1332)]) (fun x1332 => pt b0 (.cells [.slice w704 t701.2.1.length w706, optp w703, .int .i64 t701.2.2.2.2.2, .slice A0_3 a0_3.length c0_3, .slice A0_4 a0_4.length c0_4, .slice A0_5 a0_5.length c0_5, .slice A0_6 a0_6.length c0_6, .map (some b0_7)].toArray 114) :: pt b711 (.cells [.int .i64 t701.2.2.1, .int .i64 t701.2.2.2.1, .string ⟨(t701.2.2.2.2.1).toArray⟩, .int .i64 t701.2.2.2.2.2].toArray 116) :: optb (Ow.fl Q2.fl) 58 w703 t701.1 :: row Fl.bs 9 A0_3 a0_3.length c0_3 a0_3 :: row Q0.fl 35 A0_4 a0_4.length c0_4 a0_4 :: grow Q1.ow 37 A0_5 a0_5.length c0_5 a0_5 :: row Q4.fl 148 A0_6 a0_6.length c0_6 a0_6 :: mapo Fl.bs.ov Fl.bool.ov b0_7 a0_7 :: pt b289 (.cells [.int .i64 t279.2.2.1, .int .i64 t279.2.2.2.1, .string ⟨(t279.2.2.2.2.1).toArray⟩, .int .i64 t279.2.2.2.2.2].toArray 116) :: Fr) (fun x1332 => G1333 (.inl x1332) = some r) ?_ (fun J1336 => ?_)
         ·rintro x1332 j; have j := (hl1334 _).symm.trans j
          ·refine At.run 1 rfl ?_; exact At.of (J916 x1332 j) ⟨rfl, rfl, rfl, trivial⟩
         ··rcases bite j with ⟨h1337, j⟩ | ⟨h1337, j⟩
           ··refine At.know (t := 38) rfl (decide_eq_true h1337) ?_
             refine At.run 4 rfl ?_; exact At.of (J1336 true j) ⟨rfl, rfl, rfl, rfl, trivial⟩
           ··refine At.know (t := 38) rfl (decide_eq_false h1337) ?_
             refine At.run 1 rfl (At.y (Y.load rfl rfl (.s .z) rfl rfl rfl) rfl rfl rfl (At.run 2 rfl ?_)); exact At.of (J1336 (decide (24 < t701.2.2.2.2.2)) j) ⟨rfl, rfl, rfl, rfl, trivial⟩
       ··refine At.know (t := 34) rfl (bn h1131) ?_
         refine At.run 9 rfl ?_; exact At.of (J916 false j) ⟨rfl, rfl, rfl, trivial⟩
   ··rcases bite j with ⟨h1338, j⟩ | ⟨h1338, j⟩
     ··refine At.condT rfl h1338 ?_
       refine At.region (At.run 1 rfl (At.y (Y.load rfl rfl .z rfl rfl rfl) rfl rfl rfl (At.f7 (At.f7 (At.f7 (At.f7 (At.f7 ?_))))))); refine At.f6 (At.f7 ?_); obtain ⟨t1339, hc1340, j⟩ := bbind j; refine At.call rfl Q11.callee rfl rfl rfl (Q11.spec _ _ b0 w282 t279.2.1.length w284 w281 A0_3 a0_3.length c0_3 A0_4 a0_4.length c0_4 A0_5 a0_5.length c0_5 A0_6 a0_6.length c0_6 b0_7 t279.2.1 t279.1 a0_2 a0_3 a0_4 a0_5 a0_6 a0_7 t279.2.2.1 t279.2.2.2.1 t279.2.2.2.2.1 t279.2.2.2.2.2 7 hr285 rfl hc287 rfl rfl rfl rfl hc1340) ?_; rintro _ _ ⟨w1341, rfl, rfl⟩; refine At.nil (At.thn ?_); exact fun a w e hs => J498 (t1339, w1341) j a w (e.sub ⟨rfl, trivial⟩) hs
     ··refine At.condF rfl (bn h1338) ?_
       refine At.skip (At.thn (At.f7 (At.f7 (At.f7 (At.f7 (At.f7 (At.f7 ?_))))))); refine At.f7 ?_; exact fun a w e hs => J498 (t279.1, w281) j a w (e.sub ⟨rfl, trivial⟩) hs
 ··rcases bite j with ⟨h1343, j⟩ | ⟨h1343, j⟩
   ··refine At.know (t := 13) rfl h1343 ?_
     refine At.run 1 rfl (At.y (Y.load rfl rfl .z rfl rfl rfl) rfl rfl rfl (At.run 2 rfl ?_)); exact At.of (J494 (!(bseq t279.2.2.2.2.1 ([115, 116, 97, 116, 101, 115] : Bs))) j) ⟨rfl, rfl, rfl, trivial⟩
   ··refine At.know (t := 13) rfl (bn h1343) ?_
     refine At.run 4 rfl ?_; exact At.of (J494 false j) ⟨rfl, rfl, rfl, trivial⟩

noncomputable def Q50.f (a0_0 : List Q3) (a0_1 : Option Q2) (a0_2 : Int) (a0_3 : List Bs) (a0_4 : List Q0) (a0_5 : List Q1) (a0_6 : List Q4) (a0_7 : List (Bs × Bool)) : Option ((Option Q2) × (List Q3) × Int × Int × Int × Bs × Int) :=
 (Q40.f a0_0 a0_1 a0_2 a0_3 a0_4 a0_5 a0_6 a0_7 4).bind fun t276 =>
 jn (
 if t276.1.isNone = true then
 some (.inl (decide (a0_2 ≤ t276.2.2.2.2.2)))
 else
 some (.inl false)) (fun (x487 : Bool) =>
 jn (
 if x487 = true then
 (Q11.f t276.2.1 t276.1 a0_2 a0_3 a0_4 a0_5 a0_6 a0_7 t276.2.2.1 t276.2.2.2.1 t276.2.2.2.2.1 t276.2.2.2.2.2 8).bind fun t699 =>
 some (.inl t699)
 else
 some (.inl t276.1)) (fun (x697 : Option Q2) =>
 some (x697, t276.2.1, t276.2.2.2.2.2, t276.2.2.1, t276.2.2.2.1, t276.2.2.2.2.1, t276.2.2.2.2.2)))
theorem Q50.callee : Callee Tryz.prog 97 := ⟨_, Tryz.func97, by kernel_rfl, by kernel_rfl⟩
theorem Q50.spec (R : Res) (Fr : List HProp) (b0 : Nat) (A0_0 : Option Addr) (n0_0 : Nat) (c0_0 : Nat) (p0_1 : Option Nat) (A0_3 : Option Addr) (n0_3 : Nat) (c0_3 : Nat) (A0_4 : Option Addr) (n0_4 : Nat) (c0_4 : Nat) (A0_5 : Option Addr) (n0_5 : Nat) (c0_5 : Nat) (A0_6 : Option Addr) (n0_6 : Nat) (c0_6 : Nat) (b0_7 : Nat) (a0_0 : List Q3) (a0_1 : Option Q2) (a0_2 : Int) (a0_3 : List Bs) (a0_4 : List Q0) (a0_5 : List Q1) (a0_6 : List Q4) (a0_7 : List (Bs × Bool)) (hr0_0 : RdS Q3.fl.rep R.heap A0_0 a0_0) (hn0_0 : a0_0.length = n0_0) (hc0_0 : n0_0 ≤ c0_0) (hn0_3 : a0_3.length = n0_3) (hn0_4 : a0_4.length = n0_4) (hn0_5 : a0_5.length = n0_5) (hn0_6 : a0_6.length = n0_6) {r : (Option Q2) × (List Q3) × Int × Int × Int × Bs × Int} (j : Q50.f a0_0 a0_1 a0_2 a0_3 a0_4 a0_5 a0_6 a0_7 = some r) :
 Spec Tryz.prog 97 [.pointer (some ⟨b0, 0, none⟩)] R (pt b0 (.cells [.slice A0_0 n0_0 c0_0, optp p0_1, .int .i64 a0_2, .slice A0_3 n0_3 c0_3, .slice A0_4 n0_4 c0_4, .slice A0_5 n0_5 c0_5, .slice A0_6 n0_6 c0_6, .map (some b0_7)].toArray 114) :: optb (Ow.fl Q2.fl) 58 p0_1 a0_1 :: row Fl.bs 9 A0_3 n0_3 c0_3 a0_3 :: row Q0.fl 35 A0_4 n0_4 c0_4 a0_4 :: grow Q1.ow 37 A0_5 n0_5 c0_5 a0_5 :: row Q4.fl 148 A0_6 n0_6 c0_6 a0_6 :: mapo Fl.bs.ov Fl.bool.ov b0_7 a0_7 :: Fr) (fun v l' => ∃ (w252 : Option Nat) (w259 : Option Addr) (w260 : Nat) (w261 : Nat), v = .tuple #[.agg #[.int .i64 r.2.2.2.1, .int .i64 r.2.2.2.2.1, .string ⟨(r.2.2.2.2.2.1).toArray⟩, .int .i64 r.2.2.2.2.2.2], .int .i64 r.2.2.1] ∧ optb (Ow.fl Q2.fl) 58 w252 r.1 :: pt b0 (.cells [.slice w259 w260 w261, optp w252, .int .i64 a0_2, .slice A0_3 n0_3 c0_3, .slice A0_4 n0_4 c0_4, .slice A0_5 n0_5 c0_5, .slice A0_6 n0_6 c0_6, .map (some b0_7)].toArray 114) :: row Fl.bs 9 A0_3 n0_3 c0_3 a0_3 :: row Q0.fl 35 A0_4 n0_4 c0_4 a0_4 :: grow Q1.ow 37 A0_5 n0_5 c0_5 a0_5 :: row Q4.fl 148 A0_6 n0_6 c0_6 a0_6 :: mapo Fl.bs.ov Fl.bool.ov b0_7 a0_7 :: Fr = l' ∧ RdS Q3.fl.rep R.heap w259 r.2.1 ∧ r.2.1.length = w260 ∧ w260 ≤ w261) := by
 subst hn0_0; subst hn0_3; subst hn0_4; subst hn0_5; subst hn0_6; refine Spec.of Tryz.func97 rfl rfl ?_; unfold Q50.f at j; have j := brun j; refine At.seq (At.region ?_); refine At.alloc rfl rfl rfl (fun b275 => ?_); refine At.run 1 rfl (At.nil (At.thn (At.seq (At.region (At.run 1 rfl (At.f7 (At.f7 ?_))))))); refine At.f7 (At.f7 (At.f7 (At.f7 (At.f7 ?_)))); obtain ⟨t276, hc277, j⟩ := bbind j; refine At.call rfl Q40.callee rfl rfl rfl (Q40.spec _ _ b0 A0_0 a0_0.length c0_0 p0_1 A0_3 a0_3.length c0_3 A0_4 a0_4.length c0_4 A0_5 a0_5.length c0_5 A0_6 a0_6.length c0_6 b0_7 a0_0 a0_1 a0_2 a0_3 a0_4 a0_5 a0_6 a0_7 4 hr0_0 rfl hc0_0 rfl rfl rfl rfl hc277) ?_; rintro _ _ ⟨w278, w279, w280, w281, rfl, rfl, hr282, rfl, hc284⟩; refine At.alloc rfl rfl rfl (fun b286 => ?_); refine At.store rfl rfl rfl rfl .z rfl rfl rfl (.c (.c (.c (.c .n)))) ?_; refine At.nil (At.thn (At.seq (At.seq ?_))); refine At.quiet (by kernel_rfl) ?_; refine At.Quiet.run 3 rfl ?_; refine At.Quiet.y (Y.load rfl rfl (.s (.s .z)) rfl rfl rfl) rfl rfl rfl ?_; refine At.Quiet.y (Y.eqOpt (.s .z) rfl rfl rfl rfl) rfl rfl rfl ?_; refine At.Quiet.run 1 rfl ?_; obtain ⟨G488, hl489, hr490, j⟩ := bjoin j; refine At.Quiet.joinO 9 (X := Bool) (fun x487 => [(0, .pointer (some ⟨b0, 0, none⟩)), (2, .pointer (some ⟨b275, 0, none⟩)), (4, .pointer (some ⟨b286, 0, none⟩)), (21, .bool x487)]) (fun x487 => pt b286 (.cells [.int .i64 t276.2.2.1, .int .i64 t276.2.2.2.1, .string ⟨(t276.2.2.2.2.1).toArray⟩, .int .i64 t276.2.2.2.2.2].toArray 116) :: optb (Ow.fl Q2.fl) 58 w278 t276.1 :: pt b0 (.cells [.slice w279 t276.2.1.length w281, optp w278, .int .i64 a0_2, .slice A0_3 a0_3.length c0_3, .slice A0_4 a0_4.length c0_4, .slice A0_5 a0_5.length c0_5, .slice A0_6 a0_6.length c0_6, .map (some b0_7)].toArray 114) :: row Fl.bs 9 A0_3 a0_3.length c0_3 a0_3 :: row Q0.fl 35 A0_4 a0_4.length c0_4 a0_4 :: grow Q1.ow 37 A0_5 a0_5.length c0_5 a0_5 :: row Q4.fl 148 A0_6 a0_6.length c0_6 a0_6 :: mapo Fl.bs.ov Fl.bool.ov b0_7 a0_7 :: pt b275 (.cells [.int .i64 0, .int .i64 0, .string ⟨(([] : Bs)).toArray⟩, .int .i64 0].toArray 116) :: Fr) (fun x487 => G488 (.inl x487) = some r) ?_ (fun J491 => ?_)
 ·rintro x487 j; have j := (hl489 _).symm.trans j
  ·refine At.Quiet.nil (At.thn ?_); obtain ⟨G492, hl493, hr494, j⟩ := bjoin j; refine At.join (X := (Option Q2) × (Option Nat)) (fun s_ => [(2, .pointer (some ⟨b275, 0, none⟩)), (4, .pointer (some ⟨b286, 0, none⟩))]) (fun s_ => optb (Ow.fl Q2.fl) 58 s_.2 s_.1 :: pt b0 (.cells [.slice w279 t276.2.1.length w281, optp s_.2, .int .i64 a0_2, .slice A0_3 a0_3.length c0_3, .slice A0_4 a0_4.length c0_4, .slice A0_5 a0_5.length c0_5, .slice A0_6 a0_6.length c0_6, .map (some b0_7)].toArray 114) :: row Fl.bs 9 A0_3 a0_3.length c0_3 a0_3 :: row Q0.fl 35 A0_4 a0_4.length c0_4 a0_4 :: grow Q1.ow 37 A0_5 a0_5.length c0_5 a0_5 :: row Q4.fl 148 A0_6 a0_6.length c0_6 a0_6 :: mapo Fl.bs.ov Fl.bool.ov b0_7 a0_7 :: pt b286 (.cells [.int .i64 t276.2.2.1, .int .i64 t276.2.2.2.1, .string ⟨(t276.2.2.2.2.1).toArray⟩, .int .i64 t276.2.2.2.2.2].toArray 116) :: pt b275 (.cells [.int .i64 0, .int .i64 0, .string ⟨(([] : Bs)).toArray⟩, .int .i64 0].toArray 116) :: Fr) (fun s_ => G492 (.inl s_.1) = some r) ?_ (fun J495 => ?_)
   ·rintro ⟨x697, w696⟩ j; have j := (hl493 _).symm.trans j
    ·refine At.seq ?_; refine At.held [optb (Ow.fl Q2.fl) 58 w696 x697, pt b0 (.cells [.slice w279 t276.2.1.length w281, optp w696, .int .i64 a0_2, .slice A0_3 a0_3.length c0_3, .slice A0_4 a0_4.length c0_4, .slice A0_5 a0_5.length c0_5, .slice A0_6 a0_6.length c0_6, .map (some b0_7)].toArray 114), row Fl.bs 9 A0_3 a0_3.length c0_3 a0_3, row Q0.fl 35 A0_4 a0_4.length c0_4 a0_4, grow Q1.ow 37 A0_5 a0_5.length c0_5 a0_5, row Q4.fl 148 A0_6 a0_6.length c0_6 a0_6, mapo Fl.bs.ov Fl.bool.ov b0_7 a0_7, pt b286 (.cells [.int .i64 t276.2.2.1, .int .i64 t276.2.2.2.1, .string ⟨(t276.2.2.2.2.1).toArray⟩, .int .i64 t276.2.2.2.2.2].toArray 116)] 5 rfl ?_; refine At.H.tw 0 rfl (Y.load rfl rfl (.s (.s (.s (.s (.s (.s (.s .z))))))) rfl rfl rfl) rfl rfl rfl (.c .z (.c .z (.c .z (.c .z (.c .z (.c .z (.c .z (.c .z .n)))))))) ?_; refine At.H.pw 1 rfl rfl rfl rfl rfl (.c .z (.c .z (.c .z (.c .z (.c .z (.c .z (.c .z (.c .z .n)))))))) ?_; refine At.H.tw 2 rfl (Y.load rfl rfl (.s (.s (.s (.s (.s (.s (.s .z))))))) rfl rfl rfl) rfl rfl rfl (.c .z (.c .z (.c .z (.c .z (.c .z (.c .z (.c .z (.c .z .n)))))))) ?_; refine At.H.al [3] (Q12 ?_ Q14)
     ··refine At.HO.op rfl ?_
       refine At.store rfl rfl rfl rfl (.s (.s (.s (.s (.s (.s (.s (.s .z)))))))) rfl rfl rfl (.c (.c (.c (.c .n)))) ?_; refine At.HO.back (.c (.s .z) (.c (.s .z) (.c (.s .z) (.c (.s .z) (.c (.s .z) (.c (.s .z) (.c (.s .z) (.c (.s .z) .n)))))))) ?_; refine At.H.pw 4 rfl rfl rfl rfl rfl (.c (.s .z) (.c (.s .z) (.c (.s .z) (.c (.s .z) (.c (.s .z) (.c (.s .z) (.c (.s .z) (.c (.s .z) .n)))))))) ?_; refine At.H.done (by kernel_rfl) ?_; refine At.thn (At.ret ?_); refine At.resM (.inl rfl) rfl (RV.cell rfl rfl .z rfl rfl rfl (RV.tmp rfl RV.nil)) ?_; refine At.drop .z (At.drop (.s (.s (.s (.s (.s (.s (.s .z))))))) ?_); cases bret j; exact fun a w e hs => ⟨_, ⟨w696, w279, t276.2.1.length, w281, rfl, rfl, hr282, rfl, hc284⟩, hs⟩
   ··rcases bite j with ⟨h698, j⟩ | ⟨h698, j⟩
     ··refine At.condT rfl h698 ?_
       refine At.region (At.run 1 rfl (At.y (Y.load rfl rfl .z rfl rfl rfl) rfl rfl rfl (At.f7 (At.f7 (At.f7 (At.f7 (At.f7 ?_))))))); refine At.f6 (At.f7 ?_); obtain ⟨t699, hc700, j⟩ := bbind j; refine At.call rfl Q11.callee rfl rfl rfl (Q11.spec _ _ b0 w279 t276.2.1.length w281 w278 A0_3 a0_3.length c0_3 A0_4 a0_4.length c0_4 A0_5 a0_5.length c0_5 A0_6 a0_6.length c0_6 b0_7 t276.2.1 t276.1 a0_2 a0_3 a0_4 a0_5 a0_6 a0_7 t276.2.2.1 t276.2.2.2.1 t276.2.2.2.2.1 t276.2.2.2.2.2 8 hr282 rfl hc284 rfl rfl rfl rfl hc700) ?_; rintro _ _ ⟨w701, rfl, rfl⟩; refine At.nil (At.thn ?_); exact fun a w e hs => J495 (t699, w701) j a w (e.sub ⟨rfl, rfl, trivial⟩) hs
     ··refine At.condF rfl (bn h698) ?_
       refine At.skip (At.thn (At.f8 (At.f1 (At.f8 (At.f8 (At.f8 (At.f8 ?_))))))); refine At.f8 (At.f8 (At.f8 ?_)); exact fun a w e hs => J495 (t276.1, w278) j a w (e.sub ⟨rfl, rfl, trivial⟩) hs
 ··rcases bite j with ⟨h703, j⟩ | ⟨h703, j⟩
   ··refine At.Quiet.know (t := 12) rfl h703 ?_
     refine At.Quiet.run 1 rfl ?_; refine At.Quiet.y (Y.load rfl rfl .z rfl rfl rfl) rfl rfl rfl ?_; refine At.Quiet.run 4 rfl ?_; refine At.Quiet.y (Y.load rfl rfl (.s (.s .z)) rfl rfl rfl) rfl rfl rfl ?_; refine At.Quiet.run 2 rfl ?_; exact At.Quiet.of (J491 (decide (a0_2 ≤ t276.2.2.2.2.2)) j) ⟨rfl, rfl, rfl, rfl, trivial⟩
   ··refine At.Quiet.know (t := 12) rfl (bn h703) ?_
     refine At.Quiet.run 9 rfl ?_; exact At.Quiet.of (J491 false j) ⟨rfl, rfl, rfl, rfl, trivial⟩

noncomputable def Q62.f (a0_0 : List Q3) (a0_1 : Option Q2) (a0_2 : Int) (a0_3 : List Bs) (a0_4 : List Q0) (a0_5 : List Q1) (a0_6 : List Q4) (a0_7 : List (Bs × Bool)) : Option ((Option Q2) × (List Q3) × Int × Int × Bs × Int) :=
 (Q40.f a0_0 a0_1 a0_2 a0_3 a0_4 a0_5 a0_6 a0_7 2).bind fun t275 =>
 jn (
 if t275.1.isNone = true then
 (Q44.f t275.2.2.2.2.1).bind fun t703 =>
 some (.inl (!t703))
 else
 some (.inl false)) (fun (x486 : Bool) =>
 jn (
 if x486 = true then
 (Q11.f t275.2.1 t275.1 a0_2 a0_3 a0_4 a0_5 a0_6 a0_7 t275.2.2.1 t275.2.2.2.1 t275.2.2.2.2.1 t275.2.2.2.2.2 7).bind fun t698 =>
 some (.inl t698)
 else
 some (.inl t275.1)) (fun (x696 : Option Q2) =>
 some (x696, t275.2.1, t275.2.2.1, t275.2.2.2.1, t275.2.2.2.2.1, t275.2.2.2.2.2)))
theorem Q62.callee : Callee Tryz.prog 98 := ⟨_, Tryz.func98, by kernel_rfl, by kernel_rfl⟩
theorem Q62.spec (R : Res) (Fr : List HProp) (b0 : Nat) (A0_0 : Option Addr) (n0_0 : Nat) (c0_0 : Nat) (p0_1 : Option Nat) (A0_3 : Option Addr) (n0_3 : Nat) (c0_3 : Nat) (A0_4 : Option Addr) (n0_4 : Nat) (c0_4 : Nat) (A0_5 : Option Addr) (n0_5 : Nat) (c0_5 : Nat) (A0_6 : Option Addr) (n0_6 : Nat) (c0_6 : Nat) (b0_7 : Nat) (a0_0 : List Q3) (a0_1 : Option Q2) (a0_2 : Int) (a0_3 : List Bs) (a0_4 : List Q0) (a0_5 : List Q1) (a0_6 : List Q4) (a0_7 : List (Bs × Bool)) (hr0_0 : RdS Q3.fl.rep R.heap A0_0 a0_0) (hn0_0 : a0_0.length = n0_0) (hc0_0 : n0_0 ≤ c0_0) (hn0_3 : a0_3.length = n0_3) (hn0_4 : a0_4.length = n0_4) (hn0_5 : a0_5.length = n0_5) (hn0_6 : a0_6.length = n0_6) {r : (Option Q2) × (List Q3) × Int × Int × Bs × Int} (j : Q62.f a0_0 a0_1 a0_2 a0_3 a0_4 a0_5 a0_6 a0_7 = some r) :
 Spec Tryz.prog 98 [.pointer (some ⟨b0, 0, none⟩)] R (pt b0 (.cells [.slice A0_0 n0_0 c0_0, optp p0_1, .int .i64 a0_2, .slice A0_3 n0_3 c0_3, .slice A0_4 n0_4 c0_4, .slice A0_5 n0_5 c0_5, .slice A0_6 n0_6 c0_6, .map (some b0_7)].toArray 114) :: optb (Ow.fl Q2.fl) 58 p0_1 a0_1 :: row Fl.bs 9 A0_3 n0_3 c0_3 a0_3 :: row Q0.fl 35 A0_4 n0_4 c0_4 a0_4 :: grow Q1.ow 37 A0_5 n0_5 c0_5 a0_5 :: row Q4.fl 148 A0_6 n0_6 c0_6 a0_6 :: mapo Fl.bs.ov Fl.bool.ov b0_7 a0_7 :: Fr) (fun v l' => ∃ (w252 : Option Nat) (w259 : Option Addr) (w260 : Nat) (w261 : Nat), v = .agg #[.int .i64 r.2.2.1, .int .i64 r.2.2.2.1, .string ⟨(r.2.2.2.2.1).toArray⟩, .int .i64 r.2.2.2.2.2] ∧ optb (Ow.fl Q2.fl) 58 w252 r.1 :: pt b0 (.cells [.slice w259 w260 w261, optp w252, .int .i64 a0_2, .slice A0_3 n0_3 c0_3, .slice A0_4 n0_4 c0_4, .slice A0_5 n0_5 c0_5, .slice A0_6 n0_6 c0_6, .map (some b0_7)].toArray 114) :: row Fl.bs 9 A0_3 n0_3 c0_3 a0_3 :: row Q0.fl 35 A0_4 n0_4 c0_4 a0_4 :: grow Q1.ow 37 A0_5 n0_5 c0_5 a0_5 :: row Q4.fl 148 A0_6 n0_6 c0_6 a0_6 :: mapo Fl.bs.ov Fl.bool.ov b0_7 a0_7 :: Fr = l' ∧ RdS Q3.fl.rep R.heap w259 r.2.1 ∧ r.2.1.length = w260 ∧ w260 ≤ w261) := by
 subst hn0_0; subst hn0_3; subst hn0_4; subst hn0_5; subst hn0_6; refine Spec.of Tryz.func98 rfl rfl ?_; unfold Q62.f at j; have j := brun j; refine At.seq (At.region ?_); refine At.alloc rfl rfl rfl (fun b274 => ?_); refine At.nil (At.thn (At.seq (At.region (At.run 1 rfl (At.f7 (At.f7 (At.f7 ?_))))))); refine At.f7 (At.f7 (At.f7 (At.f7 ?_))); obtain ⟨t275, hc276, j⟩ := bbind j; refine At.call rfl Q40.callee rfl rfl rfl (Q40.spec _ _ b0 A0_0 a0_0.length c0_0 p0_1 A0_3 a0_3.length c0_3 A0_4 a0_4.length c0_4 A0_5 a0_5.length c0_5 A0_6 a0_6.length c0_6 b0_7 a0_0 a0_1 a0_2 a0_3 a0_4 a0_5 a0_6 a0_7 2 hr0_0 rfl hc0_0 rfl rfl rfl rfl hc276) ?_; rintro _ _ ⟨w277, w278, w279, w280, rfl, rfl, hr281, rfl, hc283⟩; refine At.alloc rfl rfl rfl (fun b285 => ?_); refine At.store rfl rfl rfl rfl .z rfl rfl rfl (.c (.c (.c (.c .n)))) ?_; refine At.nil (At.thn (At.seq (At.seq (At.region (At.run 3 rfl (At.y (Y.load rfl rfl (.s (.s .z)) rfl rfl rfl) rfl rfl rfl ?_)))))); refine At.y (Y.eqOpt (.s .z) rfl rfl rfl rfl) rfl rfl rfl ?_; refine At.run 1 rfl ?_; obtain ⟨G487, hl488, hr489, j⟩ := bjoin j; refine At.joinO 5 (X := Bool) (fun x486 => [(0, .pointer (some ⟨b0, 0, none⟩)), (2, .pointer (some ⟨b274, 0, none⟩)), (3, .pointer (some ⟨b285, 0, none⟩)), (16, .bool x486)]) (fun x486 => pt b285 (.cells [.int .i64 t275.2.2.1, .int .i64 t275.2.2.2.1, .string ⟨(t275.2.2.2.2.1).toArray⟩, .int .i64 t275.2.2.2.2.2].toArray 116) :: optb (Ow.fl Q2.fl) 58 w277 t275.1 :: pt b0 (.cells [.slice w278 t275.2.1.length w280, optp w277, .int .i64 a0_2, .slice A0_3 a0_3.length c0_3, .slice A0_4 a0_4.length c0_4, .slice A0_5 a0_5.length c0_5, .slice A0_6 a0_6.length c0_6, .map (some b0_7)].toArray 114) :: row Fl.bs 9 A0_3 a0_3.length c0_3 a0_3 :: row Q0.fl 35 A0_4 a0_4.length c0_4 a0_4 :: grow Q1.ow 37 A0_5 a0_5.length c0_5 a0_5 :: row Q4.fl 148 A0_6 a0_6.length c0_6 a0_6 :: mapo Fl.bs.ov Fl.bool.ov b0_7 a0_7 :: pt b274 (.cells [.int .i64 0, .int .i64 0, .string ⟨(([] : Bs)).toArray⟩, .int .i64 0].toArray 116) :: Fr) (fun x486 => G487 (.inl x486) = some r) ?_ (fun J490 => ?_)
 ·rintro x486 j; have j := (hl488 _).symm.trans j
  ·refine At.nil (At.thn ?_); obtain ⟨G491, hl492, hr493, j⟩ := bjoin j; refine At.join (X := (Option Q2) × (Option Nat)) (fun s_ => [(2, .pointer (some ⟨b274, 0, none⟩)), (3, .pointer (some ⟨b285, 0, none⟩))]) (fun s_ => optb (Ow.fl Q2.fl) 58 s_.2 s_.1 :: pt b0 (.cells [.slice w278 t275.2.1.length w280, optp s_.2, .int .i64 a0_2, .slice A0_3 a0_3.length c0_3, .slice A0_4 a0_4.length c0_4, .slice A0_5 a0_5.length c0_5, .slice A0_6 a0_6.length c0_6, .map (some b0_7)].toArray 114) :: row Fl.bs 9 A0_3 a0_3.length c0_3 a0_3 :: row Q0.fl 35 A0_4 a0_4.length c0_4 a0_4 :: grow Q1.ow 37 A0_5 a0_5.length c0_5 a0_5 :: row Q4.fl 148 A0_6 a0_6.length c0_6 a0_6 :: mapo Fl.bs.ov Fl.bool.ov b0_7 a0_7 :: pt b285 (.cells [.int .i64 t275.2.2.1, .int .i64 t275.2.2.2.1, .string ⟨(t275.2.2.2.2.1).toArray⟩, .int .i64 t275.2.2.2.2.2].toArray 116) :: pt b274 (.cells [.int .i64 0, .int .i64 0, .string ⟨(([] : Bs)).toArray⟩, .int .i64 0].toArray 116) :: Fr) (fun s_ => G491 (.inl s_.1) = some r) ?_ (fun J494 => ?_)
   ·rintro ⟨x696, w695⟩ j; have j := (hl492 _).symm.trans j
    ·refine At.seq (At.region ?_); refine At.y (Y.load rfl rfl (.s (.s (.s (.s (.s (.s (.s .z))))))) rfl rfl rfl) rfl rfl rfl ?_; refine At.store rfl rfl rfl rfl (.s (.s (.s (.s (.s (.s (.s (.s .z)))))))) rfl rfl rfl (.c (.c (.c (.c .n)))) ?_; refine At.nil (At.thn (At.ret ?_)); refine At.resM (.inl rfl) rfl (RV.cell rfl rfl .z rfl rfl rfl RV.nil) ?_; refine At.drop .z (At.drop (.s (.s (.s (.s (.s (.s (.s .z))))))) ?_); cases bret j; exact fun a w e hs => ⟨_, ⟨w695, w278, t275.2.1.length, w280, rfl, rfl, hr281, rfl, hc283⟩, hs⟩
   ··rcases bite j with ⟨h697, j⟩ | ⟨h697, j⟩
     ··refine At.condT rfl h697 ?_
       refine At.region (At.run 1 rfl (At.y (Y.load rfl rfl .z rfl rfl rfl) rfl rfl rfl (At.f7 (At.f7 (At.f7 (At.f7 (At.f7 ?_))))))); refine At.f6 (At.f7 ?_); obtain ⟨t698, hc699, j⟩ := bbind j; refine At.call rfl Q11.callee rfl rfl rfl (Q11.spec _ _ b0 w278 t275.2.1.length w280 w277 A0_3 a0_3.length c0_3 A0_4 a0_4.length c0_4 A0_5 a0_5.length c0_5 A0_6 a0_6.length c0_6 b0_7 t275.2.1 t275.1 a0_2 a0_3 a0_4 a0_5 a0_6 a0_7 t275.2.2.1 t275.2.2.2.1 t275.2.2.2.2.1 t275.2.2.2.2.2 7 hr281 rfl hc283 rfl rfl rfl rfl hc699) ?_; rintro _ _ ⟨w700, rfl, rfl⟩; refine At.nil (At.thn ?_); exact fun a w e hs => J494 (t698, w700) j a w (e.sub ⟨rfl, rfl, trivial⟩) hs
     ··refine At.condF rfl (bn h697) ?_
       refine At.skip (At.thn (At.f8 (At.f1 (At.f8 (At.f8 (At.f8 (At.f8 ?_))))))); refine At.f8 (At.f8 (At.f8 ?_)); exact fun a w e hs => J494 (t275.1, w277) j a w (e.sub ⟨rfl, rfl, trivial⟩) hs
 ··rcases bite j with ⟨h702, j⟩ | ⟨h702, j⟩
   ··refine At.know (t := 11) rfl h702 ?_
     refine At.run 1 rfl (At.y (Y.load rfl rfl .z rfl rfl rfl) rfl rfl rfl ?_); obtain ⟨t703, hc704, j⟩ := bbind j; refine At.call rfl Q44.callee rfl rfl rfl (Q44.spec _ _  t275.2.2.2.2.1  hc704) ?_; rintro _ _ ⟨rfl, rfl⟩; refine At.run 2 rfl ?_; exact At.of (J490 (!t703) j) ⟨rfl, rfl, rfl, rfl, trivial⟩
   ··refine At.know (t := 11) rfl (bn h702) ?_
     refine At.run 5 rfl ?_; exact At.of (J490 false j) ⟨rfl, rfl, rfl, rfl, trivial⟩

noncomputable def Q36.l0b (a0 : List Q4) (a1_0 : Int) (a1_1 : Bs) (a1_2 x855 : Int) : Option ((Int) ⊕ ((Unit) ⊕ (Int))) :=
 if x855 < (a0.length : Int) then
 if (0 : Int) ≤ x855 ∧ x855 < (a0.length : Int) then
 if (decide (a1_0 = (gt a0 x855).from_) && (bseq a1_1 ((gt a0 x855).action) && (decide (a1_2 = (gt a0 x855).to) && true))) = true then
 upL (some x855)
 else
 nx (IntKind.i64.wrap (x855 + 1))
 else none
 else
 dn (.inl ())
noncomputable def Q36.l0 (a0 : List Q4) (a1_0 : Int) (a1_1 : Bs) (a1_2 x855 : Int) : Option ((Unit) ⊕ (Int)) := iter (fun t_ : Int => Q36.l0b a0 a1_0 a1_1 a1_2 t_) x855
noncomputable def Q36.f (a0 : List Q4) (a1_0 : Int) (a1_1 : Bs) (a1_2 : Int) : Option Int :=
 jn (Q36.l0 a0 a1_0 a1_1 a1_2 0) (fun (_ : Unit) =>
 some (-1))
theorem Q36.callee : Callee Tryz.prog 144 := ⟨_, Tryz.func144, by kernel_rfl, by kernel_rfl⟩
theorem Q36.spec (R : Res) (Fr : List HProp) (A0 : Option Addr) (n0 : Nat) (c0 : Nat) (a0 : List Q4) (a1_0 : Int) (a1_1 : Bs) (a1_2 : Int) (hr0 : RdS Q4.fl.rep R.heap A0 a0) (hn0 : a0.length = n0) (hc0 : n0 ≤ c0) {r : Int} (j : Q36.f a0 a1_0 a1_1 a1_2 = some r) :
 Spec Tryz.prog 144 [.slice A0 n0 c0, .agg #[.int .i64 a1_0, .string ⟨(a1_1).toArray⟩, .int .i64 a1_2]] R (Fr) (fun v l' => v = .int .i64 r ∧ Fr = l') := by
 subst hn0; refine Spec.of Tryz.func144 rfl rfl ?_; unfold Q36.f at j; have j := brun j; refine At.seq (At.region ?_); refine At.box rfl rfl (cs := [.int .i64 a1_0, .string ⟨(a1_1).toArray⟩, .int .i64 a1_2]) rfl rfl (fun b253 => ?_); refine At.run 1 rfl (At.nil (At.thn (At.seq (At.seq (At.region (At.run 3 rfl (At.nil ?_))))))); refine At.thn ?_; refine At.block ?_; obtain ⟨G1056, hl1057, hr1058, j⟩ := bjoin j; obtain ⟨o1059, hlo1060, ho1061⟩ := bsome j; clear j; unfold Q36.l0 at hlo1060; obtain ⟨m1062, hit1064⟩ := Q17.1 hlo1060; clear hlo1060; refine At.loopJ (X := Int) (Y := Unit) (e0 := 0) (fun x855 => [(0, .slice A0 a0.length c0), (3, .pointer (some ⟨b253, 0, none⟩)), (7, .int .i64 (a0.length : Int)), (8, .int .i64 x855)]) (fun x855 => pt b253 (.cells [.int .i64 a1_0, .string ⟨(a1_1).toArray⟩, .int .i64 a1_2].toArray 148) :: Fr) (fun m_ => fun x855 => iterN (fun t_ : Int => Q36.l0b a0 a1_0 a1_1 a1_2 t_) m_ x855 = some o1059) m1062 0 hit1064 (fun _ => []) (fun _ => pt b253 (.cells [.int .i64 a1_0, .string ⟨(a1_1).toArray⟩, .int .i64 a1_2].toArray 148) :: Fr) (fun _ => G1056 (.inl ()) = some r) (fun a w e hs => ⟨e.sub ⟨rfl, rfl, rfl, rfl, trivial⟩, (by exact hs)⟩) ?_ (fun J1066 => ?_)
 ·rintro _ j; have j := (hl1057 _).symm.trans j
  ·refine At.ibx ?_; refine At.thn (At.seq (At.region (At.run 1 rfl (At.nil (At.thn (At.ret (At.drop .z ?_))))))); cases bret j; exact At.res (.inl rfl) rfl rfl ⟨rfl, rfl⟩
 ·clear hit1064 m1062; rintro m1062 x855 hit1064; obtain ⟨m1063, f_, hlt1065, hf_, j⟩ := bit hit1064; clear hit1064; have j : (Q36.l0b a0 a1_0 a1_1 a1_2 x855).bind _ = some o1059 := j; unfold Q36.l0b at j
  ·refine At.seq (At.region (At.run 1 rfl (At.nil (At.thn (At.seq ?_))))); rcases bite j with ⟨h1067, j⟩ | ⟨h1067, j⟩
   ··refine At.condT rfl (decide_eq_true h1067) ?_
     refine At.skip (At.thn (At.seq ?_)); refine At.block ?_; refine At.seq (At.region (At.run 2 rfl (At.nil (At.thn (At.seq ?_))))); refine At.quiet (by kernel_rfl) ?_; refine At.Quiet.y (Y.load rfl rfl .z rfl rfl rfl) rfl rfl rfl ?_; refine At.Quiet.run 2 rfl ?_; obtain ⟨h1068, j⟩ := bnone j; refine At.Quiet.y (Y.ixRd hr0 rfl rfl rfl rfl rfl rfl rfl h1068.1 h1068.2) rfl rfl rfl ?_; refine At.Quiet.y (Y.ldFl hr0 rfl (q := 0) rfl rfl h1068.1 h1068.2 rfl rfl rfl) rfl rfl rfl ?_; refine At.Quiet.y (Y.eqSt (xs := [.int .i64 a1_0, .string ⟨(a1_1).toArray⟩, .int .i64 a1_2]) (ys := [.int .i64 ((gt a0 x855).from_), .string ⟨((gt a0 x855).action).toArray⟩, .int .i64 ((gt a0 x855).to)]) rfl rfl rfl rfl (by kernel_rfl) (by kernel_rfl) (by kernel_rfl) rfl) rfl rfl rfl ?_; refine At.Quiet.nil (At.thn ?_); rcases bite j with ⟨h1069, j⟩ | ⟨h1069, j⟩
     ··refine At.condT rfl h1069 ?_
       refine At.seq (At.region (At.run 2 rfl (At.nil (At.thn (At.ret ?_))))); refine At.ibr ?_; refine At.thr ?_; have j := bupL hr1058 ho1061 j; refine At.thr ?_; refine At.ibr ?_; refine At.thr (At.drop .z ?_); cases bret j; exact At.res (.inl rfl) rfl rfl ⟨rfl, rfl⟩
     ··refine At.condF rfl (bn h1069) ?_
       refine At.skip ?_; refine At.ibn ?_; refine At.thn (At.region (At.run 2 rfl (At.nil ?_))); have j := bnx hf_ j; exact fun a w e hs => ⟨m1063, (IntKind.i64.wrap (x855 + 1)), hlt1065, j, e.sub ⟨rfl, rfl, rfl, rfl, trivial⟩, hs⟩
   ··refine At.condF rfl (decide_eq_false h1067) ?_
     refine At.exit ?_; refine At.the ?_; refine At.the ?_; exact fun a w e hs => J1066 () (bdn j ho1061) a w (e.sub trivial) hs

noncomputable def Q85.f (a0 : List Q4) (a1_0 : Int) (a1_1 : Bs) (a1_2 : Int) : Option Bool :=
 (Q36.f a0 a1_0 a1_1 a1_2).bind fun t254 =>
 some (decide (0 ≤ t254))
theorem Q85.callee : Callee Tryz.prog 99 := ⟨_, Tryz.func99, by kernel_rfl, by kernel_rfl⟩
theorem Q85.spec (R : Res) (Fr : List HProp) (A0 : Option Addr) (n0 : Nat) (c0 : Nat) (a0 : List Q4) (a1_0 : Int) (a1_1 : Bs) (a1_2 : Int) (hr0 : RdS Q4.fl.rep R.heap A0 a0) (hn0 : a0.length = n0) (hc0 : n0 ≤ c0) {r : Bool} (j : Q85.f a0 a1_0 a1_1 a1_2 = some r) :
 Spec Tryz.prog 99 [.slice A0 n0 c0, .agg #[.int .i64 a1_0, .string ⟨(a1_1).toArray⟩, .int .i64 a1_2]] R (Fr) (fun v l' => v = .bool r ∧ Fr = l') := by
 subst hn0; refine Spec.of Tryz.func99 rfl rfl ?_; unfold Q85.f at j; have j := brun j; refine At.seq (At.region ?_); refine At.box rfl rfl (cs := [.int .i64 a1_0, .string ⟨(a1_1).toArray⟩, .int .i64 a1_2]) rfl rfl (fun b253 => ?_); refine At.run 1 rfl (At.nil (At.thn (At.seq (At.region (At.run 1 rfl (At.y (Y.load rfl rfl .z rfl rfl rfl) rfl rfl rfl ?_)))))); obtain ⟨t254, hc255, j⟩ := bbind j; refine At.call rfl Q36.callee rfl rfl rfl (Q36.spec _ _ A0 a0.length c0 a0 a1_0 a1_1 a1_2 hr0 rfl hc0 hc255) ?_; rintro _ _ ⟨rfl, rfl⟩; refine At.run 2 rfl (At.nil (At.thn (At.ret (At.drop .z ?_)))); cases bret j; exact At.res (.inl rfl) rfl rfl ⟨rfl, rfl⟩

noncomputable def Q83.f (a0_0 : List Q3) (a0_1 : Option Q2) (a0_2 : Int) (a0_3 : List Bs) (a0_4 : List Q0) (a0_5 : List Q1) (a0_6 : List Q4) (a0_7 : List (Bs × Bool)) (a1_0 : Int) (a1_1 : Int) (a1_2 : Bs) (a1_3 : Int) : Option ((List Q4) × (List (Bs × Bool)) × (Option Q2) × (List Q3)) :=
 jn (
 if 200 ≤ (a0_6.length : Int) then
 (Q11.f a0_0 a0_1 a0_2 a0_3 a0_4 a0_5 a0_6 a0_7 a1_0 a1_1 a1_2 a1_3 10).bind fun t1587 =>
 some (.inl t1587)
 else
 some (.inl a0_1)) (fun (x492 : Option Q2) =>
 (Q50.f a0_0 x492 a0_2 a0_3 a0_4 a0_5 a0_6 a0_7).bind fun t493 =>
 (Q62.f t493.2.1 t493.1 a0_2 a0_3 a0_4 a0_5 a0_6 a0_7).bind fun t504 =>
 jn (
 if ((mget a0_7 t504.2.2.2.2.1).getD false) = true then
 some (.inl false)
 else
 some (.inl (decide (8 ≤ (a0_7.length : Int))))) (fun (x715 : Bool) =>
 jn (
 if x715 = true then
 (Q11.f t504.2.1 t504.1 a0_2 a0_3 a0_4 a0_5 a0_6 a0_7 t504.2.2.1 t504.2.2.2.1 t504.2.2.2.2.1 t504.2.2.2.2.2 10).bind fun t1581 =>
 some (.inl t1581)
 else
 some (.inl t504.1)) (fun (x925 : Option Q2) =>
 (Q50.f t504.2.1 x925 a0_2 a0_3 a0_4 a0_5 a0_6 a0_7).bind fun t926 =>
 jn (
 if t926.1.isNone = true then
 (Q85.f a0_6 t493.2.2.1 t504.2.2.2.2.1 t926.2.2.1).bind fun t1578 =>
 some (.inl t1578)
 else
 some (.inl false)) (fun (x1144 : Bool) =>
 jn (
 if x1144 = true then
 (Q11.f t926.2.1 t926.1 a0_2 a0_3 a0_4 a0_5 a0_6 a0_7 t926.2.2.2.1 t926.2.2.2.2.1 t926.2.2.2.2.2.1 t926.2.2.2.2.2.2 9).bind fun t1573 =>
 some (.inl t1573)
 else
 some (.inl t926.1)) (fun (x1354 : Option Q2) =>
 (Q58.f t926.2.1 x1354 a0_2 a0_3 a0_4 a0_5 a0_6 a0_7).bind fun t1355 =>
 if (a0_6.length + ([(⟨t493.2.2.1, t504.2.2.2.2.1, t926.2.2.1⟩ : Q4)] : List Q4).length) * 32 ≤ 140737488355328 then
 some ((a0_6 ++ ([(⟨t493.2.2.1, t504.2.2.2.2.1, t926.2.2.1⟩ : Q4)] : List Q4)), (mset a0_7 t504.2.2.2.2.1 true), t1355, t926.2.1)
 else none)))))
theorem Q83.callee : Callee Tryz.prog 73 := ⟨_, Tryz.func73, by kernel_rfl, by kernel_rfl⟩
theorem Q83.spec (R : Res) (Fr : List HProp) (b0 : Nat) (A0_0 : Option Addr) (n0_0 : Nat) (c0_0 : Nat) (p0_1 : Option Nat) (A0_3 : Option Addr) (n0_3 : Nat) (c0_3 : Nat) (A0_4 : Option Addr) (n0_4 : Nat) (c0_4 : Nat) (A0_5 : Option Addr) (n0_5 : Nat) (c0_5 : Nat) (A0_6 : Option Addr) (n0_6 : Nat) (c0_6 : Nat) (b0_7 : Nat) (a0_0 : List Q3) (a0_1 : Option Q2) (a0_2 : Int) (a0_3 : List Bs) (a0_4 : List Q0) (a0_5 : List Q1) (a0_6 : List Q4) (a0_7 : List (Bs × Bool)) (a1_0 : Int) (a1_1 : Int) (a1_2 : Bs) (a1_3 : Int) (hr0_0 : RdS Q3.fl.rep R.heap A0_0 a0_0) (hn0_0 : a0_0.length = n0_0) (hc0_0 : n0_0 ≤ c0_0) (hn0_3 : a0_3.length = n0_3) (hn0_4 : a0_4.length = n0_4) (hn0_5 : a0_5.length = n0_5) (hn0_6 : a0_6.length = n0_6) {r : (List Q4) × (List (Bs × Bool)) × (Option Q2) × (List Q3)} (j : Q83.f a0_0 a0_1 a0_2 a0_3 a0_4 a0_5 a0_6 a0_7 a1_0 a1_1 a1_2 a1_3 = some r) :
 Spec Tryz.prog 73 [.pointer (some ⟨b0, 0, none⟩), .agg #[.int .i64 a1_0, .int .i64 a1_1, .string ⟨(a1_2).toArray⟩, .int .i64 a1_3]] R (pt b0 (.cells [.slice A0_0 n0_0 c0_0, optp p0_1, .int .i64 a0_2, .slice A0_3 n0_3 c0_3, .slice A0_4 n0_4 c0_4, .slice A0_5 n0_5 c0_5, .slice A0_6 n0_6 c0_6, .map (some b0_7)].toArray 114) :: optb (Ow.fl Q2.fl) 58 p0_1 a0_1 :: row Fl.bs 9 A0_3 n0_3 c0_3 a0_3 :: row Q0.fl 35 A0_4 n0_4 c0_4 a0_4 :: grow Q1.ow 37 A0_5 n0_5 c0_5 a0_5 :: row Q4.fl 148 A0_6 n0_6 c0_6 a0_6 :: mapo Fl.bs.ov Fl.bool.ov b0_7 a0_7 :: Fr) (fun v l' => ∃ (w252 : Nat) (w254 : Option Addr) (w255 : Nat) (w257 : Option Nat) (w264 : Option Addr) (w265 : Nat) (w266 : Nat), v = .tuple #[] ∧ optb (Ow.fl Q2.fl) 58 w257 r.2.2.1 :: pt b0 (.cells [.slice w264 w265 w266, optp w257, .int .i64 a0_2, .slice A0_3 n0_3 c0_3, .slice A0_4 n0_4 c0_4, .slice A0_5 n0_5 c0_5, .slice w254 w252 w255, .map (some b0_7)].toArray 114) :: row Fl.bs 9 A0_3 n0_3 c0_3 a0_3 :: row Q0.fl 35 A0_4 n0_4 c0_4 a0_4 :: grow Q1.ow 37 A0_5 n0_5 c0_5 a0_5 :: row Q4.fl 148 w254 w252 w255 r.1 :: mapo Fl.bs.ov Fl.bool.ov b0_7 r.2.1 :: Fr = l' ∧ r.1.length = w252 ∧ RdS Q3.fl.rep R.heap w264 r.2.2.2 ∧ r.2.2.2.length = w265 ∧ w265 ≤ w266) := by
 subst hn0_0; subst hn0_3; subst hn0_4; subst hn0_5; subst hn0_6; refine Spec.of Tryz.func73 rfl rfl ?_; unfold Q83.f at j; have j := brun j; refine At.seq (At.region ?_); refine At.box rfl rfl (cs := [.int .i64 a1_0, .int .i64 a1_1, .string ⟨(a1_2).toArray⟩, .int .i64 a1_3]) rfl rfl (fun b286 => ?_); refine At.nil (At.thn (At.seq (At.seq (At.region (At.run 3 rfl (At.y (Y.load rfl rfl (.s .z) rfl rfl rfl) rfl rfl rfl (At.run 2 rfl ?_))))))); refine At.nil (At.thn ?_); obtain ⟨G287, hl288, hr289, j⟩ := bjoin j; refine At.join (X := (Option Q2) × (Option Nat)) (fun s_ => [(0, .pointer (some ⟨b0, 0, none⟩))]) (fun s_ => optb (Ow.fl Q2.fl) 58 s_.2 s_.1 :: pt b0 (.cells [.slice A0_0 a0_0.length c0_0, optp s_.2, .int .i64 a0_2, .slice A0_3 a0_3.length c0_3, .slice A0_4 a0_4.length c0_4, .slice A0_5 a0_5.length c0_5, .slice A0_6 a0_6.length c0_6, .map (some b0_7)].toArray 114) :: row Fl.bs 9 A0_3 a0_3.length c0_3 a0_3 :: row Q0.fl 35 A0_4 a0_4.length c0_4 a0_4 :: grow Q1.ow 37 A0_5 a0_5.length c0_5 a0_5 :: row Q4.fl 148 A0_6 a0_6.length c0_6 a0_6 :: mapo Fl.bs.ov Fl.bool.ov b0_7 a0_7 :: pt b286 (.cells [.int .i64 a1_0, .int .i64 a1_1, .string ⟨(a1_2).toArray⟩, .int .i64 a1_3].toArray 116) :: Fr) (fun s_ => G287 (.inl s_.1) = some r) ?_ (fun J290 => ?_)
 ·rintro ⟨x492, w491⟩ j; have j := (hl288 _).symm.trans j
  ·refine At.seq (At.region (At.run 1 rfl (At.f6 (At.f6 (At.f6 (At.f6 (At.f6 ?_))))))); refine At.f5 (At.f6 ?_); obtain ⟨t493, hc494, j⟩ := bbind j; refine At.call rfl Q50.callee rfl rfl rfl (Q50.spec _ _ b0 A0_0 a0_0.length c0_0 w491 A0_3 a0_3.length c0_3 A0_4 a0_4.length c0_4 A0_5 a0_5.length c0_5 A0_6 a0_6.length c0_6 b0_7 a0_0 x492 a0_2 a0_3 a0_4 a0_5 a0_6 a0_7 hr0_0 rfl hc0_0 rfl rfl rfl rfl hc494) ?_; rintro _ _ ⟨w495, w496, w497, w498, rfl, rfl, hr499, rfl, hc501⟩; refine At.run 3 rfl ?_; refine At.alloc rfl rfl rfl (fun b503 => ?_); refine At.store rfl rfl rfl rfl .z rfl rfl rfl (.c (.c (.c (.c .n)))) ?_; refine At.run 1 rfl (At.nil (At.thn (At.seq (At.region (At.run 1 rfl (At.f7 (At.f7 ?_))))))); refine At.f7 (At.f7 (At.f7 (At.f6 (At.f7 ?_)))); obtain ⟨t504, hc505, j⟩ := bbind j; refine At.call rfl Q62.callee rfl rfl rfl (Q62.spec _ _ b0 w496 t493.2.1.length w498 w495 A0_3 a0_3.length c0_3 A0_4 a0_4.length c0_4 A0_5 a0_5.length c0_5 A0_6 a0_6.length c0_6 b0_7 t493.2.1 t493.1 a0_2 a0_3 a0_4 a0_5 a0_6 a0_7 hr499 rfl hc501 rfl rfl rfl rfl hc505) ?_; rintro _ _ ⟨w506, w507, w508, w509, rfl, rfl, hr510, rfl, hc512⟩; refine At.alloc rfl rfl rfl (fun b514 => ?_); refine At.store rfl rfl rfl rfl .z rfl rfl rfl (.c (.c (.c (.c .n)))) ?_; refine At.nil (At.thn (At.seq (At.seq ?_))); refine At.quiet (by kernel_rfl) ?_; refine At.Quiet.run 3 rfl ?_; refine At.Quiet.y (Y.load rfl rfl (.s (.s .z)) rfl rfl rfl) rfl rfl rfl ?_; refine At.Quiet.run 1 rfl ?_; refine At.Quiet.y (Y.load rfl rfl .z rfl rfl rfl) rfl rfl rfl ?_; refine At.Quiet.y (Y.lookup (k := t504.2.2.2.2.1) (z := false) (.s (.s (.s (.s (.s (.s (.s .z))))))) rfl rfl (KeyOk.str rfl rfl) (by kernel_rfl) rfl rfl rfl) rfl rfl rfl ?_; refine At.Quiet.run 2 rfl ?_; obtain ⟨G716, hl717, hr718, j⟩ := bjoin j; refine At.Quiet.joinO 7 (X := Bool) (fun x715 => [(0, .pointer (some ⟨b0, 0, none⟩)), (5, .int .i64 t493.2.2.1), (6, .pointer (some ⟨b514, 0, none⟩)), (41, .bool x715)]) (fun x715 => pt b514 (.cells [.int .i64 t504.2.2.1, .int .i64 t504.2.2.2.1, .string ⟨(t504.2.2.2.2.1).toArray⟩, .int .i64 t504.2.2.2.2.2].toArray 116) :: optb (Ow.fl Q2.fl) 58 w506 t504.1 :: pt b0 (.cells [.slice w507 t504.2.1.length w509, optp w506, .int .i64 a0_2, .slice A0_3 a0_3.length c0_3, .slice A0_4 a0_4.length c0_4, .slice A0_5 a0_5.length c0_5, .slice A0_6 a0_6.length c0_6, .map (some b0_7)].toArray 114) :: row Fl.bs 9 A0_3 a0_3.length c0_3 a0_3 :: row Q0.fl 35 A0_4 a0_4.length c0_4 a0_4 :: grow Q1.ow 37 A0_5 a0_5.length c0_5 a0_5 :: row Q4.fl 148 A0_6 a0_6.length c0_6 a0_6 :: mapo Fl.bs.ov Fl.bool.ov b0_7 a0_7 :: pt b503 (.cells [.int .i64 t493.2.2.2.1, .int .i64 t493.2.2.2.2.1, .string ⟨(t493.2.2.2.2.2.1).toArray⟩, .int .i64 t493.2.2.2.2.2.2].toArray 116) :: pt b286 (.cells [.int .i64 a1_0, .int .i64 a1_1, .string ⟨(a1_2).toArray⟩, .int .i64 a1_3].toArray 116) :: Fr) (fun x715 => G716 (.inl x715) = some r) ?_ (fun J719 => ?_)
   ·rintro x715 j; have j := (hl717 _).symm.trans j
    ·refine At.Quiet.nil (At.thn ?_); obtain ⟨G720, hl721, hr722, j⟩ := bjoin j; refine At.join (X := (Option Q2) × (Option Nat)) (fun s_ => [(0, .pointer (some ⟨b0, 0, none⟩)), (5, .int .i64 t493.2.2.1), (6, .pointer (some ⟨b514, 0, none⟩))]) (fun s_ => optb (Ow.fl Q2.fl) 58 s_.2 s_.1 :: pt b0 (.cells [.slice w507 t504.2.1.length w509, optp s_.2, .int .i64 a0_2, .slice A0_3 a0_3.length c0_3, .slice A0_4 a0_4.length c0_4, .slice A0_5 a0_5.length c0_5, .slice A0_6 a0_6.length c0_6, .map (some b0_7)].toArray 114) :: row Fl.bs 9 A0_3 a0_3.length c0_3 a0_3 :: row Q0.fl 35 A0_4 a0_4.length c0_4 a0_4 :: grow Q1.ow 37 A0_5 a0_5.length c0_5 a0_5 :: row Q4.fl 148 A0_6 a0_6.length c0_6 a0_6 :: mapo Fl.bs.ov Fl.bool.ov b0_7 a0_7 :: pt b514 (.cells [.int .i64 t504.2.2.1, .int .i64 t504.2.2.2.1, .string ⟨(t504.2.2.2.2.1).toArray⟩, .int .i64 t504.2.2.2.2.2].toArray 116) :: pt b503 (.cells [.int .i64 t493.2.2.2.1, .int .i64 t493.2.2.2.2.1, .string ⟨(t493.2.2.2.2.2.1).toArray⟩, .int .i64 t493.2.2.2.2.2.2].toArray 116) :: pt b286 (.cells [.int .i64 a1_0, .int .i64 a1_1, .string ⟨(a1_2).toArray⟩, .int .i64 a1_3].toArray 116) :: Fr) (fun s_ => G720 (.inl s_.1) = some r) ?_ (fun J723 => ?_)
     ·rintro ⟨x925, w924⟩ j; have j := (hl721 _).symm.trans j
      ·refine At.seq (At.region (At.run 1 rfl (At.f6 (At.f6 (At.f6 (At.f6 (At.f6 ?_))))))); refine At.f5 (At.f6 ?_); obtain ⟨t926, hc927, j⟩ := bbind j; refine At.call rfl Q50.callee rfl rfl rfl (Q50.spec _ _ b0 w507 t504.2.1.length w509 w924 A0_3 a0_3.length c0_3 A0_4 a0_4.length c0_4 A0_5 a0_5.length c0_5 A0_6 a0_6.length c0_6 b0_7 t504.2.1 x925 a0_2 a0_3 a0_4 a0_5 a0_6 a0_7 hr510 rfl hc512 rfl rfl rfl rfl hc927) ?_; rintro _ _ ⟨w928, w929, w930, w931, rfl, rfl, hr932, rfl, hc934⟩; refine At.run 3 rfl ?_; refine At.alloc rfl rfl rfl (fun b936 => ?_); refine At.store rfl rfl rfl rfl .z rfl rfl rfl (.c (.c (.c (.c .n)))) ?_; refine At.run 1 rfl (At.nil (At.thn (At.seq (At.region (At.run 2 rfl ?_))))); refine At.y (Y.load rfl rfl (.s (.s (.s (.s (.s (.s (.s (.s .z)))))))) rfl rfl rfl) rfl rfl rfl ?_; refine At.run 1 rfl ?_; refine At.y (Y.build (is := [0, 1, 2]) (xo := [.tmp 50, .tmp 52, .tmp 53]) (vs := [.int .i64 t493.2.2.1, .string ⟨(t504.2.2.2.2.1).toArray⟩, .int .i64 t926.2.2.1]) (cs := [.int .i64 t493.2.2.1, .string ⟨(t504.2.2.2.2.1).toArray⟩, .int .i64 t926.2.2.1]) rfl rfl rfl rfl rfl rfl) rfl rfl rfl ?_; refine At.alloc rfl rfl rfl (fun b937 => ?_); refine At.store rfl rfl rfl rfl .z rfl rfl rfl (.c (.c (.c .n))) ?_; refine At.nil (At.thn (At.seq (At.seq ?_))); refine At.freeze (.s (.s (.s (.s (.s (.s (.s .z))))))) fun R938 hr939 hn940 hc941 hs942 th943 => ?_; refine At.quiet (by kernel_rfl) ?_; refine At.Quiet.run 3 rfl ?_; refine At.Quiet.y (Y.load rfl rfl (.s (.s (.s .z))) rfl rfl rfl) rfl rfl rfl ?_; refine At.Quiet.y (Y.eqOpt (.s (.s .z)) rfl rfl rfl rfl) rfl rfl rfl ?_; refine At.Quiet.run 1 rfl ?_; obtain ⟨G1145, hl1146, hr1147, j⟩ := bjoin j; refine At.Quiet.joinO 7 (X := Bool) (fun x1144 => [(0, .pointer (some ⟨b0, 0, none⟩)), (6, .pointer (some ⟨b514, 0, none⟩)), (7, .pointer (some ⟨b936, 0, none⟩)), (9, .pointer (some ⟨b937, 0, none⟩)), (67, .bool x1144)]) (fun x1144 => pt b937 (.cells [.int .i64 t493.2.2.1, .string ⟨(t504.2.2.2.2.1).toArray⟩, .int .i64 t926.2.2.1].toArray 148) :: pt b936 (.cells [.int .i64 t926.2.2.2.1, .int .i64 t926.2.2.2.2.1, .string ⟨(t926.2.2.2.2.2.1).toArray⟩, .int .i64 t926.2.2.2.2.2.2].toArray 116) :: optb (Ow.fl Q2.fl) 58 w928 t926.1 :: pt b0 (.cells [.slice w929 t926.2.1.length w931, optp w928, .int .i64 a0_2, .slice A0_3 a0_3.length c0_3, .slice A0_4 a0_4.length c0_4, .slice A0_5 a0_5.length c0_5, .slice A0_6 a0_6.length c0_6, .map (some b0_7)].toArray 114) :: row Fl.bs 9 A0_3 a0_3.length c0_3 a0_3 :: row Q0.fl 35 A0_4 a0_4.length c0_4 a0_4 :: grow Q1.ow 37 A0_5 a0_5.length c0_5 a0_5 :: mapo Fl.bs.ov Fl.bool.ov b0_7 a0_7 :: pt b514 (.cells [.int .i64 t504.2.2.1, .int .i64 t504.2.2.2.1, .string ⟨(t504.2.2.2.2.1).toArray⟩, .int .i64 t504.2.2.2.2.2].toArray 116) :: pt b503 (.cells [.int .i64 t493.2.2.2.1, .int .i64 t493.2.2.2.2.1, .string ⟨(t493.2.2.2.2.2.1).toArray⟩, .int .i64 t493.2.2.2.2.2.2].toArray 116) :: pt b286 (.cells [.int .i64 a1_0, .int .i64 a1_1, .string ⟨(a1_2).toArray⟩, .int .i64 a1_3].toArray 116) :: Fr) (fun x1144 => G1145 (.inl x1144) = some r) ?_ (fun J1148 => ?_)
       ·rintro x1144 j; have j := (hl1146 _).symm.trans j
        ·refine At.Quiet.nil (At.thn ?_); refine At.thaw th943 ?_; obtain ⟨G1149, hl1150, hr1151, j⟩ := bjoin j; refine At.join (X := (Option Q2) × (Option Nat)) (fun s_ => [(0, .pointer (some ⟨b0, 0, none⟩)), (6, .pointer (some ⟨b514, 0, none⟩)), (9, .pointer (some ⟨b937, 0, none⟩))]) (fun s_ => optb (Ow.fl Q2.fl) 58 s_.2 s_.1 :: pt b0 (.cells [.slice w929 t926.2.1.length w931, optp s_.2, .int .i64 a0_2, .slice A0_3 a0_3.length c0_3, .slice A0_4 a0_4.length c0_4, .slice A0_5 a0_5.length c0_5, .slice A0_6 a0_6.length c0_6, .map (some b0_7)].toArray 114) :: row Fl.bs 9 A0_3 a0_3.length c0_3 a0_3 :: row Q0.fl 35 A0_4 a0_4.length c0_4 a0_4 :: grow Q1.ow 37 A0_5 a0_5.length c0_5 a0_5 :: row Q4.fl 148 A0_6 a0_6.length c0_6 a0_6 :: mapo Fl.bs.ov Fl.bool.ov b0_7 a0_7 :: pt b937 (.cells [.int .i64 t493.2.2.1, .string ⟨(t504.2.2.2.2.1).toArray⟩, .int .i64 t926.2.2.1].toArray 148) :: pt b936 (.cells [.int .i64 t926.2.2.2.1, .int .i64 t926.2.2.2.2.1, .string ⟨(t926.2.2.2.2.2.1).toArray⟩, .int .i64 t926.2.2.2.2.2.2].toArray 116) :: pt b514 (.cells [.int .i64 t504.2.2.1, .int .i64 t504.2.2.2.1, .string ⟨(t504.2.2.2.2.1).toArray⟩, .int .i64 t504.2.2.2.2.2].toArray 116) :: pt b503 (.cells [.int .i64 t493.2.2.2.1, .int .i64 t493.2.2.2.2.1, .string ⟨(t493.2.2.2.2.2.1).toArray⟩, .int .i64 t493.2.2.2.2.2.2].toArray 116) :: pt b286 (.cells [.int .i64 a1_0, .int .i64 a1_1, .string ⟨(a1_2).toArray⟩, .int .i64 a1_3].toArray 116) :: Fr) (fun s_ => G1149 (.inl s_.1) = some r) ?_ (fun J1152 => ?_)
         ·rintro ⟨x1354, w1353⟩ j; have j := (hl1150 _).symm.trans j
          ·refine At.seq (At.region (At.run 1 rfl (At.f6 (At.f6 (At.f6 (At.f6 (At.f6 ?_))))))); refine At.f5 (At.f6 ?_); obtain ⟨t1355, hc1356, j⟩ := bbind j; refine At.call rfl Q58.callee rfl rfl rfl (Q58.spec _ _ b0 w929 t926.2.1.length w931 w1353 A0_3 a0_3.length c0_3 A0_4 a0_4.length c0_4 A0_5 a0_5.length c0_5 A0_6 a0_6.length c0_6 b0_7 t926.2.1 x1354 a0_2 a0_3 a0_4 a0_5 a0_6 a0_7 hr932 rfl hc934 rfl rfl rfl rfl hc1356) ?_; rintro _ _ ⟨w1357, rfl, rfl⟩; refine At.nil (At.thn (At.seq ?_)); refine At.still 6 (by kernel_rfl) ?_; refine At.Still.run 3 rfl ?_; refine At.Still.y (Y.load rfl rfl .z rfl rfl rfl) rfl rfl rfl ?_; refine At.Still.run 1 rfl ?_; refine At.Still.y (Y.load rfl rfl (.s (.s (.s (.s (.s (.s (.s (.s (.s .z))))))))) rfl rfl rfl) rfl rfl rfl ?_; refine At.Still.nil ?_; refine At.mapUpdate (k := t504.2.2.2.2.1) (v := true) rfl (.s (.s (.s (.s (.s (.s .z)))))) rfl rfl (KeyOk.str rfl rfl) rfl rfl rfl rfl rfl ?_; refine At.nil (At.thn ?_); refine At.held [mapo Fl.bs.ov Fl.bool.ov b0_7 (mset a0_7 t504.2.2.2.2.1 true), optb (Ow.fl Q2.fl) 58 w1357 t1355, row Fl.bs 9 A0_3 a0_3.length c0_3 a0_3, row Q0.fl 35 A0_4 a0_4.length c0_4 a0_4, grow Q1.ow 37 A0_5 a0_5.length c0_5 a0_5, pt b937 (.cells [.int .i64 t493.2.2.1, .string ⟨(t504.2.2.2.2.1).toArray⟩, .int .i64 t926.2.2.1].toArray 148), pt b936 (.cells [.int .i64 t926.2.2.2.1, .int .i64 t926.2.2.2.2.1, .string ⟨(t926.2.2.2.2.2.1).toArray⟩, .int .i64 t926.2.2.2.2.2.2].toArray 116), pt b514 (.cells [.int .i64 t504.2.2.1, .int .i64 t504.2.2.2.1, .string ⟨(t504.2.2.2.2.1).toArray⟩, .int .i64 t504.2.2.2.2.2].toArray 116), pt b503 (.cells [.int .i64 t493.2.2.2.1, .int .i64 t493.2.2.2.2.1, .string ⟨(t493.2.2.2.2.2.1).toArray⟩, .int .i64 t493.2.2.2.2.2.2].toArray 116), pt b286 (.cells [.int .i64 a1_0, .int .i64 a1_1, .string ⟨(a1_2).toArray⟩, .int .i64 a1_3].toArray 116)] 11 rfl ?_; refine At.H.pw 0 rfl rfl rfl rfl rfl (.c .z (.c (.s .z) (.c (.s .z) (.c (.s .z) (.c (.s .z) (.c (.s (.s .z)) (.c (.s (.s .z)) (.c (.s (.s .z)) (.c (.s (.s .z)) (.c (.s (.s .z)) .n)))))))))) ?_; refine At.H.pw 1 rfl rfl rfl rfl rfl (.c .z (.c (.s .z) (.c (.s .z) (.c (.s .z) (.c (.s .z) (.c (.s (.s .z)) (.c (.s (.s .z)) (.c (.s (.s .z)) (.c (.s (.s .z)) (.c (.s (.s .z)) .n)))))))))) ?_; refine At.H.pw 2 rfl rfl rfl rfl rfl (.c .z (.c (.s .z) (.c (.s .z) (.c (.s .z) (.c (.s .z) (.c (.s (.s .z)) (.c (.s (.s .z)) (.c (.s (.s .z)) (.c (.s (.s .z)) (.c (.s (.s .z)) .n)))))))))) ?_; refine At.H.pw 3 rfl rfl rfl rfl rfl (.c .z (.c (.s .z) (.c (.s .z) (.c (.s .z) (.c (.s .z) (.c (.s (.s .z)) (.c (.s (.s .z)) (.c (.s (.s .z)) (.c (.s (.s .z)) (.c (.s (.s .z)) .n)))))))))) ?_; refine At.H.tw 5 rfl (Y.load rfl rfl (.s (.s (.s (.s (.s .z))))) rfl rfl rfl) rfl rfl rfl (.c .z (.c (.s .z) (.c (.s .z) (.c (.s .z) (.c (.s .z) (.c (.s (.s .z)) (.c (.s (.s .z)) (.c (.s (.s .z)) (.c (.s (.s .z)) (.c (.s (.s .z)) .n)))))))))) ?_; obtain ⟨h1561, j⟩ := bnone j; refine At.H.joinK (X := (Option Addr) × Nat) (fun s_ => []) (fun s_ => pt b0 (.cells [.slice w929 t926.2.1.length w931, optp w1357, .int .i64 a0_2, .slice A0_3 a0_3.length c0_3, .slice A0_4 a0_4.length c0_4, .slice A0_5 a0_5.length c0_5, .slice s_.1 ((a0_6 ++ ([(⟨t493.2.2.1, t504.2.2.2.2.1, t926.2.2.1⟩ : Q4)] : List Q4)).length) s_.2, .map (some b0_7)].toArray 114) :: row Q4.fl 148 s_.1 ((a0_6 ++ ([(⟨t493.2.2.1, t504.2.2.2.2.1, t926.2.2.1⟩ : Q4)] : List Q4)).length) s_.2 (a0_6 ++ ([(⟨t493.2.2.1, t504.2.2.2.2.1, t926.2.2.1⟩ : Q4)] : List Q4)) :: mapo Fl.bs.ov Fl.bool.ov b0_7 (mset a0_7 t504.2.2.2.2.1 true) :: optb (Ow.fl Q2.fl) 58 w1357 t1355 :: row Fl.bs 9 A0_3 a0_3.length c0_3 a0_3 :: row Q0.fl 35 A0_4 a0_4.length c0_4 a0_4 :: grow Q1.ow 37 A0_5 a0_5.length c0_5 a0_5 :: pt b937 (.cells [.int .i64 t493.2.2.1, .string ⟨(t504.2.2.2.2.1).toArray⟩, .int .i64 t926.2.2.1].toArray 148) :: pt b936 (.cells [.int .i64 t926.2.2.2.1, .int .i64 t926.2.2.2.2.1, .string ⟨(t926.2.2.2.2.2.1).toArray⟩, .int .i64 t926.2.2.2.2.2.2].toArray 116) :: pt b514 (.cells [.int .i64 t504.2.2.1, .int .i64 t504.2.2.2.1, .string ⟨(t504.2.2.2.2.1).toArray⟩, .int .i64 t504.2.2.2.2.2].toArray 116) :: pt b503 (.cells [.int .i64 t493.2.2.2.1, .int .i64 t493.2.2.2.2.1, .string ⟨(t493.2.2.2.2.2.1).toArray⟩, .int .i64 t493.2.2.2.2.2.2].toArray 116) :: pt b286 (.cells [.int .i64 a1_0, .int .i64 a1_1, .string ⟨(a1_2).toArray⟩, .int .i64 a1_3].toArray 116) :: Fr) (fun s_ => True) ?_ (fun J1560 => ?_)
           ·rintro ⟨w1558, w1559⟩ -
            ·refine At.drop (.s (.s (.s (.s (.s (.s (.s .z))))))) (At.drop (.s (.s (.s (.s (.s (.s (.s .z))))))) (At.drop (.s (.s (.s (.s (.s (.s (.s .z))))))) (At.drop (.s (.s (.s (.s (.s (.s (.s .z))))))) (At.drop (.s (.s (.s (.s (.s (.s (.s .z))))))) (At.f2 (At.f2 (At.f6 ?_))))))); refine At.f6 (At.f6 (At.f5 (At.f6 ?_))); cases bret j; exact At.res (.inr rfl) rfl rfl ⟨(a0_6 ++ ([(⟨t493.2.2.1, t504.2.2.2.2.1, t926.2.2.1⟩ : Q4)] : List Q4)).length, w1558, w1559, w1357, w929, t926.2.1.length, w931, rfl, rfl, rfl, hr932, rfl, hc934⟩
           ·refine At.H.al [4, 6] (Q12 ?_ (Q12 ?_ Q14))
            ··refine At.HO.op rfl ?_
              refine At.y (Y.load rfl rfl (.s .z) rfl rfl rfl) rfl rfl rfl ?_; refine At.HO.back (.c .z (.c (.s .z) (.c (.s .z) (.c (.s .z) (.c (.s .z) (.c (.s (.s .z)) (.c (.s (.s .z)) (.c (.s (.s .z)) (.c (.s (.s .z)) (.c (.s (.s .z)) .n)))))))))) ?_; refine At.H.al [6] (Q12 ?_ Q14)
              ··refine At.HO.op rfl ?_
                refine At.lit rfl (xo := [.tmp 84]) (ys := ([(⟨t493.2.2.1, t504.2.2.2.2.1, t926.2.2.1⟩ : Q4)] : List Q4)) Q4.fl rfl rfl rfl rfl rfl rfl rfl rfl rfl rfl rfl (fun A1562 c1563 => ?_); refine At.HO.back (.c (.s .z) (.c (.s (.s .z)) (.c (.s (.s .z)) (.c (.s (.s .z)) (.c (.s (.s .z)) (.c (.s (.s (.s .z))) (.c (.s (.s (.s .z))) (.c (.s (.s (.s .z))) (.c (.s (.s (.s .z))) (.c (.s (.s (.s .z))) .n)))))))))) ?_; refine At.H.al [7] (Q12 ?_ Q14)
                ··refine At.HO.op rfl ?_
                  refine At.append rfl (.s (.s (.s (.s (.s (.s (.s .z))))))) (Src.own .z (by simp)) rfl rfl rfl rfl rfl rfl rfl rfl h1561 (by decide) rfl (fun A1565 c1566 => ?_); refine At.drop (.s .z) ?_; refine At.HO.back (.c (.s .z) (.c (.s (.s .z)) (.c (.s (.s .z)) (.c (.s (.s .z)) (.c (.s (.s .z)) (.c (.s (.s .z)) (.c (.s (.s .z)) (.c (.s (.s .z)) (.c (.s (.s .z)) (.c (.s (.s .z)) .n)))))))))) ?_; refine At.H.pw 8 rfl rfl rfl rfl rfl (.c (.s .z) (.c (.s (.s .z)) (.c (.s (.s .z)) (.c (.s (.s .z)) (.c (.s (.s .z)) (.c (.s (.s .z)) (.c (.s (.s .z)) (.c (.s (.s .z)) (.c (.s (.s .z)) (.c (.s (.s .z)) .n)))))))))) ?_; refine At.H.pw 9 rfl rfl rfl rfl rfl (.c (.s .z) (.c (.s (.s .z)) (.c (.s (.s .z)) (.c (.s (.s .z)) (.c (.s (.s .z)) (.c (.s (.s .z)) (.c (.s (.s .z)) (.c (.s (.s .z)) (.c (.s (.s .z)) (.c (.s (.s .z)) .n)))))))))) ?_; refine At.H.al [10] (Q12 ?_ Q14)
                  ··refine At.HO.op rfl ?_
                    refine At.store rfl rfl rfl rfl (.s (.s .z)) rfl rfl rfl (.s (.s (.s (.s (.s (.s (.c .n))))))) ?_; refine At.HO.back (.c (.s (.s .z)) (.c (.s (.s .z)) (.c (.s (.s .z)) (.c (.s (.s .z)) (.c (.s (.s .z)) (.c (.s (.s .z)) (.c (.s (.s .z)) (.c (.s (.s .z)) (.c (.s (.s .z)) (.c (.s (.s .z)) .n)))))))))) ?_; refine At.H.done (by kernel_rfl) ?_; exact At.of (J1560 (A1565, c1566) trivial) trivial
            ··refine At.HO.op rfl ?_
              refine At.lit rfl (xo := [.tmp 84]) (ys := ([(⟨t493.2.2.1, t504.2.2.2.2.1, t926.2.2.1⟩ : Q4)] : List Q4)) Q4.fl rfl rfl rfl rfl rfl rfl rfl rfl rfl rfl rfl (fun A1567 c1568 => ?_); refine At.HO.back (.c (.s .z) (.c (.s (.s .z)) (.c (.s (.s .z)) (.c (.s (.s .z)) (.c (.s (.s .z)) (.c (.s (.s (.s .z))) (.c (.s (.s (.s .z))) (.c (.s (.s (.s .z))) (.c (.s (.s (.s .z))) (.c (.s (.s (.s .z))) .n)))))))))) ?_; refine At.H.al [4] (Q12 ?_ Q14)
              ··refine At.HO.op rfl ?_
                refine At.y (Y.load rfl rfl (.s (.s .z)) rfl rfl rfl) rfl rfl rfl ?_; refine At.HO.back (.c (.s .z) (.c (.s (.s .z)) (.c (.s (.s .z)) (.c (.s (.s .z)) (.c (.s (.s .z)) (.c (.s (.s (.s .z))) (.c (.s (.s (.s .z))) (.c (.s (.s (.s .z))) (.c (.s (.s (.s .z))) (.c (.s (.s (.s .z))) .n)))))))))) ?_; refine At.H.al [7] (Q12 ?_ Q14)
                ··refine At.HO.op rfl ?_
                  refine At.append rfl (.s (.s (.s (.s (.s (.s (.s .z))))))) (Src.own .z (by simp)) rfl rfl rfl rfl rfl rfl rfl rfl h1561 (by decide) rfl (fun A1570 c1571 => ?_); refine At.drop (.s .z) ?_; refine At.HO.back (.c (.s .z) (.c (.s (.s .z)) (.c (.s (.s .z)) (.c (.s (.s .z)) (.c (.s (.s .z)) (.c (.s (.s .z)) (.c (.s (.s .z)) (.c (.s (.s .z)) (.c (.s (.s .z)) (.c (.s (.s .z)) .n)))))))))) ?_; refine At.H.pw 8 rfl rfl rfl rfl rfl (.c (.s .z) (.c (.s (.s .z)) (.c (.s (.s .z)) (.c (.s (.s .z)) (.c (.s (.s .z)) (.c (.s (.s .z)) (.c (.s (.s .z)) (.c (.s (.s .z)) (.c (.s (.s .z)) (.c (.s (.s .z)) .n)))))))))) ?_; refine At.H.pw 9 rfl rfl rfl rfl rfl (.c (.s .z) (.c (.s (.s .z)) (.c (.s (.s .z)) (.c (.s (.s .z)) (.c (.s (.s .z)) (.c (.s (.s .z)) (.c (.s (.s .z)) (.c (.s (.s .z)) (.c (.s (.s .z)) (.c (.s (.s .z)) .n)))))))))) ?_; refine At.H.al [10] (Q12 ?_ Q14)
                  ··refine At.HO.op rfl ?_
                    refine At.store rfl rfl rfl rfl (.s (.s .z)) rfl rfl rfl (.s (.s (.s (.s (.s (.s (.c .n))))))) ?_; refine At.HO.back (.c (.s (.s .z)) (.c (.s (.s .z)) (.c (.s (.s .z)) (.c (.s (.s .z)) (.c (.s (.s .z)) (.c (.s (.s .z)) (.c (.s (.s .z)) (.c (.s (.s .z)) (.c (.s (.s .z)) (.c (.s (.s .z)) .n)))))))))) ?_; refine At.H.done (by kernel_rfl) ?_; exact At.of (J1560 (A1570, c1571) trivial) trivial
         ··rcases bite j with ⟨h1572, j⟩ | ⟨h1572, j⟩
           ··refine At.condT rfl h1572 ?_
             refine At.region (At.run 1 rfl (At.y (Y.load rfl rfl (.s (.s .z)) rfl rfl rfl) rfl rfl rfl (At.f8 (At.f1 (At.f8 (At.f8 (At.f8 ?_))))))); refine At.f7 (At.f8 ?_); obtain ⟨t1573, hc1574, j⟩ := bbind j; refine At.call rfl Q11.callee rfl rfl rfl (Q11.spec _ _ b0 w929 t926.2.1.length w931 w928 A0_3 a0_3.length c0_3 A0_4 a0_4.length c0_4 A0_5 a0_5.length c0_5 A0_6 a0_6.length c0_6 b0_7 t926.2.1 t926.1 a0_2 a0_3 a0_4 a0_5 a0_6 a0_7 t926.2.2.2.1 t926.2.2.2.2.1 t926.2.2.2.2.2.1 t926.2.2.2.2.2.2 9 hr932 rfl hc934 rfl rfl rfl rfl hc1574) ?_; rintro _ _ ⟨w1575, rfl, rfl⟩; refine At.nil (At.thn ?_); exact fun a w e hs => J1152 (t1573, w1575) j a w (e.sub ⟨rfl, rfl, rfl, trivial⟩) hs
           ··refine At.condF rfl (bn h1572) ?_
             refine At.skip (At.thn (At.f11 (At.f11 (At.f11 (At.f5 (At.f5 (At.f11 ?_))))))); refine At.f6 (At.f11 (At.f11 (At.f11 (At.f11 (At.f11 ?_))))); exact fun a w e hs => J1152 (t926.1, w928) j a w (e.sub ⟨rfl, rfl, rfl, trivial⟩) hs
       ··rcases bite j with ⟨h1577, j⟩ | ⟨h1577, j⟩
         ··refine At.Quiet.know (t := 60) rfl h1577 ?_
           refine At.Quiet.run 3 rfl ?_; refine At.Quiet.y (Y.load rfl rfl (.s (.s (.s .z))) rfl rfl rfl) rfl rfl rfl ?_; refine At.Quiet.y (Y.load rfl rfl .z rfl rfl rfl) rfl rfl rfl ?_; obtain ⟨t1578, hc1579, j⟩ := bbind j; refine At.Quiet.call rfl Q85.callee rfl rfl rfl (Q85.spec _ _ A0_6 a0_6.length c0_6 a0_6 t493.2.2.1 t504.2.2.2.2.1 t926.2.2.1 hr939 hn940 hc941 hc1579) (fun _ _ h_ => ⟨h_.1, fun _ hs => h_.2 ▸ hs⟩) ?_; refine At.Quiet.run 1 rfl ?_; exact At.Quiet.of (J1148 t1578 j) ⟨rfl, rfl, rfl, rfl, rfl, trivial⟩
         ··refine At.Quiet.know (t := 60) rfl (bn h1577) ?_
           refine At.Quiet.run 7 rfl ?_; exact At.Quiet.of (J1148 false j) ⟨rfl, rfl, rfl, rfl, rfl, trivial⟩
     ··rcases bite j with ⟨h1580, j⟩ | ⟨h1580, j⟩
       ··refine At.condT rfl h1580 ?_
         refine At.region (At.run 1 rfl (At.y (Y.load rfl rfl .z rfl rfl rfl) rfl rfl rfl (At.f7 (At.f7 (At.f7 (At.f7 (At.f7 ?_))))))); refine At.f6 (At.f7 ?_); obtain ⟨t1581, hc1582, j⟩ := bbind j; refine At.call rfl Q11.callee rfl rfl rfl (Q11.spec _ _ b0 w507 t504.2.1.length w509 w506 A0_3 a0_3.length c0_3 A0_4 a0_4.length c0_4 A0_5 a0_5.length c0_5 A0_6 a0_6.length c0_6 b0_7 t504.2.1 t504.1 a0_2 a0_3 a0_4 a0_5 a0_6 a0_7 t504.2.2.1 t504.2.2.2.1 t504.2.2.2.2.1 t504.2.2.2.2.2 10 hr510 rfl hc512 rfl rfl rfl rfl hc1582) ?_; rintro _ _ ⟨w1583, rfl, rfl⟩; refine At.nil (At.thn ?_); exact fun a w e hs => J723 (t1581, w1583) j a w (e.sub ⟨rfl, rfl, rfl, trivial⟩) hs
       ··refine At.condF rfl (bn h1580) ?_
         refine At.skip (At.thn (At.f9 (At.f9 (At.f2 (At.f9 (At.f9 (At.f9 ?_))))))); refine At.f9 (At.f9 (At.f9 (At.f9 ?_))); exact fun a w e hs => J723 (t504.1, w506) j a w (e.sub ⟨rfl, rfl, rfl, trivial⟩) hs
   ··rcases bite j with ⟨h1585, j⟩ | ⟨h1585, j⟩
     ··refine At.Quiet.know (t := 34) rfl (nf h1585) ?_
       refine At.Quiet.run 7 rfl ?_; exact At.Quiet.of (J719 false j) ⟨rfl, rfl, rfl, rfl, trivial⟩
     ··refine At.Quiet.know (t := 34) rfl (nt (bn h1585)) ?_
       refine At.Quiet.run 3 rfl ?_; refine At.Quiet.y (Y.load rfl rfl (.s (.s .z)) rfl rfl rfl) rfl rfl rfl ?_; refine At.Quiet.y (Y.lenMap (.s (.s (.s (.s (.s (.s (.s .z))))))) rfl rfl rfl) rfl rfl rfl ?_; refine At.Quiet.run 2 rfl ?_; exact At.Quiet.of (J719 (decide (8 ≤ (a0_7.length : Int))) j) ⟨rfl, rfl, rfl, rfl, trivial⟩
 ··rcases bite j with ⟨h1586, j⟩ | ⟨h1586, j⟩
   ··refine At.condT rfl (decide_eq_true h1586) ?_
     refine At.region (At.run 1 rfl (At.y (Y.load rfl rfl .z rfl rfl rfl) rfl rfl rfl (At.f7 (At.f7 (At.f7 (At.f7 (At.f7 ?_))))))); refine At.f7 (At.f7 ?_); obtain ⟨t1587, hc1588, j⟩ := bbind j; refine At.call rfl Q11.callee rfl rfl rfl (Q11.spec _ _ b0 A0_0 a0_0.length c0_0 p0_1 A0_3 a0_3.length c0_3 A0_4 a0_4.length c0_4 A0_5 a0_5.length c0_5 A0_6 a0_6.length c0_6 b0_7 a0_0 a0_1 a0_2 a0_3 a0_4 a0_5 a0_6 a0_7 a1_0 a1_1 a1_2 a1_3 10 hr0_0 rfl hc0_0 rfl rfl rfl rfl hc1588) ?_; rintro _ _ ⟨w1589, rfl, rfl⟩; refine At.nil (At.thn ?_); exact fun a w e hs => J290 (t1587, w1589) j a w (e.sub ⟨rfl, trivial⟩) hs
   ··refine At.condF rfl (decide_eq_false h1586) ?_
     refine At.skip (At.thn (At.f7 (At.f7 (At.f7 (At.f7 (At.f7 (At.f6 ?_))))))); refine At.f7 ?_; exact fun a w e hs => J290 (a0_1, p0_1) j a w (e.sub ⟨rfl, trivial⟩) hs

noncomputable def Q77.f (a0_0 : Bs) (a0_1 : List Int) (a1_0 a1_1 : Int) (a1_2 : Bs) (a1_3 : Int) : Option Bool :=
 some (bseq a0_0 a1_2)
theorem Q77.callee : Callee Tryz.prog 101 := ⟨_, Tryz.func101, by kernel_rfl, by kernel_rfl⟩
theorem Q77.spec (R : Res) (Fr : List HProp) (A0_1 : Option Addr) (n0_1 : Nat) (c0_1 : Nat) (b1 : Nat) (a0_0 : Bs) (a0_1 : List Int) (a1_0 : Int) (a1_1 : Int) (a1_2 : Bs) (a1_3 : Int) (hr0_1 : RdS (Fl.int .i64).rep R.heap A0_1 a0_1) (hn0_1 : a0_1.length = n0_1) (hc0_1 : n0_1 ≤ c0_1) {r : Bool} (j : Q77.f a0_0 a0_1 a1_0 a1_1 a1_2 a1_3 = some r) :
 Spec Tryz.prog 101 [.agg #[.string ⟨(a0_0).toArray⟩, .slice A0_1 n0_1 c0_1], .pointer (some ⟨b1, 0, none⟩)] R (pt b1 (.cells [.int .i64 a1_0, .int .i64 a1_1, .string ⟨(a1_2).toArray⟩, .int .i64 a1_3].toArray 116) :: Fr) (fun v l' => v = .bool r ∧ pt b1 (.cells [.int .i64 a1_0, .int .i64 a1_1, .string ⟨(a1_2).toArray⟩, .int .i64 a1_3].toArray 116) :: Fr = l') := by
 subst hn0_1; refine Spec.of Tryz.func101 rfl rfl ?_; unfold Q77.f at j; have j := brun j; refine At.seq (At.region ?_); refine At.box rfl rfl (cs := [.string ⟨(a0_0).toArray⟩, .slice A0_1 a0_1.length c0_1]) rfl rfl (fun b253 => ?_); refine At.run 1 rfl (At.nil (At.thn (At.seq (At.region (At.run 1 rfl (At.y (Y.load rfl rfl .z rfl rfl rfl) rfl rfl rfl (At.run 1 rfl ?_))))))); refine At.y (Y.load rfl rfl (.s .z) rfl rfl rfl) rfl rfl rfl (At.run 2 rfl (At.nil (At.thn (At.ret (At.drop .z ?_))))); cases bret j; exact At.res (.inl rfl) rfl rfl ⟨rfl, rfl⟩

noncomputable def Q38.l0b (a0 : List Q1) (a1_c0_0 a1_c0_1 : Int) (a1_c0_2 : Bs) (a1_c0_3 x853 : Int) : Option ((Int) ⊕ ((Unit) ⊕ (Int))) :=
 if x853 < (a0.length : Int) then
 if (0 : Int) ≤ x853 ∧ x853 < (a0.length : Int) then
 (Q77.f ((gt a0 x853).Name) ((gt a0 x853).States) a1_c0_0 a1_c0_1 a1_c0_2 a1_c0_3).bind fun t1074 =>
 if t1074 = true then
 upL (some x853)
 else
 nx (IntKind.i64.wrap (x853 + 1))
 else none
 else
 dn (.inl ())
noncomputable def Q38.l0 (a0 : List Q1) (a1_c0_0 a1_c0_1 : Int) (a1_c0_2 : Bs) (a1_c0_3 x853 : Int) : Option ((Unit) ⊕ (Int)) := iter (fun t_ : Int => Q38.l0b a0 a1_c0_0 a1_c0_1 a1_c0_2 a1_c0_3 t_) x853
noncomputable def Q38.f (a0 : List Q1) (a1_c0_0 a1_c0_1 : Int) (a1_c0_2 : Bs) (a1_c0_3 : Int) : Option Int :=
 jn (Q38.l0 a0 a1_c0_0 a1_c0_1 a1_c0_2 a1_c0_3 0) (fun (_ : Unit) =>
 some (-1))
theorem Q38.callee : Callee Tryz.prog 145 := ⟨_, Tryz.func145, by kernel_rfl, by kernel_rfl⟩
theorem Q38.spec (R : Res) (Fr : List HProp) (A0 : Option Addr) (n0 : Nat) (c0 : Nat) (b1_c0 : Nat) (a0 : List Q1) (a1_c0_0 : Int) (a1_c0_1 : Int) (a1_c0_2 : Bs) (a1_c0_3 : Int) (hr0 : RdS Q1.rep R.heap A0 a0) (hn0 : a0.length = n0) (hc0 : n0 ≤ c0) {r : Int} (j : Q38.f a0 a1_c0_0 a1_c0_1 a1_c0_2 a1_c0_3 = some r) :
 Spec Tryz.prog 145 [.slice A0 n0 c0, .func (.func 101) #[] #[.pointer (some ⟨b1_c0, 0, none⟩)]] R (pt b1_c0 (.cells [.int .i64 a1_c0_0, .int .i64 a1_c0_1, .string ⟨(a1_c0_2).toArray⟩, .int .i64 a1_c0_3].toArray 116) :: Fr) (fun v l' => v = .int .i64 r ∧ pt b1_c0 (.cells [.int .i64 a1_c0_0, .int .i64 a1_c0_1, .string ⟨(a1_c0_2).toArray⟩, .int .i64 a1_c0_3].toArray 116) :: Fr = l') := by
 subst hn0; refine Spec.of Tryz.func145 rfl rfl ?_; unfold Q38.f at j; have j := brun j; refine At.seq (At.region (At.run 1 rfl (At.nil (At.thn (At.seq (At.seq (At.region ?_))))))); refine At.run 3 rfl (At.nil (At.thn ?_)); refine At.block ?_; obtain ⟨G1054, hl1055, hr1056, j⟩ := bjoin j; obtain ⟨o1057, hlo1058, ho1059⟩ := bsome j; clear j; unfold Q38.l0 at hlo1058; obtain ⟨m1060, hit1062⟩ := Q17.1 hlo1058; clear hlo1058; refine At.loopJ (X := Int) (Y := Unit) (e0 := 0) (fun x853 => [(0, .slice A0 a0.length c0), (1, .func (.func 101) #[] #[.pointer (some ⟨b1_c0, 0, none⟩)]), (7, .int .i64 (a0.length : Int)), (8, .int .i64 x853)]) (fun x853 => pt b1_c0 (.cells [.int .i64 a1_c0_0, .int .i64 a1_c0_1, .string ⟨(a1_c0_2).toArray⟩, .int .i64 a1_c0_3].toArray 116) :: Fr) (fun m_ => fun x853 => iterN (fun t_ : Int => Q38.l0b a0 a1_c0_0 a1_c0_1 a1_c0_2 a1_c0_3 t_) m_ x853 = some o1057) m1060 0 hit1062 (fun _ => []) (fun _ => pt b1_c0 (.cells [.int .i64 a1_c0_0, .int .i64 a1_c0_1, .string ⟨(a1_c0_2).toArray⟩, .int .i64 a1_c0_3].toArray 116) :: Fr) (fun _ => G1054 (.inl ()) = some r) (fun a w e hs => ⟨e.sub ⟨rfl, rfl, rfl, rfl, trivial⟩, (by exact hs)⟩) ?_ (fun J1064 => ?_)
 ·rintro _ j; have j := (hl1055 _).symm.trans j
  ·refine At.ibx ?_; refine At.thn (At.seq (At.region (At.run 1 rfl (At.nil (At.thn (At.ret ?_)))))); cases bret j; exact At.res (.inl rfl) rfl rfl ⟨rfl, rfl⟩
 ·clear hit1062 m1060; rintro m1060 x853 hit1062; obtain ⟨m1061, f_, hlt1063, hf_, j⟩ := bit hit1062; clear hit1062; have j : (Q38.l0b a0 a1_c0_0 a1_c0_1 a1_c0_2 a1_c0_3 x853).bind _ = some o1057 := j; unfold Q38.l0b at j
  ·refine At.seq (At.region (At.run 1 rfl (At.nil (At.thn (At.seq ?_))))); rcases bite j with ⟨h1065, j⟩ | ⟨h1065, j⟩
   ··refine At.condT rfl (decide_eq_true h1065) ?_
     refine At.skip (At.thn (At.seq ?_)); refine At.block ?_; refine At.seq (At.region (At.run 2 rfl (At.nil (At.thn (At.seq (At.region (At.run 3 rfl ?_))))))); obtain ⟨h1066, j⟩ := bnone j; refine At.y (Y.ixRd hr0 rfl rfl rfl rfl rfl rfl rfl h1066.1 h1066.2) rfl rfl rfl ?_; obtain ⟨cs1067, hK1068, hy1069⟩ := RdS.whole (P := Tryz.prog) hr0 (Sub.refl _) rfl h1066.1 h1066.2; obtain ⟨_, _, rfl, rfl, ⟨A1070, c1071, rfl, hc1072, hr1073⟩⟩ := hK1068; refine At.y (hy1069 rfl rfl rfl rfl) rfl rfl rfl ?_; obtain ⟨t1074, hc1075, j⟩ := bbind j; refine At.call rfl Q77.callee rfl rfl rfl (Q77.spec _ _ A1070 ((gt a0 x853).States.length) c1071 b1_c0 ((gt a0 x853).Name) ((gt a0 x853).States) a1_c0_0 a1_c0_1 a1_c0_2 a1_c0_3 hr1073 rfl hc1072 hc1075) ?_; rintro _ _ ⟨rfl, rfl⟩; refine At.nil (At.thn ?_); rcases bite j with ⟨h1076, j⟩ | ⟨h1076, j⟩
     ··refine At.condT rfl h1076 ?_
       refine At.seq (At.region (At.run 2 rfl (At.nil (At.thn (At.ret ?_))))); refine At.ibr ?_; refine At.thr ?_; have j := bupL hr1056 ho1059 j; refine At.thr ?_; refine At.ibr ?_; refine At.thr ?_; cases bret j; exact At.res (.inl rfl) rfl rfl ⟨rfl, rfl⟩
     ··refine At.condF rfl (bn h1076) ?_
       refine At.skip ?_; refine At.ibn ?_; refine At.thn (At.region (At.run 2 rfl (At.nil ?_))); have j := bnx hf_ j; exact fun a w e hs => ⟨m1061, (IntKind.i64.wrap (x853 + 1)), hlt1063, j, e.sub ⟨rfl, rfl, rfl, rfl, trivial⟩, hs⟩
   ··refine At.condF rfl (decide_eq_false h1065) ?_
     refine At.exit ?_; refine At.the ?_; refine At.the ?_; exact fun a w e hs => J1064 () (bdn j ho1059) a w (e.sub trivial) hs

noncomputable def Q75.f (a0 : List Q1) (a1_c0_0 a1_c0_1 : Int) (a1_c0_2 : Bs) (a1_c0_3 : Int) : Option Bool :=
 (Q38.f a0 a1_c0_0 a1_c0_1 a1_c0_2 a1_c0_3).bind fun t252 =>
 some (decide (0 ≤ t252))
theorem Q75.callee : Callee Tryz.prog 100 := ⟨_, Tryz.func100, by kernel_rfl, by kernel_rfl⟩
theorem Q75.spec (R : Res) (Fr : List HProp) (A0 : Option Addr) (n0 : Nat) (c0 : Nat) (b1_c0 : Nat) (a0 : List Q1) (a1_c0_0 : Int) (a1_c0_1 : Int) (a1_c0_2 : Bs) (a1_c0_3 : Int) (hr0 : RdS Q1.rep R.heap A0 a0) (hn0 : a0.length = n0) (hc0 : n0 ≤ c0) {r : Bool} (j : Q75.f a0 a1_c0_0 a1_c0_1 a1_c0_2 a1_c0_3 = some r) :
 Spec Tryz.prog 100 [.slice A0 n0 c0, .func (.func 101) #[] #[.pointer (some ⟨b1_c0, 0, none⟩)]] R (pt b1_c0 (.cells [.int .i64 a1_c0_0, .int .i64 a1_c0_1, .string ⟨(a1_c0_2).toArray⟩, .int .i64 a1_c0_3].toArray 116) :: Fr) (fun v l' => v = .bool r ∧ pt b1_c0 (.cells [.int .i64 a1_c0_0, .int .i64 a1_c0_1, .string ⟨(a1_c0_2).toArray⟩, .int .i64 a1_c0_3].toArray 116) :: Fr = l') := by
 subst hn0; refine Spec.of Tryz.func100 rfl rfl ?_; unfold Q75.f at j; have j := brun j; refine At.seq (At.region (At.run 1 rfl (At.nil (At.thn (At.seq (At.region (At.run 2 rfl ?_))))))); obtain ⟨t252, hc253, j⟩ := bbind j; refine At.call rfl Q38.callee rfl rfl rfl (Q38.spec _ _ A0 a0.length c0 b1_c0 a0 a1_c0_0 a1_c0_1 a1_c0_2 a1_c0_3 hr0 rfl hc0 hc253) ?_; rintro _ _ ⟨rfl, rfl⟩; refine At.run 2 rfl (At.nil (At.thn (At.ret ?_))); cases bret j; exact At.res (.inl rfl) rfl rfl ⟨rfl, rfl⟩

noncomputable def Q34.l0b (a0 : List Int) (a1 x853 : Int) : Option ((Int) ⊕ ((Unit) ⊕ (Int))) :=
 if x853 < (a0.length : Int) then
 if (0 : Int) ≤ x853 ∧ x853 < (a0.length : Int) then
 if a1 = gt a0 x853 then
 upL (some x853)
 else
 nx (IntKind.i64.wrap (x853 + 1))
 else none
 else
 dn (.inl ())
noncomputable def Q34.l0 (a0 : List Int) (a1 x853 : Int) : Option ((Unit) ⊕ (Int)) := iter (fun t_ : Int => Q34.l0b a0 a1 t_) x853
noncomputable def Q34.f (a0 : List Int) (a1 : Int) : Option Int :=
 jn (Q34.l0 a0 a1 0) (fun (_ : Unit) =>
 some (-1))
theorem Q34.callee : Callee Tryz.prog 146 := ⟨_, Tryz.func146, by kernel_rfl, by kernel_rfl⟩
theorem Q34.spec (R : Res) (Fr : List HProp) (A0 : Option Addr) (n0 : Nat) (c0 : Nat) (a0 : List Int) (a1 : Int) (hr0 : RdS (Fl.int .i64).rep R.heap A0 a0) (hn0 : a0.length = n0) (hc0 : n0 ≤ c0) {r : Int} (j : Q34.f a0 a1 = some r) :
 Spec Tryz.prog 146 [.slice A0 n0 c0, .int .i64 a1] R (Fr) (fun v l' => v = .int .i64 r ∧ Fr = l') := by
 subst hn0; refine Spec.of Tryz.func146 rfl rfl ?_; unfold Q34.f at j; have j := brun j; refine At.seq (At.region (At.run 1 rfl (At.nil (At.thn (At.seq (At.seq (At.region ?_))))))); refine At.run 3 rfl (At.nil (At.thn ?_)); refine At.block ?_; obtain ⟨G1054, hl1055, hr1056, j⟩ := bjoin j; obtain ⟨o1057, hlo1058, ho1059⟩ := bsome j; clear j; unfold Q34.l0 at hlo1058; obtain ⟨m1060, hit1062⟩ := Q17.1 hlo1058; clear hlo1058; refine At.loopJ (X := Int) (Y := Unit) (e0 := 0) (fun x853 => [(0, .slice A0 a0.length c0), (1, .int .i64 a1), (7, .int .i64 (a0.length : Int)), (8, .int .i64 x853)]) (fun x853 => Fr) (fun m_ => fun x853 => iterN (fun t_ : Int => Q34.l0b a0 a1 t_) m_ x853 = some o1057) m1060 0 hit1062 (fun _ => []) (fun _ => Fr) (fun _ => G1054 (.inl ()) = some r) (fun a w e hs => ⟨e.sub ⟨rfl, rfl, rfl, rfl, trivial⟩, (by exact hs)⟩) ?_ (fun J1064 => ?_)
 ·rintro _ j; have j := (hl1055 _).symm.trans j
  ·refine At.ibx ?_; refine At.thn (At.seq (At.region (At.run 1 rfl (At.nil (At.thn (At.ret ?_)))))); cases bret j; exact At.res (.inl rfl) rfl rfl ⟨rfl, rfl⟩
 ·clear hit1062 m1060; rintro m1060 x853 hit1062; obtain ⟨m1061, f_, hlt1063, hf_, j⟩ := bit hit1062; clear hit1062; have j : (Q34.l0b a0 a1 x853).bind _ = some o1057 := j; unfold Q34.l0b at j
  ·refine At.seq (At.region (At.run 1 rfl (At.nil (At.thn (At.seq ?_))))); rcases bite j with ⟨h1065, j⟩ | ⟨h1065, j⟩
   ··refine At.condT rfl (decide_eq_true h1065) ?_
     refine At.skip (At.thn (At.seq ?_)); refine At.block ?_; refine At.seq (At.region (At.run 2 rfl (At.nil (At.thn (At.seq (At.region (At.run 3 rfl ?_))))))); obtain ⟨h1066, j⟩ := bnone j; refine At.y (Y.ixRd hr0 rfl rfl rfl rfl rfl rfl rfl h1066.1 h1066.2) rfl rfl rfl (At.y (Y.ldFl hr0 rfl (q := 0) rfl rfl h1066.1 h1066.2 rfl rfl rfl) rfl rfl rfl (At.run 1 rfl (At.nil (At.thn ?_)))); rcases bite j with ⟨h1067, j⟩ | ⟨h1067, j⟩
     ··refine At.condT rfl (decide_eq_true h1067) ?_
       refine At.seq (At.region (At.run 2 rfl (At.nil (At.thn (At.ret ?_))))); refine At.ibr ?_; refine At.thr ?_; have j := bupL hr1056 ho1059 j; refine At.thr ?_; refine At.ibr ?_; refine At.thr ?_; cases bret j; exact At.res (.inl rfl) rfl rfl ⟨rfl, rfl⟩
     ··refine At.condF rfl (decide_eq_false h1067) ?_
       refine At.skip ?_; refine At.ibn ?_; refine At.thn (At.region (At.run 2 rfl (At.nil ?_))); have j := bnx hf_ j; exact fun a w e hs => ⟨m1061, (IntKind.i64.wrap (x853 + 1)), hlt1063, j, e.sub ⟨rfl, rfl, rfl, rfl, trivial⟩, hs⟩
   ··refine At.condF rfl (decide_eq_false h1065) ?_
     refine At.exit ?_; refine At.the ?_; refine At.the ?_; exact fun a w e hs => J1064 () (bdn j ho1059) a w (e.sub trivial) hs

noncomputable def Q80.f (a0 : List Int) (a1 : Int) : Option Bool :=
 (Q34.f a0 a1).bind fun t252 =>
 some (decide (0 ≤ t252))
theorem Q80.callee : Callee Tryz.prog 103 := ⟨_, Tryz.func103, by kernel_rfl, by kernel_rfl⟩
theorem Q80.spec (R : Res) (Fr : List HProp) (A0 : Option Addr) (n0 : Nat) (c0 : Nat) (a0 : List Int) (a1 : Int) (hr0 : RdS (Fl.int .i64).rep R.heap A0 a0) (hn0 : a0.length = n0) (hc0 : n0 ≤ c0) {r : Bool} (j : Q80.f a0 a1 = some r) :
 Spec Tryz.prog 103 [.slice A0 n0 c0, .int .i64 a1] R (Fr) (fun v l' => v = .bool r ∧ Fr = l') := by
 subst hn0; refine Spec.of Tryz.func103 rfl rfl ?_; unfold Q80.f at j; have j := brun j; refine At.seq (At.region (At.run 1 rfl (At.nil (At.thn (At.seq (At.region (At.run 2 rfl ?_))))))); obtain ⟨t252, hc253, j⟩ := bbind j; refine At.call rfl Q34.callee rfl rfl rfl (Q34.spec _ _ A0 a0.length c0 a0 a1 hr0 rfl hc0 hc253) ?_; rintro _ _ ⟨rfl, rfl⟩; refine At.run 2 rfl (At.nil (At.thn (At.ret ?_))); cases bret j; exact At.res (.inl rfl) rfl rfl ⟨rfl, rfl⟩

noncomputable def Q92.f (a0 : List Int) : Option (List Int) := if a0.length < 4611686018427387904 then some (a0.mergeSort fun x y => decide (x ≤ y)) else none
theorem Q92.callee : Callee Tryz.prog 104 := ⟨_, Tryz.func104, by kernel_rfl, by kernel_rfl⟩
theorem Q92.spec (R : Res) (Fr : List HProp) (A0 : Option Addr) (n0 : Nat) (c0 : Nat) (a0 : List Int) (hn0 : a0.length = n0) {r : List Int} (j : Q92.f a0 = some r) :
 Spec Tryz.prog 104 [.slice A0 n0 c0] R (row (Fl.int .i64) 3 A0 n0 c0 a0 :: Fr) (fun v l' => v = .tuple #[] ∧ row (Fl.int .i64) 3 A0 n0 c0 r :: Fr = l') := by
 unfold Q92.f at j; split at j
 ·rename_i hb; cases j; exact Q248 Tryz.sort104 R Fr hb
 ·cases j

noncomputable def Q35.l0b (a0_2 : Int) (a0_3 : List Bs) (a0_4 : List Q0) (a0_5 : List Q1) (a0_6 : List Q4) (a0_7 : List (Bs × Bool)) (x1101 : List Int) (x1107 : Option Q2) (x1111 : List Q3) : Option (((List Int) × (Option Q2) × (List Q3)) ⊕ (((Option Q2) × (List Int) × (List Q3)) ⊕ ((List Q1) × (Option Q2) × (List Q3)))) :=
 jn (
 if x1107.isNone = true then
 (Q60.f x1111 x1107 a0_2 a0_3 a0_4 a0_5 a0_6 a0_7).bind fun t2205 =>
 some (.inl (!t2205))
 else
 some (.inl false)) (fun (x1756 : Bool) =>
 if x1756 = true then
 (Q50.f x1111 x1107 a0_2 a0_3 a0_4 a0_5 a0_6 a0_7).bind fun t1762 =>
 jn (
 if t1762.1.isNone = true then
 (Q80.f x1101 t1762.2.2.1).bind fun t2202 =>
 some (.inl t2202)
 else
 some (.inl false)) (fun (x1973 : Bool) =>
 jn (
 if x1973 = true then
 (Q11.f t1762.2.1 t1762.1 a0_2 a0_3 a0_4 a0_5 a0_6 a0_7 t1762.2.2.2.1 t1762.2.2.2.2.1 t1762.2.2.2.2.2.1 t1762.2.2.2.2.2.2 9).bind fun t2191 =>
 some (.inl t2191)
 else
 some (.inl t1762.1)) (fun (x2183 : Option Q2) =>
 if (x1101.length + ([t1762.2.2.1] : List Int).length) * 8 ≤ 140737488355328 then
 nx ((x1101 ++ ([t1762.2.2.1] : List Int)), x2183, t1762.2.1)
 else none))
 else
 dn (.inl (x1107, x1101, x1111)))
noncomputable def Q35.l0 (a0_2 : Int) (a0_3 : List Bs) (a0_4 : List Q0) (a0_5 : List Q1) (a0_6 : List Q4) (a0_7 : List (Bs × Bool)) (x1101 : List Int) (x1107 : Option Q2) (x1111 : List Q3) : Option (((Option Q2) × (List Int) × (List Q3)) ⊕ ((List Q1) × (Option Q2) × (List Q3))) := iter (fun t_ : (List Int) × (Option Q2) × (List Q3) => Q35.l0b a0_2 a0_3 a0_4 a0_5 a0_6 a0_7 t_.1 t_.2.1 t_.2.2) (x1101, x1107, x1111)
noncomputable def Q35.f (a0_0 : List Q3) (a0_1 : Option Q2) (a0_2 : Int) (a0_3 : List Bs) (a0_4 : List Q0) (a0_5 : List Q1) (a0_6 : List Q4) (a0_7 : List (Bs × Bool)) : Option ((List Q1) × (Option Q2) × (List Q3)) :=
 (Q62.f a0_0 a0_1 a0_2 a0_3 a0_4 a0_5 a0_6 a0_7).bind fun t270 =>
 jn (
 if t270.1.isNone = true then
 if 8 ≤ (a0_5.length : Int) then
 (Q11.f t270.2.1 t270.1 a0_2 a0_3 a0_4 a0_5 a0_6 a0_7 t270.2.2.1 t270.2.2.2.1 t270.2.2.2.2.1 t270.2.2.2.2.2 10).bind fun t2209 =>
 some (.inl t2209)
 else
 (Q75.f a0_5 t270.2.2.1 t270.2.2.2.1 t270.2.2.2.2.1 t270.2.2.2.2.2).bind fun t2219 =>
 if t2219 = true then
 (Q11.f t270.2.1 t270.1 a0_2 a0_3 a0_4 a0_5 a0_6 a0_7 t270.2.2.1 t270.2.2.2.1 t270.2.2.2.2.1 t270.2.2.2.2.2 9).bind fun t2222 =>
 some (.inl t2222)
 else
 some (.inl t270.1)
 else
 up (some (a0_5, t270.1, t270.2.1))) (fun (x486 : Option Q2) =>
 jn (Q35.l0 a0_2 a0_3 a0_4 a0_5 a0_6 a0_7 ([] : List Int) x486 t270.2.1) (fun (s_ : (Option Q2) × (List Int) × (List Q3)) =>
 (Q92.f s_.2.1).bind fun t1340 =>
 if (a0_5.length + 1) * 40 ≤ 140737488355328 then
 some ((a0_5 ++ [(⟨t270.2.2.2.2.1, t1340⟩ : Q1)]), s_.1, s_.2.2)
 else none))
theorem Q35.callee : Callee Tryz.prog 74 := ⟨_, Tryz.func74, by kernel_rfl, by kernel_rfl⟩
theorem Q35.spec (R : Res) (Fr : List HProp) (b0 : Nat) (A0_0 : Option Addr) (n0_0 : Nat) (c0_0 : Nat) (p0_1 : Option Nat) (A0_3 : Option Addr) (n0_3 : Nat) (c0_3 : Nat) (A0_4 : Option Addr) (n0_4 : Nat) (c0_4 : Nat) (A0_5 : Option Addr) (n0_5 : Nat) (c0_5 : Nat) (A0_6 : Option Addr) (n0_6 : Nat) (c0_6 : Nat) (b0_7 : Nat) (a0_0 : List Q3) (a0_1 : Option Q2) (a0_2 : Int) (a0_3 : List Bs) (a0_4 : List Q0) (a0_5 : List Q1) (a0_6 : List Q4) (a0_7 : List (Bs × Bool)) (hr0_0 : RdS Q3.fl.rep R.heap A0_0 a0_0) (hn0_0 : a0_0.length = n0_0) (hc0_0 : n0_0 ≤ c0_0) (hn0_3 : a0_3.length = n0_3) (hn0_4 : a0_4.length = n0_4) (hn0_5 : a0_5.length = n0_5) (hn0_6 : a0_6.length = n0_6) {r : (List Q1) × (Option Q2) × (List Q3)} (j : Q35.f a0_0 a0_1 a0_2 a0_3 a0_4 a0_5 a0_6 a0_7 = some r) :
 Spec Tryz.prog 74 [.pointer (some ⟨b0, 0, none⟩)] R (pt b0 (.cells [.slice A0_0 n0_0 c0_0, optp p0_1, .int .i64 a0_2, .slice A0_3 n0_3 c0_3, .slice A0_4 n0_4 c0_4, .slice A0_5 n0_5 c0_5, .slice A0_6 n0_6 c0_6, .map (some b0_7)].toArray 114) :: optb (Ow.fl Q2.fl) 58 p0_1 a0_1 :: row Fl.bs 9 A0_3 n0_3 c0_3 a0_3 :: row Q0.fl 35 A0_4 n0_4 c0_4 a0_4 :: grow Q1.ow 37 A0_5 n0_5 c0_5 a0_5 :: row Q4.fl 148 A0_6 n0_6 c0_6 a0_6 :: mapo Fl.bs.ov Fl.bool.ov b0_7 a0_7 :: Fr) (fun v l' => ∃ (w252 : Nat) (w254 : Option Addr) (w255 : Nat) (w256 : Option Nat) (w259 : Option Addr) (w260 : Nat) (w261 : Nat), v = .tuple #[] ∧ optb (Ow.fl Q2.fl) 58 w256 r.2.1 :: pt b0 (.cells [.slice w259 w260 w261, optp w256, .int .i64 a0_2, .slice A0_3 n0_3 c0_3, .slice A0_4 n0_4 c0_4, .slice w254 w252 w255, .slice A0_6 n0_6 c0_6, .map (some b0_7)].toArray 114) :: row Fl.bs 9 A0_3 n0_3 c0_3 a0_3 :: row Q0.fl 35 A0_4 n0_4 c0_4 a0_4 :: grow Q1.ow 37 w254 w252 w255 r.1 :: row Q4.fl 148 A0_6 n0_6 c0_6 a0_6 :: mapo Fl.bs.ov Fl.bool.ov b0_7 a0_7 :: Fr = l' ∧ r.1.length = w252 ∧ RdS Q3.fl.rep R.heap w259 r.2.2 ∧ r.2.2.length = w260 ∧ w260 ≤ w261) := by
 subst hn0_0; subst hn0_3; subst hn0_4; subst hn0_5; subst hn0_6; refine Spec.of Tryz.func74 rfl rfl ?_; unfold Q35.f at j; have j := brun j; refine At.seq (At.region (At.run 1 rfl ?_)); obtain ⟨t270, hc271, j⟩ := bbind j; refine At.call rfl Q62.callee rfl rfl rfl (Q62.spec _ _ b0 A0_0 a0_0.length c0_0 p0_1 A0_3 a0_3.length c0_3 A0_4 a0_4.length c0_4 A0_5 a0_5.length c0_5 A0_6 a0_6.length c0_6 b0_7 a0_0 a0_1 a0_2 a0_3 a0_4 a0_5 a0_6 a0_7 hr0_0 rfl hc0_0 rfl rfl rfl rfl hc271) ?_; rintro _ _ ⟨w272, w273, w274, w275, rfl, rfl, hr276, rfl, hc278⟩; refine At.alloc rfl rfl rfl (fun b280 => ?_); refine At.store rfl rfl rfl rfl .z rfl rfl rfl (.c (.c (.c (.c .n)))) ?_; refine At.nil (At.thn (At.seq ?_)); obtain ⟨G281, hl282, hr283, j⟩ := bjoin j; refine At.join (X := (Option Q2) × (Option Nat)) (fun s_ => [(0, .pointer (some ⟨b0, 0, none⟩)), (2, .pointer (some ⟨b280, 0, none⟩))]) (fun s_ => optb (Ow.fl Q2.fl) 58 s_.2 s_.1 :: pt b0 (.cells [.slice w273 t270.2.1.length w275, optp s_.2, .int .i64 a0_2, .slice A0_3 a0_3.length c0_3, .slice A0_4 a0_4.length c0_4, .slice A0_5 a0_5.length c0_5, .slice A0_6 a0_6.length c0_6, .map (some b0_7)].toArray 114) :: row Fl.bs 9 A0_3 a0_3.length c0_3 a0_3 :: row Q0.fl 35 A0_4 a0_4.length c0_4 a0_4 :: grow Q1.ow 37 A0_5 a0_5.length c0_5 a0_5 :: row Q4.fl 148 A0_6 a0_6.length c0_6 a0_6 :: mapo Fl.bs.ov Fl.bool.ov b0_7 a0_7 :: pt b280 (.cells [.int .i64 t270.2.2.1, .int .i64 t270.2.2.2.1, .string ⟨(t270.2.2.2.2.1).toArray⟩, .int .i64 t270.2.2.2.2.2].toArray 116) :: Fr) (fun s_ => G281 (.inl s_.1) = some r) ?_ (fun J284 => ?_)
 ·rintro ⟨x486, w485⟩ j; have j := (hl282 _).symm.trans j
  ·refine At.seq (At.region (At.run 1 rfl (At.nil (At.thn (At.seq ?_))))); refine At.block ?_; obtain ⟨G1329, hl1330, hr1331, j⟩ := bjoin j; obtain ⟨o1332, hlo1333, ho1334⟩ := bsome j; clear j; unfold Q35.l0 at hlo1333; obtain ⟨m1335, hit1337⟩ := Q17.1 hlo1333; clear hlo1333; refine At.nilRow (Fl.int .i64) 3 ?_; refine At.loopJ (X := (List Int) × (Option Q2) × (List Q3) × Nat × (Option Addr) × Nat × (Option Nat) × (Option Addr) × Nat × Nat) (Y := (Option Q2) × (List Int) × (List Q3) × (Option Nat) × Nat × (Option Addr) × Nat × (Option Addr) × Nat × Nat) (e0 := 1) (fun s_ => [(0, .pointer (some ⟨b0, 0, none⟩)), (2, .pointer (some ⟨b280, 0, none⟩)), (3, .slice s_.2.2.2.2.1 s_.2.2.2.1 s_.2.2.2.2.2.1)]) (fun s_ => row (Fl.int .i64) 3 s_.2.2.2.2.1 s_.2.2.2.1 s_.2.2.2.2.2.1 s_.1 :: optb (Ow.fl Q2.fl) 58 s_.2.2.2.2.2.2.1 s_.2.1 :: pt b0 (.cells [.slice s_.2.2.2.2.2.2.2.1 (d8 s_).1 (d8 s_).2, optp s_.2.2.2.2.2.2.1, .int .i64 a0_2, .slice A0_3 a0_3.length c0_3, .slice A0_4 a0_4.length c0_4, .slice A0_5 a0_5.length c0_5, .slice A0_6 a0_6.length c0_6, .map (some b0_7)].toArray 114) :: row Fl.bs 9 A0_3 a0_3.length c0_3 a0_3 :: row Q0.fl 35 A0_4 a0_4.length c0_4 a0_4 :: grow Q1.ow 37 A0_5 a0_5.length c0_5 a0_5 :: row Q4.fl 148 A0_6 a0_6.length c0_6 a0_6 :: mapo Fl.bs.ov Fl.bool.ov b0_7 a0_7 :: pt b280 (.cells [.int .i64 t270.2.2.1, .int .i64 t270.2.2.2.1, .string ⟨(t270.2.2.2.2.1).toArray⟩, .int .i64 t270.2.2.2.2.2].toArray 116) :: Fr) (fun m_ => fun s_ => iterN (fun t_ : (List Int) × (Option Q2) × (List Q3) => Q35.l0b a0_2 a0_3 a0_4 a0_5 a0_6 a0_7 t_.1 t_.2.1 t_.2.2) m_ (s_.1, s_.2.1, s_.2.2.1) = some o1332 ∧ s_.1.length = s_.2.2.2.1 ∧ RdS Q3.fl.rep R.heap s_.2.2.2.2.2.2.2.1 s_.2.2.1 ∧ s_.2.2.1.length = (d8 s_).1 ∧ (d8 s_).1 ≤ (d8 s_).2) m1335 (([] : List Int), x486, t270.2.1, 0, none, 0, w485, w273, t270.2.1.length, w275) ⟨hit1337, rfl, hr276, rfl, hc278⟩ (fun s_ => [(0, .pointer (some ⟨b0, 0, none⟩)), (2, .pointer (some ⟨b280, 0, none⟩)), (3, .slice s_.2.2.2.2.2.1 s_.2.2.2.2.1 s_.2.2.2.2.2.2.1)]) (fun s_ => pt b0 (.cells [.slice s_.2.2.2.2.2.2.2.1 (d8 s_).1 (d8 s_).2, optp s_.2.2.2.1, .int .i64 a0_2, .slice A0_3 a0_3.length c0_3, .slice A0_4 a0_4.length c0_4, .slice A0_5 a0_5.length c0_5, .slice A0_6 a0_6.length c0_6, .map (some b0_7)].toArray 114) :: optb (Ow.fl Q2.fl) 58 s_.2.2.2.1 s_.1 :: row Fl.bs 9 A0_3 a0_3.length c0_3 a0_3 :: row Q0.fl 35 A0_4 a0_4.length c0_4 a0_4 :: grow Q1.ow 37 A0_5 a0_5.length c0_5 a0_5 :: row Q4.fl 148 A0_6 a0_6.length c0_6 a0_6 :: mapo Fl.bs.ov Fl.bool.ov b0_7 a0_7 :: row (Fl.int .i64) 3 s_.2.2.2.2.2.1 s_.2.2.2.2.1 s_.2.2.2.2.2.2.1 s_.2.1 :: pt b280 (.cells [.int .i64 t270.2.2.1, .int .i64 t270.2.2.2.1, .string ⟨(t270.2.2.2.2.1).toArray⟩, .int .i64 t270.2.2.2.2.2].toArray 116) :: Fr) (fun s_ => G1329 (.inl (s_.1, s_.2.1, s_.2.2.1)) = some r ∧ s_.2.1.length = s_.2.2.2.2.1 ∧ RdS Q3.fl.rep R.heap s_.2.2.2.2.2.2.2.1 s_.2.2.1 ∧ s_.2.2.1.length = (d8 s_).1 ∧ (d8 s_).1 ≤ (d8 s_).2) (fun a w e hs => ⟨e.sub ⟨rfl, rfl, rfl, trivial⟩, (by exact hs)⟩) ?_ (fun J1339 => ?_)
   ·rintro ⟨x1316, x1317, x1325, w1315, w1318, w1320, w1321, w1322, w1323, w1324⟩ ⟨j, hn1319, hr1326, hn1327, hc1328⟩; obtain rfl : x1317.length = w1318 := hn1319; obtain rfl : x1325.length = w1323 := hn1327; have j := (hl1330 _).symm.trans j
    ·refine At.ibx ?_; refine At.thn (At.seq (At.region (At.run 1 rfl (At.f7 ?_)))); obtain ⟨t1340, hc1341, j⟩ := bbind j; refine At.call rfl Q92.callee rfl rfl rfl (Q92.spec _ _ w1320 x1317.length w1321 x1317 rfl hc1341) ?_; rintro _ _ ⟨rfl, rfl⟩; refine At.nil (At.thn ?_); refine At.held [optb (Ow.fl Q2.fl) 58 w1315 x1316, row Fl.bs 9 A0_3 a0_3.length c0_3 a0_3, row Q0.fl 35 A0_4 a0_4.length c0_4 a0_4, row Q4.fl 148 A0_6 a0_6.length c0_6 a0_6, mapo Fl.bs.ov Fl.bool.ov b0_7 a0_7, pt b280 (.cells [.int .i64 t270.2.2.1, .int .i64 t270.2.2.2.1, .string ⟨(t270.2.2.2.2.1).toArray⟩, .int .i64 t270.2.2.2.2.2].toArray 116)] 16 rfl ?_; refine At.H.pw 0 rfl rfl rfl rfl rfl (.c (.s (.s .z)) (.c (.s (.s .z)) (.c (.s (.s .z)) (.c (.s (.s (.s .z))) (.c (.s (.s (.s .z))) (.c (.s (.s (.s .z))) .n)))))) ?_; refine At.H.pw 1 rfl rfl rfl rfl rfl (.c (.s (.s .z)) (.c (.s (.s .z)) (.c (.s (.s .z)) (.c (.s (.s (.s .z))) (.c (.s (.s (.s .z))) (.c (.s (.s (.s .z))) .n)))))) ?_; refine At.H.pw 2 rfl rfl rfl rfl rfl (.c (.s (.s .z)) (.c (.s (.s .z)) (.c (.s (.s .z)) (.c (.s (.s (.s .z))) (.c (.s (.s (.s .z))) (.c (.s (.s (.s .z))) .n)))))) ?_; refine At.H.pw 3 rfl rfl rfl rfl rfl (.c (.s (.s .z)) (.c (.s (.s .z)) (.c (.s (.s .z)) (.c (.s (.s (.s .z))) (.c (.s (.s (.s .z))) (.c (.s (.s (.s .z))) .n)))))) ?_; refine At.H.pw 4 rfl rfl rfl rfl rfl (.c (.s (.s .z)) (.c (.s (.s .z)) (.c (.s (.s .z)) (.c (.s (.s (.s .z))) (.c (.s (.s (.s .z))) (.c (.s (.s (.s .z))) .n)))))) ?_; refine At.H.pw 6 rfl rfl rfl rfl rfl (.c (.s (.s .z)) (.c (.s (.s .z)) (.c (.s (.s .z)) (.c (.s (.s (.s .z))) (.c (.s (.s (.s .z))) (.c (.s (.s (.s .z))) .n)))))) ?_; refine At.H.tw 7 rfl (Y.load rfl rfl (.s (.s (.s (.s (.s .z))))) rfl rfl rfl) rfl rfl rfl (.c (.s (.s .z)) (.c (.s (.s .z)) (.c (.s (.s .z)) (.c (.s (.s (.s .z))) (.c (.s (.s (.s .z))) (.c (.s (.s (.s .z))) .n)))))) ?_; refine At.H.pw 8 rfl rfl rfl rfl rfl (.c (.s (.s .z)) (.c (.s (.s .z)) (.c (.s (.s .z)) (.c (.s (.s (.s .z))) (.c (.s (.s (.s .z))) (.c (.s (.s (.s .z))) .n)))))) ?_; refine At.H.tw 9 rfl (Y.build (is := [0, 1]) (xo := [.tmp 77, .tmp 78]) (vs := [.string ⟨(t270.2.2.2.2.1).toArray⟩, .slice w1320 x1317.length w1321]) (cs := [.string ⟨(t270.2.2.2.2.1).toArray⟩, .slice w1320 x1317.length w1321]) rfl rfl rfl rfl rfl rfl) rfl rfl rfl (.c (.s (.s .z)) (.c (.s (.s .z)) (.c (.s (.s .z)) (.c (.s (.s (.s .z))) (.c (.s (.s (.s .z))) (.c (.s (.s (.s .z))) .n)))))) ?_; obtain ⟨h1545, j⟩ := bnone j; refine At.H.joinK (X := (Option Addr) × Nat) (fun s_ => []) (fun s_ => pt b0 (.cells [.slice w1322 x1325.length w1324, optp w1315, .int .i64 a0_2, .slice A0_3 a0_3.length c0_3, .slice A0_4 a0_4.length c0_4, .slice s_.1 ((a0_5 ++ [(⟨t270.2.2.2.2.1, t1340⟩ : Q1)]).length) s_.2, .slice A0_6 a0_6.length c0_6, .map (some b0_7)].toArray 114) :: grow Q1.ow 37 s_.1 ((a0_5 ++ [(⟨t270.2.2.2.2.1, t1340⟩ : Q1)]).length) s_.2 (a0_5 ++ [(⟨t270.2.2.2.2.1, t1340⟩ : Q1)]) :: optb (Ow.fl Q2.fl) 58 w1315 x1316 :: row Fl.bs 9 A0_3 a0_3.length c0_3 a0_3 :: row Q0.fl 35 A0_4 a0_4.length c0_4 a0_4 :: row Q4.fl 148 A0_6 a0_6.length c0_6 a0_6 :: mapo Fl.bs.ov Fl.bool.ov b0_7 a0_7 :: pt b280 (.cells [.int .i64 t270.2.2.1, .int .i64 t270.2.2.2.1, .string ⟨(t270.2.2.2.2.1).toArray⟩, .int .i64 t270.2.2.2.2.2].toArray 116) :: Fr) (fun s_ => True) ?_ (fun J1544 => ?_)
     ·rintro ⟨w1542, w1543⟩ -
      ·refine At.drop (.s (.s (.s (.s (.s (.s (.s .z))))))) (At.f6 (At.f6 (At.f3 (At.f6 (At.f6 (At.f5 (At.f6 ?_))))))); cases bret j; exact At.res (.inr rfl) rfl rfl ⟨(a0_5 ++ [(⟨t270.2.2.2.2.1, t1340⟩ : Q1)]).length, w1542, w1543, w1315, w1322, x1325.length, w1324, rfl, rfl, rfl, hr1326, rfl, hc1328⟩
     ·refine At.H.al [5, 10] (Q12 ?_ (Q12 ?_ Q14))
      ··refine At.HO.op rfl ?_
        refine At.y (Y.load rfl rfl (.s .z) rfl rfl rfl) rfl rfl rfl ?_; refine At.HO.back (.c (.s (.s .z)) (.c (.s (.s .z)) (.c (.s (.s .z)) (.c (.s (.s (.s .z))) (.c (.s (.s (.s .z))) (.c (.s (.s (.s .z))) .n)))))) ?_; refine At.H.al [10] (Q12 ?_ Q14)
        ··refine At.HO.op rfl ?_
          refine At.lit rfl (xo := [.tmp 79]) (ys := ([rawOf (Q1.ow).sz [.string ⟨(t270.2.2.2.2.1).toArray⟩, .slice w1320 x1317.length w1321] rfl rfl] : List (Raw (Q1.ow).sz))) (Fl.raw (Q1.ow).sz (Q1.ow).pos) rfl rfl rfl rfl rfl rfl rfl rfl rfl rfl rfl (fun A1546 c1547 => ?_); refine At.HO.back (.c (.s (.s (.s .z))) (.c (.s (.s (.s .z))) (.c (.s (.s (.s .z))) (.c (.s (.s (.s (.s .z)))) (.c (.s (.s (.s (.s .z)))) (.c (.s (.s (.s (.s .z)))) .n)))))) ?_; refine At.H.al [11] (Q12 ?_ Q14)
          ··refine At.HO.op rfl ?_
            refine At.f1 (At.f1 (At.f6 ?_)); refine At.appendGrow (T := Q1.ow) rfl rfl Q1.ent rfl rfl rfl rfl rfl rfl rfl rfl rfl h1545 (by decide) rfl (fun A1549 c1550 => ?_); refine At.HO.back (.c (.s (.s .z)) (.c (.s (.s .z)) (.c (.s (.s .z)) (.c (.s (.s .z)) (.c (.s (.s .z)) (.c (.s (.s .z)) .n)))))) ?_; refine At.H.pw 12 rfl rfl rfl rfl rfl (.c (.s (.s .z)) (.c (.s (.s .z)) (.c (.s (.s .z)) (.c (.s (.s .z)) (.c (.s (.s .z)) (.c (.s (.s .z)) .n)))))) ?_; refine At.H.pw 13 rfl rfl rfl rfl rfl (.c (.s (.s .z)) (.c (.s (.s .z)) (.c (.s (.s .z)) (.c (.s (.s .z)) (.c (.s (.s .z)) (.c (.s (.s .z)) .n)))))) ?_; refine At.H.pw 14 rfl rfl rfl rfl rfl (.c (.s (.s .z)) (.c (.s (.s .z)) (.c (.s (.s .z)) (.c (.s (.s .z)) (.c (.s (.s .z)) (.c (.s (.s .z)) .n)))))) ?_; refine At.H.al [15] (Q12 ?_ Q14)
            ··refine At.HO.op rfl ?_
              refine At.store rfl rfl rfl rfl (.s .z) rfl rfl rfl (.s (.s (.s (.s (.s (.c .n)))))) ?_; refine At.HO.back (.c (.s (.s .z)) (.c (.s (.s .z)) (.c (.s (.s .z)) (.c (.s (.s .z)) (.c (.s (.s .z)) (.c (.s (.s .z)) .n)))))) ?_; refine At.H.done (by kernel_rfl) ?_; exact At.of (J1544 (A1549, c1550) trivial) trivial
      ··refine At.HO.op rfl ?_
        refine At.lit rfl (xo := [.tmp 79]) (ys := ([rawOf (Q1.ow).sz [.string ⟨(t270.2.2.2.2.1).toArray⟩, .slice w1320 x1317.length w1321] rfl rfl] : List (Raw (Q1.ow).sz))) (Fl.raw (Q1.ow).sz (Q1.ow).pos) rfl rfl rfl rfl rfl rfl rfl rfl rfl rfl rfl (fun A1551 c1552 => ?_); refine At.HO.back (.c (.s (.s (.s .z))) (.c (.s (.s (.s .z))) (.c (.s (.s (.s .z))) (.c (.s (.s (.s (.s .z)))) (.c (.s (.s (.s (.s .z)))) (.c (.s (.s (.s (.s .z)))) .n)))))) ?_; refine At.H.al [5] (Q12 ?_ Q14)
        ··refine At.HO.op rfl ?_
          refine At.y (Y.load rfl rfl (.s (.s .z)) rfl rfl rfl) rfl rfl rfl ?_; refine At.HO.back (.c (.s (.s (.s .z))) (.c (.s (.s (.s .z))) (.c (.s (.s (.s .z))) (.c (.s (.s (.s (.s .z)))) (.c (.s (.s (.s (.s .z)))) (.c (.s (.s (.s (.s .z)))) .n)))))) ?_; refine At.H.al [11] (Q12 ?_ Q14)
          ··refine At.HO.op rfl ?_
            refine At.f1 (At.f1 (At.f6 ?_)); refine At.appendGrow (T := Q1.ow) rfl rfl Q1.ent rfl rfl rfl rfl rfl rfl rfl rfl rfl h1545 (by decide) rfl (fun A1554 c1555 => ?_); refine At.HO.back (.c (.s (.s .z)) (.c (.s (.s .z)) (.c (.s (.s .z)) (.c (.s (.s .z)) (.c (.s (.s .z)) (.c (.s (.s .z)) .n)))))) ?_; refine At.H.pw 12 rfl rfl rfl rfl rfl (.c (.s (.s .z)) (.c (.s (.s .z)) (.c (.s (.s .z)) (.c (.s (.s .z)) (.c (.s (.s .z)) (.c (.s (.s .z)) .n)))))) ?_; refine At.H.pw 13 rfl rfl rfl rfl rfl (.c (.s (.s .z)) (.c (.s (.s .z)) (.c (.s (.s .z)) (.c (.s (.s .z)) (.c (.s (.s .z)) (.c (.s (.s .z)) .n)))))) ?_; refine At.H.pw 14 rfl rfl rfl rfl rfl (.c (.s (.s .z)) (.c (.s (.s .z)) (.c (.s (.s .z)) (.c (.s (.s .z)) (.c (.s (.s .z)) (.c (.s (.s .z)) .n)))))) ?_; refine At.H.al [15] (Q12 ?_ Q14)
            ··refine At.HO.op rfl ?_
              refine At.store rfl rfl rfl rfl (.s .z) rfl rfl rfl (.s (.s (.s (.s (.s (.c .n)))))) ?_; refine At.HO.back (.c (.s (.s .z)) (.c (.s (.s .z)) (.c (.s (.s .z)) (.c (.s (.s .z)) (.c (.s (.s .z)) (.c (.s (.s .z)) .n)))))) ?_; refine At.H.done (by kernel_rfl) ?_; exact At.of (J1544 (A1554, c1555) trivial) trivial
   ·clear hit1337 m1335; rintro m1335 ⟨x1101, x1107, x1111, w1102, w1104, w1105, w1106, w1108, w1109, w1110⟩ ⟨hit1337, hn1103, hr1112, hn1113, hc1114⟩; obtain rfl : x1101.length = w1102 := hn1103; obtain rfl : x1111.length = w1109 := hn1113; obtain ⟨m1336, f_, hlt1338, hf_, j⟩ := bit hit1337; clear hit1337; have j : (Q35.l0b a0_2 a0_3 a0_4 a0_5 a0_6 a0_7 x1101 x1107 x1111).bind _ = some o1332 := j; unfold Q35.l0b at j
    ·refine At.seq (At.seq (At.region (At.run 3 rfl (At.y (Y.load rfl rfl (.s (.s .z)) rfl rfl rfl) rfl rfl rfl ?_)))); refine At.y (Y.eqOpt (.s .z) rfl rfl rfl rfl) rfl rfl rfl ?_; refine At.run 1 rfl ?_; obtain ⟨G1757, hl1758, hr1759, j⟩ := bjoin j; refine At.joinO 4 (X := Bool) (fun x1756 => [(0, .pointer (some ⟨b0, 0, none⟩)), (2, .pointer (some ⟨b280, 0, none⟩)), (3, .slice w1104 x1101.length w1105), (45, .bool x1756)]) (fun x1756 => pt b0 (.cells [.slice w1108 x1111.length w1110, optp w1106, .int .i64 a0_2, .slice A0_3 a0_3.length c0_3, .slice A0_4 a0_4.length c0_4, .slice A0_5 a0_5.length c0_5, .slice A0_6 a0_6.length c0_6, .map (some b0_7)].toArray 114) :: optb (Ow.fl Q2.fl) 58 w1106 x1107 :: row Fl.bs 9 A0_3 a0_3.length c0_3 a0_3 :: row Q0.fl 35 A0_4 a0_4.length c0_4 a0_4 :: grow Q1.ow 37 A0_5 a0_5.length c0_5 a0_5 :: row Q4.fl 148 A0_6 a0_6.length c0_6 a0_6 :: mapo Fl.bs.ov Fl.bool.ov b0_7 a0_7 :: row (Fl.int .i64) 3 w1104 x1101.length w1105 x1101 :: pt b280 (.cells [.int .i64 t270.2.2.1, .int .i64 t270.2.2.2.1, .string ⟨(t270.2.2.2.2.1).toArray⟩, .int .i64 t270.2.2.2.2.2].toArray 116) :: Fr) (fun x1756 => G1757 (.inl x1756) = some o1332) ?_ (fun J1760 => ?_)
     ·rintro x1756 j; have j := (hl1758 _).symm.trans j
      ·refine At.nil (At.thn ?_); rcases bite j with ⟨h1761, j⟩ | ⟨h1761, j⟩
       ··refine At.condT rfl h1761 ?_
         refine At.skip (At.thn ?_); refine At.block ?_; refine At.seq (At.region (At.run 1 rfl ?_)); obtain ⟨t1762, hc1763, j⟩ := bbind j; refine At.call rfl Q50.callee rfl rfl rfl (Q50.spec _ _ b0 w1108 x1111.length w1110 w1106 A0_3 a0_3.length c0_3 A0_4 a0_4.length c0_4 A0_5 a0_5.length c0_5 A0_6 a0_6.length c0_6 b0_7 x1111 x1107 a0_2 a0_3 a0_4 a0_5 a0_6 a0_7 hr1112 rfl hc1114 rfl rfl rfl rfl hc1763) ?_; rintro _ _ ⟨w1764, w1765, w1766, w1767, rfl, rfl, hr1768, rfl, hc1770⟩; refine At.run 3 rfl ?_; refine At.alloc rfl rfl rfl (fun b1772 => ?_); refine At.store rfl rfl rfl rfl .z rfl rfl rfl (.c (.c (.c (.c .n)))) ?_; refine At.run 1 rfl (At.nil (At.thn (At.seq (At.seq (At.region (At.run 3 rfl (At.y (Y.load rfl rfl (.s (.s .z)) rfl rfl rfl) rfl rfl rfl ?_))))))); refine At.y (Y.eqOpt (.s .z) rfl rfl rfl rfl) rfl rfl rfl ?_; refine At.run 1 rfl ?_; obtain ⟨G1974, hl1975, hr1976, j⟩ := bjoin j; refine At.joinO 4 (X := Bool) (fun x1973 => [(0, .pointer (some ⟨b0, 0, none⟩)), (2, .pointer (some ⟨b280, 0, none⟩)), (3, .slice w1104 x1101.length w1105), (4, .pointer (some ⟨b1772, 0, none⟩)), (5, .int .i64 t1762.2.2.1), (60, .bool x1973)]) (fun x1973 => row (Fl.int .i64) 3 w1104 x1101.length w1105 x1101 :: pt b1772 (.cells [.int .i64 t1762.2.2.2.1, .int .i64 t1762.2.2.2.2.1, .string ⟨(t1762.2.2.2.2.2.1).toArray⟩, .int .i64 t1762.2.2.2.2.2.2].toArray 116) :: optb (Ow.fl Q2.fl) 58 w1764 t1762.1 :: pt b0 (.cells [.slice w1765 t1762.2.1.length w1767, optp w1764, .int .i64 a0_2, .slice A0_3 a0_3.length c0_3, .slice A0_4 a0_4.length c0_4, .slice A0_5 a0_5.length c0_5, .slice A0_6 a0_6.length c0_6, .map (some b0_7)].toArray 114) :: row Fl.bs 9 A0_3 a0_3.length c0_3 a0_3 :: row Q0.fl 35 A0_4 a0_4.length c0_4 a0_4 :: grow Q1.ow 37 A0_5 a0_5.length c0_5 a0_5 :: row Q4.fl 148 A0_6 a0_6.length c0_6 a0_6 :: mapo Fl.bs.ov Fl.bool.ov b0_7 a0_7 :: pt b280 (.cells [.int .i64 t270.2.2.1, .int .i64 t270.2.2.2.1, .string ⟨(t270.2.2.2.2.1).toArray⟩, .int .i64 t270.2.2.2.2.2].toArray 116) :: Fr) (fun x1973 => G1974 (.inl x1973) = some o1332) ?_ (fun J1977 => ?_)
         ·rintro x1973 j; have j := (hl1975 _).symm.trans j
          ·refine At.nil (At.thn ?_); obtain ⟨G1978, hl1979, hr1980, j⟩ := bjoin j; refine At.join (X := (Option Q2) × (Option Nat)) (fun s_ => [(0, .pointer (some ⟨b0, 0, none⟩)), (2, .pointer (some ⟨b280, 0, none⟩)), (3, .slice w1104 x1101.length w1105), (5, .int .i64 t1762.2.2.1)]) (fun s_ => optb (Ow.fl Q2.fl) 58 s_.2 s_.1 :: pt b0 (.cells [.slice w1765 t1762.2.1.length w1767, optp s_.2, .int .i64 a0_2, .slice A0_3 a0_3.length c0_3, .slice A0_4 a0_4.length c0_4, .slice A0_5 a0_5.length c0_5, .slice A0_6 a0_6.length c0_6, .map (some b0_7)].toArray 114) :: row Fl.bs 9 A0_3 a0_3.length c0_3 a0_3 :: row Q0.fl 35 A0_4 a0_4.length c0_4 a0_4 :: grow Q1.ow 37 A0_5 a0_5.length c0_5 a0_5 :: row Q4.fl 148 A0_6 a0_6.length c0_6 a0_6 :: mapo Fl.bs.ov Fl.bool.ov b0_7 a0_7 :: row (Fl.int .i64) 3 w1104 x1101.length w1105 x1101 :: pt b1772 (.cells [.int .i64 t1762.2.2.2.1, .int .i64 t1762.2.2.2.2.1, .string ⟨(t1762.2.2.2.2.2.1).toArray⟩, .int .i64 t1762.2.2.2.2.2.2].toArray 116) :: pt b280 (.cells [.int .i64 t270.2.2.1, .int .i64 t270.2.2.2.1, .string ⟨(t270.2.2.2.2.1).toArray⟩, .int .i64 t270.2.2.2.2.2].toArray 116) :: Fr) (fun s_ => G1978 (.inl s_.1) = some o1332) ?_ (fun J1981 => ?_)
           ·rintro ⟨x2183, w2182⟩ j; have j := (hl1979 _).symm.trans j
            ·refine At.region (At.run 2 rfl ?_); refine At.lit rfl (xo := [.tmp 65]) (ys := ([t1762.2.2.1] : List Int)) (Fl.int .i64) rfl rfl rfl rfl rfl rfl rfl rfl rfl rfl rfl (fun A2184 c2185 => ?_); obtain ⟨h2187, j⟩ := bnone j; refine At.append rfl (.s (.s (.s (.s (.s (.s (.s (.s .z)))))))) (Src.own .z (by simp)) rfl rfl rfl rfl rfl rfl rfl rfl h2187 (by decide) rfl (fun A2188 c2189 => ?_); refine At.drop (.s .z) (At.run 1 rfl (At.nil ?_)); refine At.ibn ?_; refine At.drop (.s (.s (.s (.s (.s (.s (.s (.s .z)))))))) ?_; have j := bnx hf_ j; exact fun a w e hs => ⟨m1336, ((x1101 ++ ([t1762.2.2.1] : List Int)), x2183, t1762.2.1, (x1101 ++ ([t1762.2.2.1] : List Int)).length, A2188, c2189, w2182, w1765, t1762.2.1.length, w1767), hlt1338, ⟨j, rfl, hr1768, rfl, hc1770⟩, e.sub ⟨rfl, rfl, rfl, trivial⟩, hs⟩
           ··rcases bite j with ⟨h2190, j⟩ | ⟨h2190, j⟩
             ··refine At.condT rfl h2190 ?_
               refine At.region (At.run 1 rfl (At.y (Y.load rfl rfl (.s .z) rfl rfl rfl) rfl rfl rfl (At.f8 (At.f8 (At.f8 (At.f8 (At.f8 ?_))))))); refine At.f7 (At.f8 ?_); obtain ⟨t2191, hc2192, j⟩ := bbind j; refine At.call rfl Q11.callee rfl rfl rfl (Q11.spec _ _ b0 w1765 t1762.2.1.length w1767 w1764 A0_3 a0_3.length c0_3 A0_4 a0_4.length c0_4 A0_5 a0_5.length c0_5 A0_6 a0_6.length c0_6 b0_7 t1762.2.1 t1762.1 a0_2 a0_3 a0_4 a0_5 a0_6 a0_7 t1762.2.2.2.1 t1762.2.2.2.2.1 t1762.2.2.2.2.2.1 t1762.2.2.2.2.2.2 9 hr1768 rfl hc1770 rfl rfl rfl rfl hc2192) ?_; rintro _ _ ⟨w2193, rfl, rfl⟩; refine At.nil (At.thn ?_); exact fun a w e hs => J1981 (t2191, w2193) j a w (e.sub ⟨rfl, rfl, rfl, rfl, trivial⟩) hs
             ··refine At.condF rfl (bn h2190) ?_
               refine At.skip (At.thn (At.f9 (At.f2 (At.f2 (At.f9 (At.f9 (At.f9 ?_))))))); refine At.f9 (At.f9 (At.f9 (At.f9 ?_))); exact fun a w e hs => J1981 (t1762.1, w1764) j a w (e.sub ⟨rfl, rfl, rfl, rfl, trivial⟩) hs
         ··rcases bite j with ⟨h2195, j⟩ | ⟨h2195, j⟩
           ··refine At.know (t := 56) rfl h2195 ?_
             refine At.run 2 rfl ?_; refine At.freeze (.s (.s (.s (.s (.s (.s (.s (.s .z)))))))) fun R2196 hr2197 hn2198 hc2199 hs2200 th2201 => ?_; obtain ⟨t2202, hc2203, j⟩ := bbind j; refine At.call rfl Q80.callee rfl rfl rfl (Q80.spec _ _ w1104 x1101.length w1105 x1101 t1762.2.2.1 hr2197 hn2198 hc2199 hc2203) ?_; rintro _ _ ⟨rfl, rfl⟩; refine At.run 1 rfl ?_; refine At.thaw th2201 ?_; exact At.of (J1977 t2202 j) ⟨rfl, rfl, rfl, rfl, rfl, rfl, trivial⟩
           ··refine At.know (t := 56) rfl (bn h2195) ?_
             refine At.run 4 rfl (At.f9 (At.f8 (At.f8 (At.f8 (At.f8 (At.f8 (At.f8 ?_))))))); refine At.f8 (At.f8 (At.f9 ?_)); exact At.of (J1977 false j) ⟨rfl, rfl, rfl, rfl, rfl, rfl, trivial⟩
       ··refine At.condF rfl (bn h1761) ?_
         refine At.exit ?_; refine At.the ?_; refine At.the ?_; exact fun a w e hs => J1339 (x1107, x1101, x1111, w1106, x1101.length, w1104, w1105, w1108, x1111.length, w1110) ⟨(bdn j ho1334), rfl, hr1112, rfl, hc1114⟩ a w (e.sub ⟨rfl, rfl, rfl, trivial⟩) hs
     ··rcases bite j with ⟨h2204, j⟩ | ⟨h2204, j⟩
       ··refine At.know (t := 41) rfl h2204 ?_
         refine At.run 1 rfl (At.f7 (At.f7 (At.f7 (At.f7 (At.f7 (At.f6 (At.f7 ?_))))))); obtain ⟨t2205, hc2206, j⟩ := bbind j; refine At.call rfl Q60.callee rfl rfl rfl (Q60.spec _ _ b0 w1108 x1111.length w1110 w1106 A0_3 a0_3.length c0_3 A0_4 a0_4.length c0_4 A0_5 a0_5.length c0_5 A0_6 a0_6.length c0_6 b0_7 x1111 x1107 a0_2 a0_3 a0_4 a0_5 a0_6 a0_7 hr1112 rfl hc1114 rfl rfl rfl rfl hc2206) ?_; rintro _ _ ⟨rfl, rfl⟩; refine At.run 2 rfl ?_; exact At.of (J1760 (!t2205) j) ⟨rfl, rfl, rfl, rfl, trivial⟩
       ··refine At.know (t := 41) rfl (bn h2204) ?_
         refine At.run 4 rfl (At.f8 (At.f1 (At.f8 (At.f8 (At.f8 (At.f8 (At.f8 ?_))))))); refine At.f7 (At.f8 ?_); exact At.of (J1760 false j) ⟨rfl, rfl, rfl, rfl, trivial⟩
 ··refine At.block ?_
   refine At.seq (At.region (At.run 3 rfl (At.y (Y.load rfl rfl (.s (.s .z)) rfl rfl rfl) rfl rfl rfl ?_))); refine At.y (Y.neOpt (.s .z) rfl rfl rfl rfl) rfl rfl rfl ?_; refine At.run 1 rfl (At.nil (At.thn ?_)); rcases bite j with ⟨h2207, j⟩ | ⟨h2207, j⟩
   ··refine At.condF rfl (nf h2207) ?_
     refine At.seq (At.region (At.run 4 rfl (At.y (Y.load rfl rfl (.s (.s .z)) rfl rfl rfl) rfl rfl rfl (At.run 3 rfl (At.nil (At.thn ?_)))))); rcases bite j with ⟨h2208, j⟩ | ⟨h2208, j⟩
     ··refine At.condT rfl (decide_eq_true h2208) ?_
       refine At.region (At.run 1 rfl (At.y (Y.load rfl rfl .z rfl rfl rfl) rfl rfl rfl (At.f7 (At.f7 (At.f7 (At.f7 (At.f7 ?_))))))); refine At.f6 (At.f7 ?_); obtain ⟨t2209, hc2210, j⟩ := bbind j; refine At.call rfl Q11.callee rfl rfl rfl (Q11.spec _ _ b0 w273 t270.2.1.length w275 w272 A0_3 a0_3.length c0_3 A0_4 a0_4.length c0_4 A0_5 a0_5.length c0_5 A0_6 a0_6.length c0_6 b0_7 t270.2.1 t270.1 a0_2 a0_3 a0_4 a0_5 a0_6 a0_7 t270.2.2.1 t270.2.2.2.1 t270.2.2.2.2.1 t270.2.2.2.2.2 10 hr276 rfl hc278 rfl rfl rfl rfl hc2210) ?_; rintro _ _ ⟨w2211, rfl, rfl⟩; refine At.nil ?_; refine At.ibn ?_; refine At.thn ?_; exact fun a w e hs => J284 (t2209, w2211) j a w (e.sub ⟨rfl, rfl, trivial⟩) hs
     ··refine At.condF rfl (decide_eq_false h2208) ?_
       refine At.seq (At.region (At.run 4 rfl (At.y (Y.load rfl rfl (.s (.s .z)) rfl rfl rfl) rfl rfl rfl (At.run 1 rfl ?_)))); refine At.freezeGrow (.s (.s (.s (.s (.s .z))))) fun R2213 hr2214 hn2215 hc2216 hs2217 th2218 => ?_; obtain ⟨t2219, hc2220, j⟩ := bbind j; refine At.call rfl Q75.callee rfl rfl rfl (Q75.spec _ _ A0_5 a0_5.length c0_5 b280 a0_5 t270.2.2.1 t270.2.2.2.1 t270.2.2.2.2.1 t270.2.2.2.2.2 hr2214 hn2215 hc2216 hc2220) ?_; rintro _ _ ⟨rfl, rfl⟩; refine At.run 1 rfl (At.nil (At.thn ?_)); rcases bite j with ⟨h2221, j⟩ | ⟨h2221, j⟩
       ··refine At.condT rfl h2221 ?_
         refine At.region (At.run 1 rfl (At.y (Y.load rfl rfl .z rfl rfl rfl) rfl rfl rfl ?_)); refine At.thaw th2218 ?_; refine At.f7 (At.f7 (At.f2 (At.f7 (At.f7 (At.f6 (At.f7 ?_)))))); obtain ⟨t2222, hc2223, j⟩ := bbind j; refine At.call rfl Q11.callee rfl rfl rfl (Q11.spec _ _ b0 w273 t270.2.1.length w275 w272 A0_3 a0_3.length c0_3 A0_4 a0_4.length c0_4 A0_5 a0_5.length c0_5 A0_6 a0_6.length c0_6 b0_7 t270.2.1 t270.1 a0_2 a0_3 a0_4 a0_5 a0_6 a0_7 t270.2.2.1 t270.2.2.2.1 t270.2.2.2.2.1 t270.2.2.2.2.2 9 hr276 rfl hc278 rfl rfl rfl rfl hc2223) ?_; rintro _ _ ⟨w2224, rfl, rfl⟩; refine At.nil ?_; refine At.ibn ?_; refine At.thn ?_; exact fun a w e hs => J284 (t2222, w2224) j a w (e.sub ⟨rfl, rfl, trivial⟩) hs
       ··refine At.condF rfl (bn h2221) ?_
         refine At.skip ?_; refine At.ibn ?_; refine At.thn ?_; refine At.thaw th2218 ?_; refine At.f1 (At.f7 (At.f7 (At.f3 (At.f7 (At.f7 (At.f7 (At.f7 ?_))))))); exact fun a w e hs => J284 (t270.1, w272) j a w (e.sub ⟨rfl, rfl, trivial⟩) hs
   ··refine At.condT rfl (nt (bn h2207)) ?_
     refine At.ret ?_; refine At.ibr ?_; have j := bup hr283 j; refine At.thr (At.drop .z ?_); cases bret j; exact At.res (.inl rfl) rfl rfl ⟨a0_5.length, A0_5, c0_5, w272, w273, t270.2.1.length, w275, rfl, rfl, rfl, hr276, rfl, hc278⟩

noncomputable def Q88.f (a0 : List Bs) : Option (List Bs) := if a0.length < 4611686018427387904 then some (a0.mergeSort fun x y => decide (x ≤ y)) else none
theorem Q88.callee : Callee Tryz.prog 105 := ⟨_, Tryz.func105, by kernel_rfl, by kernel_rfl⟩
theorem Q88.spec (R : Res) (Fr : List HProp) (A0 : Option Addr) (n0 : Nat) (c0 : Nat) (a0 : List Bs) (hn0 : a0.length = n0) {r : List Bs} (j : Q88.f a0 = some r) :
 Spec Tryz.prog 105 [.slice A0 n0 c0] R (row Fl.bs 9 A0 n0 c0 a0 :: Fr) (fun v l' => v = .tuple #[] ∧ row Fl.bs 9 A0 n0 c0 r :: Fr = l') := by
 unfold Q88.f at j; split at j
 ·rename_i hb; cases j; exact Q247 Tryz.sort105 R Fr hb
 ·cases j

noncomputable def Q23.l0b (a0 : List Bs) (a1 : Bs) (x853 : Int) : Option ((Int) ⊕ ((Unit) ⊕ (Int))) :=
 if x853 < (a0.length : Int) then
 if (0 : Int) ≤ x853 ∧ x853 < (a0.length : Int) then
 if bseq a1 (gt a0 x853) = true then
 upL (some x853)
 else
 nx (IntKind.i64.wrap (x853 + 1))
 else none
 else
 dn (.inl ())
noncomputable def Q23.l0 (a0 : List Bs) (a1 : Bs) (x853 : Int) : Option ((Unit) ⊕ (Int)) := iter (fun t_ : Int => Q23.l0b a0 a1 t_) x853
noncomputable def Q23.f (a0 : List Bs) (a1 : Bs) : Option Int :=
 jn (Q23.l0 a0 a1 0) (fun (_ : Unit) =>
 some (-1))
theorem Q23.callee : Callee Tryz.prog 106 := ⟨_, Tryz.func106, by kernel_rfl, by kernel_rfl⟩
theorem Q23.spec (R : Res) (Fr : List HProp) (A0 : Option Addr) (n0 : Nat) (c0 : Nat) (a0 : List Bs) (a1 : Bs) (hr0 : RdS Fl.bs.rep R.heap A0 a0) (hn0 : a0.length = n0) (hc0 : n0 ≤ c0) {r : Int} (j : Q23.f a0 a1 = some r) :
 Spec Tryz.prog 106 [.slice A0 n0 c0, .string ⟨(a1).toArray⟩] R (Fr) (fun v l' => v = .int .i64 r ∧ Fr = l') := by
 subst hn0; refine Spec.of Tryz.func106 rfl rfl ?_; unfold Q23.f at j; have j := brun j; refine At.seq (At.region (At.run 1 rfl (At.nil (At.thn (At.seq (At.seq (At.region ?_))))))); refine At.run 3 rfl (At.nil (At.thn ?_)); refine At.block ?_; obtain ⟨G1054, hl1055, hr1056, j⟩ := bjoin j; obtain ⟨o1057, hlo1058, ho1059⟩ := bsome j; clear j; unfold Q23.l0 at hlo1058; obtain ⟨m1060, hit1062⟩ := Q17.1 hlo1058; clear hlo1058; refine At.loopJ (X := Int) (Y := Unit) (e0 := 0) (fun x853 => [(0, .slice A0 a0.length c0), (1, .string ⟨(a1).toArray⟩), (7, .int .i64 (a0.length : Int)), (8, .int .i64 x853)]) (fun x853 => Fr) (fun m_ => fun x853 => iterN (fun t_ : Int => Q23.l0b a0 a1 t_) m_ x853 = some o1057) m1060 0 hit1062 (fun _ => []) (fun _ => Fr) (fun _ => G1054 (.inl ()) = some r) (fun a w e hs => ⟨e.sub ⟨rfl, rfl, rfl, rfl, trivial⟩, (by exact hs)⟩) ?_ (fun J1064 => ?_)
 ·rintro _ j; have j := (hl1055 _).symm.trans j
  ·refine At.ibx ?_; refine At.thn (At.seq (At.region (At.run 1 rfl (At.nil (At.thn (At.ret ?_)))))); cases bret j; exact At.res (.inl rfl) rfl rfl ⟨rfl, rfl⟩
 ·clear hit1062 m1060; rintro m1060 x853 hit1062; obtain ⟨m1061, f_, hlt1063, hf_, j⟩ := bit hit1062; clear hit1062; have j : (Q23.l0b a0 a1 x853).bind _ = some o1057 := j; unfold Q23.l0b at j
  ·refine At.seq (At.region (At.run 1 rfl (At.nil (At.thn (At.seq ?_))))); rcases bite j with ⟨h1065, j⟩ | ⟨h1065, j⟩
   ··refine At.condT rfl (decide_eq_true h1065) ?_
     refine At.skip (At.thn (At.seq ?_)); refine At.block ?_; refine At.seq (At.region (At.run 2 rfl (At.nil (At.thn (At.seq (At.region (At.run 3 rfl ?_))))))); obtain ⟨h1066, j⟩ := bnone j; refine At.y (Y.ixRd hr0 rfl rfl rfl rfl rfl rfl rfl h1066.1 h1066.2) rfl rfl rfl (At.y (Y.ldFl hr0 rfl (q := 0) rfl rfl h1066.1 h1066.2 rfl rfl rfl) rfl rfl rfl (At.run 1 rfl (At.nil (At.thn ?_)))); rcases bite j with ⟨h1067, j⟩ | ⟨h1067, j⟩
     ··refine At.condT rfl h1067 ?_
       refine At.seq (At.region (At.run 2 rfl (At.nil (At.thn (At.ret ?_))))); refine At.ibr ?_; refine At.thr ?_; have j := bupL hr1056 ho1059 j; refine At.thr ?_; refine At.ibr ?_; refine At.thr ?_; cases bret j; exact At.res (.inl rfl) rfl rfl ⟨rfl, rfl⟩
     ··refine At.condF rfl (bn h1067) ?_
       refine At.skip ?_; refine At.ibn ?_; refine At.thn (At.region (At.run 2 rfl (At.nil ?_))); have j := bnx hf_ j; exact fun a w e hs => ⟨m1061, (IntKind.i64.wrap (x853 + 1)), hlt1063, j, e.sub ⟨rfl, rfl, rfl, rfl, trivial⟩, hs⟩
   ··refine At.condF rfl (decide_eq_false h1065) ?_
     refine At.exit ?_; refine At.the ?_; refine At.the ?_; exact fun a w e hs => J1064 () (bdn j ho1059) a w (e.sub trivial) hs

noncomputable def Q51.cmp (x y : Q0) : Option Int := Q56.f x.From x.Action x.To y.From y.Action y.To
open Classical in
noncomputable def Q51.f (a0 : List Q0) : Option (List Q0) := if a0.length < 4611686018427387904 ∧ CmpTot Q51.cmp then some (byCmp Q51.cmp a0) else none
theorem Q51.callee : Callee Tryz.prog 42 := ⟨_, Tryz.func42, by kernel_rfl, by kernel_rfl⟩
theorem Q51.spec (R : Res) (Fr : List HProp) (A0 : Option Addr) (n0 : Nat) (c0 : Nat) (a0 : List Q0) (hn0 : a0.length = n0) {r : List Q0} (j : Q51.f a0 = some r) :
 Spec Tryz.prog 42 [.slice A0 n0 c0, .func (.func 55) #[] #[]] R (row Q0.fl 35 A0 n0 c0 a0 :: Fr) (fun v l' => v = .tuple #[] ∧ row Q0.fl 35 A0 n0 c0 r :: Fr = l') := by
 unfold Q51.f at j; split at j
 ·rename_i hb; cases j; refine Q245 Tryz.sort42 Q0.fl (fun w => (Q10 (P := Tryz.prog) (t := 35) (i := Tryz.ti35) rfl).run_isAgg w) (fun w => (Q10 (P := Tryz.prog) (t := 35) (i := Tryz.ti35) rfl).run_sizeOf w) (gcf Q51.cmp) hb.2.1.2 hb.2.2 55 (enters_of Tryz.func55 (by kernel_rfl) rfl) (fun R x y => Q56.spec R [] _ _ _ _ _ _ (gcf_eq hb.2.1 x y)) R Fr hb.1
 ·cases j

noncomputable def Q52.cmp (x y : Q1) : Option Int := Q65.f x.Name x.States y.Name y.States
open Classical in
noncomputable def Q52.f (a0 : List Q1) : Option (List Q1) := if a0.length < 4611686018427387904 ∧ CmpSwo Q52.cmp ∧ CmpParts Q52.cmp a0 then some (byCmp Q52.cmp a0) else none
theorem Q52.callee : Callee Tryz.prog 107 := ⟨_, Tryz.func107, by kernel_rfl, by kernel_rfl⟩
theorem Q52.spec (R : Res) (Fr : List HProp) (A0 : Option Addr) (n0 : Nat) (c0 : Nat) (a0 : List Q1) (hn0 : a0.length = n0) {r : List Q1} (j : Q52.f a0 = some r) :
 Spec Tryz.prog 107 [.slice A0 n0 c0, .func (.func 59) #[] #[]] R (grow Q1.ow 37 A0 n0 c0 a0 :: Fr) (fun v l' => v = .tuple #[] ∧ grow Q1.ow 37 A0 n0 c0 r :: Fr = l') := by
 unfold Q52.f at j; split at j
 ·rename_i hb; cases j; refine Q237 Tryz.sort107 Q1.ow (fun w => (Q10 (P := Tryz.prog) (t := 37) (i := Tryz.ti37) rfl).run_isAgg w) (fun w => (Q10 (P := Tryz.prog) (t := 37) (i := Tryz.ti37) rfl).run_sizeOf w) (gcf Q52.cmp) hb.2.1.2 59 (enters_of Tryz.func59 (by kernel_rfl) rfl) ?_ R Fr hb.1 hb.2.2; rintro R x y cs cs' ⟨_, _, rfl, rfl, ⟨_, _, rfl, hc0_1, hr0_1⟩⟩ ⟨_, _, rfl, rfl, ⟨_, _, rfl, hc1_1, hr1_1⟩⟩; exact Q65.spec R [] _ _ _ _ _ _ _ _ _ _ hr0_1 rfl hc0_1 hr1_1 rfl hc1_1 (gcf_eq hb.2.1 x y)
 ·cases j

end Go.Bw
namespace Go.Bw
open Go Go.RowKit

noncomputable def anyOrder {α β : Type} (xs : List α) (F : List α → Option β) : Option β :=
 open Classical in if h : ∃ r, ∀ ys, ys.Perm xs → F ys = some r then some h.choose else none
theorem Q193 {α β : Type} {xs : List α} {F : List α → Option β} {r : β} : anyOrder xs F = some r ↔ ∀ ys, ys.Perm xs → F ys = some r := by
 unfold anyOrder
 constructor
 ·intro h
  split at h
  ·rename_i hx
   have := Option.some.inj h
   intro ys hy
   rw [← this]
   exact hx.choose_spec ys hy
  ·cases h
 ·intro h
  have hx : ∃ r, ∀ ys, ys.Perm xs → F ys = some r := ⟨r, h⟩
  rw [dif_pos hx]
  have h1 := hx.choose_spec xs (List.Perm.refl _)
  rw [h xs (List.Perm.refl _)] at h1
  exact h1.symm
theorem banyOrder {α β ω : Type} {xs : List α} {F : List α → Option β} {G : β → Option ω} {r : ω} (h : (anyOrder xs F).bind G = some r) : ∀ ys, ys.Perm xs → (F ys).bind G = some r := by
 obtain ⟨t, h1, h2⟩ := bsome h
 intro ys hy
 rw [Q193.1 h1 ys hy]
 exact h2
def foldO {σ α : Type} (step : σ → α → Option σ) : σ → List α → Option σ
 | s, [] => some s
 | s, x :: xs => (step s x).bind fun t => foldO step t xs
theorem Q164 {σ α : Type} {step : σ → α → Option σ} : ∀ {xs ys : List α} {s : σ}, foldO step s (xs ++ ys) = (foldO step s xs).bind fun t => foldO step t ys
 | [], _, _ => rfl
 | x :: xs, ys, s => by
  show (step s x).bind _ = ((step s x).bind _).bind _
  cases step s x with
  | none => rfl
  | some t => exact Q164 (xs := xs)
theorem foldO_go {σ α ω : Type} {step : σ → α → Option σ} {kvs : List α} {done rest : List α} {x : α} {s0 s : σ} {G : σ → Option ω} {r : ω} (h : ∀ ys, ys.Perm kvs → (foldO step s0 ys).bind G = some r) (hs : foldO step s0 done = some s) (hp : (done ++ x :: rest).Perm kvs) :
 ∃ t, step s x = some t ∧ foldO step s0 (done ++ [x]) = some t := by
 have := h _ hp
 rw [Q164, hs] at this
 obtain ⟨u, h1, _⟩ := bsome this
 obtain ⟨t, h2, _⟩ := bsome (show (step s x).bind (fun t => foldO step t rest) = some u from h1)
 refine ⟨t, h2, ?_⟩
 rw [Q164, hs]
 show (step s x).bind (fun t => foldO step t []) = _
 rw [h2]
 rfl
theorem foldO_end {σ α ω : Type} {step : σ → α → Option σ} {kvs : List α} {done : List α} {s0 s : σ} {G : σ → Option ω} {r : ω} (h : ∀ ys, ys.Perm kvs → (foldO step s0 ys).bind G = some r) (hs : foldO step s0 done = some s) (hp : done.Perm kvs) : G s = some r := by
 have := h _ hp
 rw [hs] at this
 exact this
noncomputable def ordered {σ τ α β : Type} (kvs : List α) (step : σ → α → Option σ) (s0 : σ) (out : σ → τ) (f : τ → Option β) : Option β := anyOrder kvs fun ys => (foldO step s0 ys).bind fun s => f (out s)
theorem bordered {σ τ α β ω : Type} {kvs : List α} {step : σ → α → Option σ} {s0 : σ} {out : σ → τ} {f : τ → Option β} {G0 : β → Option ω} {r : ω} (h : (ordered kvs step s0 out f).bind G0 = some r) :
 ∃ G : τ → Option ω, (∀ y, G y = (f y).bind G0) ∧ ∀ ys, ys.Perm kvs → (foldO step s0 ys).bind (fun s => G (out s)) = some r :=
 ⟨fun y => (f y).bind G0, fun _ => rfl, fun ys hy => by
  have := banyOrder h ys hy
  rwa [Option.bind_assoc] at this⟩
theorem rng_lt {α : Type} {kvs done tl : List α} {z : α} {m : Nat} (hp : (done ++ z :: tl).Perm kvs) (hm : m + done.length = kvs.length) : tl.length < m ∧ tl.length + (done ++ [z]).length = kvs.length := by
 have := hp.length_eq
 simp at this ⊢
 omega
theorem Q209 {α : Type} (xs : List α) : (List.range xs.length).filterMap (fun i => xs[i]?) = xs := by
 induction xs with
 | nil => rfl
 | cons x xs ih =>
  rw [List.length_cons, List.range_succ_eq_map, List.filterMap_cons, List.filterMap_map]
  simp only [List.getElem?_cons_zero, Function.comp_def, List.getElem?_cons_succ]
  rw [ih]
theorem Q195 {α : Type} {xs done : List α} {is : List Nat} (hd : done.map some = is.map fun i => xs[i]?) : done = is.filterMap fun i => xs[i]? := by
 induction is generalizing done with
 | nil => cases done <;> simp at hd ⊢
 | cons i is ih =>
  cases done with
  | nil => simp at hd
  | cons x done =>
   simp only [List.map_cons, List.cons.injEq] at hd
   rw [List.filterMap_cons, ← hd.1, ← ih hd.2]
theorem idx_perm {α : Type} {xs done : List α} {is : List Nat} (hn : is.Nodup) (hl : ∀ i ∈ is, i < xs.length) (hd : done.map some = is.map fun i => xs[i]?) : ∃ rest, (done ++ rest).Perm xs := by
 refine ⟨((List.range xs.length).filter fun i => !is.contains i).filterMap fun i => xs[i]?, ?_⟩
 rw [Q195 hd, ← List.filterMap_append]
 have hp : (is ++ (List.range xs.length).filter fun i => !is.contains i).Perm (List.range xs.length) := by
  refine (List.perm_ext_iff_of_nodup ?_ List.nodup_range).2 fun a => ?_
  ·rw [List.nodup_append]
   refine ⟨hn, List.nodup_range.filter _, fun a ha b hb hab => ?_⟩
   subst hab
   simp at hb
   exact hb.2 ha
  ·simp only [List.mem_append, List.mem_filter, List.mem_range]
   constructor
   ·rintro (h | h)
    ·exact hl a h
    ·exact h.1
   ·intro h
    by_cases ha : a ∈ is
    ·exact .inl ha
    ·exact .inr ⟨h, by simpa using ha⟩
 have := hp.filterMap fun i => xs[i]?
 rwa [Q209] at this
theorem idx_full {α : Type} {xs done : List α} {is : List Nat} (hn : is.Nodup) (hl : ∀ i ∈ is, i < xs.length) (hf : ∀ i < xs.length, i ∈ is) (hd : done.map some = is.map fun i => xs[i]?) : done.Perm xs := by
 rw [Q195 hd]
 have hp : is.Perm (List.range xs.length) := (List.perm_ext_iff_of_nodup hn List.nodup_range).2 fun a => by
  rw [List.mem_range]
  exact ⟨hl a, hf a⟩
 have := hp.filterMap fun i => xs[i]?
 rwa [Q209] at this
section
variable {κ ν : Type}
def rngo (kv : κ → Value) (vv : ν → Value) (b r : Nat) (kvs done : List (κ × ν)) : HProp := fun h =>
 ∃ (es : List MapEntry) (clock since stp : Nat) (seen : Array Nat) (is : List Nat), h b = some (.map es.toArray clock) ∧ h r = some (.mapIter (some b) since seen stp) ∧ b ≠ r ∧
  es.map (fun e => (e.key, e.val)) = kvs.map (fun p => (kv p.1, vv p.2)) ∧ es.Pairwise (fun x y => x.born < y.born) ∧ (∀ e ∈ es, e.born < clock) ∧ since = clock ∧ stp = clock ∧
  is.Nodup ∧ (∀ i ∈ is, i < kvs.length) ∧ (done.map some = is.map fun i => kvs[i]?) ∧ seen.toList.map some = is.map fun i => es[i]?.map (·.born)
end
section
variable {P : Program} [Tys P] {os : List Oper} {Q : Exit → Act → World → Prop} {rest : List Oper} {n : Nat} {ds : List Deferred} {R : Res} {env : List (Nat × Value)} {l l' : List HProp}
variable {d ty t : Nat} {pos : String} {af : Array Edge} {g : Option (Nat × Bool)} {κ ν : Type} [DecidableEq κ] {kv : κ → Value} {vv : ν → Value} {kvs done : List (κ × ν)} {b r kt et : Nat} {K : Act → World → Prop}
theorem At.rangeMap {x : Operand} {ii : TI} (f : Frt l (mapo kv vv b kvs) l') (hg : grd os env g = some true) (hi : ti P t = some ii) (hk : ii.k = .map kt et) (hx : ev env x = some (.map (some b))) (hd : Nat.blt d n = true)
 (h : ∀ r, At n ds R ((d, .pointer (some ⟨r, 0, none⟩)) :: env) (rngo kv vv b r kvs [] :: l') (wpList P os.toArray Q rest)) :
 At n ds R env l (wpList P os.toArray Q (⟨some d, .range t x, ty, pos, af, g⟩ :: rest)) := Q91 hg rfl hd fun a w e hs => by
 have hs1 := hs.frt f
 obtain ⟨es, clock, hb, _⟩ := Q143 hs1
 have hgo : (getObj b).run P w = .ok (.map es.toArray clock) w := MapKept.run_getObj_map hb
 have h1 := hs1.alloc (.mapIter (some b) clock #[] clock)
 refine ⟨_, w.alloc (.mapIter (some b) clock #[] clock), rngo kv vv b w.heap.size kvs [] :: l', ?_, ?_, h w.heap.size⟩
 ·simp [execOp, Instr.range, e.ev hx, run_underlying ((Q10 hi).map hk), hgo, Result.andThen]
 ·obtain ⟨ok, h0, ⟨k1, k2, p1, ⟨k3, k4, m1, st, d2, s3, s4⟩, d1, s1, s2⟩, dR, ss⟩ := h1
  have d13 : Disj k1 k3 := d1.sub (Sub.refl _) s3
  refine ⟨ok, h0, ⟨uni k1 k3, k4, ?_, st, Disj.uni_l (d1.sub (Sub.refl _) s4) d2, Q100 s1 (s3.trans s2), s4.trans s2⟩, dR, ss⟩
  obtain ⟨es', clock', hb', hm, hp, hc⟩ := m1
  have hne : b ≠ w.heap.size := fun e => by subst e; exact d13 _ _ _ p1 hb'
  have hbb : w.heap[b]? = some (.map es.toArray clock) := hb
  have heq : Obj.map es'.toArray clock' = .map es.toArray clock := by
   have h5 : (w.alloc (.mapIter (some b) clock #[] clock)).heap[b]? = some (.map es'.toArray clock') := ss _ _ (s2 _ _ (s3 _ _ hb'))
   rw [Below.heap_alloc _ _ _ (Array.getElem?_eq_some_iff.1 hb).1, hbb] at h5
   exact (Option.some.inj h5).symm
  cases heq
  exact ⟨es, clock, clock, clock, #[], [], Q89 d13 _ _ hb', Q90 k1 k3 _ _ p1, hne, hm, hp, hc, rfl, rfl, List.nodup_nil, by simp, by simp, by simp⟩
theorem sat_rng {w : World} (hs : sat R (rngo kv vv b r kvs done :: l) w) : ∃ (es : List MapEntry) (clock : Nat) (seen : Array Nat) (is : List Nat), w.heap[b]? = some (.map es.toArray clock) ∧ w.heap[r]? = some (.mapIter (some b) clock seen clock) ∧ b ≠ r ∧
 es.map (fun e => (e.key, e.val)) = kvs.map (fun p => (kv p.1, vv p.2)) ∧ es.Pairwise (fun x y => x.born < y.born) ∧ (∀ e ∈ es, e.born < clock) ∧
 is.Nodup ∧ (∀ i ∈ is, i < kvs.length) ∧ (done.map some = is.map fun i => kvs[i]?) ∧ seen.toList.map some = is.map fun i => es[i]?.map (·.born) := by
 obtain ⟨h1, ⟨es, clock, since, stp, seen, is, a1, a2, a3, a4, a5, a6, rfl, rfl, a7⟩, s⟩ := hs.head
 exact ⟨es, _, seen, is, s _ _ a1, s _ _ a2, a3, a4, a5, a6, a7⟩
theorem At.nextMap {x : Operand} (hg : grd os env g = some true) (hx : ev env x = some (.pointer (some ⟨r, 0, none⟩))) (f : Frt l (rngo kv vv b r kvs done) l') (hd : Nat.blt d n = true)
 (hF : done.Perm kvs → At n ds R ((d, .tuple #[.bool false]) :: env) (rngo kv vv b r kvs done :: l') (wpList P os.toArray Q rest))
 (hT : ∀ (z : κ × ν) tl, (done ++ z :: tl).Perm kvs → At n ds R ((d, .tuple #[.bool true, kv z.1, vv z.2]) :: env) (rngo kv vv b r kvs (done ++ [z]) :: l') (wpList P os.toArray Q rest)) :
 At n ds R env l (wpList P os.toArray Q (⟨some d, .next x false, ty, pos, af, g⟩ :: rest)) := Q91 hg rfl hd fun a w e hs => by
 have hs1 := hs.frt f
 obtain ⟨es, clock, seen, is, hb, hr, hne, hm, hbn, hcl, hn, hl, hdn, hsn⟩ := sat_rng hs1
 have hlen : es.length = kvs.length := Q153 hm
 have hinj : ∀ i j, i < es.length → j < es.length → es[i]?.map (·.born) = es[j]?.map (·.born) → i = j := fun i j hi hj he => by
  rw [List.getElem?_eq_getElem hi, List.getElem?_eq_getElem hj] at he
  simp at he
  have hp := List.pairwise_iff_getElem.1 hbn
  rcases Nat.lt_trichotomy i j with h3 | h3 | h3
  ·have := hp i j hi hj h3; omega
  ·exact h3
  ·have := hp j i hj hi h3; omega
 have hseen : ∀ i, i < es.length → (seen.contains (es[i]?.map (·.born)).get! = true ↔ i ∈ is) := fun i hi => by
  rw [List.getElem?_eq_getElem hi]
  simp only [Option.map_some, Option.get!_some]
  rw [Array.contains_iff_mem, ← Array.mem_toList_iff]
  constructor
  ·intro h
   have : some es[i].born ∈ seen.toList.map some := List.mem_map_of_mem h
   rw [hsn] at this
   obtain ⟨j, hj, hje⟩ := List.mem_map.1 this
   have := hinj j i (by rw [hlen]; exact hl j hj) hi (by rw [hje, List.getElem?_eq_getElem hi]; rfl)
   subst this; exact hj
  ·intro h
   have : es[i]?.map (·.born) ∈ seen.toList.map some := by rw [hsn]; exact List.mem_map_of_mem (f := fun i => es[i]?.map (·.born)) h
   obtain ⟨q, hq, hqe⟩ := List.mem_map.1 this
   rw [List.getElem?_eq_getElem hi] at hqe
   simp at hqe
   rw [← hqe]; exact hq
 rcases run_next_at (P := P) w ty r b clock clock seen es.toArray clock hr hb (fun x hx => hcl x (by simpa using hx)) (Nat.le_refl _) with ⟨h0, hrun⟩ | ⟨e1, he, w1, hal, hrun⟩
 ·refine ⟨.tuple #[.bool false], w, rngo kv vv b r kvs done :: l', ?_, hs1, hF ?_⟩
  ·simp only [execOp, e.ev hx, Sem.run_bind, hrun, Result.andThen, Sem.run_pure]
  ·refine idx_full hn hl (fun i hi => ?_) hdn
   have hi' : i < es.length := by omega
   have := all_seen es.toArray seen h0 es[i] (by simp)
   refine (hseen i hi').1 ?_
   rw [List.getElem?_eq_getElem hi']
   simpa using this
 ·obtain ⟨hem, hes⟩ := mem_left he
  have hem' : e1 ∈ es := by simpa using hem
  obtain ⟨i, hi, hie⟩ := List.getElem_of_mem hem'
  have hi' : i < kvs.length := by omega
  have hnot : i ∉ is := fun h => by
   have := (hseen i hi).2 h
   rw [List.getElem?_eq_getElem hi, hie] at this
   simp at this hes
   exact hes this
  have hkv : (e1.key, e1.val) = (kv kvs[i].1, vv kvs[i].2) := by
   have := congrArg (fun l => l[i]?) hm
   simp only [List.getElem?_map, List.getElem?_eq_getElem hi, List.getElem?_eq_getElem hi', Option.map_some, hie] at this
   exact Option.some.inj this
  obtain ⟨hk1, hk2⟩ := Prod.mk.inj hkv
  have hn' : (is ++ [i]).Nodup := by
   rw [List.nodup_append]
   exact ⟨hn, by simp, fun a ha c hc hac => by simp at hc; subst hc hac; exact hnot ha⟩
  have hl' : ∀ j ∈ is ++ [i], j < kvs.length := fun j hj => by
   rcases List.mem_append.1 hj with h | h
   ·exact hl j h
   ·simp at h; subst h; exact hi'
  have hdn' : (done ++ [kvs[i]]).map some = (is ++ [i]).map fun j => kvs[j]? := by
   rw [List.map_append, List.map_append, hdn]
   simp [hi']
  obtain ⟨tl, htl⟩ := idx_perm hn' hl' hdn'
  refine ⟨.tuple #[.bool true, kv kvs[i].1, vv kvs[i].2], ChangeMaps.setBlock w1 r (.mapIter (some b) clock (seen.push e1.born) clock), rngo kv vv b r kvs (done ++ [kvs[i]]) :: l', ?_, ?_, hT kvs[i] tl (by simpa using htl)⟩
  ·simp only [execOp, e.ev hx, Sem.run_bind, hrun, Result.andThen, Sem.run_pure, hk1, hk2]
  ·have hs2 : sat R (rngo kv vv b r kvs done :: l') w1 := by rcases hal with rfl | rfl <;> first | exact hs1 | exact hs1.drew
   have hb1 : w1.heap[b]? = some (.map es.toArray clock) := by rcases hal with rfl | rfl <;> exact hb
   have hr1 : w1.heap[r]? = some (.mapIter (some b) clock seen clock) := by rcases hal with rfl | rfl <;> exact hr
   obtain ⟨h1, ⟨es2, c2, s2, q2, seen2, is2, a1, a2, _⟩, s, kk⟩ := hs2.upd
   have hset := MapKept.heap_set (o' := .mapIter (some b) clock (seen.push e1.born) clock) hr1
   refine kk _ (fun x => if x = r then some (.mapIter (some b) clock (seen.push e1.born) clock) else h1 x) _ ⟨es, clock, clock, clock, seen.push e1.born, is ++ [i], ?_, if_pos rfl, hne, hm, hbn, hcl, rfl, rfl, hn', hl', hdn', ?_⟩ rfl rfl rfl (Nat.le_refl _) (fun x o hx hnn => ?_) (fun x o hx => ?_) (fun x o hx => ?_)
   ·show (if b = r then _ else h1 b) = _
    rw [if_neg hne]
    have := s _ _ a1
    simp only [wh] at this
    rw [hb1] at this
    rw [a1]; exact this.symm
   ·rw [Array.toList_push, List.map_append, hsn, List.map_append]
    simp [hi, hie]
   ·have hxr : x ≠ r := fun h => by subst h; rw [a2] at hnn; cases hnn
    show (w1.heap.setIfInBounds r _)[x]? = _
    rw [hset.2 x hxr]; exact hx
   ·by_cases hxr : x = r
    ·subst hxr
     have hx : (if x = x then some (Obj.mapIter (some b) clock (seen.push e1.born) clock) else h1 x) = some o := hx
     rw [if_pos rfl] at hx
     cases hx
     exact hset.1
    ·have hx : (if x = r then some (Obj.mapIter (some b) clock (seen.push e1.born) clock) else h1 x) = some o := hx
     rw [if_neg hxr] at hx
     show (w1.heap.setIfInBounds r _)[x]? = _
     rw [hset.2 x hxr]
     exact s x o hx
   ·by_cases hxr : x = r
    ·subst hxr; exact .inl ⟨_, a2⟩
    ·have hx : (if x = r then some (Obj.mapIter (some b) clock (seen.push e1.born) clock) else h1 x) = some o := hx
     rw [if_neg hxr] at hx; exact .inl ⟨o, hx⟩
theorem Y.entry {x : Operand} {z : κ × ν} {dd : Option Nat} (f : Frt l (rngo kv vv b r kvs (done ++ [z])) l') (hx : ev env x = some (.pointer (some ⟨r, 0, none⟩))) : Y P n ds R env l ⟨dd, .entry x, ty, pos, af, g⟩ (.tuple #[kv z.1, vv z.2]) := fun a w e hs => by
 have hs1 := hs.frt f
 obtain ⟨es, clock, seen, is, hb, hr, hne, hm, hbn, hcl, hn, hl, hdn, hsn⟩ := sat_rng hs1
 have hlen : es.length = kvs.length := Q153 hm
 rcases List.eq_nil_or_concat is with rfl | ⟨is0, i, rfl⟩
 ·simp at hdn
 ·rw [List.concat_eq_append] at *
  simp only [List.map_append, List.map_cons, List.map_nil] at hdn hsn
  have hi : i < kvs.length := hl i (by simp)
  have hie : i < es.length := by omega
  have hz : some z = kvs[i]? := by
   have := List.append_inj_right' hdn rfl
   simpa using this
  rw [List.getElem?_eq_getElem hi] at hz
  have hz' := Option.some.inj hz
  have hkv : (es[i].key, es[i].val) = (kv z.1, vv z.2) := by
   have := congrArg (fun l => l[i]?) hm
   simp only [List.getElem?_map, List.getElem?_eq_getElem hie, List.getElem?_eq_getElem hi, Option.map_some] at this
   rw [hz']
   exact Option.some.inj this
  obtain ⟨hk1, hk2⟩ := Prod.mk.inj hkv
  have hsz : seen.toList ≠ [] := fun h => by rw [h] at hsn; simp at hsn
  have hseen : ∃ s0 : Array Nat, seen = s0.push es[i].born := by
   refine ⟨⟨seen.toList.dropLast⟩, ?_⟩
   apply Array.ext'
   rw [Array.toList_push]
   show seen.toList = seen.toList.dropLast ++ [es[i].born]
   have h1 := List.dropLast_concat_getLast hsz
   have h2 : seen.toList.getLast hsz = es[i].born := by
    have h3 : (seen.toList.map some).getLast? = some (some es[i].born) := by rw [hsn]; simp [hie]
    rw [List.getLast?_map, List.getLast?_eq_some_getLast hsz] at h3
    simpa using h3
   rw [← h2]; exact h1.symm
  obtain ⟨s0, hs0⟩ := hseen
  rw [hs0] at hr
  have := run_entry_at (P := P) w r b clock s0 es.toArray clock es[i] hr hb (by simp) (by
   show (es.map (·.born)).Nodup
   exact List.pairwise_map.2 (hbn.imp fun h => Nat.ne_of_lt h))
  simp only [execOp, e.ev hx, this, Sem.run_bind, Result.andThen, Sem.run_pure, hk1, hk2]
theorem At.rngEnd (f : Frt l (rngo kv vv b r kvs done) l') (h : At n ds R env (mapo kv vv b kvs :: l') K) : At n ds R env l K := fun a w e hs => h a w e ((hs.frt f).imp fun h ⟨es, clock, _, _, _, _, a1, _, _, a4, a5, a6, _⟩ => ⟨es, clock, a1, a4, a5, a6⟩)
end
end Go.Bw
