/- BisimAlike, part 3: walks and plain laws. Conditions: none. -/
import Derived.Test.YtbkooifhcekpmaaGreatDoorProg
import Derived.Deep.QuietTactic
import Derived.Maps.RangeRun
import Derived.Test.YtbkooifhcekpmaaGreatDoorBwBisimAlikeB
set_option linter.unusedVariables false
set_option linter.unusedSimpArgs false
set_option linter.unusedSectionVars false
set_option maxRecDepth 100000
set_option maxHeartbeats 2000000
namespace Go.Bw
open Go Go.RowKit Go.Proofs
structure Q6 where
 Kind : Int
 At : Int
 Text : Bs
 Number : Int
deriving Inhabited, DecidableEq
def Q6.fl : Fl Q6 := ⟨4, fun x => [.int .i64 x.Kind, .int .i64 x.At, .string ⟨(x.Text).toArray⟩, .int .i64 x.Number], fun _ => rfl, fun x u hu => by simp at hu; rcases hu with rfl | rfl | rfl | rfl <;> rfl, by decide⟩
structure Q5 where
 At : Int
 Err : Int
deriving Inhabited, DecidableEq
def Q5.fl : Fl Q5 := ⟨2, fun x => [.int .i64 x.At, .int .i64 x.Err], fun _ => rfl, fun x u hu => by simp at hu; rcases hu with rfl | rfl <;> rfl, by decide⟩
structure Q3 where
 from_ : Int
 action : Bs
 to : Int
deriving Inhabited, DecidableEq
def Q3.fl : Fl Q3 := ⟨3, fun x => [.int .i64 x.from_, .string ⟨(x.action).toArray⟩, .int .i64 x.to], fun _ => rfl, fun x u hu => by simp at hu; rcases hu with rfl | rfl | rfl <;> rfl, by decide⟩
theorem bytealg_IndexByteString.ext : ExtOk Tryz.prog 168 Extern.BytealgIndexByte.indexByte := ⟨_, Tryz.func168, by kernel_rfl, by kernel_rfl, by kernel_rfl, by kernel_rfl⟩

noncomputable def Q93.f (a0 : Bs) (a1 : Int) : Option Int :=
 some (Lib.indexByte a0 a1.toNat.toUInt8)
theorem Q93.callee : Callee Tryz.prog 140 := ⟨_, Tryz.func140, by kernel_rfl, by kernel_rfl⟩
theorem Q93.spec (R : Res) (Fr : List HProp)  (a0 : Bs) (a1 : Int)  {r : Int} (j : Q93.f a0 a1 = some r) :
 Spec Tryz.prog 140 [.string ⟨(a0).toArray⟩, .int .u8 a1] R (Fr) (fun v l' => v = .int .i64 r ∧ Fr = l') := by
 refine Spec.of Tryz.func140 rfl rfl ?_; unfold Q93.f at j; have j := brun j; refine At.seq (At.region (At.run 1 rfl (At.nil (At.thn (At.seq (At.region (At.run 2 rfl ?_))))))); refine At.y (Y.ext bytealg_IndexByteString.ext rfl rfl (fun w => Q253 _ _ w)) rfl rfl rfl ?_; refine At.run 1 rfl (At.nil (At.thn (At.ret ?_))); cases bret j; exact At.res (.inl rfl) rfl rfl ⟨rfl, rfl⟩

noncomputable def Q85.f (a0 : Bs) (a1 : Int) : Option Int :=
 (Q93.f a0 a1).bind fun t252 =>
 some t252
theorem Q85.callee : Callee Tryz.prog 94 := ⟨_, Tryz.func94, by kernel_rfl, by kernel_rfl⟩
theorem Q85.spec (R : Res) (Fr : List HProp)  (a0 : Bs) (a1 : Int)  {r : Int} (j : Q85.f a0 a1 = some r) :
 Spec Tryz.prog 94 [.string ⟨(a0).toArray⟩, .int .u8 a1] R (Fr) (fun v l' => v = .int .i64 r ∧ Fr = l') := by
 refine Spec.of Tryz.func94 rfl rfl ?_; unfold Q85.f at j; have j := brun j; refine At.seq (At.region (At.run 1 rfl (At.nil (At.thn (At.seq (At.region (At.run 2 rfl ?_))))))); obtain ⟨t252, hc253, j⟩ := bbind j; refine At.call rfl Q93.callee rfl rfl rfl (Q93.spec _ _  a0 a1  hc253) ?_; rintro _ _ ⟨rfl, rfl⟩; refine At.run 1 rfl (At.nil (At.thn (At.ret ?_))); cases bret j; exact At.res (.inl rfl) rfl rfl ⟨rfl, rfl⟩

noncomputable def Q91.f (a0 : Int) : Option Int :=
 if a0 = 10 then
 some 1
 else
 jn (
 if 97 ≤ a0 then
 some (.inl (decide (a0 ≤ 122)))
 else
 some (.inl false)) (fun (x453 : Bool) =>
 if x453 = true then
 some 2
 else
 jn (
 if 65 ≤ a0 then
 some (.inl (decide (a0 ≤ 90)))
 else
 some (.inl false)) (fun (x659 : Bool) =>
 if x659 = true then
 some 3
 else
 jn (
 if 48 ≤ a0 then
 some (.inl (decide (a0 ≤ 57)))
 else
 some (.inl false)) (fun (x865 : Bool) =>
 if x865 = true then
 some 4
 else
 jn (
 if 32 < a0 then
 some (.inl (decide (a0 < 127)))
 else
 some (.inl false)) (fun (x1071 : Bool) =>
 jn (
 if x1071 = true then
 some (.inl (!(decide (a0 = 95))))
 else
 some (.inl false)) (fun (x1276 : Bool) =>
 if x1276 = true then
 some 5
 else
 some 0)))))
theorem Q91.callee : Callee Tryz.prog 141 := ⟨_, Tryz.func141, by kernel_rfl, by kernel_rfl⟩
theorem Q91.spec (R : Res) (Fr : List HProp)  (a0 : Int)  {r : Int} (j : Q91.f a0 = some r) :
 Spec Tryz.prog 141 [.int .u8 a0] R (Fr) (fun v l' => v = .int .i64 r ∧ Fr = l') := by
 refine Spec.of Tryz.func141 rfl rfl ?_; unfold Q91.f at j; have j := brun j; refine At.seq (At.region (At.run 1 rfl (At.nil (At.thn (At.seq ?_))))); refine At.block ?_; refine At.seq (At.region (At.run 3 rfl (At.nil (At.thn ?_)))); rcases bite j with ⟨h252, j⟩ | ⟨h252, j⟩
 ··refine At.condT rfl (decide_eq_true h252) ?_
   refine At.seq (At.region (At.run 1 rfl (At.nil (At.thn (At.ret ?_))))); refine At.ibr ?_; refine At.thr ?_; cases bret j; exact At.res (.inl rfl) rfl rfl ⟨rfl, rfl⟩
 ··refine At.condF rfl (decide_eq_false h252) ?_
   refine At.seq (At.region (At.run 3 rfl ?_)); obtain ⟨G454, hl455, hr456, j⟩ := bjoin j; refine At.joinO 3 (X := Bool) (fun x453 => [(0, .int .u8 a0), (12, .bool x453)]) (fun x453 => Fr) (fun x453 => G454 (.inl x453) = some r) ?_ (fun J457 => ?_)
   ·rintro x453 j; have j := (hl455 _).symm.trans j
    ·refine At.run 1 rfl (At.nil (At.thn ?_)); rcases bite j with ⟨h458, j⟩ | ⟨h458, j⟩
     ··refine At.condT rfl h458 ?_
       refine At.seq (At.region (At.run 1 rfl (At.nil (At.thn (At.ret ?_))))); refine At.ibr ?_; refine At.thr ?_; cases bret j; exact At.res (.inl rfl) rfl rfl ⟨rfl, rfl⟩
     ··refine At.condF rfl (bn h458) ?_
       refine At.seq (At.region (At.run 3 rfl ?_)); obtain ⟨G660, hl661, hr662, j⟩ := bjoin j; refine At.joinO 3 (X := Bool) (fun x659 => [(0, .int .u8 a0), (19, .bool x659)]) (fun x659 => Fr) (fun x659 => G660 (.inl x659) = some r) ?_ (fun J663 => ?_)
       ·rintro x659 j; have j := (hl661 _).symm.trans j
        ·refine At.run 1 rfl (At.nil (At.thn ?_)); rcases bite j with ⟨h664, j⟩ | ⟨h664, j⟩
         ··refine At.condT rfl h664 ?_
           refine At.seq (At.region (At.run 1 rfl (At.nil (At.thn (At.ret ?_))))); refine At.ibr ?_; refine At.thr ?_; cases bret j; exact At.res (.inl rfl) rfl rfl ⟨rfl, rfl⟩
         ··refine At.condF rfl (bn h664) ?_
           refine At.seq (At.region (At.run 3 rfl ?_)); obtain ⟨G866, hl867, hr868, j⟩ := bjoin j; refine At.joinO 3 (X := Bool) (fun x865 => [(0, .int .u8 a0), (26, .bool x865)]) (fun x865 => Fr) (fun x865 => G866 (.inl x865) = some r) ?_ (fun J869 => ?_)
           ·rintro x865 j; have j := (hl867 _).symm.trans j
            ·refine At.run 1 rfl (At.nil (At.thn ?_)); rcases bite j with ⟨h870, j⟩ | ⟨h870, j⟩
             ··refine At.condT rfl h870 ?_
               refine At.seq (At.region (At.run 1 rfl (At.nil (At.thn (At.ret ?_))))); refine At.ibr ?_; refine At.thr ?_; cases bret j; exact At.res (.inl rfl) rfl rfl ⟨rfl, rfl⟩
             ··refine At.condF rfl (bn h870) ?_
               refine At.seq (At.region (At.run 3 rfl ?_)); obtain ⟨G1072, hl1073, hr1074, j⟩ := bjoin j; refine At.joinO 3 (X := Bool) (fun x1071 => [(0, .int .u8 a0), (33, .bool x1071)]) (fun x1071 => Fr) (fun x1071 => G1072 (.inl x1071) = some r) ?_ (fun J1075 => ?_)
               ·rintro x1071 j; have j := (hl1073 _).symm.trans j
                ·refine At.run 1 rfl ?_; obtain ⟨G1277, hl1278, hr1279, j⟩ := bjoin j; refine At.joinO 3 (X := Bool) (fun x1276 => [(37, .bool x1276)]) (fun x1276 => Fr) (fun x1276 => G1277 (.inl x1276) = some r) ?_ (fun J1280 => ?_)
                 ·rintro x1276 j; have j := (hl1278 _).symm.trans j
                  ·refine At.run 1 rfl (At.nil (At.thn ?_)); rcases bite j with ⟨h1281, j⟩ | ⟨h1281, j⟩
                   ··refine At.condT rfl h1281 ?_
                     refine At.seq (At.region (At.run 1 rfl (At.nil (At.thn (At.ret ?_))))); refine At.ibr ?_; refine At.thr ?_; cases bret j; exact At.res (.inl rfl) rfl rfl ⟨rfl, rfl⟩
                   ··refine At.condF rfl (bn h1281) ?_
                     refine At.skip ?_; refine At.ibn ?_; refine At.thn (At.seq (At.region (At.run 1 rfl (At.nil (At.thn (At.ret ?_)))))); cases bret j; exact At.res (.inl rfl) rfl rfl ⟨rfl, rfl⟩
                 ··rcases bite j with ⟨h1282, j⟩ | ⟨h1282, j⟩
                   ··refine At.know (t := 34) rfl h1282 ?_
                     refine At.run 3 rfl ?_; exact At.of (J1280 (!(decide (a0 = 95))) j) ⟨rfl, trivial⟩
                   ··refine At.know (t := 34) rfl (bn h1282) ?_
                     refine At.run 3 rfl ?_; exact At.of (J1280 false j) ⟨rfl, trivial⟩
               ··rcases bite j with ⟨h1283, j⟩ | ⟨h1283, j⟩
                 ··refine At.know (t := 30) rfl (decide_eq_true h1283) ?_
                   refine At.run 3 rfl ?_; exact At.of (J1075 (decide (a0 < 127)) j) ⟨rfl, rfl, trivial⟩
                 ··refine At.know (t := 30) rfl (decide_eq_false h1283) ?_
                   refine At.run 3 rfl ?_; exact At.of (J1075 false j) ⟨rfl, rfl, trivial⟩
           ··rcases bite j with ⟨h1284, j⟩ | ⟨h1284, j⟩
             ··refine At.know (t := 23) rfl (decide_eq_true h1284) ?_
               refine At.run 3 rfl ?_; exact At.of (J869 (decide (a0 ≤ 57)) j) ⟨rfl, rfl, trivial⟩
             ··refine At.know (t := 23) rfl (decide_eq_false h1284) ?_
               refine At.run 3 rfl ?_; exact At.of (J869 false j) ⟨rfl, rfl, trivial⟩
       ··rcases bite j with ⟨h1285, j⟩ | ⟨h1285, j⟩
         ··refine At.know (t := 16) rfl (decide_eq_true h1285) ?_
           refine At.run 3 rfl ?_; exact At.of (J663 (decide (a0 ≤ 90)) j) ⟨rfl, rfl, trivial⟩
         ··refine At.know (t := 16) rfl (decide_eq_false h1285) ?_
           refine At.run 3 rfl ?_; exact At.of (J663 false j) ⟨rfl, rfl, trivial⟩
   ··rcases bite j with ⟨h1286, j⟩ | ⟨h1286, j⟩
     ··refine At.know (t := 9) rfl (decide_eq_true h1286) ?_
       refine At.run 3 rfl ?_; exact At.of (J457 (decide (a0 ≤ 122)) j) ⟨rfl, rfl, trivial⟩
     ··refine At.know (t := 9) rfl (decide_eq_false h1286) ?_
       refine At.run 3 rfl ?_; exact At.of (J457 false j) ⟨rfl, rfl, trivial⟩

noncomputable def Q14.l0b (a1 : Bs) (x854 : Int) : Option ((Int) ⊕ ((Int) ⊕ (Int))) :=
 jn (
 if x854 < (a1.length : Int) then
 if (0 : Int) ≤ x854 ∧ x854 < (a1.length : Int) then
 some (.inl (decide (48 ≤ bat a1 x854)))
 else none
 else
 some (.inl false)) (fun (x1267 : Bool) =>
 jn (
 if x1267 = true then
 if (0 : Int) ≤ x854 ∧ x854 < (a1.length : Int) then
 some (.inl (decide (bat a1 x854 ≤ 57)))
 else none
 else
 some (.inl false)) (fun (x1472 : Bool) =>
 if x1472 = true then
 nx (IntKind.i64.wrap (x854 + 1))
 else
 dn (.inl x854)))
noncomputable def Q14.l0 (a1 : Bs) (x854 : Int) : Option ((Int) ⊕ (Int)) := iter (fun t_ : Int => Q14.l0b a1 t_) x854
noncomputable def Q14.l1b (a1 : Bs) (x2085 : Int) : Option ((Int) ⊕ ((Int) ⊕ (Int))) :=
 jn (
 if x2085 < (a1.length : Int) then
 if (0 : Int) ≤ x2085 ∧ x2085 < (a1.length : Int) then
 jn (
 if bat a1 x2085 = 95 then
 some (.inl (true, true))
 else
 jn (
 if 97 ≤ bat a1 x2085 then
 some (.inl (true, decide (bat a1 x2085 ≤ 122)))
 else
 some (.inl (false, false))) (fun (s_ : Bool × Bool) =>
 some (.inl (false, s_.2)))) (fun (s_ : Bool × Bool) =>
 jn (
 if s_.2 = true then
 some (.inl (true, true))
 else
 jn (
 if 65 ≤ bat a1 x2085 then
 some (.inl (true, decide (bat a1 x2085 ≤ 90)))
 else
 some (.inl (false, false))) (fun (s_ : Bool × Bool) =>
 some (.inl (false, s_.2)))) (fun (s_ : Bool × Bool) =>
 jn (
 if s_.2 = true then
 some (.inl (true, true))
 else
 jn (
 if 48 ≤ bat a1 x2085 then
 some (.inl (true, decide (bat a1 x2085 ≤ 57)))
 else
 some (.inl (false, false))) (fun (s_ : Bool × Bool) =>
 some (.inl (false, s_.2)))) (fun (s_ : Bool × Bool) =>
 some (.inl s_.2))))
 else none
 else
 some (.inl false)) (fun (x2498 : Bool) =>
 if x2498 = true then
 nx (IntKind.i64.wrap (x2085 + 1))
 else
 dn (.inl x2085))
noncomputable def Q14.l1 (a1 : Bs) (x2085 : Int) : Option ((Int) ⊕ (Int)) := iter (fun t_ : Int => Q14.l1b a1 t_) x2085
noncomputable def Q14.l2b (a1 : Bs) (x4350 : Int) : Option ((Int) ⊕ ((Int) ⊕ (Int))) :=
 jn (
 if x4350 < (a1.length : Int) then
 if (0 : Int) ≤ x4350 ∧ x4350 < (a1.length : Int) then
 jn (
 if bat a1 x4350 = 95 then
 some (.inl (true, true))
 else
 jn (
 if 97 ≤ bat a1 x4350 then
 some (.inl (true, decide (bat a1 x4350 ≤ 122)))
 else
 some (.inl (false, false))) (fun (s_ : Bool × Bool) =>
 some (.inl (false, s_.2)))) (fun (s_ : Bool × Bool) =>
 jn (
 if s_.2 = true then
 some (.inl (true, true))
 else
 jn (
 if 65 ≤ bat a1 x4350 then
 some (.inl (true, decide (bat a1 x4350 ≤ 90)))
 else
 some (.inl (false, false))) (fun (s_ : Bool × Bool) =>
 some (.inl (false, s_.2)))) (fun (s_ : Bool × Bool) =>
 jn (
 if s_.2 = true then
 some (.inl (true, true))
 else
 jn (
 if 48 ≤ bat a1 x4350 then
 some (.inl (true, decide (bat a1 x4350 ≤ 57)))
 else
 some (.inl (false, false))) (fun (s_ : Bool × Bool) =>
 some (.inl (false, s_.2)))) (fun (s_ : Bool × Bool) =>
 some (.inl s_.2))))
 else none
 else
 some (.inl false)) (fun (x4763 : Bool) =>
 if x4763 = true then
 nx (IntKind.i64.wrap (x4350 + 1))
 else
 dn (.inl x4350))
noncomputable def Q14.l2 (a1 : Bs) (x4350 : Int) : Option ((Int) ⊕ (Int)) := iter (fun t_ : Int => Q14.l2b a1 t_) x4350
noncomputable def Q14.f (a0 : Int) (a1 : Bs) : Option Int :=
 if a0 = 4 then
 jn (Q14.l0 a1 1) (fun (x1055 : Int) =>
 some x1055)
 else
 if a0 = 2 then
 jn (Q14.l1 a1 1) (fun (x2286 : Int) =>
 some x2286)
 else
 if a0 = 3 then
 jn (Q14.l2 a1 1) (fun (x4551 : Int) =>
 some x4551)
 else
 some 1
theorem Q14.callee : Callee Tryz.prog 142 := ⟨_, Tryz.func142, by kernel_rfl, by kernel_rfl⟩
theorem Q14.spec (R : Res) (Fr : List HProp)  (a0 : Int) (a1 : Bs)  {r : Int} (j : Q14.f a0 a1 = some r) :
 Spec Tryz.prog 142 [.int .i64 a0, .string ⟨(a1).toArray⟩] R (Fr) (fun v l' => v = .int .i64 r ∧ Fr = l') := by
 refine Spec.of Tryz.func142 rfl rfl ?_; unfold Q14.f at j; have j := brun j; refine At.seq (At.region (At.run 1 rfl (At.nil (At.thn (At.seq (At.region (At.run 1 rfl ?_))))))); refine At.nil (At.thn (At.seq (At.seq (At.region (At.run 1 rfl (At.nil (At.thn ?_))))))); refine At.block ?_; refine At.seq (At.region (At.run 2 rfl (At.nil (At.thn ?_)))); rcases bite j with ⟨h252, j⟩ | ⟨h252, j⟩
 ··refine At.condT rfl (decide_eq_true h252) ?_
   refine At.block ?_; obtain ⟨G1056, hl1057, hr1058, j⟩ := bjoin j; obtain ⟨o1059, hlo1060, ho1061⟩ := bsome j; clear j; unfold Q14.l0 at hlo1060; obtain ⟨m1062, hit1064⟩ := Q25.1 hlo1060; clear hlo1060; refine At.loopJ (X := Int) (Y := Int) (e0 := 1) (fun x854 => [(1, .string ⟨(a1).toArray⟩), (5, .int .i64 x854)]) (fun x854 => Fr) (fun m_ => fun x854 => iterN (fun t_ : Int => Q14.l0b a1 t_) m_ x854 = some o1059) m1062 1 hit1064 (fun x1055 => [(5, .int .i64 x1055)]) (fun x1055 => Fr) (fun x1055 => G1056 (.inl x1055) = some r) (fun a w e hs => ⟨e.sub ⟨rfl, rfl, trivial⟩, (by exact hs)⟩) ?_ (fun J1066 => ?_)
   ·rintro x1055 j; have j := (hl1057 _).symm.trans j
    ·refine At.ibx ?_; refine At.ibn ?_; refine At.thn (At.seq (At.region (At.run 2 rfl (At.nil (At.thn (At.ret ?_)))))); cases bret j; exact At.res (.inl rfl) rfl rfl ⟨rfl, rfl⟩
   ·clear hit1064 m1062; rintro m1062 x854 hit1064; obtain ⟨m1063, f_, hlt1065, hf_, j⟩ := bit hit1064; clear hit1064; have j : (Q14.l0b a1 x854).bind _ = some o1059 := j; unfold Q14.l0b at j
    ·refine At.seq (At.seq (At.region (At.run 5 rfl ?_))); obtain ⟨G1268, hl1269, hr1270, j⟩ := bjoin j; refine At.joinO 5 (X := Bool) (fun x1267 => [(1, .string ⟨(a1).toArray⟩), (5, .int .i64 x854), (18, .bool x1267)]) (fun x1267 => Fr) (fun x1267 => G1268 (.inl x1267) = some o1059) ?_ (fun J1271 => ?_)
     ·rintro x1267 j; have j := (hl1269 _).symm.trans j
      ·refine At.run 1 rfl ?_; obtain ⟨G1473, hl1474, hr1475, j⟩ := bjoin j; refine At.joinO 5 (X := Bool) (fun x1472 => [(1, .string ⟨(a1).toArray⟩), (5, .int .i64 x854), (24, .bool x1472)]) (fun x1472 => Fr) (fun x1472 => G1473 (.inl x1472) = some o1059) ?_ (fun J1476 => ?_)
       ·rintro x1472 j; have j := (hl1474 _).symm.trans j
        ·refine At.nil (At.thn ?_); rcases bite j with ⟨h1477, j⟩ | ⟨h1477, j⟩
         ··refine At.condT rfl h1477 ?_
           refine At.skip (At.thn ?_); refine At.block ?_; refine At.region (At.run 3 rfl (At.nil ?_)); refine At.ibn ?_; have j := bnx hf_ j; exact fun a w e hs => ⟨m1063, (IntKind.i64.wrap (x854 + 1)), hlt1065, j, e.sub ⟨rfl, rfl, trivial⟩, hs⟩
         ··refine At.condF rfl (bn h1477) ?_
           refine At.exit ?_; refine At.the ?_; refine At.the ?_; exact fun a w e hs => J1066 x854 (bdn j ho1061) a w (e.sub ⟨rfl, trivial⟩) hs
       ··rcases bite j with ⟨h1478, j⟩ | ⟨h1478, j⟩
         ··refine At.know (t := 19) rfl h1478 ?_
           refine At.run 2 rfl ?_; obtain ⟨h1479, j⟩ := bnone j; refine At.y (Y.ixStr rfl rfl rfl rfl h1479.1 h1479.2) rfl rfl rfl (At.run 2 rfl ?_); exact At.of (J1476 (decide (bat a1 x854 ≤ 57)) j) ⟨rfl, rfl, rfl, trivial⟩
         ··refine At.know (t := 19) rfl (bn h1478) ?_
           refine At.run 5 rfl ?_; exact At.of (J1476 false j) ⟨rfl, rfl, rfl, trivial⟩
     ··rcases bite j with ⟨h1480, j⟩ | ⟨h1480, j⟩
       ··refine At.know (t := 13) rfl (decide_eq_true h1480) ?_
         refine At.run 2 rfl ?_; obtain ⟨h1481, j⟩ := bnone j; refine At.y (Y.ixStr rfl rfl rfl rfl h1481.1 h1481.2) rfl rfl rfl (At.run 2 rfl ?_); exact At.of (J1271 (decide (48 ≤ bat a1 x854)) j) ⟨rfl, rfl, rfl, trivial⟩
       ··refine At.know (t := 13) rfl (decide_eq_false h1480) ?_
         refine At.run 5 rfl ?_; exact At.of (J1271 false j) ⟨rfl, rfl, rfl, trivial⟩
 ··refine At.condF rfl (decide_eq_false h252) ?_
   refine At.seq (At.seq (At.region (At.run 2 rfl (At.nil (At.thn ?_))))); rcases bite j with ⟨h1482, j⟩ | ⟨h1482, j⟩
   ··refine At.condT rfl (decide_eq_true h1482) ?_
     refine At.skip (At.thn ?_); refine At.condT rfl (decide_eq_true h1482) ?_; refine At.block ?_; obtain ⟨G2287, hl2288, hr2289, j⟩ := bjoin j; obtain ⟨o2290, hlo2291, ho2292⟩ := bsome j; clear j; unfold Q14.l1 at hlo2291; obtain ⟨m2293, hit2295⟩ := Q25.1 hlo2291; clear hlo2291; refine At.loopJ (X := Int) (Y := Int) (e0 := 3) (fun x2085 => [(1, .string ⟨(a1).toArray⟩), (5, .int .i64 x2085)]) (fun x2085 => Fr) (fun m_ => fun x2085 => iterN (fun t_ : Int => Q14.l1b a1 t_) m_ x2085 = some o2290) m2293 1 hit2295 (fun x2286 => [(5, .int .i64 x2286)]) (fun x2286 => Fr) (fun x2286 => G2287 (.inl x2286) = some r) (fun a w e hs => ⟨e.sub ⟨rfl, rfl, trivial⟩, (by exact hs)⟩) ?_ (fun J2297 => ?_)
     ·rintro x2286 j; have j := (hl2288 _).symm.trans j
      ·refine At.ibx ?_; refine At.ibn ?_; refine At.thn (At.seq (At.region (At.run 2 rfl (At.nil (At.thn (At.ret ?_)))))); cases bret j; exact At.res (.inl rfl) rfl rfl ⟨rfl, rfl⟩
     ·clear hit2295 m2293; rintro m2293 x2085 hit2295; obtain ⟨m2294, f_, hlt2296, hf_, j⟩ := bit hit2295; clear hit2295; have j : (Q14.l1b a1 x2085).bind _ = some o2290 := j; unfold Q14.l1b at j
      ·refine At.seq (At.seq (At.region (At.run 5 rfl ?_))); obtain ⟨G2499, hl2500, hr2501, j⟩ := bjoin j; refine At.joinO 41 (X := Bool) (fun x2498 => [(1, .string ⟨(a1).toArray⟩), (5, .int .i64 x2085), (75, .bool x2498)]) (fun x2498 => Fr) (fun x2498 => G2499 (.inl x2498) = some o2290) ?_ (fun J2502 => ?_)
       ·rintro x2498 j; have j := (hl2500 _).symm.trans j
        ·refine At.nil (At.thn ?_); rcases bite j with ⟨h2503, j⟩ | ⟨h2503, j⟩
         ··refine At.condT rfl h2503 ?_
           refine At.skip (At.thn ?_); refine At.block ?_; refine At.region (At.run 3 rfl (At.nil ?_)); refine At.ibn ?_; have j := bnx hf_ j; exact fun a w e hs => ⟨m2294, (IntKind.i64.wrap (x2085 + 1)), hlt2296, j, e.sub ⟨rfl, rfl, trivial⟩, hs⟩
         ··refine At.condF rfl (bn h2503) ?_
           refine At.exit ?_; refine At.the ?_; refine At.the ?_; exact fun a w e hs => J2297 x2085 (bdn j ho2292) a w (e.sub ⟨rfl, trivial⟩) hs
       ··rcases bite j with ⟨h2504, j⟩ | ⟨h2504, j⟩
         ··refine At.know (t := 34) rfl (decide_eq_true h2504) ?_
           refine At.run 2 rfl ?_; obtain ⟨h2505, j⟩ := bnone j; refine At.y (Y.ixStr rfl rfl rfl rfl h2505.1 h2505.2) rfl rfl rfl (At.run 2 rfl ?_); obtain ⟨G2708, hl2709, hr2710, j⟩ := bjoin j; refine At.joinO 11 (X := Bool × Bool) (fun s_ => [(1, .string ⟨(a1).toArray⟩), (5, .int .i64 x2085), (34, .bool true), (35, .string ⟨(a1).toArray⟩), (36, .int .i64 x2085), (37, .int .u8 (bat a1 x2085)), (38, .bool (decide (bat a1 x2085 = 95))), (39, .bool s_.1), (50, .bool s_.2)]) (fun s_ => Fr) (fun s_ => G2708 (.inl (s_.1, s_.2)) = some o2290) ?_ (fun J2711 => ?_)
           ·rintro ⟨x2706, x2707⟩ j; have j := (hl2709 _).symm.trans j
            ·refine At.run 1 rfl ?_; obtain ⟨G2914, hl2915, hr2916, j⟩ := bjoin j; refine At.joinO 11 (X := Bool × Bool) (fun s_ => [(1, .string ⟨(a1).toArray⟩), (5, .int .i64 x2085), (34, .bool true), (35, .string ⟨(a1).toArray⟩), (36, .int .i64 x2085), (37, .int .u8 (bat a1 x2085)), (38, .bool (decide (bat a1 x2085 = 95))), (39, .bool x2706), (50, .bool x2707), (51, .bool s_.1), (62, .bool s_.2)]) (fun s_ => Fr) (fun s_ => G2914 (.inl (s_.1, s_.2)) = some o2290) ?_ (fun J2917 => ?_)
             ·rintro ⟨x2912, x2913⟩ j; have j := (hl2915 _).symm.trans j
              ·refine At.run 1 rfl ?_; obtain ⟨G3120, hl3121, hr3122, j⟩ := bjoin j; refine At.joinO 11 (X := Bool × Bool) (fun s_ => [(1, .string ⟨(a1).toArray⟩), (5, .int .i64 x2085), (34, .bool true), (35, .string ⟨(a1).toArray⟩), (36, .int .i64 x2085), (37, .int .u8 (bat a1 x2085)), (38, .bool (decide (bat a1 x2085 = 95))), (39, .bool x2706), (50, .bool x2707), (51, .bool x2912), (62, .bool x2913), (63, .bool s_.1), (74, .bool s_.2)]) (fun s_ => Fr) (fun s_ => G3120 (.inl (s_.1, s_.2)) = some o2290) ?_ (fun J3123 => ?_)
               ·rintro ⟨x3118, x3119⟩ j; have j := (hl3121 _).symm.trans j
                ·refine At.run 1 rfl ?_; exact At.of (J2502 x3119 j) ⟨rfl, rfl, rfl, trivial⟩
               ··rcases bite j with ⟨h3124, j⟩ | ⟨h3124, j⟩
                 ··refine At.know (t := 63) rfl h3124 ?_
                   refine At.run 11 rfl ?_; exact At.of (J3123 (true, true) j) ⟨rfl, rfl, rfl, rfl, rfl, rfl, rfl, rfl, rfl, rfl, rfl, rfl, rfl, trivial⟩
                 ··refine At.know (t := 63) rfl (bn h3124) ?_
                   refine At.run 2 rfl (At.y (Y.ixStr rfl rfl rfl rfl h2505.1 h2505.2) rfl rfl rfl (At.run 2 rfl ?_)); obtain ⟨G3327, hl3328, hr3329, j⟩ := bjoin j; refine At.joinO 5 (X := Bool × Bool) (fun s_ => [(1, .string ⟨(a1).toArray⟩), (5, .int .i64 x2085), (34, .bool true), (35, .string ⟨(a1).toArray⟩), (36, .int .i64 x2085), (37, .int .u8 (bat a1 x2085)), (38, .bool (decide (bat a1 x2085 = 95))), (39, .bool x2706), (50, .bool x2707), (51, .bool x2912), (62, .bool x2913), (63, .bool false), (64, .string ⟨(a1).toArray⟩), (65, .int .i64 x2085), (66, .int .u8 (bat a1 x2085)), (67, .bool (decide (48 ≤ bat a1 x2085))), (68, .bool s_.1), (73, .bool s_.2)]) (fun s_ => Fr) (fun s_ => G3327 (.inl (s_.1, s_.2)) = some o2290) ?_ (fun J3330 => ?_)
                   ·rintro ⟨x3325, x3326⟩ j; have j := (hl3328 _).symm.trans j
                    ·refine At.run 1 rfl ?_; exact At.of (J3123 (false, x3326) j) ⟨rfl, rfl, rfl, rfl, rfl, rfl, rfl, rfl, rfl, rfl, rfl, rfl, rfl, trivial⟩
                   ··rcases bite j with ⟨h3331, j⟩ | ⟨h3331, j⟩
                     ··refine At.know (t := 68) rfl (decide_eq_true h3331) ?_
                       refine At.run 2 rfl (At.y (Y.ixStr rfl rfl rfl rfl h2505.1 h2505.2) rfl rfl rfl (At.run 2 rfl ?_)); exact At.of (J3330 (true, decide (bat a1 x2085 ≤ 57)) j) ⟨rfl, rfl, rfl, rfl, rfl, rfl, rfl, rfl, rfl, rfl, rfl, rfl, rfl, rfl, rfl, rfl, rfl, rfl, trivial⟩
                     ··refine At.know (t := 68) rfl (decide_eq_false h3331) ?_
                       refine At.run 5 rfl ?_; exact At.of (J3330 (false, false) j) ⟨rfl, rfl, rfl, rfl, rfl, rfl, rfl, rfl, rfl, rfl, rfl, rfl, rfl, rfl, rfl, rfl, rfl, rfl, trivial⟩
             ··rcases bite j with ⟨h3332, j⟩ | ⟨h3332, j⟩
               ··refine At.know (t := 51) rfl h3332 ?_
                 refine At.run 11 rfl ?_; exact At.of (J2917 (true, true) j) ⟨rfl, rfl, rfl, rfl, rfl, rfl, rfl, rfl, rfl, rfl, rfl, trivial⟩
               ··refine At.know (t := 51) rfl (bn h3332) ?_
                 refine At.run 2 rfl (At.y (Y.ixStr rfl rfl rfl rfl h2505.1 h2505.2) rfl rfl rfl (At.run 2 rfl ?_)); obtain ⟨G3535, hl3536, hr3537, j⟩ := bjoin j; refine At.joinO 5 (X := Bool × Bool) (fun s_ => [(1, .string ⟨(a1).toArray⟩), (5, .int .i64 x2085), (34, .bool true), (35, .string ⟨(a1).toArray⟩), (36, .int .i64 x2085), (37, .int .u8 (bat a1 x2085)), (38, .bool (decide (bat a1 x2085 = 95))), (39, .bool x2706), (50, .bool x2707), (51, .bool false), (52, .string ⟨(a1).toArray⟩), (53, .int .i64 x2085), (54, .int .u8 (bat a1 x2085)), (55, .bool (decide (65 ≤ bat a1 x2085))), (56, .bool s_.1), (61, .bool s_.2)]) (fun s_ => Fr) (fun s_ => G3535 (.inl (s_.1, s_.2)) = some o2290) ?_ (fun J3538 => ?_)
                 ·rintro ⟨x3533, x3534⟩ j; have j := (hl3536 _).symm.trans j
                  ·refine At.run 1 rfl ?_; exact At.of (J2917 (false, x3534) j) ⟨rfl, rfl, rfl, rfl, rfl, rfl, rfl, rfl, rfl, rfl, rfl, trivial⟩
                 ··rcases bite j with ⟨h3539, j⟩ | ⟨h3539, j⟩
                   ··refine At.know (t := 56) rfl (decide_eq_true h3539) ?_
                     refine At.run 2 rfl (At.y (Y.ixStr rfl rfl rfl rfl h2505.1 h2505.2) rfl rfl rfl (At.run 2 rfl ?_)); exact At.of (J3538 (true, decide (bat a1 x2085 ≤ 90)) j) ⟨rfl, rfl, rfl, rfl, rfl, rfl, rfl, rfl, rfl, rfl, rfl, rfl, rfl, rfl, rfl, rfl, trivial⟩
                   ··refine At.know (t := 56) rfl (decide_eq_false h3539) ?_
                     refine At.run 5 rfl ?_; exact At.of (J3538 (false, false) j) ⟨rfl, rfl, rfl, rfl, rfl, rfl, rfl, rfl, rfl, rfl, rfl, rfl, rfl, rfl, rfl, rfl, trivial⟩
           ··rcases bite j with ⟨h3540, j⟩ | ⟨h3540, j⟩
             ··refine At.know (t := 39) rfl (decide_eq_true h3540) ?_
               refine At.run 11 rfl ?_; exact At.of (J2711 (true, true) j) ⟨rfl, rfl, rfl, rfl, rfl, rfl, rfl, rfl, rfl, trivial⟩
             ··refine At.know (t := 39) rfl (decide_eq_false h3540) ?_
               refine At.run 2 rfl (At.y (Y.ixStr rfl rfl rfl rfl h2505.1 h2505.2) rfl rfl rfl (At.run 2 rfl ?_)); obtain ⟨G3743, hl3744, hr3745, j⟩ := bjoin j; refine At.joinO 5 (X := Bool × Bool) (fun s_ => [(1, .string ⟨(a1).toArray⟩), (5, .int .i64 x2085), (34, .bool true), (35, .string ⟨(a1).toArray⟩), (36, .int .i64 x2085), (37, .int .u8 (bat a1 x2085)), (38, .bool (decide (bat a1 x2085 = 95))), (39, .bool false), (40, .string ⟨(a1).toArray⟩), (41, .int .i64 x2085), (42, .int .u8 (bat a1 x2085)), (43, .bool (decide (97 ≤ bat a1 x2085))), (44, .bool s_.1), (49, .bool s_.2)]) (fun s_ => Fr) (fun s_ => G3743 (.inl (s_.1, s_.2)) = some o2290) ?_ (fun J3746 => ?_)
               ·rintro ⟨x3741, x3742⟩ j; have j := (hl3744 _).symm.trans j
                ·refine At.run 1 rfl ?_; exact At.of (J2711 (false, x3742) j) ⟨rfl, rfl, rfl, rfl, rfl, rfl, rfl, rfl, rfl, trivial⟩
               ··rcases bite j with ⟨h3747, j⟩ | ⟨h3747, j⟩
                 ··refine At.know (t := 44) rfl (decide_eq_true h3747) ?_
                   refine At.run 2 rfl (At.y (Y.ixStr rfl rfl rfl rfl h2505.1 h2505.2) rfl rfl rfl (At.run 2 rfl ?_)); exact At.of (J3746 (true, decide (bat a1 x2085 ≤ 122)) j) ⟨rfl, rfl, rfl, rfl, rfl, rfl, rfl, rfl, rfl, rfl, rfl, rfl, rfl, rfl, trivial⟩
                 ··refine At.know (t := 44) rfl (decide_eq_false h3747) ?_
                   refine At.run 5 rfl ?_; exact At.of (J3746 (false, false) j) ⟨rfl, rfl, rfl, rfl, rfl, rfl, rfl, rfl, rfl, rfl, rfl, rfl, rfl, rfl, trivial⟩
         ··refine At.know (t := 34) rfl (decide_eq_false h2504) ?_
           refine At.run 41 rfl ?_; exact At.of (J2502 false j) ⟨rfl, rfl, rfl, trivial⟩
   ··refine At.condF rfl (decide_eq_false h1482) ?_
     refine At.region (At.run 2 rfl (At.nil (At.thn ?_))); rcases bite j with ⟨h3748, j⟩ | ⟨h3748, j⟩
     ··refine At.condT rfl (decide_eq_true h3748) ?_
       refine At.block ?_; obtain ⟨G4552, hl4553, hr4554, j⟩ := bjoin j; obtain ⟨o4555, hlo4556, ho4557⟩ := bsome j; clear j; unfold Q14.l2 at hlo4556; obtain ⟨m4558, hit4560⟩ := Q25.1 hlo4556; clear hlo4556; refine At.loopJ (X := Int) (Y := Int) (e0 := 3) (fun x4350 => [(1, .string ⟨(a1).toArray⟩), (5, .int .i64 x4350)]) (fun x4350 => Fr) (fun m_ => fun x4350 => iterN (fun t_ : Int => Q14.l2b a1 t_) m_ x4350 = some o4555) m4558 1 hit4560 (fun x4551 => [(5, .int .i64 x4551)]) (fun x4551 => Fr) (fun x4551 => G4552 (.inl x4551) = some r) (fun a w e hs => ⟨e.sub ⟨rfl, rfl, trivial⟩, (by exact hs)⟩) ?_ (fun J4562 => ?_)
       ·rintro x4551 j; have j := (hl4553 _).symm.trans j
        ·refine At.ibx ?_; refine At.ibn ?_; refine At.thn (At.seq (At.region (At.run 2 rfl (At.nil (At.thn (At.ret ?_)))))); cases bret j; exact At.res (.inl rfl) rfl rfl ⟨rfl, rfl⟩
       ·clear hit4560 m4558; rintro m4558 x4350 hit4560; obtain ⟨m4559, f_, hlt4561, hf_, j⟩ := bit hit4560; clear hit4560; have j : (Q14.l2b a1 x4350).bind _ = some o4555 := j; unfold Q14.l2b at j
        ·refine At.seq (At.seq (At.region (At.run 5 rfl ?_))); obtain ⟨G4764, hl4765, hr4766, j⟩ := bjoin j; refine At.joinO 41 (X := Bool) (fun x4763 => [(1, .string ⟨(a1).toArray⟩), (5, .int .i64 x4350), (75, .bool x4763)]) (fun x4763 => Fr) (fun x4763 => G4764 (.inl x4763) = some o4555) ?_ (fun J4767 => ?_)
         ·rintro x4763 j; have j := (hl4765 _).symm.trans j
          ·refine At.nil (At.thn ?_); rcases bite j with ⟨h4768, j⟩ | ⟨h4768, j⟩
           ··refine At.condT rfl h4768 ?_
             refine At.skip (At.thn ?_); refine At.block ?_; refine At.region (At.run 3 rfl (At.nil ?_)); refine At.ibn ?_; have j := bnx hf_ j; exact fun a w e hs => ⟨m4559, (IntKind.i64.wrap (x4350 + 1)), hlt4561, j, e.sub ⟨rfl, rfl, trivial⟩, hs⟩
           ··refine At.condF rfl (bn h4768) ?_
             refine At.exit ?_; refine At.the ?_; refine At.the ?_; exact fun a w e hs => J4562 x4350 (bdn j ho4557) a w (e.sub ⟨rfl, trivial⟩) hs
         ··rcases bite j with ⟨h4769, j⟩ | ⟨h4769, j⟩
           ··refine At.know (t := 34) rfl (decide_eq_true h4769) ?_
             refine At.run 2 rfl ?_; obtain ⟨h4770, j⟩ := bnone j; refine At.y (Y.ixStr rfl rfl rfl rfl h4770.1 h4770.2) rfl rfl rfl (At.run 2 rfl ?_); obtain ⟨G4973, hl4974, hr4975, j⟩ := bjoin j; refine At.joinO 11 (X := Bool × Bool) (fun s_ => [(1, .string ⟨(a1).toArray⟩), (5, .int .i64 x4350), (34, .bool true), (35, .string ⟨(a1).toArray⟩), (36, .int .i64 x4350), (37, .int .u8 (bat a1 x4350)), (38, .bool (decide (bat a1 x4350 = 95))), (39, .bool s_.1), (50, .bool s_.2)]) (fun s_ => Fr) (fun s_ => G4973 (.inl (s_.1, s_.2)) = some o4555) ?_ (fun J4976 => ?_)
             ·rintro ⟨x4971, x4972⟩ j; have j := (hl4974 _).symm.trans j
              ·refine At.run 1 rfl ?_; obtain ⟨G5179, hl5180, hr5181, j⟩ := bjoin j; refine At.joinO 11 (X := Bool × Bool) (fun s_ => [(1, .string ⟨(a1).toArray⟩), (5, .int .i64 x4350), (34, .bool true), (35, .string ⟨(a1).toArray⟩), (36, .int .i64 x4350), (37, .int .u8 (bat a1 x4350)), (38, .bool (decide (bat a1 x4350 = 95))), (39, .bool x4971), (50, .bool x4972), (51, .bool s_.1), (62, .bool s_.2)]) (fun s_ => Fr) (fun s_ => G5179 (.inl (s_.1, s_.2)) = some o4555) ?_ (fun J5182 => ?_)
               ·rintro ⟨x5177, x5178⟩ j; have j := (hl5180 _).symm.trans j
                ·refine At.run 1 rfl ?_; obtain ⟨G5385, hl5386, hr5387, j⟩ := bjoin j; refine At.joinO 11 (X := Bool × Bool) (fun s_ => [(1, .string ⟨(a1).toArray⟩), (5, .int .i64 x4350), (34, .bool true), (35, .string ⟨(a1).toArray⟩), (36, .int .i64 x4350), (37, .int .u8 (bat a1 x4350)), (38, .bool (decide (bat a1 x4350 = 95))), (39, .bool x4971), (50, .bool x4972), (51, .bool x5177), (62, .bool x5178), (63, .bool s_.1), (74, .bool s_.2)]) (fun s_ => Fr) (fun s_ => G5385 (.inl (s_.1, s_.2)) = some o4555) ?_ (fun J5388 => ?_)
                 ·rintro ⟨x5383, x5384⟩ j; have j := (hl5386 _).symm.trans j
                  ·refine At.run 1 rfl ?_; exact At.of (J4767 x5384 j) ⟨rfl, rfl, rfl, trivial⟩
                 ··rcases bite j with ⟨h5389, j⟩ | ⟨h5389, j⟩
                   ··refine At.know (t := 63) rfl h5389 ?_
                     refine At.run 11 rfl ?_; exact At.of (J5388 (true, true) j) ⟨rfl, rfl, rfl, rfl, rfl, rfl, rfl, rfl, rfl, rfl, rfl, rfl, rfl, trivial⟩
                   ··refine At.know (t := 63) rfl (bn h5389) ?_
                     refine At.run 2 rfl (At.y (Y.ixStr rfl rfl rfl rfl h4770.1 h4770.2) rfl rfl rfl (At.run 2 rfl ?_)); obtain ⟨G5592, hl5593, hr5594, j⟩ := bjoin j; refine At.joinO 5 (X := Bool × Bool) (fun s_ => [(1, .string ⟨(a1).toArray⟩), (5, .int .i64 x4350), (34, .bool true), (35, .string ⟨(a1).toArray⟩), (36, .int .i64 x4350), (37, .int .u8 (bat a1 x4350)), (38, .bool (decide (bat a1 x4350 = 95))), (39, .bool x4971), (50, .bool x4972), (51, .bool x5177), (62, .bool x5178), (63, .bool false), (64, .string ⟨(a1).toArray⟩), (65, .int .i64 x4350), (66, .int .u8 (bat a1 x4350)), (67, .bool (decide (48 ≤ bat a1 x4350))), (68, .bool s_.1), (73, .bool s_.2)]) (fun s_ => Fr) (fun s_ => G5592 (.inl (s_.1, s_.2)) = some o4555) ?_ (fun J5595 => ?_)
                     ·rintro ⟨x5590, x5591⟩ j; have j := (hl5593 _).symm.trans j
                      ·refine At.run 1 rfl ?_; exact At.of (J5388 (false, x5591) j) ⟨rfl, rfl, rfl, rfl, rfl, rfl, rfl, rfl, rfl, rfl, rfl, rfl, rfl, trivial⟩
                     ··rcases bite j with ⟨h5596, j⟩ | ⟨h5596, j⟩
                       ··refine At.know (t := 68) rfl (decide_eq_true h5596) ?_
                         refine At.run 2 rfl (At.y (Y.ixStr rfl rfl rfl rfl h4770.1 h4770.2) rfl rfl rfl (At.run 2 rfl ?_)); exact At.of (J5595 (true, decide (bat a1 x4350 ≤ 57)) j) ⟨rfl, rfl, rfl, rfl, rfl, rfl, rfl, rfl, rfl, rfl, rfl, rfl, rfl, rfl, rfl, rfl, rfl, rfl, trivial⟩
                       ··refine At.know (t := 68) rfl (decide_eq_false h5596) ?_
                         refine At.run 5 rfl ?_; exact At.of (J5595 (false, false) j) ⟨rfl, rfl, rfl, rfl, rfl, rfl, rfl, rfl, rfl, rfl, rfl, rfl, rfl, rfl, rfl, rfl, rfl, rfl, trivial⟩
               ··rcases bite j with ⟨h5597, j⟩ | ⟨h5597, j⟩
                 ··refine At.know (t := 51) rfl h5597 ?_
                   refine At.run 11 rfl ?_; exact At.of (J5182 (true, true) j) ⟨rfl, rfl, rfl, rfl, rfl, rfl, rfl, rfl, rfl, rfl, rfl, trivial⟩
                 ··refine At.know (t := 51) rfl (bn h5597) ?_
                   refine At.run 2 rfl (At.y (Y.ixStr rfl rfl rfl rfl h4770.1 h4770.2) rfl rfl rfl (At.run 2 rfl ?_)); obtain ⟨G5800, hl5801, hr5802, j⟩ := bjoin j; refine At.joinO 5 (X := Bool × Bool) (fun s_ => [(1, .string ⟨(a1).toArray⟩), (5, .int .i64 x4350), (34, .bool true), (35, .string ⟨(a1).toArray⟩), (36, .int .i64 x4350), (37, .int .u8 (bat a1 x4350)), (38, .bool (decide (bat a1 x4350 = 95))), (39, .bool x4971), (50, .bool x4972), (51, .bool false), (52, .string ⟨(a1).toArray⟩), (53, .int .i64 x4350), (54, .int .u8 (bat a1 x4350)), (55, .bool (decide (65 ≤ bat a1 x4350))), (56, .bool s_.1), (61, .bool s_.2)]) (fun s_ => Fr) (fun s_ => G5800 (.inl (s_.1, s_.2)) = some o4555) ?_ (fun J5803 => ?_)
                   ·rintro ⟨x5798, x5799⟩ j; have j := (hl5801 _).symm.trans j
                    ·refine At.run 1 rfl ?_; exact At.of (J5182 (false, x5799) j) ⟨rfl, rfl, rfl, rfl, rfl, rfl, rfl, rfl, rfl, rfl, rfl, trivial⟩
                   ··rcases bite j with ⟨h5804, j⟩ | ⟨h5804, j⟩
                     ··refine At.know (t := 56) rfl (decide_eq_true h5804) ?_
                       refine At.run 2 rfl (At.y (Y.ixStr rfl rfl rfl rfl h4770.1 h4770.2) rfl rfl rfl (At.run 2 rfl ?_)); exact At.of (J5803 (true, decide (bat a1 x4350 ≤ 90)) j) ⟨rfl, rfl, rfl, rfl, rfl, rfl, rfl, rfl, rfl, rfl, rfl, rfl, rfl, rfl, rfl, rfl, trivial⟩
                     ··refine At.know (t := 56) rfl (decide_eq_false h5804) ?_
                       refine At.run 5 rfl ?_; exact At.of (J5803 (false, false) j) ⟨rfl, rfl, rfl, rfl, rfl, rfl, rfl, rfl, rfl, rfl, rfl, rfl, rfl, rfl, rfl, rfl, trivial⟩
             ··rcases bite j with ⟨h5805, j⟩ | ⟨h5805, j⟩
               ··refine At.know (t := 39) rfl (decide_eq_true h5805) ?_
                 refine At.run 11 rfl ?_; exact At.of (J4976 (true, true) j) ⟨rfl, rfl, rfl, rfl, rfl, rfl, rfl, rfl, rfl, trivial⟩
               ··refine At.know (t := 39) rfl (decide_eq_false h5805) ?_
                 refine At.run 2 rfl (At.y (Y.ixStr rfl rfl rfl rfl h4770.1 h4770.2) rfl rfl rfl (At.run 2 rfl ?_)); obtain ⟨G6008, hl6009, hr6010, j⟩ := bjoin j; refine At.joinO 5 (X := Bool × Bool) (fun s_ => [(1, .string ⟨(a1).toArray⟩), (5, .int .i64 x4350), (34, .bool true), (35, .string ⟨(a1).toArray⟩), (36, .int .i64 x4350), (37, .int .u8 (bat a1 x4350)), (38, .bool (decide (bat a1 x4350 = 95))), (39, .bool false), (40, .string ⟨(a1).toArray⟩), (41, .int .i64 x4350), (42, .int .u8 (bat a1 x4350)), (43, .bool (decide (97 ≤ bat a1 x4350))), (44, .bool s_.1), (49, .bool s_.2)]) (fun s_ => Fr) (fun s_ => G6008 (.inl (s_.1, s_.2)) = some o4555) ?_ (fun J6011 => ?_)
                 ·rintro ⟨x6006, x6007⟩ j; have j := (hl6009 _).symm.trans j
                  ·refine At.run 1 rfl ?_; exact At.of (J4976 (false, x6007) j) ⟨rfl, rfl, rfl, rfl, rfl, rfl, rfl, rfl, rfl, trivial⟩
                 ··rcases bite j with ⟨h6012, j⟩ | ⟨h6012, j⟩
                   ··refine At.know (t := 44) rfl (decide_eq_true h6012) ?_
                     refine At.run 2 rfl (At.y (Y.ixStr rfl rfl rfl rfl h4770.1 h4770.2) rfl rfl rfl (At.run 2 rfl ?_)); exact At.of (J6011 (true, decide (bat a1 x4350 ≤ 122)) j) ⟨rfl, rfl, rfl, rfl, rfl, rfl, rfl, rfl, rfl, rfl, rfl, rfl, rfl, rfl, trivial⟩
                   ··refine At.know (t := 44) rfl (decide_eq_false h6012) ?_
                     refine At.run 5 rfl ?_; exact At.of (J6011 (false, false) j) ⟨rfl, rfl, rfl, rfl, rfl, rfl, rfl, rfl, rfl, rfl, rfl, rfl, rfl, rfl, trivial⟩
           ··refine At.know (t := 34) rfl (decide_eq_false h4769) ?_
             refine At.run 41 rfl ?_; exact At.of (J4767 false j) ⟨rfl, rfl, rfl, trivial⟩
     ··refine At.condF rfl (decide_eq_false h3748) ?_
       refine At.skip ?_; refine At.ibn ?_; refine At.thn (At.seq (At.region (At.run 2 rfl (At.nil (At.thn (At.ret ?_)))))); cases bret j; exact At.res (.inl rfl) rfl rfl ⟨rfl, rfl⟩

noncomputable def Q46.l0b (a0 : Bs) (x1061 x1062 : Int) : Option ((Int × Int) ⊕ ((Int) ⊕ (Bool × Int))) :=
 if x1062 < (a0.length : Int) then
 if (0 : Int) ≤ x1062 ∧ x1062 < (a0.length : Int) then
 nx (IntKind.i64.wrap (IntKind.i64.wrap (10 * x1061) + (IntKind.i64.wrap (IntKind.u8.wrap (bat a0 x1062 - 48)))), IntKind.i64.wrap (x1062 + 1))
 else none
 else
 dn (.inl x1061)
noncomputable def Q46.l0 (a0 : Bs) (x1061 x1062 : Int) : Option ((Int) ⊕ (Bool × Int)) := iter (fun t_ : Int × Int => Q46.l0b a0 t_.1 t_.2) (x1061, x1062)
noncomputable def Q46.f (a0 : Bs) : Option (Bool × Int) :=
 jn (
 if 4 < (a0.length : Int) then
 some (.inl true)
 else
 jn (
 if 1 < (a0.length : Int) then
 if (0 : Int) ≤ 0 ∧ 0 < (a0.length : Int) then
 some (.inl (decide (bat a0 0 = 48)))
 else none
 else
 some (.inl false)) (fun (x1478 : Bool) =>
 some (.inl x1478))) (fun (x453 : Bool) =>
 if x453 = true then
 some (false, 0)
 else
 jn (Q46.l0 a0 0 0) (fun (x1263 : Int) =>
 some (decide (x1263 ≤ 9999), x1263)))
theorem Q46.callee : Callee Tryz.prog 143 := ⟨_, Tryz.func143, by kernel_rfl, by kernel_rfl⟩
theorem Q46.spec (R : Res) (Fr : List HProp)  (a0 : Bs)  {r : Bool × Int} (j : Q46.f a0 = some r) :
 Spec Tryz.prog 143 [.string ⟨(a0).toArray⟩] R (Fr) (fun v l' => v = .tuple #[.int .i64 r.2, .bool r.1] ∧ Fr = l') := by
 refine Spec.of Tryz.func143 rfl rfl ?_; unfold Q46.f at j; have j := brun j; refine At.seq (At.region (At.run 2 rfl (At.nil (At.thn (At.seq (At.seq (At.region ?_))))))); refine At.run 4 rfl ?_; obtain ⟨G454, hl455, hr456, j⟩ := bjoin j; refine At.joinO 9 (X := Bool) (fun x453 => [(0, .string ⟨(a0).toArray⟩), (18, .bool x453)]) (fun x453 => Fr) (fun x453 => G454 (.inl x453) = some r) ?_ (fun J457 => ?_)
 ·rintro x453 j; have j := (hl455 _).symm.trans j
  ·refine At.nil (At.thn ?_); rcases bite j with ⟨h458, j⟩ | ⟨h458, j⟩
   ··refine At.condT rfl h458 ?_
     refine At.seq (At.region (At.run 2 rfl (At.nil (At.thn (At.ret (At.thr ?_)))))); cases bret j; exact At.res (.inl rfl) rfl rfl ⟨rfl, rfl⟩
   ··refine At.condF rfl (bn h458) ?_
     refine At.skip (At.thn (At.seq (At.region (At.run 1 rfl (At.nil (At.thn (At.seq ?_))))))); refine At.seq (At.region (At.run 3 rfl (At.nil (At.thn ?_)))); refine At.block ?_; obtain ⟨G1264, hl1265, hr1266, j⟩ := bjoin j; obtain ⟨o1267, hlo1268, ho1269⟩ := bsome j; clear j; unfold Q46.l0 at hlo1268; obtain ⟨m1270, hit1272⟩ := Q25.1 hlo1268; clear hlo1268; refine At.loopJ (X := Int × Int) (Y := Int) (e0 := 0) (fun s_ => [(0, .string ⟨(a0).toArray⟩), (4, .int .i64 s_.1), (20, .int .i64 (a0.length : Int)), (21, .int .i64 s_.2)]) (fun s_ => Fr) (fun m_ => fun s_ => iterN (fun t_ : Int × Int => Q46.l0b a0 t_.1 t_.2) m_ (s_.1, s_.2) = some o1267) m1270 (0, 0) hit1272 (fun x1263 => [(4, .int .i64 x1263)]) (fun x1263 => Fr) (fun x1263 => G1264 (.inl x1263) = some r) (fun a w e hs => ⟨e.sub ⟨rfl, rfl, rfl, rfl, trivial⟩, (by exact hs)⟩) ?_ (fun J1274 => ?_)
     ·rintro x1263 j; have j := (hl1265 _).symm.trans j
      ·refine At.ibx ?_; refine At.thn (At.seq (At.region (At.run 5 rfl (At.nil (At.thn (At.ret ?_)))))); cases bret j; exact At.res (.inl rfl) rfl rfl ⟨rfl, rfl⟩
     ·clear hit1272 m1270; rintro m1270 ⟨x1061, x1062⟩ hit1272; obtain ⟨m1271, f_, hlt1273, hf_, j⟩ := bit hit1272; clear hit1272; have j : (Q46.l0b a0 x1061 x1062).bind _ = some o1267 := j; unfold Q46.l0b at j
      ·refine At.seq (At.region (At.run 1 rfl (At.nil (At.thn (At.seq ?_))))); rcases bite j with ⟨h1275, j⟩ | ⟨h1275, j⟩
       ··refine At.condT rfl (decide_eq_true h1275) ?_
         refine At.skip (At.thn (At.seq ?_)); refine At.block ?_; refine At.seq (At.region (At.run 2 rfl (At.nil (At.thn (At.region (At.run 4 rfl ?_)))))); obtain ⟨h1276, j⟩ := bnone j; refine At.y (Y.ixStr rfl rfl rfl rfl h1276.1 h1276.2) rfl rfl rfl (At.run 4 rfl (At.nil ?_)); refine At.ibn ?_; refine At.thn (At.region (At.run 2 rfl (At.nil ?_))); have j := bnx hf_ j; exact fun a w e hs => ⟨m1271, (IntKind.i64.wrap (IntKind.i64.wrap (10 * x1061) + (IntKind.i64.wrap (IntKind.u8.wrap (bat a0 x1062 - 48)))), IntKind.i64.wrap (x1062 + 1)), hlt1273, j, e.sub ⟨rfl, rfl, rfl, rfl, trivial⟩, hs⟩
       ··refine At.condF rfl (decide_eq_false h1275) ?_
         refine At.exit ?_; refine At.the ?_; refine At.the ?_; exact fun a w e hs => J1274 x1061 (bdn j ho1269) a w (e.sub ⟨rfl, trivial⟩) hs
 ··rcases bite j with ⟨h1277, j⟩ | ⟨h1277, j⟩
   ··refine At.know (t := 9) rfl (decide_eq_true h1277) ?_
     refine At.run 9 rfl ?_; exact At.of (J457 true j) ⟨rfl, rfl, trivial⟩
   ··refine At.know (t := 9) rfl (decide_eq_false h1277) ?_
     refine At.run 4 rfl ?_; obtain ⟨G1479, hl1480, hr1481, j⟩ := bjoin j; refine At.joinO 4 (X := Bool) (fun x1478 => [(0, .string ⟨(a0).toArray⟩), (9, .bool false), (17, .bool x1478)]) (fun x1478 => Fr) (fun x1478 => G1479 (.inl x1478) = some r) ?_ (fun J1482 => ?_)
     ·rintro x1478 j; have j := (hl1480 _).symm.trans j
      ·refine At.run 1 rfl ?_; exact At.of (J457 x1478 j) ⟨rfl, rfl, trivial⟩
     ··rcases bite j with ⟨h1483, j⟩ | ⟨h1483, j⟩
       ··refine At.know (t := 13) rfl (decide_eq_true h1483) ?_
         refine At.run 1 rfl ?_; obtain ⟨h1484, j⟩ := bnone j; refine At.y (Y.ixStr rfl rfl rfl rfl h1484.1 h1484.2) rfl rfl rfl (At.run 2 rfl ?_); exact At.of (J1482 (decide (bat a0 0 = 48)) j) ⟨rfl, rfl, rfl, trivial⟩
       ··refine At.know (t := 13) rfl (decide_eq_false h1483) ?_
         refine At.run 4 rfl ?_; exact At.of (J1482 false j) ⟨rfl, rfl, rfl, trivial⟩

noncomputable def Q90.f (a0 : Bs) (a1 : Int) : Option (Int × Int × Int × Bs × Int) :=
 if (0 : Int) ≤ a1 ∧ a1 < (a0.length : Int) then
 (Q91.f (bat a0 a1)).bind fun t266 =>
 if (0 : Int) ≤ a1 ∧ a1 ≤ (a0.length : Int) then
 (Q14.f t266 (a0.drop a1.toNat)).bind fun t272 =>
 if (0 : Int) ≤ a1 ∧ a1 ≤ IntKind.i64.wrap (a1 + t272) ∧ IntKind.i64.wrap (a1 + t272) ≤ (a0.length : Int) then
 if t266 = 0 then
 some (3, t266, a1, (bsl a0 a1 (IntKind.i64.wrap (a1 + t272))), 0)
 else
 if t266 = 2 then
 if 8 < ((bsl a0 a1 (IntKind.i64.wrap (a1 + t272))).length : Int) then
 some (5, t266, a1, (bsl a0 a1 (IntKind.i64.wrap (a1 + t272))), 0)
 else
 some (0, t266, a1, (bsl a0 a1 (IntKind.i64.wrap (a1 + t272))), 0)
 else
 if t266 = 3 then
 if 8 < ((bsl a0 a1 (IntKind.i64.wrap (a1 + t272))).length : Int) then
 some (5, t266, a1, (bsl a0 a1 (IntKind.i64.wrap (a1 + t272))), 0)
 else
 some (0, t266, a1, (bsl a0 a1 (IntKind.i64.wrap (a1 + t272))), 0)
 else
 if t266 = 4 then
 (Q46.f (bsl a0 a1 (IntKind.i64.wrap (a1 + t272)))).bind fun t282 =>
 if t282.1 = true then
 some (0, t266, a1, (bsl a0 a1 (IntKind.i64.wrap (a1 + t272))), t282.2)
 else
 some (4, t266, a1, (bsl a0 a1 (IntKind.i64.wrap (a1 + t272))), 0)
 else
 some (0, t266, a1, (bsl a0 a1 (IntKind.i64.wrap (a1 + t272))), 0)
 else none
 else none
 else none
theorem Q90.callee : Callee Tryz.prog 95 := ⟨_, Tryz.func95, by kernel_rfl, by kernel_rfl⟩
theorem Q90.spec (R : Res) (Fr : List HProp)  (a0 : Bs) (a1 : Int)  {r : Int × Int × Int × Bs × Int} (j : Q90.f a0 a1 = some r) :
 Spec Tryz.prog 95 [.string ⟨(a0).toArray⟩, .int .i64 a1] R (Fr) (fun v l' => v = .tuple #[.agg #[.int .i64 r.2.1, .int .i64 r.2.2.1, .string ⟨(r.2.2.2.1).toArray⟩, .int .i64 r.2.2.2.2], .int .i64 r.1] ∧ Fr = l') := by
 refine Spec.of Tryz.func95 rfl rfl ?_; unfold Q90.f at j; have j := brun j; refine At.seq (At.region ?_); refine At.alloc rfl rfl rfl (fun b264 => ?_); refine At.run 1 rfl (At.nil (At.thn (At.seq (At.region (At.run 2 rfl ?_))))); obtain ⟨h265, j⟩ := bnone j; refine At.y (Y.ixStr rfl rfl rfl rfl h265.1 h265.2) rfl rfl rfl ?_; obtain ⟨t266, hc267, j⟩ := bbind j; refine At.call rfl Q91.callee rfl rfl rfl (Q91.spec _ _  (bat a0 a1)  hc267) ?_; rintro _ _ ⟨rfl, rfl⟩; refine At.run 1 rfl ?_; refine At.y (Y.build (is := [0, 1]) (xo := [.tmp 12, .tmp 13]) (vs := [.int .i64 t266, .int .i64 a1]) (cs := [.int .i64 t266, .int .i64 a1, .string ⟨(([] : Bs)).toArray⟩, .int .i64 0]) rfl rfl rfl rfl rfl rfl) rfl rfl rfl ?_; refine At.alloc rfl rfl rfl (fun b268 => ?_); refine At.store rfl rfl rfl rfl .z rfl rfl rfl (.c (.c (.c (.c .n)))) ?_; refine At.nil (At.thn (At.seq ?_)); refine At.held [pt b264 (.cells [.int .i64 0, .int .i64 0, .string ⟨(([] : Bs)).toArray⟩, .int .i64 0].toArray 116)] 13 rfl ?_; refine At.H.pw 0 rfl rfl rfl rfl rfl (.c (.s .z) .n) ?_; refine At.H.pw 1 rfl rfl rfl rfl rfl (.c (.s .z) .n) ?_; refine At.H.pw 2 rfl rfl rfl rfl rfl (.c (.s .z) .n) ?_; refine At.H.pw 3 rfl rfl rfl rfl rfl (.c (.s .z) .n) ?_; refine At.H.pw 5 rfl rfl rfl rfl rfl (.c (.s .z) .n) ?_; refine At.H.pw 6 rfl rfl rfl rfl rfl (.c (.s .z) .n) ?_; obtain ⟨h271, j⟩ := bnone j; refine At.H.tw 7 rfl (Y.slStrL rfl rfl rfl rfl h271.1 h271.2) rfl rfl rfl (.c (.s .z) .n) ?_; refine At.H.al [4] (Q7 ?_ Q9)
 ··refine At.HO.op rfl ?_
   refine At.y (Y.load rfl rfl .z rfl rfl rfl) rfl rfl rfl ?_; refine At.HO.back (.c (.s .z) .n) ?_; refine At.H.al [8] (Q7 ?_ Q9)
   ··refine At.HO.op rfl ?_
     obtain ⟨t272, hc273, j⟩ := bbind j; refine At.call rfl Q14.callee rfl rfl rfl (Q14.spec _ _  t266 (a0.drop a1.toNat)  hc273) ?_; rintro _ _ ⟨rfl, rfl⟩; refine At.HO.back (.c (.s .z) .n) ?_; refine At.H.pw 9 rfl rfl rfl rfl rfl (.c (.s .z) .n) ?_; obtain ⟨h274, j⟩ := bnone j; refine At.H.tw 10 rfl (Y.slStrLH rfl rfl rfl rfl rfl h274.1 h274.2.1 h274.2.2) rfl rfl rfl (.c (.s .z) .n) ?_; refine At.H.pw 11 rfl rfl rfl rfl rfl (.c (.s .z) .n) ?_; refine At.H.al [12] (Q7 ?_ Q9)
     ··refine At.HO.op rfl ?_
       refine At.store rfl rfl rfl rfl .z rfl rfl rfl (.s (.s (.c .n))) ?_; refine At.HO.back (.c (.s .z) .n) ?_; refine At.H.done (by kernel_rfl) ?_; refine At.thn (At.seq (At.seq (At.region (At.run 1 rfl (At.y (Y.load rfl rfl .z rfl rfl rfl) rfl rfl rfl (At.nil (At.thn ?_))))))); refine At.block ?_; refine At.seq (At.region (At.run 2 rfl (At.nil (At.thn ?_)))); rcases bite j with ⟨h275, j⟩ | ⟨h275, j⟩
       ··refine At.condT rfl (decide_eq_true h275) ?_
         refine At.seq (At.region (At.y (Y.load rfl rfl .z rfl rfl rfl) rfl rfl rfl ?_)); refine At.store rfl rfl rfl rfl (.s .z) rfl rfl rfl (.c (.c (.c (.c .n)))) ?_; refine At.run 1 rfl (At.nil (At.thn (At.ret ?_))); refine At.ibr ?_; refine At.thr ?_; refine At.resM (.inl rfl) rfl (RV.cell rfl rfl .z rfl rfl rfl (RV.tmp rfl RV.nil)) ?_; refine At.drop .z (At.drop .z ?_); cases bret j; exact fun a w e hs => ⟨_, ⟨rfl, rfl⟩, hs⟩
       ··refine At.condF rfl (decide_eq_false h275) ?_
         refine At.seq (At.seq (At.region (At.run 2 rfl (At.nil (At.thn ?_))))); rcases bite j with ⟨h276, j⟩ | ⟨h276, j⟩
         ··refine At.condT rfl (decide_eq_true h276) ?_
           refine At.skip (At.thn ?_); refine At.condT rfl (decide_eq_true h276) ?_; refine At.seq (At.region (At.run 1 rfl (At.y (Y.load rfl rfl .z rfl rfl rfl) rfl rfl rfl (At.run 2 rfl (At.nil (At.thn ?_)))))); rcases bite j with ⟨h278, j⟩ | ⟨h278, j⟩
           ··refine At.condT rfl (decide_eq_true h278) ?_
             refine At.seq (At.region (At.y (Y.load rfl rfl .z rfl rfl rfl) rfl rfl rfl ?_)); refine At.store rfl rfl rfl rfl (.s .z) rfl rfl rfl (.c (.c (.c (.c .n)))) ?_; refine At.run 1 rfl (At.nil (At.thn (At.ret ?_))); refine At.ibr ?_; refine At.thr ?_; refine At.resM (.inl rfl) rfl (RV.cell rfl rfl .z rfl rfl rfl (RV.tmp rfl RV.nil)) ?_; refine At.drop .z (At.drop .z ?_); cases bret j; exact fun a w e hs => ⟨_, ⟨rfl, rfl⟩, hs⟩
           ··refine At.condF rfl (decide_eq_false h278) ?_
             refine At.skip ?_; refine At.ibn ?_; refine At.thn (At.seq (At.region (At.y (Y.load rfl rfl .z rfl rfl rfl) rfl rfl rfl ?_))); refine At.store rfl rfl rfl rfl (.s .z) rfl rfl rfl (.c (.c (.c (.c .n)))) ?_; refine At.run 1 rfl (At.nil (At.thn (At.ret ?_))); refine At.resM (.inl rfl) rfl (RV.cell rfl rfl .z rfl rfl rfl (RV.tmp rfl RV.nil)) ?_; refine At.drop .z (At.drop .z ?_); cases bret j; exact fun a w e hs => ⟨_, ⟨rfl, rfl⟩, hs⟩
         ··refine At.condF rfl (decide_eq_false h276) ?_
           refine At.region (At.run 2 rfl (At.nil (At.thn ?_))); rcases bite j with ⟨h279, j⟩ | ⟨h279, j⟩
           ··refine At.condT rfl (decide_eq_true h279) ?_
             refine At.seq (At.region (At.run 1 rfl (At.y (Y.load rfl rfl .z rfl rfl rfl) rfl rfl rfl (At.run 2 rfl (At.nil (At.thn ?_)))))); rcases bite j with ⟨h280, j⟩ | ⟨h280, j⟩
             ··refine At.condT rfl (decide_eq_true h280) ?_
               refine At.seq (At.region (At.y (Y.load rfl rfl .z rfl rfl rfl) rfl rfl rfl ?_)); refine At.store rfl rfl rfl rfl (.s .z) rfl rfl rfl (.c (.c (.c (.c .n)))) ?_; refine At.run 1 rfl (At.nil (At.thn (At.ret ?_))); refine At.ibr ?_; refine At.thr ?_; refine At.resM (.inl rfl) rfl (RV.cell rfl rfl .z rfl rfl rfl (RV.tmp rfl RV.nil)) ?_; refine At.drop .z (At.drop .z ?_); cases bret j; exact fun a w e hs => ⟨_, ⟨rfl, rfl⟩, hs⟩
             ··refine At.condF rfl (decide_eq_false h280) ?_
               refine At.skip ?_; refine At.ibn ?_; refine At.thn (At.seq (At.region (At.y (Y.load rfl rfl .z rfl rfl rfl) rfl rfl rfl ?_))); refine At.store rfl rfl rfl rfl (.s .z) rfl rfl rfl (.c (.c (.c (.c .n)))) ?_; refine At.run 1 rfl (At.nil (At.thn (At.ret ?_))); refine At.resM (.inl rfl) rfl (RV.cell rfl rfl .z rfl rfl rfl (RV.tmp rfl RV.nil)) ?_; refine At.drop .z (At.drop .z ?_); cases bret j; exact fun a w e hs => ⟨_, ⟨rfl, rfl⟩, hs⟩
           ··refine At.condF rfl (decide_eq_false h279) ?_
             refine At.seq (At.region (At.run 2 rfl (At.nil (At.thn ?_)))); rcases bite j with ⟨h281, j⟩ | ⟨h281, j⟩
             ··refine At.condT rfl (decide_eq_true h281) ?_
               refine At.seq (At.region (At.run 1 rfl (At.y (Y.load rfl rfl .z rfl rfl rfl) rfl rfl rfl ?_))); obtain ⟨t282, hc283, j⟩ := bbind j; refine At.call rfl Q46.callee rfl rfl rfl (Q46.spec _ _  (bsl a0 a1 (IntKind.i64.wrap (a1 + t272)))  hc283) ?_; rintro _ _ ⟨rfl, rfl⟩; refine At.run 5 rfl (At.nil (At.thn (At.seq (At.seq (At.region (At.run 2 rfl (At.nil ?_))))))); refine At.thn ?_; rcases bite j with ⟨h284, j⟩ | ⟨h284, j⟩
               ··refine At.condF rfl (nf h284) ?_
                 refine At.skip (At.thn (At.region (At.run 2 rfl ?_))); refine At.store rfl rfl rfl rfl .z rfl rfl rfl (.s (.s (.s (.c .n)))) ?_; refine At.nil ?_; refine At.ibn ?_; refine At.thn (At.seq (At.region (At.y (Y.load rfl rfl .z rfl rfl rfl) rfl rfl rfl ?_))); refine At.store rfl rfl rfl rfl (.s .z) rfl rfl rfl (.c (.c (.c (.c .n)))) ?_; refine At.run 1 rfl (At.nil (At.thn (At.ret ?_))); refine At.resM (.inl rfl) rfl (RV.cell rfl rfl .z rfl rfl rfl (RV.tmp rfl RV.nil)) ?_; refine At.drop .z (At.drop .z ?_); cases bret j; exact fun a w e hs => ⟨_, ⟨rfl, rfl⟩, hs⟩
               ··refine At.condT rfl (nt (bn h284)) ?_
                 refine At.seq (At.region (At.y (Y.load rfl rfl .z rfl rfl rfl) rfl rfl rfl ?_)); refine At.store rfl rfl rfl rfl (.s .z) rfl rfl rfl (.c (.c (.c (.c .n)))) ?_; refine At.run 1 rfl (At.nil (At.thn (At.ret (At.thr ?_)))); refine At.ibr ?_; refine At.thr ?_; refine At.resM (.inl rfl) rfl (RV.cell rfl rfl .z rfl rfl rfl (RV.tmp rfl RV.nil)) ?_; refine At.drop .z (At.drop .z ?_); cases bret j; exact fun a w e hs => ⟨_, ⟨rfl, rfl⟩, hs⟩
             ··refine At.condF rfl (decide_eq_false h281) ?_
               refine At.skip ?_; refine At.ibn ?_; refine At.thn (At.seq (At.region (At.y (Y.load rfl rfl .z rfl rfl rfl) rfl rfl rfl ?_))); refine At.store rfl rfl rfl rfl (.s .z) rfl rfl rfl (.c (.c (.c (.c .n)))) ?_; refine At.run 1 rfl (At.nil (At.thn (At.ret ?_))); refine At.resM (.inl rfl) rfl (RV.cell rfl rfl .z rfl rfl rfl (RV.tmp rfl RV.nil)) ?_; refine At.drop .z (At.drop .z ?_); cases bret j; exact fun a w e hs => ⟨_, ⟨rfl, rfl⟩, hs⟩

noncomputable def Q50.l0b (a0 : Bs) (x867 : List Q6) (x872 : Int) : Option (((List Q6) × Int) ⊕ (((List Q6)) ⊕ ((Option Q5) × (List Q6)))) :=
 if x872 < (a0.length : Int) then
 if (0 : Int) ≤ x872 ∧ x872 < (a0.length : Int) then
 jn (
 if bat a0 x872 = 32 then
 some (.inl true)
 else
 some (.inl (decide (bat a0 x872 = 9)))) (fun (x1297 : Bool) =>
 if x1297 = true then
 nx (x867, IntKind.i64.wrap (x872 + 1))
 else
 if bat a0 x872 = 35 then
 if (0 : Int) ≤ x872 ∧ x872 ≤ (a0.length : Int) then
 (Q85.f (a0.drop x872.toNat) 10).bind fun t1305 =>
 if t1305 < 0 then
 nx (x867, IntKind.i64.wrap (x872 + (IntKind.i64.wrap ((a0.length : Int) - x872))))
 else
 nx (x867, IntKind.i64.wrap (x872 + t1305))
 else none
 else
 (Q90.f a0 x872).bind fun t1308 =>
 if t1308.1 = 0 then
 if (x867.length + ([(⟨t1308.2.1, t1308.2.2.1, t1308.2.2.2.1, t1308.2.2.2.2⟩ : Q6)] : List Q6).length) * 40 ≤ 140737488355328 then
 nx ((x867 ++ ([(⟨t1308.2.1, t1308.2.2.1, t1308.2.2.2.1, t1308.2.2.2.2⟩ : Q6)] : List Q6)), IntKind.i64.wrap (x872 + (t1308.2.2.2.1.length : Int)))
 else none
 else
 upL (some ((some (⟨x872, t1308.1⟩ : Q5)), ([] : List Q6))))
 else none
 else
 dn (.inl x867)
noncomputable def Q50.l0 (a0 : Bs) (x867 : List Q6) (x872 : Int) : Option (((List Q6)) ⊕ ((Option Q5) × (List Q6))) := iter (fun t_ : (List Q6) × Int => Q50.l0b a0 t_.1 t_.2) (x867, x872)
noncomputable def Q50.f (a0 : Bs) : Option ((Option Q5) × (List Q6)) :=
 if 262144 < (a0.length : Int) then
 some ((some (⟨262144, 2⟩ : Q5)), ([] : List Q6))
 else
 jn (Q50.l0 a0 ([] : List Q6) 0) (fun (x1073 : List Q6) =>
 if (x1073.length + ([(⟨0, (a0.length : Int), ([] : Bs), 0⟩ : Q6)] : List Q6).length) * 40 ≤ 140737488355328 then
 some (none, (x1073 ++ ([(⟨0, (a0.length : Int), ([] : Bs), 0⟩ : Q6)] : List Q6)))
 else none)
theorem Q50.callee : Callee Tryz.prog 69 := ⟨_, Tryz.func69, by kernel_rfl, by kernel_rfl⟩
theorem Q50.spec (R : Res) (Fr : List HProp)  (a0 : Bs)  {r : (Option Q5) × (List Q6)} (j : Q50.f a0 = some r) :
 Spec Tryz.prog 69 [.string ⟨(a0).toArray⟩] R (Fr) (fun v l' => ∃ (w251 : Option Nat) (w254 : Nat) (w256 : Option Addr) (w257 : Nat), v = .tuple #[.slice w256 w254 w257, opti 111 w251] ∧ row Q6.fl 116 w256 w254 w257 r.2 :: optb (Ow.fl Q5.fl) 58 w251 r.1 :: Fr = l' ∧ r.2.length = w254) := by
 refine Spec.of Tryz.func69 rfl rfl ?_; unfold Q50.f at j; have j := brun j; refine At.seq (At.region (At.run 2 rfl (At.nil (At.thn (At.seq (At.seq (At.region ?_))))))); refine At.run 3 rfl (At.nil (At.thn ?_)); rcases bite j with ⟨h258, j⟩ | ⟨h258, j⟩
 ··refine At.condT rfl (decide_eq_true h258) ?_
   refine At.seq (At.region ?_); refine At.y (Y.build (is := [0, 1]) (xo := [.const (.int .i64 262144), .const (.int .i64 2)]) (vs := [.int .i64 262144, .int .i64 2]) (cs := [.int .i64 262144, .int .i64 2]) rfl rfl rfl rfl rfl rfl) rfl rfl rfl ?_; refine At.box rfl rfl (cs := [.int .i64 262144, .int .i64 2]) rfl rfl (fun b259 => ?_); refine At.run 3 rfl (At.nil (At.thn (At.ret (At.thr ?_)))); refine At.nilRow Q6.fl 116 ?_; refine At.f1 ?_; refine At.optSome (x := (⟨262144, 2⟩ : Q5)) (Ent.fl Q5.fl (x := (⟨262144, 2⟩ : Q5)) rfl) ?_; refine At.f1 ?_; cases bret j; exact At.res (.inl rfl) rfl rfl ⟨(some b259), 0, none, 0, rfl, rfl, rfl⟩
 ··refine At.condF rfl (decide_eq_false h258) ?_
   refine At.skip (At.thn (At.seq (At.region (At.run 1 rfl (At.nil (At.thn (At.seq ?_))))))); refine At.seq (At.region (At.run 1 rfl (At.nil (At.thn ?_)))); refine At.block ?_; obtain ⟨G1078, hl1079, hr1080, j⟩ := bjoin j; obtain ⟨o1081, hlo1082, ho1083⟩ := bsome j; clear j; unfold Q50.l0 at hlo1082; obtain ⟨m1084, hit1086⟩ := Q25.1 hlo1082; clear hlo1082; refine At.nilRow Q6.fl 116 ?_; refine At.loopJ (X := (List Q6) × Int × Nat × (Option Addr) × Nat) (Y := (List Q6) × Nat × (Option Addr) × Nat) (e0 := 0) (fun s_ => [(0, .string ⟨(a0).toArray⟩), (4, .slice s_.2.2.2.1 s_.2.2.1 s_.2.2.2.2), (5, .int .i64 s_.2.1)]) (fun s_ => row Q6.fl 116 s_.2.2.2.1 s_.2.2.1 s_.2.2.2.2 s_.1 :: Fr) (fun m_ => fun s_ => iterN (fun t_ : (List Q6) × Int => Q50.l0b a0 t_.1 t_.2) m_ (s_.1, s_.2.1) = some o1081 ∧ s_.1.length = s_.2.2.1) m1084 (([] : List Q6), 0, 0, none, 0) ⟨hit1086, rfl⟩ (fun s_ => [(0, .string ⟨(a0).toArray⟩), (4, .slice s_.2.2.1 s_.2.1 s_.2.2.2)]) (fun s_ => row Q6.fl 116 s_.2.2.1 s_.2.1 s_.2.2.2 s_.1 :: Fr) (fun s_ => G1078 (.inl s_.1) = some r ∧ s_.1.length = s_.2.1) (fun a w e hs => ⟨e.sub ⟨rfl, rfl, rfl, trivial⟩, (by exact hs)⟩) ?_ (fun J1088 => ?_)
   ·rintro ⟨x1073, w1074, w1076, w1077⟩ ⟨j, hn1075⟩; obtain rfl : x1073.length = w1074 := hn1075; have j := (hl1079 _).symm.trans j
    ·refine At.ibx ?_; refine At.thn (At.seq (At.region (At.run 3 rfl ?_))); refine At.y (Y.build (is := [0, 1]) (xo := [.const (.int .i64 0), .tmp 72]) (vs := [.int .i64 0, .int .i64 (a0.length : Int)]) (cs := [.int .i64 0, .int .i64 (a0.length : Int), .string ⟨(([] : Bs)).toArray⟩, .int .i64 0]) rfl rfl rfl rfl rfl rfl) rfl rfl rfl ?_; refine At.lit rfl (xo := [.tmp 73]) (ys := ([(⟨0, (a0.length : Int), ([] : Bs), 0⟩ : Q6)] : List Q6)) Q6.fl rfl rfl rfl rfl rfl rfl rfl rfl rfl rfl rfl (fun A1089 c1090 => ?_); obtain ⟨h1092, j⟩ := bnone j; refine At.append rfl (.s .z) (Src.own .z (by simp)) rfl rfl rfl rfl rfl rfl rfl rfl h1092 (by decide) rfl (fun A1093 c1094 => ?_); refine At.drop (.s .z) (At.run 2 rfl (At.nil (At.thn (At.ret ?_)))); refine At.optNone (Ow.fl Q5.fl) 58 ?_; refine At.f1 ?_; cases bret j; exact At.res (.inl rfl) rfl rfl ⟨none, (x1073 ++ ([(⟨0, (a0.length : Int), ([] : Bs), 0⟩ : Q6)] : List Q6)).length, A1093, c1094, rfl, rfl, rfl⟩
   ·clear hit1086 m1084; rintro m1084 ⟨x867, x872, w868, w870, w871⟩ ⟨hit1086, hn869⟩; obtain rfl : x867.length = w868 := hn869; obtain ⟨m1085, f_, hlt1087, hf_, j⟩ := bit hit1086; clear hit1086; have j : (Q50.l0b a0 x867 x872).bind _ = some o1081 := j; unfold Q50.l0b at j
    ·refine At.seq (At.seq (At.region (At.run 4 rfl (At.nil (At.thn ?_))))); rcases bite j with ⟨h1095, j⟩ | ⟨h1095, j⟩
     ··refine At.condT rfl (decide_eq_true h1095) ?_
       refine At.skip (At.thn ?_); refine At.block ?_; refine At.seq (At.region (At.run 2 rfl ?_)); obtain ⟨h1096, j⟩ := bnone j; refine At.y (Y.ixStr rfl rfl rfl rfl h1096.1 h1096.2) rfl rfl rfl (At.run 1 rfl (At.nil (At.thn ?_))); refine At.block ?_; refine At.seq (At.region (At.run 3 rfl ?_)); obtain ⟨G1298, hl1299, hr1300, j⟩ := bjoin j; refine At.joinO 3 (X := Bool) (fun x1297 => [(0, .string ⟨(a0).toArray⟩), (4, .slice w870 x867.length w871), (5, .int .i64 x872), (6, .int .u8 (bat a0 x872)), (51, .bool x1297)]) (fun x1297 => row Q6.fl 116 w870 x867.length w871 x867 :: Fr) (fun x1297 => G1298 (.inl x1297) = some o1081) ?_ (fun J1301 => ?_)
       ·rintro x1297 j; have j := (hl1299 _).symm.trans j
        ·refine At.run 1 rfl (At.nil (At.thn ?_)); rcases bite j with ⟨h1302, j⟩ | ⟨h1302, j⟩
         ··refine At.condT rfl h1302 ?_
           refine At.region (At.run 3 rfl (At.nil ?_)); refine At.ibn ?_; refine At.ibn ?_; have j := bnx hf_ j; exact fun a w e hs => ⟨m1085, (x867, IntKind.i64.wrap (x872 + 1), x867.length, w870, w871), hlt1087, ⟨j, rfl⟩, e.sub ⟨rfl, rfl, rfl, trivial⟩, hs⟩
         ··refine At.condF rfl (bn h1302) ?_
           refine At.seq (At.region (At.run 3 rfl (At.nil (At.thn ?_)))); rcases bite j with ⟨h1303, j⟩ | ⟨h1303, j⟩
           ··refine At.condT rfl (decide_eq_true h1303) ?_
             refine At.seq (At.region (At.run 2 rfl ?_)); obtain ⟨h1304, j⟩ := bnone j; refine At.y (Y.slStrL rfl rfl rfl rfl h1304.1 h1304.2) rfl rfl rfl ?_; obtain ⟨t1305, hc1306, j⟩ := bbind j; refine At.call rfl Q85.callee rfl rfl rfl (Q85.spec _ _  (a0.drop x872.toNat) 10  hc1306) ?_; rintro _ _ ⟨rfl, rfl⟩; refine At.run 1 rfl (At.nil (At.thn (At.seq (At.seq (At.region (At.run 2 rfl (At.nil ?_))))))); refine At.thn ?_; rcases bite j with ⟨h1307, j⟩ | ⟨h1307, j⟩
             ··refine At.condT rfl (decide_eq_true h1307) ?_
               refine At.region (At.run 5 rfl (At.nil (At.thn (At.region (At.run 4 rfl (At.nil ?_)))))); refine At.ibn ?_; refine At.ibn ?_; have j := bnx hf_ j; exact fun a w e hs => ⟨m1085, (x867, IntKind.i64.wrap (x872 + (IntKind.i64.wrap ((a0.length : Int) - x872))), x867.length, w870, w871), hlt1087, ⟨j, rfl⟩, e.sub ⟨rfl, rfl, rfl, trivial⟩, hs⟩
             ··refine At.condF rfl (decide_eq_false h1307) ?_
               refine At.skip (At.thn (At.region (At.run 4 rfl (At.nil ?_)))); refine At.ibn ?_; refine At.ibn ?_; have j := bnx hf_ j; exact fun a w e hs => ⟨m1085, (x867, IntKind.i64.wrap (x872 + t1305), x867.length, w870, w871), hlt1087, ⟨j, rfl⟩, e.sub ⟨rfl, rfl, rfl, trivial⟩, hs⟩
           ··refine At.condF rfl (decide_eq_false h1303) ?_
             refine At.seq (At.region (At.run 2 rfl ?_)); obtain ⟨t1308, hc1309, j⟩ := bbind j; refine At.call rfl Q90.callee rfl rfl rfl (Q90.spec _ _  a0 x872  hc1309) ?_; rintro _ _ ⟨rfl, rfl⟩; refine At.run 3 rfl ?_; refine At.alloc rfl rfl rfl (fun b1310 => ?_); refine At.store rfl rfl rfl rfl .z rfl rfl rfl (.c (.c (.c (.c .n)))) ?_; refine At.run 1 rfl (At.nil (At.thn (At.seq (At.seq (At.region (At.run 2 rfl (At.nil ?_))))))); refine At.thn ?_; rcases bite j with ⟨h1311, j⟩ | ⟨h1311, j⟩
             ··refine At.condF rfl (nf (decide_eq_true h1311)) ?_
               refine At.skip (At.thn (At.seq (At.region (At.run 1 rfl (At.y (Y.load rfl rfl .z rfl rfl rfl) rfl rfl rfl ?_))))); refine At.lit rfl (xo := [.tmp 37]) (ys := ([(⟨t1308.2.1, t1308.2.2.1, t1308.2.2.2.1, t1308.2.2.2.2⟩ : Q6)] : List Q6)) Q6.fl rfl rfl rfl rfl rfl rfl rfl rfl rfl rfl rfl (fun A1312 c1313 => ?_); obtain ⟨h1315, j⟩ := bnone j; refine At.append rfl (.s (.s .z)) (Src.own .z (by simp)) rfl rfl rfl rfl rfl rfl rfl rfl h1315 (by decide) rfl (fun A1316 c1317 => ?_); refine At.drop (.s .z) (At.run 1 rfl (At.nil (At.thn (At.region (At.run 2 rfl (At.y (Y.load rfl rfl (.s .z) rfl rfl rfl) rfl rfl rfl (At.run 3 rfl ?_))))))); refine At.nil ?_; refine At.ibn ?_; refine At.ibn ?_; refine At.drop (.s .z) ?_; have j := bnx hf_ j; exact fun a w e hs => ⟨m1085, ((x867 ++ ([(⟨t1308.2.1, t1308.2.2.1, t1308.2.2.2.1, t1308.2.2.2.2⟩ : Q6)] : List Q6)), IntKind.i64.wrap (x872 + (t1308.2.2.2.1.length : Int)), (x867 ++ ([(⟨t1308.2.1, t1308.2.2.1, t1308.2.2.2.1, t1308.2.2.2.2⟩ : Q6)] : List Q6)).length, A1316, c1317), hlt1087, ⟨j, rfl⟩, e.sub ⟨rfl, rfl, rfl, trivial⟩, hs⟩
             ··refine At.condT rfl (nt (decide_eq_false h1311)) ?_
               refine At.seq (At.region (At.run 2 rfl ?_)); refine At.y (Y.build (is := [0, 1]) (xo := [.tmp 31, .tmp 32]) (vs := [.int .i64 x872, .int .i64 t1308.1]) (cs := [.int .i64 x872, .int .i64 t1308.1]) rfl rfl rfl rfl rfl rfl) rfl rfl rfl ?_; refine At.box rfl rfl (cs := [.int .i64 x872, .int .i64 t1308.1]) rfl rfl (fun b1318 => ?_); refine At.run 3 rfl (At.nil (At.thn (At.ret (At.thr ?_)))); refine At.ibr ?_; refine At.ibr ?_; have j := bupL hr1080 ho1083 j; refine At.thr ?_; refine At.ibr ?_; refine At.thr ?_; refine At.nilRow Q6.fl 116 ?_; refine At.f1 ?_; refine At.optSome (x := (⟨x872, t1308.1⟩ : Q5)) (Ent.fl Q5.fl (x := (⟨x872, t1308.1⟩ : Q5)) rfl) ?_; refine At.drop (.s (.s .z)) (At.drop (.s (.s .z)) (At.f1 ?_)); cases bret j; exact At.res (.inl rfl) rfl rfl ⟨(some b1318), 0, none, 0, rfl, rfl, rfl⟩
       ··rcases bite j with ⟨h1320, j⟩ | ⟨h1320, j⟩
         ··refine At.know (t := 48) rfl (decide_eq_true h1320) ?_
           refine At.run 3 rfl ?_; exact At.of (J1301 true j) ⟨rfl, rfl, rfl, rfl, rfl, trivial⟩
         ··refine At.know (t := 48) rfl (decide_eq_false h1320) ?_
           refine At.run 3 rfl ?_; exact At.of (J1301 (decide (bat a0 x872 = 9)) j) ⟨rfl, rfl, rfl, rfl, rfl, trivial⟩
     ··refine At.condF rfl (decide_eq_false h1095) ?_
       refine At.exit ?_; refine At.the ?_; refine At.the ?_; exact fun a w e hs => J1088 (x867, x867.length, w870, w871) ⟨(bdn j ho1083), rfl⟩ a w (e.sub ⟨rfl, rfl, trivial⟩) hs

noncomputable def Q33.l0b  (x868 : List Q6) : Option (((List Q6)) ⊕ (((List Q6)) ⊕ ((List Q6)))) :=
 if (0 : Int) ≤ 0 ∧ 0 < (x868.length : Int) then
 if (gt x868 0).Kind = 1 then
 if (0 : Int) ≤ 1 ∧ 1 ≤ (x868.length : Int) then
 nx (x868.drop (1 : Int).toNat)
 else none
 else
 dn (.inl x868)
 else none
noncomputable def Q33.l0  (x868 : List Q6) : Option (((List Q6)) ⊕ ((List Q6))) := iter (fun t_ : (List Q6) => Q33.l0b  t_) x868
noncomputable def Q33.f (a0_0 : List Q6) (a0_1 : Option Q5) (a0_2 : Int) (a0_3 : List Bs) (a0_4 : List Q0) (a0_5 : List Q2) (a0_6 : List Q3) (a0_7 : List (Bs × Bool)) : Option (List Q6) :=
 jn (Q33.l0  a0_0) (fun (x1075 : List Q6) =>
 some x1075)
theorem Q33.callee : Callee Tryz.prog 71 := ⟨_, Tryz.func71, by kernel_rfl, by kernel_rfl⟩
theorem Q33.spec (R : Res) (Fr : List HProp) (b0 : Nat) (A0_0 : Option Addr) (n0_0 : Nat) (c0_0 : Nat) (p0_1 : Option Nat) (A0_3 : Option Addr) (n0_3 : Nat) (c0_3 : Nat) (A0_4 : Option Addr) (n0_4 : Nat) (c0_4 : Nat) (A0_5 : Option Addr) (n0_5 : Nat) (c0_5 : Nat) (A0_6 : Option Addr) (n0_6 : Nat) (c0_6 : Nat) (b0_7 : Nat) (a0_0 : List Q6) (a0_1 : Option Q5) (a0_2 : Int) (a0_3 : List Bs) (a0_4 : List Q0) (a0_5 : List Q2) (a0_6 : List Q3) (a0_7 : List (Bs × Bool)) (hr0_0 : RdS Q6.fl.rep R.heap A0_0 a0_0) (hn0_0 : a0_0.length = n0_0) (hc0_0 : n0_0 ≤ c0_0) (hn0_3 : a0_3.length = n0_3) (hn0_4 : a0_4.length = n0_4) (hn0_5 : a0_5.length = n0_5) (hn0_6 : a0_6.length = n0_6) {r : (List Q6)} (j : Q33.f a0_0 a0_1 a0_2 a0_3 a0_4 a0_5 a0_6 a0_7 = some r) :
 Spec Tryz.prog 71 [.pointer (some ⟨b0, 0, none⟩)] R (pt b0 (.cells [.slice A0_0 n0_0 c0_0, optp p0_1, .int .i64 a0_2, .slice A0_3 n0_3 c0_3, .slice A0_4 n0_4 c0_4, .slice A0_5 n0_5 c0_5, .slice A0_6 n0_6 c0_6, .map (some b0_7)].toArray 114) :: optb (Ow.fl Q5.fl) 58 p0_1 a0_1 :: row Fl.bs 9 A0_3 n0_3 c0_3 a0_3 :: row Q0.fl 35 A0_4 n0_4 c0_4 a0_4 :: grow Q2.ow 37 A0_5 n0_5 c0_5 a0_5 :: row Q3.fl 148 A0_6 n0_6 c0_6 a0_6 :: mapo Fl.bs.ov Fl.bool.ov b0_7 a0_7 :: Fr) (fun v l' => ∃ (w251 : Option Addr) (w252 : Nat) (w253 : Nat), v = .tuple #[] ∧ pt b0 (.cells [.slice w251 w252 w253, optp p0_1, .int .i64 a0_2, .slice A0_3 n0_3 c0_3, .slice A0_4 n0_4 c0_4, .slice A0_5 n0_5 c0_5, .slice A0_6 n0_6 c0_6, .map (some b0_7)].toArray 114) :: optb (Ow.fl Q5.fl) 58 p0_1 a0_1 :: row Fl.bs 9 A0_3 n0_3 c0_3 a0_3 :: row Q0.fl 35 A0_4 n0_4 c0_4 a0_4 :: grow Q2.ow 37 A0_5 n0_5 c0_5 a0_5 :: row Q3.fl 148 A0_6 n0_6 c0_6 a0_6 :: mapo Fl.bs.ov Fl.bool.ov b0_7 a0_7 :: Fr = l' ∧ RdS Q6.fl.rep R.heap w251 r ∧ r.length = w252 ∧ w252 ≤ w253) := by
 subst hn0_0; subst hn0_3; subst hn0_4; subst hn0_5; subst hn0_6; refine Spec.of Tryz.func71 rfl rfl ?_; unfold Q33.f at j; have j := brun j; refine At.block ?_; obtain ⟨G1079, hl1080, hr1081, j⟩ := bjoin j; obtain ⟨o1082, hlo1083, ho1084⟩ := bsome j; clear j; unfold Q33.l0 at hlo1083; obtain ⟨m1085, hit1087⟩ := Q25.1 hlo1083; clear hlo1083; refine At.loopJ (X := (List Q6) × (Option Addr) × Nat × Nat) (Y := (List Q6) × (Option Addr) × Nat × Nat) (e0 := 0) (fun s_ => [(0, .pointer (some ⟨b0, 0, none⟩))]) (fun s_ => pt b0 (.cells [.slice s_.2.1 s_.2.2.1 s_.2.2.2, optp p0_1, .int .i64 a0_2, .slice A0_3 a0_3.length c0_3, .slice A0_4 a0_4.length c0_4, .slice A0_5 a0_5.length c0_5, .slice A0_6 a0_6.length c0_6, .map (some b0_7)].toArray 114) :: optb (Ow.fl Q5.fl) 58 p0_1 a0_1 :: row Fl.bs 9 A0_3 a0_3.length c0_3 a0_3 :: row Q0.fl 35 A0_4 a0_4.length c0_4 a0_4 :: grow Q2.ow 37 A0_5 a0_5.length c0_5 a0_5 :: row Q3.fl 148 A0_6 a0_6.length c0_6 a0_6 :: mapo Fl.bs.ov Fl.bool.ov b0_7 a0_7 :: Fr) (fun m_ => fun s_ => iterN (fun t_ : (List Q6) => Q33.l0b  t_) m_ s_.1 = some o1082 ∧ RdS Q6.fl.rep R.heap s_.2.1 s_.1 ∧ s_.1.length = s_.2.2.1 ∧ s_.2.2.1 ≤ s_.2.2.2) m1085 (a0_0, A0_0, a0_0.length, c0_0) ⟨hit1087, hr0_0, rfl, hc0_0⟩ (fun s_ => []) (fun s_ => pt b0 (.cells [.slice s_.2.1 s_.2.2.1 s_.2.2.2, optp p0_1, .int .i64 a0_2, .slice A0_3 a0_3.length c0_3, .slice A0_4 a0_4.length c0_4, .slice A0_5 a0_5.length c0_5, .slice A0_6 a0_6.length c0_6, .map (some b0_7)].toArray 114) :: optb (Ow.fl Q5.fl) 58 p0_1 a0_1 :: row Fl.bs 9 A0_3 a0_3.length c0_3 a0_3 :: row Q0.fl 35 A0_4 a0_4.length c0_4 a0_4 :: grow Q2.ow 37 A0_5 a0_5.length c0_5 a0_5 :: row Q3.fl 148 A0_6 a0_6.length c0_6 a0_6 :: mapo Fl.bs.ov Fl.bool.ov b0_7 a0_7 :: Fr) (fun s_ => G1079 (.inl s_.1) = some r ∧ RdS Q6.fl.rep R.heap s_.2.1 s_.1 ∧ s_.1.length = s_.2.2.1 ∧ s_.2.2.1 ≤ s_.2.2.2) (fun a w e hs => ⟨e.sub ⟨rfl, trivial⟩, (by exact hs)⟩) ?_ (fun J1089 => ?_)
 ·rintro ⟨x1075, w1072, w1073, w1074⟩ ⟨j, hr1076, hn1077, hc1078⟩; obtain rfl : x1075.length = w1073 := hn1077; have j := (hl1080 _).symm.trans j
  ·refine At.ibx ?_; cases bret j; exact At.res (.inr rfl) rfl rfl ⟨w1072, x1075.length, w1074, rfl, rfl, hr1076, rfl, hc1078⟩
 ·clear hit1087 m1085; rintro m1085 ⟨x868, w865, w866, w867⟩ ⟨hit1087, hr869, hn870, hc871⟩; obtain rfl : x868.length = w866 := hn870; obtain ⟨m1086, f_, hlt1088, hf_, j⟩ := bit hit1087; clear hit1087; have j : (Q33.l0b  x868).bind _ = some o1082 := j; unfold Q33.l0b at j
  ·refine At.seq (At.seq (At.region (At.run 3 rfl (At.y (Y.load rfl rfl .z rfl rfl rfl) rfl rfl rfl ?_)))); obtain ⟨h1090, j⟩ := bnone j; refine At.y (Y.ixRd hr869 rfl rfl rfl rfl rfl rfl rfl h1090.1 h1090.2) rfl rfl rfl ?_; refine At.y (Y.fa (RdS.some_ hr869 rfl h1090.1 h1090.2) rfl rfl rfl rfl rfl rfl) rfl rfl rfl ?_; refine At.y (Y.ldFl hr869 rfl (q := 0) rfl rfl h1090.1 h1090.2 rfl rfl rfl) rfl rfl rfl (At.run 1 rfl (At.nil (At.thn ?_))); rcases bite j with ⟨h1091, j⟩ | ⟨h1091, j⟩
   ··refine At.condT rfl (decide_eq_true h1091) ?_
     refine At.skip (At.thn ?_); refine At.block ?_; refine At.region (At.run 4 rfl (At.y (Y.load rfl rfl .z rfl rfl rfl) rfl rfl rfl ?_)); obtain ⟨h1092, j⟩ := bnone j; obtain ⟨A1093, hr1094, hc1095, hy1096⟩ := Y.slFromAt (P := Tryz.prog) (R := R) rfl hr869 hc871 h1092.1 h1092.2; refine At.y (hy1096 rfl rfl rfl rfl rfl rfl) rfl rfl rfl ?_; refine At.run 2 rfl ?_; refine At.store rfl rfl rfl rfl .z rfl rfl rfl (.c .n) ?_; refine At.nil ?_; refine At.ibn ?_; have j := bnx hf_ j; exact fun a w e hs => ⟨m1086, ((x868.drop (1 : Int).toNat), A1093, (x868.drop (1 : Int).toNat).length, (w867 - (1 : Int).toNat)), hlt1088, ⟨j, hr1094, rfl, hc1095⟩, e.sub ⟨rfl, trivial⟩, hs⟩
   ··refine At.condF rfl (decide_eq_false h1091) ?_
     refine At.exit ?_; refine At.the ?_; refine At.the ?_; exact fun a w e hs => J1089 (x868, w865, x868.length, w867) ⟨(bdn j ho1084), hr869, rfl, hc871⟩ a w (e.sub trivial) hs

noncomputable def Q12.f (a0_0 : List Q6) (a0_1 : Option Q5) (a0_2 : Int) (a0_3 : List Bs) (a0_4 : List Q0) (a0_5 : List Q2) (a0_6 : List Q3) (a0_7 : List (Bs × Bool)) (a1_0 : Int) (a1_1 : Int) (a1_2 : Bs) (a1_3 : Int) (a2 : Int) : Option (Option Q5) :=
 if a0_1.isNone = true then
 some (some (⟨a1_1, a2⟩ : Q5))
 else
 some a0_1
theorem Q12.callee : Callee Tryz.prog 75 := ⟨_, Tryz.func75, by kernel_rfl, by kernel_rfl⟩
theorem Q12.spec (R : Res) (Fr : List HProp) (b0 : Nat) (A0_0 : Option Addr) (n0_0 : Nat) (c0_0 : Nat) (p0_1 : Option Nat) (A0_3 : Option Addr) (n0_3 : Nat) (c0_3 : Nat) (A0_4 : Option Addr) (n0_4 : Nat) (c0_4 : Nat) (A0_5 : Option Addr) (n0_5 : Nat) (c0_5 : Nat) (A0_6 : Option Addr) (n0_6 : Nat) (c0_6 : Nat) (b0_7 : Nat) (a0_0 : List Q6) (a0_1 : Option Q5) (a0_2 : Int) (a0_3 : List Bs) (a0_4 : List Q0) (a0_5 : List Q2) (a0_6 : List Q3) (a0_7 : List (Bs × Bool)) (a1_0 : Int) (a1_1 : Int) (a1_2 : Bs) (a1_3 : Int) (a2 : Int) (hr0_0 : RdS Q6.fl.rep R.heap A0_0 a0_0) (hn0_0 : a0_0.length = n0_0) (hc0_0 : n0_0 ≤ c0_0) (hn0_3 : a0_3.length = n0_3) (hn0_4 : a0_4.length = n0_4) (hn0_5 : a0_5.length = n0_5) (hn0_6 : a0_6.length = n0_6) {r : (Option Q5)} (j : Q12.f a0_0 a0_1 a0_2 a0_3 a0_4 a0_5 a0_6 a0_7 a1_0 a1_1 a1_2 a1_3 a2 = some r) :
 Spec Tryz.prog 75 [.pointer (some ⟨b0, 0, none⟩), .agg #[.int .i64 a1_0, .int .i64 a1_1, .string ⟨(a1_2).toArray⟩, .int .i64 a1_3], .int .i64 a2] R (pt b0 (.cells [.slice A0_0 n0_0 c0_0, optp p0_1, .int .i64 a0_2, .slice A0_3 n0_3 c0_3, .slice A0_4 n0_4 c0_4, .slice A0_5 n0_5 c0_5, .slice A0_6 n0_6 c0_6, .map (some b0_7)].toArray 114) :: optb (Ow.fl Q5.fl) 58 p0_1 a0_1 :: row Fl.bs 9 A0_3 n0_3 c0_3 a0_3 :: row Q0.fl 35 A0_4 n0_4 c0_4 a0_4 :: grow Q2.ow 37 A0_5 n0_5 c0_5 a0_5 :: row Q3.fl 148 A0_6 n0_6 c0_6 a0_6 :: mapo Fl.bs.ov Fl.bool.ov b0_7 a0_7 :: Fr) (fun v l' => ∃ (w251 : Option Nat), v = .tuple #[] ∧ optb (Ow.fl Q5.fl) 58 w251 r :: pt b0 (.cells [.slice A0_0 n0_0 c0_0, optp w251, .int .i64 a0_2, .slice A0_3 n0_3 c0_3, .slice A0_4 n0_4 c0_4, .slice A0_5 n0_5 c0_5, .slice A0_6 n0_6 c0_6, .map (some b0_7)].toArray 114) :: row Fl.bs 9 A0_3 n0_3 c0_3 a0_3 :: row Q0.fl 35 A0_4 n0_4 c0_4 a0_4 :: grow Q2.ow 37 A0_5 n0_5 c0_5 a0_5 :: row Q3.fl 148 A0_6 n0_6 c0_6 a0_6 :: mapo Fl.bs.ov Fl.bool.ov b0_7 a0_7 :: Fr = l') := by
 subst hn0_0; subst hn0_3; subst hn0_4; subst hn0_5; subst hn0_6; refine Spec.of Tryz.func75 rfl rfl ?_; unfold Q12.f at j; have j := brun j; refine At.seq (At.region ?_); refine At.box rfl rfl (cs := [.int .i64 a1_0, .int .i64 a1_1, .string ⟨(a1_2).toArray⟩, .int .i64 a1_3]) rfl rfl (fun b254 => ?_); refine At.nil (At.thn (At.seq (At.region (At.run 3 rfl (At.y (Y.load rfl rfl (.s .z) rfl rfl rfl) rfl rfl rfl ?_))))); refine At.y (Y.eqOpt (.s (.s .z)) rfl rfl rfl rfl) rfl rfl rfl ?_; refine At.nil (At.thn ?_); rcases bite j with ⟨h255, j⟩ | ⟨h255, j⟩
 ··refine At.condT rfl h255 ?_
   refine At.region (At.run 2 rfl (At.y (Y.load rfl rfl .z rfl rfl rfl) rfl rfl rfl (At.run 1 rfl ?_))); refine At.y (Y.build (is := [0, 1]) (xo := [.tmp 13, .tmp 14]) (vs := [.int .i64 a1_1, .int .i64 a2]) (cs := [.int .i64 a1_1, .int .i64 a2]) rfl rfl rfl rfl rfl rfl) rfl rfl rfl ?_; refine At.box rfl rfl (cs := [.int .i64 a1_1, .int .i64 a2]) rfl rfl (fun b256 => ?_); refine At.run 2 rfl ?_; refine At.store rfl rfl rfl rfl (.s (.s .z)) rfl rfl rfl (.s (.c .n)) ?_; refine At.nil (At.f1 ?_); refine At.optSome (x := (⟨a1_1, a2⟩ : Q5)) (Ent.fl Q5.fl (x := (⟨a1_1, a2⟩ : Q5)) rfl) ?_; refine At.drop (.s (.s .z)) (At.drop (.s (.s .z)) ?_); cases bret j; exact At.res (.inr rfl) rfl rfl ⟨(some b256), rfl, rfl⟩
 ··refine At.condF rfl (bn h255) ?_
   refine At.skip (At.drop .z (At.f6 (At.f6 (At.f6 (At.f6 (At.f6 (At.f5 ?_))))))); refine At.f6 ?_; cases bret j; exact At.res (.inr rfl) rfl rfl ⟨p0_1, rfl, rfl⟩

noncomputable def Q53.f (a0_0 : List Q6) (a0_1 : Option Q5) (a0_2 : Int) (a0_3 : List Bs) (a0_4 : List Q0) (a0_5 : List Q2) (a0_6 : List Q3) (a0_7 : List (Bs × Bool)) (a1 : Int) : Option ((Option Q5) × (List Q6) × Int × Int × Bs × Int) :=
 if a0_1.isNone = true then
 if (0 : Int) ≤ 0 ∧ 0 < (a0_0.length : Int) then
 jn (
 if (gt a0_0 0).Kind = a1 then
 if (0 : Int) ≤ 1 ∧ 1 ≤ (a0_0.length : Int) then
 up (some (a0_1, (a0_0.drop (1 : Int).toNat), (gt a0_0 0).Kind, (gt a0_0 0).At, (gt a0_0 0).Text, (gt a0_0 0).Number))
 else none
 else
 if (gt a0_0 0).Kind = 0 then
 (Q12.f a0_0 a0_1 a0_2 a0_3 a0_4 a0_5 a0_6 a0_7 ((gt a0_0 0).Kind) ((gt a0_0 0).At) ((gt a0_0 0).Text) ((gt a0_0 0).Number) 6).bind fun t485 =>
 some (.inl t485)
 else
 (Q12.f a0_0 a0_1 a0_2 a0_3 a0_4 a0_5 a0_6 a0_7 ((gt a0_0 0).Kind) ((gt a0_0 0).At) ((gt a0_0 0).Text) ((gt a0_0 0).Number) 7).bind fun t489 =>
 some (.inl t489)) (fun (x477 : Option Q5) =>
 some (x477, a0_0, 0, 0, ([] : Bs), 0))
 else none
 else
 some (a0_1, a0_0, 0, 0, ([] : Bs), 0)
theorem Q53.callee : Callee Tryz.prog 72 := ⟨_, Tryz.func72, by kernel_rfl, by kernel_rfl⟩
theorem Q53.spec (R : Res) (Fr : List HProp) (b0 : Nat) (A0_0 : Option Addr) (n0_0 : Nat) (c0_0 : Nat) (p0_1 : Option Nat) (A0_3 : Option Addr) (n0_3 : Nat) (c0_3 : Nat) (A0_4 : Option Addr) (n0_4 : Nat) (c0_4 : Nat) (A0_5 : Option Addr) (n0_5 : Nat) (c0_5 : Nat) (A0_6 : Option Addr) (n0_6 : Nat) (c0_6 : Nat) (b0_7 : Nat) (a0_0 : List Q6) (a0_1 : Option Q5) (a0_2 : Int) (a0_3 : List Bs) (a0_4 : List Q0) (a0_5 : List Q2) (a0_6 : List Q3) (a0_7 : List (Bs × Bool)) (a1 : Int) (hr0_0 : RdS Q6.fl.rep R.heap A0_0 a0_0) (hn0_0 : a0_0.length = n0_0) (hc0_0 : n0_0 ≤ c0_0) (hn0_3 : a0_3.length = n0_3) (hn0_4 : a0_4.length = n0_4) (hn0_5 : a0_5.length = n0_5) (hn0_6 : a0_6.length = n0_6) {r : (Option Q5) × (List Q6) × Int × Int × Bs × Int} (j : Q53.f a0_0 a0_1 a0_2 a0_3 a0_4 a0_5 a0_6 a0_7 a1 = some r) :
 Spec Tryz.prog 72 [.pointer (some ⟨b0, 0, none⟩), .int .i64 a1] R (pt b0 (.cells [.slice A0_0 n0_0 c0_0, optp p0_1, .int .i64 a0_2, .slice A0_3 n0_3 c0_3, .slice A0_4 n0_4 c0_4, .slice A0_5 n0_5 c0_5, .slice A0_6 n0_6 c0_6, .map (some b0_7)].toArray 114) :: optb (Ow.fl Q5.fl) 58 p0_1 a0_1 :: row Fl.bs 9 A0_3 n0_3 c0_3 a0_3 :: row Q0.fl 35 A0_4 n0_4 c0_4 a0_4 :: grow Q2.ow 37 A0_5 n0_5 c0_5 a0_5 :: row Q3.fl 148 A0_6 n0_6 c0_6 a0_6 :: mapo Fl.bs.ov Fl.bool.ov b0_7 a0_7 :: Fr) (fun v l' => ∃ (w252 : Option Nat) (w258 : Option Addr) (w259 : Nat) (w260 : Nat), v = .agg #[.int .i64 r.2.2.1, .int .i64 r.2.2.2.1, .string ⟨(r.2.2.2.2.1).toArray⟩, .int .i64 r.2.2.2.2.2] ∧ optb (Ow.fl Q5.fl) 58 w252 r.1 :: pt b0 (.cells [.slice w258 w259 w260, optp w252, .int .i64 a0_2, .slice A0_3 n0_3 c0_3, .slice A0_4 n0_4 c0_4, .slice A0_5 n0_5 c0_5, .slice A0_6 n0_6 c0_6, .map (some b0_7)].toArray 114) :: row Fl.bs 9 A0_3 n0_3 c0_3 a0_3 :: row Q0.fl 35 A0_4 n0_4 c0_4 a0_4 :: grow Q2.ow 37 A0_5 n0_5 c0_5 a0_5 :: row Q3.fl 148 A0_6 n0_6 c0_6 a0_6 :: mapo Fl.bs.ov Fl.bool.ov b0_7 a0_7 :: Fr = l' ∧ RdS Q6.fl.rep R.heap w258 r.2.1 ∧ r.2.1.length = w259 ∧ w259 ≤ w260) := by
 subst hn0_0; subst hn0_3; subst hn0_4; subst hn0_5; subst hn0_6; refine Spec.of Tryz.func72 rfl rfl ?_; unfold Q53.f at j; have j := brun j; refine At.seq (At.region ?_); refine At.alloc rfl rfl rfl (fun b269 => ?_); refine At.nil (At.thn (At.seq (At.seq (At.region (At.run 3 rfl (At.y (Y.load rfl rfl (.s .z) rfl rfl rfl) rfl rfl rfl ?_)))))); refine At.y (Y.neOpt (.s (.s .z)) rfl rfl rfl rfl) rfl rfl rfl ?_; refine At.nil (At.thn ?_); rcases bite j with ⟨h270, j⟩ | ⟨h270, j⟩
 ··refine At.condF rfl (nf h270) ?_
   refine At.skip (At.thn (At.seq (At.region (At.run 3 rfl (At.y (Y.load rfl rfl (.s .z) rfl rfl rfl) rfl rfl rfl ?_))))); obtain ⟨h271, j⟩ := bnone j; refine At.y (Y.ixRd hr0_0 rfl rfl rfl rfl rfl rfl rfl h271.1 h271.2) rfl rfl rfl (At.y (Y.ldFl hr0_0 rfl (q := 0) rfl rfl h271.1 h271.2 rfl rfl rfl) rfl rfl rfl ?_); refine At.store rfl rfl rfl rfl .z rfl rfl rfl (.c (.c (.c (.c .n)))) ?_; refine At.nil (At.thn (At.seq ?_)); obtain ⟨G272, hl273, hr274, j⟩ := bjoin j; refine At.join (X := (Option Q5) × (Option Nat)) (fun s_ => [(4, .pointer (some ⟨b269, 0, none⟩))]) (fun s_ => optb (Ow.fl Q5.fl) 58 s_.2 s_.1 :: pt b0 (.cells [.slice A0_0 a0_0.length c0_0, optp s_.2, .int .i64 a0_2, .slice A0_3 a0_3.length c0_3, .slice A0_4 a0_4.length c0_4, .slice A0_5 a0_5.length c0_5, .slice A0_6 a0_6.length c0_6, .map (some b0_7)].toArray 114) :: row Fl.bs 9 A0_3 a0_3.length c0_3 a0_3 :: row Q0.fl 35 A0_4 a0_4.length c0_4 a0_4 :: grow Q2.ow 37 A0_5 a0_5.length c0_5 a0_5 :: row Q3.fl 148 A0_6 a0_6.length c0_6 a0_6 :: mapo Fl.bs.ov Fl.bool.ov b0_7 a0_7 :: pt b269 (.cells [.int .i64 ((gt a0_0 0).Kind), .int .i64 ((gt a0_0 0).At), .string ⟨((gt a0_0 0).Text).toArray⟩, .int .i64 ((gt a0_0 0).Number)].toArray 116) :: Fr) (fun s_ => G272 (.inl s_.1) = some r) ?_ (fun J275 => ?_)
   ·rintro ⟨x477, w476⟩ j; have j := (hl273 _).symm.trans j
    ·refine At.seq (At.region ?_); refine At.y (Y.build (is := []) (xo := []) (vs := []) (cs := [.int .i64 0, .int .i64 0, .string ⟨(([] : Bs)).toArray⟩, .int .i64 0]) rfl rfl rfl rfl rfl rfl) rfl rfl rfl ?_; refine At.store rfl rfl rfl rfl (.s (.s (.s (.s (.s (.s (.s .z))))))) rfl rfl rfl (.c (.c (.c (.c .n)))) ?_; refine At.nil (At.thn (At.ret ?_)); refine At.resM (.inl rfl) rfl (RV.cell rfl rfl .z rfl rfl rfl RV.nil) ?_; refine At.drop .z ?_; cases bret j; exact fun a w e hs => ⟨_, ⟨w476, A0_0, a0_0.length, c0_0, rfl, rfl, hr0_0, rfl, hc0_0⟩, hs⟩
   ··refine At.block ?_
     refine At.seq (At.region (At.run 1 rfl (At.y (Y.load rfl rfl .z rfl rfl rfl) rfl rfl rfl (At.run 3 rfl (At.nil (At.thn ?_)))))); rcases bite j with ⟨h478, j⟩ | ⟨h478, j⟩
     ··refine At.condT rfl (decide_eq_true h478) ?_
       refine At.seq (At.region (At.run 4 rfl (At.y (Y.load rfl rfl (.s .z) rfl rfl rfl) rfl rfl rfl ?_))); obtain ⟨h479, j⟩ := bnone j; obtain ⟨A480, hr481, hc482, hy483⟩ := Y.slFromAt (P := Tryz.prog) (R := R) rfl hr0_0 hc0_0 h479.1 h479.2; refine At.y (hy483 rfl rfl rfl rfl rfl rfl) rfl rfl rfl ?_; refine At.run 2 rfl ?_; refine At.store rfl rfl rfl rfl (.s .z) rfl rfl rfl (.c .n) ?_; refine At.nil (At.thn (At.seq (At.region (At.y (Y.load rfl rfl (.s .z) rfl rfl rfl) rfl rfl rfl ?_)))); refine At.store rfl rfl rfl rfl (.s .z) rfl rfl rfl (.c (.c (.c (.c .n)))) ?_; refine At.nil (At.thn (At.ret ?_)); refine At.ibr ?_; have j := bup hr274 j; refine At.thr ?_; refine At.resM (.inl rfl) rfl (RV.cell rfl rfl .z rfl rfl rfl RV.nil) ?_; refine At.drop .z (At.f6 (At.f6 (At.f6 (At.f6 (At.f6 (At.f5 (At.f6 ?_))))))); cases bret j; exact fun a w e hs => ⟨_, ⟨p0_1, A480, (a0_0.drop (1 : Int).toNat).length, (c0_0 - (1 : Int).toNat), rfl, rfl, hr481, rfl, hc482⟩, hs⟩
     ··refine At.condF rfl (decide_eq_false h478) ?_
       refine At.seq (At.region (At.run 1 rfl (At.y (Y.load rfl rfl .z rfl rfl rfl) rfl rfl rfl (At.run 2 rfl (At.nil (At.thn ?_)))))); rcases bite j with ⟨h484, j⟩ | ⟨h484, j⟩
       ··refine At.condT rfl (decide_eq_true h484) ?_
         refine At.region (At.run 1 rfl (At.y (Y.load rfl rfl .z rfl rfl rfl) rfl rfl rfl (At.f7 (At.f7 (At.f7 (At.f7 (At.f7 ?_))))))); refine At.f7 (At.f7 ?_); obtain ⟨t485, hc486, j⟩ := bbind j; refine At.call rfl Q12.callee rfl rfl rfl (Q12.spec _ _ b0 A0_0 a0_0.length c0_0 p0_1 A0_3 a0_3.length c0_3 A0_4 a0_4.length c0_4 A0_5 a0_5.length c0_5 A0_6 a0_6.length c0_6 b0_7 a0_0 a0_1 a0_2 a0_3 a0_4 a0_5 a0_6 a0_7 ((gt a0_0 0).Kind) ((gt a0_0 0).At) ((gt a0_0 0).Text) ((gt a0_0 0).Number) 6 hr0_0 rfl hc0_0 rfl rfl rfl rfl hc486) ?_; rintro _ _ ⟨w487, rfl, rfl⟩; refine At.nil ?_; refine At.ibn ?_; refine At.thn ?_; exact fun a w e hs => J275 (t485, w487) j a w (e.sub ⟨rfl, trivial⟩) hs
       ··refine At.condF rfl (decide_eq_false h484) ?_
         refine At.region (At.run 1 rfl (At.y (Y.load rfl rfl .z rfl rfl rfl) rfl rfl rfl (At.f7 (At.f7 (At.f7 (At.f7 (At.f7 ?_))))))); refine At.f7 (At.f7 ?_); obtain ⟨t489, hc490, j⟩ := bbind j; refine At.call rfl Q12.callee rfl rfl rfl (Q12.spec _ _ b0 A0_0 a0_0.length c0_0 p0_1 A0_3 a0_3.length c0_3 A0_4 a0_4.length c0_4 A0_5 a0_5.length c0_5 A0_6 a0_6.length c0_6 b0_7 a0_0 a0_1 a0_2 a0_3 a0_4 a0_5 a0_6 a0_7 ((gt a0_0 0).Kind) ((gt a0_0 0).At) ((gt a0_0 0).Text) ((gt a0_0 0).Number) 7 hr0_0 rfl hc0_0 rfl rfl rfl rfl hc490) ?_; rintro _ _ ⟨w491, rfl, rfl⟩; refine At.nil ?_; refine At.ibn ?_; refine At.thn ?_; exact fun a w e hs => J275 (t489, w491) j a w (e.sub ⟨rfl, trivial⟩) hs
 ··refine At.condT rfl (nt (bn h270)) ?_
   refine At.seq (At.region (At.y (Y.load rfl rfl .z rfl rfl rfl) rfl rfl rfl ?_)); refine At.store rfl rfl rfl rfl .z rfl rfl rfl (.c (.c (.c (.c .n)))) ?_; refine At.nil (At.thn (At.ret (At.thr ?_))); refine At.resM (.inl rfl) rfl (RV.cell rfl rfl .z rfl rfl rfl RV.nil) ?_; refine At.drop .z (At.f6 (At.f6 (At.f6 (At.f6 (At.f6 (At.f5 (At.f6 ?_))))))); cases bret j; exact fun a w e hs => ⟨_, ⟨p0_1, A0_0, a0_0.length, c0_0, rfl, rfl, hr0_0, rfl, hc0_0⟩, hs⟩

noncomputable def Q68.f (a0_0 : List Q6) (a0_1 : Option Q5) (a0_2 : Int) (a0_3 : List Bs) (a0_4 : List Q0) (a0_5 : List Q2) (a0_6 : List Q3) (a0_7 : List (Bs × Bool)) : Option Bool :=
 if (0 : Int) ≤ 0 ∧ 0 < (a0_0.length : Int) then
 jn (
 if (gt a0_0 0).Kind = 0 then
 some (.inl true)
 else
 some (.inl (decide ((gt a0_0 0).Kind = 1)))) (fun (x453 : Bool) =>
 some x453)
 else none
theorem Q68.callee : Callee Tryz.prog 102 := ⟨_, Tryz.func102, by kernel_rfl, by kernel_rfl⟩
theorem Q68.spec (R : Res) (Fr : List HProp) (b0 : Nat) (A0_0 : Option Addr) (n0_0 : Nat) (c0_0 : Nat) (p0_1 : Option Nat) (A0_3 : Option Addr) (n0_3 : Nat) (c0_3 : Nat) (A0_4 : Option Addr) (n0_4 : Nat) (c0_4 : Nat) (A0_5 : Option Addr) (n0_5 : Nat) (c0_5 : Nat) (A0_6 : Option Addr) (n0_6 : Nat) (c0_6 : Nat) (b0_7 : Nat) (a0_0 : List Q6) (a0_1 : Option Q5) (a0_2 : Int) (a0_3 : List Bs) (a0_4 : List Q0) (a0_5 : List Q2) (a0_6 : List Q3) (a0_7 : List (Bs × Bool)) (hr0_0 : RdS Q6.fl.rep R.heap A0_0 a0_0) (hn0_0 : a0_0.length = n0_0) (hc0_0 : n0_0 ≤ c0_0) (hn0_3 : a0_3.length = n0_3) (hn0_4 : a0_4.length = n0_4) (hn0_5 : a0_5.length = n0_5) (hn0_6 : a0_6.length = n0_6) {r : Bool} (j : Q68.f a0_0 a0_1 a0_2 a0_3 a0_4 a0_5 a0_6 a0_7 = some r) :
 Spec Tryz.prog 102 [.pointer (some ⟨b0, 0, none⟩)] R (pt b0 (.cells [.slice A0_0 n0_0 c0_0, optp p0_1, .int .i64 a0_2, .slice A0_3 n0_3 c0_3, .slice A0_4 n0_4 c0_4, .slice A0_5 n0_5 c0_5, .slice A0_6 n0_6 c0_6, .map (some b0_7)].toArray 114) :: optb (Ow.fl Q5.fl) 58 p0_1 a0_1 :: row Fl.bs 9 A0_3 n0_3 c0_3 a0_3 :: row Q0.fl 35 A0_4 n0_4 c0_4 a0_4 :: grow Q2.ow 37 A0_5 n0_5 c0_5 a0_5 :: row Q3.fl 148 A0_6 n0_6 c0_6 a0_6 :: mapo Fl.bs.ov Fl.bool.ov b0_7 a0_7 :: Fr) (fun v l' => v = .bool r ∧ pt b0 (.cells [.slice A0_0 n0_0 c0_0, optp p0_1, .int .i64 a0_2, .slice A0_3 n0_3 c0_3, .slice A0_4 n0_4 c0_4, .slice A0_5 n0_5 c0_5, .slice A0_6 n0_6 c0_6, .map (some b0_7)].toArray 114) :: optb (Ow.fl Q5.fl) 58 p0_1 a0_1 :: row Fl.bs 9 A0_3 n0_3 c0_3 a0_3 :: row Q0.fl 35 A0_4 n0_4 c0_4 a0_4 :: grow Q2.ow 37 A0_5 n0_5 c0_5 a0_5 :: row Q3.fl 148 A0_6 n0_6 c0_6 a0_6 :: mapo Fl.bs.ov Fl.bool.ov b0_7 a0_7 :: Fr = l') := by
 subst hn0_0; subst hn0_3; subst hn0_4; subst hn0_5; subst hn0_6; refine Spec.of Tryz.func102 rfl rfl ?_; unfold Q68.f at j; have j := brun j; refine At.seq (At.region (At.run 1 rfl (At.nil (At.thn (At.seq (At.region (At.run 3 rfl ?_))))))); refine At.y (Y.load rfl rfl .z rfl rfl rfl) rfl rfl rfl ?_; obtain ⟨h252, j⟩ := bnone j; refine At.y (Y.ixRd hr0_0 rfl rfl rfl rfl rfl rfl rfl h252.1 h252.2) rfl rfl rfl ?_; refine At.y (Y.fa (RdS.some_ hr0_0 rfl h252.1 h252.2) rfl rfl rfl rfl rfl rfl) rfl rfl rfl ?_; refine At.y (Y.ldFl hr0_0 rfl (q := 0) rfl rfl h252.1 h252.2 rfl rfl rfl) rfl rfl rfl (At.run 2 rfl ?_); obtain ⟨G454, hl455, hr456, j⟩ := bjoin j; refine At.joinO 9 (X := Bool) (fun x453 => [(20, .bool x453)]) (fun x453 => pt b0 (.cells [.slice A0_0 a0_0.length c0_0, optp p0_1, .int .i64 a0_2, .slice A0_3 a0_3.length c0_3, .slice A0_4 a0_4.length c0_4, .slice A0_5 a0_5.length c0_5, .slice A0_6 a0_6.length c0_6, .map (some b0_7)].toArray 114) :: optb (Ow.fl Q5.fl) 58 p0_1 a0_1 :: row Fl.bs 9 A0_3 a0_3.length c0_3 a0_3 :: row Q0.fl 35 A0_4 a0_4.length c0_4 a0_4 :: grow Q2.ow 37 A0_5 a0_5.length c0_5 a0_5 :: row Q3.fl 148 A0_6 a0_6.length c0_6 a0_6 :: mapo Fl.bs.ov Fl.bool.ov b0_7 a0_7 :: Fr) (fun x453 => G454 (.inl x453) = some r) ?_ (fun J457 => ?_)
 ·rintro x453 j; have j := (hl455 _).symm.trans j
  ·refine At.run 1 rfl (At.nil (At.thn (At.ret ?_))); cases bret j; exact At.res (.inl rfl) rfl rfl ⟨rfl, rfl⟩
 ··rcases bite j with ⟨h458, j⟩ | ⟨h458, j⟩
   ··refine At.know (t := 11) rfl (decide_eq_true h458) ?_
     refine At.run 9 rfl ?_; exact At.of (J457 true j) ⟨rfl, trivial⟩
   ··refine At.know (t := 11) rfl (decide_eq_false h458) ?_
     refine At.run 3 rfl (At.y (Y.load rfl rfl .z rfl rfl rfl) rfl rfl rfl (At.y (Y.ixRd hr0_0 rfl rfl rfl rfl rfl rfl rfl h252.1 h252.2) rfl rfl rfl ?_)); refine At.y (Y.fa (RdS.some_ hr0_0 rfl h252.1 h252.2) rfl rfl rfl rfl rfl rfl) rfl rfl rfl ?_; refine At.y (Y.ldFl hr0_0 rfl (q := 0) rfl rfl h252.1 h252.2 rfl rfl rfl) rfl rfl rfl (At.run 2 rfl ?_); exact At.of (J457 (decide ((gt a0_0 0).Kind = 1)) j) ⟨rfl, trivial⟩

noncomputable def Q22.f (a0_0 : List Q6) (a0_1 : Option Q5) (a0_2 : Int) (a0_3 : List Bs) (a0_4 : List Q0) (a0_5 : List Q2) (a0_6 : List Q3) (a0_7 : List (Bs × Bool)) : Option (Option Q5) :=
 (Q68.f a0_0 a0_1 a0_2 a0_3 a0_4 a0_5 a0_6 a0_7).bind fun t253 =>
 if t253 = true then
 some a0_1
 else
 if (0 : Int) ≤ 0 ∧ 0 < (a0_0.length : Int) then
 (Q12.f a0_0 a0_1 a0_2 a0_3 a0_4 a0_5 a0_6 a0_7 ((gt a0_0 0).Kind) ((gt a0_0 0).At) ((gt a0_0 0).Text) ((gt a0_0 0).Number) 7).bind fun t257 =>
 some t257
 else none
theorem Q22.callee : Callee Tryz.prog 96 := ⟨_, Tryz.func96, by kernel_rfl, by kernel_rfl⟩
theorem Q22.spec (R : Res) (Fr : List HProp) (b0 : Nat) (A0_0 : Option Addr) (n0_0 : Nat) (c0_0 : Nat) (p0_1 : Option Nat) (A0_3 : Option Addr) (n0_3 : Nat) (c0_3 : Nat) (A0_4 : Option Addr) (n0_4 : Nat) (c0_4 : Nat) (A0_5 : Option Addr) (n0_5 : Nat) (c0_5 : Nat) (A0_6 : Option Addr) (n0_6 : Nat) (c0_6 : Nat) (b0_7 : Nat) (a0_0 : List Q6) (a0_1 : Option Q5) (a0_2 : Int) (a0_3 : List Bs) (a0_4 : List Q0) (a0_5 : List Q2) (a0_6 : List Q3) (a0_7 : List (Bs × Bool)) (hr0_0 : RdS Q6.fl.rep R.heap A0_0 a0_0) (hn0_0 : a0_0.length = n0_0) (hc0_0 : n0_0 ≤ c0_0) (hn0_3 : a0_3.length = n0_3) (hn0_4 : a0_4.length = n0_4) (hn0_5 : a0_5.length = n0_5) (hn0_6 : a0_6.length = n0_6) {r : (Option Q5)} (j : Q22.f a0_0 a0_1 a0_2 a0_3 a0_4 a0_5 a0_6 a0_7 = some r) :
 Spec Tryz.prog 96 [.pointer (some ⟨b0, 0, none⟩)] R (pt b0 (.cells [.slice A0_0 n0_0 c0_0, optp p0_1, .int .i64 a0_2, .slice A0_3 n0_3 c0_3, .slice A0_4 n0_4 c0_4, .slice A0_5 n0_5 c0_5, .slice A0_6 n0_6 c0_6, .map (some b0_7)].toArray 114) :: optb (Ow.fl Q5.fl) 58 p0_1 a0_1 :: row Fl.bs 9 A0_3 n0_3 c0_3 a0_3 :: row Q0.fl 35 A0_4 n0_4 c0_4 a0_4 :: grow Q2.ow 37 A0_5 n0_5 c0_5 a0_5 :: row Q3.fl 148 A0_6 n0_6 c0_6 a0_6 :: mapo Fl.bs.ov Fl.bool.ov b0_7 a0_7 :: Fr) (fun v l' => ∃ (w251 : Option Nat), v = .tuple #[] ∧ pt b0 (.cells [.slice A0_0 n0_0 c0_0, optp w251, .int .i64 a0_2, .slice A0_3 n0_3 c0_3, .slice A0_4 n0_4 c0_4, .slice A0_5 n0_5 c0_5, .slice A0_6 n0_6 c0_6, .map (some b0_7)].toArray 114) :: optb (Ow.fl Q5.fl) 58 w251 r :: row Fl.bs 9 A0_3 n0_3 c0_3 a0_3 :: row Q0.fl 35 A0_4 n0_4 c0_4 a0_4 :: grow Q2.ow 37 A0_5 n0_5 c0_5 a0_5 :: row Q3.fl 148 A0_6 n0_6 c0_6 a0_6 :: mapo Fl.bs.ov Fl.bool.ov b0_7 a0_7 :: Fr = l') := by
 subst hn0_0; subst hn0_3; subst hn0_4; subst hn0_5; subst hn0_6; refine Spec.of Tryz.func96 rfl rfl ?_; unfold Q22.f at j; have j := brun j; refine At.seq (At.region (At.run 1 rfl ?_)); obtain ⟨t253, hc254, j⟩ := bbind j; refine At.call rfl Q68.callee rfl rfl rfl (Q68.spec _ _ b0 A0_0 a0_0.length c0_0 p0_1 A0_3 a0_3.length c0_3 A0_4 a0_4.length c0_4 A0_5 a0_5.length c0_5 A0_6 a0_6.length c0_6 b0_7 a0_0 a0_1 a0_2 a0_3 a0_4 a0_5 a0_6 a0_7 hr0_0 rfl hc0_0 rfl rfl rfl rfl hc254) ?_; rintro _ _ ⟨rfl, rfl⟩; refine At.run 1 rfl (At.nil (At.thn ?_)); rcases bite j with ⟨h255, j⟩ | ⟨h255, j⟩
 ··refine At.condF rfl (nf h255) ?_
   refine At.skip ?_; cases bret j; exact At.res (.inr rfl) rfl rfl ⟨p0_1, rfl, rfl⟩
 ··refine At.condT rfl (nt (bn h255)) ?_
   refine At.region (At.run 4 rfl (At.y (Y.load rfl rfl .z rfl rfl rfl) rfl rfl rfl ?_)); obtain ⟨h256, j⟩ := bnone j; refine At.y (Y.ixRd hr0_0 rfl rfl rfl rfl rfl rfl rfl h256.1 h256.2) rfl rfl rfl (At.y (Y.ldFl hr0_0 rfl (q := 0) rfl rfl h256.1 h256.2 rfl rfl rfl) rfl rfl rfl ?_); obtain ⟨t257, hc258, j⟩ := bbind j; refine At.call rfl Q12.callee rfl rfl rfl (Q12.spec _ _ b0 A0_0 a0_0.length c0_0 p0_1 A0_3 a0_3.length c0_3 A0_4 a0_4.length c0_4 A0_5 a0_5.length c0_5 A0_6 a0_6.length c0_6 b0_7 a0_0 a0_1 a0_2 a0_3 a0_4 a0_5 a0_6 a0_7 ((gt a0_0 0).Kind) ((gt a0_0 0).At) ((gt a0_0 0).Text) ((gt a0_0 0).Number) 7 hr0_0 rfl hc0_0 rfl rfl rfl rfl hc258) ?_; rintro _ _ ⟨w259, rfl, rfl⟩; refine At.nil (At.f6 (At.f6 (At.f6 (At.f6 (At.f6 (At.f5 (At.f6 ?_))))))); cases bret j; exact At.res (.inr rfl) rfl rfl ⟨w259, rfl, rfl⟩

noncomputable def Q89.f (a0_0 : List Q6) (a0_1 : Option Q5) (a0_2 : Int) (a0_3 : List Bs) (a0_4 : List Q0) (a0_5 : List Q2) (a0_6 : List Q3) (a0_7 : List (Bs × Bool)) : Option ((Option Q5) × (List Q6) × Int) :=
 (Q33.f a0_0 a0_1 a0_2 a0_3 a0_4 a0_5 a0_6 a0_7).bind fun t266 =>
 (Q53.f t266 a0_1 a0_2 a0_3 a0_4 a0_5 a0_6 a0_7 2).bind fun t274 =>
 jn (
 if t274.1.isNone = true then
 some (.inl (!(bseq t274.2.2.2.2.1 ([115, 116, 97, 116, 101, 115] : Bs))))
 else
 some (.inl false)) (fun (x485 : Bool) =>
 if x485 = true then
 (Q12.f t274.2.1 t274.1 a0_2 a0_3 a0_4 a0_5 a0_6 a0_7 t274.2.2.1 t274.2.2.2.1 t274.2.2.2.2.1 t274.2.2.2.2.2 7).bind fun t491 =>
 (Q53.f t274.2.1 t491 a0_2 a0_3 a0_4 a0_5 a0_6 a0_7 4).bind fun t495 =>
 jn (
 if t495.1.isNone = true then
 jn (
 if t495.2.2.2.2.2 < 1 then
 some (.inl true)
 else
 some (.inl (decide (24 < t495.2.2.2.2.2)))) (fun (x923 : Bool) =>
 some (.inl x923))
 else
 some (.inl false)) (fun (x706 : Bool) =>
 if x706 = true then
 (Q12.f t495.2.1 t495.1 t495.2.2.2.2.2 a0_3 a0_4 a0_5 a0_6 a0_7 t495.2.2.1 t495.2.2.2.1 t495.2.2.2.2.1 t495.2.2.2.2.2 8).bind fun t712 =>
 (Q22.f t495.2.1 t712 t495.2.2.2.2.2 a0_3 a0_4 a0_5 a0_6 a0_7).bind fun t716 =>
 some (t716, t495.2.1, t495.2.2.2.2.2)
 else
 (Q22.f t495.2.1 t495.1 t495.2.2.2.2.2 a0_3 a0_4 a0_5 a0_6 a0_7).bind fun t719 =>
 some (t719, t495.2.1, t495.2.2.2.2.2))
 else
 (Q53.f t274.2.1 t274.1 a0_2 a0_3 a0_4 a0_5 a0_6 a0_7 4).bind fun t929 =>
 jn (
 if t929.1.isNone = true then
 jn (
 if t929.2.2.2.2.2 < 1 then
 some (.inl true)
 else
 some (.inl (decide (24 < t929.2.2.2.2.2)))) (fun (x1357 : Bool) =>
 some (.inl x1357))
 else
 some (.inl false)) (fun (x1140 : Bool) =>
 if x1140 = true then
 (Q12.f t929.2.1 t929.1 t929.2.2.2.2.2 a0_3 a0_4 a0_5 a0_6 a0_7 t929.2.2.1 t929.2.2.2.1 t929.2.2.2.2.1 t929.2.2.2.2.2 8).bind fun t1146 =>
 (Q22.f t929.2.1 t1146 t929.2.2.2.2.2 a0_3 a0_4 a0_5 a0_6 a0_7).bind fun t1150 =>
 some (t1150, t929.2.1, t929.2.2.2.2.2)
 else
 (Q22.f t929.2.1 t929.1 t929.2.2.2.2.2 a0_3 a0_4 a0_5 a0_6 a0_7).bind fun t1153 =>
 some (t1153, t929.2.1, t929.2.2.2.2.2)))
theorem Q89.callee : Callee Tryz.prog 70 := ⟨_, Tryz.func70, by kernel_rfl, by kernel_rfl⟩
theorem Q89.spec (R : Res) (Fr : List HProp) (b0 : Nat) (A0_0 : Option Addr) (n0_0 : Nat) (c0_0 : Nat) (p0_1 : Option Nat) (A0_3 : Option Addr) (n0_3 : Nat) (c0_3 : Nat) (A0_4 : Option Addr) (n0_4 : Nat) (c0_4 : Nat) (A0_5 : Option Addr) (n0_5 : Nat) (c0_5 : Nat) (A0_6 : Option Addr) (n0_6 : Nat) (c0_6 : Nat) (b0_7 : Nat) (a0_0 : List Q6) (a0_1 : Option Q5) (a0_2 : Int) (a0_3 : List Bs) (a0_4 : List Q0) (a0_5 : List Q2) (a0_6 : List Q3) (a0_7 : List (Bs × Bool)) (hr0_0 : RdS Q6.fl.rep R.heap A0_0 a0_0) (hn0_0 : a0_0.length = n0_0) (hc0_0 : n0_0 ≤ c0_0) (hn0_3 : a0_3.length = n0_3) (hn0_4 : a0_4.length = n0_4) (hn0_5 : a0_5.length = n0_5) (hn0_6 : a0_6.length = n0_6) {r : (Option Q5) × (List Q6) × Int} (j : Q89.f a0_0 a0_1 a0_2 a0_3 a0_4 a0_5 a0_6 a0_7 = some r) :
 Spec Tryz.prog 70 [.pointer (some ⟨b0, 0, none⟩)] R (pt b0 (.cells [.slice A0_0 n0_0 c0_0, optp p0_1, .int .i64 a0_2, .slice A0_3 n0_3 c0_3, .slice A0_4 n0_4 c0_4, .slice A0_5 n0_5 c0_5, .slice A0_6 n0_6 c0_6, .map (some b0_7)].toArray 114) :: optb (Ow.fl Q5.fl) 58 p0_1 a0_1 :: row Fl.bs 9 A0_3 n0_3 c0_3 a0_3 :: row Q0.fl 35 A0_4 n0_4 c0_4 a0_4 :: grow Q2.ow 37 A0_5 n0_5 c0_5 a0_5 :: row Q3.fl 148 A0_6 n0_6 c0_6 a0_6 :: mapo Fl.bs.ov Fl.bool.ov b0_7 a0_7 :: Fr) (fun v l' => ∃ (w251 : Option Nat) (w254 : Option Addr) (w255 : Nat) (w256 : Nat), v = .tuple #[] ∧ optb (Ow.fl Q5.fl) 58 w251 r.1 :: pt b0 (.cells [.slice w254 w255 w256, optp w251, .int .i64 r.2.2, .slice A0_3 n0_3 c0_3, .slice A0_4 n0_4 c0_4, .slice A0_5 n0_5 c0_5, .slice A0_6 n0_6 c0_6, .map (some b0_7)].toArray 114) :: row Fl.bs 9 A0_3 n0_3 c0_3 a0_3 :: row Q0.fl 35 A0_4 n0_4 c0_4 a0_4 :: grow Q2.ow 37 A0_5 n0_5 c0_5 a0_5 :: row Q3.fl 148 A0_6 n0_6 c0_6 a0_6 :: mapo Fl.bs.ov Fl.bool.ov b0_7 a0_7 :: Fr = l' ∧ RdS Q6.fl.rep R.heap w254 r.2.1 ∧ r.2.1.length = w255 ∧ w255 ≤ w256) := by
 subst hn0_0; subst hn0_3; subst hn0_4; subst hn0_5; subst hn0_6; refine Spec.of Tryz.func70 rfl rfl ?_; unfold Q89.f at j; have j := brun j; refine At.seq (At.region (At.run 1 rfl ?_)); obtain ⟨t266, hc267, j⟩ := bbind j; refine At.call rfl Q33.callee rfl rfl rfl (Q33.spec _ _ b0 A0_0 a0_0.length c0_0 p0_1 A0_3 a0_3.length c0_3 A0_4 a0_4.length c0_4 A0_5 a0_5.length c0_5 A0_6 a0_6.length c0_6 b0_7 a0_0 a0_1 a0_2 a0_3 a0_4 a0_5 a0_6 a0_7 hr0_0 rfl hc0_0 rfl rfl rfl rfl hc267) ?_; rintro _ _ ⟨w268, w269, w270, rfl, rfl, hr271, rfl, hc273⟩; refine At.nil (At.thn (At.seq (At.seq (At.region (At.run 1 rfl ?_))))); obtain ⟨t274, hc275, j⟩ := bbind j; refine At.call rfl Q53.callee rfl rfl rfl (Q53.spec _ _ b0 w268 t266.length w270 p0_1 A0_3 a0_3.length c0_3 A0_4 a0_4.length c0_4 A0_5 a0_5.length c0_5 A0_6 a0_6.length c0_6 b0_7 t266 a0_1 a0_2 a0_3 a0_4 a0_5 a0_6 a0_7 2 hr271 rfl hc273 rfl rfl rfl rfl hc275) ?_; rintro _ _ ⟨w276, w277, w278, w279, rfl, rfl, hr280, rfl, hc282⟩; refine At.alloc rfl rfl rfl (fun b284 => ?_); refine At.store rfl rfl rfl rfl .z rfl rfl rfl (.c (.c (.c (.c .n)))) ?_; refine At.nil (At.thn (At.seq (At.region (At.run 3 rfl (At.y (Y.load rfl rfl (.s (.s .z)) rfl rfl rfl) rfl rfl rfl ?_))))); refine At.y (Y.eqOpt (.s .z) rfl rfl rfl rfl) rfl rfl rfl ?_; refine At.run 1 rfl ?_; obtain ⟨G486, hl487, hr488, j⟩ := bjoin j; refine At.joinO 4 (X := Bool) (fun x485 => [(0, .pointer (some ⟨b0, 0, none⟩)), (2, .pointer (some ⟨b284, 0, none⟩)), (17, .bool x485)]) (fun x485 => pt b284 (.cells [.int .i64 t274.2.2.1, .int .i64 t274.2.2.2.1, .string ⟨(t274.2.2.2.2.1).toArray⟩, .int .i64 t274.2.2.2.2.2].toArray 116) :: optb (Ow.fl Q5.fl) 58 w276 t274.1 :: pt b0 (.cells [.slice w277 t274.2.1.length w279, optp w276, .int .i64 a0_2, .slice A0_3 a0_3.length c0_3, .slice A0_4 a0_4.length c0_4, .slice A0_5 a0_5.length c0_5, .slice A0_6 a0_6.length c0_6, .map (some b0_7)].toArray 114) :: row Fl.bs 9 A0_3 a0_3.length c0_3 a0_3 :: row Q0.fl 35 A0_4 a0_4.length c0_4 a0_4 :: grow Q2.ow 37 A0_5 a0_5.length c0_5 a0_5 :: row Q3.fl 148 A0_6 a0_6.length c0_6 a0_6 :: mapo Fl.bs.ov Fl.bool.ov b0_7 a0_7 :: Fr) (fun x485 => G486 (.inl x485) = some r) ?_ (fun J489 => ?_)
 ·rintro x485 j; have j := (hl487 _).symm.trans j
  ·refine At.nil (At.thn ?_); rcases bite j with ⟨h490, j⟩ | ⟨h490, j⟩
   ··refine At.condT rfl h490 ?_
     refine At.region (At.run 1 rfl (At.y (Y.load rfl rfl .z rfl rfl rfl) rfl rfl rfl (At.f7 (At.f7 (At.f7 (At.f7 (At.f7 ?_))))))); refine At.f6 (At.f7 ?_); obtain ⟨t491, hc492, j⟩ := bbind j; refine At.call rfl Q12.callee rfl rfl rfl (Q12.spec _ _ b0 w277 t274.2.1.length w279 w276 A0_3 a0_3.length c0_3 A0_4 a0_4.length c0_4 A0_5 a0_5.length c0_5 A0_6 a0_6.length c0_6 b0_7 t274.2.1 t274.1 a0_2 a0_3 a0_4 a0_5 a0_6 a0_7 t274.2.2.1 t274.2.2.2.1 t274.2.2.2.2.1 t274.2.2.2.2.2 7 hr280 rfl hc282 rfl rfl rfl rfl hc492) ?_; rintro _ _ ⟨w493, rfl, rfl⟩; refine At.nil (At.thn (At.seq (At.region (At.run 1 rfl (At.f6 (At.f6 (At.f6 ?_))))))); refine At.f6 (At.f6 (At.f5 (At.f6 ?_))); obtain ⟨t495, hc496, j⟩ := bbind j; refine At.call rfl Q53.callee rfl rfl rfl (Q53.spec _ _ b0 w277 t274.2.1.length w279 w493 A0_3 a0_3.length c0_3 A0_4 a0_4.length c0_4 A0_5 a0_5.length c0_5 A0_6 a0_6.length c0_6 b0_7 t274.2.1 t491 a0_2 a0_3 a0_4 a0_5 a0_6 a0_7 4 hr280 rfl hc282 rfl rfl rfl rfl hc496) ?_; rintro _ _ ⟨w497, w498, w499, w500, rfl, rfl, hr501, rfl, hc503⟩; refine At.alloc rfl rfl rfl (fun b505 => ?_); refine At.store rfl rfl rfl rfl .z rfl rfl rfl (.c (.c (.c (.c .n)))) ?_; refine At.nil (At.thn (At.seq (At.region (At.run 2 rfl (At.y (Y.load rfl rfl .z rfl rfl rfl) rfl rfl rfl (At.run 3 rfl ?_)))))); refine At.store rfl rfl rfl rfl (.s (.s .z)) rfl rfl rfl (.s (.s (.c .n))) ?_; refine At.nil (At.thn (At.seq (At.seq (At.region (At.run 3 rfl (At.y (Y.load rfl rfl .z rfl rfl rfl) rfl rfl rfl ?_)))))); refine At.y (Y.eqOpt (.s (.s .z)) rfl rfl rfl rfl) rfl rfl rfl ?_; refine At.run 1 rfl ?_; obtain ⟨G707, hl708, hr709, j⟩ := bjoin j; refine At.joinO 9 (X := Bool) (fun x706 => [(0, .pointer (some ⟨b0, 0, none⟩)), (3, .pointer (some ⟨b505, 0, none⟩)), (43, .bool x706)]) (fun x706 => pt b0 (.cells [.slice w498 t495.2.1.length w500, optp w497, .int .i64 t495.2.2.2.2.2, .slice A0_3 a0_3.length c0_3, .slice A0_4 a0_4.length c0_4, .slice A0_5 a0_5.length c0_5, .slice A0_6 a0_6.length c0_6, .map (some b0_7)].toArray 114) :: pt b505 (.cells [.int .i64 t495.2.2.1, .int .i64 t495.2.2.2.1, .string ⟨(t495.2.2.2.2.1).toArray⟩, .int .i64 t495.2.2.2.2.2].toArray 116) :: optb (Ow.fl Q5.fl) 58 w497 t495.1 :: row Fl.bs 9 A0_3 a0_3.length c0_3 a0_3 :: row Q0.fl 35 A0_4 a0_4.length c0_4 a0_4 :: grow Q2.ow 37 A0_5 a0_5.length c0_5 a0_5 :: row Q3.fl 148 A0_6 a0_6.length c0_6 a0_6 :: mapo Fl.bs.ov Fl.bool.ov b0_7 a0_7 :: pt b284 (.cells [.int .i64 t274.2.2.1, .int .i64 t274.2.2.2.1, .string ⟨(t274.2.2.2.2.1).toArray⟩, .int .i64 t274.2.2.2.2.2].toArray 116) :: Fr) (fun x706 => G707 (.inl x706) = some r) ?_ (fun J710 => ?_)
     ·rintro x706 j; have j := (hl708 _).symm.trans j
      ·refine At.nil (At.thn ?_); rcases bite j with ⟨h711, j⟩ | ⟨h711, j⟩
       ··refine At.condT rfl h711 ?_
         refine At.region (At.run 1 rfl (At.y (Y.load rfl rfl (.s .z) rfl rfl rfl) rfl rfl rfl (At.f7 (At.f7 (At.f7 (At.f7 (At.f7 ?_))))))); refine At.f7 (At.f6 ?_); obtain ⟨t712, hc713, j⟩ := bbind j; refine At.call rfl Q12.callee rfl rfl rfl (Q12.spec _ _ b0 w498 t495.2.1.length w500 w497 A0_3 a0_3.length c0_3 A0_4 a0_4.length c0_4 A0_5 a0_5.length c0_5 A0_6 a0_6.length c0_6 b0_7 t495.2.1 t495.1 t495.2.2.2.2.2 a0_3 a0_4 a0_5 a0_6 a0_7 t495.2.2.1 t495.2.2.2.1 t495.2.2.2.2.1 t495.2.2.2.2.2 8 hr501 rfl hc503 rfl rfl rfl rfl hc713) ?_; rintro _ _ ⟨w714, rfl, rfl⟩; refine At.nil (At.thn (At.region (At.run 1 rfl (At.f6 (At.f6 (At.f6 (At.f6 ?_))))))); refine At.f6 (At.f5 (At.f6 ?_)); obtain ⟨t716, hc717, j⟩ := bbind j; refine At.call rfl Q22.callee rfl rfl rfl (Q22.spec _ _ b0 w498 t495.2.1.length w500 w714 A0_3 a0_3.length c0_3 A0_4 a0_4.length c0_4 A0_5 a0_5.length c0_5 A0_6 a0_6.length c0_6 b0_7 t495.2.1 t712 t495.2.2.2.2.2 a0_3 a0_4 a0_5 a0_6 a0_7 hr501 rfl hc503 rfl rfl rfl rfl hc717) ?_; rintro _ _ ⟨w718, rfl, rfl⟩; refine At.nil (At.drop (.s (.s (.s (.s (.s (.s (.s .z))))))) (At.drop (.s (.s (.s (.s (.s (.s (.s .z))))))) (At.f6 (At.f6 (At.f6 (At.f6 (At.f6 ?_))))))); refine At.f5 (At.f6 ?_); cases bret j; exact At.res (.inr rfl) rfl rfl ⟨w718, w498, t495.2.1.length, w500, rfl, rfl, hr501, rfl, hc503⟩
       ··refine At.condF rfl (bn h711) ?_
         refine At.skip (At.thn (At.region (At.run 1 rfl (At.f7 (At.f7 (At.f7 (At.f7 ?_))))))); refine At.f7 (At.f7 (At.f6 ?_)); obtain ⟨t719, hc720, j⟩ := bbind j; refine At.call rfl Q22.callee rfl rfl rfl (Q22.spec _ _ b0 w498 t495.2.1.length w500 w497 A0_3 a0_3.length c0_3 A0_4 a0_4.length c0_4 A0_5 a0_5.length c0_5 A0_6 a0_6.length c0_6 b0_7 t495.2.1 t495.1 t495.2.2.2.2.2 a0_3 a0_4 a0_5 a0_6 a0_7 hr501 rfl hc503 rfl rfl rfl rfl hc720) ?_; rintro _ _ ⟨w721, rfl, rfl⟩; refine At.nil (At.drop (.s (.s (.s (.s (.s (.s (.s .z))))))) (At.drop (.s (.s (.s (.s (.s (.s (.s .z))))))) (At.f6 (At.f6 (At.f6 (At.f6 (At.f6 ?_))))))); refine At.f5 (At.f6 ?_); cases bret j; exact At.res (.inr rfl) rfl rfl ⟨w721, w498, t495.2.1.length, w500, rfl, rfl, hr501, rfl, hc503⟩
     ··rcases bite j with ⟨h722, j⟩ | ⟨h722, j⟩
       ··refine At.know (t := 34) rfl h722 ?_
         refine At.run 1 rfl (At.y (Y.load rfl rfl (.s .z) rfl rfl rfl) rfl rfl rfl (At.run 2 rfl ?_)); obtain ⟨G924, hl925, hr926, j⟩ := bjoin j; refine At.joinO 4 (X := Bool) (fun x923 => [(0, .pointer (some ⟨b0, 0, none⟩)), (3, .pointer (some ⟨b505, 0, none⟩)), (34, .bool true), (42, .bool x923)]) (fun x923 => pt b0 (.cells [.slice w498 t495.2.1.length w500, optp w497, .int .i64 t495.2.2.2.2.2, .slice A0_3 a0_3.length c0_3, .slice A0_4 a0_4.length c0_4, .slice A0_5 a0_5.length c0_5, .slice A0_6 a0_6.length c0_6, .map (some b0_7)].toArray 114) :: pt b505 (.cells [.int .i64 t495.2.2.1, .int .i64 t495.2.2.2.1, .string ⟨(t495.2.2.2.2.1).toArray⟩, .int .i64 t495.2.2.2.2.2].toArray 116) :: optb (Ow.fl Q5.fl) 58 w497 t495.1 :: row Fl.bs 9 A0_3 a0_3.length c0_3 a0_3 :: row Q0.fl 35 A0_4 a0_4.length c0_4 a0_4 :: grow Q2.ow 37 A0_5 a0_5.length c0_5 a0_5 :: row Q3.fl 148 A0_6 a0_6.length c0_6 a0_6 :: mapo Fl.bs.ov Fl.bool.ov b0_7 a0_7 :: pt b284 (.cells [.int .i64 t274.2.2.1, .int .i64 t274.2.2.2.1, .string ⟨(t274.2.2.2.2.1).toArray⟩, .int .i64 t274.2.2.2.2.2].toArray 116) :: Fr) (fun x923 => G924 (.inl x923) = some r) ?_ (fun J927 => ?_)
         ·rintro x923 j; have j := (hl925 _).symm.trans j
          ·refine At.run 1 rfl ?_; exact At.of (J710 x923 j) ⟨rfl, rfl, rfl, trivial⟩
         ··rcases bite j with ⟨h928, j⟩ | ⟨h928, j⟩
           ··refine At.know (t := 38) rfl (decide_eq_true h928) ?_
             refine At.run 4 rfl ?_; exact At.of (J927 true j) ⟨rfl, rfl, rfl, rfl, trivial⟩
           ··refine At.know (t := 38) rfl (decide_eq_false h928) ?_
             refine At.run 1 rfl (At.y (Y.load rfl rfl (.s .z) rfl rfl rfl) rfl rfl rfl (At.run 2 rfl ?_)); exact At.of (J927 (decide (24 < t495.2.2.2.2.2)) j) ⟨rfl, rfl, rfl, rfl, trivial⟩
       ··refine At.know (t := 34) rfl (bn h722) ?_
         refine At.run 9 rfl ?_; exact At.of (J710 false j) ⟨rfl, rfl, rfl, trivial⟩
   ··refine At.condF rfl (bn h490) ?_
     refine At.skip (At.thn (At.seq (At.region (At.run 1 rfl (At.f7 (At.f7 (At.f7 ?_))))))); refine At.f7 (At.f7 (At.f6 (At.f7 ?_))); obtain ⟨t929, hc930, j⟩ := bbind j; refine At.call rfl Q53.callee rfl rfl rfl (Q53.spec _ _ b0 w277 t274.2.1.length w279 w276 A0_3 a0_3.length c0_3 A0_4 a0_4.length c0_4 A0_5 a0_5.length c0_5 A0_6 a0_6.length c0_6 b0_7 t274.2.1 t274.1 a0_2 a0_3 a0_4 a0_5 a0_6 a0_7 4 hr280 rfl hc282 rfl rfl rfl rfl hc930) ?_; rintro _ _ ⟨w931, w932, w933, w934, rfl, rfl, hr935, rfl, hc937⟩; refine At.alloc rfl rfl rfl (fun b939 => ?_); refine At.store rfl rfl rfl rfl .z rfl rfl rfl (.c (.c (.c (.c .n)))) ?_; refine At.nil (At.thn (At.seq (At.region (At.run 2 rfl (At.y (Y.load rfl rfl .z rfl rfl rfl) rfl rfl rfl (At.run 3 rfl ?_)))))); refine At.store rfl rfl rfl rfl (.s (.s .z)) rfl rfl rfl (.s (.s (.c .n))) ?_; refine At.nil (At.thn (At.seq (At.seq (At.region (At.run 3 rfl (At.y (Y.load rfl rfl .z rfl rfl rfl) rfl rfl rfl ?_)))))); refine At.y (Y.eqOpt (.s (.s .z)) rfl rfl rfl rfl) rfl rfl rfl ?_; refine At.run 1 rfl ?_; obtain ⟨G1141, hl1142, hr1143, j⟩ := bjoin j; refine At.joinO 9 (X := Bool) (fun x1140 => [(0, .pointer (some ⟨b0, 0, none⟩)), (3, .pointer (some ⟨b939, 0, none⟩)), (43, .bool x1140)]) (fun x1140 => pt b0 (.cells [.slice w932 t929.2.1.length w934, optp w931, .int .i64 t929.2.2.2.2.2, .slice A0_3 a0_3.length c0_3, .slice A0_4 a0_4.length c0_4, .slice A0_5 a0_5.length c0_5, .slice A0_6 a0_6.length c0_6, .map (some b0_7)].toArray 114) :: pt b939 (.cells [.int .i64 t929.2.2.1, .int .i64 t929.2.2.2.1, .string ⟨(t929.2.2.2.2.1).toArray⟩, .int .i64 t929.2.2.2.2.2].toArray 116) :: optb (Ow.fl Q5.fl) 58 w931 t929.1 :: row Fl.bs 9 A0_3 a0_3.length c0_3 a0_3 :: row Q0.fl 35 A0_4 a0_4.length c0_4 a0_4 :: grow Q2.ow 37 A0_5 a0_5.length c0_5 a0_5 :: row Q3.fl 148 A0_6 a0_6.length c0_6 a0_6 :: mapo Fl.bs.ov Fl.bool.ov b0_7 a0_7 :: pt b284 (.cells [.int .i64 t274.2.2.1, .int .i64 t274.2.2.2.1, .string ⟨(t274.2.2.2.2.1).toArray⟩, .int .i64 t274.2.2.2.2.2].toArray 116) :: Fr) (fun x1140 => G1141 (.inl x1140) = some r) ?_ (fun J1144 => ?_)
     ·rintro x1140 j; have j := (hl1142 _).symm.trans j
      ·refine At.nil (At.thn ?_); rcases bite j with ⟨h1145, j⟩ | ⟨h1145, j⟩
       ··refine At.condT rfl h1145 ?_
         refine At.region (At.run 1 rfl (At.y (Y.load rfl rfl (.s .z) rfl rfl rfl) rfl rfl rfl (At.f7 (At.f7 (At.f7 (At.f7 (At.f7 ?_))))))); refine At.f7 (At.f6 ?_); obtain ⟨t1146, hc1147, j⟩ := bbind j; refine At.call rfl Q12.callee rfl rfl rfl (Q12.spec _ _ b0 w932 t929.2.1.length w934 w931 A0_3 a0_3.length c0_3 A0_4 a0_4.length c0_4 A0_5 a0_5.length c0_5 A0_6 a0_6.length c0_6 b0_7 t929.2.1 t929.1 t929.2.2.2.2.2 a0_3 a0_4 a0_5 a0_6 a0_7 t929.2.2.1 t929.2.2.2.1 t929.2.2.2.2.1 t929.2.2.2.2.2 8 hr935 rfl hc937 rfl rfl rfl rfl hc1147) ?_; rintro _ _ ⟨w1148, rfl, rfl⟩; refine At.nil (At.thn (At.region (At.run 1 rfl (At.f6 (At.f6 (At.f6 (At.f6 ?_))))))); refine At.f6 (At.f5 (At.f6 ?_)); obtain ⟨t1150, hc1151, j⟩ := bbind j; refine At.call rfl Q22.callee rfl rfl rfl (Q22.spec _ _ b0 w932 t929.2.1.length w934 w1148 A0_3 a0_3.length c0_3 A0_4 a0_4.length c0_4 A0_5 a0_5.length c0_5 A0_6 a0_6.length c0_6 b0_7 t929.2.1 t1146 t929.2.2.2.2.2 a0_3 a0_4 a0_5 a0_6 a0_7 hr935 rfl hc937 rfl rfl rfl rfl hc1151) ?_; rintro _ _ ⟨w1152, rfl, rfl⟩; refine At.nil (At.drop (.s (.s (.s (.s (.s (.s (.s .z))))))) (At.drop (.s (.s (.s (.s (.s (.s (.s .z))))))) (At.f6 (At.f6 (At.f6 (At.f6 (At.f6 ?_))))))); refine At.f5 (At.f6 ?_); cases bret j; exact At.res (.inr rfl) rfl rfl ⟨w1152, w932, t929.2.1.length, w934, rfl, rfl, hr935, rfl, hc937⟩
       ··refine At.condF rfl (bn h1145) ?_
         refine At.skip (At.thn (At.region (At.run 1 rfl (At.f7 (At.f7 (At.f7 (At.f7 ?_))))))); refine At.f7 (At.f7 (At.f6 ?_)); obtain ⟨t1153, hc1154, j⟩ := bbind j; refine At.call rfl Q22.callee rfl rfl rfl (Q22.spec _ _ b0 w932 t929.2.1.length w934 w931 A0_3 a0_3.length c0_3 A0_4 a0_4.length c0_4 A0_5 a0_5.length c0_5 A0_6 a0_6.length c0_6 b0_7 t929.2.1 t929.1 t929.2.2.2.2.2 a0_3 a0_4 a0_5 a0_6 a0_7 hr935 rfl hc937 rfl rfl rfl rfl hc1154) ?_; rintro _ _ ⟨w1155, rfl, rfl⟩; refine At.nil (At.drop (.s (.s (.s (.s (.s (.s (.s .z))))))) (At.drop (.s (.s (.s (.s (.s (.s (.s .z))))))) (At.f6 (At.f6 (At.f6 (At.f6 (At.f6 ?_))))))); refine At.f5 (At.f6 ?_); cases bret j; exact At.res (.inr rfl) rfl rfl ⟨w1155, w932, t929.2.1.length, w934, rfl, rfl, hr935, rfl, hc937⟩
     ··rcases bite j with ⟨h1156, j⟩ | ⟨h1156, j⟩
       ··refine At.know (t := 34) rfl h1156 ?_
         refine At.run 1 rfl (At.y (Y.load rfl rfl (.s .z) rfl rfl rfl) rfl rfl rfl (At.run 2 rfl ?_)); obtain ⟨G1358, hl1359, hr1360, j⟩ := bjoin j; refine At.joinO 4 (X := Bool) (fun x1357 => [(0, .pointer (some ⟨b0, 0, none⟩)), (3, .pointer (some ⟨b939, 0, none⟩)), (34, .bool true), (42, .bool x1357)]) (fun x1357 => pt b0 (.cells [.slice w932 t929.2.1.length w934, optp w931, .int .i64 t929.2.2.2.2.2, .slice A0_3 a0_3.length c0_3, .slice A0_4 a0_4.length c0_4, .slice A0_5 a0_5.length c0_5, .slice A0_6 a0_6.length c0_6, .map (some b0_7)].toArray 114) :: pt b939 (.cells [.int .i64 t929.2.2.1, .int .i64 t929.2.2.2.1, .string ⟨(t929.2.2.2.2.1).toArray⟩, .int .i64 t929.2.2.2.2.2].toArray 116) :: optb (Ow.fl Q5.fl) 58 w931 t929.1 :: row Fl.bs 9 A0_3 a0_3.length c0_3 a0_3 :: row Q0.fl 35 A0_4 a0_4.length c0_4 a0_4 :: grow Q2.ow 37 A0_5 a0_5.length c0_5 a0_5 :: row Q3.fl 148 A0_6 a0_6.length c0_6 a0_6 :: mapo Fl.bs.ov Fl.bool.ov b0_7 a0_7 :: pt b284 (.cells [.int .i64 t274.2.2.1, .int .i64 t274.2.2.2.1, .string ⟨(t274.2.2.2.2.1).toArray⟩, .int .i64 t274.2.2.2.2.2].toArray 116) :: Fr) (fun x1357 => G1358 (.inl x1357) = some r) ?_ (fun J1361 => ?_)
         ·rintro x1357 j; have j := (hl1359 _).symm.trans j
          ·refine At.run 1 rfl ?_; exact At.of (J1144 x1357 j) ⟨rfl, rfl, rfl, trivial⟩
         ··rcases bite j with ⟨h1362, j⟩ | ⟨h1362, j⟩
           ··refine At.know (t := 38) rfl (decide_eq_true h1362) ?_
             refine At.run 4 rfl ?_; exact At.of (J1361 true j) ⟨rfl, rfl, rfl, rfl, trivial⟩
           ··refine At.know (t := 38) rfl (decide_eq_false h1362) ?_
             refine At.run 1 rfl (At.y (Y.load rfl rfl (.s .z) rfl rfl rfl) rfl rfl rfl (At.run 2 rfl ?_)); exact At.of (J1361 (decide (24 < t929.2.2.2.2.2)) j) ⟨rfl, rfl, rfl, rfl, trivial⟩
       ··refine At.know (t := 34) rfl (bn h1156) ?_
         refine At.run 9 rfl ?_; exact At.of (J1144 false j) ⟨rfl, rfl, rfl, trivial⟩
 ··rcases bite j with ⟨h1363, j⟩ | ⟨h1363, j⟩
   ··refine At.know (t := 13) rfl h1363 ?_
     refine At.run 1 rfl (At.y (Y.load rfl rfl .z rfl rfl rfl) rfl rfl rfl (At.run 2 rfl ?_)); exact At.of (J489 (!(bseq t274.2.2.2.2.1 ([115, 116, 97, 116, 101, 115] : Bs))) j) ⟨rfl, rfl, rfl, trivial⟩
   ··refine At.know (t := 13) rfl (bn h1363) ?_
     refine At.run 4 rfl ?_; exact At.of (J489 false j) ⟨rfl, rfl, rfl, trivial⟩

noncomputable def Q45.f (a0_0 : List Q6) (a0_1 : Option Q5) (a0_2 : Int) (a0_3 : List Bs) (a0_4 : List Q0) (a0_5 : List Q2) (a0_6 : List Q3) (a0_7 : List (Bs × Bool)) : Option ((Option Q5) × (List Q6) × Int × Int × Int × Bs × Int) :=
 (Q53.f a0_0 a0_1 a0_2 a0_3 a0_4 a0_5 a0_6 a0_7 4).bind fun t276 =>
 jn (
 if t276.1.isNone = true then
 some (.inl (decide (a0_2 ≤ t276.2.2.2.2.2)))
 else
 some (.inl false)) (fun (x487 : Bool) =>
 if x487 = true then
 (Q12.f t276.2.1 t276.1 a0_2 a0_3 a0_4 a0_5 a0_6 a0_7 t276.2.2.1 t276.2.2.2.1 t276.2.2.2.2.1 t276.2.2.2.2.2 8).bind fun t493 =>
 some (t493, t276.2.1, t276.2.2.2.2.2, t276.2.2.1, t276.2.2.2.1, t276.2.2.2.2.1, t276.2.2.2.2.2)
 else
 some (t276.1, t276.2.1, t276.2.2.2.2.2, t276.2.2.1, t276.2.2.2.1, t276.2.2.2.2.1, t276.2.2.2.2.2))
theorem Q45.callee : Callee Tryz.prog 97 := ⟨_, Tryz.func97, by kernel_rfl, by kernel_rfl⟩
theorem Q45.spec (R : Res) (Fr : List HProp) (b0 : Nat) (A0_0 : Option Addr) (n0_0 : Nat) (c0_0 : Nat) (p0_1 : Option Nat) (A0_3 : Option Addr) (n0_3 : Nat) (c0_3 : Nat) (A0_4 : Option Addr) (n0_4 : Nat) (c0_4 : Nat) (A0_5 : Option Addr) (n0_5 : Nat) (c0_5 : Nat) (A0_6 : Option Addr) (n0_6 : Nat) (c0_6 : Nat) (b0_7 : Nat) (a0_0 : List Q6) (a0_1 : Option Q5) (a0_2 : Int) (a0_3 : List Bs) (a0_4 : List Q0) (a0_5 : List Q2) (a0_6 : List Q3) (a0_7 : List (Bs × Bool)) (hr0_0 : RdS Q6.fl.rep R.heap A0_0 a0_0) (hn0_0 : a0_0.length = n0_0) (hc0_0 : n0_0 ≤ c0_0) (hn0_3 : a0_3.length = n0_3) (hn0_4 : a0_4.length = n0_4) (hn0_5 : a0_5.length = n0_5) (hn0_6 : a0_6.length = n0_6) {r : (Option Q5) × (List Q6) × Int × Int × Int × Bs × Int} (j : Q45.f a0_0 a0_1 a0_2 a0_3 a0_4 a0_5 a0_6 a0_7 = some r) :
 Spec Tryz.prog 97 [.pointer (some ⟨b0, 0, none⟩)] R (pt b0 (.cells [.slice A0_0 n0_0 c0_0, optp p0_1, .int .i64 a0_2, .slice A0_3 n0_3 c0_3, .slice A0_4 n0_4 c0_4, .slice A0_5 n0_5 c0_5, .slice A0_6 n0_6 c0_6, .map (some b0_7)].toArray 114) :: optb (Ow.fl Q5.fl) 58 p0_1 a0_1 :: row Fl.bs 9 A0_3 n0_3 c0_3 a0_3 :: row Q0.fl 35 A0_4 n0_4 c0_4 a0_4 :: grow Q2.ow 37 A0_5 n0_5 c0_5 a0_5 :: row Q3.fl 148 A0_6 n0_6 c0_6 a0_6 :: mapo Fl.bs.ov Fl.bool.ov b0_7 a0_7 :: Fr) (fun v l' => ∃ (w252 : Option Nat) (w259 : Option Addr) (w260 : Nat) (w261 : Nat), v = .tuple #[.agg #[.int .i64 r.2.2.2.1, .int .i64 r.2.2.2.2.1, .string ⟨(r.2.2.2.2.2.1).toArray⟩, .int .i64 r.2.2.2.2.2.2], .int .i64 r.2.2.1] ∧ optb (Ow.fl Q5.fl) 58 w252 r.1 :: pt b0 (.cells [.slice w259 w260 w261, optp w252, .int .i64 a0_2, .slice A0_3 n0_3 c0_3, .slice A0_4 n0_4 c0_4, .slice A0_5 n0_5 c0_5, .slice A0_6 n0_6 c0_6, .map (some b0_7)].toArray 114) :: row Fl.bs 9 A0_3 n0_3 c0_3 a0_3 :: row Q0.fl 35 A0_4 n0_4 c0_4 a0_4 :: grow Q2.ow 37 A0_5 n0_5 c0_5 a0_5 :: row Q3.fl 148 A0_6 n0_6 c0_6 a0_6 :: mapo Fl.bs.ov Fl.bool.ov b0_7 a0_7 :: Fr = l' ∧ RdS Q6.fl.rep R.heap w259 r.2.1 ∧ r.2.1.length = w260 ∧ w260 ≤ w261) := by
 subst hn0_0; subst hn0_3; subst hn0_4; subst hn0_5; subst hn0_6; refine Spec.of Tryz.func97 rfl rfl ?_; unfold Q45.f at j; have j := brun j; refine At.seq (At.region ?_); refine At.alloc rfl rfl rfl (fun b275 => ?_); refine At.run 1 rfl (At.nil (At.thn (At.seq (At.region (At.run 1 rfl (At.f7 (At.f7 ?_))))))); refine At.f7 (At.f7 (At.f7 (At.f7 (At.f7 ?_)))); obtain ⟨t276, hc277, j⟩ := bbind j; refine At.call rfl Q53.callee rfl rfl rfl (Q53.spec _ _ b0 A0_0 a0_0.length c0_0 p0_1 A0_3 a0_3.length c0_3 A0_4 a0_4.length c0_4 A0_5 a0_5.length c0_5 A0_6 a0_6.length c0_6 b0_7 a0_0 a0_1 a0_2 a0_3 a0_4 a0_5 a0_6 a0_7 4 hr0_0 rfl hc0_0 rfl rfl rfl rfl hc277) ?_; rintro _ _ ⟨w278, w279, w280, w281, rfl, rfl, hr282, rfl, hc284⟩; refine At.alloc rfl rfl rfl (fun b286 => ?_); refine At.store rfl rfl rfl rfl .z rfl rfl rfl (.c (.c (.c (.c .n)))) ?_; refine At.nil (At.thn (At.seq (At.seq ?_))); refine At.quiet (by kernel_rfl) ?_; refine At.Quiet.run 3 rfl ?_; refine At.Quiet.y (Y.load rfl rfl (.s (.s .z)) rfl rfl rfl) rfl rfl rfl ?_; refine At.Quiet.y (Y.eqOpt (.s .z) rfl rfl rfl rfl) rfl rfl rfl ?_; refine At.Quiet.run 1 rfl ?_; obtain ⟨G488, hl489, hr490, j⟩ := bjoin j; refine At.Quiet.joinO 9 (X := Bool) (fun x487 => [(0, .pointer (some ⟨b0, 0, none⟩)), (2, .pointer (some ⟨b275, 0, none⟩)), (4, .pointer (some ⟨b286, 0, none⟩)), (21, .bool x487)]) (fun x487 => pt b286 (.cells [.int .i64 t276.2.2.1, .int .i64 t276.2.2.2.1, .string ⟨(t276.2.2.2.2.1).toArray⟩, .int .i64 t276.2.2.2.2.2].toArray 116) :: optb (Ow.fl Q5.fl) 58 w278 t276.1 :: pt b0 (.cells [.slice w279 t276.2.1.length w281, optp w278, .int .i64 a0_2, .slice A0_3 a0_3.length c0_3, .slice A0_4 a0_4.length c0_4, .slice A0_5 a0_5.length c0_5, .slice A0_6 a0_6.length c0_6, .map (some b0_7)].toArray 114) :: row Fl.bs 9 A0_3 a0_3.length c0_3 a0_3 :: row Q0.fl 35 A0_4 a0_4.length c0_4 a0_4 :: grow Q2.ow 37 A0_5 a0_5.length c0_5 a0_5 :: row Q3.fl 148 A0_6 a0_6.length c0_6 a0_6 :: mapo Fl.bs.ov Fl.bool.ov b0_7 a0_7 :: pt b275 (.cells [.int .i64 0, .int .i64 0, .string ⟨(([] : Bs)).toArray⟩, .int .i64 0].toArray 116) :: Fr) (fun x487 => G488 (.inl x487) = some r) ?_ (fun J491 => ?_)
 ·rintro x487 j; have j := (hl489 _).symm.trans j
  ·refine At.Quiet.nil (At.thn ?_); rcases bite j with ⟨h492, j⟩ | ⟨h492, j⟩
   ··refine At.condT rfl h492 ?_
     refine At.region (At.run 1 rfl (At.y (Y.load rfl rfl .z rfl rfl rfl) rfl rfl rfl (At.f7 (At.f7 (At.f7 (At.f7 (At.f7 ?_))))))); refine At.f6 (At.f7 ?_); obtain ⟨t493, hc494, j⟩ := bbind j; refine At.call rfl Q12.callee rfl rfl rfl (Q12.spec _ _ b0 w279 t276.2.1.length w281 w278 A0_3 a0_3.length c0_3 A0_4 a0_4.length c0_4 A0_5 a0_5.length c0_5 A0_6 a0_6.length c0_6 b0_7 t276.2.1 t276.1 a0_2 a0_3 a0_4 a0_5 a0_6 a0_7 t276.2.2.1 t276.2.2.2.1 t276.2.2.2.2.1 t276.2.2.2.2.2 8 hr282 rfl hc284 rfl rfl rfl rfl hc494) ?_; rintro _ _ ⟨w495, rfl, rfl⟩; refine At.nil (At.thn (At.seq ?_)); refine At.held [optb (Ow.fl Q5.fl) 58 w495 t493, pt b0 (.cells [.slice w279 t276.2.1.length w281, optp w495, .int .i64 a0_2, .slice A0_3 a0_3.length c0_3, .slice A0_4 a0_4.length c0_4, .slice A0_5 a0_5.length c0_5, .slice A0_6 a0_6.length c0_6, .map (some b0_7)].toArray 114), row Fl.bs 9 A0_3 a0_3.length c0_3 a0_3, row Q0.fl 35 A0_4 a0_4.length c0_4 a0_4, grow Q2.ow 37 A0_5 a0_5.length c0_5 a0_5, row Q3.fl 148 A0_6 a0_6.length c0_6 a0_6, mapo Fl.bs.ov Fl.bool.ov b0_7 a0_7, pt b286 (.cells [.int .i64 t276.2.2.1, .int .i64 t276.2.2.2.1, .string ⟨(t276.2.2.2.2.1).toArray⟩, .int .i64 t276.2.2.2.2.2].toArray 116)] 5 rfl ?_; refine At.H.tw 0 rfl (Y.load rfl rfl (.s (.s (.s (.s (.s (.s (.s .z))))))) rfl rfl rfl) rfl rfl rfl (.c .z (.c .z (.c .z (.c .z (.c .z (.c .z (.c .z (.c .z .n)))))))) ?_; refine At.H.pw 1 rfl rfl rfl rfl rfl (.c .z (.c .z (.c .z (.c .z (.c .z (.c .z (.c .z (.c .z .n)))))))) ?_; refine At.H.tw 2 rfl (Y.load rfl rfl (.s (.s (.s (.s (.s (.s (.s .z))))))) rfl rfl rfl) rfl rfl rfl (.c .z (.c .z (.c .z (.c .z (.c .z (.c .z (.c .z (.c .z .n)))))))) ?_; refine At.H.al [3] (Q7 ?_ Q9)
     ··refine At.HO.op rfl ?_
       refine At.store rfl rfl rfl rfl (.s (.s (.s (.s (.s (.s (.s (.s .z)))))))) rfl rfl rfl (.c (.c (.c (.c .n)))) ?_; refine At.HO.back (.c (.s .z) (.c (.s .z) (.c (.s .z) (.c (.s .z) (.c (.s .z) (.c (.s .z) (.c (.s .z) (.c (.s .z) .n)))))))) ?_; refine At.H.pw 4 rfl rfl rfl rfl rfl (.c (.s .z) (.c (.s .z) (.c (.s .z) (.c (.s .z) (.c (.s .z) (.c (.s .z) (.c (.s .z) (.c (.s .z) .n)))))))) ?_; refine At.H.done (by kernel_rfl) ?_; refine At.thn (At.ret ?_); refine At.resM (.inl rfl) rfl (RV.cell rfl rfl .z rfl rfl rfl (RV.tmp rfl RV.nil)) ?_; refine At.drop .z (At.drop (.s (.s (.s (.s (.s (.s (.s .z))))))) ?_); cases bret j; exact fun a w e hs => ⟨_, ⟨w495, w279, t276.2.1.length, w281, rfl, rfl, hr282, rfl, hc284⟩, hs⟩
   ··refine At.condF rfl (bn h492) ?_
     refine At.skip (At.thn (At.seq ?_)); refine At.held [pt b286 (.cells [.int .i64 t276.2.2.1, .int .i64 t276.2.2.2.1, .string ⟨(t276.2.2.2.2.1).toArray⟩, .int .i64 t276.2.2.2.2.2].toArray 116), optb (Ow.fl Q5.fl) 58 w278 t276.1, pt b0 (.cells [.slice w279 t276.2.1.length w281, optp w278, .int .i64 a0_2, .slice A0_3 a0_3.length c0_3, .slice A0_4 a0_4.length c0_4, .slice A0_5 a0_5.length c0_5, .slice A0_6 a0_6.length c0_6, .map (some b0_7)].toArray 114), row Fl.bs 9 A0_3 a0_3.length c0_3 a0_3, row Q0.fl 35 A0_4 a0_4.length c0_4 a0_4, grow Q2.ow 37 A0_5 a0_5.length c0_5 a0_5, row Q3.fl 148 A0_6 a0_6.length c0_6 a0_6, mapo Fl.bs.ov Fl.bool.ov b0_7 a0_7] 5 rfl ?_; refine At.H.tw 0 rfl (Y.load rfl rfl .z rfl rfl rfl) rfl rfl rfl (.c .z (.c .z (.c .z (.c .z (.c .z (.c .z (.c .z (.c .z .n)))))))) ?_; refine At.H.pw 1 rfl rfl rfl rfl rfl (.c .z (.c .z (.c .z (.c .z (.c .z (.c .z (.c .z (.c .z .n)))))))) ?_; refine At.H.tw 2 rfl (Y.load rfl rfl .z rfl rfl rfl) rfl rfl rfl (.c .z (.c .z (.c .z (.c .z (.c .z (.c .z (.c .z (.c .z .n)))))))) ?_; refine At.H.al [3] (Q7 ?_ Q9)
     ··refine At.HO.op rfl ?_
       refine At.store rfl rfl rfl rfl (.s (.s (.s (.s (.s (.s (.s (.s .z)))))))) rfl rfl rfl (.c (.c (.c (.c .n)))) ?_; refine At.HO.back (.c (.s .z) (.c (.s .z) (.c (.s .z) (.c (.s .z) (.c (.s .z) (.c (.s .z) (.c (.s .z) (.c (.s .z) .n)))))))) ?_; refine At.H.pw 4 rfl rfl rfl rfl rfl (.c (.s .z) (.c (.s .z) (.c (.s .z) (.c (.s .z) (.c (.s .z) (.c (.s .z) (.c (.s .z) (.c (.s .z) .n)))))))) ?_; refine At.H.done (by kernel_rfl) ?_; refine At.thn (At.ret ?_); refine At.resM (.inl rfl) rfl (RV.cell rfl rfl .z rfl rfl rfl (RV.tmp rfl RV.nil)) ?_; refine At.drop .z (At.drop .z ?_); cases bret j; exact fun a w e hs => ⟨_, ⟨w278, w279, t276.2.1.length, w281, rfl, rfl, hr282, rfl, hc284⟩, hs⟩
 ··rcases bite j with ⟨h497, j⟩ | ⟨h497, j⟩
   ··refine At.Quiet.know (t := 12) rfl h497 ?_
     refine At.Quiet.run 1 rfl ?_; refine At.Quiet.y (Y.load rfl rfl .z rfl rfl rfl) rfl rfl rfl ?_; refine At.Quiet.run 4 rfl ?_; refine At.Quiet.y (Y.load rfl rfl (.s (.s .z)) rfl rfl rfl) rfl rfl rfl ?_; refine At.Quiet.run 2 rfl ?_; exact At.Quiet.of (J491 (decide (a0_2 ≤ t276.2.2.2.2.2)) j) ⟨rfl, rfl, rfl, rfl, trivial⟩
   ··refine At.Quiet.know (t := 12) rfl (bn h497) ?_
     refine At.Quiet.run 9 rfl ?_; exact At.Quiet.of (J491 false j) ⟨rfl, rfl, rfl, rfl, trivial⟩

noncomputable def Q60.f (a0_0 : List Q6) (a0_1 : Option Q5) (a0_2 : Int) (a0_3 : List Bs) (a0_4 : List Q0) (a0_5 : List Q2) (a0_6 : List Q3) (a0_7 : List (Bs × Bool)) : Option ((Option Q5) × (List Q6) × Int × Int × Bs × Int) :=
 (Q53.f a0_0 a0_1 a0_2 a0_3 a0_4 a0_5 a0_6 a0_7 2).bind fun t275 =>
 jn (
 if t275.1.isNone = true then
 (Q55.f t275.2.2.2.2.1).bind fun t497 =>
 some (.inl (!t497))
 else
 some (.inl false)) (fun (x486 : Bool) =>
 if x486 = true then
 (Q12.f t275.2.1 t275.1 a0_2 a0_3 a0_4 a0_5 a0_6 a0_7 t275.2.2.1 t275.2.2.2.1 t275.2.2.2.2.1 t275.2.2.2.2.2 7).bind fun t492 =>
 some (t492, t275.2.1, t275.2.2.1, t275.2.2.2.1, t275.2.2.2.2.1, t275.2.2.2.2.2)
 else
 some (t275.1, t275.2.1, t275.2.2.1, t275.2.2.2.1, t275.2.2.2.2.1, t275.2.2.2.2.2))
theorem Q60.callee : Callee Tryz.prog 98 := ⟨_, Tryz.func98, by kernel_rfl, by kernel_rfl⟩
theorem Q60.spec (R : Res) (Fr : List HProp) (b0 : Nat) (A0_0 : Option Addr) (n0_0 : Nat) (c0_0 : Nat) (p0_1 : Option Nat) (A0_3 : Option Addr) (n0_3 : Nat) (c0_3 : Nat) (A0_4 : Option Addr) (n0_4 : Nat) (c0_4 : Nat) (A0_5 : Option Addr) (n0_5 : Nat) (c0_5 : Nat) (A0_6 : Option Addr) (n0_6 : Nat) (c0_6 : Nat) (b0_7 : Nat) (a0_0 : List Q6) (a0_1 : Option Q5) (a0_2 : Int) (a0_3 : List Bs) (a0_4 : List Q0) (a0_5 : List Q2) (a0_6 : List Q3) (a0_7 : List (Bs × Bool)) (hr0_0 : RdS Q6.fl.rep R.heap A0_0 a0_0) (hn0_0 : a0_0.length = n0_0) (hc0_0 : n0_0 ≤ c0_0) (hn0_3 : a0_3.length = n0_3) (hn0_4 : a0_4.length = n0_4) (hn0_5 : a0_5.length = n0_5) (hn0_6 : a0_6.length = n0_6) {r : (Option Q5) × (List Q6) × Int × Int × Bs × Int} (j : Q60.f a0_0 a0_1 a0_2 a0_3 a0_4 a0_5 a0_6 a0_7 = some r) :
 Spec Tryz.prog 98 [.pointer (some ⟨b0, 0, none⟩)] R (pt b0 (.cells [.slice A0_0 n0_0 c0_0, optp p0_1, .int .i64 a0_2, .slice A0_3 n0_3 c0_3, .slice A0_4 n0_4 c0_4, .slice A0_5 n0_5 c0_5, .slice A0_6 n0_6 c0_6, .map (some b0_7)].toArray 114) :: optb (Ow.fl Q5.fl) 58 p0_1 a0_1 :: row Fl.bs 9 A0_3 n0_3 c0_3 a0_3 :: row Q0.fl 35 A0_4 n0_4 c0_4 a0_4 :: grow Q2.ow 37 A0_5 n0_5 c0_5 a0_5 :: row Q3.fl 148 A0_6 n0_6 c0_6 a0_6 :: mapo Fl.bs.ov Fl.bool.ov b0_7 a0_7 :: Fr) (fun v l' => ∃ (w252 : Option Nat) (w259 : Option Addr) (w260 : Nat) (w261 : Nat), v = .agg #[.int .i64 r.2.2.1, .int .i64 r.2.2.2.1, .string ⟨(r.2.2.2.2.1).toArray⟩, .int .i64 r.2.2.2.2.2] ∧ optb (Ow.fl Q5.fl) 58 w252 r.1 :: pt b0 (.cells [.slice w259 w260 w261, optp w252, .int .i64 a0_2, .slice A0_3 n0_3 c0_3, .slice A0_4 n0_4 c0_4, .slice A0_5 n0_5 c0_5, .slice A0_6 n0_6 c0_6, .map (some b0_7)].toArray 114) :: row Fl.bs 9 A0_3 n0_3 c0_3 a0_3 :: row Q0.fl 35 A0_4 n0_4 c0_4 a0_4 :: grow Q2.ow 37 A0_5 n0_5 c0_5 a0_5 :: row Q3.fl 148 A0_6 n0_6 c0_6 a0_6 :: mapo Fl.bs.ov Fl.bool.ov b0_7 a0_7 :: Fr = l' ∧ RdS Q6.fl.rep R.heap w259 r.2.1 ∧ r.2.1.length = w260 ∧ w260 ≤ w261) := by
 subst hn0_0; subst hn0_3; subst hn0_4; subst hn0_5; subst hn0_6; refine Spec.of Tryz.func98 rfl rfl ?_; unfold Q60.f at j; have j := brun j; refine At.seq (At.region ?_); refine At.alloc rfl rfl rfl (fun b274 => ?_); refine At.nil (At.thn (At.seq (At.region (At.run 1 rfl (At.f7 (At.f7 (At.f7 ?_))))))); refine At.f7 (At.f7 (At.f7 (At.f7 ?_))); obtain ⟨t275, hc276, j⟩ := bbind j; refine At.call rfl Q53.callee rfl rfl rfl (Q53.spec _ _ b0 A0_0 a0_0.length c0_0 p0_1 A0_3 a0_3.length c0_3 A0_4 a0_4.length c0_4 A0_5 a0_5.length c0_5 A0_6 a0_6.length c0_6 b0_7 a0_0 a0_1 a0_2 a0_3 a0_4 a0_5 a0_6 a0_7 2 hr0_0 rfl hc0_0 rfl rfl rfl rfl hc276) ?_; rintro _ _ ⟨w277, w278, w279, w280, rfl, rfl, hr281, rfl, hc283⟩; refine At.alloc rfl rfl rfl (fun b285 => ?_); refine At.store rfl rfl rfl rfl .z rfl rfl rfl (.c (.c (.c (.c .n)))) ?_; refine At.nil (At.thn (At.seq (At.seq (At.region (At.run 3 rfl (At.y (Y.load rfl rfl (.s (.s .z)) rfl rfl rfl) rfl rfl rfl ?_)))))); refine At.y (Y.eqOpt (.s .z) rfl rfl rfl rfl) rfl rfl rfl ?_; refine At.run 1 rfl ?_; obtain ⟨G487, hl488, hr489, j⟩ := bjoin j; refine At.joinO 5 (X := Bool) (fun x486 => [(0, .pointer (some ⟨b0, 0, none⟩)), (2, .pointer (some ⟨b274, 0, none⟩)), (3, .pointer (some ⟨b285, 0, none⟩)), (16, .bool x486)]) (fun x486 => pt b285 (.cells [.int .i64 t275.2.2.1, .int .i64 t275.2.2.2.1, .string ⟨(t275.2.2.2.2.1).toArray⟩, .int .i64 t275.2.2.2.2.2].toArray 116) :: optb (Ow.fl Q5.fl) 58 w277 t275.1 :: pt b0 (.cells [.slice w278 t275.2.1.length w280, optp w277, .int .i64 a0_2, .slice A0_3 a0_3.length c0_3, .slice A0_4 a0_4.length c0_4, .slice A0_5 a0_5.length c0_5, .slice A0_6 a0_6.length c0_6, .map (some b0_7)].toArray 114) :: row Fl.bs 9 A0_3 a0_3.length c0_3 a0_3 :: row Q0.fl 35 A0_4 a0_4.length c0_4 a0_4 :: grow Q2.ow 37 A0_5 a0_5.length c0_5 a0_5 :: row Q3.fl 148 A0_6 a0_6.length c0_6 a0_6 :: mapo Fl.bs.ov Fl.bool.ov b0_7 a0_7 :: pt b274 (.cells [.int .i64 0, .int .i64 0, .string ⟨(([] : Bs)).toArray⟩, .int .i64 0].toArray 116) :: Fr) (fun x486 => G487 (.inl x486) = some r) ?_ (fun J490 => ?_)
 ·rintro x486 j; have j := (hl488 _).symm.trans j
  ·refine At.nil (At.thn ?_); rcases bite j with ⟨h491, j⟩ | ⟨h491, j⟩
   ··refine At.condT rfl h491 ?_
     refine At.region (At.run 1 rfl (At.y (Y.load rfl rfl .z rfl rfl rfl) rfl rfl rfl (At.f7 (At.f7 (At.f7 (At.f7 (At.f7 ?_))))))); refine At.f6 (At.f7 ?_); obtain ⟨t492, hc493, j⟩ := bbind j; refine At.call rfl Q12.callee rfl rfl rfl (Q12.spec _ _ b0 w278 t275.2.1.length w280 w277 A0_3 a0_3.length c0_3 A0_4 a0_4.length c0_4 A0_5 a0_5.length c0_5 A0_6 a0_6.length c0_6 b0_7 t275.2.1 t275.1 a0_2 a0_3 a0_4 a0_5 a0_6 a0_7 t275.2.2.1 t275.2.2.2.1 t275.2.2.2.2.1 t275.2.2.2.2.2 7 hr281 rfl hc283 rfl rfl rfl rfl hc493) ?_; rintro _ _ ⟨w494, rfl, rfl⟩; refine At.nil (At.thn (At.seq (At.region ?_))); refine At.y (Y.load rfl rfl (.s (.s (.s (.s (.s (.s (.s .z))))))) rfl rfl rfl) rfl rfl rfl ?_; refine At.store rfl rfl rfl rfl (.s (.s (.s (.s (.s (.s (.s (.s .z)))))))) rfl rfl rfl (.c (.c (.c (.c .n)))) ?_; refine At.nil (At.thn (At.ret ?_)); refine At.resM (.inl rfl) rfl (RV.cell rfl rfl .z rfl rfl rfl RV.nil) ?_; refine At.drop .z (At.drop (.s (.s (.s (.s (.s (.s (.s .z))))))) ?_); cases bret j; exact fun a w e hs => ⟨_, ⟨w494, w278, t275.2.1.length, w280, rfl, rfl, hr281, rfl, hc283⟩, hs⟩
   ··refine At.condF rfl (bn h491) ?_
     refine At.skip (At.thn (At.seq (At.region (At.y (Y.load rfl rfl .z rfl rfl rfl) rfl rfl rfl ?_)))); refine At.store rfl rfl rfl rfl (.s (.s (.s (.s (.s (.s (.s (.s .z)))))))) rfl rfl rfl (.c (.c (.c (.c .n)))) ?_; refine At.nil (At.thn (At.ret ?_)); refine At.resM (.inl rfl) rfl (RV.cell rfl rfl .z rfl rfl rfl RV.nil) ?_; refine At.drop .z (At.drop .z ?_); cases bret j; exact fun a w e hs => ⟨_, ⟨w277, w278, t275.2.1.length, w280, rfl, rfl, hr281, rfl, hc283⟩, hs⟩
 ··rcases bite j with ⟨h496, j⟩ | ⟨h496, j⟩
   ··refine At.know (t := 11) rfl h496 ?_
     refine At.run 1 rfl (At.y (Y.load rfl rfl .z rfl rfl rfl) rfl rfl rfl ?_); obtain ⟨t497, hc498, j⟩ := bbind j; refine At.call rfl Q55.callee rfl rfl rfl (Q55.spec _ _  t275.2.2.2.2.1  hc498) ?_; rintro _ _ ⟨rfl, rfl⟩; refine At.run 2 rfl ?_; exact At.of (J490 (!t497) j) ⟨rfl, rfl, rfl, rfl, trivial⟩
   ··refine At.know (t := 11) rfl (bn h496) ?_
     refine At.run 5 rfl ?_; exact At.of (J490 false j) ⟨rfl, rfl, rfl, rfl, trivial⟩

noncomputable def Q47.l0b (a0 : List Q3) (a1_0 : Int) (a1_1 : Bs) (a1_2 x855 : Int) : Option ((Int) ⊕ ((Unit) ⊕ (Int))) :=
 if x855 < (a0.length : Int) then
 if (0 : Int) ≤ x855 ∧ x855 < (a0.length : Int) then
 if (decide (a1_0 = (gt a0 x855).from_) && (bseq a1_1 ((gt a0 x855).action) && (decide (a1_2 = (gt a0 x855).to) && true))) = true then
 upL (some x855)
 else
 nx (IntKind.i64.wrap (x855 + 1))
 else none
 else
 dn (.inl ())
noncomputable def Q47.l0 (a0 : List Q3) (a1_0 : Int) (a1_1 : Bs) (a1_2 x855 : Int) : Option ((Unit) ⊕ (Int)) := iter (fun t_ : Int => Q47.l0b a0 a1_0 a1_1 a1_2 t_) x855
noncomputable def Q47.f (a0 : List Q3) (a1_0 : Int) (a1_1 : Bs) (a1_2 : Int) : Option Int :=
 jn (Q47.l0 a0 a1_0 a1_1 a1_2 0) (fun (_ : Unit) =>
 some (-1))
theorem Q47.callee : Callee Tryz.prog 144 := ⟨_, Tryz.func144, by kernel_rfl, by kernel_rfl⟩
theorem Q47.spec (R : Res) (Fr : List HProp) (A0 : Option Addr) (n0 : Nat) (c0 : Nat) (a0 : List Q3) (a1_0 : Int) (a1_1 : Bs) (a1_2 : Int) (hr0 : RdS Q3.fl.rep R.heap A0 a0) (hn0 : a0.length = n0) (hc0 : n0 ≤ c0) {r : Int} (j : Q47.f a0 a1_0 a1_1 a1_2 = some r) :
 Spec Tryz.prog 144 [.slice A0 n0 c0, .agg #[.int .i64 a1_0, .string ⟨(a1_1).toArray⟩, .int .i64 a1_2]] R (Fr) (fun v l' => v = .int .i64 r ∧ Fr = l') := by
 subst hn0; refine Spec.of Tryz.func144 rfl rfl ?_; unfold Q47.f at j; have j := brun j; refine At.seq (At.region ?_); refine At.box rfl rfl (cs := [.int .i64 a1_0, .string ⟨(a1_1).toArray⟩, .int .i64 a1_2]) rfl rfl (fun b253 => ?_); refine At.run 1 rfl (At.nil (At.thn (At.seq (At.seq (At.region (At.run 3 rfl (At.nil ?_))))))); refine At.thn ?_; refine At.block ?_; obtain ⟨G1056, hl1057, hr1058, j⟩ := bjoin j; obtain ⟨o1059, hlo1060, ho1061⟩ := bsome j; clear j; unfold Q47.l0 at hlo1060; obtain ⟨m1062, hit1064⟩ := Q25.1 hlo1060; clear hlo1060; refine At.loopJ (X := Int) (Y := Unit) (e0 := 0) (fun x855 => [(0, .slice A0 a0.length c0), (3, .pointer (some ⟨b253, 0, none⟩)), (7, .int .i64 (a0.length : Int)), (8, .int .i64 x855)]) (fun x855 => pt b253 (.cells [.int .i64 a1_0, .string ⟨(a1_1).toArray⟩, .int .i64 a1_2].toArray 148) :: Fr) (fun m_ => fun x855 => iterN (fun t_ : Int => Q47.l0b a0 a1_0 a1_1 a1_2 t_) m_ x855 = some o1059) m1062 0 hit1064 (fun _ => []) (fun _ => pt b253 (.cells [.int .i64 a1_0, .string ⟨(a1_1).toArray⟩, .int .i64 a1_2].toArray 148) :: Fr) (fun _ => G1056 (.inl ()) = some r) (fun a w e hs => ⟨e.sub ⟨rfl, rfl, rfl, rfl, trivial⟩, (by exact hs)⟩) ?_ (fun J1066 => ?_)
 ·rintro _ j; have j := (hl1057 _).symm.trans j
  ·refine At.ibx ?_; refine At.thn (At.seq (At.region (At.run 1 rfl (At.nil (At.thn (At.ret (At.drop .z ?_))))))); cases bret j; exact At.res (.inl rfl) rfl rfl ⟨rfl, rfl⟩
 ·clear hit1064 m1062; rintro m1062 x855 hit1064; obtain ⟨m1063, f_, hlt1065, hf_, j⟩ := bit hit1064; clear hit1064; have j : (Q47.l0b a0 a1_0 a1_1 a1_2 x855).bind _ = some o1059 := j; unfold Q47.l0b at j
  ·refine At.seq (At.region (At.run 1 rfl (At.nil (At.thn (At.seq ?_))))); rcases bite j with ⟨h1067, j⟩ | ⟨h1067, j⟩
   ··refine At.condT rfl (decide_eq_true h1067) ?_
     refine At.skip (At.thn (At.seq ?_)); refine At.block ?_; refine At.seq (At.region (At.run 2 rfl (At.nil (At.thn (At.seq ?_))))); refine At.quiet (by kernel_rfl) ?_; refine At.Quiet.y (Y.load rfl rfl .z rfl rfl rfl) rfl rfl rfl ?_; refine At.Quiet.run 2 rfl ?_; obtain ⟨h1068, j⟩ := bnone j; refine At.Quiet.y (Y.ixRd hr0 rfl rfl rfl rfl rfl rfl rfl h1068.1 h1068.2) rfl rfl rfl ?_; refine At.Quiet.y (Y.ldFl hr0 rfl (q := 0) rfl rfl h1068.1 h1068.2 rfl rfl rfl) rfl rfl rfl ?_; refine At.Quiet.y (Y.eqSt (xs := [.int .i64 a1_0, .string ⟨(a1_1).toArray⟩, .int .i64 a1_2]) (ys := [.int .i64 ((gt a0 x855).from_), .string ⟨((gt a0 x855).action).toArray⟩, .int .i64 ((gt a0 x855).to)]) rfl rfl rfl rfl (by kernel_rfl) (by kernel_rfl) (by kernel_rfl) rfl) rfl rfl rfl ?_; refine At.Quiet.nil (At.thn ?_); rcases bite j with ⟨h1069, j⟩ | ⟨h1069, j⟩
     ··refine At.condT rfl h1069 ?_
       refine At.seq (At.region (At.run 2 rfl (At.nil (At.thn (At.ret ?_))))); refine At.ibr ?_; refine At.thr ?_; have j := bupL hr1058 ho1061 j; refine At.thr ?_; refine At.ibr ?_; refine At.thr (At.drop .z ?_); cases bret j; exact At.res (.inl rfl) rfl rfl ⟨rfl, rfl⟩
     ··refine At.condF rfl (bn h1069) ?_
       refine At.skip ?_; refine At.ibn ?_; refine At.thn (At.region (At.run 2 rfl (At.nil ?_))); have j := bnx hf_ j; exact fun a w e hs => ⟨m1063, (IntKind.i64.wrap (x855 + 1)), hlt1065, j, e.sub ⟨rfl, rfl, rfl, rfl, trivial⟩, hs⟩
   ··refine At.condF rfl (decide_eq_false h1067) ?_
     refine At.exit ?_; refine At.the ?_; refine At.the ?_; exact fun a w e hs => J1066 () (bdn j ho1061) a w (e.sub trivial) hs

noncomputable def Q56.f (a0 : List Q3) (a1_0 : Int) (a1_1 : Bs) (a1_2 : Int) : Option Bool :=
 (Q47.f a0 a1_0 a1_1 a1_2).bind fun t254 =>
 some (decide (0 ≤ t254))
theorem Q56.callee : Callee Tryz.prog 99 := ⟨_, Tryz.func99, by kernel_rfl, by kernel_rfl⟩
theorem Q56.spec (R : Res) (Fr : List HProp) (A0 : Option Addr) (n0 : Nat) (c0 : Nat) (a0 : List Q3) (a1_0 : Int) (a1_1 : Bs) (a1_2 : Int) (hr0 : RdS Q3.fl.rep R.heap A0 a0) (hn0 : a0.length = n0) (hc0 : n0 ≤ c0) {r : Bool} (j : Q56.f a0 a1_0 a1_1 a1_2 = some r) :
 Spec Tryz.prog 99 [.slice A0 n0 c0, .agg #[.int .i64 a1_0, .string ⟨(a1_1).toArray⟩, .int .i64 a1_2]] R (Fr) (fun v l' => v = .bool r ∧ Fr = l') := by
 subst hn0; refine Spec.of Tryz.func99 rfl rfl ?_; unfold Q56.f at j; have j := brun j; refine At.seq (At.region ?_); refine At.box rfl rfl (cs := [.int .i64 a1_0, .string ⟨(a1_1).toArray⟩, .int .i64 a1_2]) rfl rfl (fun b253 => ?_); refine At.run 1 rfl (At.nil (At.thn (At.seq (At.region (At.run 1 rfl (At.y (Y.load rfl rfl .z rfl rfl rfl) rfl rfl rfl ?_)))))); obtain ⟨t254, hc255, j⟩ := bbind j; refine At.call rfl Q47.callee rfl rfl rfl (Q47.spec _ _ A0 a0.length c0 a0 a1_0 a1_1 a1_2 hr0 rfl hc0 hc255) ?_; rintro _ _ ⟨rfl, rfl⟩; refine At.run 2 rfl (At.nil (At.thn (At.ret (At.drop .z ?_)))); cases bret j; exact At.res (.inl rfl) rfl rfl ⟨rfl, rfl⟩

end Go.Bw
namespace Go.Bw
open Go Go.RowKit

noncomputable def anyOrder {α β : Type} (xs : List α) (F : List α → Option β) : Option β :=
 open Classical in if h : ∃ r, ∀ ys, ys.Perm xs → F ys = some r then some h.choose else none
theorem Q195 {α β : Type} {xs : List α} {F : List α → Option β} {r : β} : anyOrder xs F = some r ↔ ∀ ys, ys.Perm xs → F ys = some r := by
 unfold anyOrder
 constructor
 ·intro h
  split at h
  ·rename_i hx
   have := Option.some.inj h
   intro ys hy
   rw [← this]
   exact hx.choose_spec ys hy
  ·cases h
 ·intro h
  have hx : ∃ r, ∀ ys, ys.Perm xs → F ys = some r := ⟨r, h⟩
  rw [dif_pos hx]
  have h1 := hx.choose_spec xs (List.Perm.refl _)
  rw [h xs (List.Perm.refl _)] at h1
  exact h1.symm
theorem banyOrder {α β ω : Type} {xs : List α} {F : List α → Option β} {G : β → Option ω} {r : ω} (h : (anyOrder xs F).bind G = some r) : ∀ ys, ys.Perm xs → (F ys).bind G = some r := by
 obtain ⟨t, h1, h2⟩ := bsome h
 intro ys hy
 rw [Q195.1 h1 ys hy]
 exact h2
def foldO {σ α : Type} (step : σ → α → Option σ) : σ → List α → Option σ
 | s, [] => some s
 | s, x :: xs => (step s x).bind fun t => foldO step t xs
theorem Q159 {σ α : Type} {step : σ → α → Option σ} : ∀ {xs ys : List α} {s : σ}, foldO step s (xs ++ ys) = (foldO step s xs).bind fun t => foldO step t ys
 | [], _, _ => rfl
 | x :: xs, ys, s => by
  show (step s x).bind _ = ((step s x).bind _).bind _
  cases step s x with
  | none => rfl
  | some t => exact Q159 (xs := xs)
theorem foldO_go {σ α ω : Type} {step : σ → α → Option σ} {kvs : List α} {done rest : List α} {x : α} {s0 s : σ} {G : σ → Option ω} {r : ω} (h : ∀ ys, ys.Perm kvs → (foldO step s0 ys).bind G = some r) (hs : foldO step s0 done = some s) (hp : (done ++ x :: rest).Perm kvs) :
 ∃ t, step s x = some t ∧ foldO step s0 (done ++ [x]) = some t := by
 have := h _ hp
 rw [Q159, hs] at this
 obtain ⟨u, h1, _⟩ := bsome this
 obtain ⟨t, h2, _⟩ := bsome (show (step s x).bind (fun t => foldO step t rest) = some u from h1)
 refine ⟨t, h2, ?_⟩
 rw [Q159, hs]
 show (step s x).bind (fun t => foldO step t []) = _
 rw [h2]
 rfl
theorem foldO_end {σ α ω : Type} {step : σ → α → Option σ} {kvs : List α} {done : List α} {s0 s : σ} {G : σ → Option ω} {r : ω} (h : ∀ ys, ys.Perm kvs → (foldO step s0 ys).bind G = some r) (hs : foldO step s0 done = some s) (hp : done.Perm kvs) : G s = some r := by
 have := h _ hp
 rw [hs] at this
 exact this
noncomputable def ordered {σ τ α β : Type} (kvs : List α) (step : σ → α → Option σ) (s0 : σ) (out : σ → τ) (f : τ → Option β) : Option β := anyOrder kvs fun ys => (foldO step s0 ys).bind fun s => f (out s)
theorem bordered {σ τ α β ω : Type} {kvs : List α} {step : σ → α → Option σ} {s0 : σ} {out : σ → τ} {f : τ → Option β} {G0 : β → Option ω} {r : ω} (h : (ordered kvs step s0 out f).bind G0 = some r) :
 ∃ G : τ → Option ω, (∀ y, G y = (f y).bind G0) ∧ ∀ ys, ys.Perm kvs → (foldO step s0 ys).bind (fun s => G (out s)) = some r :=
 ⟨fun y => (f y).bind G0, fun _ => rfl, fun ys hy => by
  have := banyOrder h ys hy
  rwa [Option.bind_assoc] at this⟩
theorem rng_lt {α : Type} {kvs done tl : List α} {z : α} {m : Nat} (hp : (done ++ z :: tl).Perm kvs) (hm : m + done.length = kvs.length) : tl.length < m ∧ tl.length + (done ++ [z]).length = kvs.length := by
 have := hp.length_eq
 simp at this ⊢
 omega
theorem Q233 {α : Type} (xs : List α) : (List.range xs.length).filterMap (fun i => xs[i]?) = xs := by
 induction xs with
 | nil => rfl
 | cons x xs ih =>
  rw [List.length_cons, List.range_succ_eq_map, List.filterMap_cons, List.filterMap_map]
  simp only [List.getElem?_cons_zero, Function.comp_def, List.getElem?_cons_succ]
  rw [ih]
theorem Q234 {α : Type} {xs done : List α} {is : List Nat} (hd : done.map some = is.map fun i => xs[i]?) : done = is.filterMap fun i => xs[i]? := by
 induction is generalizing done with
 | nil => cases done <;> simp at hd ⊢
 | cons i is ih =>
  cases done with
  | nil => simp at hd
  | cons x done =>
   simp only [List.map_cons, List.cons.injEq] at hd
   rw [List.filterMap_cons, ← hd.1, ← ih hd.2]
theorem idx_perm {α : Type} {xs done : List α} {is : List Nat} (hn : is.Nodup) (hl : ∀ i ∈ is, i < xs.length) (hd : done.map some = is.map fun i => xs[i]?) : ∃ rest, (done ++ rest).Perm xs := by
 refine ⟨((List.range xs.length).filter fun i => !is.contains i).filterMap fun i => xs[i]?, ?_⟩
 rw [Q234 hd, ← List.filterMap_append]
 have hp : (is ++ (List.range xs.length).filter fun i => !is.contains i).Perm (List.range xs.length) := by
  refine (List.perm_ext_iff_of_nodup ?_ List.nodup_range).2 fun a => ?_
  ·rw [List.nodup_append]
   refine ⟨hn, List.nodup_range.filter _, fun a ha b hb hab => ?_⟩
   subst hab
   simp at hb
   exact hb.2 ha
  ·simp only [List.mem_append, List.mem_filter, List.mem_range]
   constructor
   ·rintro (h | h)
    ·exact hl a h
    ·exact h.1
   ·intro h
    by_cases ha : a ∈ is
    ·exact .inl ha
    ·exact .inr ⟨h, by simpa using ha⟩
 have := hp.filterMap fun i => xs[i]?
 rwa [Q233] at this
theorem idx_full {α : Type} {xs done : List α} {is : List Nat} (hn : is.Nodup) (hl : ∀ i ∈ is, i < xs.length) (hf : ∀ i < xs.length, i ∈ is) (hd : done.map some = is.map fun i => xs[i]?) : done.Perm xs := by
 rw [Q234 hd]
 have hp : is.Perm (List.range xs.length) := (List.perm_ext_iff_of_nodup hn List.nodup_range).2 fun a => by
  rw [List.mem_range]
  exact ⟨hl a, hf a⟩
 have := hp.filterMap fun i => xs[i]?
 rwa [Q233] at this
section
variable {κ ν : Type}
def rngo (kv : κ → Value) (vv : ν → Value) (b r : Nat) (kvs done : List (κ × ν)) : HProp := fun h =>
 ∃ (es : List MapEntry) (clock since stp : Nat) (seen : Array Nat) (is : List Nat), h b = some (.map es.toArray clock) ∧ h r = some (.mapIter (some b) since seen stp) ∧ b ≠ r ∧
  es.map (fun e => (e.key, e.val)) = kvs.map (fun p => (kv p.1, vv p.2)) ∧ es.Pairwise (fun x y => x.born < y.born) ∧ (∀ e ∈ es, e.born < clock) ∧ since = clock ∧ stp = clock ∧
  is.Nodup ∧ (∀ i ∈ is, i < kvs.length) ∧ (done.map some = is.map fun i => kvs[i]?) ∧ seen.toList.map some = is.map fun i => es[i]?.map (·.born)
end
section
variable {P : Program} [Tys P] {os : List Oper} {Q : Exit → Act → World → Prop} {rest : List Oper} {n : Nat} {ds : List Deferred} {R : Res} {env : List (Nat × Value)} {l l' : List HProp}
variable {d ty t : Nat} {pos : String} {af : Array Edge} {g : Option (Nat × Bool)} {κ ν : Type} [DecidableEq κ] {kv : κ → Value} {vv : ν → Value} {kvs done : List (κ × ν)} {b r kt et : Nat} {K : Act → World → Prop}
theorem At.rangeMap {x : Operand} {ii : TI} (f : Frt l (mapo kv vv b kvs) l') (hg : grd os env g = some true) (hi : ti P t = some ii) (hk : ii.k = .map kt et) (hx : ev env x = some (.map (some b))) (hd : Nat.blt d n = true)
 (h : ∀ r, At n ds R ((d, .pointer (some ⟨r, 0, none⟩)) :: env) (rngo kv vv b r kvs [] :: l') (wpList P os.toArray Q rest)) :
 At n ds R env l (wpList P os.toArray Q (⟨some d, .range t x, ty, pos, af, g⟩ :: rest)) := Q98 hg rfl hd fun a w e hs => by
 have hs1 := hs.frt f
 obtain ⟨es, clock, hb, _⟩ := Q131 hs1
 have hgo : (getObj b).run P w = .ok (.map es.toArray clock) w := MapKept.run_getObj_map hb
 have h1 := hs1.alloc (.mapIter (some b) clock #[] clock)
 refine ⟨_, w.alloc (.mapIter (some b) clock #[] clock), rngo kv vv b w.heap.size kvs [] :: l', ?_, ?_, h w.heap.size⟩
 ·simp [execOp, Instr.range, e.ev hx, run_underlying ((Q15 hi).map hk), hgo, Result.andThen]
 ·obtain ⟨ok, h0, ⟨k1, k2, p1, ⟨k3, k4, m1, st, d2, s3, s4⟩, d1, s1, s2⟩, dR, ss⟩ := h1
  have d13 : Disj k1 k3 := d1.sub (Sub.refl _) s3
  refine ⟨ok, h0, ⟨uni k1 k3, k4, ?_, st, Disj.uni_l (d1.sub (Sub.refl _) s4) d2, Q104 s1 (s3.trans s2), s4.trans s2⟩, dR, ss⟩
  obtain ⟨es', clock', hb', hm, hp, hc⟩ := m1
  have hne : b ≠ w.heap.size := fun e => by subst e; exact d13 _ _ _ p1 hb'
  have hbb : w.heap[b]? = some (.map es.toArray clock) := hb
  have heq : Obj.map es'.toArray clock' = .map es.toArray clock := by
   have h5 : (w.alloc (.mapIter (some b) clock #[] clock)).heap[b]? = some (.map es'.toArray clock') := ss _ _ (s2 _ _ (s3 _ _ hb'))
   rw [Below.heap_alloc _ _ _ (Array.getElem?_eq_some_iff.1 hb).1, hbb] at h5
   exact (Option.some.inj h5).symm
  cases heq
  exact ⟨es, clock, clock, clock, #[], [], Q101 d13 _ _ hb', Q100 k1 k3 _ _ p1, hne, hm, hp, hc, rfl, rfl, List.nodup_nil, by simp, by simp, by simp⟩
theorem sat_rng {w : World} (hs : sat R (rngo kv vv b r kvs done :: l) w) : ∃ (es : List MapEntry) (clock : Nat) (seen : Array Nat) (is : List Nat), w.heap[b]? = some (.map es.toArray clock) ∧ w.heap[r]? = some (.mapIter (some b) clock seen clock) ∧ b ≠ r ∧
 es.map (fun e => (e.key, e.val)) = kvs.map (fun p => (kv p.1, vv p.2)) ∧ es.Pairwise (fun x y => x.born < y.born) ∧ (∀ e ∈ es, e.born < clock) ∧
 is.Nodup ∧ (∀ i ∈ is, i < kvs.length) ∧ (done.map some = is.map fun i => kvs[i]?) ∧ seen.toList.map some = is.map fun i => es[i]?.map (·.born) := by
 obtain ⟨h1, ⟨es, clock, since, stp, seen, is, a1, a2, a3, a4, a5, a6, rfl, rfl, a7⟩, s⟩ := hs.head
 exact ⟨es, _, seen, is, s _ _ a1, s _ _ a2, a3, a4, a5, a6, a7⟩
theorem At.nextMap {x : Operand} (hg : grd os env g = some true) (hx : ev env x = some (.pointer (some ⟨r, 0, none⟩))) (f : Frt l (rngo kv vv b r kvs done) l') (hd : Nat.blt d n = true)
 (hF : done.Perm kvs → At n ds R ((d, .tuple #[.bool false]) :: env) (rngo kv vv b r kvs done :: l') (wpList P os.toArray Q rest))
 (hT : ∀ (z : κ × ν) tl, (done ++ z :: tl).Perm kvs → At n ds R ((d, .tuple #[.bool true, kv z.1, vv z.2]) :: env) (rngo kv vv b r kvs (done ++ [z]) :: l') (wpList P os.toArray Q rest)) :
 At n ds R env l (wpList P os.toArray Q (⟨some d, .next x false, ty, pos, af, g⟩ :: rest)) := Q98 hg rfl hd fun a w e hs => by
 have hs1 := hs.frt f
 obtain ⟨es, clock, seen, is, hb, hr, hne, hm, hbn, hcl, hn, hl, hdn, hsn⟩ := sat_rng hs1
 have hlen : es.length = kvs.length := Q136 hm
 have hinj : ∀ i j, i < es.length → j < es.length → es[i]?.map (·.born) = es[j]?.map (·.born) → i = j := fun i j hi hj he => by
  rw [List.getElem?_eq_getElem hi, List.getElem?_eq_getElem hj] at he
  simp at he
  have hp := List.pairwise_iff_getElem.1 hbn
  rcases Nat.lt_trichotomy i j with h3 | h3 | h3
  ·have := hp i j hi hj h3; omega
  ·exact h3
  ·have := hp j i hj hi h3; omega
 have hseen : ∀ i, i < es.length → (seen.contains (es[i]?.map (·.born)).get! = true ↔ i ∈ is) := fun i hi => by
  rw [List.getElem?_eq_getElem hi]
  simp only [Option.map_some, Option.get!_some]
  rw [Array.contains_iff_mem, ← Array.mem_toList_iff]
  constructor
  ·intro h
   have : some es[i].born ∈ seen.toList.map some := List.mem_map_of_mem h
   rw [hsn] at this
   obtain ⟨j, hj, hje⟩ := List.mem_map.1 this
   have := hinj j i (by rw [hlen]; exact hl j hj) hi (by rw [hje, List.getElem?_eq_getElem hi]; rfl)
   subst this; exact hj
  ·intro h
   have : es[i]?.map (·.born) ∈ seen.toList.map some := by rw [hsn]; exact List.mem_map_of_mem (f := fun i => es[i]?.map (·.born)) h
   obtain ⟨q, hq, hqe⟩ := List.mem_map.1 this
   rw [List.getElem?_eq_getElem hi] at hqe
   simp at hqe
   rw [← hqe]; exact hq
 rcases run_next_at (P := P) w ty r b clock clock seen es.toArray clock hr hb (fun x hx => hcl x (by simpa using hx)) (Nat.le_refl _) with ⟨h0, hrun⟩ | ⟨e1, he, w1, hal, hrun⟩
 ·refine ⟨.tuple #[.bool false], w, rngo kv vv b r kvs done :: l', ?_, hs1, hF ?_⟩
  ·simp only [execOp, e.ev hx, Sem.run_bind, hrun, Result.andThen, Sem.run_pure]
  ·refine idx_full hn hl (fun i hi => ?_) hdn
   have hi' : i < es.length := by omega
   have := all_seen es.toArray seen h0 es[i] (by simp)
   refine (hseen i hi').1 ?_
   rw [List.getElem?_eq_getElem hi']
   simpa using this
 ·obtain ⟨hem, hes⟩ := mem_left he
  have hem' : e1 ∈ es := by simpa using hem
  obtain ⟨i, hi, hie⟩ := List.getElem_of_mem hem'
  have hi' : i < kvs.length := by omega
  have hnot : i ∉ is := fun h => by
   have := (hseen i hi).2 h
   rw [List.getElem?_eq_getElem hi, hie] at this
   simp at this hes
   exact hes this
  have hkv : (e1.key, e1.val) = (kv kvs[i].1, vv kvs[i].2) := by
   have := congrArg (fun l => l[i]?) hm
   simp only [List.getElem?_map, List.getElem?_eq_getElem hi, List.getElem?_eq_getElem hi', Option.map_some, hie] at this
   exact Option.some.inj this
  obtain ⟨hk1, hk2⟩ := Prod.mk.inj hkv
  have hn' : (is ++ [i]).Nodup := by
   rw [List.nodup_append]
   exact ⟨hn, by simp, fun a ha c hc hac => by simp at hc; subst hc hac; exact hnot ha⟩
  have hl' : ∀ j ∈ is ++ [i], j < kvs.length := fun j hj => by
   rcases List.mem_append.1 hj with h | h
   ·exact hl j h
   ·simp at h; subst h; exact hi'
  have hdn' : (done ++ [kvs[i]]).map some = (is ++ [i]).map fun j => kvs[j]? := by
   rw [List.map_append, List.map_append, hdn]
   simp [hi']
  obtain ⟨tl, htl⟩ := idx_perm hn' hl' hdn'
  refine ⟨.tuple #[.bool true, kv kvs[i].1, vv kvs[i].2], ChangeMaps.setBlock w1 r (.mapIter (some b) clock (seen.push e1.born) clock), rngo kv vv b r kvs (done ++ [kvs[i]]) :: l', ?_, ?_, hT kvs[i] tl (by simpa using htl)⟩
  ·simp only [execOp, e.ev hx, Sem.run_bind, hrun, Result.andThen, Sem.run_pure, hk1, hk2]
  ·have hs2 : sat R (rngo kv vv b r kvs done :: l') w1 := by rcases hal with rfl | rfl <;> first | exact hs1 | exact hs1.drew
   have hb1 : w1.heap[b]? = some (.map es.toArray clock) := by rcases hal with rfl | rfl <;> exact hb
   have hr1 : w1.heap[r]? = some (.mapIter (some b) clock seen clock) := by rcases hal with rfl | rfl <;> exact hr
   obtain ⟨h1, ⟨es2, c2, s2, q2, seen2, is2, a1, a2, _⟩, s, kk⟩ := hs2.upd
   have hset := MapKept.heap_set (o' := .mapIter (some b) clock (seen.push e1.born) clock) hr1
   refine kk _ (fun x => if x = r then some (.mapIter (some b) clock (seen.push e1.born) clock) else h1 x) _ ⟨es, clock, clock, clock, seen.push e1.born, is ++ [i], ?_, if_pos rfl, hne, hm, hbn, hcl, rfl, rfl, hn', hl', hdn', ?_⟩ rfl rfl rfl (Nat.le_refl _) (fun x o hx hnn => ?_) (fun x o hx => ?_) (fun x o hx => ?_)
   ·show (if b = r then _ else h1 b) = _
    rw [if_neg hne]
    have := s _ _ a1
    simp only [wh] at this
    rw [hb1] at this
    rw [a1]; exact this.symm
   ·rw [Array.toList_push, List.map_append, hsn, List.map_append]
    simp [hi, hie]
   ·have hxr : x ≠ r := fun h => by subst h; rw [a2] at hnn; cases hnn
    show (w1.heap.setIfInBounds r _)[x]? = _
    rw [hset.2 x hxr]; exact hx
   ·by_cases hxr : x = r
    ·subst hxr
     have hx : (if x = x then some (Obj.mapIter (some b) clock (seen.push e1.born) clock) else h1 x) = some o := hx
     rw [if_pos rfl] at hx
     cases hx
     exact hset.1
    ·have hx : (if x = r then some (Obj.mapIter (some b) clock (seen.push e1.born) clock) else h1 x) = some o := hx
     rw [if_neg hxr] at hx
     show (w1.heap.setIfInBounds r _)[x]? = _
     rw [hset.2 x hxr]
     exact s x o hx
   ·by_cases hxr : x = r
    ·subst hxr; exact .inl ⟨_, a2⟩
    ·have hx : (if x = r then some (Obj.mapIter (some b) clock (seen.push e1.born) clock) else h1 x) = some o := hx
     rw [if_neg hxr] at hx; exact .inl ⟨o, hx⟩
theorem Y.entry {x : Operand} {z : κ × ν} {dd : Option Nat} (f : Frt l (rngo kv vv b r kvs (done ++ [z])) l') (hx : ev env x = some (.pointer (some ⟨r, 0, none⟩))) : Y P n ds R env l ⟨dd, .entry x, ty, pos, af, g⟩ (.tuple #[kv z.1, vv z.2]) := fun a w e hs => by
 have hs1 := hs.frt f
 obtain ⟨es, clock, seen, is, hb, hr, hne, hm, hbn, hcl, hn, hl, hdn, hsn⟩ := sat_rng hs1
 have hlen : es.length = kvs.length := Q136 hm
 rcases List.eq_nil_or_concat is with rfl | ⟨is0, i, rfl⟩
 ·simp at hdn
 ·rw [List.concat_eq_append] at *
  simp only [List.map_append, List.map_cons, List.map_nil] at hdn hsn
  have hi : i < kvs.length := hl i (by simp)
  have hie : i < es.length := by omega
  have hz : some z = kvs[i]? := by
   have := List.append_inj_right' hdn rfl
   simpa using this
  rw [List.getElem?_eq_getElem hi] at hz
  have hz' := Option.some.inj hz
  have hkv : (es[i].key, es[i].val) = (kv z.1, vv z.2) := by
   have := congrArg (fun l => l[i]?) hm
   simp only [List.getElem?_map, List.getElem?_eq_getElem hie, List.getElem?_eq_getElem hi, Option.map_some] at this
   rw [hz']
   exact Option.some.inj this
  obtain ⟨hk1, hk2⟩ := Prod.mk.inj hkv
  have hsz : seen.toList ≠ [] := fun h => by rw [h] at hsn; simp at hsn
  have hseen : ∃ s0 : Array Nat, seen = s0.push es[i].born := by
   refine ⟨⟨seen.toList.dropLast⟩, ?_⟩
   apply Array.ext'
   rw [Array.toList_push]
   show seen.toList = seen.toList.dropLast ++ [es[i].born]
   have h1 := List.dropLast_concat_getLast hsz
   have h2 : seen.toList.getLast hsz = es[i].born := by
    have h3 : (seen.toList.map some).getLast? = some (some es[i].born) := by rw [hsn]; simp [hie]
    rw [List.getLast?_map, List.getLast?_eq_some_getLast hsz] at h3
    simpa using h3
   rw [← h2]; exact h1.symm
  obtain ⟨s0, hs0⟩ := hseen
  rw [hs0] at hr
  have := run_entry_at (P := P) w r b clock s0 es.toArray clock es[i] hr hb (by simp) (by
   show (es.map (·.born)).Nodup
   exact List.pairwise_map.2 (hbn.imp fun h => Nat.ne_of_lt h))
  simp only [execOp, e.ev hx, this, Sem.run_bind, Result.andThen, Sem.run_pure, hk1, hk2]
theorem At.rngEnd (f : Frt l (rngo kv vv b r kvs done) l') (h : At n ds R env (mapo kv vv b kvs :: l') K) : At n ds R env l K := fun a w e hs => h a w e ((hs.frt f).imp fun h ⟨es, clock, _, _, _, _, a1, _, _, a4, a5, a6, _⟩ => ⟨es, clock, a1, a4, a5, a6⟩)
end
end Go.Bw
