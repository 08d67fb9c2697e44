/- Walks: what the functions of the program compute, told by plain functions, and that the calls come to them. Conditions: none. -/
import Derived.Test.YtbkooifhcekpmaaGreatBwTyx
import Derived.Test.YtbkooifhcekpmaaGreatProg
import Derived.Test.YtbkooifhcekpmaaGreatBwLay
import Derived.Test.YtbkooifhcekpmaaGreatBwSortK
import Derived.Deep.QuietTactic
import Derived.Test.YtbkooifhcekpmaaGreatBwRi3A
import Derived.Test.YtbkooifhcekpmaaGreatBwMap
import Derived.Test.YtbkooifhcekpmaaGreatBwGrow
import Derived.Test.YtbkooifhcekpmaaGreatBwIter
import Derived.Test.YtbkooifhcekpmaaGreatBwStr
import Derived.Test.YtbkooifhcekpmaaGreatBwAgg
set_option linter.unusedVariables false
set_option linter.unusedSimpArgs false
set_option linter.unusedSectionVars false
namespace Go.Bw
open Go Go.RowKit Go.Proofs
structure api_Token where
  Kind : Int
  At : Int
  Text : Bs
  Number : Int
deriving Inhabited, DecidableEq
def api_Token.fl : Fl api_Token := ⟨4, fun x => [.int .i64 x.Kind, .int .i64 x.At, .string ⟨(x.Text).toArray⟩, .int .i64 x.Number], fun _ => rfl, fun x u hu => by simp at hu; rcases hu with rfl | rfl | rfl | rfl <;> rfl, by decide⟩
structure api_Fault where
  At : Int
  Err : Int
deriving Inhabited, DecidableEq
def api_Fault.fl : Fl api_Fault := ⟨2, fun x => [.int .i64 x.At, .int .i64 x.Err], fun _ => rfl, fun x u hu => by simp at hu; rcases hu with rfl | rfl <;> rfl, by decide⟩
structure lts_step where
  from_ : Int
  action : Bs
  to : Int
deriving Inhabited, DecidableEq
def lts_step.fl : Fl lts_step := ⟨3, fun x => [.int .i64 x.from_, .string ⟨(x.action).toArray⟩, .int .i64 x.to], fun _ => rfl, fun x u hu => by simp at hu; rcases hu with rfl | rfl | rfl <;> rfl, by decide⟩
theorem bytealg_IndexByteString.ext : ExtOk Go.Proofs.Tryz.prog 88 Extern.BytealgIndexByte.indexByte := ⟨_, Go.Proofs.Tryz.func88, by kernel_rfl, by kernel_rfl, by kernel_rfl, by kernel_rfl⟩

noncomputable def stringslite_IndexByte.f (a0 : Bs) (a1 : Int) : Option Int :=
 some (Lib.indexByte a0 a1.toNat.toUInt8)
theorem stringslite_IndexByte.callee : Callee Go.Proofs.Tryz.prog 75 := ⟨_, Go.Proofs.Tryz.func75, by kernel_rfl, by kernel_rfl⟩
set_option maxRecDepth 100000 in
set_option maxHeartbeats 2000000 in
theorem stringslite_IndexByte.spec (R : Res) (Fr : List HProp)  (a0 : Bs) (a1 : Int)  {r : Int} (hrun : stringslite_IndexByte.f a0 a1 = some r) :
    Spec Go.Proofs.Tryz.prog 75 [.string ⟨(a0).toArray⟩, .int .u8 a1] R (Fr) (fun v l' => v = .int .i64 r ∧ Fr = l') := by
  refine Spec.of Go.Proofs.Tryz.func75 rfl rfl ?_; unfold stringslite_IndexByte.f at hrun; have hrun := brun hrun; refine At.seq ?_; refine At.region ?_; refine At.run 1 rfl ?_; refine At.nil ?_; refine At.thn ?_; refine At.seq ?_; refine At.region ?_; refine At.run 2 rfl ?_; refine At.y (Y.ext bytealg_IndexByteString.ext rfl rfl (fun w => run_ixbyte _ _ w)) rfl rfl rfl ?_; refine At.run 1 rfl ?_; refine At.nil ?_; refine At.thn ?_; refine At.ret ?_; obtain rfl := (bret hrun).symm; exact At.res (.inl rfl) rfl rfl ⟨rfl, rfl⟩

noncomputable def strings_IndexByte.f (a0 : Bs) (a1 : Int) : Option Int :=
 (stringslite_IndexByte.f a0 a1).bind fun t252 =>
 some t252
theorem strings_IndexByte.callee : Callee Go.Proofs.Tryz.prog 58 := ⟨_, Go.Proofs.Tryz.func58, by kernel_rfl, by kernel_rfl⟩
set_option maxRecDepth 100000 in
set_option maxHeartbeats 2000000 in
theorem strings_IndexByte.spec (R : Res) (Fr : List HProp)  (a0 : Bs) (a1 : Int)  {r : Int} (hrun : strings_IndexByte.f a0 a1 = some r) :
    Spec Go.Proofs.Tryz.prog 58 [.string ⟨(a0).toArray⟩, .int .u8 a1] R (Fr) (fun v l' => v = .int .i64 r ∧ Fr = l') := by
  refine Spec.of Go.Proofs.Tryz.func58 rfl rfl ?_; unfold strings_IndexByte.f at hrun; have hrun := brun hrun; refine At.seq ?_; refine At.region ?_; refine At.run 1 rfl ?_; refine At.nil ?_; refine At.thn ?_; refine At.seq ?_; refine At.region ?_; refine At.run 2 rfl ?_; obtain ⟨t252, hc253, hrun⟩ := bbind hrun; refine At.call rfl stringslite_IndexByte.callee rfl rfl rfl (stringslite_IndexByte.spec _ _  a0 a1  hc253) ?_; rintro _ _ ⟨rfl, rfl⟩; refine At.run 1 rfl ?_; refine At.nil ?_; refine At.thn ?_; refine At.ret ?_; obtain rfl := (bret hrun).symm; exact At.res (.inl rfl) rfl rfl ⟨rfl, rfl⟩

noncomputable def scan_kind.f (a0 : Int) : Option Int :=
 if a0 = 10 then
 some 1
 else
 jn (
 if 97 ≤ a0 then
 some (.inl (decide (a0 ≤ 122)))
 else
 some (.inl false)) (fun (x453 : Bool) =>
 if x453 = true then
 some 2
 else
 jn (
 if 65 ≤ a0 then
 some (.inl (decide (a0 ≤ 90)))
 else
 some (.inl false)) (fun (x659 : Bool) =>
 if x659 = true then
 some 3
 else
 jn (
 if 48 ≤ a0 then
 some (.inl (decide (a0 ≤ 57)))
 else
 some (.inl false)) (fun (x865 : Bool) =>
 if x865 = true then
 some 4
 else
 jn (
 if 32 < a0 then
 some (.inl (decide (a0 < 127)))
 else
 some (.inl false)) (fun (x1071 : Bool) =>
 jn (
 if x1071 = true then
 some (.inl (!(decide (a0 = 95))))
 else
 some (.inl false)) (fun (x1276 : Bool) =>
 if x1276 = true then
 some 5
 else
 some 0)))))
theorem scan_kind.callee : Callee Go.Proofs.Tryz.prog 76 := ⟨_, Go.Proofs.Tryz.func76, by kernel_rfl, by kernel_rfl⟩
set_option maxRecDepth 100000 in
set_option maxHeartbeats 2000000 in
theorem scan_kind.spec (R : Res) (Fr : List HProp)  (a0 : Int)  {r : Int} (hrun : scan_kind.f a0 = some r) :
    Spec Go.Proofs.Tryz.prog 76 [.int .u8 a0] R (Fr) (fun v l' => v = .int .i64 r ∧ Fr = l') := by
  refine Spec.of Go.Proofs.Tryz.func76 rfl rfl ?_; unfold scan_kind.f at hrun; have hrun := brun hrun; refine At.seq ?_; refine At.region ?_; refine At.run 1 rfl ?_; refine At.nil ?_; refine At.thn ?_; refine At.seq ?_; refine At.block ?_; refine At.seq ?_; refine At.region ?_; refine At.run 3 rfl ?_; refine At.nil ?_; refine At.thn ?_; rcases bite hrun with ⟨h252, hrun⟩ | ⟨h252, hrun⟩
  · · refine At.condT rfl (decide_eq_true h252) ?_
      refine At.seq ?_; refine At.region ?_; refine At.run 1 rfl ?_; refine At.nil ?_; refine At.thn ?_; refine At.ret ?_; refine At.ibr ?_; refine At.thr ?_; obtain rfl := (bret hrun).symm; exact At.res (.inl rfl) rfl rfl ⟨rfl, rfl⟩
  · · refine At.condF rfl (decide_eq_false h252) ?_
      refine At.seq ?_; refine At.region ?_; refine At.run 3 rfl ?_; obtain ⟨G454, hl455, hr456, hrun⟩ := bjoin hrun; refine At.joinO 3 (X := Bool) (fun x453 => [(0, .int .u8 a0), (12, .bool x453)]) (fun x453 => Fr) (fun x453 => G454 (.inl x453) = some r) ?_ (fun J457 => ?_)
      · rintro x453 hrun; have hrun := (hl455 _).symm.trans hrun
        · refine At.run 1 rfl ?_; refine At.nil ?_; refine At.thn ?_; rcases bite hrun with ⟨h458, hrun⟩ | ⟨h458, hrun⟩
          · · refine At.condT rfl h458 ?_
              refine At.seq ?_; refine At.region ?_; refine At.run 1 rfl ?_; refine At.nil ?_; refine At.thn ?_; refine At.ret ?_; refine At.ibr ?_; refine At.thr ?_; obtain rfl := (bret hrun).symm; exact At.res (.inl rfl) rfl rfl ⟨rfl, rfl⟩
          · · refine At.condF rfl (bn h458) ?_
              refine At.seq ?_; refine At.region ?_; refine At.run 3 rfl ?_; obtain ⟨G660, hl661, hr662, hrun⟩ := bjoin hrun; refine At.joinO 3 (X := Bool) (fun x659 => [(0, .int .u8 a0), (19, .bool x659)]) (fun x659 => Fr) (fun x659 => G660 (.inl x659) = some r) ?_ (fun J663 => ?_)
              · rintro x659 hrun; have hrun := (hl661 _).symm.trans hrun
                · refine At.run 1 rfl ?_; refine At.nil ?_; refine At.thn ?_; rcases bite hrun with ⟨h664, hrun⟩ | ⟨h664, hrun⟩
                  · · refine At.condT rfl h664 ?_
                      refine At.seq ?_; refine At.region ?_; refine At.run 1 rfl ?_; refine At.nil ?_; refine At.thn ?_; refine At.ret ?_; refine At.ibr ?_; refine At.thr ?_; obtain rfl := (bret hrun).symm; exact At.res (.inl rfl) rfl rfl ⟨rfl, rfl⟩
                  · · refine At.condF rfl (bn h664) ?_
                      refine At.seq ?_; refine At.region ?_; refine At.run 3 rfl ?_; obtain ⟨G866, hl867, hr868, hrun⟩ := bjoin hrun; refine At.joinO 3 (X := Bool) (fun x865 => [(0, .int .u8 a0), (26, .bool x865)]) (fun x865 => Fr) (fun x865 => G866 (.inl x865) = some r) ?_ (fun J869 => ?_)
                      · rintro x865 hrun; have hrun := (hl867 _).symm.trans hrun
                        · refine At.run 1 rfl ?_; refine At.nil ?_; refine At.thn ?_; rcases bite hrun with ⟨h870, hrun⟩ | ⟨h870, hrun⟩
                          · · refine At.condT rfl h870 ?_
                              refine At.seq ?_; refine At.region ?_; refine At.run 1 rfl ?_; refine At.nil ?_; refine At.thn ?_; refine At.ret ?_; refine At.ibr ?_; refine At.thr ?_; obtain rfl := (bret hrun).symm; exact At.res (.inl rfl) rfl rfl ⟨rfl, rfl⟩
                          · · refine At.condF rfl (bn h870) ?_
                              refine At.seq ?_; refine At.region ?_; refine At.run 3 rfl ?_; obtain ⟨G1072, hl1073, hr1074, hrun⟩ := bjoin hrun; refine At.joinO 3 (X := Bool) (fun x1071 => [(0, .int .u8 a0), (33, .bool x1071)]) (fun x1071 => Fr) (fun x1071 => G1072 (.inl x1071) = some r) ?_ (fun J1075 => ?_)
                              · rintro x1071 hrun; have hrun := (hl1073 _).symm.trans hrun
                                · refine At.run 1 rfl ?_; obtain ⟨G1277, hl1278, hr1279, hrun⟩ := bjoin hrun; refine At.joinO 3 (X := Bool) (fun x1276 => [(37, .bool x1276)]) (fun x1276 => Fr) (fun x1276 => G1277 (.inl x1276) = some r) ?_ (fun J1280 => ?_)
                                  · rintro x1276 hrun; have hrun := (hl1278 _).symm.trans hrun
                                    · refine At.run 1 rfl ?_; refine At.nil ?_; refine At.thn ?_; rcases bite hrun with ⟨h1281, hrun⟩ | ⟨h1281, hrun⟩
                                      · · refine At.condT rfl h1281 ?_
                                          refine At.seq ?_; refine At.region ?_; refine At.run 1 rfl ?_; refine At.nil ?_; refine At.thn ?_; refine At.ret ?_; refine At.ibr ?_; refine At.thr ?_; obtain rfl := (bret hrun).symm; exact At.res (.inl rfl) rfl rfl ⟨rfl, rfl⟩
                                      · · refine At.condF rfl (bn h1281) ?_
                                          refine At.skip ?_; refine At.ibn ?_; refine At.thn ?_; refine At.seq ?_; refine At.region ?_; refine At.run 1 rfl ?_; refine At.nil ?_; refine At.thn ?_; refine At.ret ?_; obtain rfl := (bret hrun).symm; exact At.res (.inl rfl) rfl rfl ⟨rfl, rfl⟩
                                  · · rcases bite hrun with ⟨h1282, hrun⟩ | ⟨h1282, hrun⟩
                                      · · refine At.know (t := 34) rfl h1282 ?_
                                          refine At.run 3 rfl ?_; exact At.of (J1280 (!(decide (a0 = 95))) hrun) ⟨rfl, trivial⟩
                                      · · refine At.know (t := 34) rfl (bn h1282) ?_
                                          refine At.run 3 rfl ?_; exact At.of (J1280 false hrun) ⟨rfl, trivial⟩
                              · · rcases bite hrun with ⟨h1283, hrun⟩ | ⟨h1283, hrun⟩
                                  · · refine At.know (t := 30) rfl (decide_eq_true h1283) ?_
                                      refine At.run 3 rfl ?_; exact At.of (J1075 (decide (a0 < 127)) hrun) ⟨rfl, rfl, trivial⟩
                                  · · refine At.know (t := 30) rfl (decide_eq_false h1283) ?_
                                      refine At.run 3 rfl ?_; exact At.of (J1075 false hrun) ⟨rfl, rfl, trivial⟩
                      · · rcases bite hrun with ⟨h1284, hrun⟩ | ⟨h1284, hrun⟩
                          · · refine At.know (t := 23) rfl (decide_eq_true h1284) ?_
                              refine At.run 3 rfl ?_; exact At.of (J869 (decide (a0 ≤ 57)) hrun) ⟨rfl, rfl, trivial⟩
                          · · refine At.know (t := 23) rfl (decide_eq_false h1284) ?_
                              refine At.run 3 rfl ?_; exact At.of (J869 false hrun) ⟨rfl, rfl, trivial⟩
              · · rcases bite hrun with ⟨h1285, hrun⟩ | ⟨h1285, hrun⟩
                  · · refine At.know (t := 16) rfl (decide_eq_true h1285) ?_
                      refine At.run 3 rfl ?_; exact At.of (J663 (decide (a0 ≤ 90)) hrun) ⟨rfl, rfl, trivial⟩
                  · · refine At.know (t := 16) rfl (decide_eq_false h1285) ?_
                      refine At.run 3 rfl ?_; exact At.of (J663 false hrun) ⟨rfl, rfl, trivial⟩
      · · rcases bite hrun with ⟨h1286, hrun⟩ | ⟨h1286, hrun⟩
          · · refine At.know (t := 9) rfl (decide_eq_true h1286) ?_
              refine At.run 3 rfl ?_; exact At.of (J457 (decide (a0 ≤ 122)) hrun) ⟨rfl, rfl, trivial⟩
          · · refine At.know (t := 9) rfl (decide_eq_false h1286) ?_
              refine At.run 3 rfl ?_; exact At.of (J457 false hrun) ⟨rfl, rfl, trivial⟩

noncomputable def scan_long.l0b (a1 : Bs) (x854 : Int) : Option ((Int) ⊕ ((Int) ⊕ (Int))) :=
 jn (
 if x854 < (a1.length : Int) then
 if (0 : Int) ≤ x854 ∧ x854 < (a1.length : Int) then
 some (.inl (decide (48 ≤ bat a1 x854)))
 else none
 else
 some (.inl false)) (fun (x1267 : Bool) =>
 jn (
 if x1267 = true then
 if (0 : Int) ≤ x854 ∧ x854 < (a1.length : Int) then
 some (.inl (decide (bat a1 x854 ≤ 57)))
 else none
 else
 some (.inl false)) (fun (x1472 : Bool) =>
 if x1472 = true then
 nx (IntKind.i64.wrap (x854 + 1))
 else
 dn (.inl x854)))
noncomputable def scan_long.l0 (a1 : Bs) (x854 : Int) : Option ((Int) ⊕ (Int)) := iter (fun t_ : Int => scan_long.l0b a1 t_) x854
noncomputable def scan_long.l1b (a1 : Bs) (x2085 : Int) : Option ((Int) ⊕ ((Int) ⊕ (Int))) :=
 jn (
 if x2085 < (a1.length : Int) then
 if (0 : Int) ≤ x2085 ∧ x2085 < (a1.length : Int) then
 jn (
 if bat a1 x2085 = 95 then
 some (.inl (true, true))
 else
 jn (
 if 97 ≤ bat a1 x2085 then
 some (.inl (true, decide (bat a1 x2085 ≤ 122)))
 else
 some (.inl (false, false))) (fun (s_ : Bool × Bool) =>
 some (.inl (false, s_.2)))) (fun (s_ : Bool × Bool) =>
 jn (
 if s_.2 = true then
 some (.inl (true, true))
 else
 jn (
 if 65 ≤ bat a1 x2085 then
 some (.inl (true, decide (bat a1 x2085 ≤ 90)))
 else
 some (.inl (false, false))) (fun (s_ : Bool × Bool) =>
 some (.inl (false, s_.2)))) (fun (s_ : Bool × Bool) =>
 jn (
 if s_.2 = true then
 some (.inl (true, true))
 else
 jn (
 if 48 ≤ bat a1 x2085 then
 some (.inl (true, decide (bat a1 x2085 ≤ 57)))
 else
 some (.inl (false, false))) (fun (s_ : Bool × Bool) =>
 some (.inl (false, s_.2)))) (fun (s_ : Bool × Bool) =>
 some (.inl s_.2))))
 else none
 else
 some (.inl false)) (fun (x2498 : Bool) =>
 if x2498 = true then
 nx (IntKind.i64.wrap (x2085 + 1))
 else
 dn (.inl x2085))
noncomputable def scan_long.l1 (a1 : Bs) (x2085 : Int) : Option ((Int) ⊕ (Int)) := iter (fun t_ : Int => scan_long.l1b a1 t_) x2085
noncomputable def scan_long.l2b (a1 : Bs) (x4350 : Int) : Option ((Int) ⊕ ((Int) ⊕ (Int))) :=
 jn (
 if x4350 < (a1.length : Int) then
 if (0 : Int) ≤ x4350 ∧ x4350 < (a1.length : Int) then
 jn (
 if bat a1 x4350 = 95 then
 some (.inl (true, true))
 else
 jn (
 if 97 ≤ bat a1 x4350 then
 some (.inl (true, decide (bat a1 x4350 ≤ 122)))
 else
 some (.inl (false, false))) (fun (s_ : Bool × Bool) =>
 some (.inl (false, s_.2)))) (fun (s_ : Bool × Bool) =>
 jn (
 if s_.2 = true then
 some (.inl (true, true))
 else
 jn (
 if 65 ≤ bat a1 x4350 then
 some (.inl (true, decide (bat a1 x4350 ≤ 90)))
 else
 some (.inl (false, false))) (fun (s_ : Bool × Bool) =>
 some (.inl (false, s_.2)))) (fun (s_ : Bool × Bool) =>
 jn (
 if s_.2 = true then
 some (.inl (true, true))
 else
 jn (
 if 48 ≤ bat a1 x4350 then
 some (.inl (true, decide (bat a1 x4350 ≤ 57)))
 else
 some (.inl (false, false))) (fun (s_ : Bool × Bool) =>
 some (.inl (false, s_.2)))) (fun (s_ : Bool × Bool) =>
 some (.inl s_.2))))
 else none
 else
 some (.inl false)) (fun (x4763 : Bool) =>
 if x4763 = true then
 nx (IntKind.i64.wrap (x4350 + 1))
 else
 dn (.inl x4350))
noncomputable def scan_long.l2 (a1 : Bs) (x4350 : Int) : Option ((Int) ⊕ (Int)) := iter (fun t_ : Int => scan_long.l2b a1 t_) x4350
noncomputable def scan_long.f (a0 : Int) (a1 : Bs) : Option Int :=
 if a0 = 4 then
 jn (scan_long.l0 a1 1) (fun (x1055 : Int) =>
 some x1055)
 else
 if a0 = 2 then
 jn (scan_long.l1 a1 1) (fun (x2286 : Int) =>
 some x2286)
 else
 if a0 = 3 then
 jn (scan_long.l2 a1 1) (fun (x4551 : Int) =>
 some x4551)
 else
 some 1
theorem scan_long.callee : Callee Go.Proofs.Tryz.prog 77 := ⟨_, Go.Proofs.Tryz.func77, by kernel_rfl, by kernel_rfl⟩
set_option maxRecDepth 100000 in
set_option maxHeartbeats 2000000 in
theorem scan_long.spec (R : Res) (Fr : List HProp)  (a0 : Int) (a1 : Bs)  {r : Int} (hrun : scan_long.f a0 a1 = some r) :
    Spec Go.Proofs.Tryz.prog 77 [.int .i64 a0, .string ⟨(a1).toArray⟩] R (Fr) (fun v l' => v = .int .i64 r ∧ Fr = l') := by
  refine Spec.of Go.Proofs.Tryz.func77 rfl rfl ?_; unfold scan_long.f at hrun; have hrun := brun hrun; refine At.seq ?_; refine At.region ?_; refine At.run 1 rfl ?_; refine At.nil ?_; refine At.thn ?_; refine At.seq ?_; refine At.region ?_; refine At.run 1 rfl ?_; refine At.nil ?_; refine At.thn ?_; refine At.seq ?_; refine At.seq ?_; refine At.region ?_; refine At.run 1 rfl ?_; refine At.nil ?_; refine At.thn ?_; refine At.block ?_; refine At.seq ?_; refine At.region ?_; refine At.run 2 rfl ?_; refine At.nil ?_; refine At.thn ?_; rcases bite hrun with ⟨h252, hrun⟩ | ⟨h252, hrun⟩
  · · refine At.condT rfl (decide_eq_true h252) ?_
      refine At.block ?_; obtain ⟨G1056, hl1057, hr1058, hrun⟩ := bjoin hrun; obtain ⟨o1059, hlo1060, ho1061⟩ := bsome hrun; clear hrun; unfold scan_long.l0 at hlo1060; obtain ⟨m1062, hit1064⟩ := iter_some.1 hlo1060; clear hlo1060; refine At.loopJ (X := Int) (Y := Int) (e0 := 1) (fun x854 => [(1, .string ⟨(a1).toArray⟩), (5, .int .i64 x854)]) (fun x854 => Fr) (fun m_ => fun x854 => iterN (fun t_ : Int => scan_long.l0b a1 t_) m_ x854 = some o1059) m1062 1 hit1064 (fun x1055 => [(5, .int .i64 x1055)]) (fun x1055 => Fr) (fun x1055 => G1056 (.inl x1055) = some r) (fun a w e hs => ⟨e.sub ⟨rfl, rfl, trivial⟩, (by exact hs)⟩) ?_ (fun J1066 => ?_)
      · rintro x1055 hrun; have hrun := (hl1057 _).symm.trans hrun
        · refine At.ibx ?_; refine At.ibn ?_; refine At.thn ?_; refine At.seq ?_; refine At.region ?_; refine At.run 2 rfl ?_; refine At.nil ?_; refine At.thn ?_; refine At.ret ?_; obtain rfl := (bret hrun).symm; exact At.res (.inl rfl) rfl rfl ⟨rfl, rfl⟩
      · clear hit1064 m1062; rintro m1062 x854 hit1064; obtain ⟨m1063, f_, hlt1065, hf_, hrun⟩ := bit hit1064; clear hit1064; have hrun : (scan_long.l0b a1 x854).bind _ = some o1059 := hrun; unfold scan_long.l0b at hrun
        · refine At.seq ?_; refine At.seq ?_; refine At.region ?_; refine At.run 5 rfl ?_; obtain ⟨G1268, hl1269, hr1270, hrun⟩ := bjoin hrun; refine At.joinO 5 (X := Bool) (fun x1267 => [(1, .string ⟨(a1).toArray⟩), (5, .int .i64 x854), (18, .bool x1267)]) (fun x1267 => Fr) (fun x1267 => G1268 (.inl x1267) = some o1059) ?_ (fun J1271 => ?_)
          · rintro x1267 hrun; have hrun := (hl1269 _).symm.trans hrun
            · refine At.run 1 rfl ?_; obtain ⟨G1473, hl1474, hr1475, hrun⟩ := bjoin hrun; refine At.joinO 5 (X := Bool) (fun x1472 => [(1, .string ⟨(a1).toArray⟩), (5, .int .i64 x854), (24, .bool x1472)]) (fun x1472 => Fr) (fun x1472 => G1473 (.inl x1472) = some o1059) ?_ (fun J1476 => ?_)
              · rintro x1472 hrun; have hrun := (hl1474 _).symm.trans hrun
                · refine At.nil ?_; refine At.thn ?_; rcases bite hrun with ⟨h1477, hrun⟩ | ⟨h1477, hrun⟩
                  · · refine At.condT rfl h1477 ?_
                      refine At.skip ?_; refine At.thn ?_; refine At.block ?_; refine At.region ?_; refine At.run 3 rfl ?_; refine At.nil ?_; refine At.ibn ?_; have hrun := bnx hf_ hrun; exact fun a w e hs => ⟨m1063, (IntKind.i64.wrap (x854 + 1)), hlt1065, hrun, e.sub ⟨rfl, rfl, trivial⟩, hs⟩
                  · · refine At.condF rfl (bn h1477) ?_
                      refine At.exit ?_; refine At.the ?_; refine At.the ?_; exact fun a w e hs => J1066 x854 (bdn hrun ho1061) a w (e.sub ⟨rfl, trivial⟩) hs
              · · rcases bite hrun with ⟨h1478, hrun⟩ | ⟨h1478, hrun⟩
                  · · refine At.know (t := 19) rfl h1478 ?_
                      refine At.run 2 rfl ?_; obtain ⟨h1479, hrun⟩ := bnone hrun; refine At.y (Y.ixStr rfl rfl rfl rfl h1479.1 h1479.2) rfl rfl rfl ?_; refine At.run 2 rfl ?_; exact At.of (J1476 (decide (bat a1 x854 ≤ 57)) hrun) ⟨rfl, rfl, rfl, trivial⟩
                  · · refine At.know (t := 19) rfl (bn h1478) ?_
                      refine At.run 5 rfl ?_; exact At.of (J1476 false hrun) ⟨rfl, rfl, rfl, trivial⟩
          · · rcases bite hrun with ⟨h1480, hrun⟩ | ⟨h1480, hrun⟩
              · · refine At.know (t := 13) rfl (decide_eq_true h1480) ?_
                  refine At.run 2 rfl ?_; obtain ⟨h1481, hrun⟩ := bnone hrun; refine At.y (Y.ixStr rfl rfl rfl rfl h1481.1 h1481.2) rfl rfl rfl ?_; refine At.run 2 rfl ?_; exact At.of (J1271 (decide (48 ≤ bat a1 x854)) hrun) ⟨rfl, rfl, rfl, trivial⟩
              · · refine At.know (t := 13) rfl (decide_eq_false h1480) ?_
                  refine At.run 5 rfl ?_; exact At.of (J1271 false hrun) ⟨rfl, rfl, rfl, trivial⟩
  · · refine At.condF rfl (decide_eq_false h252) ?_
      refine At.seq ?_; refine At.seq ?_; refine At.region ?_; refine At.run 2 rfl ?_; refine At.nil ?_; refine At.thn ?_; rcases bite hrun with ⟨h1482, hrun⟩ | ⟨h1482, hrun⟩
      · · refine At.condT rfl (decide_eq_true h1482) ?_
          refine At.skip ?_; refine At.thn ?_; refine At.condT rfl (decide_eq_true h1482) ?_; refine At.block ?_; obtain ⟨G2287, hl2288, hr2289, hrun⟩ := bjoin hrun; obtain ⟨o2290, hlo2291, ho2292⟩ := bsome hrun; clear hrun; unfold scan_long.l1 at hlo2291; obtain ⟨m2293, hit2295⟩ := iter_some.1 hlo2291; clear hlo2291; refine At.loopJ (X := Int) (Y := Int) (e0 := 3) (fun x2085 => [(1, .string ⟨(a1).toArray⟩), (5, .int .i64 x2085)]) (fun x2085 => Fr) (fun m_ => fun x2085 => iterN (fun t_ : Int => scan_long.l1b a1 t_) m_ x2085 = some o2290) m2293 1 hit2295 (fun x2286 => [(5, .int .i64 x2286)]) (fun x2286 => Fr) (fun x2286 => G2287 (.inl x2286) = some r) (fun a w e hs => ⟨e.sub ⟨rfl, rfl, trivial⟩, (by exact hs)⟩) ?_ (fun J2297 => ?_)
          · rintro x2286 hrun; have hrun := (hl2288 _).symm.trans hrun
            · refine At.ibx ?_; refine At.ibn ?_; refine At.thn ?_; refine At.seq ?_; refine At.region ?_; refine At.run 2 rfl ?_; refine At.nil ?_; refine At.thn ?_; refine At.ret ?_; obtain rfl := (bret hrun).symm; exact At.res (.inl rfl) rfl rfl ⟨rfl, rfl⟩
          · clear hit2295 m2293; rintro m2293 x2085 hit2295; obtain ⟨m2294, f_, hlt2296, hf_, hrun⟩ := bit hit2295; clear hit2295; have hrun : (scan_long.l1b a1 x2085).bind _ = some o2290 := hrun; unfold scan_long.l1b at hrun
            · refine At.seq ?_; refine At.seq ?_; refine At.region ?_; refine At.run 5 rfl ?_; obtain ⟨G2499, hl2500, hr2501, hrun⟩ := bjoin hrun; refine At.joinO 41 (X := Bool) (fun x2498 => [(1, .string ⟨(a1).toArray⟩), (5, .int .i64 x2085), (75, .bool x2498)]) (fun x2498 => Fr) (fun x2498 => G2499 (.inl x2498) = some o2290) ?_ (fun J2502 => ?_)
              · rintro x2498 hrun; have hrun := (hl2500 _).symm.trans hrun
                · refine At.nil ?_; refine At.thn ?_; rcases bite hrun with ⟨h2503, hrun⟩ | ⟨h2503, hrun⟩
                  · · refine At.condT rfl h2503 ?_
                      refine At.skip ?_; refine At.thn ?_; refine At.block ?_; refine At.region ?_; refine At.run 3 rfl ?_; refine At.nil ?_; refine At.ibn ?_; have hrun := bnx hf_ hrun; exact fun a w e hs => ⟨m2294, (IntKind.i64.wrap (x2085 + 1)), hlt2296, hrun, e.sub ⟨rfl, rfl, trivial⟩, hs⟩
                  · · refine At.condF rfl (bn h2503) ?_
                      refine At.exit ?_; refine At.the ?_; refine At.the ?_; exact fun a w e hs => J2297 x2085 (bdn hrun ho2292) a w (e.sub ⟨rfl, trivial⟩) hs
              · · rcases bite hrun with ⟨h2504, hrun⟩ | ⟨h2504, hrun⟩
                  · · refine At.know (t := 34) rfl (decide_eq_true h2504) ?_
                      refine At.run 2 rfl ?_; obtain ⟨h2505, hrun⟩ := bnone hrun; refine At.y (Y.ixStr rfl rfl rfl rfl h2505.1 h2505.2) rfl rfl rfl ?_; refine At.run 2 rfl ?_; obtain ⟨G2708, hl2709, hr2710, hrun⟩ := bjoin hrun; refine At.joinO 11 (X := Bool × Bool) (fun s_ => [(1, .string ⟨(a1).toArray⟩), (5, .int .i64 x2085), (34, .bool true), (35, .string ⟨(a1).toArray⟩), (36, .int .i64 x2085), (37, .int .u8 (bat a1 x2085)), (38, .bool (decide (bat a1 x2085 = 95))), (39, .bool s_.1), (50, .bool s_.2)]) (fun s_ => Fr) (fun s_ => G2708 (.inl (s_.1, s_.2)) = some o2290) ?_ (fun J2711 => ?_)
                      · rintro ⟨x2706, x2707⟩ hrun; have hrun := (hl2709 _).symm.trans hrun
                        · refine At.run 1 rfl ?_; obtain ⟨G2914, hl2915, hr2916, hrun⟩ := bjoin hrun; refine At.joinO 11 (X := Bool × Bool) (fun s_ => [(1, .string ⟨(a1).toArray⟩), (5, .int .i64 x2085), (34, .bool true), (35, .string ⟨(a1).toArray⟩), (36, .int .i64 x2085), (37, .int .u8 (bat a1 x2085)), (38, .bool (decide (bat a1 x2085 = 95))), (39, .bool x2706), (50, .bool x2707), (51, .bool s_.1), (62, .bool s_.2)]) (fun s_ => Fr) (fun s_ => G2914 (.inl (s_.1, s_.2)) = some o2290) ?_ (fun J2917 => ?_)
                          · rintro ⟨x2912, x2913⟩ hrun; have hrun := (hl2915 _).symm.trans hrun
                            · refine At.run 1 rfl ?_; obtain ⟨G3120, hl3121, hr3122, hrun⟩ := bjoin hrun; refine At.joinO 11 (X := Bool × Bool) (fun s_ => [(1, .string ⟨(a1).toArray⟩), (5, .int .i64 x2085), (34, .bool true), (35, .string ⟨(a1).toArray⟩), (36, .int .i64 x2085), (37, .int .u8 (bat a1 x2085)), (38, .bool (decide (bat a1 x2085 = 95))), (39, .bool x2706), (50, .bool x2707), (51, .bool x2912), (62, .bool x2913), (63, .bool s_.1), (74, .bool s_.2)]) (fun s_ => Fr) (fun s_ => G3120 (.inl (s_.1, s_.2)) = some o2290) ?_ (fun J3123 => ?_)
                              · rintro ⟨x3118, x3119⟩ hrun; have hrun := (hl3121 _).symm.trans hrun
                                · refine At.run 1 rfl ?_; exact At.of (J2502 x3119 hrun) ⟨rfl, rfl, rfl, trivial⟩
                              · · rcases bite hrun with ⟨h3124, hrun⟩ | ⟨h3124, hrun⟩
                                  · · refine At.know (t := 63) rfl h3124 ?_
                                      refine At.run 11 rfl ?_; exact At.of (J3123 (true, true) hrun) ⟨rfl, rfl, rfl, rfl, rfl, rfl, rfl, rfl, rfl, rfl, rfl, rfl, rfl, trivial⟩
                                  · · refine At.know (t := 63) rfl (bn h3124) ?_
                                      refine At.run 2 rfl ?_; refine At.y (Y.ixStr rfl rfl rfl rfl h2505.1 h2505.2) rfl rfl rfl ?_; refine At.run 2 rfl ?_; obtain ⟨G3327, hl3328, hr3329, hrun⟩ := bjoin hrun; refine At.joinO 5 (X := Bool × Bool) (fun s_ => [(1, .string ⟨(a1).toArray⟩), (5, .int .i64 x2085), (34, .bool true), (35, .string ⟨(a1).toArray⟩), (36, .int .i64 x2085), (37, .int .u8 (bat a1 x2085)), (38, .bool (decide (bat a1 x2085 = 95))), (39, .bool x2706), (50, .bool x2707), (51, .bool x2912), (62, .bool x2913), (63, .bool false), (64, .string ⟨(a1).toArray⟩), (65, .int .i64 x2085), (66, .int .u8 (bat a1 x2085)), (67, .bool (decide (48 ≤ bat a1 x2085))), (68, .bool s_.1), (73, .bool s_.2)]) (fun s_ => Fr) (fun s_ => G3327 (.inl (s_.1, s_.2)) = some o2290) ?_ (fun J3330 => ?_)
                                      · rintro ⟨x3325, x3326⟩ hrun; have hrun := (hl3328 _).symm.trans hrun
                                        · refine At.run 1 rfl ?_; exact At.of (J3123 (false, x3326) hrun) ⟨rfl, rfl, rfl, rfl, rfl, rfl, rfl, rfl, rfl, rfl, rfl, rfl, rfl, trivial⟩
                                      · · rcases bite hrun with ⟨h3331, hrun⟩ | ⟨h3331, hrun⟩
                                          · · refine At.know (t := 68) rfl (decide_eq_true h3331) ?_
                                              refine At.run 2 rfl ?_; refine At.y (Y.ixStr rfl rfl rfl rfl h2505.1 h2505.2) rfl rfl rfl ?_; refine At.run 2 rfl ?_; exact At.of (J3330 (true, decide (bat a1 x2085 ≤ 57)) hrun) ⟨rfl, rfl, rfl, rfl, rfl, rfl, rfl, rfl, rfl, rfl, rfl, rfl, rfl, rfl, rfl, rfl, rfl, rfl, trivial⟩
                                          · · refine At.know (t := 68) rfl (decide_eq_false h3331) ?_
                                              refine At.run 5 rfl ?_; exact At.of (J3330 (false, false) hrun) ⟨rfl, rfl, rfl, rfl, rfl, rfl, rfl, rfl, rfl, rfl, rfl, rfl, rfl, rfl, rfl, rfl, rfl, rfl, trivial⟩
                          · · rcases bite hrun with ⟨h3332, hrun⟩ | ⟨h3332, hrun⟩
                              · · refine At.know (t := 51) rfl h3332 ?_
                                  refine At.run 11 rfl ?_; exact At.of (J2917 (true, true) hrun) ⟨rfl, rfl, rfl, rfl, rfl, rfl, rfl, rfl, rfl, rfl, rfl, trivial⟩
                              · · refine At.know (t := 51) rfl (bn h3332) ?_
                                  refine At.run 2 rfl ?_; refine At.y (Y.ixStr rfl rfl rfl rfl h2505.1 h2505.2) rfl rfl rfl ?_; refine At.run 2 rfl ?_; obtain ⟨G3535, hl3536, hr3537, hrun⟩ := bjoin hrun; refine At.joinO 5 (X := Bool × Bool) (fun s_ => [(1, .string ⟨(a1).toArray⟩), (5, .int .i64 x2085), (34, .bool true), (35, .string ⟨(a1).toArray⟩), (36, .int .i64 x2085), (37, .int .u8 (bat a1 x2085)), (38, .bool (decide (bat a1 x2085 = 95))), (39, .bool x2706), (50, .bool x2707), (51, .bool false), (52, .string ⟨(a1).toArray⟩), (53, .int .i64 x2085), (54, .int .u8 (bat a1 x2085)), (55, .bool (decide (65 ≤ bat a1 x2085))), (56, .bool s_.1), (61, .bool s_.2)]) (fun s_ => Fr) (fun s_ => G3535 (.inl (s_.1, s_.2)) = some o2290) ?_ (fun J3538 => ?_)
                                  · rintro ⟨x3533, x3534⟩ hrun; have hrun := (hl3536 _).symm.trans hrun
                                    · refine At.run 1 rfl ?_; exact At.of (J2917 (false, x3534) hrun) ⟨rfl, rfl, rfl, rfl, rfl, rfl, rfl, rfl, rfl, rfl, rfl, trivial⟩
                                  · · rcases bite hrun with ⟨h3539, hrun⟩ | ⟨h3539, hrun⟩
                                      · · refine At.know (t := 56) rfl (decide_eq_true h3539) ?_
                                          refine At.run 2 rfl ?_; refine At.y (Y.ixStr rfl rfl rfl rfl h2505.1 h2505.2) rfl rfl rfl ?_; refine At.run 2 rfl ?_; exact At.of (J3538 (true, decide (bat a1 x2085 ≤ 90)) hrun) ⟨rfl, rfl, rfl, rfl, rfl, rfl, rfl, rfl, rfl, rfl, rfl, rfl, rfl, rfl, rfl, rfl, trivial⟩
                                      · · refine At.know (t := 56) rfl (decide_eq_false h3539) ?_
                                          refine At.run 5 rfl ?_; exact At.of (J3538 (false, false) hrun) ⟨rfl, rfl, rfl, rfl, rfl, rfl, rfl, rfl, rfl, rfl, rfl, rfl, rfl, rfl, rfl, rfl, trivial⟩
                      · · rcases bite hrun with ⟨h3540, hrun⟩ | ⟨h3540, hrun⟩
                          · · refine At.know (t := 39) rfl (decide_eq_true h3540) ?_
                              refine At.run 11 rfl ?_; exact At.of (J2711 (true, true) hrun) ⟨rfl, rfl, rfl, rfl, rfl, rfl, rfl, rfl, rfl, trivial⟩
                          · · refine At.know (t := 39) rfl (decide_eq_false h3540) ?_
                              refine At.run 2 rfl ?_; refine At.y (Y.ixStr rfl rfl rfl rfl h2505.1 h2505.2) rfl rfl rfl ?_; refine At.run 2 rfl ?_; obtain ⟨G3743, hl3744, hr3745, hrun⟩ := bjoin hrun; refine At.joinO 5 (X := Bool × Bool) (fun s_ => [(1, .string ⟨(a1).toArray⟩), (5, .int .i64 x2085), (34, .bool true), (35, .string ⟨(a1).toArray⟩), (36, .int .i64 x2085), (37, .int .u8 (bat a1 x2085)), (38, .bool (decide (bat a1 x2085 = 95))), (39, .bool false), (40, .string ⟨(a1).toArray⟩), (41, .int .i64 x2085), (42, .int .u8 (bat a1 x2085)), (43, .bool (decide (97 ≤ bat a1 x2085))), (44, .bool s_.1), (49, .bool s_.2)]) (fun s_ => Fr) (fun s_ => G3743 (.inl (s_.1, s_.2)) = some o2290) ?_ (fun J3746 => ?_)
                              · rintro ⟨x3741, x3742⟩ hrun; have hrun := (hl3744 _).symm.trans hrun
                                · refine At.run 1 rfl ?_; exact At.of (J2711 (false, x3742) hrun) ⟨rfl, rfl, rfl, rfl, rfl, rfl, rfl, rfl, rfl, trivial⟩
                              · · rcases bite hrun with ⟨h3747, hrun⟩ | ⟨h3747, hrun⟩
                                  · · refine At.know (t := 44) rfl (decide_eq_true h3747) ?_
                                      refine At.run 2 rfl ?_; refine At.y (Y.ixStr rfl rfl rfl rfl h2505.1 h2505.2) rfl rfl rfl ?_; refine At.run 2 rfl ?_; exact At.of (J3746 (true, decide (bat a1 x2085 ≤ 122)) hrun) ⟨rfl, rfl, rfl, rfl, rfl, rfl, rfl, rfl, rfl, rfl, rfl, rfl, rfl, rfl, trivial⟩
                                  · · refine At.know (t := 44) rfl (decide_eq_false h3747) ?_
                                      refine At.run 5 rfl ?_; exact At.of (J3746 (false, false) hrun) ⟨rfl, rfl, rfl, rfl, rfl, rfl, rfl, rfl, rfl, rfl, rfl, rfl, rfl, rfl, trivial⟩
                  · · refine At.know (t := 34) rfl (decide_eq_false h2504) ?_
                      refine At.run 41 rfl ?_; exact At.of (J2502 false hrun) ⟨rfl, rfl, rfl, trivial⟩
      · · refine At.condF rfl (decide_eq_false h1482) ?_
          refine At.region ?_; refine At.run 2 rfl ?_; refine At.nil ?_; refine At.thn ?_; rcases bite hrun with ⟨h3748, hrun⟩ | ⟨h3748, hrun⟩
          · · refine At.condT rfl (decide_eq_true h3748) ?_
              refine At.block ?_; obtain ⟨G4552, hl4553, hr4554, hrun⟩ := bjoin hrun; obtain ⟨o4555, hlo4556, ho4557⟩ := bsome hrun; clear hrun; unfold scan_long.l2 at hlo4556; obtain ⟨m4558, hit4560⟩ := iter_some.1 hlo4556; clear hlo4556; refine At.loopJ (X := Int) (Y := Int) (e0 := 3) (fun x4350 => [(1, .string ⟨(a1).toArray⟩), (5, .int .i64 x4350)]) (fun x4350 => Fr) (fun m_ => fun x4350 => iterN (fun t_ : Int => scan_long.l2b a1 t_) m_ x4350 = some o4555) m4558 1 hit4560 (fun x4551 => [(5, .int .i64 x4551)]) (fun x4551 => Fr) (fun x4551 => G4552 (.inl x4551) = some r) (fun a w e hs => ⟨e.sub ⟨rfl, rfl, trivial⟩, (by exact hs)⟩) ?_ (fun J4562 => ?_)
              · rintro x4551 hrun; have hrun := (hl4553 _).symm.trans hrun
                · refine At.ibx ?_; refine At.ibn ?_; refine At.thn ?_; refine At.seq ?_; refine At.region ?_; refine At.run 2 rfl ?_; refine At.nil ?_; refine At.thn ?_; refine At.ret ?_; obtain rfl := (bret hrun).symm; exact At.res (.inl rfl) rfl rfl ⟨rfl, rfl⟩
              · clear hit4560 m4558; rintro m4558 x4350 hit4560; obtain ⟨m4559, f_, hlt4561, hf_, hrun⟩ := bit hit4560; clear hit4560; have hrun : (scan_long.l2b a1 x4350).bind _ = some o4555 := hrun; unfold scan_long.l2b at hrun
                · refine At.seq ?_; refine At.seq ?_; refine At.region ?_; refine At.run 5 rfl ?_; obtain ⟨G4764, hl4765, hr4766, hrun⟩ := bjoin hrun; refine At.joinO 41 (X := Bool) (fun x4763 => [(1, .string ⟨(a1).toArray⟩), (5, .int .i64 x4350), (75, .bool x4763)]) (fun x4763 => Fr) (fun x4763 => G4764 (.inl x4763) = some o4555) ?_ (fun J4767 => ?_)
                  · rintro x4763 hrun; have hrun := (hl4765 _).symm.trans hrun
                    · refine At.nil ?_; refine At.thn ?_; rcases bite hrun with ⟨h4768, hrun⟩ | ⟨h4768, hrun⟩
                      · · refine At.condT rfl h4768 ?_
                          refine At.skip ?_; refine At.thn ?_; refine At.block ?_; refine At.region ?_; refine At.run 3 rfl ?_; refine At.nil ?_; refine At.ibn ?_; have hrun := bnx hf_ hrun; exact fun a w e hs => ⟨m4559, (IntKind.i64.wrap (x4350 + 1)), hlt4561, hrun, e.sub ⟨rfl, rfl, trivial⟩, hs⟩
                      · · refine At.condF rfl (bn h4768) ?_
                          refine At.exit ?_; refine At.the ?_; refine At.the ?_; exact fun a w e hs => J4562 x4350 (bdn hrun ho4557) a w (e.sub ⟨rfl, trivial⟩) hs
                  · · rcases bite hrun with ⟨h4769, hrun⟩ | ⟨h4769, hrun⟩
                      · · refine At.know (t := 34) rfl (decide_eq_true h4769) ?_
                          refine At.run 2 rfl ?_; obtain ⟨h4770, hrun⟩ := bnone hrun; refine At.y (Y.ixStr rfl rfl rfl rfl h4770.1 h4770.2) rfl rfl rfl ?_; refine At.run 2 rfl ?_; obtain ⟨G4973, hl4974, hr4975, hrun⟩ := bjoin hrun; refine At.joinO 11 (X := Bool × Bool) (fun s_ => [(1, .string ⟨(a1).toArray⟩), (5, .int .i64 x4350), (34, .bool true), (35, .string ⟨(a1).toArray⟩), (36, .int .i64 x4350), (37, .int .u8 (bat a1 x4350)), (38, .bool (decide (bat a1 x4350 = 95))), (39, .bool s_.1), (50, .bool s_.2)]) (fun s_ => Fr) (fun s_ => G4973 (.inl (s_.1, s_.2)) = some o4555) ?_ (fun J4976 => ?_)
                          · rintro ⟨x4971, x4972⟩ hrun; have hrun := (hl4974 _).symm.trans hrun
                            · refine At.run 1 rfl ?_; obtain ⟨G5179, hl5180, hr5181, hrun⟩ := bjoin hrun; refine At.joinO 11 (X := Bool × Bool) (fun s_ => [(1, .string ⟨(a1).toArray⟩), (5, .int .i64 x4350), (34, .bool true), (35, .string ⟨(a1).toArray⟩), (36, .int .i64 x4350), (37, .int .u8 (bat a1 x4350)), (38, .bool (decide (bat a1 x4350 = 95))), (39, .bool x4971), (50, .bool x4972), (51, .bool s_.1), (62, .bool s_.2)]) (fun s_ => Fr) (fun s_ => G5179 (.inl (s_.1, s_.2)) = some o4555) ?_ (fun J5182 => ?_)
                              · rintro ⟨x5177, x5178⟩ hrun; have hrun := (hl5180 _).symm.trans hrun
                                · refine At.run 1 rfl ?_; obtain ⟨G5385, hl5386, hr5387, hrun⟩ := bjoin hrun; refine At.joinO 11 (X := Bool × Bool) (fun s_ => [(1, .string ⟨(a1).toArray⟩), (5, .int .i64 x4350), (34, .bool true), (35, .string ⟨(a1).toArray⟩), (36, .int .i64 x4350), (37, .int .u8 (bat a1 x4350)), (38, .bool (decide (bat a1 x4350 = 95))), (39, .bool x4971), (50, .bool x4972), (51, .bool x5177), (62, .bool x5178), (63, .bool s_.1), (74, .bool s_.2)]) (fun s_ => Fr) (fun s_ => G5385 (.inl (s_.1, s_.2)) = some o4555) ?_ (fun J5388 => ?_)
                                  · rintro ⟨x5383, x5384⟩ hrun; have hrun := (hl5386 _).symm.trans hrun
                                    · refine At.run 1 rfl ?_; exact At.of (J4767 x5384 hrun) ⟨rfl, rfl, rfl, trivial⟩
                                  · · rcases bite hrun with ⟨h5389, hrun⟩ | ⟨h5389, hrun⟩
                                      · · refine At.know (t := 63) rfl h5389 ?_
                                          refine At.run 11 rfl ?_; exact At.of (J5388 (true, true) hrun) ⟨rfl, rfl, rfl, rfl, rfl, rfl, rfl, rfl, rfl, rfl, rfl, rfl, rfl, trivial⟩
                                      · · refine At.know (t := 63) rfl (bn h5389) ?_
                                          refine At.run 2 rfl ?_; refine At.y (Y.ixStr rfl rfl rfl rfl h4770.1 h4770.2) rfl rfl rfl ?_; refine At.run 2 rfl ?_; obtain ⟨G5592, hl5593, hr5594, hrun⟩ := bjoin hrun; refine At.joinO 5 (X := Bool × Bool) (fun s_ => [(1, .string ⟨(a1).toArray⟩), (5, .int .i64 x4350), (34, .bool true), (35, .string ⟨(a1).toArray⟩), (36, .int .i64 x4350), (37, .int .u8 (bat a1 x4350)), (38, .bool (decide (bat a1 x4350 = 95))), (39, .bool x4971), (50, .bool x4972), (51, .bool x5177), (62, .bool x5178), (63, .bool false), (64, .string ⟨(a1).toArray⟩), (65, .int .i64 x4350), (66, .int .u8 (bat a1 x4350)), (67, .bool (decide (48 ≤ bat a1 x4350))), (68, .bool s_.1), (73, .bool s_.2)]) (fun s_ => Fr) (fun s_ => G5592 (.inl (s_.1, s_.2)) = some o4555) ?_ (fun J5595 => ?_)
                                          · rintro ⟨x5590, x5591⟩ hrun; have hrun := (hl5593 _).symm.trans hrun
                                            · refine At.run 1 rfl ?_; exact At.of (J5388 (false, x5591) hrun) ⟨rfl, rfl, rfl, rfl, rfl, rfl, rfl, rfl, rfl, rfl, rfl, rfl, rfl, trivial⟩
                                          · · rcases bite hrun with ⟨h5596, hrun⟩ | ⟨h5596, hrun⟩
                                              · · refine At.know (t := 68) rfl (decide_eq_true h5596) ?_
                                                  refine At.run 2 rfl ?_; refine At.y (Y.ixStr rfl rfl rfl rfl h4770.1 h4770.2) rfl rfl rfl ?_; refine At.run 2 rfl ?_; exact At.of (J5595 (true, decide (bat a1 x4350 ≤ 57)) hrun) ⟨rfl, rfl, rfl, rfl, rfl, rfl, rfl, rfl, rfl, rfl, rfl, rfl, rfl, rfl, rfl, rfl, rfl, rfl, trivial⟩
                                              · · refine At.know (t := 68) rfl (decide_eq_false h5596) ?_
                                                  refine At.run 5 rfl ?_; exact At.of (J5595 (false, false) hrun) ⟨rfl, rfl, rfl, rfl, rfl, rfl, rfl, rfl, rfl, rfl, rfl, rfl, rfl, rfl, rfl, rfl, rfl, rfl, trivial⟩
                              · · rcases bite hrun with ⟨h5597, hrun⟩ | ⟨h5597, hrun⟩
                                  · · refine At.know (t := 51) rfl h5597 ?_
                                      refine At.run 11 rfl ?_; exact At.of (J5182 (true, true) hrun) ⟨rfl, rfl, rfl, rfl, rfl, rfl, rfl, rfl, rfl, rfl, rfl, trivial⟩
                                  · · refine At.know (t := 51) rfl (bn h5597) ?_
                                      refine At.run 2 rfl ?_; refine At.y (Y.ixStr rfl rfl rfl rfl h4770.1 h4770.2) rfl rfl rfl ?_; refine At.run 2 rfl ?_; obtain ⟨G5800, hl5801, hr5802, hrun⟩ := bjoin hrun; refine At.joinO 5 (X := Bool × Bool) (fun s_ => [(1, .string ⟨(a1).toArray⟩), (5, .int .i64 x4350), (34, .bool true), (35, .string ⟨(a1).toArray⟩), (36, .int .i64 x4350), (37, .int .u8 (bat a1 x4350)), (38, .bool (decide (bat a1 x4350 = 95))), (39, .bool x4971), (50, .bool x4972), (51, .bool false), (52, .string ⟨(a1).toArray⟩), (53, .int .i64 x4350), (54, .int .u8 (bat a1 x4350)), (55, .bool (decide (65 ≤ bat a1 x4350))), (56, .bool s_.1), (61, .bool s_.2)]) (fun s_ => Fr) (fun s_ => G5800 (.inl (s_.1, s_.2)) = some o4555) ?_ (fun J5803 => ?_)
                                      · rintro ⟨x5798, x5799⟩ hrun; have hrun := (hl5801 _).symm.trans hrun
                                        · refine At.run 1 rfl ?_; exact At.of (J5182 (false, x5799) hrun) ⟨rfl, rfl, rfl, rfl, rfl, rfl, rfl, rfl, rfl, rfl, rfl, trivial⟩
                                      · · rcases bite hrun with ⟨h5804, hrun⟩ | ⟨h5804, hrun⟩
                                          · · refine At.know (t := 56) rfl (decide_eq_true h5804) ?_
                                              refine At.run 2 rfl ?_; refine At.y (Y.ixStr rfl rfl rfl rfl h4770.1 h4770.2) rfl rfl rfl ?_; refine At.run 2 rfl ?_; exact At.of (J5803 (true, decide (bat a1 x4350 ≤ 90)) hrun) ⟨rfl, rfl, rfl, rfl, rfl, rfl, rfl, rfl, rfl, rfl, rfl, rfl, rfl, rfl, rfl, rfl, trivial⟩
                                          · · refine At.know (t := 56) rfl (decide_eq_false h5804) ?_
                                              refine At.run 5 rfl ?_; exact At.of (J5803 (false, false) hrun) ⟨rfl, rfl, rfl, rfl, rfl, rfl, rfl, rfl, rfl, rfl, rfl, rfl, rfl, rfl, rfl, rfl, trivial⟩
                          · · rcases bite hrun with ⟨h5805, hrun⟩ | ⟨h5805, hrun⟩
                              · · refine At.know (t := 39) rfl (decide_eq_true h5805) ?_
                                  refine At.run 11 rfl ?_; exact At.of (J4976 (true, true) hrun) ⟨rfl, rfl, rfl, rfl, rfl, rfl, rfl, rfl, rfl, trivial⟩
                              · · refine At.know (t := 39) rfl (decide_eq_false h5805) ?_
                                  refine At.run 2 rfl ?_; refine At.y (Y.ixStr rfl rfl rfl rfl h4770.1 h4770.2) rfl rfl rfl ?_; refine At.run 2 rfl ?_; obtain ⟨G6008, hl6009, hr6010, hrun⟩ := bjoin hrun; refine At.joinO 5 (X := Bool × Bool) (fun s_ => [(1, .string ⟨(a1).toArray⟩), (5, .int .i64 x4350), (34, .bool true), (35, .string ⟨(a1).toArray⟩), (36, .int .i64 x4350), (37, .int .u8 (bat a1 x4350)), (38, .bool (decide (bat a1 x4350 = 95))), (39, .bool false), (40, .string ⟨(a1).toArray⟩), (41, .int .i64 x4350), (42, .int .u8 (bat a1 x4350)), (43, .bool (decide (97 ≤ bat a1 x4350))), (44, .bool s_.1), (49, .bool s_.2)]) (fun s_ => Fr) (fun s_ => G6008 (.inl (s_.1, s_.2)) = some o4555) ?_ (fun J6011 => ?_)
                                  · rintro ⟨x6006, x6007⟩ hrun; have hrun := (hl6009 _).symm.trans hrun
                                    · refine At.run 1 rfl ?_; exact At.of (J4976 (false, x6007) hrun) ⟨rfl, rfl, rfl, rfl, rfl, rfl, rfl, rfl, rfl, trivial⟩
                                  · · rcases bite hrun with ⟨h6012, hrun⟩ | ⟨h6012, hrun⟩
                                      · · refine At.know (t := 44) rfl (decide_eq_true h6012) ?_
                                          refine At.run 2 rfl ?_; refine At.y (Y.ixStr rfl rfl rfl rfl h4770.1 h4770.2) rfl rfl rfl ?_; refine At.run 2 rfl ?_; exact At.of (J6011 (true, decide (bat a1 x4350 ≤ 122)) hrun) ⟨rfl, rfl, rfl, rfl, rfl, rfl, rfl, rfl, rfl, rfl, rfl, rfl, rfl, rfl, trivial⟩
                                      · · refine At.know (t := 44) rfl (decide_eq_false h6012) ?_
                                          refine At.run 5 rfl ?_; exact At.of (J6011 (false, false) hrun) ⟨rfl, rfl, rfl, rfl, rfl, rfl, rfl, rfl, rfl, rfl, rfl, rfl, rfl, rfl, trivial⟩
                      · · refine At.know (t := 34) rfl (decide_eq_false h4769) ?_
                          refine At.run 41 rfl ?_; exact At.of (J4767 false hrun) ⟨rfl, rfl, rfl, trivial⟩
          · · refine At.condF rfl (decide_eq_false h3748) ?_
              refine At.skip ?_; refine At.ibn ?_; refine At.thn ?_; refine At.seq ?_; refine At.region ?_; refine At.run 2 rfl ?_; refine At.nil ?_; refine At.thn ?_; refine At.ret ?_; obtain rfl := (bret hrun).symm; exact At.res (.inl rfl) rfl rfl ⟨rfl, rfl⟩

noncomputable def scan_value.l0b (a0 : Bs) (x1061 : Int) (x1062 : Int) : Option ((Int × Int) ⊕ ((Int) ⊕ (Bool × Int))) :=
 if x1062 < (a0.length : Int) then
 if (0 : Int) ≤ x1062 ∧ x1062 < (a0.length : Int) then
 nx (IntKind.i64.wrap (IntKind.i64.wrap (10 * x1061) + (IntKind.i64.wrap (IntKind.u8.wrap (bat a0 x1062 - 48)))), IntKind.i64.wrap (x1062 + 1))
 else none
 else
 dn (.inl x1061)
noncomputable def scan_value.l0 (a0 : Bs) (x1061 : Int) (x1062 : Int) : Option ((Int) ⊕ (Bool × Int)) := iter (fun t_ : Int × Int => scan_value.l0b a0 t_.1 t_.2) (x1061, x1062)
noncomputable def scan_value.f (a0 : Bs) : Option (Bool × Int) :=
 jn (
 if 4 < (a0.length : Int) then
 some (.inl true)
 else
 jn (
 if 1 < (a0.length : Int) then
 if (0 : Int) ≤ 0 ∧ 0 < (a0.length : Int) then
 some (.inl (decide (bat a0 0 = 48)))
 else none
 else
 some (.inl false)) (fun (x1478 : Bool) =>
 some (.inl x1478))) (fun (x453 : Bool) =>
 if x453 = true then
 some (false, 0)
 else
 jn (scan_value.l0 a0 0 0) (fun (x1263 : Int) =>
 some (decide (x1263 ≤ 9999), x1263)))
theorem scan_value.callee : Callee Go.Proofs.Tryz.prog 78 := ⟨_, Go.Proofs.Tryz.func78, by kernel_rfl, by kernel_rfl⟩
set_option maxRecDepth 100000 in
set_option maxHeartbeats 2000000 in
theorem scan_value.spec (R : Res) (Fr : List HProp)  (a0 : Bs)  {r : Bool × Int} (hrun : scan_value.f a0 = some r) :
    Spec Go.Proofs.Tryz.prog 78 [.string ⟨(a0).toArray⟩] R (Fr) (fun v l' => v = .tuple #[.int .i64 r.2, .bool r.1] ∧ Fr = l') := by
  refine Spec.of Go.Proofs.Tryz.func78 rfl rfl ?_; unfold scan_value.f at hrun; have hrun := brun hrun; refine At.seq ?_; refine At.region ?_; refine At.run 2 rfl ?_; refine At.nil ?_; refine At.thn ?_; refine At.seq ?_; refine At.seq ?_; refine At.region ?_; refine At.run 4 rfl ?_; obtain ⟨G454, hl455, hr456, hrun⟩ := bjoin hrun; refine At.joinO 9 (X := Bool) (fun x453 => [(0, .string ⟨(a0).toArray⟩), (18, .bool x453)]) (fun x453 => Fr) (fun x453 => G454 (.inl x453) = some r) ?_ (fun J457 => ?_)
  · rintro x453 hrun; have hrun := (hl455 _).symm.trans hrun
    · refine At.nil ?_; refine At.thn ?_; rcases bite hrun with ⟨h458, hrun⟩ | ⟨h458, hrun⟩
      · · refine At.condT rfl h458 ?_
          refine At.seq ?_; refine At.region ?_; refine At.run 2 rfl ?_; refine At.nil ?_; refine At.thn ?_; refine At.ret ?_; refine At.thr ?_; obtain rfl := (bret hrun).symm; exact At.res (.inl rfl) rfl rfl ⟨rfl, rfl⟩
      · · refine At.condF rfl (bn h458) ?_
          refine At.skip ?_; refine At.thn ?_; refine At.seq ?_; refine At.region ?_; refine At.run 1 rfl ?_; refine At.nil ?_; refine At.thn ?_; refine At.seq ?_; refine At.seq ?_; refine At.region ?_; refine At.run 3 rfl ?_; refine At.nil ?_; refine At.thn ?_; refine At.block ?_; obtain ⟨G1264, hl1265, hr1266, hrun⟩ := bjoin hrun; obtain ⟨o1267, hlo1268, ho1269⟩ := bsome hrun; clear hrun; unfold scan_value.l0 at hlo1268; obtain ⟨m1270, hit1272⟩ := iter_some.1 hlo1268; clear hlo1268; refine At.loopJ (X := Int × Int) (Y := Int) (e0 := 0) (fun s_ => [(0, .string ⟨(a0).toArray⟩), (4, .int .i64 s_.1), (20, .int .i64 (a0.length : Int)), (21, .int .i64 s_.2)]) (fun s_ => Fr) (fun m_ => fun s_ => iterN (fun t_ : Int × Int => scan_value.l0b a0 t_.1 t_.2) m_ (s_.1, s_.2) = some o1267) m1270 (0, 0) hit1272 (fun x1263 => [(4, .int .i64 x1263)]) (fun x1263 => Fr) (fun x1263 => G1264 (.inl x1263) = some r) (fun a w e hs => ⟨e.sub ⟨rfl, rfl, rfl, rfl, trivial⟩, (by exact hs)⟩) ?_ (fun J1274 => ?_)
          · rintro x1263 hrun; have hrun := (hl1265 _).symm.trans hrun
            · refine At.ibx ?_; refine At.thn ?_; refine At.seq ?_; refine At.region ?_; refine At.run 5 rfl ?_; refine At.nil ?_; refine At.thn ?_; refine At.ret ?_; obtain rfl := (bret hrun).symm; exact At.res (.inl rfl) rfl rfl ⟨rfl, rfl⟩
          · clear hit1272 m1270; rintro m1270 ⟨x1061, x1062⟩ hit1272; obtain ⟨m1271, f_, hlt1273, hf_, hrun⟩ := bit hit1272; clear hit1272; have hrun : (scan_value.l0b a0 x1061 x1062).bind _ = some o1267 := hrun; unfold scan_value.l0b at hrun
            · refine At.seq ?_; refine At.region ?_; refine At.run 1 rfl ?_; refine At.nil ?_; refine At.thn ?_; refine At.seq ?_; rcases bite hrun with ⟨h1275, hrun⟩ | ⟨h1275, hrun⟩
              · · refine At.condT rfl (decide_eq_true h1275) ?_
                  refine At.skip ?_; refine At.thn ?_; refine At.seq ?_; refine At.block ?_; refine At.seq ?_; refine At.region ?_; refine At.run 2 rfl ?_; refine At.nil ?_; refine At.thn ?_; refine At.region ?_; refine At.run 4 rfl ?_; obtain ⟨h1276, hrun⟩ := bnone hrun; refine At.y (Y.ixStr rfl rfl rfl rfl h1276.1 h1276.2) rfl rfl rfl ?_; refine At.run 4 rfl ?_; refine At.nil ?_; refine At.ibn ?_; refine At.thn ?_; refine At.region ?_; refine At.run 2 rfl ?_; refine At.nil ?_; have hrun := bnx hf_ hrun; exact fun a w e hs => ⟨m1271, (IntKind.i64.wrap (IntKind.i64.wrap (10 * x1061) + (IntKind.i64.wrap (IntKind.u8.wrap (bat a0 x1062 - 48)))), IntKind.i64.wrap (x1062 + 1)), hlt1273, hrun, e.sub ⟨rfl, rfl, rfl, rfl, trivial⟩, hs⟩
              · · refine At.condF rfl (decide_eq_false h1275) ?_
                  refine At.exit ?_; refine At.the ?_; refine At.the ?_; exact fun a w e hs => J1274 x1061 (bdn hrun ho1269) a w (e.sub ⟨rfl, trivial⟩) hs
  · · rcases bite hrun with ⟨h1277, hrun⟩ | ⟨h1277, hrun⟩
      · · refine At.know (t := 9) rfl (decide_eq_true h1277) ?_
          refine At.run 9 rfl ?_; exact At.of (J457 true hrun) ⟨rfl, rfl, trivial⟩
      · · refine At.know (t := 9) rfl (decide_eq_false h1277) ?_
          refine At.run 4 rfl ?_; obtain ⟨G1479, hl1480, hr1481, hrun⟩ := bjoin hrun; refine At.joinO 4 (X := Bool) (fun x1478 => [(0, .string ⟨(a0).toArray⟩), (9, .bool false), (17, .bool x1478)]) (fun x1478 => Fr) (fun x1478 => G1479 (.inl x1478) = some r) ?_ (fun J1482 => ?_)
          · rintro x1478 hrun; have hrun := (hl1480 _).symm.trans hrun
            · refine At.run 1 rfl ?_; exact At.of (J457 x1478 hrun) ⟨rfl, rfl, trivial⟩
          · · rcases bite hrun with ⟨h1483, hrun⟩ | ⟨h1483, hrun⟩
              · · refine At.know (t := 13) rfl (decide_eq_true h1483) ?_
                  refine At.run 1 rfl ?_; obtain ⟨h1484, hrun⟩ := bnone hrun; refine At.y (Y.ixStr rfl rfl rfl rfl h1484.1 h1484.2) rfl rfl rfl ?_; refine At.run 2 rfl ?_; exact At.of (J1482 (decide (bat a0 0 = 48)) hrun) ⟨rfl, rfl, rfl, trivial⟩
              · · refine At.know (t := 13) rfl (decide_eq_false h1483) ?_
                  refine At.run 4 rfl ?_; exact At.of (J1482 false hrun) ⟨rfl, rfl, rfl, trivial⟩

noncomputable def scan_token.f (a0 : Bs) (a1 : Int) : Option (Int × Int × Int × Bs × Int) :=
 if (0 : Int) ≤ a1 ∧ a1 < (a0.length : Int) then
 (scan_kind.f (bat a0 a1)).bind fun t266 =>
 if (0 : Int) ≤ a1 ∧ a1 ≤ (a0.length : Int) then
 (scan_long.f t266 (a0.drop a1.toNat)).bind fun t272 =>
 if (0 : Int) ≤ a1 ∧ a1 ≤ IntKind.i64.wrap (a1 + t272) ∧ IntKind.i64.wrap (a1 + t272) ≤ (a0.length : Int) then
 if t266 = 0 then
 some (3, t266, a1, (bsl a0 a1 (IntKind.i64.wrap (a1 + t272))), 0)
 else
 if t266 = 2 then
 if 8 < ((bsl a0 a1 (IntKind.i64.wrap (a1 + t272))).length : Int) then
 some (5, t266, a1, (bsl a0 a1 (IntKind.i64.wrap (a1 + t272))), 0)
 else
 some (0, t266, a1, (bsl a0 a1 (IntKind.i64.wrap (a1 + t272))), 0)
 else
 if t266 = 3 then
 if 8 < ((bsl a0 a1 (IntKind.i64.wrap (a1 + t272))).length : Int) then
 some (5, t266, a1, (bsl a0 a1 (IntKind.i64.wrap (a1 + t272))), 0)
 else
 some (0, t266, a1, (bsl a0 a1 (IntKind.i64.wrap (a1 + t272))), 0)
 else
 if t266 = 4 then
 (scan_value.f (bsl a0 a1 (IntKind.i64.wrap (a1 + t272)))).bind fun t282 =>
 if t282.1 = true then
 some (0, t266, a1, (bsl a0 a1 (IntKind.i64.wrap (a1 + t272))), t282.2)
 else
 some (4, t266, a1, (bsl a0 a1 (IntKind.i64.wrap (a1 + t272))), 0)
 else
 some (0, t266, a1, (bsl a0 a1 (IntKind.i64.wrap (a1 + t272))), 0)
 else none
 else none
 else none
theorem scan_token.callee : Callee Go.Proofs.Tryz.prog 59 := ⟨_, Go.Proofs.Tryz.func59, by kernel_rfl, by kernel_rfl⟩
set_option maxRecDepth 100000 in
set_option maxHeartbeats 2000000 in
theorem scan_token.spec (R : Res) (Fr : List HProp)  (a0 : Bs) (a1 : Int)  {r : Int × Int × Int × Bs × Int} (hrun : scan_token.f a0 a1 = some r) :
    Spec Go.Proofs.Tryz.prog 59 [.string ⟨(a0).toArray⟩, .int .i64 a1] R (Fr) (fun v l' => v = .tuple #[.agg #[.int .i64 r.2.1, .int .i64 r.2.2.1, .string ⟨(r.2.2.2.1).toArray⟩, .int .i64 r.2.2.2.2], .int .i64 r.1] ∧ Fr = l') := by
  refine Spec.of Go.Proofs.Tryz.func59 rfl rfl ?_; unfold scan_token.f at hrun; have hrun := brun hrun; refine At.seq ?_; refine At.region ?_; refine At.alloc rfl rfl rfl (fun b264 => ?_); refine At.run 1 rfl ?_; refine At.nil ?_; refine At.thn ?_; refine At.seq ?_; refine At.region ?_; refine At.run 2 rfl ?_; obtain ⟨h265, hrun⟩ := bnone hrun; refine At.y (Y.ixStr rfl rfl rfl rfl h265.1 h265.2) rfl rfl rfl ?_; obtain ⟨t266, hc267, hrun⟩ := bbind hrun; refine At.call rfl scan_kind.callee rfl rfl rfl (scan_kind.spec _ _  (bat a0 a1)  hc267) ?_; rintro _ _ ⟨rfl, rfl⟩; refine At.run 1 rfl ?_; refine At.y (Y.build (is := [0, 1]) (xo := [.tmp 12, .tmp 13]) (vs := [.int .i64 t266, .int .i64 a1]) (cs := [.int .i64 t266, .int .i64 a1, .string ⟨(([] : Bs)).toArray⟩, .int .i64 0]) rfl rfl rfl rfl rfl rfl) rfl rfl rfl ?_; refine At.alloc rfl rfl rfl (fun b268 => ?_); refine At.store rfl rfl rfl rfl .z rfl rfl rfl (.c (.c (.c (.c .n)))) ?_; refine At.nil ?_; refine At.thn ?_; refine At.seq ?_; refine At.held [pt b264 (.cells [.int .i64 0, .int .i64 0, .string ⟨(([] : Bs)).toArray⟩, .int .i64 0].toArray 91)] 13 rfl ?_; refine At.H.pv 0 rfl (by kernel_rfl) (by kernel_rfl) (by kernel_rfl) rfl rfl rfl rfl (.c (.s .z) .n) ?_; refine At.H.pv 1 rfl (by kernel_rfl) (by kernel_rfl) (by kernel_rfl) rfl rfl rfl rfl (.c (.s .z) .n) ?_; refine At.H.pv 2 rfl (by kernel_rfl) (by kernel_rfl) (by kernel_rfl) rfl rfl rfl rfl (.c (.s .z) .n) ?_; refine At.H.pv 3 rfl (by kernel_rfl) (by kernel_rfl) (by kernel_rfl) rfl rfl rfl rfl (.c (.s .z) .n) ?_; refine At.H.pv 5 rfl (by kernel_rfl) (by kernel_rfl) (by kernel_rfl) rfl rfl rfl rfl (.c (.s .z) .n) ?_; refine At.H.pv 6 rfl (by kernel_rfl) (by kernel_rfl) (by kernel_rfl) rfl rfl rfl rfl (.c (.s .z) .n) ?_; obtain ⟨h271, hrun⟩ := bnone hrun; refine At.H.take 7 rfl (by kernel_rfl) (by kernel_rfl) (by kernel_rfl) (Y.slStrL rfl rfl rfl rfl h271.1 h271.2) rfl rfl rfl (.c (.s .z) .n) ?_; refine At.H.all [4] (by kernel_rfl) rfl (all_cons ?_ all_nil)
  · · refine At.HO.op rfl ?_
      refine At.y (Y.load rfl rfl .z rfl rfl rfl) rfl rfl rfl ?_; refine At.HO.back (.c (.s .z) .n) ?_; refine At.H.all [8] (by kernel_rfl) rfl (all_cons ?_ all_nil)
      · · refine At.HO.op rfl ?_
          obtain ⟨t272, hc273, hrun⟩ := bbind hrun; refine At.call rfl scan_long.callee rfl rfl rfl (scan_long.spec _ _  t266 (a0.drop a1.toNat)  hc273) ?_; rintro _ _ ⟨rfl, rfl⟩; refine At.HO.back (.c (.s .z) .n) ?_; refine At.H.pv 9 rfl (by kernel_rfl) (by kernel_rfl) (by kernel_rfl) rfl rfl rfl rfl (.c (.s .z) .n) ?_; obtain ⟨h274, hrun⟩ := bnone hrun; refine At.H.take 10 rfl (by kernel_rfl) (by kernel_rfl) (by kernel_rfl) (Y.slStrLH rfl rfl rfl rfl rfl h274.1 h274.2.1 h274.2.2) rfl rfl rfl (.c (.s .z) .n) ?_; refine At.H.pv 11 rfl (by kernel_rfl) (by kernel_rfl) (by kernel_rfl) rfl rfl rfl rfl (.c (.s .z) .n) ?_; refine At.H.all [12] (by kernel_rfl) rfl (all_cons ?_ all_nil)
          · · refine At.HO.op rfl ?_
              refine At.store rfl rfl rfl rfl .z rfl rfl rfl (.s (.s (.c .n))) ?_; refine At.HO.back (.c (.s .z) .n) ?_; refine At.H.done (by kernel_rfl) ?_; refine At.thn ?_; refine At.seq ?_; refine At.seq ?_; refine At.region ?_; refine At.run 1 rfl ?_; refine At.y (Y.load rfl rfl .z rfl rfl rfl) rfl rfl rfl ?_; refine At.nil ?_; refine At.thn ?_; refine At.block ?_; refine At.seq ?_; refine At.region ?_; refine At.run 2 rfl ?_; refine At.nil ?_; refine At.thn ?_; rcases bite hrun with ⟨h275, hrun⟩ | ⟨h275, hrun⟩
              · · refine At.condT rfl (decide_eq_true h275) ?_
                  refine At.seq ?_; refine At.region ?_; refine At.y (Y.load rfl rfl .z rfl rfl rfl) rfl rfl rfl ?_; refine At.store rfl rfl rfl rfl (.s .z) rfl rfl rfl (.c (.c (.c (.c .n)))) ?_; refine At.run 1 rfl ?_; refine At.nil ?_; refine At.thn ?_; refine At.ret ?_; refine At.ibr ?_; refine At.thr ?_; refine At.resM (.inl rfl) rfl (RV.cell rfl rfl .z rfl rfl rfl (RV.tmp rfl RV.nil)) ?_; refine At.drop .z ?_; refine At.drop .z ?_; obtain rfl := (bret hrun).symm; exact fun a w e hs => ⟨_, ⟨rfl, rfl⟩, hs⟩
              · · refine At.condF rfl (decide_eq_false h275) ?_
                  refine At.seq ?_; refine At.seq ?_; refine At.region ?_; refine At.run 2 rfl ?_; refine At.nil ?_; refine At.thn ?_; rcases bite hrun with ⟨h276, hrun⟩ | ⟨h276, hrun⟩
                  · · refine At.condT rfl (decide_eq_true h276) ?_
                      refine At.skip ?_; refine At.thn ?_; refine At.condT rfl (decide_eq_true h276) ?_; refine At.seq ?_; refine At.region ?_; refine At.run 1 rfl ?_; refine At.y (Y.load rfl rfl .z rfl rfl rfl) rfl rfl rfl ?_; refine At.run 2 rfl ?_; refine At.nil ?_; refine At.thn ?_; rcases bite hrun with ⟨h278, hrun⟩ | ⟨h278, hrun⟩
                      · · refine At.condT rfl (decide_eq_true h278) ?_
                          refine At.seq ?_; refine At.region ?_; refine At.y (Y.load rfl rfl .z rfl rfl rfl) rfl rfl rfl ?_; refine At.store rfl rfl rfl rfl (.s .z) rfl rfl rfl (.c (.c (.c (.c .n)))) ?_; refine At.run 1 rfl ?_; refine At.nil ?_; refine At.thn ?_; refine At.ret ?_; refine At.ibr ?_; refine At.thr ?_; refine At.resM (.inl rfl) rfl (RV.cell rfl rfl .z rfl rfl rfl (RV.tmp rfl RV.nil)) ?_; refine At.drop .z ?_; refine At.drop .z ?_; obtain rfl := (bret hrun).symm; exact fun a w e hs => ⟨_, ⟨rfl, rfl⟩, hs⟩
                      · · refine At.condF rfl (decide_eq_false h278) ?_
                          refine At.skip ?_; refine At.ibn ?_; refine At.thn ?_; refine At.seq ?_; refine At.region ?_; refine At.y (Y.load rfl rfl .z rfl rfl rfl) rfl rfl rfl ?_; refine At.store rfl rfl rfl rfl (.s .z) rfl rfl rfl (.c (.c (.c (.c .n)))) ?_; refine At.run 1 rfl ?_; refine At.nil ?_; refine At.thn ?_; refine At.ret ?_; refine At.resM (.inl rfl) rfl (RV.cell rfl rfl .z rfl rfl rfl (RV.tmp rfl RV.nil)) ?_; refine At.drop .z ?_; refine At.drop .z ?_; obtain rfl := (bret hrun).symm; exact fun a w e hs => ⟨_, ⟨rfl, rfl⟩, hs⟩
                  · · refine At.condF rfl (decide_eq_false h276) ?_
                      refine At.region ?_; refine At.run 2 rfl ?_; refine At.nil ?_; refine At.thn ?_; rcases bite hrun with ⟨h279, hrun⟩ | ⟨h279, hrun⟩
                      · · refine At.condT rfl (decide_eq_true h279) ?_
                          refine At.seq ?_; refine At.region ?_; refine At.run 1 rfl ?_; refine At.y (Y.load rfl rfl .z rfl rfl rfl) rfl rfl rfl ?_; refine At.run 2 rfl ?_; refine At.nil ?_; refine At.thn ?_; rcases bite hrun with ⟨h280, hrun⟩ | ⟨h280, hrun⟩
                          · · refine At.condT rfl (decide_eq_true h280) ?_
                              refine At.seq ?_; refine At.region ?_; refine At.y (Y.load rfl rfl .z rfl rfl rfl) rfl rfl rfl ?_; refine At.store rfl rfl rfl rfl (.s .z) rfl rfl rfl (.c (.c (.c (.c .n)))) ?_; refine At.run 1 rfl ?_; refine At.nil ?_; refine At.thn ?_; refine At.ret ?_; refine At.ibr ?_; refine At.thr ?_; refine At.resM (.inl rfl) rfl (RV.cell rfl rfl .z rfl rfl rfl (RV.tmp rfl RV.nil)) ?_; refine At.drop .z ?_; refine At.drop .z ?_; obtain rfl := (bret hrun).symm; exact fun a w e hs => ⟨_, ⟨rfl, rfl⟩, hs⟩
                          · · refine At.condF rfl (decide_eq_false h280) ?_
                              refine At.skip ?_; refine At.ibn ?_; refine At.thn ?_; refine At.seq ?_; refine At.region ?_; refine At.y (Y.load rfl rfl .z rfl rfl rfl) rfl rfl rfl ?_; refine At.store rfl rfl rfl rfl (.s .z) rfl rfl rfl (.c (.c (.c (.c .n)))) ?_; refine At.run 1 rfl ?_; refine At.nil ?_; refine At.thn ?_; refine At.ret ?_; refine At.resM (.inl rfl) rfl (RV.cell rfl rfl .z rfl rfl rfl (RV.tmp rfl RV.nil)) ?_; refine At.drop .z ?_; refine At.drop .z ?_; obtain rfl := (bret hrun).symm; exact fun a w e hs => ⟨_, ⟨rfl, rfl⟩, hs⟩
                      · · refine At.condF rfl (decide_eq_false h279) ?_
                          refine At.seq ?_; refine At.region ?_; refine At.run 2 rfl ?_; refine At.nil ?_; refine At.thn ?_; rcases bite hrun with ⟨h281, hrun⟩ | ⟨h281, hrun⟩
                          · · refine At.condT rfl (decide_eq_true h281) ?_
                              refine At.seq ?_; refine At.region ?_; refine At.run 1 rfl ?_; refine At.y (Y.load rfl rfl .z rfl rfl rfl) rfl rfl rfl ?_; obtain ⟨t282, hc283, hrun⟩ := bbind hrun; refine At.call rfl scan_value.callee rfl rfl rfl (scan_value.spec _ _  (bsl a0 a1 (IntKind.i64.wrap (a1 + t272)))  hc283) ?_; rintro _ _ ⟨rfl, rfl⟩; refine At.run 5 rfl ?_; refine At.nil ?_; refine At.thn ?_; refine At.seq ?_; refine At.seq ?_; refine At.region ?_; refine At.run 2 rfl ?_; refine At.nil ?_; refine At.thn ?_; rcases bite hrun with ⟨h284, hrun⟩ | ⟨h284, hrun⟩
                              · · refine At.condF rfl (nf h284) ?_
                                  refine At.skip ?_; refine At.thn ?_; refine At.region ?_; refine At.run 2 rfl ?_; refine At.store rfl rfl rfl rfl .z rfl rfl rfl (.s (.s (.s (.c .n)))) ?_; refine At.nil ?_; refine At.ibn ?_; refine At.thn ?_; refine At.seq ?_; refine At.region ?_; refine At.y (Y.load rfl rfl .z rfl rfl rfl) rfl rfl rfl ?_; refine At.store rfl rfl rfl rfl (.s .z) rfl rfl rfl (.c (.c (.c (.c .n)))) ?_; refine At.run 1 rfl ?_; refine At.nil ?_; refine At.thn ?_; refine At.ret ?_; refine At.resM (.inl rfl) rfl (RV.cell rfl rfl .z rfl rfl rfl (RV.tmp rfl RV.nil)) ?_; refine At.drop .z ?_; refine At.drop .z ?_; obtain rfl := (bret hrun).symm; exact fun a w e hs => ⟨_, ⟨rfl, rfl⟩, hs⟩
                              · · refine At.condT rfl (nt (bn h284)) ?_
                                  refine At.seq ?_; refine At.region ?_; refine At.y (Y.load rfl rfl .z rfl rfl rfl) rfl rfl rfl ?_; refine At.store rfl rfl rfl rfl (.s .z) rfl rfl rfl (.c (.c (.c (.c .n)))) ?_; refine At.run 1 rfl ?_; refine At.nil ?_; refine At.thn ?_; refine At.ret ?_; refine At.thr ?_; refine At.ibr ?_; refine At.thr ?_; refine At.resM (.inl rfl) rfl (RV.cell rfl rfl .z rfl rfl rfl (RV.tmp rfl RV.nil)) ?_; refine At.drop .z ?_; refine At.drop .z ?_; obtain rfl := (bret hrun).symm; exact fun a w e hs => ⟨_, ⟨rfl, rfl⟩, hs⟩
                          · · refine At.condF rfl (decide_eq_false h281) ?_
                              refine At.skip ?_; refine At.ibn ?_; refine At.thn ?_; refine At.seq ?_; refine At.region ?_; refine At.y (Y.load rfl rfl .z rfl rfl rfl) rfl rfl rfl ?_; refine At.store rfl rfl rfl rfl (.s .z) rfl rfl rfl (.c (.c (.c (.c .n)))) ?_; refine At.run 1 rfl ?_; refine At.nil ?_; refine At.thn ?_; refine At.ret ?_; refine At.resM (.inl rfl) rfl (RV.cell rfl rfl .z rfl rfl rfl (RV.tmp rfl RV.nil)) ?_; refine At.drop .z ?_; refine At.drop .z ?_; obtain rfl := (bret hrun).symm; exact fun a w e hs => ⟨_, ⟨rfl, rfl⟩, hs⟩

noncomputable def scan_All.l0b (a0 : Bs) (x867 : List api_Token) (x872 : Int) : Option (((List api_Token) × Int) ⊕ (((List api_Token)) ⊕ ((Option api_Fault) × (List api_Token)))) :=
 if x872 < (a0.length : Int) then
 if (0 : Int) ≤ x872 ∧ x872 < (a0.length : Int) then
 jn (
 if bat a0 x872 = 32 then
 some (.inl true)
 else
 some (.inl (decide (bat a0 x872 = 9)))) (fun (x1297 : Bool) =>
 if x1297 = true then
 nx (x867, IntKind.i64.wrap (x872 + 1))
 else
 if bat a0 x872 = 35 then
 if (0 : Int) ≤ x872 ∧ x872 ≤ (a0.length : Int) then
 (strings_IndexByte.f (a0.drop x872.toNat) 10).bind fun t1305 =>
 if t1305 < 0 then
 nx (x867, IntKind.i64.wrap (x872 + (IntKind.i64.wrap ((a0.length : Int) - x872))))
 else
 nx (x867, IntKind.i64.wrap (x872 + t1305))
 else none
 else
 (scan_token.f a0 x872).bind fun t1308 =>
 if t1308.1 = 0 then
 if (x867.length + ([(⟨t1308.2.1, t1308.2.2.1, t1308.2.2.2.1, t1308.2.2.2.2⟩ : api_Token)] : List api_Token).length) * 40 ≤ 140737488355328 then
 nx ((x867 ++ ([(⟨t1308.2.1, t1308.2.2.1, t1308.2.2.2.1, t1308.2.2.2.2⟩ : api_Token)] : List api_Token)), IntKind.i64.wrap (x872 + (t1308.2.2.2.1.length : Int)))
 else none
 else
 upL (some ((some (⟨x872, t1308.1⟩ : api_Fault)), ([] : List api_Token))))
 else none
 else
 dn (.inl x867)
noncomputable def scan_All.l0 (a0 : Bs) (x867 : List api_Token) (x872 : Int) : Option (((List api_Token)) ⊕ ((Option api_Fault) × (List api_Token))) := iter (fun t_ : (List api_Token) × Int => scan_All.l0b a0 t_.1 t_.2) (x867, x872)
noncomputable def scan_All.f (a0 : Bs) : Option ((Option api_Fault) × (List api_Token)) :=
 if 262144 < (a0.length : Int) then
 some ((some (⟨262144, 2⟩ : api_Fault)), ([] : List api_Token))
 else
 jn (scan_All.l0 a0 ([] : List api_Token) 0) (fun (x1073 : List api_Token) =>
 if (x1073.length + ([(⟨0, (a0.length : Int), ([] : Bs), 0⟩ : api_Token)] : List api_Token).length) * 40 ≤ 140737488355328 then
 some (none, (x1073 ++ ([(⟨0, (a0.length : Int), ([] : Bs), 0⟩ : api_Token)] : List api_Token)))
 else none)
theorem scan_All.callee : Callee Go.Proofs.Tryz.prog 41 := ⟨_, Go.Proofs.Tryz.func41, by kernel_rfl, by kernel_rfl⟩
set_option maxRecDepth 100000 in
set_option maxHeartbeats 2000000 in
theorem scan_All.spec (R : Res) (Fr : List HProp)  (a0 : Bs)  {r : (Option api_Fault) × (List api_Token)} (hrun : scan_All.f a0 = some r) :
    Spec Go.Proofs.Tryz.prog 41 [.string ⟨(a0).toArray⟩] R (Fr) (fun v l' => ∃ (w251 : Option Nat) (w254 : Nat) (w256 : Option Addr) (w257 : Nat), v = .tuple #[.slice w256 w254 w257, opti 86 w251] ∧ row api_Token.fl 91 w256 w254 w257 r.2 :: optb (Ow.fl api_Fault.fl) 105 w251 r.1 :: Fr = l' ∧ r.2.length = w254) := by
  refine Spec.of Go.Proofs.Tryz.func41 rfl rfl ?_; unfold scan_All.f at hrun; have hrun := brun hrun; refine At.seq ?_; refine At.region ?_; refine At.run 2 rfl ?_; refine At.nil ?_; refine At.thn ?_; refine At.seq ?_; refine At.seq ?_; refine At.region ?_; refine At.run 3 rfl ?_; refine At.nil ?_; refine At.thn ?_; rcases bite hrun with ⟨h258, hrun⟩ | ⟨h258, hrun⟩
  · · refine At.condT rfl (decide_eq_true h258) ?_
      refine At.seq ?_; refine At.region ?_; refine At.y (Y.build (is := [0, 1]) (xo := [.const (.int .i64 262144), .const (.int .i64 2)]) (vs := [.int .i64 262144, .int .i64 2]) (cs := [.int .i64 262144, .int .i64 2]) rfl rfl rfl rfl rfl rfl) rfl rfl rfl ?_; refine At.box rfl rfl (cs := [.int .i64 262144, .int .i64 2]) rfl rfl (fun b259 => ?_); refine At.run 3 rfl ?_; refine At.nil ?_; refine At.thn ?_; refine At.ret ?_; refine At.thr ?_; refine At.nilRow api_Token.fl 91 ?_; refine At.frt (.s .z) ?_; refine At.optSome (x := (⟨262144, 2⟩ : api_Fault)) (Ent.fl api_Fault.fl (x := (⟨262144, 2⟩ : api_Fault)) rfl) ?_; refine At.frt (.s .z) ?_; obtain rfl := (bret hrun).symm; exact At.res (.inl rfl) rfl rfl ⟨(some b259), 0, none, 0, rfl, rfl, rfl⟩
  · · refine At.condF rfl (decide_eq_false h258) ?_
      refine At.skip ?_; refine At.thn ?_; refine At.seq ?_; refine At.region ?_; refine At.run 1 rfl ?_; refine At.nil ?_; refine At.thn ?_; refine At.seq ?_; refine At.seq ?_; refine At.region ?_; refine At.run 1 rfl ?_; refine At.nil ?_; refine At.thn ?_; refine At.block ?_; obtain ⟨G1078, hl1079, hr1080, hrun⟩ := bjoin hrun; obtain ⟨o1081, hlo1082, ho1083⟩ := bsome hrun; clear hrun; unfold scan_All.l0 at hlo1082; obtain ⟨m1084, hit1086⟩ := iter_some.1 hlo1082; clear hlo1082; refine At.nilRow api_Token.fl 91 ?_; refine At.loopJ (X := (List api_Token) × Int × Nat × (Option Addr) × Nat) (Y := (List api_Token) × Nat × (Option Addr) × Nat) (e0 := 0) (fun s_ => [(0, .string ⟨(a0).toArray⟩), (4, .slice s_.2.2.2.1 s_.2.2.1 s_.2.2.2.2), (5, .int .i64 s_.2.1)]) (fun s_ => row api_Token.fl 91 s_.2.2.2.1 s_.2.2.1 s_.2.2.2.2 s_.1 :: Fr) (fun m_ => fun s_ => iterN (fun t_ : (List api_Token) × Int => scan_All.l0b a0 t_.1 t_.2) m_ (s_.1, s_.2.1) = some o1081 ∧ s_.1.length = s_.2.2.1) m1084 (([] : List api_Token), 0, 0, none, 0) ⟨hit1086, rfl⟩ (fun s_ => [(0, .string ⟨(a0).toArray⟩), (4, .slice s_.2.2.1 s_.2.1 s_.2.2.2)]) (fun s_ => row api_Token.fl 91 s_.2.2.1 s_.2.1 s_.2.2.2 s_.1 :: Fr) (fun s_ => G1078 (.inl s_.1) = some r ∧ s_.1.length = s_.2.1) (fun a w e hs => ⟨e.sub ⟨rfl, rfl, rfl, trivial⟩, (by exact hs)⟩) ?_ (fun J1088 => ?_)
      · rintro ⟨x1073, w1074, w1076, w1077⟩ ⟨hrun, hn1075⟩; obtain rfl : x1073.length = w1074 := hn1075; have hrun := (hl1079 _).symm.trans hrun
        · refine At.ibx ?_; refine At.thn ?_; refine At.seq ?_; refine At.region ?_; refine At.run 3 rfl ?_; refine At.y (Y.build (is := [0, 1]) (xo := [.const (.int .i64 0), .tmp 72]) (vs := [.int .i64 0, .int .i64 (a0.length : Int)]) (cs := [.int .i64 0, .int .i64 (a0.length : Int), .string ⟨(([] : Bs)).toArray⟩, .int .i64 0]) rfl rfl rfl rfl rfl rfl) rfl rfl rfl ?_; refine At.lit rfl (xo := [.tmp 73]) (ys := ([(⟨0, (a0.length : Int), ([] : Bs), 0⟩ : api_Token)] : List api_Token)) api_Token.fl rfl rfl rfl rfl rfl rfl rfl rfl rfl rfl rfl (fun A1089 c1090 => ?_); obtain ⟨h1092, hrun⟩ := bnone hrun; refine At.append rfl (.s .z) (Src.own .z (by simp)) rfl rfl rfl rfl rfl rfl rfl rfl h1092 (by decide) rfl (fun A1093 c1094 => ?_); refine At.drop (.s .z) ?_; refine At.run 2 rfl ?_; refine At.nil ?_; refine At.thn ?_; refine At.ret ?_; refine At.optNone (Ow.fl api_Fault.fl) 105 ?_; refine At.frt (.s .z) ?_; obtain rfl := (bret hrun).symm; exact At.res (.inl rfl) rfl rfl ⟨none, (x1073 ++ ([(⟨0, (a0.length : Int), ([] : Bs), 0⟩ : api_Token)] : List api_Token)).length, A1093, c1094, rfl, rfl, rfl⟩
      · clear hit1086 m1084; rintro m1084 ⟨x867, x872, w868, w870, w871⟩ ⟨hit1086, hn869⟩; obtain rfl : x867.length = w868 := hn869; obtain ⟨m1085, f_, hlt1087, hf_, hrun⟩ := bit hit1086; clear hit1086; have hrun : (scan_All.l0b a0 x867 x872).bind _ = some o1081 := hrun; unfold scan_All.l0b at hrun
        · refine At.seq ?_; refine At.seq ?_; refine At.region ?_; refine At.run 4 rfl ?_; refine At.nil ?_; refine At.thn ?_; rcases bite hrun with ⟨h1095, hrun⟩ | ⟨h1095, hrun⟩
          · · refine At.condT rfl (decide_eq_true h1095) ?_
              refine At.skip ?_; refine At.thn ?_; refine At.block ?_; refine At.seq ?_; refine At.region ?_; refine At.run 2 rfl ?_; obtain ⟨h1096, hrun⟩ := bnone hrun; refine At.y (Y.ixStr rfl rfl rfl rfl h1096.1 h1096.2) rfl rfl rfl ?_; refine At.run 1 rfl ?_; refine At.nil ?_; refine At.thn ?_; refine At.block ?_; refine At.seq ?_; refine At.region ?_; refine At.run 3 rfl ?_; obtain ⟨G1298, hl1299, hr1300, hrun⟩ := bjoin hrun; refine At.joinO 3 (X := Bool) (fun x1297 => [(0, .string ⟨(a0).toArray⟩), (4, .slice w870 x867.length w871), (5, .int .i64 x872), (6, .int .u8 (bat a0 x872)), (51, .bool x1297)]) (fun x1297 => row api_Token.fl 91 w870 x867.length w871 x867 :: Fr) (fun x1297 => G1298 (.inl x1297) = some o1081) ?_ (fun J1301 => ?_)
              · rintro x1297 hrun; have hrun := (hl1299 _).symm.trans hrun
                · refine At.run 1 rfl ?_; refine At.nil ?_; refine At.thn ?_; rcases bite hrun with ⟨h1302, hrun⟩ | ⟨h1302, hrun⟩
                  · · refine At.condT rfl h1302 ?_
                      refine At.region ?_; refine At.run 3 rfl ?_; refine At.nil ?_; refine At.ibn ?_; refine At.ibn ?_; have hrun := bnx hf_ hrun; exact fun a w e hs => ⟨m1085, (x867, IntKind.i64.wrap (x872 + 1), x867.length, w870, w871), hlt1087, ⟨hrun, rfl⟩, e.sub ⟨rfl, rfl, rfl, trivial⟩, hs⟩
                  · · refine At.condF rfl (bn h1302) ?_
                      refine At.seq ?_; refine At.region ?_; refine At.run 3 rfl ?_; refine At.nil ?_; refine At.thn ?_; rcases bite hrun with ⟨h1303, hrun⟩ | ⟨h1303, hrun⟩
                      · · refine At.condT rfl (decide_eq_true h1303) ?_
                          refine At.seq ?_; refine At.region ?_; refine At.run 2 rfl ?_; obtain ⟨h1304, hrun⟩ := bnone hrun; refine At.y (Y.slStrL rfl rfl rfl rfl h1304.1 h1304.2) rfl rfl rfl ?_; obtain ⟨t1305, hc1306, hrun⟩ := bbind hrun; refine At.call rfl strings_IndexByte.callee rfl rfl rfl (strings_IndexByte.spec _ _  (a0.drop x872.toNat) 10  hc1306) ?_; rintro _ _ ⟨rfl, rfl⟩; refine At.run 1 rfl ?_; refine At.nil ?_; refine At.thn ?_; refine At.seq ?_; refine At.seq ?_; refine At.region ?_; refine At.run 2 rfl ?_; refine At.nil ?_; refine At.thn ?_; rcases bite hrun with ⟨h1307, hrun⟩ | ⟨h1307, hrun⟩
                          · · refine At.condT rfl (decide_eq_true h1307) ?_
                              refine At.region ?_; refine At.run 5 rfl ?_; refine At.nil ?_; refine At.thn ?_; refine At.region ?_; refine At.run 4 rfl ?_; refine At.nil ?_; refine At.ibn ?_; refine At.ibn ?_; have hrun := bnx hf_ hrun; exact fun a w e hs => ⟨m1085, (x867, IntKind.i64.wrap (x872 + (IntKind.i64.wrap ((a0.length : Int) - x872))), x867.length, w870, w871), hlt1087, ⟨hrun, rfl⟩, e.sub ⟨rfl, rfl, rfl, trivial⟩, hs⟩
                          · · refine At.condF rfl (decide_eq_false h1307) ?_
                              refine At.skip ?_; refine At.thn ?_; refine At.region ?_; refine At.run 4 rfl ?_; refine At.nil ?_; refine At.ibn ?_; refine At.ibn ?_; have hrun := bnx hf_ hrun; exact fun a w e hs => ⟨m1085, (x867, IntKind.i64.wrap (x872 + t1305), x867.length, w870, w871), hlt1087, ⟨hrun, rfl⟩, e.sub ⟨rfl, rfl, rfl, trivial⟩, hs⟩
                      · · refine At.condF rfl (decide_eq_false h1303) ?_
                          refine At.seq ?_; refine At.region ?_; refine At.run 2 rfl ?_; obtain ⟨t1308, hc1309, hrun⟩ := bbind hrun; refine At.call rfl scan_token.callee rfl rfl rfl (scan_token.spec _ _  a0 x872  hc1309) ?_; rintro _ _ ⟨rfl, rfl⟩; refine At.run 3 rfl ?_; refine At.alloc rfl rfl rfl (fun b1310 => ?_); refine At.store rfl rfl rfl rfl .z rfl rfl rfl (.c (.c (.c (.c .n)))) ?_; refine At.run 1 rfl ?_; refine At.nil ?_; refine At.thn ?_; refine At.seq ?_; refine At.seq ?_; refine At.region ?_; refine At.run 2 rfl ?_; refine At.nil ?_; refine At.thn ?_; rcases bite hrun with ⟨h1311, hrun⟩ | ⟨h1311, hrun⟩
                          · · refine At.condF rfl (nf (decide_eq_true h1311)) ?_
                              refine At.skip ?_; refine At.thn ?_; refine At.seq ?_; refine At.region ?_; refine At.run 1 rfl ?_; refine At.y (Y.load rfl rfl .z rfl rfl rfl) rfl rfl rfl ?_; refine At.lit rfl (xo := [.tmp 37]) (ys := ([(⟨t1308.2.1, t1308.2.2.1, t1308.2.2.2.1, t1308.2.2.2.2⟩ : api_Token)] : List api_Token)) api_Token.fl rfl rfl rfl rfl rfl rfl rfl rfl rfl rfl rfl (fun A1312 c1313 => ?_); obtain ⟨h1315, hrun⟩ := bnone hrun; refine At.append rfl (.s (.s .z)) (Src.own .z (by simp)) rfl rfl rfl rfl rfl rfl rfl rfl h1315 (by decide) rfl (fun A1316 c1317 => ?_); refine At.drop (.s .z) ?_; refine At.run 1 rfl ?_; refine At.nil ?_; refine At.thn ?_; refine At.region ?_; refine At.run 2 rfl ?_; refine At.y (Y.load rfl rfl (.s .z) rfl rfl rfl) rfl rfl rfl ?_; refine At.run 3 rfl ?_; refine At.nil ?_; refine At.ibn ?_; refine At.ibn ?_; refine At.drop (.s .z) ?_; have hrun := bnx hf_ hrun; exact fun a w e hs => ⟨m1085, ((x867 ++ ([(⟨t1308.2.1, t1308.2.2.1, t1308.2.2.2.1, t1308.2.2.2.2⟩ : api_Token)] : List api_Token)), IntKind.i64.wrap (x872 + (t1308.2.2.2.1.length : Int)), (x867 ++ ([(⟨t1308.2.1, t1308.2.2.1, t1308.2.2.2.1, t1308.2.2.2.2⟩ : api_Token)] : List api_Token)).length, A1316, c1317), hlt1087, ⟨hrun, rfl⟩, e.sub ⟨rfl, rfl, rfl, trivial⟩, hs⟩
                          · · refine At.condT rfl (nt (decide_eq_false h1311)) ?_
                              refine At.seq ?_; refine At.region ?_; refine At.run 2 rfl ?_; refine At.y (Y.build (is := [0, 1]) (xo := [.tmp 31, .tmp 32]) (vs := [.int .i64 x872, .int .i64 t1308.1]) (cs := [.int .i64 x872, .int .i64 t1308.1]) rfl rfl rfl rfl rfl rfl) rfl rfl rfl ?_; refine At.box rfl rfl (cs := [.int .i64 x872, .int .i64 t1308.1]) rfl rfl (fun b1318 => ?_); refine At.run 3 rfl ?_; refine At.nil ?_; refine At.thn ?_; refine At.ret ?_; refine At.thr ?_; refine At.ibr ?_; refine At.ibr ?_; have hrun := bupL hr1080 ho1083 hrun; refine At.thr ?_; refine At.ibr ?_; refine At.thr ?_; refine At.nilRow api_Token.fl 91 ?_; refine At.frt (.s .z) ?_; refine At.optSome (x := (⟨x872, t1308.1⟩ : api_Fault)) (Ent.fl api_Fault.fl (x := (⟨x872, t1308.1⟩ : api_Fault)) rfl) ?_; refine At.drop (.s (.s .z)) ?_; refine At.drop (.s (.s .z)) ?_; refine At.frt (.s .z) ?_; obtain rfl := (bret hrun).symm; exact At.res (.inl rfl) rfl rfl ⟨(some b1318), 0, none, 0, rfl, rfl, rfl⟩
              · · rcases bite hrun with ⟨h1320, hrun⟩ | ⟨h1320, hrun⟩
                  · · refine At.know (t := 48) rfl (decide_eq_true h1320) ?_
                      refine At.run 3 rfl ?_; exact At.of (J1301 true hrun) ⟨rfl, rfl, rfl, rfl, rfl, trivial⟩
                  · · refine At.know (t := 48) rfl (decide_eq_false h1320) ?_
                      refine At.run 3 rfl ?_; exact At.of (J1301 (decide (bat a0 x872 = 9)) hrun) ⟨rfl, rfl, rfl, rfl, rfl, trivial⟩
          · · refine At.condF rfl (decide_eq_false h1095) ?_
              refine At.exit ?_; refine At.the ?_; refine At.the ?_; exact fun a w e hs => J1088 (x867, x867.length, w870, w871) ⟨(bdn hrun ho1083), rfl⟩ a w (e.sub ⟨rfl, rfl, trivial⟩) hs

noncomputable def lts_reader_blank.l0b  (x868 : List api_Token) : Option (((List api_Token)) ⊕ (((List api_Token)) ⊕ ((List api_Token)))) :=
 if (0 : Int) ≤ 0 ∧ 0 < (x868.length : Int) then
 if (gt x868 0).Kind = 1 then
 if (0 : Int) ≤ 1 ∧ 1 ≤ (x868.length : Int) then
 nx (x868.drop (1 : Int).toNat)
 else none
 else
 dn (.inl x868)
 else none
noncomputable def lts_reader_blank.l0  (x868 : List api_Token) : Option (((List api_Token)) ⊕ ((List api_Token))) := iter (fun t_ : (List api_Token) => lts_reader_blank.l0b  t_) x868
noncomputable def lts_reader_blank.f (a0_0 : List api_Token) (a0_1 : Option api_Fault) (a0_2 : Int) (a0_3 : List Bs) (a0_4 : List api_Edge) (a0_5 : List api_Prop) (a0_6 : List lts_step) (a0_7 : List (Bs × Bool)) : Option (List api_Token) :=
 jn (lts_reader_blank.l0  a0_0) (fun (x1075 : List api_Token) =>
 some x1075)
theorem lts_reader_blank.callee : Callee Go.Proofs.Tryz.prog 43 := ⟨_, Go.Proofs.Tryz.func43, by kernel_rfl, by kernel_rfl⟩
set_option maxRecDepth 100000 in
set_option maxHeartbeats 2000000 in
theorem lts_reader_blank.spec (R : Res) (Fr : List HProp) (b0 : Nat) (A0_0 : Option Addr) (n0_0 : Nat) (c0_0 : Nat) (p0_1 : Option Nat) (A0_3 : Option Addr) (n0_3 : Nat) (c0_3 : Nat) (A0_4 : Option Addr) (n0_4 : Nat) (c0_4 : Nat) (A0_5 : Option Addr) (n0_5 : Nat) (c0_5 : Nat) (A0_6 : Option Addr) (n0_6 : Nat) (c0_6 : Nat) (b0_7 : Nat) (a0_0 : List api_Token) (a0_1 : Option api_Fault) (a0_2 : Int) (a0_3 : List Bs) (a0_4 : List api_Edge) (a0_5 : List api_Prop) (a0_6 : List lts_step) (a0_7 : List (Bs × Bool)) (hr0_0 : RdS api_Token.fl.rep R.heap A0_0 a0_0) (hn0_0 : a0_0.length = n0_0) (hc0_0 : n0_0 ≤ c0_0) (hn0_3 : a0_3.length = n0_3) (hn0_4 : a0_4.length = n0_4) (hn0_5 : a0_5.length = n0_5) (hn0_6 : a0_6.length = n0_6) {r : (List api_Token)} (hrun : lts_reader_blank.f a0_0 a0_1 a0_2 a0_3 a0_4 a0_5 a0_6 a0_7 = some r) :
    Spec Go.Proofs.Tryz.prog 43 [.pointer (some ⟨b0, 0, none⟩)] R (pt b0 (.cells [.slice A0_0 n0_0 c0_0, optp p0_1, .int .i64 a0_2, .slice A0_3 n0_3 c0_3, .slice A0_4 n0_4 c0_4, .slice A0_5 n0_5 c0_5, .slice A0_6 n0_6 c0_6, .map (some b0_7)].toArray 89) :: optb (Ow.fl api_Fault.fl) 105 p0_1 a0_1 :: row Fl.bs 9 A0_3 n0_3 c0_3 a0_3 :: row api_Edge.fl 54 A0_4 n0_4 c0_4 a0_4 :: grow api_Prop.ow 57 A0_5 n0_5 c0_5 a0_5 :: row lts_step.fl 113 A0_6 n0_6 c0_6 a0_6 :: mapo Fl.bs.ov Fl.bool.ov b0_7 a0_7 :: Fr) (fun v l' => ∃ (w251 : Option Addr) (w252 : Nat) (w253 : Nat), v = .tuple #[] ∧ pt b0 (.cells [.slice w251 w252 w253, optp p0_1, .int .i64 a0_2, .slice A0_3 n0_3 c0_3, .slice A0_4 n0_4 c0_4, .slice A0_5 n0_5 c0_5, .slice A0_6 n0_6 c0_6, .map (some b0_7)].toArray 89) :: optb (Ow.fl api_Fault.fl) 105 p0_1 a0_1 :: row Fl.bs 9 A0_3 n0_3 c0_3 a0_3 :: row api_Edge.fl 54 A0_4 n0_4 c0_4 a0_4 :: grow api_Prop.ow 57 A0_5 n0_5 c0_5 a0_5 :: row lts_step.fl 113 A0_6 n0_6 c0_6 a0_6 :: mapo Fl.bs.ov Fl.bool.ov b0_7 a0_7 :: Fr = l' ∧ RdS api_Token.fl.rep R.heap w251 r ∧ r.length = w252 ∧ w252 ≤ w253) := by
  subst hn0_0; subst hn0_3; subst hn0_4; subst hn0_5; subst hn0_6; refine Spec.of Go.Proofs.Tryz.func43 rfl rfl ?_; unfold lts_reader_blank.f at hrun; have hrun := brun hrun; refine At.block ?_; obtain ⟨G1079, hl1080, hr1081, hrun⟩ := bjoin hrun; obtain ⟨o1082, hlo1083, ho1084⟩ := bsome hrun; clear hrun; unfold lts_reader_blank.l0 at hlo1083; obtain ⟨m1085, hit1087⟩ := iter_some.1 hlo1083; clear hlo1083; refine At.loopJ (X := (List api_Token) × (Option Addr) × Nat × Nat) (Y := (List api_Token) × (Option Addr) × Nat × Nat) (e0 := 0) (fun s_ => [(0, .pointer (some ⟨b0, 0, none⟩))]) (fun s_ => pt b0 (.cells [.slice s_.2.1 s_.2.2.1 s_.2.2.2, optp p0_1, .int .i64 a0_2, .slice A0_3 a0_3.length c0_3, .slice A0_4 a0_4.length c0_4, .slice A0_5 a0_5.length c0_5, .slice A0_6 a0_6.length c0_6, .map (some b0_7)].toArray 89) :: optb (Ow.fl api_Fault.fl) 105 p0_1 a0_1 :: row Fl.bs 9 A0_3 a0_3.length c0_3 a0_3 :: row api_Edge.fl 54 A0_4 a0_4.length c0_4 a0_4 :: grow api_Prop.ow 57 A0_5 a0_5.length c0_5 a0_5 :: row lts_step.fl 113 A0_6 a0_6.length c0_6 a0_6 :: mapo Fl.bs.ov Fl.bool.ov b0_7 a0_7 :: Fr) (fun m_ => fun s_ => iterN (fun t_ : (List api_Token) => lts_reader_blank.l0b  t_) m_ s_.1 = some o1082 ∧ RdS api_Token.fl.rep R.heap s_.2.1 s_.1 ∧ s_.1.length = s_.2.2.1 ∧ s_.2.2.1 ≤ s_.2.2.2) m1085 (a0_0, A0_0, a0_0.length, c0_0) ⟨hit1087, hr0_0, rfl, hc0_0⟩ (fun s_ => []) (fun s_ => pt b0 (.cells [.slice s_.2.1 s_.2.2.1 s_.2.2.2, optp p0_1, .int .i64 a0_2, .slice A0_3 a0_3.length c0_3, .slice A0_4 a0_4.length c0_4, .slice A0_5 a0_5.length c0_5, .slice A0_6 a0_6.length c0_6, .map (some b0_7)].toArray 89) :: optb (Ow.fl api_Fault.fl) 105 p0_1 a0_1 :: row Fl.bs 9 A0_3 a0_3.length c0_3 a0_3 :: row api_Edge.fl 54 A0_4 a0_4.length c0_4 a0_4 :: grow api_Prop.ow 57 A0_5 a0_5.length c0_5 a0_5 :: row lts_step.fl 113 A0_6 a0_6.length c0_6 a0_6 :: mapo Fl.bs.ov Fl.bool.ov b0_7 a0_7 :: Fr) (fun s_ => G1079 (.inl s_.1) = some r ∧ RdS api_Token.fl.rep R.heap s_.2.1 s_.1 ∧ s_.1.length = s_.2.2.1 ∧ s_.2.2.1 ≤ s_.2.2.2) (fun a w e hs => ⟨e.sub ⟨rfl, trivial⟩, (by exact hs)⟩) ?_ (fun J1089 => ?_)
  · rintro ⟨x1075, w1072, w1073, w1074⟩ ⟨hrun, hr1076, hn1077, hc1078⟩; obtain rfl : x1075.length = w1073 := hn1077; have hrun := (hl1080 _).symm.trans hrun
    · refine At.ibx ?_; obtain rfl := (bret hrun).symm; exact At.res (.inr rfl) rfl rfl ⟨w1072, x1075.length, w1074, rfl, rfl, hr1076, rfl, hc1078⟩
  · clear hit1087 m1085; rintro m1085 ⟨x868, w865, w866, w867⟩ ⟨hit1087, hr869, hn870, hc871⟩; obtain rfl : x868.length = w866 := hn870; obtain ⟨m1086, f_, hlt1088, hf_, hrun⟩ := bit hit1087; clear hit1087; have hrun : (lts_reader_blank.l0b  x868).bind _ = some o1082 := hrun; unfold lts_reader_blank.l0b at hrun
    · refine At.seq ?_; refine At.seq ?_; refine At.region ?_; refine At.run 3 rfl ?_; refine At.y (Y.load rfl rfl .z rfl rfl rfl) rfl rfl rfl ?_; obtain ⟨h1090, hrun⟩ := bnone hrun; refine At.y (Y.ixRd hr869 rfl rfl rfl rfl rfl rfl rfl h1090.1 h1090.2) rfl rfl rfl ?_; refine At.y (Y.fa (RdS.some_ hr869 rfl h1090.1 h1090.2) rfl rfl rfl rfl rfl rfl) rfl rfl rfl ?_; refine At.y (Y.ldFl hr869 rfl (q := 0) rfl rfl h1090.1 h1090.2 rfl rfl rfl) rfl rfl rfl ?_; refine At.run 1 rfl ?_; refine At.nil ?_; refine At.thn ?_; rcases bite hrun with ⟨h1091, hrun⟩ | ⟨h1091, hrun⟩
      · · refine At.condT rfl (decide_eq_true h1091) ?_
          refine At.skip ?_; refine At.thn ?_; refine At.block ?_; refine At.region ?_; refine At.run 4 rfl ?_; refine At.y (Y.load rfl rfl .z rfl rfl rfl) rfl rfl rfl ?_; obtain ⟨h1092, hrun⟩ := bnone hrun; obtain ⟨A1093, hr1094, hc1095, hy1096⟩ := Y.slFromAt (P := Go.Proofs.Tryz.prog) (R := R) rfl hr869 hc871 h1092.1 h1092.2; refine At.y (hy1096 rfl rfl rfl rfl rfl rfl) rfl rfl rfl ?_; refine At.run 2 rfl ?_; refine At.store rfl rfl rfl rfl .z rfl rfl rfl (.c .n) ?_; refine At.nil ?_; refine At.ibn ?_; have hrun := bnx hf_ hrun; exact fun a w e hs => ⟨m1086, ((x868.drop (1 : Int).toNat), A1093, (x868.drop (1 : Int).toNat).length, (w867 - (1 : Int).toNat)), hlt1088, ⟨hrun, hr1094, rfl, hc1095⟩, e.sub ⟨rfl, trivial⟩, hs⟩
      · · refine At.condF rfl (decide_eq_false h1091) ?_
          refine At.exit ?_; refine At.the ?_; refine At.the ?_; exact fun a w e hs => J1089 (x868, w865, x868.length, w867) ⟨(bdn hrun ho1084), hr869, rfl, hc871⟩ a w (e.sub trivial) hs

noncomputable def lts_reader_fail.f (a0_0 : List api_Token) (a0_1 : Option api_Fault) (a0_2 : Int) (a0_3 : List Bs) (a0_4 : List api_Edge) (a0_5 : List api_Prop) (a0_6 : List lts_step) (a0_7 : List (Bs × Bool)) (a1_0 : Int) (a1_1 : Int) (a1_2 : Bs) (a1_3 : Int) (a2 : Int) : Option (Option api_Fault) :=
 if a0_1.isNone = true then
 some (some (⟨a1_1, a2⟩ : api_Fault))
 else
 some a0_1
theorem lts_reader_fail.callee : Callee Go.Proofs.Tryz.prog 47 := ⟨_, Go.Proofs.Tryz.func47, by kernel_rfl, by kernel_rfl⟩
set_option maxRecDepth 100000 in
set_option maxHeartbeats 2000000 in
theorem lts_reader_fail.spec (R : Res) (Fr : List HProp) (b0 : Nat) (A0_0 : Option Addr) (n0_0 : Nat) (c0_0 : Nat) (p0_1 : Option Nat) (A0_3 : Option Addr) (n0_3 : Nat) (c0_3 : Nat) (A0_4 : Option Addr) (n0_4 : Nat) (c0_4 : Nat) (A0_5 : Option Addr) (n0_5 : Nat) (c0_5 : Nat) (A0_6 : Option Addr) (n0_6 : Nat) (c0_6 : Nat) (b0_7 : Nat) (a0_0 : List api_Token) (a0_1 : Option api_Fault) (a0_2 : Int) (a0_3 : List Bs) (a0_4 : List api_Edge) (a0_5 : List api_Prop) (a0_6 : List lts_step) (a0_7 : List (Bs × Bool)) (a1_0 : Int) (a1_1 : Int) (a1_2 : Bs) (a1_3 : Int) (a2 : Int) (hr0_0 : RdS api_Token.fl.rep R.heap A0_0 a0_0) (hn0_0 : a0_0.length = n0_0) (hc0_0 : n0_0 ≤ c0_0) (hn0_3 : a0_3.length = n0_3) (hn0_4 : a0_4.length = n0_4) (hn0_5 : a0_5.length = n0_5) (hn0_6 : a0_6.length = n0_6) {r : (Option api_Fault)} (hrun : lts_reader_fail.f a0_0 a0_1 a0_2 a0_3 a0_4 a0_5 a0_6 a0_7 a1_0 a1_1 a1_2 a1_3 a2 = some r) :
    Spec Go.Proofs.Tryz.prog 47 [.pointer (some ⟨b0, 0, none⟩), .agg #[.int .i64 a1_0, .int .i64 a1_1, .string ⟨(a1_2).toArray⟩, .int .i64 a1_3], .int .i64 a2] R (pt b0 (.cells [.slice A0_0 n0_0 c0_0, optp p0_1, .int .i64 a0_2, .slice A0_3 n0_3 c0_3, .slice A0_4 n0_4 c0_4, .slice A0_5 n0_5 c0_5, .slice A0_6 n0_6 c0_6, .map (some b0_7)].toArray 89) :: optb (Ow.fl api_Fault.fl) 105 p0_1 a0_1 :: row Fl.bs 9 A0_3 n0_3 c0_3 a0_3 :: row api_Edge.fl 54 A0_4 n0_4 c0_4 a0_4 :: grow api_Prop.ow 57 A0_5 n0_5 c0_5 a0_5 :: row lts_step.fl 113 A0_6 n0_6 c0_6 a0_6 :: mapo Fl.bs.ov Fl.bool.ov b0_7 a0_7 :: Fr) (fun v l' => ∃ (w251 : Option Nat), v = .tuple #[] ∧ optb (Ow.fl api_Fault.fl) 105 w251 r :: pt b0 (.cells [.slice A0_0 n0_0 c0_0, optp w251, .int .i64 a0_2, .slice A0_3 n0_3 c0_3, .slice A0_4 n0_4 c0_4, .slice A0_5 n0_5 c0_5, .slice A0_6 n0_6 c0_6, .map (some b0_7)].toArray 89) :: row Fl.bs 9 A0_3 n0_3 c0_3 a0_3 :: row api_Edge.fl 54 A0_4 n0_4 c0_4 a0_4 :: grow api_Prop.ow 57 A0_5 n0_5 c0_5 a0_5 :: row lts_step.fl 113 A0_6 n0_6 c0_6 a0_6 :: mapo Fl.bs.ov Fl.bool.ov b0_7 a0_7 :: Fr = l') := by
  subst hn0_0; subst hn0_3; subst hn0_4; subst hn0_5; subst hn0_6; refine Spec.of Go.Proofs.Tryz.func47 rfl rfl ?_; unfold lts_reader_fail.f at hrun; have hrun := brun hrun; refine At.seq ?_; refine At.region ?_; refine At.box rfl rfl (cs := [.int .i64 a1_0, .int .i64 a1_1, .string ⟨(a1_2).toArray⟩, .int .i64 a1_3]) rfl rfl (fun b254 => ?_); refine At.nil ?_; refine At.thn ?_; refine At.seq ?_; refine At.region ?_; refine At.run 3 rfl ?_; refine At.y (Y.load rfl rfl (.s .z) rfl rfl rfl) rfl rfl rfl ?_; refine At.y (Y.eqOpt (.s (.s .z)) rfl rfl rfl rfl) rfl rfl rfl ?_; refine At.nil ?_; refine At.thn ?_; rcases bite hrun with ⟨h255, hrun⟩ | ⟨h255, hrun⟩
  · · refine At.condT rfl h255 ?_
      refine At.region ?_; refine At.run 2 rfl ?_; refine At.y (Y.load rfl rfl .z rfl rfl rfl) rfl rfl rfl ?_; refine At.run 1 rfl ?_; refine At.y (Y.build (is := [0, 1]) (xo := [.tmp 13, .tmp 14]) (vs := [.int .i64 a1_1, .int .i64 a2]) (cs := [.int .i64 a1_1, .int .i64 a2]) rfl rfl rfl rfl rfl rfl) rfl rfl rfl ?_; refine At.box rfl rfl (cs := [.int .i64 a1_1, .int .i64 a2]) rfl rfl (fun b256 => ?_); refine At.run 2 rfl ?_; refine At.store rfl rfl rfl rfl (.s (.s .z)) rfl rfl rfl (.s (.c .n)) ?_; refine At.nil ?_; refine At.frt (.s .z) ?_; refine At.optSome (x := (⟨a1_1, a2⟩ : api_Fault)) (Ent.fl api_Fault.fl (x := (⟨a1_1, a2⟩ : api_Fault)) rfl) ?_; refine At.drop (.s (.s .z)) ?_; refine At.drop (.s (.s .z)) ?_; obtain rfl := (bret hrun).symm; exact At.res (.inr rfl) rfl rfl ⟨(some b256), rfl, rfl⟩
  · · refine At.condF rfl (bn h255) ?_
      refine At.skip ?_; refine At.drop .z ?_; refine At.frt (.s (.s (.s (.s (.s (.s .z)))))) ?_; refine At.frt (.s (.s (.s (.s (.s (.s .z)))))) ?_; refine At.frt (.s (.s (.s (.s (.s (.s .z)))))) ?_; refine At.frt (.s (.s (.s (.s (.s (.s .z)))))) ?_; refine At.frt (.s (.s (.s (.s (.s (.s .z)))))) ?_; refine At.frt (.s (.s (.s (.s (.s .z))))) ?_; refine At.frt (.s (.s (.s (.s (.s (.s .z)))))) ?_; obtain rfl := (bret hrun).symm; exact At.res (.inr rfl) rfl rfl ⟨p0_1, rfl, rfl⟩

noncomputable def lts_reader_want.f (a0_0 : List api_Token) (a0_1 : Option api_Fault) (a0_2 : Int) (a0_3 : List Bs) (a0_4 : List api_Edge) (a0_5 : List api_Prop) (a0_6 : List lts_step) (a0_7 : List (Bs × Bool)) (a1 : Int) : Option ((Option api_Fault) × (List api_Token) × Int × Int × Bs × Int) :=
 if a0_1.isNone = true then
 if (0 : Int) ≤ 0 ∧ 0 < (a0_0.length : Int) then
 jn (
 if (gt a0_0 0).Kind = a1 then
 if (0 : Int) ≤ 1 ∧ 1 ≤ (a0_0.length : Int) then
 up (some (a0_1, (a0_0.drop (1 : Int).toNat), (gt a0_0 0).Kind, (gt a0_0 0).At, (gt a0_0 0).Text, (gt a0_0 0).Number))
 else none
 else
 if (gt a0_0 0).Kind = 0 then
 (lts_reader_fail.f a0_0 a0_1 a0_2 a0_3 a0_4 a0_5 a0_6 a0_7 ((gt a0_0 0).Kind) ((gt a0_0 0).At) ((gt a0_0 0).Text) ((gt a0_0 0).Number) 6).bind fun t485 =>
 some (.inl t485)
 else
 (lts_reader_fail.f a0_0 a0_1 a0_2 a0_3 a0_4 a0_5 a0_6 a0_7 ((gt a0_0 0).Kind) ((gt a0_0 0).At) ((gt a0_0 0).Text) ((gt a0_0 0).Number) 7).bind fun t489 =>
 some (.inl t489)) (fun (x477 : Option api_Fault) =>
 some (x477, a0_0, 0, 0, ([] : Bs), 0))
 else none
 else
 some (a0_1, a0_0, 0, 0, ([] : Bs), 0)
theorem lts_reader_want.callee : Callee Go.Proofs.Tryz.prog 44 := ⟨_, Go.Proofs.Tryz.func44, by kernel_rfl, by kernel_rfl⟩
set_option maxRecDepth 100000 in
set_option maxHeartbeats 2000000 in
theorem lts_reader_want.spec (R : Res) (Fr : List HProp) (b0 : Nat) (A0_0 : Option Addr) (n0_0 : Nat) (c0_0 : Nat) (p0_1 : Option Nat) (A0_3 : Option Addr) (n0_3 : Nat) (c0_3 : Nat) (A0_4 : Option Addr) (n0_4 : Nat) (c0_4 : Nat) (A0_5 : Option Addr) (n0_5 : Nat) (c0_5 : Nat) (A0_6 : Option Addr) (n0_6 : Nat) (c0_6 : Nat) (b0_7 : Nat) (a0_0 : List api_Token) (a0_1 : Option api_Fault) (a0_2 : Int) (a0_3 : List Bs) (a0_4 : List api_Edge) (a0_5 : List api_Prop) (a0_6 : List lts_step) (a0_7 : List (Bs × Bool)) (a1 : Int) (hr0_0 : RdS api_Token.fl.rep R.heap A0_0 a0_0) (hn0_0 : a0_0.length = n0_0) (hc0_0 : n0_0 ≤ c0_0) (hn0_3 : a0_3.length = n0_3) (hn0_4 : a0_4.length = n0_4) (hn0_5 : a0_5.length = n0_5) (hn0_6 : a0_6.length = n0_6) {r : (Option api_Fault) × (List api_Token) × Int × Int × Bs × Int} (hrun : lts_reader_want.f a0_0 a0_1 a0_2 a0_3 a0_4 a0_5 a0_6 a0_7 a1 = some r) :
    Spec Go.Proofs.Tryz.prog 44 [.pointer (some ⟨b0, 0, none⟩), .int .i64 a1] R (pt b0 (.cells [.slice A0_0 n0_0 c0_0, optp p0_1, .int .i64 a0_2, .slice A0_3 n0_3 c0_3, .slice A0_4 n0_4 c0_4, .slice A0_5 n0_5 c0_5, .slice A0_6 n0_6 c0_6, .map (some b0_7)].toArray 89) :: optb (Ow.fl api_Fault.fl) 105 p0_1 a0_1 :: row Fl.bs 9 A0_3 n0_3 c0_3 a0_3 :: row api_Edge.fl 54 A0_4 n0_4 c0_4 a0_4 :: grow api_Prop.ow 57 A0_5 n0_5 c0_5 a0_5 :: row lts_step.fl 113 A0_6 n0_6 c0_6 a0_6 :: mapo Fl.bs.ov Fl.bool.ov b0_7 a0_7 :: Fr) (fun v l' => ∃ (w252 : Option Nat) (w258 : Option Addr) (w259 : Nat) (w260 : Nat), v = .agg #[.int .i64 r.2.2.1, .int .i64 r.2.2.2.1, .string ⟨(r.2.2.2.2.1).toArray⟩, .int .i64 r.2.2.2.2.2] ∧ optb (Ow.fl api_Fault.fl) 105 w252 r.1 :: pt b0 (.cells [.slice w258 w259 w260, optp w252, .int .i64 a0_2, .slice A0_3 n0_3 c0_3, .slice A0_4 n0_4 c0_4, .slice A0_5 n0_5 c0_5, .slice A0_6 n0_6 c0_6, .map (some b0_7)].toArray 89) :: row Fl.bs 9 A0_3 n0_3 c0_3 a0_3 :: row api_Edge.fl 54 A0_4 n0_4 c0_4 a0_4 :: grow api_Prop.ow 57 A0_5 n0_5 c0_5 a0_5 :: row lts_step.fl 113 A0_6 n0_6 c0_6 a0_6 :: mapo Fl.bs.ov Fl.bool.ov b0_7 a0_7 :: Fr = l' ∧ RdS api_Token.fl.rep R.heap w258 r.2.1 ∧ r.2.1.length = w259 ∧ w259 ≤ w260) := by
  subst hn0_0; subst hn0_3; subst hn0_4; subst hn0_5; subst hn0_6; refine Spec.of Go.Proofs.Tryz.func44 rfl rfl ?_; unfold lts_reader_want.f at hrun; have hrun := brun hrun; refine At.seq ?_; refine At.region ?_; refine At.alloc rfl rfl rfl (fun b269 => ?_); refine At.nil ?_; refine At.thn ?_; refine At.seq ?_; refine At.seq ?_; refine At.region ?_; refine At.run 3 rfl ?_; refine At.y (Y.load rfl rfl (.s .z) rfl rfl rfl) rfl rfl rfl ?_; refine At.y (Y.neOpt (.s (.s .z)) rfl rfl rfl rfl) rfl rfl rfl ?_; refine At.nil ?_; refine At.thn ?_; rcases bite hrun with ⟨h270, hrun⟩ | ⟨h270, hrun⟩
  · · refine At.condF rfl (nf h270) ?_
      refine At.skip ?_; refine At.thn ?_; refine At.seq ?_; refine At.region ?_; refine At.run 3 rfl ?_; refine At.y (Y.load rfl rfl (.s .z) rfl rfl rfl) rfl rfl rfl ?_; obtain ⟨h271, hrun⟩ := bnone hrun; refine At.y (Y.ixRd hr0_0 rfl rfl rfl rfl rfl rfl rfl h271.1 h271.2) rfl rfl rfl ?_; refine At.y (Y.ldFl hr0_0 rfl (q := 0) rfl rfl h271.1 h271.2 rfl rfl rfl) rfl rfl rfl ?_; refine At.store rfl rfl rfl rfl .z rfl rfl rfl (.c (.c (.c (.c .n)))) ?_; refine At.nil ?_; refine At.thn ?_; refine At.seq ?_; obtain ⟨G272, hl273, hr274, hrun⟩ := bjoin hrun; refine At.join (X := (Option api_Fault) × (Option Nat)) (fun s_ => [(4, .pointer (some ⟨b269, 0, none⟩))]) (fun s_ => optb (Ow.fl api_Fault.fl) 105 s_.2 s_.1 :: pt b0 (.cells [.slice A0_0 a0_0.length c0_0, optp s_.2, .int .i64 a0_2, .slice A0_3 a0_3.length c0_3, .slice A0_4 a0_4.length c0_4, .slice A0_5 a0_5.length c0_5, .slice A0_6 a0_6.length c0_6, .map (some b0_7)].toArray 89) :: row Fl.bs 9 A0_3 a0_3.length c0_3 a0_3 :: row api_Edge.fl 54 A0_4 a0_4.length c0_4 a0_4 :: grow api_Prop.ow 57 A0_5 a0_5.length c0_5 a0_5 :: row lts_step.fl 113 A0_6 a0_6.length c0_6 a0_6 :: mapo Fl.bs.ov Fl.bool.ov b0_7 a0_7 :: pt b269 (.cells [.int .i64 ((gt a0_0 0).Kind), .int .i64 ((gt a0_0 0).At), .string ⟨((gt a0_0 0).Text).toArray⟩, .int .i64 ((gt a0_0 0).Number)].toArray 91) :: Fr) (fun s_ => G272 (.inl s_.1) = some r) ?_ (fun J275 => ?_)
      · rintro ⟨x477, w476⟩ hrun; have hrun := (hl273 _).symm.trans hrun
        · refine At.seq ?_; refine At.region ?_; refine At.y (Y.build (is := []) (xo := []) (vs := []) (cs := [.int .i64 0, .int .i64 0, .string ⟨(([] : Bs)).toArray⟩, .int .i64 0]) rfl rfl rfl rfl rfl rfl) rfl rfl rfl ?_; refine At.store rfl rfl rfl rfl (.s (.s (.s (.s (.s (.s (.s .z))))))) rfl rfl rfl (.c (.c (.c (.c .n)))) ?_; refine At.nil ?_; refine At.thn ?_; refine At.ret ?_; refine At.resM (.inl rfl) rfl (RV.cell rfl rfl .z rfl rfl rfl RV.nil) ?_; refine At.drop .z ?_; obtain rfl := (bret hrun).symm; exact fun a w e hs => ⟨_, ⟨w476, A0_0, a0_0.length, c0_0, rfl, rfl, hr0_0, rfl, hc0_0⟩, hs⟩
      · · refine At.block ?_
          refine At.seq ?_; refine At.region ?_; refine At.run 1 rfl ?_; refine At.y (Y.load rfl rfl .z rfl rfl rfl) rfl rfl rfl ?_; refine At.run 3 rfl ?_; refine At.nil ?_; refine At.thn ?_; rcases bite hrun with ⟨h478, hrun⟩ | ⟨h478, hrun⟩
          · · refine At.condT rfl (decide_eq_true h478) ?_
              refine At.seq ?_; refine At.region ?_; refine At.run 4 rfl ?_; refine At.y (Y.load rfl rfl (.s .z) rfl rfl rfl) rfl rfl rfl ?_; obtain ⟨h479, hrun⟩ := bnone hrun; obtain ⟨A480, hr481, hc482, hy483⟩ := Y.slFromAt (P := Go.Proofs.Tryz.prog) (R := R) rfl hr0_0 hc0_0 h479.1 h479.2; refine At.y (hy483 rfl rfl rfl rfl rfl rfl) rfl rfl rfl ?_; refine At.run 2 rfl ?_; refine At.store rfl rfl rfl rfl (.s .z) rfl rfl rfl (.c .n) ?_; refine At.nil ?_; refine At.thn ?_; refine At.seq ?_; refine At.region ?_; refine At.y (Y.load rfl rfl (.s .z) rfl rfl rfl) rfl rfl rfl ?_; refine At.store rfl rfl rfl rfl (.s .z) rfl rfl rfl (.c (.c (.c (.c .n)))) ?_; refine At.nil ?_; refine At.thn ?_; refine At.ret ?_; refine At.ibr ?_; have hrun := bup hr274 hrun; refine At.thr ?_; refine At.resM (.inl rfl) rfl (RV.cell rfl rfl .z rfl rfl rfl RV.nil) ?_; refine At.drop .z ?_; refine At.frt (.s (.s (.s (.s (.s (.s .z)))))) ?_; refine At.frt (.s (.s (.s (.s (.s (.s .z)))))) ?_; refine At.frt (.s (.s (.s (.s (.s (.s .z)))))) ?_; refine At.frt (.s (.s (.s (.s (.s (.s .z)))))) ?_; refine At.frt (.s (.s (.s (.s (.s (.s .z)))))) ?_; refine At.frt (.s (.s (.s (.s (.s .z))))) ?_; refine At.frt (.s (.s (.s (.s (.s (.s .z)))))) ?_; obtain rfl := (bret hrun).symm; exact fun a w e hs => ⟨_, ⟨p0_1, A480, (a0_0.drop (1 : Int).toNat).length, (c0_0 - (1 : Int).toNat), rfl, rfl, hr481, rfl, hc482⟩, hs⟩
          · · refine At.condF rfl (decide_eq_false h478) ?_
              refine At.seq ?_; refine At.region ?_; refine At.run 1 rfl ?_; refine At.y (Y.load rfl rfl .z rfl rfl rfl) rfl rfl rfl ?_; refine At.run 2 rfl ?_; refine At.nil ?_; refine At.thn ?_; rcases bite hrun with ⟨h484, hrun⟩ | ⟨h484, hrun⟩
              · · refine At.condT rfl (decide_eq_true h484) ?_
                  refine At.region ?_; refine At.run 1 rfl ?_; refine At.y (Y.load rfl rfl .z rfl rfl rfl) rfl rfl rfl ?_; refine At.frt (.s (.s (.s (.s (.s (.s (.s .z))))))) ?_; refine At.frt (.s (.s (.s (.s (.s (.s (.s .z))))))) ?_; refine At.frt (.s (.s (.s (.s (.s (.s (.s .z))))))) ?_; refine At.frt (.s (.s (.s (.s (.s (.s (.s .z))))))) ?_; refine At.frt (.s (.s (.s (.s (.s (.s (.s .z))))))) ?_; refine At.frt (.s (.s (.s (.s (.s (.s (.s .z))))))) ?_; refine At.frt (.s (.s (.s (.s (.s (.s (.s .z))))))) ?_; obtain ⟨t485, hc486, hrun⟩ := bbind hrun; refine At.call rfl lts_reader_fail.callee rfl rfl rfl (lts_reader_fail.spec _ _ b0 A0_0 a0_0.length c0_0 p0_1 A0_3 a0_3.length c0_3 A0_4 a0_4.length c0_4 A0_5 a0_5.length c0_5 A0_6 a0_6.length c0_6 b0_7 a0_0 a0_1 a0_2 a0_3 a0_4 a0_5 a0_6 a0_7 ((gt a0_0 0).Kind) ((gt a0_0 0).At) ((gt a0_0 0).Text) ((gt a0_0 0).Number) 6 hr0_0 rfl hc0_0 rfl rfl rfl rfl hc486) ?_; rintro _ _ ⟨w487, rfl, rfl⟩; refine At.nil ?_; refine At.ibn ?_; refine At.thn ?_; exact fun a w e hs => J275 (t485, w487) hrun a w (e.sub ⟨rfl, trivial⟩) hs
              · · refine At.condF rfl (decide_eq_false h484) ?_
                  refine At.region ?_; refine At.run 1 rfl ?_; refine At.y (Y.load rfl rfl .z rfl rfl rfl) rfl rfl rfl ?_; refine At.frt (.s (.s (.s (.s (.s (.s (.s .z))))))) ?_; refine At.frt (.s (.s (.s (.s (.s (.s (.s .z))))))) ?_; refine At.frt (.s (.s (.s (.s (.s (.s (.s .z))))))) ?_; refine At.frt (.s (.s (.s (.s (.s (.s (.s .z))))))) ?_; refine At.frt (.s (.s (.s (.s (.s (.s (.s .z))))))) ?_; refine At.frt (.s (.s (.s (.s (.s (.s (.s .z))))))) ?_; refine At.frt (.s (.s (.s (.s (.s (.s (.s .z))))))) ?_; obtain ⟨t489, hc490, hrun⟩ := bbind hrun; refine At.call rfl lts_reader_fail.callee rfl rfl rfl (lts_reader_fail.spec _ _ b0 A0_0 a0_0.length c0_0 p0_1 A0_3 a0_3.length c0_3 A0_4 a0_4.length c0_4 A0_5 a0_5.length c0_5 A0_6 a0_6.length c0_6 b0_7 a0_0 a0_1 a0_2 a0_3 a0_4 a0_5 a0_6 a0_7 ((gt a0_0 0).Kind) ((gt a0_0 0).At) ((gt a0_0 0).Text) ((gt a0_0 0).Number) 7 hr0_0 rfl hc0_0 rfl rfl rfl rfl hc490) ?_; rintro _ _ ⟨w491, rfl, rfl⟩; refine At.nil ?_; refine At.ibn ?_; refine At.thn ?_; exact fun a w e hs => J275 (t489, w491) hrun a w (e.sub ⟨rfl, trivial⟩) hs
  · · refine At.condT rfl (nt (bn h270)) ?_
      refine At.seq ?_; refine At.region ?_; refine At.y (Y.load rfl rfl .z rfl rfl rfl) rfl rfl rfl ?_; refine At.store rfl rfl rfl rfl .z rfl rfl rfl (.c (.c (.c (.c .n)))) ?_; refine At.nil ?_; refine At.thn ?_; refine At.ret ?_; refine At.thr ?_; refine At.resM (.inl rfl) rfl (RV.cell rfl rfl .z rfl rfl rfl RV.nil) ?_; refine At.drop .z ?_; refine At.frt (.s (.s (.s (.s (.s (.s .z)))))) ?_; refine At.frt (.s (.s (.s (.s (.s (.s .z)))))) ?_; refine At.frt (.s (.s (.s (.s (.s (.s .z)))))) ?_; refine At.frt (.s (.s (.s (.s (.s (.s .z)))))) ?_; refine At.frt (.s (.s (.s (.s (.s (.s .z)))))) ?_; refine At.frt (.s (.s (.s (.s (.s .z))))) ?_; refine At.frt (.s (.s (.s (.s (.s (.s .z)))))) ?_; obtain rfl := (bret hrun).symm; exact fun a w e hs => ⟨_, ⟨p0_1, A0_0, a0_0.length, c0_0, rfl, rfl, hr0_0, rfl, hc0_0⟩, hs⟩

noncomputable def lts_reader_ends.f (a0_0 : List api_Token) (a0_1 : Option api_Fault) (a0_2 : Int) (a0_3 : List Bs) (a0_4 : List api_Edge) (a0_5 : List api_Prop) (a0_6 : List lts_step) (a0_7 : List (Bs × Bool)) : Option Bool :=
 if (0 : Int) ≤ 0 ∧ 0 < (a0_0.length : Int) then
 jn (
 if (gt a0_0 0).Kind = 0 then
 some (.inl true)
 else
 some (.inl (decide ((gt a0_0 0).Kind = 1)))) (fun (x453 : Bool) =>
 some x453)
 else none
theorem lts_reader_ends.callee : Callee Go.Proofs.Tryz.prog 66 := ⟨_, Go.Proofs.Tryz.func66, by kernel_rfl, by kernel_rfl⟩
set_option maxRecDepth 100000 in
set_option maxHeartbeats 2000000 in
theorem lts_reader_ends.spec (R : Res) (Fr : List HProp) (b0 : Nat) (A0_0 : Option Addr) (n0_0 : Nat) (c0_0 : Nat) (p0_1 : Option Nat) (A0_3 : Option Addr) (n0_3 : Nat) (c0_3 : Nat) (A0_4 : Option Addr) (n0_4 : Nat) (c0_4 : Nat) (A0_5 : Option Addr) (n0_5 : Nat) (c0_5 : Nat) (A0_6 : Option Addr) (n0_6 : Nat) (c0_6 : Nat) (b0_7 : Nat) (a0_0 : List api_Token) (a0_1 : Option api_Fault) (a0_2 : Int) (a0_3 : List Bs) (a0_4 : List api_Edge) (a0_5 : List api_Prop) (a0_6 : List lts_step) (a0_7 : List (Bs × Bool)) (hr0_0 : RdS api_Token.fl.rep R.heap A0_0 a0_0) (hn0_0 : a0_0.length = n0_0) (hc0_0 : n0_0 ≤ c0_0) (hn0_3 : a0_3.length = n0_3) (hn0_4 : a0_4.length = n0_4) (hn0_5 : a0_5.length = n0_5) (hn0_6 : a0_6.length = n0_6) {r : Bool} (hrun : lts_reader_ends.f a0_0 a0_1 a0_2 a0_3 a0_4 a0_5 a0_6 a0_7 = some r) :
    Spec Go.Proofs.Tryz.prog 66 [.pointer (some ⟨b0, 0, none⟩)] R (pt b0 (.cells [.slice A0_0 n0_0 c0_0, optp p0_1, .int .i64 a0_2, .slice A0_3 n0_3 c0_3, .slice A0_4 n0_4 c0_4, .slice A0_5 n0_5 c0_5, .slice A0_6 n0_6 c0_6, .map (some b0_7)].toArray 89) :: optb (Ow.fl api_Fault.fl) 105 p0_1 a0_1 :: row Fl.bs 9 A0_3 n0_3 c0_3 a0_3 :: row api_Edge.fl 54 A0_4 n0_4 c0_4 a0_4 :: grow api_Prop.ow 57 A0_5 n0_5 c0_5 a0_5 :: row lts_step.fl 113 A0_6 n0_6 c0_6 a0_6 :: mapo Fl.bs.ov Fl.bool.ov b0_7 a0_7 :: Fr) (fun v l' => v = .bool r ∧ pt b0 (.cells [.slice A0_0 n0_0 c0_0, optp p0_1, .int .i64 a0_2, .slice A0_3 n0_3 c0_3, .slice A0_4 n0_4 c0_4, .slice A0_5 n0_5 c0_5, .slice A0_6 n0_6 c0_6, .map (some b0_7)].toArray 89) :: optb (Ow.fl api_Fault.fl) 105 p0_1 a0_1 :: row Fl.bs 9 A0_3 n0_3 c0_3 a0_3 :: row api_Edge.fl 54 A0_4 n0_4 c0_4 a0_4 :: grow api_Prop.ow 57 A0_5 n0_5 c0_5 a0_5 :: row lts_step.fl 113 A0_6 n0_6 c0_6 a0_6 :: mapo Fl.bs.ov Fl.bool.ov b0_7 a0_7 :: Fr = l') := by
  subst hn0_0; subst hn0_3; subst hn0_4; subst hn0_5; subst hn0_6; refine Spec.of Go.Proofs.Tryz.func66 rfl rfl ?_; unfold lts_reader_ends.f at hrun; have hrun := brun hrun; refine At.seq ?_; refine At.region ?_; refine At.run 1 rfl ?_; refine At.nil ?_; refine At.thn ?_; refine At.seq ?_; refine At.region ?_; refine At.run 3 rfl ?_; refine At.y (Y.load rfl rfl .z rfl rfl rfl) rfl rfl rfl ?_; obtain ⟨h252, hrun⟩ := bnone hrun; refine At.y (Y.ixRd hr0_0 rfl rfl rfl rfl rfl rfl rfl h252.1 h252.2) rfl rfl rfl ?_; refine At.y (Y.fa (RdS.some_ hr0_0 rfl h252.1 h252.2) rfl rfl rfl rfl rfl rfl) rfl rfl rfl ?_; refine At.y (Y.ldFl hr0_0 rfl (q := 0) rfl rfl h252.1 h252.2 rfl rfl rfl) rfl rfl rfl ?_; refine At.run 2 rfl ?_; obtain ⟨G454, hl455, hr456, hrun⟩ := bjoin hrun; refine At.joinO 9 (X := Bool) (fun x453 => [(20, .bool x453)]) (fun x453 => pt b0 (.cells [.slice A0_0 a0_0.length c0_0, optp p0_1, .int .i64 a0_2, .slice A0_3 a0_3.length c0_3, .slice A0_4 a0_4.length c0_4, .slice A0_5 a0_5.length c0_5, .slice A0_6 a0_6.length c0_6, .map (some b0_7)].toArray 89) :: optb (Ow.fl api_Fault.fl) 105 p0_1 a0_1 :: row Fl.bs 9 A0_3 a0_3.length c0_3 a0_3 :: row api_Edge.fl 54 A0_4 a0_4.length c0_4 a0_4 :: grow api_Prop.ow 57 A0_5 a0_5.length c0_5 a0_5 :: row lts_step.fl 113 A0_6 a0_6.length c0_6 a0_6 :: mapo Fl.bs.ov Fl.bool.ov b0_7 a0_7 :: Fr) (fun x453 => G454 (.inl x453) = some r) ?_ (fun J457 => ?_)
  · rintro x453 hrun; have hrun := (hl455 _).symm.trans hrun
    · refine At.run 1 rfl ?_; refine At.nil ?_; refine At.thn ?_; refine At.ret ?_; obtain rfl := (bret hrun).symm; exact At.res (.inl rfl) rfl rfl ⟨rfl, rfl⟩
  · · rcases bite hrun with ⟨h458, hrun⟩ | ⟨h458, hrun⟩
      · · refine At.know (t := 11) rfl (decide_eq_true h458) ?_
          refine At.run 9 rfl ?_; exact At.of (J457 true hrun) ⟨rfl, trivial⟩
      · · refine At.know (t := 11) rfl (decide_eq_false h458) ?_
          refine At.run 3 rfl ?_; refine At.y (Y.load rfl rfl .z rfl rfl rfl) rfl rfl rfl ?_; refine At.y (Y.ixRd hr0_0 rfl rfl rfl rfl rfl rfl rfl h252.1 h252.2) rfl rfl rfl ?_; refine At.y (Y.fa (RdS.some_ hr0_0 rfl h252.1 h252.2) rfl rfl rfl rfl rfl rfl) rfl rfl rfl ?_; refine At.y (Y.ldFl hr0_0 rfl (q := 0) rfl rfl h252.1 h252.2 rfl rfl rfl) rfl rfl rfl ?_; refine At.run 2 rfl ?_; exact At.of (J457 (decide ((gt a0_0 0).Kind = 1)) hrun) ⟨rfl, trivial⟩

noncomputable def lts_reader_end.f (a0_0 : List api_Token) (a0_1 : Option api_Fault) (a0_2 : Int) (a0_3 : List Bs) (a0_4 : List api_Edge) (a0_5 : List api_Prop) (a0_6 : List lts_step) (a0_7 : List (Bs × Bool)) : Option (Option api_Fault) :=
 (lts_reader_ends.f a0_0 a0_1 a0_2 a0_3 a0_4 a0_5 a0_6 a0_7).bind fun t253 =>
 if t253 = true then
 some a0_1
 else
 if (0 : Int) ≤ 0 ∧ 0 < (a0_0.length : Int) then
 (lts_reader_fail.f a0_0 a0_1 a0_2 a0_3 a0_4 a0_5 a0_6 a0_7 ((gt a0_0 0).Kind) ((gt a0_0 0).At) ((gt a0_0 0).Text) ((gt a0_0 0).Number) 7).bind fun t257 =>
 some t257
 else none
theorem lts_reader_end.callee : Callee Go.Proofs.Tryz.prog 60 := ⟨_, Go.Proofs.Tryz.func60, by kernel_rfl, by kernel_rfl⟩
set_option maxRecDepth 100000 in
set_option maxHeartbeats 2000000 in
theorem lts_reader_end.spec (R : Res) (Fr : List HProp) (b0 : Nat) (A0_0 : Option Addr) (n0_0 : Nat) (c0_0 : Nat) (p0_1 : Option Nat) (A0_3 : Option Addr) (n0_3 : Nat) (c0_3 : Nat) (A0_4 : Option Addr) (n0_4 : Nat) (c0_4 : Nat) (A0_5 : Option Addr) (n0_5 : Nat) (c0_5 : Nat) (A0_6 : Option Addr) (n0_6 : Nat) (c0_6 : Nat) (b0_7 : Nat) (a0_0 : List api_Token) (a0_1 : Option api_Fault) (a0_2 : Int) (a0_3 : List Bs) (a0_4 : List api_Edge) (a0_5 : List api_Prop) (a0_6 : List lts_step) (a0_7 : List (Bs × Bool)) (hr0_0 : RdS api_Token.fl.rep R.heap A0_0 a0_0) (hn0_0 : a0_0.length = n0_0) (hc0_0 : n0_0 ≤ c0_0) (hn0_3 : a0_3.length = n0_3) (hn0_4 : a0_4.length = n0_4) (hn0_5 : a0_5.length = n0_5) (hn0_6 : a0_6.length = n0_6) {r : (Option api_Fault)} (hrun : lts_reader_end.f a0_0 a0_1 a0_2 a0_3 a0_4 a0_5 a0_6 a0_7 = some r) :
    Spec Go.Proofs.Tryz.prog 60 [.pointer (some ⟨b0, 0, none⟩)] R (pt b0 (.cells [.slice A0_0 n0_0 c0_0, optp p0_1, .int .i64 a0_2, .slice A0_3 n0_3 c0_3, .slice A0_4 n0_4 c0_4, .slice A0_5 n0_5 c0_5, .slice A0_6 n0_6 c0_6, .map (some b0_7)].toArray 89) :: optb (Ow.fl api_Fault.fl) 105 p0_1 a0_1 :: row Fl.bs 9 A0_3 n0_3 c0_3 a0_3 :: row api_Edge.fl 54 A0_4 n0_4 c0_4 a0_4 :: grow api_Prop.ow 57 A0_5 n0_5 c0_5 a0_5 :: row lts_step.fl 113 A0_6 n0_6 c0_6 a0_6 :: mapo Fl.bs.ov Fl.bool.ov b0_7 a0_7 :: Fr) (fun v l' => ∃ (w251 : Option Nat), v = .tuple #[] ∧ pt b0 (.cells [.slice A0_0 n0_0 c0_0, optp w251, .int .i64 a0_2, .slice A0_3 n0_3 c0_3, .slice A0_4 n0_4 c0_4, .slice A0_5 n0_5 c0_5, .slice A0_6 n0_6 c0_6, .map (some b0_7)].toArray 89) :: optb (Ow.fl api_Fault.fl) 105 w251 r :: row Fl.bs 9 A0_3 n0_3 c0_3 a0_3 :: row api_Edge.fl 54 A0_4 n0_4 c0_4 a0_4 :: grow api_Prop.ow 57 A0_5 n0_5 c0_5 a0_5 :: row lts_step.fl 113 A0_6 n0_6 c0_6 a0_6 :: mapo Fl.bs.ov Fl.bool.ov b0_7 a0_7 :: Fr = l') := by
  subst hn0_0; subst hn0_3; subst hn0_4; subst hn0_5; subst hn0_6; refine Spec.of Go.Proofs.Tryz.func60 rfl rfl ?_; unfold lts_reader_end.f at hrun; have hrun := brun hrun; refine At.seq ?_; refine At.region ?_; refine At.run 1 rfl ?_; obtain ⟨t253, hc254, hrun⟩ := bbind hrun; refine At.call rfl lts_reader_ends.callee rfl rfl rfl (lts_reader_ends.spec _ _ b0 A0_0 a0_0.length c0_0 p0_1 A0_3 a0_3.length c0_3 A0_4 a0_4.length c0_4 A0_5 a0_5.length c0_5 A0_6 a0_6.length c0_6 b0_7 a0_0 a0_1 a0_2 a0_3 a0_4 a0_5 a0_6 a0_7 hr0_0 rfl hc0_0 rfl rfl rfl rfl hc254) ?_; rintro _ _ ⟨rfl, rfl⟩; refine At.run 1 rfl ?_; refine At.nil ?_; refine At.thn ?_; rcases bite hrun with ⟨h255, hrun⟩ | ⟨h255, hrun⟩
  · · refine At.condF rfl (nf h255) ?_
      refine At.skip ?_; obtain rfl := (bret hrun).symm; exact At.res (.inr rfl) rfl rfl ⟨p0_1, rfl, rfl⟩
  · · refine At.condT rfl (nt (bn h255)) ?_
      refine At.region ?_; refine At.run 4 rfl ?_; refine At.y (Y.load rfl rfl .z rfl rfl rfl) rfl rfl rfl ?_; obtain ⟨h256, hrun⟩ := bnone hrun; refine At.y (Y.ixRd hr0_0 rfl rfl rfl rfl rfl rfl rfl h256.1 h256.2) rfl rfl rfl ?_; refine At.y (Y.ldFl hr0_0 rfl (q := 0) rfl rfl h256.1 h256.2 rfl rfl rfl) rfl rfl rfl ?_; obtain ⟨t257, hc258, hrun⟩ := bbind hrun; refine At.call rfl lts_reader_fail.callee rfl rfl rfl (lts_reader_fail.spec _ _ b0 A0_0 a0_0.length c0_0 p0_1 A0_3 a0_3.length c0_3 A0_4 a0_4.length c0_4 A0_5 a0_5.length c0_5 A0_6 a0_6.length c0_6 b0_7 a0_0 a0_1 a0_2 a0_3 a0_4 a0_5 a0_6 a0_7 ((gt a0_0 0).Kind) ((gt a0_0 0).At) ((gt a0_0 0).Text) ((gt a0_0 0).Number) 7 hr0_0 rfl hc0_0 rfl rfl rfl rfl hc258) ?_; rintro _ _ ⟨w259, rfl, rfl⟩; refine At.nil ?_; refine At.frt (.s (.s (.s (.s (.s (.s .z)))))) ?_; refine At.frt (.s (.s (.s (.s (.s (.s .z)))))) ?_; refine At.frt (.s (.s (.s (.s (.s (.s .z)))))) ?_; refine At.frt (.s (.s (.s (.s (.s (.s .z)))))) ?_; refine At.frt (.s (.s (.s (.s (.s (.s .z)))))) ?_; refine At.frt (.s (.s (.s (.s (.s .z))))) ?_; refine At.frt (.s (.s (.s (.s (.s (.s .z)))))) ?_; obtain rfl := (bret hrun).symm; exact At.res (.inr rfl) rfl rfl ⟨w259, rfl, rfl⟩

noncomputable def lts_reader_head.f (a0_0 : List api_Token) (a0_1 : Option api_Fault) (a0_2 : Int) (a0_3 : List Bs) (a0_4 : List api_Edge) (a0_5 : List api_Prop) (a0_6 : List lts_step) (a0_7 : List (Bs × Bool)) : Option ((Option api_Fault) × (List api_Token) × Int) :=
 (lts_reader_blank.f a0_0 a0_1 a0_2 a0_3 a0_4 a0_5 a0_6 a0_7).bind fun t266 =>
 (lts_reader_want.f t266 a0_1 a0_2 a0_3 a0_4 a0_5 a0_6 a0_7 2).bind fun t274 =>
 jn (
 if t274.1.isNone = true then
 some (.inl (!(bseq t274.2.2.2.2.1 ([115, 116, 97, 116, 101, 115] : Bs))))
 else
 some (.inl false)) (fun (x485 : Bool) =>
 if x485 = true then
 (lts_reader_fail.f t274.2.1 t274.1 a0_2 a0_3 a0_4 a0_5 a0_6 a0_7 t274.2.2.1 t274.2.2.2.1 t274.2.2.2.2.1 t274.2.2.2.2.2 7).bind fun t491 =>
 (lts_reader_want.f t274.2.1 t491 a0_2 a0_3 a0_4 a0_5 a0_6 a0_7 4).bind fun t495 =>
 jn (
 if t495.1.isNone = true then
 jn (
 if t495.2.2.2.2.2 < 1 then
 some (.inl true)
 else
 some (.inl (decide (24 < t495.2.2.2.2.2)))) (fun (x923 : Bool) =>
 some (.inl x923))
 else
 some (.inl false)) (fun (x706 : Bool) =>
 if x706 = true then
 (lts_reader_fail.f t495.2.1 t495.1 t495.2.2.2.2.2 a0_3 a0_4 a0_5 a0_6 a0_7 t495.2.2.1 t495.2.2.2.1 t495.2.2.2.2.1 t495.2.2.2.2.2 8).bind fun t712 =>
 (lts_reader_end.f t495.2.1 t712 t495.2.2.2.2.2 a0_3 a0_4 a0_5 a0_6 a0_7).bind fun t716 =>
 some (t716, t495.2.1, t495.2.2.2.2.2)
 else
 (lts_reader_end.f t495.2.1 t495.1 t495.2.2.2.2.2 a0_3 a0_4 a0_5 a0_6 a0_7).bind fun t719 =>
 some (t719, t495.2.1, t495.2.2.2.2.2))
 else
 (lts_reader_want.f t274.2.1 t274.1 a0_2 a0_3 a0_4 a0_5 a0_6 a0_7 4).bind fun t929 =>
 jn (
 if t929.1.isNone = true then
 jn (
 if t929.2.2.2.2.2 < 1 then
 some (.inl true)
 else
 some (.inl (decide (24 < t929.2.2.2.2.2)))) (fun (x1357 : Bool) =>
 some (.inl x1357))
 else
 some (.inl false)) (fun (x1140 : Bool) =>
 if x1140 = true then
 (lts_reader_fail.f t929.2.1 t929.1 t929.2.2.2.2.2 a0_3 a0_4 a0_5 a0_6 a0_7 t929.2.2.1 t929.2.2.2.1 t929.2.2.2.2.1 t929.2.2.2.2.2 8).bind fun t1146 =>
 (lts_reader_end.f t929.2.1 t1146 t929.2.2.2.2.2 a0_3 a0_4 a0_5 a0_6 a0_7).bind fun t1150 =>
 some (t1150, t929.2.1, t929.2.2.2.2.2)
 else
 (lts_reader_end.f t929.2.1 t929.1 t929.2.2.2.2.2 a0_3 a0_4 a0_5 a0_6 a0_7).bind fun t1153 =>
 some (t1153, t929.2.1, t929.2.2.2.2.2)))
theorem lts_reader_head.callee : Callee Go.Proofs.Tryz.prog 42 := ⟨_, Go.Proofs.Tryz.func42, by kernel_rfl, by kernel_rfl⟩
set_option maxRecDepth 100000 in
set_option maxHeartbeats 2000000 in
theorem lts_reader_head.spec (R : Res) (Fr : List HProp) (b0 : Nat) (A0_0 : Option Addr) (n0_0 : Nat) (c0_0 : Nat) (p0_1 : Option Nat) (A0_3 : Option Addr) (n0_3 : Nat) (c0_3 : Nat) (A0_4 : Option Addr) (n0_4 : Nat) (c0_4 : Nat) (A0_5 : Option Addr) (n0_5 : Nat) (c0_5 : Nat) (A0_6 : Option Addr) (n0_6 : Nat) (c0_6 : Nat) (b0_7 : Nat) (a0_0 : List api_Token) (a0_1 : Option api_Fault) (a0_2 : Int) (a0_3 : List Bs) (a0_4 : List api_Edge) (a0_5 : List api_Prop) (a0_6 : List lts_step) (a0_7 : List (Bs × Bool)) (hr0_0 : RdS api_Token.fl.rep R.heap A0_0 a0_0) (hn0_0 : a0_0.length = n0_0) (hc0_0 : n0_0 ≤ c0_0) (hn0_3 : a0_3.length = n0_3) (hn0_4 : a0_4.length = n0_4) (hn0_5 : a0_5.length = n0_5) (hn0_6 : a0_6.length = n0_6) {r : (Option api_Fault) × (List api_Token) × Int} (hrun : lts_reader_head.f a0_0 a0_1 a0_2 a0_3 a0_4 a0_5 a0_6 a0_7 = some r) :
    Spec Go.Proofs.Tryz.prog 42 [.pointer (some ⟨b0, 0, none⟩)] R (pt b0 (.cells [.slice A0_0 n0_0 c0_0, optp p0_1, .int .i64 a0_2, .slice A0_3 n0_3 c0_3, .slice A0_4 n0_4 c0_4, .slice A0_5 n0_5 c0_5, .slice A0_6 n0_6 c0_6, .map (some b0_7)].toArray 89) :: optb (Ow.fl api_Fault.fl) 105 p0_1 a0_1 :: row Fl.bs 9 A0_3 n0_3 c0_3 a0_3 :: row api_Edge.fl 54 A0_4 n0_4 c0_4 a0_4 :: grow api_Prop.ow 57 A0_5 n0_5 c0_5 a0_5 :: row lts_step.fl 113 A0_6 n0_6 c0_6 a0_6 :: mapo Fl.bs.ov Fl.bool.ov b0_7 a0_7 :: Fr) (fun v l' => ∃ (w251 : Option Nat) (w254 : Option Addr) (w255 : Nat) (w256 : Nat), v = .tuple #[] ∧ optb (Ow.fl api_Fault.fl) 105 w251 r.1 :: pt b0 (.cells [.slice w254 w255 w256, optp w251, .int .i64 r.2.2, .slice A0_3 n0_3 c0_3, .slice A0_4 n0_4 c0_4, .slice A0_5 n0_5 c0_5, .slice A0_6 n0_6 c0_6, .map (some b0_7)].toArray 89) :: row Fl.bs 9 A0_3 n0_3 c0_3 a0_3 :: row api_Edge.fl 54 A0_4 n0_4 c0_4 a0_4 :: grow api_Prop.ow 57 A0_5 n0_5 c0_5 a0_5 :: row lts_step.fl 113 A0_6 n0_6 c0_6 a0_6 :: mapo Fl.bs.ov Fl.bool.ov b0_7 a0_7 :: Fr = l' ∧ RdS api_Token.fl.rep R.heap w254 r.2.1 ∧ r.2.1.length = w255 ∧ w255 ≤ w256) := by
  subst hn0_0; subst hn0_3; subst hn0_4; subst hn0_5; subst hn0_6; refine Spec.of Go.Proofs.Tryz.func42 rfl rfl ?_; unfold lts_reader_head.f at hrun; have hrun := brun hrun; refine At.seq ?_; refine At.region ?_; refine At.run 1 rfl ?_; obtain ⟨t266, hc267, hrun⟩ := bbind hrun; refine At.call rfl lts_reader_blank.callee rfl rfl rfl (lts_reader_blank.spec _ _ b0 A0_0 a0_0.length c0_0 p0_1 A0_3 a0_3.length c0_3 A0_4 a0_4.length c0_4 A0_5 a0_5.length c0_5 A0_6 a0_6.length c0_6 b0_7 a0_0 a0_1 a0_2 a0_3 a0_4 a0_5 a0_6 a0_7 hr0_0 rfl hc0_0 rfl rfl rfl rfl hc267) ?_; rintro _ _ ⟨w268, w269, w270, rfl, rfl, hr271, rfl, hc273⟩; refine At.nil ?_; refine At.thn ?_; refine At.seq ?_; refine At.seq ?_; refine At.region ?_; refine At.run 1 rfl ?_; obtain ⟨t274, hc275, hrun⟩ := bbind hrun; refine At.call rfl lts_reader_want.callee rfl rfl rfl (lts_reader_want.spec _ _ b0 w268 t266.length w270 p0_1 A0_3 a0_3.length c0_3 A0_4 a0_4.length c0_4 A0_5 a0_5.length c0_5 A0_6 a0_6.length c0_6 b0_7 t266 a0_1 a0_2 a0_3 a0_4 a0_5 a0_6 a0_7 2 hr271 rfl hc273 rfl rfl rfl rfl hc275) ?_; rintro _ _ ⟨w276, w277, w278, w279, rfl, rfl, hr280, rfl, hc282⟩; refine At.alloc rfl rfl rfl (fun b284 => ?_); refine At.store rfl rfl rfl rfl .z rfl rfl rfl (.c (.c (.c (.c .n)))) ?_; refine At.nil ?_; refine At.thn ?_; refine At.seq ?_; refine At.region ?_; refine At.run 3 rfl ?_; refine At.y (Y.load rfl rfl (.s (.s .z)) rfl rfl rfl) rfl rfl rfl ?_; refine At.y (Y.eqOpt (.s .z) rfl rfl rfl rfl) rfl rfl rfl ?_; refine At.run 1 rfl ?_; obtain ⟨G486, hl487, hr488, hrun⟩ := bjoin hrun; refine At.joinO 4 (X := Bool) (fun x485 => [(0, .pointer (some ⟨b0, 0, none⟩)), (2, .pointer (some ⟨b284, 0, none⟩)), (17, .bool x485)]) (fun x485 => pt b284 (.cells [.int .i64 t274.2.2.1, .int .i64 t274.2.2.2.1, .string ⟨(t274.2.2.2.2.1).toArray⟩, .int .i64 t274.2.2.2.2.2].toArray 91) :: optb (Ow.fl api_Fault.fl) 105 w276 t274.1 :: pt b0 (.cells [.slice w277 t274.2.1.length w279, optp w276, .int .i64 a0_2, .slice A0_3 a0_3.length c0_3, .slice A0_4 a0_4.length c0_4, .slice A0_5 a0_5.length c0_5, .slice A0_6 a0_6.length c0_6, .map (some b0_7)].toArray 89) :: row Fl.bs 9 A0_3 a0_3.length c0_3 a0_3 :: row api_Edge.fl 54 A0_4 a0_4.length c0_4 a0_4 :: grow api_Prop.ow 57 A0_5 a0_5.length c0_5 a0_5 :: row lts_step.fl 113 A0_6 a0_6.length c0_6 a0_6 :: mapo Fl.bs.ov Fl.bool.ov b0_7 a0_7 :: Fr) (fun x485 => G486 (.inl x485) = some r) ?_ (fun J489 => ?_)
  · rintro x485 hrun; have hrun := (hl487 _).symm.trans hrun
    · refine At.nil ?_; refine At.thn ?_; rcases bite hrun with ⟨h490, hrun⟩ | ⟨h490, hrun⟩
      · · refine At.condT rfl h490 ?_
          refine At.region ?_; refine At.run 1 rfl ?_; refine At.y (Y.load rfl rfl .z rfl rfl rfl) rfl rfl rfl ?_; refine At.frt (.s (.s (.s (.s (.s (.s (.s .z))))))) ?_; refine At.frt (.s (.s (.s (.s (.s (.s (.s .z))))))) ?_; refine At.frt (.s (.s (.s (.s (.s (.s (.s .z))))))) ?_; refine At.frt (.s (.s (.s (.s (.s (.s (.s .z))))))) ?_; refine At.frt (.s (.s (.s (.s (.s (.s (.s .z))))))) ?_; refine At.frt (.s (.s (.s (.s (.s (.s .z)))))) ?_; refine At.frt (.s (.s (.s (.s (.s (.s (.s .z))))))) ?_; obtain ⟨t491, hc492, hrun⟩ := bbind hrun; refine At.call rfl lts_reader_fail.callee rfl rfl rfl (lts_reader_fail.spec _ _ b0 w277 t274.2.1.length w279 w276 A0_3 a0_3.length c0_3 A0_4 a0_4.length c0_4 A0_5 a0_5.length c0_5 A0_6 a0_6.length c0_6 b0_7 t274.2.1 t274.1 a0_2 a0_3 a0_4 a0_5 a0_6 a0_7 t274.2.2.1 t274.2.2.2.1 t274.2.2.2.2.1 t274.2.2.2.2.2 7 hr280 rfl hc282 rfl rfl rfl rfl hc492) ?_; rintro _ _ ⟨w493, rfl, rfl⟩; refine At.nil ?_; refine At.thn ?_; refine At.seq ?_; refine At.region ?_; refine At.run 1 rfl ?_; refine At.frt (.s (.s (.s (.s (.s (.s .z)))))) ?_; refine At.frt (.s (.s (.s (.s (.s (.s .z)))))) ?_; refine At.frt (.s (.s (.s (.s (.s (.s .z)))))) ?_; refine At.frt (.s (.s (.s (.s (.s (.s .z)))))) ?_; refine At.frt (.s (.s (.s (.s (.s (.s .z)))))) ?_; refine At.frt (.s (.s (.s (.s (.s .z))))) ?_; refine At.frt (.s (.s (.s (.s (.s (.s .z)))))) ?_; obtain ⟨t495, hc496, hrun⟩ := bbind hrun; refine At.call rfl lts_reader_want.callee rfl rfl rfl (lts_reader_want.spec _ _ b0 w277 t274.2.1.length w279 w493 A0_3 a0_3.length c0_3 A0_4 a0_4.length c0_4 A0_5 a0_5.length c0_5 A0_6 a0_6.length c0_6 b0_7 t274.2.1 t491 a0_2 a0_3 a0_4 a0_5 a0_6 a0_7 4 hr280 rfl hc282 rfl rfl rfl rfl hc496) ?_; rintro _ _ ⟨w497, w498, w499, w500, rfl, rfl, hr501, rfl, hc503⟩; refine At.alloc rfl rfl rfl (fun b505 => ?_); refine At.store rfl rfl rfl rfl .z rfl rfl rfl (.c (.c (.c (.c .n)))) ?_; refine At.nil ?_; refine At.thn ?_; refine At.seq ?_; refine At.region ?_; refine At.run 2 rfl ?_; refine At.y (Y.load rfl rfl .z rfl rfl rfl) rfl rfl rfl ?_; refine At.run 3 rfl ?_; refine At.store rfl rfl rfl rfl (.s (.s .z)) rfl rfl rfl (.s (.s (.c .n))) ?_; refine At.nil ?_; refine At.thn ?_; refine At.seq ?_; refine At.seq ?_; refine At.region ?_; refine At.run 3 rfl ?_; refine At.y (Y.load rfl rfl .z rfl rfl rfl) rfl rfl rfl ?_; refine At.y (Y.eqOpt (.s (.s .z)) rfl rfl rfl rfl) rfl rfl rfl ?_; refine At.run 1 rfl ?_; obtain ⟨G707, hl708, hr709, hrun⟩ := bjoin hrun; refine At.joinO 9 (X := Bool) (fun x706 => [(0, .pointer (some ⟨b0, 0, none⟩)), (3, .pointer (some ⟨b505, 0, none⟩)), (43, .bool x706)]) (fun x706 => pt b0 (.cells [.slice w498 t495.2.1.length w500, optp w497, .int .i64 t495.2.2.2.2.2, .slice A0_3 a0_3.length c0_3, .slice A0_4 a0_4.length c0_4, .slice A0_5 a0_5.length c0_5, .slice A0_6 a0_6.length c0_6, .map (some b0_7)].toArray 89) :: pt b505 (.cells [.int .i64 t495.2.2.1, .int .i64 t495.2.2.2.1, .string ⟨(t495.2.2.2.2.1).toArray⟩, .int .i64 t495.2.2.2.2.2].toArray 91) :: optb (Ow.fl api_Fault.fl) 105 w497 t495.1 :: row Fl.bs 9 A0_3 a0_3.length c0_3 a0_3 :: row api_Edge.fl 54 A0_4 a0_4.length c0_4 a0_4 :: grow api_Prop.ow 57 A0_5 a0_5.length c0_5 a0_5 :: row lts_step.fl 113 A0_6 a0_6.length c0_6 a0_6 :: mapo Fl.bs.ov Fl.bool.ov b0_7 a0_7 :: pt b284 (.cells [.int .i64 t274.2.2.1, .int .i64 t274.2.2.2.1, .string ⟨(t274.2.2.2.2.1).toArray⟩, .int .i64 t274.2.2.2.2.2].toArray 91) :: Fr) (fun x706 => G707 (.inl x706) = some r) ?_ (fun J710 => ?_)
          · rintro x706 hrun; have hrun := (hl708 _).symm.trans hrun
            · refine At.nil ?_; refine At.thn ?_; rcases bite hrun with ⟨h711, hrun⟩ | ⟨h711, hrun⟩
              · · refine At.condT rfl h711 ?_
                  refine At.region ?_; refine At.run 1 rfl ?_; refine At.y (Y.load rfl rfl (.s .z) rfl rfl rfl) rfl rfl rfl ?_; refine At.frt (.s (.s (.s (.s (.s (.s (.s .z))))))) ?_; refine At.frt (.s (.s (.s (.s (.s (.s (.s .z))))))) ?_; refine At.frt (.s (.s (.s (.s (.s (.s (.s .z))))))) ?_; refine At.frt (.s (.s (.s (.s (.s (.s (.s .z))))))) ?_; refine At.frt (.s (.s (.s (.s (.s (.s (.s .z))))))) ?_; refine At.frt (.s (.s (.s (.s (.s (.s (.s .z))))))) ?_; refine At.frt (.s (.s (.s (.s (.s (.s .z)))))) ?_; obtain ⟨t712, hc713, hrun⟩ := bbind hrun; refine At.call rfl lts_reader_fail.callee rfl rfl rfl (lts_reader_fail.spec _ _ b0 w498 t495.2.1.length w500 w497 A0_3 a0_3.length c0_3 A0_4 a0_4.length c0_4 A0_5 a0_5.length c0_5 A0_6 a0_6.length c0_6 b0_7 t495.2.1 t495.1 t495.2.2.2.2.2 a0_3 a0_4 a0_5 a0_6 a0_7 t495.2.2.1 t495.2.2.2.1 t495.2.2.2.2.1 t495.2.2.2.2.2 8 hr501 rfl hc503 rfl rfl rfl rfl hc713) ?_; rintro _ _ ⟨w714, rfl, rfl⟩; refine At.nil ?_; refine At.thn ?_; refine At.region ?_; refine At.run 1 rfl ?_; refine At.frt (.s (.s (.s (.s (.s (.s .z)))))) ?_; refine At.frt (.s (.s (.s (.s (.s (.s .z)))))) ?_; refine At.frt (.s (.s (.s (.s (.s (.s .z)))))) ?_; refine At.frt (.s (.s (.s (.s (.s (.s .z)))))) ?_; refine At.frt (.s (.s (.s (.s (.s (.s .z)))))) ?_; refine At.frt (.s (.s (.s (.s (.s .z))))) ?_; refine At.frt (.s (.s (.s (.s (.s (.s .z)))))) ?_; obtain ⟨t716, hc717, hrun⟩ := bbind hrun; refine At.call rfl lts_reader_end.callee rfl rfl rfl (lts_reader_end.spec _ _ b0 w498 t495.2.1.length w500 w714 A0_3 a0_3.length c0_3 A0_4 a0_4.length c0_4 A0_5 a0_5.length c0_5 A0_6 a0_6.length c0_6 b0_7 t495.2.1 t712 t495.2.2.2.2.2 a0_3 a0_4 a0_5 a0_6 a0_7 hr501 rfl hc503 rfl rfl rfl rfl hc717) ?_; rintro _ _ ⟨w718, rfl, rfl⟩; refine At.nil ?_; refine At.drop (.s (.s (.s (.s (.s (.s (.s .z))))))) ?_; refine At.drop (.s (.s (.s (.s (.s (.s (.s .z))))))) ?_; refine At.frt (.s (.s (.s (.s (.s (.s .z)))))) ?_; refine At.frt (.s (.s (.s (.s (.s (.s .z)))))) ?_; refine At.frt (.s (.s (.s (.s (.s (.s .z)))))) ?_; refine At.frt (.s (.s (.s (.s (.s (.s .z)))))) ?_; refine At.frt (.s (.s (.s (.s (.s (.s .z)))))) ?_; refine At.frt (.s (.s (.s (.s (.s .z))))) ?_; refine At.frt (.s (.s (.s (.s (.s (.s .z)))))) ?_; obtain rfl := (bret hrun).symm; exact At.res (.inr rfl) rfl rfl ⟨w718, w498, t495.2.1.length, w500, rfl, rfl, hr501, rfl, hc503⟩
              · · refine At.condF rfl (bn h711) ?_
                  refine At.skip ?_; refine At.thn ?_; refine At.region ?_; refine At.run 1 rfl ?_; refine At.frt (.s (.s (.s (.s (.s (.s (.s .z))))))) ?_; refine At.frt (.s (.s (.s (.s (.s (.s (.s .z))))))) ?_; refine At.frt (.s (.s (.s (.s (.s (.s (.s .z))))))) ?_; refine At.frt (.s (.s (.s (.s (.s (.s (.s .z))))))) ?_; refine At.frt (.s (.s (.s (.s (.s (.s (.s .z))))))) ?_; refine At.frt (.s (.s (.s (.s (.s (.s (.s .z))))))) ?_; refine At.frt (.s (.s (.s (.s (.s (.s .z)))))) ?_; obtain ⟨t719, hc720, hrun⟩ := bbind hrun; refine At.call rfl lts_reader_end.callee rfl rfl rfl (lts_reader_end.spec _ _ b0 w498 t495.2.1.length w500 w497 A0_3 a0_3.length c0_3 A0_4 a0_4.length c0_4 A0_5 a0_5.length c0_5 A0_6 a0_6.length c0_6 b0_7 t495.2.1 t495.1 t495.2.2.2.2.2 a0_3 a0_4 a0_5 a0_6 a0_7 hr501 rfl hc503 rfl rfl rfl rfl hc720) ?_; rintro _ _ ⟨w721, rfl, rfl⟩; refine At.nil ?_; refine At.drop (.s (.s (.s (.s (.s (.s (.s .z))))))) ?_; refine At.drop (.s (.s (.s (.s (.s (.s (.s .z))))))) ?_; refine At.frt (.s (.s (.s (.s (.s (.s .z)))))) ?_; refine At.frt (.s (.s (.s (.s (.s (.s .z)))))) ?_; refine At.frt (.s (.s (.s (.s (.s (.s .z)))))) ?_; refine At.frt (.s (.s (.s (.s (.s (.s .z)))))) ?_; refine At.frt (.s (.s (.s (.s (.s (.s .z)))))) ?_; refine At.frt (.s (.s (.s (.s (.s .z))))) ?_; refine At.frt (.s (.s (.s (.s (.s (.s .z)))))) ?_; obtain rfl := (bret hrun).symm; exact At.res (.inr rfl) rfl rfl ⟨w721, w498, t495.2.1.length, w500, rfl, rfl, hr501, rfl, hc503⟩
          · · rcases bite hrun with ⟨h722, hrun⟩ | ⟨h722, hrun⟩
              · · refine At.know (t := 34) rfl h722 ?_
                  refine At.run 1 rfl ?_; refine At.y (Y.load rfl rfl (.s .z) rfl rfl rfl) rfl rfl rfl ?_; refine At.run 2 rfl ?_; obtain ⟨G924, hl925, hr926, hrun⟩ := bjoin hrun; refine At.joinO 4 (X := Bool) (fun x923 => [(0, .pointer (some ⟨b0, 0, none⟩)), (3, .pointer (some ⟨b505, 0, none⟩)), (34, .bool true), (42, .bool x923)]) (fun x923 => pt b0 (.cells [.slice w498 t495.2.1.length w500, optp w497, .int .i64 t495.2.2.2.2.2, .slice A0_3 a0_3.length c0_3, .slice A0_4 a0_4.length c0_4, .slice A0_5 a0_5.length c0_5, .slice A0_6 a0_6.length c0_6, .map (some b0_7)].toArray 89) :: pt b505 (.cells [.int .i64 t495.2.2.1, .int .i64 t495.2.2.2.1, .string ⟨(t495.2.2.2.2.1).toArray⟩, .int .i64 t495.2.2.2.2.2].toArray 91) :: optb (Ow.fl api_Fault.fl) 105 w497 t495.1 :: row Fl.bs 9 A0_3 a0_3.length c0_3 a0_3 :: row api_Edge.fl 54 A0_4 a0_4.length c0_4 a0_4 :: grow api_Prop.ow 57 A0_5 a0_5.length c0_5 a0_5 :: row lts_step.fl 113 A0_6 a0_6.length c0_6 a0_6 :: mapo Fl.bs.ov Fl.bool.ov b0_7 a0_7 :: pt b284 (.cells [.int .i64 t274.2.2.1, .int .i64 t274.2.2.2.1, .string ⟨(t274.2.2.2.2.1).toArray⟩, .int .i64 t274.2.2.2.2.2].toArray 91) :: Fr) (fun x923 => G924 (.inl x923) = some r) ?_ (fun J927 => ?_)
                  · rintro x923 hrun; have hrun := (hl925 _).symm.trans hrun
                    · refine At.run 1 rfl ?_; exact At.of (J710 x923 hrun) ⟨rfl, rfl, rfl, trivial⟩
                  · · rcases bite hrun with ⟨h928, hrun⟩ | ⟨h928, hrun⟩
                      · · refine At.know (t := 38) rfl (decide_eq_true h928) ?_
                          refine At.run 4 rfl ?_; exact At.of (J927 true hrun) ⟨rfl, rfl, rfl, rfl, trivial⟩
                      · · refine At.know (t := 38) rfl (decide_eq_false h928) ?_
                          refine At.run 1 rfl ?_; refine At.y (Y.load rfl rfl (.s .z) rfl rfl rfl) rfl rfl rfl ?_; refine At.run 2 rfl ?_; exact At.of (J927 (decide (24 < t495.2.2.2.2.2)) hrun) ⟨rfl, rfl, rfl, rfl, trivial⟩
              · · refine At.know (t := 34) rfl (bn h722) ?_
                  refine At.run 9 rfl ?_; exact At.of (J710 false hrun) ⟨rfl, rfl, rfl, trivial⟩
      · · refine At.condF rfl (bn h490) ?_
          refine At.skip ?_; refine At.thn ?_; refine At.seq ?_; refine At.region ?_; refine At.run 1 rfl ?_; refine At.frt (.s (.s (.s (.s (.s (.s (.s .z))))))) ?_; refine At.frt (.s (.s (.s (.s (.s (.s (.s .z))))))) ?_; refine At.frt (.s (.s (.s (.s (.s (.s (.s .z))))))) ?_; refine At.frt (.s (.s (.s (.s (.s (.s (.s .z))))))) ?_; refine At.frt (.s (.s (.s (.s (.s (.s (.s .z))))))) ?_; refine At.frt (.s (.s (.s (.s (.s (.s .z)))))) ?_; refine At.frt (.s (.s (.s (.s (.s (.s (.s .z))))))) ?_; obtain ⟨t929, hc930, hrun⟩ := bbind hrun; refine At.call rfl lts_reader_want.callee rfl rfl rfl (lts_reader_want.spec _ _ b0 w277 t274.2.1.length w279 w276 A0_3 a0_3.length c0_3 A0_4 a0_4.length c0_4 A0_5 a0_5.length c0_5 A0_6 a0_6.length c0_6 b0_7 t274.2.1 t274.1 a0_2 a0_3 a0_4 a0_5 a0_6 a0_7 4 hr280 rfl hc282 rfl rfl rfl rfl hc930) ?_; rintro _ _ ⟨w931, w932, w933, w934, rfl, rfl, hr935, rfl, hc937⟩; refine At.alloc rfl rfl rfl (fun b939 => ?_); refine At.store rfl rfl rfl rfl .z rfl rfl rfl (.c (.c (.c (.c .n)))) ?_; refine At.nil ?_; refine At.thn ?_; refine At.seq ?_; refine At.region ?_; refine At.run 2 rfl ?_; refine At.y (Y.load rfl rfl .z rfl rfl rfl) rfl rfl rfl ?_; refine At.run 3 rfl ?_; refine At.store rfl rfl rfl rfl (.s (.s .z)) rfl rfl rfl (.s (.s (.c .n))) ?_; refine At.nil ?_; refine At.thn ?_; refine At.seq ?_; refine At.seq ?_; refine At.region ?_; refine At.run 3 rfl ?_; refine At.y (Y.load rfl rfl .z rfl rfl rfl) rfl rfl rfl ?_; refine At.y (Y.eqOpt (.s (.s .z)) rfl rfl rfl rfl) rfl rfl rfl ?_; refine At.run 1 rfl ?_; obtain ⟨G1141, hl1142, hr1143, hrun⟩ := bjoin hrun; refine At.joinO 9 (X := Bool) (fun x1140 => [(0, .pointer (some ⟨b0, 0, none⟩)), (3, .pointer (some ⟨b939, 0, none⟩)), (43, .bool x1140)]) (fun x1140 => pt b0 (.cells [.slice w932 t929.2.1.length w934, optp w931, .int .i64 t929.2.2.2.2.2, .slice A0_3 a0_3.length c0_3, .slice A0_4 a0_4.length c0_4, .slice A0_5 a0_5.length c0_5, .slice A0_6 a0_6.length c0_6, .map (some b0_7)].toArray 89) :: pt b939 (.cells [.int .i64 t929.2.2.1, .int .i64 t929.2.2.2.1, .string ⟨(t929.2.2.2.2.1).toArray⟩, .int .i64 t929.2.2.2.2.2].toArray 91) :: optb (Ow.fl api_Fault.fl) 105 w931 t929.1 :: row Fl.bs 9 A0_3 a0_3.length c0_3 a0_3 :: row api_Edge.fl 54 A0_4 a0_4.length c0_4 a0_4 :: grow api_Prop.ow 57 A0_5 a0_5.length c0_5 a0_5 :: row lts_step.fl 113 A0_6 a0_6.length c0_6 a0_6 :: mapo Fl.bs.ov Fl.bool.ov b0_7 a0_7 :: pt b284 (.cells [.int .i64 t274.2.2.1, .int .i64 t274.2.2.2.1, .string ⟨(t274.2.2.2.2.1).toArray⟩, .int .i64 t274.2.2.2.2.2].toArray 91) :: Fr) (fun x1140 => G1141 (.inl x1140) = some r) ?_ (fun J1144 => ?_)
          · rintro x1140 hrun; have hrun := (hl1142 _).symm.trans hrun
            · refine At.nil ?_; refine At.thn ?_; rcases bite hrun with ⟨h1145, hrun⟩ | ⟨h1145, hrun⟩
              · · refine At.condT rfl h1145 ?_
                  refine At.region ?_; refine At.run 1 rfl ?_; refine At.y (Y.load rfl rfl (.s .z) rfl rfl rfl) rfl rfl rfl ?_; refine At.frt (.s (.s (.s (.s (.s (.s (.s .z))))))) ?_; refine At.frt (.s (.s (.s (.s (.s (.s (.s .z))))))) ?_; refine At.frt (.s (.s (.s (.s (.s (.s (.s .z))))))) ?_; refine At.frt (.s (.s (.s (.s (.s (.s (.s .z))))))) ?_; refine At.frt (.s (.s (.s (.s (.s (.s (.s .z))))))) ?_; refine At.frt (.s (.s (.s (.s (.s (.s (.s .z))))))) ?_; refine At.frt (.s (.s (.s (.s (.s (.s .z)))))) ?_; obtain ⟨t1146, hc1147, hrun⟩ := bbind hrun; refine At.call rfl lts_reader_fail.callee rfl rfl rfl (lts_reader_fail.spec _ _ b0 w932 t929.2.1.length w934 w931 A0_3 a0_3.length c0_3 A0_4 a0_4.length c0_4 A0_5 a0_5.length c0_5 A0_6 a0_6.length c0_6 b0_7 t929.2.1 t929.1 t929.2.2.2.2.2 a0_3 a0_4 a0_5 a0_6 a0_7 t929.2.2.1 t929.2.2.2.1 t929.2.2.2.2.1 t929.2.2.2.2.2 8 hr935 rfl hc937 rfl rfl rfl rfl hc1147) ?_; rintro _ _ ⟨w1148, rfl, rfl⟩; refine At.nil ?_; refine At.thn ?_; refine At.region ?_; refine At.run 1 rfl ?_; refine At.frt (.s (.s (.s (.s (.s (.s .z)))))) ?_; refine At.frt (.s (.s (.s (.s (.s (.s .z)))))) ?_; refine At.frt (.s (.s (.s (.s (.s (.s .z)))))) ?_; refine At.frt (.s (.s (.s (.s (.s (.s .z)))))) ?_; refine At.frt (.s (.s (.s (.s (.s (.s .z)))))) ?_; refine At.frt (.s (.s (.s (.s (.s .z))))) ?_; refine At.frt (.s (.s (.s (.s (.s (.s .z)))))) ?_; obtain ⟨t1150, hc1151, hrun⟩ := bbind hrun; refine At.call rfl lts_reader_end.callee rfl rfl rfl (lts_reader_end.spec _ _ b0 w932 t929.2.1.length w934 w1148 A0_3 a0_3.length c0_3 A0_4 a0_4.length c0_4 A0_5 a0_5.length c0_5 A0_6 a0_6.length c0_6 b0_7 t929.2.1 t1146 t929.2.2.2.2.2 a0_3 a0_4 a0_5 a0_6 a0_7 hr935 rfl hc937 rfl rfl rfl rfl hc1151) ?_; rintro _ _ ⟨w1152, rfl, rfl⟩; refine At.nil ?_; refine At.drop (.s (.s (.s (.s (.s (.s (.s .z))))))) ?_; refine At.drop (.s (.s (.s (.s (.s (.s (.s .z))))))) ?_; refine At.frt (.s (.s (.s (.s (.s (.s .z)))))) ?_; refine At.frt (.s (.s (.s (.s (.s (.s .z)))))) ?_; refine At.frt (.s (.s (.s (.s (.s (.s .z)))))) ?_; refine At.frt (.s (.s (.s (.s (.s (.s .z)))))) ?_; refine At.frt (.s (.s (.s (.s (.s (.s .z)))))) ?_; refine At.frt (.s (.s (.s (.s (.s .z))))) ?_; refine At.frt (.s (.s (.s (.s (.s (.s .z)))))) ?_; obtain rfl := (bret hrun).symm; exact At.res (.inr rfl) rfl rfl ⟨w1152, w932, t929.2.1.length, w934, rfl, rfl, hr935, rfl, hc937⟩
              · · refine At.condF rfl (bn h1145) ?_
                  refine At.skip ?_; refine At.thn ?_; refine At.region ?_; refine At.run 1 rfl ?_; refine At.frt (.s (.s (.s (.s (.s (.s (.s .z))))))) ?_; refine At.frt (.s (.s (.s (.s (.s (.s (.s .z))))))) ?_; refine At.frt (.s (.s (.s (.s (.s (.s (.s .z))))))) ?_; refine At.frt (.s (.s (.s (.s (.s (.s (.s .z))))))) ?_; refine At.frt (.s (.s (.s (.s (.s (.s (.s .z))))))) ?_; refine At.frt (.s (.s (.s (.s (.s (.s (.s .z))))))) ?_; refine At.frt (.s (.s (.s (.s (.s (.s .z)))))) ?_; obtain ⟨t1153, hc1154, hrun⟩ := bbind hrun; refine At.call rfl lts_reader_end.callee rfl rfl rfl (lts_reader_end.spec _ _ b0 w932 t929.2.1.length w934 w931 A0_3 a0_3.length c0_3 A0_4 a0_4.length c0_4 A0_5 a0_5.length c0_5 A0_6 a0_6.length c0_6 b0_7 t929.2.1 t929.1 t929.2.2.2.2.2 a0_3 a0_4 a0_5 a0_6 a0_7 hr935 rfl hc937 rfl rfl rfl rfl hc1154) ?_; rintro _ _ ⟨w1155, rfl, rfl⟩; refine At.nil ?_; refine At.drop (.s (.s (.s (.s (.s (.s (.s .z))))))) ?_; refine At.drop (.s (.s (.s (.s (.s (.s (.s .z))))))) ?_; refine At.frt (.s (.s (.s (.s (.s (.s .z)))))) ?_; refine At.frt (.s (.s (.s (.s (.s (.s .z)))))) ?_; refine At.frt (.s (.s (.s (.s (.s (.s .z)))))) ?_; refine At.frt (.s (.s (.s (.s (.s (.s .z)))))) ?_; refine At.frt (.s (.s (.s (.s (.s (.s .z)))))) ?_; refine At.frt (.s (.s (.s (.s (.s .z))))) ?_; refine At.frt (.s (.s (.s (.s (.s (.s .z)))))) ?_; obtain rfl := (bret hrun).symm; exact At.res (.inr rfl) rfl rfl ⟨w1155, w932, t929.2.1.length, w934, rfl, rfl, hr935, rfl, hc937⟩
          · · rcases bite hrun with ⟨h1156, hrun⟩ | ⟨h1156, hrun⟩
              · · refine At.know (t := 34) rfl h1156 ?_
                  refine At.run 1 rfl ?_; refine At.y (Y.load rfl rfl (.s .z) rfl rfl rfl) rfl rfl rfl ?_; refine At.run 2 rfl ?_; obtain ⟨G1358, hl1359, hr1360, hrun⟩ := bjoin hrun; refine At.joinO 4 (X := Bool) (fun x1357 => [(0, .pointer (some ⟨b0, 0, none⟩)), (3, .pointer (some ⟨b939, 0, none⟩)), (34, .bool true), (42, .bool x1357)]) (fun x1357 => pt b0 (.cells [.slice w932 t929.2.1.length w934, optp w931, .int .i64 t929.2.2.2.2.2, .slice A0_3 a0_3.length c0_3, .slice A0_4 a0_4.length c0_4, .slice A0_5 a0_5.length c0_5, .slice A0_6 a0_6.length c0_6, .map (some b0_7)].toArray 89) :: pt b939 (.cells [.int .i64 t929.2.2.1, .int .i64 t929.2.2.2.1, .string ⟨(t929.2.2.2.2.1).toArray⟩, .int .i64 t929.2.2.2.2.2].toArray 91) :: optb (Ow.fl api_Fault.fl) 105 w931 t929.1 :: row Fl.bs 9 A0_3 a0_3.length c0_3 a0_3 :: row api_Edge.fl 54 A0_4 a0_4.length c0_4 a0_4 :: grow api_Prop.ow 57 A0_5 a0_5.length c0_5 a0_5 :: row lts_step.fl 113 A0_6 a0_6.length c0_6 a0_6 :: mapo Fl.bs.ov Fl.bool.ov b0_7 a0_7 :: pt b284 (.cells [.int .i64 t274.2.2.1, .int .i64 t274.2.2.2.1, .string ⟨(t274.2.2.2.2.1).toArray⟩, .int .i64 t274.2.2.2.2.2].toArray 91) :: Fr) (fun x1357 => G1358 (.inl x1357) = some r) ?_ (fun J1361 => ?_)
                  · rintro x1357 hrun; have hrun := (hl1359 _).symm.trans hrun
                    · refine At.run 1 rfl ?_; exact At.of (J1144 x1357 hrun) ⟨rfl, rfl, rfl, trivial⟩
                  · · rcases bite hrun with ⟨h1362, hrun⟩ | ⟨h1362, hrun⟩
                      · · refine At.know (t := 38) rfl (decide_eq_true h1362) ?_
                          refine At.run 4 rfl ?_; exact At.of (J1361 true hrun) ⟨rfl, rfl, rfl, rfl, trivial⟩
                      · · refine At.know (t := 38) rfl (decide_eq_false h1362) ?_
                          refine At.run 1 rfl ?_; refine At.y (Y.load rfl rfl (.s .z) rfl rfl rfl) rfl rfl rfl ?_; refine At.run 2 rfl ?_; exact At.of (J1361 (decide (24 < t929.2.2.2.2.2)) hrun) ⟨rfl, rfl, rfl, rfl, trivial⟩
              · · refine At.know (t := 34) rfl (bn h1156) ?_
                  refine At.run 9 rfl ?_; exact At.of (J1144 false hrun) ⟨rfl, rfl, rfl, trivial⟩
  · · rcases bite hrun with ⟨h1363, hrun⟩ | ⟨h1363, hrun⟩
      · · refine At.know (t := 13) rfl h1363 ?_
          refine At.run 1 rfl ?_; refine At.y (Y.load rfl rfl .z rfl rfl rfl) rfl rfl rfl ?_; refine At.run 2 rfl ?_; exact At.of (J489 (!(bseq t274.2.2.2.2.1 ([115, 116, 97, 116, 101, 115] : Bs))) hrun) ⟨rfl, rfl, rfl, trivial⟩
      · · refine At.know (t := 13) rfl (bn h1363) ?_
          refine At.run 4 rfl ?_; exact At.of (J489 false hrun) ⟨rfl, rfl, rfl, trivial⟩

noncomputable def lts_reader_state.f (a0_0 : List api_Token) (a0_1 : Option api_Fault) (a0_2 : Int) (a0_3 : List Bs) (a0_4 : List api_Edge) (a0_5 : List api_Prop) (a0_6 : List lts_step) (a0_7 : List (Bs × Bool)) : Option ((Option api_Fault) × (List api_Token) × Int × Int × Int × Bs × Int) :=
 (lts_reader_want.f a0_0 a0_1 a0_2 a0_3 a0_4 a0_5 a0_6 a0_7 4).bind fun t276 =>
 jn (
 if t276.1.isNone = true then
 some (.inl (decide (a0_2 ≤ t276.2.2.2.2.2)))
 else
 some (.inl false)) (fun (x487 : Bool) =>
 if x487 = true then
 (lts_reader_fail.f t276.2.1 t276.1 a0_2 a0_3 a0_4 a0_5 a0_6 a0_7 t276.2.2.1 t276.2.2.2.1 t276.2.2.2.2.1 t276.2.2.2.2.2 8).bind fun t493 =>
 some (t493, t276.2.1, t276.2.2.2.2.2, t276.2.2.1, t276.2.2.2.1, t276.2.2.2.2.1, t276.2.2.2.2.2)
 else
 some (t276.1, t276.2.1, t276.2.2.2.2.2, t276.2.2.1, t276.2.2.2.1, t276.2.2.2.2.1, t276.2.2.2.2.2))
theorem lts_reader_state.callee : Callee Go.Proofs.Tryz.prog 61 := ⟨_, Go.Proofs.Tryz.func61, by kernel_rfl, by kernel_rfl⟩
set_option maxRecDepth 100000 in
set_option maxHeartbeats 2000000 in
theorem lts_reader_state.spec (R : Res) (Fr : List HProp) (b0 : Nat) (A0_0 : Option Addr) (n0_0 : Nat) (c0_0 : Nat) (p0_1 : Option Nat) (A0_3 : Option Addr) (n0_3 : Nat) (c0_3 : Nat) (A0_4 : Option Addr) (n0_4 : Nat) (c0_4 : Nat) (A0_5 : Option Addr) (n0_5 : Nat) (c0_5 : Nat) (A0_6 : Option Addr) (n0_6 : Nat) (c0_6 : Nat) (b0_7 : Nat) (a0_0 : List api_Token) (a0_1 : Option api_Fault) (a0_2 : Int) (a0_3 : List Bs) (a0_4 : List api_Edge) (a0_5 : List api_Prop) (a0_6 : List lts_step) (a0_7 : List (Bs × Bool)) (hr0_0 : RdS api_Token.fl.rep R.heap A0_0 a0_0) (hn0_0 : a0_0.length = n0_0) (hc0_0 : n0_0 ≤ c0_0) (hn0_3 : a0_3.length = n0_3) (hn0_4 : a0_4.length = n0_4) (hn0_5 : a0_5.length = n0_5) (hn0_6 : a0_6.length = n0_6) {r : (Option api_Fault) × (List api_Token) × Int × Int × Int × Bs × Int} (hrun : lts_reader_state.f a0_0 a0_1 a0_2 a0_3 a0_4 a0_5 a0_6 a0_7 = some r) :
    Spec Go.Proofs.Tryz.prog 61 [.pointer (some ⟨b0, 0, none⟩)] R (pt b0 (.cells [.slice A0_0 n0_0 c0_0, optp p0_1, .int .i64 a0_2, .slice A0_3 n0_3 c0_3, .slice A0_4 n0_4 c0_4, .slice A0_5 n0_5 c0_5, .slice A0_6 n0_6 c0_6, .map (some b0_7)].toArray 89) :: optb (Ow.fl api_Fault.fl) 105 p0_1 a0_1 :: row Fl.bs 9 A0_3 n0_3 c0_3 a0_3 :: row api_Edge.fl 54 A0_4 n0_4 c0_4 a0_4 :: grow api_Prop.ow 57 A0_5 n0_5 c0_5 a0_5 :: row lts_step.fl 113 A0_6 n0_6 c0_6 a0_6 :: mapo Fl.bs.ov Fl.bool.ov b0_7 a0_7 :: Fr) (fun v l' => ∃ (w252 : Option Nat) (w259 : Option Addr) (w260 : Nat) (w261 : Nat), v = .tuple #[.agg #[.int .i64 r.2.2.2.1, .int .i64 r.2.2.2.2.1, .string ⟨(r.2.2.2.2.2.1).toArray⟩, .int .i64 r.2.2.2.2.2.2], .int .i64 r.2.2.1] ∧ optb (Ow.fl api_Fault.fl) 105 w252 r.1 :: pt b0 (.cells [.slice w259 w260 w261, optp w252, .int .i64 a0_2, .slice A0_3 n0_3 c0_3, .slice A0_4 n0_4 c0_4, .slice A0_5 n0_5 c0_5, .slice A0_6 n0_6 c0_6, .map (some b0_7)].toArray 89) :: row Fl.bs 9 A0_3 n0_3 c0_3 a0_3 :: row api_Edge.fl 54 A0_4 n0_4 c0_4 a0_4 :: grow api_Prop.ow 57 A0_5 n0_5 c0_5 a0_5 :: row lts_step.fl 113 A0_6 n0_6 c0_6 a0_6 :: mapo Fl.bs.ov Fl.bool.ov b0_7 a0_7 :: Fr = l' ∧ RdS api_Token.fl.rep R.heap w259 r.2.1 ∧ r.2.1.length = w260 ∧ w260 ≤ w261) := by
  subst hn0_0; subst hn0_3; subst hn0_4; subst hn0_5; subst hn0_6; refine Spec.of Go.Proofs.Tryz.func61 rfl rfl ?_; unfold lts_reader_state.f at hrun; have hrun := brun hrun; refine At.seq ?_; refine At.region ?_; refine At.alloc rfl rfl rfl (fun b275 => ?_); refine At.run 1 rfl ?_; refine At.nil ?_; refine At.thn ?_; refine At.seq ?_; refine At.region ?_; refine At.run 1 rfl ?_; refine At.frt (.s (.s (.s (.s (.s (.s (.s .z))))))) ?_; refine At.frt (.s (.s (.s (.s (.s (.s (.s .z))))))) ?_; refine At.frt (.s (.s (.s (.s (.s (.s (.s .z))))))) ?_; refine At.frt (.s (.s (.s (.s (.s (.s (.s .z))))))) ?_; refine At.frt (.s (.s (.s (.s (.s (.s (.s .z))))))) ?_; refine At.frt (.s (.s (.s (.s (.s (.s (.s .z))))))) ?_; refine At.frt (.s (.s (.s (.s (.s (.s (.s .z))))))) ?_; obtain ⟨t276, hc277, hrun⟩ := bbind hrun; refine At.call rfl lts_reader_want.callee rfl rfl rfl (lts_reader_want.spec _ _ b0 A0_0 a0_0.length c0_0 p0_1 A0_3 a0_3.length c0_3 A0_4 a0_4.length c0_4 A0_5 a0_5.length c0_5 A0_6 a0_6.length c0_6 b0_7 a0_0 a0_1 a0_2 a0_3 a0_4 a0_5 a0_6 a0_7 4 hr0_0 rfl hc0_0 rfl rfl rfl rfl hc277) ?_; rintro _ _ ⟨w278, w279, w280, w281, rfl, rfl, hr282, rfl, hc284⟩; refine At.alloc rfl rfl rfl (fun b286 => ?_); refine At.store rfl rfl rfl rfl .z rfl rfl rfl (.c (.c (.c (.c .n)))) ?_; refine At.nil ?_; refine At.thn ?_; refine At.seq ?_; refine At.seq ?_; refine At.quiet (by kernel_rfl) ?_; refine At.Quiet.run 3 rfl ?_; refine At.Quiet.y (Y.load rfl rfl (.s (.s .z)) rfl rfl rfl) rfl rfl rfl ?_; refine At.Quiet.y (Y.eqOpt (.s .z) rfl rfl rfl rfl) rfl rfl rfl ?_; refine At.Quiet.run 1 rfl ?_; obtain ⟨G488, hl489, hr490, hrun⟩ := bjoin hrun; refine At.Quiet.joinO 9 (X := Bool) (fun x487 => [(0, .pointer (some ⟨b0, 0, none⟩)), (2, .pointer (some ⟨b275, 0, none⟩)), (4, .pointer (some ⟨b286, 0, none⟩)), (21, .bool x487)]) (fun x487 => pt b286 (.cells [.int .i64 t276.2.2.1, .int .i64 t276.2.2.2.1, .string ⟨(t276.2.2.2.2.1).toArray⟩, .int .i64 t276.2.2.2.2.2].toArray 91) :: optb (Ow.fl api_Fault.fl) 105 w278 t276.1 :: pt b0 (.cells [.slice w279 t276.2.1.length w281, optp w278, .int .i64 a0_2, .slice A0_3 a0_3.length c0_3, .slice A0_4 a0_4.length c0_4, .slice A0_5 a0_5.length c0_5, .slice A0_6 a0_6.length c0_6, .map (some b0_7)].toArray 89) :: row Fl.bs 9 A0_3 a0_3.length c0_3 a0_3 :: row api_Edge.fl 54 A0_4 a0_4.length c0_4 a0_4 :: grow api_Prop.ow 57 A0_5 a0_5.length c0_5 a0_5 :: row lts_step.fl 113 A0_6 a0_6.length c0_6 a0_6 :: mapo Fl.bs.ov Fl.bool.ov b0_7 a0_7 :: pt b275 (.cells [.int .i64 0, .int .i64 0, .string ⟨(([] : Bs)).toArray⟩, .int .i64 0].toArray 91) :: Fr) (fun x487 => G488 (.inl x487) = some r) ?_ (fun J491 => ?_)
  · rintro x487 hrun; have hrun := (hl489 _).symm.trans hrun
    · refine At.Quiet.nil ?_; refine At.thn ?_; rcases bite hrun with ⟨h492, hrun⟩ | ⟨h492, hrun⟩
      · · refine At.condT rfl h492 ?_
          refine At.region ?_; refine At.run 1 rfl ?_; refine At.y (Y.load rfl rfl .z rfl rfl rfl) rfl rfl rfl ?_; refine At.frt (.s (.s (.s (.s (.s (.s (.s .z))))))) ?_; refine At.frt (.s (.s (.s (.s (.s (.s (.s .z))))))) ?_; refine At.frt (.s (.s (.s (.s (.s (.s (.s .z))))))) ?_; refine At.frt (.s (.s (.s (.s (.s (.s (.s .z))))))) ?_; refine At.frt (.s (.s (.s (.s (.s (.s (.s .z))))))) ?_; refine At.frt (.s (.s (.s (.s (.s (.s .z)))))) ?_; refine At.frt (.s (.s (.s (.s (.s (.s (.s .z))))))) ?_; obtain ⟨t493, hc494, hrun⟩ := bbind hrun; refine At.call rfl lts_reader_fail.callee rfl rfl rfl (lts_reader_fail.spec _ _ b0 w279 t276.2.1.length w281 w278 A0_3 a0_3.length c0_3 A0_4 a0_4.length c0_4 A0_5 a0_5.length c0_5 A0_6 a0_6.length c0_6 b0_7 t276.2.1 t276.1 a0_2 a0_3 a0_4 a0_5 a0_6 a0_7 t276.2.2.1 t276.2.2.2.1 t276.2.2.2.2.1 t276.2.2.2.2.2 8 hr282 rfl hc284 rfl rfl rfl rfl hc494) ?_; rintro _ _ ⟨w495, rfl, rfl⟩; refine At.nil ?_; refine At.thn ?_; refine At.seq ?_; refine At.held [optb (Ow.fl api_Fault.fl) 105 w495 t493, pt b0 (.cells [.slice w279 t276.2.1.length w281, optp w495, .int .i64 a0_2, .slice A0_3 a0_3.length c0_3, .slice A0_4 a0_4.length c0_4, .slice A0_5 a0_5.length c0_5, .slice A0_6 a0_6.length c0_6, .map (some b0_7)].toArray 89), row Fl.bs 9 A0_3 a0_3.length c0_3 a0_3, row api_Edge.fl 54 A0_4 a0_4.length c0_4 a0_4, grow api_Prop.ow 57 A0_5 a0_5.length c0_5 a0_5, row lts_step.fl 113 A0_6 a0_6.length c0_6 a0_6, mapo Fl.bs.ov Fl.bool.ov b0_7 a0_7, pt b286 (.cells [.int .i64 t276.2.2.1, .int .i64 t276.2.2.2.1, .string ⟨(t276.2.2.2.2.1).toArray⟩, .int .i64 t276.2.2.2.2.2].toArray 91)] 5 rfl ?_; refine At.H.take 0 rfl (by kernel_rfl) (by kernel_rfl) (by kernel_rfl) (Y.load rfl rfl (.s (.s (.s (.s (.s (.s (.s .z))))))) rfl rfl rfl) rfl rfl rfl (.c .z (.c .z (.c .z (.c .z (.c .z (.c .z (.c .z (.c .z .n)))))))) ?_; refine At.H.pv 1 rfl (by kernel_rfl) (by kernel_rfl) (by kernel_rfl) rfl rfl rfl rfl (.c .z (.c .z (.c .z (.c .z (.c .z (.c .z (.c .z (.c .z .n)))))))) ?_; refine At.H.take 2 rfl (by kernel_rfl) (by kernel_rfl) (by kernel_rfl) (Y.load rfl rfl (.s (.s (.s (.s (.s (.s (.s .z))))))) rfl rfl rfl) rfl rfl rfl (.c .z (.c .z (.c .z (.c .z (.c .z (.c .z (.c .z (.c .z .n)))))))) ?_; refine At.H.all [3] (by kernel_rfl) rfl (all_cons ?_ all_nil)
          · · refine At.HO.op rfl ?_
              refine At.store rfl rfl rfl rfl (.s (.s (.s (.s (.s (.s (.s (.s .z)))))))) rfl rfl rfl (.c (.c (.c (.c .n)))) ?_; refine At.HO.back (.c (.s .z) (.c (.s .z) (.c (.s .z) (.c (.s .z) (.c (.s .z) (.c (.s .z) (.c (.s .z) (.c (.s .z) .n)))))))) ?_; refine At.H.pv 4 rfl (by kernel_rfl) (by kernel_rfl) (by kernel_rfl) rfl rfl rfl rfl (.c (.s .z) (.c (.s .z) (.c (.s .z) (.c (.s .z) (.c (.s .z) (.c (.s .z) (.c (.s .z) (.c (.s .z) .n)))))))) ?_; refine At.H.done (by kernel_rfl) ?_; refine At.thn ?_; refine At.ret ?_; refine At.resM (.inl rfl) rfl (RV.cell rfl rfl .z rfl rfl rfl (RV.tmp rfl RV.nil)) ?_; refine At.drop .z ?_; refine At.drop (.s (.s (.s (.s (.s (.s (.s .z))))))) ?_; obtain rfl := (bret hrun).symm; exact fun a w e hs => ⟨_, ⟨w495, w279, t276.2.1.length, w281, rfl, rfl, hr282, rfl, hc284⟩, hs⟩
      · · refine At.condF rfl (bn h492) ?_
          refine At.skip ?_; refine At.thn ?_; refine At.seq ?_; refine At.held [pt b286 (.cells [.int .i64 t276.2.2.1, .int .i64 t276.2.2.2.1, .string ⟨(t276.2.2.2.2.1).toArray⟩, .int .i64 t276.2.2.2.2.2].toArray 91), optb (Ow.fl api_Fault.fl) 105 w278 t276.1, pt b0 (.cells [.slice w279 t276.2.1.length w281, optp w278, .int .i64 a0_2, .slice A0_3 a0_3.length c0_3, .slice A0_4 a0_4.length c0_4, .slice A0_5 a0_5.length c0_5, .slice A0_6 a0_6.length c0_6, .map (some b0_7)].toArray 89), row Fl.bs 9 A0_3 a0_3.length c0_3 a0_3, row api_Edge.fl 54 A0_4 a0_4.length c0_4 a0_4, grow api_Prop.ow 57 A0_5 a0_5.length c0_5 a0_5, row lts_step.fl 113 A0_6 a0_6.length c0_6 a0_6, mapo Fl.bs.ov Fl.bool.ov b0_7 a0_7] 5 rfl ?_; refine At.H.take 0 rfl (by kernel_rfl) (by kernel_rfl) (by kernel_rfl) (Y.load rfl rfl .z rfl rfl rfl) rfl rfl rfl (.c .z (.c .z (.c .z (.c .z (.c .z (.c .z (.c .z (.c .z .n)))))))) ?_; refine At.H.pv 1 rfl (by kernel_rfl) (by kernel_rfl) (by kernel_rfl) rfl rfl rfl rfl (.c .z (.c .z (.c .z (.c .z (.c .z (.c .z (.c .z (.c .z .n)))))))) ?_; refine At.H.take 2 rfl (by kernel_rfl) (by kernel_rfl) (by kernel_rfl) (Y.load rfl rfl .z rfl rfl rfl) rfl rfl rfl (.c .z (.c .z (.c .z (.c .z (.c .z (.c .z (.c .z (.c .z .n)))))))) ?_; refine At.H.all [3] (by kernel_rfl) rfl (all_cons ?_ all_nil)
          · · refine At.HO.op rfl ?_
              refine At.store rfl rfl rfl rfl (.s (.s (.s (.s (.s (.s (.s (.s .z)))))))) rfl rfl rfl (.c (.c (.c (.c .n)))) ?_; refine At.HO.back (.c (.s .z) (.c (.s .z) (.c (.s .z) (.c (.s .z) (.c (.s .z) (.c (.s .z) (.c (.s .z) (.c (.s .z) .n)))))))) ?_; refine At.H.pv 4 rfl (by kernel_rfl) (by kernel_rfl) (by kernel_rfl) rfl rfl rfl rfl (.c (.s .z) (.c (.s .z) (.c (.s .z) (.c (.s .z) (.c (.s .z) (.c (.s .z) (.c (.s .z) (.c (.s .z) .n)))))))) ?_; refine At.H.done (by kernel_rfl) ?_; refine At.thn ?_; refine At.ret ?_; refine At.resM (.inl rfl) rfl (RV.cell rfl rfl .z rfl rfl rfl (RV.tmp rfl RV.nil)) ?_; refine At.drop .z ?_; refine At.drop .z ?_; obtain rfl := (bret hrun).symm; exact fun a w e hs => ⟨_, ⟨w278, w279, t276.2.1.length, w281, rfl, rfl, hr282, rfl, hc284⟩, hs⟩
  · · rcases bite hrun with ⟨h497, hrun⟩ | ⟨h497, hrun⟩
      · · refine At.Quiet.know (t := 12) rfl h497 ?_
          refine At.Quiet.run 1 rfl ?_; refine At.Quiet.y (Y.load rfl rfl .z rfl rfl rfl) rfl rfl rfl ?_; refine At.Quiet.run 4 rfl ?_; refine At.Quiet.y (Y.load rfl rfl (.s (.s .z)) rfl rfl rfl) rfl rfl rfl ?_; refine At.Quiet.run 2 rfl ?_; exact At.Quiet.of (J491 (decide (a0_2 ≤ t276.2.2.2.2.2)) hrun) ⟨rfl, rfl, rfl, rfl, trivial⟩
      · · refine At.Quiet.know (t := 12) rfl (bn h497) ?_
          refine At.Quiet.run 9 rfl ?_; exact At.Quiet.of (J491 false hrun) ⟨rfl, rfl, rfl, rfl, trivial⟩

noncomputable def lts_reader_named.f (a0_0 : List api_Token) (a0_1 : Option api_Fault) (a0_2 : Int) (a0_3 : List Bs) (a0_4 : List api_Edge) (a0_5 : List api_Prop) (a0_6 : List lts_step) (a0_7 : List (Bs × Bool)) : Option ((Option api_Fault) × (List api_Token) × Int × Int × Bs × Int) :=
 (lts_reader_want.f a0_0 a0_1 a0_2 a0_3 a0_4 a0_5 a0_6 a0_7 2).bind fun t275 =>
 jn (
 if t275.1.isNone = true then
 (lts_name.f t275.2.2.2.2.1).bind fun t497 =>
 some (.inl (!t497))
 else
 some (.inl false)) (fun (x486 : Bool) =>
 if x486 = true then
 (lts_reader_fail.f t275.2.1 t275.1 a0_2 a0_3 a0_4 a0_5 a0_6 a0_7 t275.2.2.1 t275.2.2.2.1 t275.2.2.2.2.1 t275.2.2.2.2.2 7).bind fun t492 =>
 some (t492, t275.2.1, t275.2.2.1, t275.2.2.2.1, t275.2.2.2.2.1, t275.2.2.2.2.2)
 else
 some (t275.1, t275.2.1, t275.2.2.1, t275.2.2.2.1, t275.2.2.2.2.1, t275.2.2.2.2.2))
theorem lts_reader_named.callee : Callee Go.Proofs.Tryz.prog 62 := ⟨_, Go.Proofs.Tryz.func62, by kernel_rfl, by kernel_rfl⟩
set_option maxRecDepth 100000 in
set_option maxHeartbeats 2000000 in
theorem lts_reader_named.spec (R : Res) (Fr : List HProp) (b0 : Nat) (A0_0 : Option Addr) (n0_0 : Nat) (c0_0 : Nat) (p0_1 : Option Nat) (A0_3 : Option Addr) (n0_3 : Nat) (c0_3 : Nat) (A0_4 : Option Addr) (n0_4 : Nat) (c0_4 : Nat) (A0_5 : Option Addr) (n0_5 : Nat) (c0_5 : Nat) (A0_6 : Option Addr) (n0_6 : Nat) (c0_6 : Nat) (b0_7 : Nat) (a0_0 : List api_Token) (a0_1 : Option api_Fault) (a0_2 : Int) (a0_3 : List Bs) (a0_4 : List api_Edge) (a0_5 : List api_Prop) (a0_6 : List lts_step) (a0_7 : List (Bs × Bool)) (hr0_0 : RdS api_Token.fl.rep R.heap A0_0 a0_0) (hn0_0 : a0_0.length = n0_0) (hc0_0 : n0_0 ≤ c0_0) (hn0_3 : a0_3.length = n0_3) (hn0_4 : a0_4.length = n0_4) (hn0_5 : a0_5.length = n0_5) (hn0_6 : a0_6.length = n0_6) {r : (Option api_Fault) × (List api_Token) × Int × Int × Bs × Int} (hrun : lts_reader_named.f a0_0 a0_1 a0_2 a0_3 a0_4 a0_5 a0_6 a0_7 = some r) :
    Spec Go.Proofs.Tryz.prog 62 [.pointer (some ⟨b0, 0, none⟩)] R (pt b0 (.cells [.slice A0_0 n0_0 c0_0, optp p0_1, .int .i64 a0_2, .slice A0_3 n0_3 c0_3, .slice A0_4 n0_4 c0_4, .slice A0_5 n0_5 c0_5, .slice A0_6 n0_6 c0_6, .map (some b0_7)].toArray 89) :: optb (Ow.fl api_Fault.fl) 105 p0_1 a0_1 :: row Fl.bs 9 A0_3 n0_3 c0_3 a0_3 :: row api_Edge.fl 54 A0_4 n0_4 c0_4 a0_4 :: grow api_Prop.ow 57 A0_5 n0_5 c0_5 a0_5 :: row lts_step.fl 113 A0_6 n0_6 c0_6 a0_6 :: mapo Fl.bs.ov Fl.bool.ov b0_7 a0_7 :: Fr) (fun v l' => ∃ (w252 : Option Nat) (w259 : Option Addr) (w260 : Nat) (w261 : Nat), v = .agg #[.int .i64 r.2.2.1, .int .i64 r.2.2.2.1, .string ⟨(r.2.2.2.2.1).toArray⟩, .int .i64 r.2.2.2.2.2] ∧ optb (Ow.fl api_Fault.fl) 105 w252 r.1 :: pt b0 (.cells [.slice w259 w260 w261, optp w252, .int .i64 a0_2, .slice A0_3 n0_3 c0_3, .slice A0_4 n0_4 c0_4, .slice A0_5 n0_5 c0_5, .slice A0_6 n0_6 c0_6, .map (some b0_7)].toArray 89) :: row Fl.bs 9 A0_3 n0_3 c0_3 a0_3 :: row api_Edge.fl 54 A0_4 n0_4 c0_4 a0_4 :: grow api_Prop.ow 57 A0_5 n0_5 c0_5 a0_5 :: row lts_step.fl 113 A0_6 n0_6 c0_6 a0_6 :: mapo Fl.bs.ov Fl.bool.ov b0_7 a0_7 :: Fr = l' ∧ RdS api_Token.fl.rep R.heap w259 r.2.1 ∧ r.2.1.length = w260 ∧ w260 ≤ w261) := by
  subst hn0_0; subst hn0_3; subst hn0_4; subst hn0_5; subst hn0_6; refine Spec.of Go.Proofs.Tryz.func62 rfl rfl ?_; unfold lts_reader_named.f at hrun; have hrun := brun hrun; refine At.seq ?_; refine At.region ?_; refine At.alloc rfl rfl rfl (fun b274 => ?_); refine At.nil ?_; refine At.thn ?_; refine At.seq ?_; refine At.region ?_; refine At.run 1 rfl ?_; refine At.frt (.s (.s (.s (.s (.s (.s (.s .z))))))) ?_; refine At.frt (.s (.s (.s (.s (.s (.s (.s .z))))))) ?_; refine At.frt (.s (.s (.s (.s (.s (.s (.s .z))))))) ?_; refine At.frt (.s (.s (.s (.s (.s (.s (.s .z))))))) ?_; refine At.frt (.s (.s (.s (.s (.s (.s (.s .z))))))) ?_; refine At.frt (.s (.s (.s (.s (.s (.s (.s .z))))))) ?_; refine At.frt (.s (.s (.s (.s (.s (.s (.s .z))))))) ?_; obtain ⟨t275, hc276, hrun⟩ := bbind hrun; refine At.call rfl lts_reader_want.callee rfl rfl rfl (lts_reader_want.spec _ _ b0 A0_0 a0_0.length c0_0 p0_1 A0_3 a0_3.length c0_3 A0_4 a0_4.length c0_4 A0_5 a0_5.length c0_5 A0_6 a0_6.length c0_6 b0_7 a0_0 a0_1 a0_2 a0_3 a0_4 a0_5 a0_6 a0_7 2 hr0_0 rfl hc0_0 rfl rfl rfl rfl hc276) ?_; rintro _ _ ⟨w277, w278, w279, w280, rfl, rfl, hr281, rfl, hc283⟩; refine At.alloc rfl rfl rfl (fun b285 => ?_); refine At.store rfl rfl rfl rfl .z rfl rfl rfl (.c (.c (.c (.c .n)))) ?_; refine At.nil ?_; refine At.thn ?_; refine At.seq ?_; refine At.seq ?_; refine At.region ?_; refine At.run 3 rfl ?_; refine At.y (Y.load rfl rfl (.s (.s .z)) rfl rfl rfl) rfl rfl rfl ?_; refine At.y (Y.eqOpt (.s .z) rfl rfl rfl rfl) rfl rfl rfl ?_; refine At.run 1 rfl ?_; obtain ⟨G487, hl488, hr489, hrun⟩ := bjoin hrun; refine At.joinO 5 (X := Bool) (fun x486 => [(0, .pointer (some ⟨b0, 0, none⟩)), (2, .pointer (some ⟨b274, 0, none⟩)), (3, .pointer (some ⟨b285, 0, none⟩)), (16, .bool x486)]) (fun x486 => pt b285 (.cells [.int .i64 t275.2.2.1, .int .i64 t275.2.2.2.1, .string ⟨(t275.2.2.2.2.1).toArray⟩, .int .i64 t275.2.2.2.2.2].toArray 91) :: optb (Ow.fl api_Fault.fl) 105 w277 t275.1 :: pt b0 (.cells [.slice w278 t275.2.1.length w280, optp w277, .int .i64 a0_2, .slice A0_3 a0_3.length c0_3, .slice A0_4 a0_4.length c0_4, .slice A0_5 a0_5.length c0_5, .slice A0_6 a0_6.length c0_6, .map (some b0_7)].toArray 89) :: row Fl.bs 9 A0_3 a0_3.length c0_3 a0_3 :: row api_Edge.fl 54 A0_4 a0_4.length c0_4 a0_4 :: grow api_Prop.ow 57 A0_5 a0_5.length c0_5 a0_5 :: row lts_step.fl 113 A0_6 a0_6.length c0_6 a0_6 :: mapo Fl.bs.ov Fl.bool.ov b0_7 a0_7 :: pt b274 (.cells [.int .i64 0, .int .i64 0, .string ⟨(([] : Bs)).toArray⟩, .int .i64 0].toArray 91) :: Fr) (fun x486 => G487 (.inl x486) = some r) ?_ (fun J490 => ?_)
  · rintro x486 hrun; have hrun := (hl488 _).symm.trans hrun
    · refine At.nil ?_; refine At.thn ?_; rcases bite hrun with ⟨h491, hrun⟩ | ⟨h491, hrun⟩
      · · refine At.condT rfl h491 ?_
          refine At.region ?_; refine At.run 1 rfl ?_; refine At.y (Y.load rfl rfl .z rfl rfl rfl) rfl rfl rfl ?_; refine At.frt (.s (.s (.s (.s (.s (.s (.s .z))))))) ?_; refine At.frt (.s (.s (.s (.s (.s (.s (.s .z))))))) ?_; refine At.frt (.s (.s (.s (.s (.s (.s (.s .z))))))) ?_; refine At.frt (.s (.s (.s (.s (.s (.s (.s .z))))))) ?_; refine At.frt (.s (.s (.s (.s (.s (.s (.s .z))))))) ?_; refine At.frt (.s (.s (.s (.s (.s (.s .z)))))) ?_; refine At.frt (.s (.s (.s (.s (.s (.s (.s .z))))))) ?_; obtain ⟨t492, hc493, hrun⟩ := bbind hrun; refine At.call rfl lts_reader_fail.callee rfl rfl rfl (lts_reader_fail.spec _ _ b0 w278 t275.2.1.length w280 w277 A0_3 a0_3.length c0_3 A0_4 a0_4.length c0_4 A0_5 a0_5.length c0_5 A0_6 a0_6.length c0_6 b0_7 t275.2.1 t275.1 a0_2 a0_3 a0_4 a0_5 a0_6 a0_7 t275.2.2.1 t275.2.2.2.1 t275.2.2.2.2.1 t275.2.2.2.2.2 7 hr281 rfl hc283 rfl rfl rfl rfl hc493) ?_; rintro _ _ ⟨w494, rfl, rfl⟩; refine At.nil ?_; refine At.thn ?_; refine At.seq ?_; refine At.region ?_; refine At.y (Y.load rfl rfl (.s (.s (.s (.s (.s (.s (.s .z))))))) rfl rfl rfl) rfl rfl rfl ?_; refine At.store rfl rfl rfl rfl (.s (.s (.s (.s (.s (.s (.s (.s .z)))))))) rfl rfl rfl (.c (.c (.c (.c .n)))) ?_; refine At.nil ?_; refine At.thn ?_; refine At.ret ?_; refine At.resM (.inl rfl) rfl (RV.cell rfl rfl .z rfl rfl rfl RV.nil) ?_; refine At.drop .z ?_; refine At.drop (.s (.s (.s (.s (.s (.s (.s .z))))))) ?_; obtain rfl := (bret hrun).symm; exact fun a w e hs => ⟨_, ⟨w494, w278, t275.2.1.length, w280, rfl, rfl, hr281, rfl, hc283⟩, hs⟩
      · · refine At.condF rfl (bn h491) ?_
          refine At.skip ?_; refine At.thn ?_; refine At.seq ?_; refine At.region ?_; refine At.y (Y.load rfl rfl .z rfl rfl rfl) rfl rfl rfl ?_; refine At.store rfl rfl rfl rfl (.s (.s (.s (.s (.s (.s (.s (.s .z)))))))) rfl rfl rfl (.c (.c (.c (.c .n)))) ?_; refine At.nil ?_; refine At.thn ?_; refine At.ret ?_; refine At.resM (.inl rfl) rfl (RV.cell rfl rfl .z rfl rfl rfl RV.nil) ?_; refine At.drop .z ?_; refine At.drop .z ?_; obtain rfl := (bret hrun).symm; exact fun a w e hs => ⟨_, ⟨w277, w278, t275.2.1.length, w280, rfl, rfl, hr281, rfl, hc283⟩, hs⟩
  · · rcases bite hrun with ⟨h496, hrun⟩ | ⟨h496, hrun⟩
      · · refine At.know (t := 11) rfl h496 ?_
          refine At.run 1 rfl ?_; refine At.y (Y.load rfl rfl .z rfl rfl rfl) rfl rfl rfl ?_; obtain ⟨t497, hc498, hrun⟩ := bbind hrun; refine At.call rfl lts_name.callee rfl rfl rfl (lts_name.spec _ _  t275.2.2.2.2.1  hc498) ?_; rintro _ _ ⟨rfl, rfl⟩; refine At.run 2 rfl ?_; exact At.of (J490 (!t497) hrun) ⟨rfl, rfl, rfl, rfl, trivial⟩
      · · refine At.know (t := 11) rfl (bn h496) ?_
          refine At.run 5 rfl ?_; exact At.of (J490 false hrun) ⟨rfl, rfl, rfl, rfl, trivial⟩

noncomputable def slices_Index_lts_step_lts_step.l0b (a0 : List lts_step) (a1_0 : Int) (a1_1 : Bs) (a1_2 : Int) (x855 : Int) : Option ((Int) ⊕ ((Unit) ⊕ (Int))) :=
 if x855 < (a0.length : Int) then
 if (0 : Int) ≤ x855 ∧ x855 < (a0.length : Int) then
 if (decide (a1_0 = (gt a0 x855).from_) && (bseq a1_1 ((gt a0 x855).action) && (decide (a1_2 = (gt a0 x855).to) && true))) = true then
 upL (some x855)
 else
 nx (IntKind.i64.wrap (x855 + 1))
 else none
 else
 dn (.inl ())
noncomputable def slices_Index_lts_step_lts_step.l0 (a0 : List lts_step) (a1_0 : Int) (a1_1 : Bs) (a1_2 : Int) (x855 : Int) : Option ((Unit) ⊕ (Int)) := iter (fun t_ : Int => slices_Index_lts_step_lts_step.l0b a0 a1_0 a1_1 a1_2 t_) x855
noncomputable def slices_Index_lts_step_lts_step.f (a0 : List lts_step) (a1_0 : Int) (a1_1 : Bs) (a1_2 : Int) : Option Int :=
 jn (slices_Index_lts_step_lts_step.l0 a0 a1_0 a1_1 a1_2 0) (fun (_ : Unit) =>
 some (-1))
theorem slices_Index_lts_step_lts_step.callee : Callee Go.Proofs.Tryz.prog 79 := ⟨_, Go.Proofs.Tryz.func79, by kernel_rfl, by kernel_rfl⟩
set_option maxRecDepth 100000 in
set_option maxHeartbeats 2000000 in
theorem slices_Index_lts_step_lts_step.spec (R : Res) (Fr : List HProp) (A0 : Option Addr) (n0 : Nat) (c0 : Nat) (a0 : List lts_step) (a1_0 : Int) (a1_1 : Bs) (a1_2 : Int) (hr0 : RdS lts_step.fl.rep R.heap A0 a0) (hn0 : a0.length = n0) (hc0 : n0 ≤ c0) {r : Int} (hrun : slices_Index_lts_step_lts_step.f a0 a1_0 a1_1 a1_2 = some r) :
    Spec Go.Proofs.Tryz.prog 79 [.slice A0 n0 c0, .agg #[.int .i64 a1_0, .string ⟨(a1_1).toArray⟩, .int .i64 a1_2]] R (Fr) (fun v l' => v = .int .i64 r ∧ Fr = l') := by
  subst hn0; refine Spec.of Go.Proofs.Tryz.func79 rfl rfl ?_; unfold slices_Index_lts_step_lts_step.f at hrun; have hrun := brun hrun; refine At.seq ?_; refine At.region ?_; refine At.box rfl rfl (cs := [.int .i64 a1_0, .string ⟨(a1_1).toArray⟩, .int .i64 a1_2]) rfl rfl (fun b253 => ?_); refine At.run 1 rfl ?_; refine At.nil ?_; refine At.thn ?_; refine At.seq ?_; refine At.seq ?_; refine At.region ?_; refine At.run 3 rfl ?_; refine At.nil ?_; refine At.thn ?_; refine At.block ?_; obtain ⟨G1056, hl1057, hr1058, hrun⟩ := bjoin hrun; obtain ⟨o1059, hlo1060, ho1061⟩ := bsome hrun; clear hrun; unfold slices_Index_lts_step_lts_step.l0 at hlo1060; obtain ⟨m1062, hit1064⟩ := iter_some.1 hlo1060; clear hlo1060; refine At.loopJ (X := Int) (Y := Unit) (e0 := 0) (fun x855 => [(0, .slice A0 a0.length c0), (3, .pointer (some ⟨b253, 0, none⟩)), (7, .int .i64 (a0.length : Int)), (8, .int .i64 x855)]) (fun x855 => pt b253 (.cells [.int .i64 a1_0, .string ⟨(a1_1).toArray⟩, .int .i64 a1_2].toArray 113) :: Fr) (fun m_ => fun x855 => iterN (fun t_ : Int => slices_Index_lts_step_lts_step.l0b a0 a1_0 a1_1 a1_2 t_) m_ x855 = some o1059) m1062 0 hit1064 (fun _ => []) (fun _ => pt b253 (.cells [.int .i64 a1_0, .string ⟨(a1_1).toArray⟩, .int .i64 a1_2].toArray 113) :: Fr) (fun _ => G1056 (.inl ()) = some r) (fun a w e hs => ⟨e.sub ⟨rfl, rfl, rfl, rfl, trivial⟩, (by exact hs)⟩) ?_ (fun J1066 => ?_)
  · rintro _ hrun; have hrun := (hl1057 _).symm.trans hrun
    · refine At.ibx ?_; refine At.thn ?_; refine At.seq ?_; refine At.region ?_; refine At.run 1 rfl ?_; refine At.nil ?_; refine At.thn ?_; refine At.ret ?_; refine At.drop .z ?_; obtain rfl := (bret hrun).symm; exact At.res (.inl rfl) rfl rfl ⟨rfl, rfl⟩
  · clear hit1064 m1062; rintro m1062 x855 hit1064; obtain ⟨m1063, f_, hlt1065, hf_, hrun⟩ := bit hit1064; clear hit1064; have hrun : (slices_Index_lts_step_lts_step.l0b a0 a1_0 a1_1 a1_2 x855).bind _ = some o1059 := hrun; unfold slices_Index_lts_step_lts_step.l0b at hrun
    · refine At.seq ?_; refine At.region ?_; refine At.run 1 rfl ?_; refine At.nil ?_; refine At.thn ?_; refine At.seq ?_; rcases bite hrun with ⟨h1067, hrun⟩ | ⟨h1067, hrun⟩
      · · refine At.condT rfl (decide_eq_true h1067) ?_
          refine At.skip ?_; refine At.thn ?_; refine At.seq ?_; refine At.block ?_; refine At.seq ?_; refine At.region ?_; refine At.run 2 rfl ?_; refine At.nil ?_; refine At.thn ?_; refine At.seq ?_; refine At.quiet (by kernel_rfl) ?_; refine At.Quiet.y (Y.load rfl rfl .z rfl rfl rfl) rfl rfl rfl ?_; refine At.Quiet.run 2 rfl ?_; obtain ⟨h1068, hrun⟩ := bnone hrun; refine At.Quiet.y (Y.ixRd hr0 rfl rfl rfl rfl rfl rfl rfl h1068.1 h1068.2) rfl rfl rfl ?_; refine At.Quiet.y (Y.ldFl hr0 rfl (q := 0) rfl rfl h1068.1 h1068.2 rfl rfl rfl) rfl rfl rfl ?_; refine At.Quiet.y (Y.eqSt (xs := [.int .i64 a1_0, .string ⟨(a1_1).toArray⟩, .int .i64 a1_2]) (ys := [.int .i64 ((gt a0 x855).from_), .string ⟨((gt a0 x855).action).toArray⟩, .int .i64 ((gt a0 x855).to)]) rfl rfl rfl rfl (by kernel_rfl) (by kernel_rfl) (by kernel_rfl) rfl) rfl rfl rfl ?_; refine At.Quiet.nil ?_; refine At.thn ?_; rcases bite hrun with ⟨h1069, hrun⟩ | ⟨h1069, hrun⟩
          · · refine At.condT rfl h1069 ?_
              refine At.seq ?_; refine At.region ?_; refine At.run 2 rfl ?_; refine At.nil ?_; refine At.thn ?_; refine At.ret ?_; refine At.ibr ?_; refine At.thr ?_; have hrun := bupL hr1058 ho1061 hrun; refine At.thr ?_; refine At.ibr ?_; refine At.thr ?_; refine At.drop .z ?_; obtain rfl := (bret hrun).symm; exact At.res (.inl rfl) rfl rfl ⟨rfl, rfl⟩
          · · refine At.condF rfl (bn h1069) ?_
              refine At.skip ?_; refine At.ibn ?_; refine At.thn ?_; refine At.region ?_; refine At.run 2 rfl ?_; refine At.nil ?_; have hrun := bnx hf_ hrun; exact fun a w e hs => ⟨m1063, (IntKind.i64.wrap (x855 + 1)), hlt1065, hrun, e.sub ⟨rfl, rfl, rfl, rfl, trivial⟩, hs⟩
      · · refine At.condF rfl (decide_eq_false h1067) ?_
          refine At.exit ?_; refine At.the ?_; refine At.the ?_; exact fun a w e hs => J1066 () (bdn hrun ho1061) a w (e.sub trivial) hs

noncomputable def slices_Contains_lts_step_lts_step.f (a0 : List lts_step) (a1_0 : Int) (a1_1 : Bs) (a1_2 : Int) : Option Bool :=
 (slices_Index_lts_step_lts_step.f a0 a1_0 a1_1 a1_2).bind fun t254 =>
 some (decide (0 ≤ t254))
theorem slices_Contains_lts_step_lts_step.callee : Callee Go.Proofs.Tryz.prog 63 := ⟨_, Go.Proofs.Tryz.func63, by kernel_rfl, by kernel_rfl⟩
set_option maxRecDepth 100000 in
set_option maxHeartbeats 2000000 in
theorem slices_Contains_lts_step_lts_step.spec (R : Res) (Fr : List HProp) (A0 : Option Addr) (n0 : Nat) (c0 : Nat) (a0 : List lts_step) (a1_0 : Int) (a1_1 : Bs) (a1_2 : Int) (hr0 : RdS lts_step.fl.rep R.heap A0 a0) (hn0 : a0.length = n0) (hc0 : n0 ≤ c0) {r : Bool} (hrun : slices_Contains_lts_step_lts_step.f a0 a1_0 a1_1 a1_2 = some r) :
    Spec Go.Proofs.Tryz.prog 63 [.slice A0 n0 c0, .agg #[.int .i64 a1_0, .string ⟨(a1_1).toArray⟩, .int .i64 a1_2]] R (Fr) (fun v l' => v = .bool r ∧ Fr = l') := by
  subst hn0; refine Spec.of Go.Proofs.Tryz.func63 rfl rfl ?_; unfold slices_Contains_lts_step_lts_step.f at hrun; have hrun := brun hrun; refine At.seq ?_; refine At.region ?_; refine At.box rfl rfl (cs := [.int .i64 a1_0, .string ⟨(a1_1).toArray⟩, .int .i64 a1_2]) rfl rfl (fun b253 => ?_); refine At.run 1 rfl ?_; refine At.nil ?_; refine At.thn ?_; refine At.seq ?_; refine At.region ?_; refine At.run 1 rfl ?_; refine At.y (Y.load rfl rfl .z rfl rfl rfl) rfl rfl rfl ?_; obtain ⟨t254, hc255, hrun⟩ := bbind hrun; refine At.call rfl slices_Index_lts_step_lts_step.callee rfl rfl rfl (slices_Index_lts_step_lts_step.spec _ _ A0 a0.length c0 a0 a1_0 a1_1 a1_2 hr0 rfl hc0 hc255) ?_; rintro _ _ ⟨rfl, rfl⟩; refine At.run 2 rfl ?_; refine At.nil ?_; refine At.thn ?_; refine At.ret ?_; refine At.drop .z ?_; obtain rfl := (bret hrun).symm; exact At.res (.inl rfl) rfl rfl ⟨rfl, rfl⟩

end Go.Bw
