/- Walks: what the functions of the program compute, told by plain functions, and that the calls come to them. Conditions: none. -/
import Derived.Test.YtmkidaijgdgcjaaBwTyx
import Derived.Test.YtmkidaijgdgcjaaProg
import Derived.Test.YtmkidaijgdgcjaaBwLay
import Derived.Test.YtmkidaijgdgcjaaBwSortI
import Derived.Test.YtmkidaijgdgcjaaBwSortF
import Derived.Deep.QuietTactic
import Derived.Test.YtmkidaijgdgcjaaBwJud
import Derived.Test.YtmkidaijgdgcjaaBwAgg
set_option linter.unusedVariables false
set_option linter.unusedSimpArgs false
set_option linter.unusedSectionVars false
namespace Go.Bw
open Go Go.RowKit Go.Proofs
noncomputable def bailifflaw16_JudgeSpoilt.l0b (a0_0 : List Int) (a1_0 : List Int) (a2 : Int) (x1082 : List Int) (x1087 : Int) : Option (((List Int) × Int) ⊕ (((List Int)) ⊕ (Bool))) :=
  if x1087 < (a1_0.length : Int) then
    jn (
      if (0 : Int) ≤ x1087 ∧ x1087 < (a1_0.length : Int) then
        if gt a1_0 x1087 = (Int.tmod (IntKind.i64.wrap (0 - (IntKind.i64.wrap (a2 + 1)))) (a0_0.length : Int)) then
          some (.inl x1082)
        else
          if (x1082.length + ([(gt a1_0 x1087)] : List Int).length) * 8 ≤ 140737488355328 then
            some (.inl (x1082 ++ ([(gt a1_0 x1087)] : List Int)))
          else none
      else none) (fun (x1972 : List Int) =>
      nx (x1972, IntKind.i64.wrap (x1087 + 1)))
  else
    dn (.inl x1082)
noncomputable def bailifflaw16_JudgeSpoilt.l0 (a0_0 : List Int) (a1_0 : List Int) (a2 : Int) (x1082 : List Int) (x1087 : Int) : Option (((List Int)) ⊕ (Bool)) := iter (fun t_ : (List Int) × Int => bailifflaw16_JudgeSpoilt.l0b a0_0 a1_0 a2 t_.1 t_.2) (x1082, x1087)
noncomputable def bailifflaw16_JudgeSpoilt.l1b (a0_0 : List Int) (a1_1 : List Int) (a2 : Int) (x2591 : List Int) (x2596 : Int) : Option (((List Int) × Int) ⊕ (((List Int)) ⊕ (Bool))) :=
  if x2596 < (a1_1.length : Int) then
    jn (
      if (0 : Int) ≤ x2596 ∧ x2596 < (a1_1.length : Int) then
        if gt a1_1 x2596 = (Int.tmod (IntKind.i64.wrap (0 - (IntKind.i64.wrap (a2 + 1)))) (a0_0.length : Int)) then
          some (.inl x2591)
        else
          if (x2591.length + ([(gt a1_1 x2596)] : List Int).length) * 8 ≤ 140737488355328 then
            some (.inl (x2591 ++ ([(gt a1_1 x2596)] : List Int)))
          else none
      else none) (fun (x3481 : List Int) =>
      nx (x3481, IntKind.i64.wrap (x2596 + 1)))
  else
    dn (.inl x2591)
noncomputable def bailifflaw16_JudgeSpoilt.l1 (a0_0 : List Int) (a1_1 : List Int) (a2 : Int) (x2591 : List Int) (x2596 : Int) : Option (((List Int)) ⊕ (Bool)) := iter (fun t_ : (List Int) × Int => bailifflaw16_JudgeSpoilt.l1b a0_0 a1_1 a2 t_.1 t_.2) (x2591, x2596)
noncomputable def bailifflaw16_JudgeSpoilt.l2b (a0_0 : List Int) (a1_0 : List Int) (a2 : Int) (x4104 : List Int) (x4109 : Int) : Option (((List Int) × Int) ⊕ (((List Int)) ⊕ (Bool))) :=
  if x4109 < (a1_0.length : Int) then
    jn (
      if (0 : Int) ≤ x4109 ∧ x4109 < (a1_0.length : Int) then
        if gt a1_0 x4109 = (Int.tmod a2 (a0_0.length : Int)) then
          some (.inl x4104)
        else
          if (x4104.length + ([(gt a1_0 x4109)] : List Int).length) * 8 ≤ 140737488355328 then
            some (.inl (x4104 ++ ([(gt a1_0 x4109)] : List Int)))
          else none
      else none) (fun (x4994 : List Int) =>
      nx (x4994, IntKind.i64.wrap (x4109 + 1)))
  else
    dn (.inl x4104)
noncomputable def bailifflaw16_JudgeSpoilt.l2 (a0_0 : List Int) (a1_0 : List Int) (a2 : Int) (x4104 : List Int) (x4109 : Int) : Option (((List Int)) ⊕ (Bool)) := iter (fun t_ : (List Int) × Int => bailifflaw16_JudgeSpoilt.l2b a0_0 a1_0 a2 t_.1 t_.2) (x4104, x4109)
noncomputable def bailifflaw16_JudgeSpoilt.l3b (a0_0 : List Int) (a1_1 : List Int) (a2 : Int) (x5613 : List Int) (x5618 : Int) : Option (((List Int) × Int) ⊕ (((List Int)) ⊕ (Bool))) :=
  if x5618 < (a1_1.length : Int) then
    jn (
      if (0 : Int) ≤ x5618 ∧ x5618 < (a1_1.length : Int) then
        if gt a1_1 x5618 = (Int.tmod a2 (a0_0.length : Int)) then
          some (.inl x5613)
        else
          if (x5613.length + ([(gt a1_1 x5618)] : List Int).length) * 8 ≤ 140737488355328 then
            some (.inl (x5613 ++ ([(gt a1_1 x5618)] : List Int)))
          else none
      else none) (fun (x6503 : List Int) =>
      nx (x6503, IntKind.i64.wrap (x5618 + 1)))
  else
    dn (.inl x5613)
noncomputable def bailifflaw16_JudgeSpoilt.l3 (a0_0 : List Int) (a1_1 : List Int) (a2 : Int) (x5613 : List Int) (x5618 : Int) : Option (((List Int)) ⊕ (Bool)) := iter (fun t_ : (List Int) × Int => bailifflaw16_JudgeSpoilt.l3b a0_0 a1_1 a2 t_.1 t_.2) (x5613, x5618)
noncomputable def bailifflaw16_JudgeSpoilt.f (a0_0 : List Int) (a0_1 : List Int) (a0_2 : List (List Int)) (a1_0 : List Int) (a1_1 : List Int) (a1_2 : List Int) (a1_3 : List Int) (a2 : Int) : Option Bool :=
  (bailifflaw16_shown.f ).bind fun t260 =>
    (judge_Judge.f a0_0 a0_1 a0_2 a1_0 a1_1 a1_2 a1_3).bind fun t262 =>
      jn (
        if t260 = true then
          some (.inl (!(decide (t262.1 = 0))))
        else
          some (.inl true)) (fun (x465 : Bool) =>
        if x465 = true then
          some t260
        else
          if a2 < 0 then
            if ¬ (a0_0.length : Int) = 0 then
              (bailiffref16_Count.f a1_0 (Int.tmod (IntKind.i64.wrap (0 - (IntKind.i64.wrap (a2 + 1)))) (a0_0.length : Int))).bind fun t473 =>
                if 0 < t473 then
                  jn (bailifflaw16_JudgeSpoilt.l0 a0_0 a1_0 a2 ([] : List Int) 0) (fun (x1288 : List Int) =>
                    if (([] : List Int).length + a1_1.length) * 8 ≤ 140737488355328 then
                      if ((([] : List Int) ++ a1_1).length + ([(Int.tmod (IntKind.i64.wrap (0 - (IntKind.i64.wrap (a2 + 1)))) (a0_0.length : Int))] : List Int).length) * 8 ≤ 140737488355328 then
                        if (([] : List Int).length + a1_0.length) * 8 ≤ 140737488355328 then
                          if ((([] : List Int) ++ a1_0).length + ([(Int.tmod (IntKind.i64.wrap (0 - (IntKind.i64.wrap (a2 + 1)))) (a0_0.length : Int))] : List Int).length) * 8 ≤ 140737488355328 then
                            (judge_Judge.f a0_0 a0_1 a0_2 x1288 ((([] : List Int) ++ a1_1) ++ ([(Int.tmod (IntKind.i64.wrap (0 - (IntKind.i64.wrap (a2 + 1)))) (a0_0.length : Int))] : List Int)) a1_2 a1_3).bind fun t1343 =>
                              jn (
                                if t1343.1 = 0 then
                                  some (.inl false)
                                else
                                  (judge_Judge.f a0_0 a0_1 a0_2 x1288 a1_1 a1_2 a1_3).bind fun t1765 =>
                                    some (.inl (decide (t1765.1 = 19) && (decide (t1765.2.1 = 0) && (decide (t1765.2.2 = (Int.tmod (IntKind.i64.wrap (0 - (IntKind.i64.wrap (a2 + 1)))) (a0_0.length : Int))) && true))))) (fun (x1545 : Bool) =>
                                jn (
                                  if x1545 = true then
                                    (judge_Judge.f a0_0 a0_1 a0_2 ((([] : List Int) ++ a1_0) ++ ([(Int.tmod (IntKind.i64.wrap (0 - (IntKind.i64.wrap (a2 + 1)))) (a0_0.length : Int))] : List Int)) a1_1 a1_2 a1_3).bind fun t1762 =>
                                      some (.inl (decide (t1762.1 = 19) && (decide (t1762.2.1 = 0) && (decide (t1762.2.2 = (Int.tmod (IntKind.i64.wrap (0 - (IntKind.i64.wrap (a2 + 1)))) (a0_0.length : Int))) && true))))
                                  else
                                    some (.inl false)) (fun (x1750 : Bool) =>
                                  some x1750))
                          else none
                        else none
                      else none
                    else none)
                else
                  jn (bailifflaw16_JudgeSpoilt.l1 a0_0 a1_1 a2 ([] : List Int) 0) (fun (x2797 : List Int) =>
                    if (([] : List Int).length + a1_0.length) * 8 ≤ 140737488355328 then
                      if ((([] : List Int) ++ a1_0).length + ([(Int.tmod (IntKind.i64.wrap (0 - (IntKind.i64.wrap (a2 + 1)))) (a0_0.length : Int))] : List Int).length) * 8 ≤ 140737488355328 then
                        if (([] : List Int).length + a1_1.length) * 8 ≤ 140737488355328 then
                          if ((([] : List Int) ++ a1_1).length + ([(Int.tmod (IntKind.i64.wrap (0 - (IntKind.i64.wrap (a2 + 1)))) (a0_0.length : Int))] : List Int).length) * 8 ≤ 140737488355328 then
                            (judge_Judge.f a0_0 a0_1 a0_2 ((([] : List Int) ++ a1_0) ++ ([(Int.tmod (IntKind.i64.wrap (0 - (IntKind.i64.wrap (a2 + 1)))) (a0_0.length : Int))] : List Int)) x2797 a1_2 a1_3).bind fun t2852 =>
                              jn (
                                if t2852.1 = 0 then
                                  some (.inl false)
                                else
                                  (judge_Judge.f a0_0 a0_1 a0_2 a1_0 x2797 a1_2 a1_3).bind fun t3274 =>
                                    some (.inl (decide (t3274.1 = 19) && (decide (t3274.2.1 = 0) && (decide (t3274.2.2 = (Int.tmod (IntKind.i64.wrap (0 - (IntKind.i64.wrap (a2 + 1)))) (a0_0.length : Int))) && true))))) (fun (x3054 : Bool) =>
                                jn (
                                  if x3054 = true then
                                    (judge_Judge.f a0_0 a0_1 a0_2 a1_0 ((([] : List Int) ++ a1_1) ++ ([(Int.tmod (IntKind.i64.wrap (0 - (IntKind.i64.wrap (a2 + 1)))) (a0_0.length : Int))] : List Int)) a1_2 a1_3).bind fun t3271 =>
                                      some (.inl (decide (t3271.1 = 19) && (decide (t3271.2.1 = 0) && (decide (t3271.2.2 = (Int.tmod (IntKind.i64.wrap (0 - (IntKind.i64.wrap (a2 + 1)))) (a0_0.length : Int))) && true))))
                                  else
                                    some (.inl false)) (fun (x3259 : Bool) =>
                                  some x3259))
                          else none
                        else none
                      else none
                    else none)
            else none
          else
            if ¬ (a0_0.length : Int) = 0 then
              (bailiffref16_Count.f a1_0 (Int.tmod a2 (a0_0.length : Int))).bind fun t3495 =>
                if 0 < t3495 then
                  jn (bailifflaw16_JudgeSpoilt.l2 a0_0 a1_0 a2 ([] : List Int) 0) (fun (x4310 : List Int) =>
                    if (([] : List Int).length + a1_1.length) * 8 ≤ 140737488355328 then
                      if ((([] : List Int) ++ a1_1).length + ([(Int.tmod a2 (a0_0.length : Int))] : List Int).length) * 8 ≤ 140737488355328 then
                        if (([] : List Int).length + a1_0.length) * 8 ≤ 140737488355328 then
                          if ((([] : List Int) ++ a1_0).length + ([(Int.tmod a2 (a0_0.length : Int))] : List Int).length) * 8 ≤ 140737488355328 then
                            (judge_Judge.f a0_0 a0_1 a0_2 x4310 ((([] : List Int) ++ a1_1) ++ ([(Int.tmod a2 (a0_0.length : Int))] : List Int)) a1_2 a1_3).bind fun t4365 =>
                              jn (
                                if t4365.1 = 0 then
                                  some (.inl false)
                                else
                                  (judge_Judge.f a0_0 a0_1 a0_2 x4310 a1_1 a1_2 a1_3).bind fun t4787 =>
                                    some (.inl (decide (t4787.1 = 19) && (decide (t4787.2.1 = 0) && (decide (t4787.2.2 = (Int.tmod a2 (a0_0.length : Int))) && true))))) (fun (x4567 : Bool) =>
                                jn (
                                  if x4567 = true then
                                    (judge_Judge.f a0_0 a0_1 a0_2 ((([] : List Int) ++ a1_0) ++ ([(Int.tmod a2 (a0_0.length : Int))] : List Int)) a1_1 a1_2 a1_3).bind fun t4784 =>
                                      some (.inl (decide (t4784.1 = 19) && (decide (t4784.2.1 = 0) && (decide (t4784.2.2 = (Int.tmod a2 (a0_0.length : Int))) && true))))
                                  else
                                    some (.inl false)) (fun (x4772 : Bool) =>
                                  some x4772))
                          else none
                        else none
                      else none
                    else none)
                else
                  jn (bailifflaw16_JudgeSpoilt.l3 a0_0 a1_1 a2 ([] : List Int) 0) (fun (x5819 : List Int) =>
                    if (([] : List Int).length + a1_0.length) * 8 ≤ 140737488355328 then
                      if ((([] : List Int) ++ a1_0).length + ([(Int.tmod a2 (a0_0.length : Int))] : List Int).length) * 8 ≤ 140737488355328 then
                        if (([] : List Int).length + a1_1.length) * 8 ≤ 140737488355328 then
                          if ((([] : List Int) ++ a1_1).length + ([(Int.tmod a2 (a0_0.length : Int))] : List Int).length) * 8 ≤ 140737488355328 then
                            (judge_Judge.f a0_0 a0_1 a0_2 ((([] : List Int) ++ a1_0) ++ ([(Int.tmod a2 (a0_0.length : Int))] : List Int)) x5819 a1_2 a1_3).bind fun t5874 =>
                              jn (
                                if t5874.1 = 0 then
                                  some (.inl false)
                                else
                                  (judge_Judge.f a0_0 a0_1 a0_2 a1_0 x5819 a1_2 a1_3).bind fun t6296 =>
                                    some (.inl (decide (t6296.1 = 19) && (decide (t6296.2.1 = 0) && (decide (t6296.2.2 = (Int.tmod a2 (a0_0.length : Int))) && true))))) (fun (x6076 : Bool) =>
                                jn (
                                  if x6076 = true then
                                    (judge_Judge.f a0_0 a0_1 a0_2 a1_0 ((([] : List Int) ++ a1_1) ++ ([(Int.tmod a2 (a0_0.length : Int))] : List Int)) a1_2 a1_3).bind fun t6293 =>
                                      some (.inl (decide (t6293.1 = 19) && (decide (t6293.2.1 = 0) && (decide (t6293.2.2 = (Int.tmod a2 (a0_0.length : Int))) && true))))
                                  else
                                    some (.inl false)) (fun (x6281 : Bool) =>
                                  some x6281))
                          else none
                        else none
                      else none
                    else none)
            else none)
theorem bailifflaw16_JudgeSpoilt.callee : Callee Go.Proofs.Try.prog 11 := ⟨_, Go.Proofs.Try.func11, by kernel_rfl, by kernel_rfl⟩
set_option maxRecDepth 100000 in
set_option maxHeartbeats 2000000 in
theorem bailifflaw16_JudgeSpoilt.spec (R : Res) (Fr : List HProp) (A0_0 : Option Addr) (n0_0 : Nat) (c0_0 : Nat) (A0_1 : Option Addr) (n0_1 : Nat) (c0_1 : Nat) (A0_2 : Option Addr) (n0_2 : Nat) (c0_2 : Nat) (A1_0 : Option Addr) (n1_0 : Nat) (c1_0 : Nat) (A1_1 : Option Addr) (n1_1 : Nat) (c1_1 : Nat) (A1_2 : Option Addr) (n1_2 : Nat) (c1_2 : Nat) (A1_3 : Option Addr) (n1_3 : Nat) (c1_3 : Nat) (a0_0 : List Int) (a0_1 : List Int) (a0_2 : List (List Int)) (a1_0 : List Int) (a1_1 : List Int) (a1_2 : List Int) (a1_3 : List Int) (a2 : Int) (hr0_0 : RdS (Fl.int .i64).rep R.heap A0_0 a0_0) (hn0_0 : a0_0.length = n0_0) (hc0_0 : n0_0 ≤ c0_0) (hr0_1 : RdS (Fl.int .i64).rep R.heap A0_1 a0_1) (hn0_1 : a0_1.length = n0_1) (hc0_1 : n0_1 ≤ c0_1) (hr0_2 : RdS ((Fl.int .i64).rep).slice R.heap A0_2 a0_2) (hn0_2 : a0_2.length = n0_2) (hc0_2 : n0_2 ≤ c0_2) (hr1_0 : RdS (Fl.int .i64).rep R.heap A1_0 a1_0) (hn1_0 : a1_0.length = n1_0) (hc1_0 : n1_0 ≤ c1_0) (hr1_1 : RdS (Fl.int .i64).rep R.heap A1_1 a1_1) (hn1_1 : a1_1.length = n1_1) (hc1_1 : n1_1 ≤ c1_1) (hr1_2 : RdS (Fl.int .i64).rep R.heap A1_2 a1_2) (hn1_2 : a1_2.length = n1_2) (hc1_2 : n1_2 ≤ c1_2) (hr1_3 : RdS (Fl.int .i64).rep R.heap A1_3 a1_3) (hn1_3 : a1_3.length = n1_3) (hc1_3 : n1_3 ≤ c1_3) {r : Bool} (hrun : bailifflaw16_JudgeSpoilt.f a0_0 a0_1 a0_2 a1_0 a1_1 a1_2 a1_3 a2 = some r) :
    Spec Go.Proofs.Try.prog 11 [.agg #[.slice A0_0 n0_0 c0_0, .slice A0_1 n0_1 c0_1, .slice A0_2 n0_2 c0_2], .agg #[.slice A1_0 n1_0 c1_0, .slice A1_1 n1_1 c1_1, .slice A1_2 n1_2 c1_2, .slice A1_3 n1_3 c1_3], .int .i64 a2] R (Fr) (fun v l' => v = .bool r ∧ Fr = l') := by
  subst hn0_0
  subst hn0_1
  subst hn0_2
  subst hn1_0
  subst hn1_1
  subst hn1_2
  subst hn1_3
  refine Spec.of Go.Proofs.Try.func11 rfl rfl ?_
  unfold bailifflaw16_JudgeSpoilt.f at hrun
  have hrun := brun hrun
  refine At.seq ?_
  refine At.region ?_
  refine At.box rfl rfl (cs := [.slice A0_0 a0_0.length c0_0, .slice A0_1 a0_1.length c0_1, .slice A0_2 a0_2.length c0_2]) rfl rfl (fun b258 => ?_)
  refine At.box rfl rfl (cs := [.slice A1_0 a1_0.length c1_0, .slice A1_1 a1_1.length c1_1, .slice A1_2 a1_2.length c1_2, .slice A1_3 a1_3.length c1_3]) rfl rfl (fun b259 => ?_)
  refine At.run 1 rfl ?_
  refine At.nil ?_
  refine At.thn ?_
  refine At.seq ?_
  refine At.region ?_
  obtain ⟨t260, hc261, hrun⟩ := bbind hrun
  refine At.call rfl bailifflaw16_shown.callee rfl rfl rfl (bailifflaw16_shown.spec _ _    hc261) ?_
  rintro _ _ ⟨rfl, rfl⟩
  refine At.run 1 rfl ?_
  refine At.nil ?_
  refine At.thn ?_
  refine At.seq ?_
  refine At.region ?_
  refine At.y (Y.load rfl rfl (.s .z) rfl rfl rfl) rfl rfl rfl ?_
  refine At.y (Y.load rfl rfl .z rfl rfl rfl) rfl rfl rfl ?_
  obtain ⟨t262, hc263, hrun⟩ := bbind hrun
  refine At.call rfl judge_Judge.callee rfl rfl rfl (judge_Judge.spec _ _ A0_0 a0_0.length c0_0 A0_1 a0_1.length c0_1 A0_2 a0_2.length c0_2 A1_0 a1_0.length c1_0 A1_1 a1_1.length c1_1 A1_2 a1_2.length c1_2 A1_3 a1_3.length c1_3 a0_0 a0_1 a0_2 a1_0 a1_1 a1_2 a1_3 hr0_0 rfl hc0_0 hr0_1 rfl hc0_1 hr0_2 rfl hc0_2 hr1_0 rfl hc1_0 hr1_1 rfl hc1_1 hr1_2 rfl hc1_2 hr1_3 rfl hc1_3 hc263) ?_
  rintro _ _ ⟨rfl, rfl⟩
  refine At.alloc rfl rfl rfl (fun b264 => ?_)
  refine At.store rfl rfl rfl rfl .z rfl rfl rfl (.c (.c (.c .n))) ?_
  refine At.nil ?_
  refine At.thn ?_
  refine At.seq ?_
  refine At.seq ?_
  refine At.region ?_
  refine At.run 3 rfl ?_
  obtain ⟨G466, hl467, hr468, hrun⟩ := bjoin hrun
  refine At.joinO 4 (X := Bool) (fun x465 => [(2, .int .i64 a2), (3, .pointer (some ⟨b258, 0, none⟩)), (4, .pointer (some ⟨b259, 0, none⟩)), (7, .bool t260), (25, .bool x465)]) (fun x465 => pt b264 (.cells [.int .i64 t262.1, .int .i64 t262.2.1, .int .i64 t262.2.2].toArray 44) :: pt b259 (.cells [.slice A1_0 a1_0.length c1_0, .slice A1_1 a1_1.length c1_1, .slice A1_2 a1_2.length c1_2, .slice A1_3 a1_3.length c1_3].toArray 39) :: pt b258 (.cells [.slice A0_0 a0_0.length c0_0, .slice A0_1 a0_1.length c0_1, .slice A0_2 a0_2.length c0_2].toArray 36) :: Fr) (fun x465 => G466 (.inl x465) = some r) ?_ (fun J469 => ?_)
  · rintro x465 hrun
    have hrun := (hl467 _).symm.trans hrun
    · refine At.nil ?_
      refine At.thn ?_
      rcases bite hrun with ⟨h470, hrun⟩ | ⟨h470, hrun⟩
      · · refine At.condT rfl h470 ?_
          refine At.seq ?_
          refine At.region ?_
          refine At.run 2 rfl ?_
          refine At.nil ?_
          refine At.thn ?_
          refine At.ret ?_
          refine At.thr ?_
          refine At.drop .z ?_
          refine At.drop .z ?_
          refine At.drop .z ?_
          obtain rfl := (bret hrun).symm
          exact At.res (.inl rfl) rfl rfl ⟨rfl, rfl⟩
      · · refine At.condF rfl (bn h470) ?_
          refine At.skip ?_
          refine At.thn ?_
          refine At.seq ?_
          refine At.seq ?_
          refine At.region ?_
          refine At.run 2 rfl ?_
          refine At.nil ?_
          refine At.thn ?_
          rcases bite hrun with ⟨h471, hrun⟩ | ⟨h471, hrun⟩
          · · refine At.condT rfl (decide_eq_true h471) ?_
              refine At.region ?_
              refine At.run 4 rfl ?_
              refine At.nil ?_
              refine At.thn ?_
              refine At.seq ?_
              refine At.region ?_
              refine At.run 2 rfl ?_
              refine At.y (Y.load rfl rfl (.s (.s .z)) rfl rfl rfl) rfl rfl rfl ?_
              refine At.run 1 rfl ?_
              obtain ⟨h472, hrun⟩ := bnone hrun
              refine At.y (Y.rem rfl rfl h472) rfl rfl rfl ?_
              refine At.run 1 rfl ?_
              refine At.nil ?_
              refine At.thn ?_
              refine At.seq ?_
              refine At.region ?_
              refine At.run 1 rfl ?_
              refine At.nil ?_
              refine At.thn ?_
              refine At.seq ?_
              refine At.seq ?_
              refine At.region ?_
              refine At.run 1 rfl ?_
              refine At.y (Y.ixArrK rfl rfl rfl rfl rfl (show (0 : Int) ≤ 0 ∧ (0 : Int) < 2 by decide).1 (show (0 : Int) ≤ 0 ∧ (0 : Int) < 2 by decide).2 (q := 0) (off := 0) rfl rfl) rfl rfl rfl ?_
              refine At.y (Y.load rfl rfl (.s .z) rfl rfl rfl) rfl rfl rfl ?_
              refine At.run 1 rfl ?_
              obtain ⟨t473, hc474, hrun⟩ := bbind hrun
              refine At.call rfl bailiffref16_Count.callee rfl rfl rfl (bailiffref16_Count.spec _ _ A1_0 a1_0.length c1_0 a1_0 (Int.tmod (IntKind.i64.wrap (0 - (IntKind.i64.wrap (a2 + 1)))) (a0_0.length : Int)) hr1_0 rfl hc1_0 hc474) ?_
              rintro _ _ ⟨rfl, rfl⟩
              refine At.run 1 rfl ?_
              refine At.nil ?_
              refine At.thn ?_
              rcases bite hrun with ⟨h475, hrun⟩ | ⟨h475, hrun⟩
              · · refine At.condT rfl (decide_eq_true h475) ?_
                  refine At.region ?_
                  refine At.run 1 rfl ?_
                  refine At.nil ?_
                  refine At.thn ?_
                  refine At.seq ?_
                  refine At.region ?_
                  refine At.run 1 rfl ?_
                  refine At.nil ?_
                  refine At.thn ?_
                  refine At.seq ?_
                  refine At.seq ?_
                  refine At.region ?_
                  refine At.run 1 rfl ?_
                  refine At.nil ?_
                  refine At.thn ?_
                  refine At.block ?_
                  obtain ⟨G1293, hl1294, hr1295, hrun⟩ := bjoin hrun
                  obtain ⟨o1296, hlo1297, ho1298⟩ := bsome hrun
                  clear hrun
                  unfold bailifflaw16_JudgeSpoilt.l0 at hlo1297
                  obtain ⟨m1299, hit1301⟩ := iter_some.1 hlo1297
                  clear hlo1297
                  refine At.nilRow (Fl.int .i64) 3 ?_
                  refine At.loopJ (X := (List Int) × Int × Nat × (Option Addr) × Nat) (Y := (List Int) × Nat × (Option Addr) × Nat) (e0 := 0) (fun s_ => [(2, .int .i64 (Int.tmod (IntKind.i64.wrap (0 - (IntKind.i64.wrap (a2 + 1)))) (a0_0.length : Int))), (3, .pointer (some ⟨b258, 0, none⟩)), (4, .pointer (some ⟨b259, 0, none⟩)), (9, .int .i64 0), (10, .slice s_.2.2.2.1 s_.2.2.1 s_.2.2.2.2), (11, .int .i64 s_.2.1)]) (fun s_ => row (Fl.int .i64) 3 s_.2.2.2.1 s_.2.2.1 s_.2.2.2.2 s_.1 :: pt b264 (.cells [.int .i64 t262.1, .int .i64 t262.2.1, .int .i64 t262.2.2].toArray 44) :: pt b259 (.cells [.slice A1_0 a1_0.length c1_0, .slice A1_1 a1_1.length c1_1, .slice A1_2 a1_2.length c1_2, .slice A1_3 a1_3.length c1_3].toArray 39) :: pt b258 (.cells [.slice A0_0 a0_0.length c0_0, .slice A0_1 a0_1.length c0_1, .slice A0_2 a0_2.length c0_2].toArray 36) :: Fr) (fun m_ => fun s_ => iterN (fun t_ : (List Int) × Int => bailifflaw16_JudgeSpoilt.l0b a0_0 a1_0 a2 t_.1 t_.2) m_ (s_.1, s_.2.1) = some o1296 ∧ s_.1.length = s_.2.2.1) m1299 (([] : List Int), 0, 0, none, 0) ⟨hit1301, rfl⟩ (fun s_ => [(2, .int .i64 (Int.tmod (IntKind.i64.wrap (0 - (IntKind.i64.wrap (a2 + 1)))) (a0_0.length : Int))), (3, .pointer (some ⟨b258, 0, none⟩)), (4, .pointer (some ⟨b259, 0, none⟩)), (9, .int .i64 0), (10, .slice s_.2.2.1 s_.2.1 s_.2.2.2)]) (fun s_ => row (Fl.int .i64) 3 s_.2.2.1 s_.2.1 s_.2.2.2 s_.1 :: pt b264 (.cells [.int .i64 t262.1, .int .i64 t262.2.1, .int .i64 t262.2.2].toArray 44) :: pt b259 (.cells [.slice A1_0 a1_0.length c1_0, .slice A1_1 a1_1.length c1_1, .slice A1_2 a1_2.length c1_2, .slice A1_3 a1_3.length c1_3].toArray 39) :: pt b258 (.cells [.slice A0_0 a0_0.length c0_0, .slice A0_1 a0_1.length c0_1, .slice A0_2 a0_2.length c0_2].toArray 36) :: Fr) (fun s_ => G1293 (.inl s_.1) = some r ∧ s_.1.length = s_.2.1) (fun a w e hs => ⟨e.sub ⟨rfl, rfl, rfl, rfl, rfl, rfl, trivial⟩, hs⟩) ?_ (fun J1303 => ?_)
                  · rintro ⟨x1288, w1289, w1291, w1292⟩ ⟨hrun, hn1290⟩
                    obtain rfl : x1288.length = w1289 := hn1290
                    have hrun := (hl1294 _).symm.trans hrun
                    · refine At.ibx ?_
                      refine At.thn ?_
                      refine At.seq ?_
                      refine At.region ?_
                      refine At.y (Y.load rfl rfl (.s (.s .z)) rfl rfl rfl) rfl rfl rfl ?_
                      refine At.alloc rfl rfl rfl (fun b1304 => ?_)
                      refine At.store rfl rfl rfl rfl .z rfl rfl rfl (.c (.c (.c (.c .n)))) ?_
                      refine At.nil ?_
                      refine At.thn ?_
                      refine At.seq ?_
                      refine At.region ?_
                      refine At.run 3 rfl ?_
                      refine At.y (Y.ixArrK rfl rfl rfl rfl rfl (show (0 : Int) ≤ 0 ∧ (0 : Int) < 2 by decide).1 (show (0 : Int) ≤ 0 ∧ (0 : Int) < 2 by decide).2 (q := 0) (off := 0) rfl rfl) rfl rfl rfl ?_
                      refine At.store rfl rfl rfl rfl .z rfl rfl rfl (.c .n) ?_
                      refine At.nil ?_
                      refine At.thn ?_
                      refine At.seq ?_
                      refine At.region ?_
                      refine At.y (Y.load rfl rfl .z rfl rfl rfl) rfl rfl rfl ?_
                      refine At.alloc rfl rfl rfl (fun b1305 => ?_)
                      refine At.store rfl rfl rfl rfl .z rfl rfl rfl (.c (.c (.c (.c .n)))) ?_
                      refine At.nil ?_
                      refine At.thn ?_
                      refine At.seq ?_
                      refine At.region ?_
                      refine At.run 2 rfl ?_
                      refine At.lit rfl (xo := []) (ys := ([] : List Int)) (Fl.int .i64) rfl rfl rfl rfl rfl rfl rfl rfl rfl rfl rfl (fun A1306 c1307 => ?_)
                      refine At.run 3 rfl ?_
                      refine At.y (Y.ixArrK rfl rfl rfl rfl rfl (show (0 : Int) ≤ 1 ∧ (1 : Int) < 2 by decide).1 (show (0 : Int) ≤ 1 ∧ (1 : Int) < 2 by decide).2 (q := 1) (off := 1) rfl rfl) rfl rfl rfl ?_
                      refine At.y (Y.load rfl rfl (.s (.s (.s (.s (.s .z))))) rfl rfl rfl) rfl rfl rfl ?_
                      obtain ⟨h1309, hrun⟩ := bnone hrun
                      refine At.appendAll rfl .z (SrcE.rd hr1_1) rfl rfl rfl rfl rfl rfl rfl rfl rfl h1309 (by decide) rfl (fun A1310 c1311 => ?_)
                      refine At.run 1 rfl ?_
                      refine At.lit rfl (xo := [.tmp 86]) (ys := ([(Int.tmod (IntKind.i64.wrap (0 - (IntKind.i64.wrap (a2 + 1)))) (a0_0.length : Int))] : List Int)) (Fl.int .i64) rfl rfl rfl rfl rfl rfl rfl rfl rfl rfl rfl (fun A1312 c1313 => ?_)
                      obtain ⟨h1315, hrun⟩ := bnone hrun
                      refine At.append rfl (.s .z) (Src.own .z (by simp)) rfl rfl rfl rfl rfl rfl rfl rfl h1315 (by decide) rfl (fun A1316 c1317 => ?_)
                      refine At.drop (.s .z) ?_
                      refine At.run 1 rfl ?_
                      refine At.y (Y.ixArrK rfl rfl rfl rfl rfl (show (0 : Int) ≤ 1 ∧ (1 : Int) < 2 by decide).1 (show (0 : Int) ≤ 1 ∧ (1 : Int) < 2 by decide).2 (q := 1) (off := 1) rfl rfl) rfl rfl rfl ?_
                      refine At.store rfl rfl rfl rfl (.s .z) rfl rfl rfl (.s (.c .n)) ?_
                      refine At.nil ?_
                      refine At.thn ?_
                      refine At.seq ?_
                      refine At.region ?_
                      refine At.y (Y.load rfl rfl (.s (.s (.s (.s (.s .z))))) rfl rfl rfl) rfl rfl rfl ?_
                      refine At.alloc rfl rfl rfl (fun b1318 => ?_)
                      refine At.store rfl rfl rfl rfl .z rfl rfl rfl (.c (.c (.c (.c .n)))) ?_
                      refine At.nil ?_
                      refine At.thn ?_
                      refine At.seq ?_
                      refine At.region ?_
                      refine At.run 1 rfl ?_
                      refine At.lit rfl (xo := []) (ys := ([] : List Int)) (Fl.int .i64) rfl rfl rfl rfl rfl rfl rfl rfl rfl rfl rfl (fun A1319 c1320 => ?_)
                      refine At.run 2 rfl ?_
                      refine At.y (Y.ixArrK rfl rfl rfl rfl rfl (show (0 : Int) ≤ 0 ∧ (0 : Int) < 2 by decide).1 (show (0 : Int) ≤ 0 ∧ (0 : Int) < 2 by decide).2 (q := 0) (off := 0) rfl rfl) rfl rfl rfl ?_
                      refine At.y (Y.load rfl rfl (.s (.s (.s (.s (.s (.s (.s .z))))))) rfl rfl rfl) rfl rfl rfl ?_
                      obtain ⟨h1322, hrun⟩ := bnone hrun
                      refine At.appendAll rfl .z (SrcE.rd hr1_0) rfl rfl rfl rfl rfl rfl rfl rfl rfl h1322 (by decide) rfl (fun A1323 c1324 => ?_)
                      refine At.run 1 rfl ?_
                      refine At.lit rfl (xo := [.tmp 99]) (ys := ([(Int.tmod (IntKind.i64.wrap (0 - (IntKind.i64.wrap (a2 + 1)))) (a0_0.length : Int))] : List Int)) (Fl.int .i64) rfl rfl rfl rfl rfl rfl rfl rfl rfl rfl rfl (fun A1325 c1326 => ?_)
                      obtain ⟨h1328, hrun⟩ := bnone hrun
                      refine At.append rfl (.s .z) (Src.own .z (by simp)) rfl rfl rfl rfl rfl rfl rfl rfl h1328 (by decide) rfl (fun A1329 c1330 => ?_)
                      refine At.drop (.s .z) ?_
                      refine At.run 1 rfl ?_
                      refine At.y (Y.ixArrK rfl rfl rfl rfl rfl (show (0 : Int) ≤ 0 ∧ (0 : Int) < 2 by decide).1 (show (0 : Int) ≤ 0 ∧ (0 : Int) < 2 by decide).2 (q := 0) (off := 0) rfl rfl) rfl rfl rfl ?_
                      refine At.store rfl rfl rfl rfl (.s .z) rfl rfl rfl (.c .n) ?_
                      refine At.nil ?_
                      refine At.thn ?_
                      refine At.seq ?_
                      refine At.region ?_
                      refine At.y (Y.load rfl rfl (.s (.s (.s (.s (.s (.s (.s (.s .z)))))))) rfl rfl rfl) rfl rfl rfl ?_
                      refine At.y (Y.load rfl rfl (.s (.s .z)) rfl rfl rfl) rfl rfl rfl ?_
                      refine At.freeze (.s (.s (.s (.s (.s .z))))) fun R1331 hr1332 hn1333 hc1334 hs1335 th1336 => ?_
                      refine At.freeze (.s (.s (.s .z))) fun R1337 hr1338 hn1339 hc1340 hs1341 th1342 => ?_
                      obtain ⟨t1343, hc1344, hrun⟩ := bbind hrun
                      refine At.call rfl judge_Judge.callee rfl rfl rfl (judge_Judge.spec _ _ A0_0 a0_0.length c0_0 A0_1 a0_1.length c0_1 A0_2 a0_2.length c0_2 w1291 x1288.length w1292 A1316 (((([] : List Int) ++ a1_1) ++ ([(Int.tmod (IntKind.i64.wrap (0 - (IntKind.i64.wrap (a2 + 1)))) (a0_0.length : Int))] : List Int)).length) c1317 A1_2 a1_2.length c1_2 A1_3 a1_3.length c1_3 a0_0 a0_1 a0_2 x1288 ((([] : List Int) ++ a1_1) ++ ([(Int.tmod (IntKind.i64.wrap (0 - (IntKind.i64.wrap (a2 + 1)))) (a0_0.length : Int))] : List Int)) a1_2 a1_3 (RdS.mono (hs1335.trans hs1341) hr0_0) rfl hc0_0 (RdS.mono (hs1335.trans hs1341) hr0_1) rfl hc0_1 (RdS.mono (hs1335.trans hs1341) hr0_2) rfl hc0_2 (RdS.mono hs1341 hr1332) hn1333 hc1334 hr1338 hn1339 hc1340 (RdS.mono (hs1335.trans hs1341) hr1_2) rfl hc1_2 (RdS.mono (hs1335.trans hs1341) hr1_3) rfl hc1_3 hc1344) ?_
                      rintro _ _ ⟨rfl, rfl⟩
                      refine At.run 3 rfl ?_
                      obtain ⟨G1546, hl1547, hr1548, hrun⟩ := bjoin hrun
                      refine At.joinO 7 (X := Bool) (fun x1545 => [(2, .int .i64 (Int.tmod (IntKind.i64.wrap (0 - (IntKind.i64.wrap (a2 + 1)))) (a0_0.length : Int))), (3, .pointer (some ⟨b258, 0, none⟩)), (14, .pointer (some ⟨b1318, 0, none⟩)), (116, .bool x1545)]) (fun x1545 => pt b1318 (.cells [.slice A1329 (((([] : List Int) ++ a1_0) ++ ([(Int.tmod (IntKind.i64.wrap (0 - (IntKind.i64.wrap (a2 + 1)))) (a0_0.length : Int))] : List Int)).length) c1330, .slice A1_1 a1_1.length c1_1, .slice A1_2 a1_2.length c1_2, .slice A1_3 a1_3.length c1_3].toArray 39) :: row (Fl.int .i64) 3 A1329 (((([] : List Int) ++ a1_0) ++ ([(Int.tmod (IntKind.i64.wrap (0 - (IntKind.i64.wrap (a2 + 1)))) (a0_0.length : Int))] : List Int)).length) c1330 ((([] : List Int) ++ a1_0) ++ ([(Int.tmod (IntKind.i64.wrap (0 - (IntKind.i64.wrap (a2 + 1)))) (a0_0.length : Int))] : List Int)) :: pt b1305 (.cells [.slice w1291 x1288.length w1292, .slice A1316 (((([] : List Int) ++ a1_1) ++ ([(Int.tmod (IntKind.i64.wrap (0 - (IntKind.i64.wrap (a2 + 1)))) (a0_0.length : Int))] : List Int)).length) c1317, .slice A1_2 a1_2.length c1_2, .slice A1_3 a1_3.length c1_3].toArray 39) :: pt b1304 (.cells [.slice w1291 x1288.length w1292, .slice A1_1 a1_1.length c1_1, .slice A1_2 a1_2.length c1_2, .slice A1_3 a1_3.length c1_3].toArray 39) :: pt b264 (.cells [.int .i64 t262.1, .int .i64 t262.2.1, .int .i64 t262.2.2].toArray 44) :: pt b259 (.cells [.slice A1_0 a1_0.length c1_0, .slice A1_1 a1_1.length c1_1, .slice A1_2 a1_2.length c1_2, .slice A1_3 a1_3.length c1_3].toArray 39) :: pt b258 (.cells [.slice A0_0 a0_0.length c0_0, .slice A0_1 a0_1.length c0_1, .slice A0_2 a0_2.length c0_2].toArray 36) :: Fr) (fun x1545 => G1546 (.inl x1545) = some r) ?_ (fun J1549 => ?_)
                      · rintro x1545 hrun
                        have hrun := (hl1547 _).symm.trans hrun
                        · refine At.run 1 rfl ?_
                          obtain ⟨G1751, hl1752, hr1753, hrun⟩ := bjoin hrun
                          refine At.joinO 7 (X := Bool) (fun x1750 => [(124, .bool x1750)]) (fun x1750 => row (Fl.int .i64) 3 A1329 (((([] : List Int) ++ a1_0) ++ ([(Int.tmod (IntKind.i64.wrap (0 - (IntKind.i64.wrap (a2 + 1)))) (a0_0.length : Int))] : List Int)).length) c1330 ((([] : List Int) ++ a1_0) ++ ([(Int.tmod (IntKind.i64.wrap (0 - (IntKind.i64.wrap (a2 + 1)))) (a0_0.length : Int))] : List Int)) :: pt b1318 (.cells [.slice A1329 (((([] : List Int) ++ a1_0) ++ ([(Int.tmod (IntKind.i64.wrap (0 - (IntKind.i64.wrap (a2 + 1)))) (a0_0.length : Int))] : List Int)).length) c1330, .slice A1_1 a1_1.length c1_1, .slice A1_2 a1_2.length c1_2, .slice A1_3 a1_3.length c1_3].toArray 39) :: pt b1305 (.cells [.slice w1291 x1288.length w1292, .slice A1316 (((([] : List Int) ++ a1_1) ++ ([(Int.tmod (IntKind.i64.wrap (0 - (IntKind.i64.wrap (a2 + 1)))) (a0_0.length : Int))] : List Int)).length) c1317, .slice A1_2 a1_2.length c1_2, .slice A1_3 a1_3.length c1_3].toArray 39) :: pt b1304 (.cells [.slice w1291 x1288.length w1292, .slice A1_1 a1_1.length c1_1, .slice A1_2 a1_2.length c1_2, .slice A1_3 a1_3.length c1_3].toArray 39) :: pt b264 (.cells [.int .i64 t262.1, .int .i64 t262.2.1, .int .i64 t262.2.2].toArray 44) :: pt b259 (.cells [.slice A1_0 a1_0.length c1_0, .slice A1_1 a1_1.length c1_1, .slice A1_2 a1_2.length c1_2, .slice A1_3 a1_3.length c1_3].toArray 39) :: pt b258 (.cells [.slice A0_0 a0_0.length c0_0, .slice A0_1 a0_1.length c0_1, .slice A0_2 a0_2.length c0_2].toArray 36) :: Fr) (fun x1750 => G1751 (.inl x1750) = some r) ?_ (fun J1754 => ?_)
                          · rintro x1750 hrun
                            have hrun := (hl1752 _).symm.trans hrun
                            · refine At.run 1 rfl ?_
                              refine At.nil ?_
                              refine At.thn ?_
                              refine At.ret ?_
                              refine At.thaw th1342 ?_
                              refine At.thaw th1336 ?_
                              refine At.drop .z ?_
                              refine At.drop .z ?_
                              refine At.drop .z ?_
                              refine At.drop .z ?_
                              refine At.drop .z ?_
                              refine At.drop .z ?_
                              refine At.drop .z ?_
                              refine At.drop .z ?_
                              refine At.drop .z ?_
                              obtain rfl := (bret hrun).symm
                              exact At.res (.inl rfl) rfl rfl ⟨rfl, rfl⟩
                          · · rcases bite hrun with ⟨h1755, hrun⟩ | ⟨h1755, hrun⟩
                              · · refine At.know (t := 117) rfl h1755 ?_
                                  refine At.y (Y.load rfl rfl (.s (.s (.s (.s (.s (.s .z)))))) rfl rfl rfl) rfl rfl rfl ?_
                                  refine At.y (Y.load rfl rfl .z rfl rfl rfl) rfl rfl rfl ?_
                                  refine At.freeze (.s .z) fun R1756 hr1757 hn1758 hc1759 hs1760 th1761 => ?_
                                  obtain ⟨t1762, hc1763, hrun⟩ := bbind hrun
                                  refine At.call rfl judge_Judge.callee rfl rfl rfl (judge_Judge.spec _ _ A0_0 a0_0.length c0_0 A0_1 a0_1.length c0_1 A0_2 a0_2.length c0_2 A1329 (((([] : List Int) ++ a1_0) ++ ([(Int.tmod (IntKind.i64.wrap (0 - (IntKind.i64.wrap (a2 + 1)))) (a0_0.length : Int))] : List Int)).length) c1330 A1_1 a1_1.length c1_1 A1_2 a1_2.length c1_2 A1_3 a1_3.length c1_3 a0_0 a0_1 a0_2 ((([] : List Int) ++ a1_0) ++ ([(Int.tmod (IntKind.i64.wrap (0 - (IntKind.i64.wrap (a2 + 1)))) (a0_0.length : Int))] : List Int)) a1_1 a1_2 a1_3 (RdS.mono ((hs1335.trans hs1341).trans hs1760) hr0_0) rfl hc0_0 (RdS.mono ((hs1335.trans hs1341).trans hs1760) hr0_1) rfl hc0_1 (RdS.mono ((hs1335.trans hs1341).trans hs1760) hr0_2) rfl hc0_2 hr1757 hn1758 hc1759 (RdS.mono ((hs1335.trans hs1341).trans hs1760) hr1_1) rfl hc1_1 (RdS.mono ((hs1335.trans hs1341).trans hs1760) hr1_2) rfl hc1_2 (RdS.mono ((hs1335.trans hs1341).trans hs1760) hr1_3) rfl hc1_3 hc1763) ?_
                                  rintro _ _ ⟨rfl, rfl⟩
                                  refine At.run 1 rfl ?_
                                  refine At.y (Y.build (is := [0, 2]) (xo := [.const (.int .i64 19), .tmp 121]) (vs := [.int .i64 19, .int .i64 (Int.tmod (IntKind.i64.wrap (0 - (IntKind.i64.wrap (a2 + 1)))) (a0_0.length : Int))]) (cs := [.int .i64 19, .int .i64 0, .int .i64 (Int.tmod (IntKind.i64.wrap (0 - (IntKind.i64.wrap (a2 + 1)))) (a0_0.length : Int))]) rfl rfl rfl rfl rfl rfl) rfl rfl rfl ?_
                                  refine At.y (Y.eqSt (xs := [.int .i64 t1762.1, .int .i64 t1762.2.1, .int .i64 t1762.2.2]) (ys := [.int .i64 19, .int .i64 0, .int .i64 (Int.tmod (IntKind.i64.wrap (0 - (IntKind.i64.wrap (a2 + 1)))) (a0_0.length : Int))]) rfl rfl rfl rfl (by kernel_rfl) (by kernel_rfl) (by kernel_rfl) rfl) rfl rfl rfl ?_
                                  refine At.run 1 rfl ?_
                                  refine At.thaw th1761 ?_
                                  exact At.of (J1754 (decide (t1762.1 = 19) && (decide (t1762.2.1 = 0) && (decide (t1762.2.2 = (Int.tmod (IntKind.i64.wrap (0 - (IntKind.i64.wrap (a2 + 1)))) (a0_0.length : Int))) && true))) hrun) ⟨rfl, trivial⟩
                              · · refine At.know (t := 117) rfl (bn h1755) ?_
                                  refine At.run 7 rfl ?_
                                  refine At.frt (.s (.s (.s (.s (.s (.s .z)))))) ?_
                                  refine At.frt (.s (.s (.s (.s (.s (.s .z)))))) ?_
                                  refine At.frt (.s (.s (.s (.s (.s (.s .z)))))) ?_
                                  refine At.frt (.s (.s (.s (.s (.s (.s .z)))))) ?_
                                  refine At.frt (.s (.s (.s (.s (.s (.s .z)))))) ?_
                                  refine At.frt (.s (.s (.s (.s (.s .z))))) ?_
                                  refine At.frt (.s (.s (.s (.s (.s (.s .z)))))) ?_
                                  exact At.of (J1754 false hrun) ⟨rfl, trivial⟩
                      · · rcases bite hrun with ⟨h1764, hrun⟩ | ⟨h1764, hrun⟩
                          · · refine At.know (t := 109) rfl (nf (decide_eq_true h1764)) ?_
                              refine At.run 7 rfl ?_
                              exact At.of (J1549 false hrun) ⟨rfl, rfl, rfl, rfl, trivial⟩
                          · · refine At.know (t := 109) rfl (nt (decide_eq_false h1764)) ?_
                              refine At.y (Y.load rfl rfl (.s (.s (.s (.s (.s (.s .z)))))) rfl rfl rfl) rfl rfl rfl ?_
                              refine At.y (Y.load rfl rfl (.s (.s (.s .z))) rfl rfl rfl) rfl rfl rfl ?_
                              obtain ⟨t1765, hc1766, hrun⟩ := bbind hrun
                              refine At.call rfl judge_Judge.callee rfl rfl rfl (judge_Judge.spec _ _ A0_0 a0_0.length c0_0 A0_1 a0_1.length c0_1 A0_2 a0_2.length c0_2 w1291 x1288.length w1292 A1_1 a1_1.length c1_1 A1_2 a1_2.length c1_2 A1_3 a1_3.length c1_3 a0_0 a0_1 a0_2 x1288 a1_1 a1_2 a1_3 (RdS.mono (hs1335.trans hs1341) hr0_0) rfl hc0_0 (RdS.mono (hs1335.trans hs1341) hr0_1) rfl hc0_1 (RdS.mono (hs1335.trans hs1341) hr0_2) rfl hc0_2 (RdS.mono hs1341 hr1332) hn1333 hc1334 (RdS.mono (hs1335.trans hs1341) hr1_1) rfl hc1_1 (RdS.mono (hs1335.trans hs1341) hr1_2) rfl hc1_2 (RdS.mono (hs1335.trans hs1341) hr1_3) rfl hc1_3 hc1766) ?_
                              rintro _ _ ⟨rfl, rfl⟩
                              refine At.run 1 rfl ?_
                              refine At.y (Y.build (is := [0, 2]) (xo := [.const (.int .i64 19), .tmp 113]) (vs := [.int .i64 19, .int .i64 (Int.tmod (IntKind.i64.wrap (0 - (IntKind.i64.wrap (a2 + 1)))) (a0_0.length : Int))]) (cs := [.int .i64 19, .int .i64 0, .int .i64 (Int.tmod (IntKind.i64.wrap (0 - (IntKind.i64.wrap (a2 + 1)))) (a0_0.length : Int))]) rfl rfl rfl rfl rfl rfl) rfl rfl rfl ?_
                              refine At.y (Y.eqSt (xs := [.int .i64 t1765.1, .int .i64 t1765.2.1, .int .i64 t1765.2.2]) (ys := [.int .i64 19, .int .i64 0, .int .i64 (Int.tmod (IntKind.i64.wrap (0 - (IntKind.i64.wrap (a2 + 1)))) (a0_0.length : Int))]) rfl rfl rfl rfl (by kernel_rfl) (by kernel_rfl) (by kernel_rfl) rfl) rfl rfl rfl ?_
                              refine At.run 1 rfl ?_
                              exact At.of (J1549 (decide (t1765.1 = 19) && (decide (t1765.2.1 = 0) && (decide (t1765.2.2 = (Int.tmod (IntKind.i64.wrap (0 - (IntKind.i64.wrap (a2 + 1)))) (a0_0.length : Int))) && true))) hrun) ⟨rfl, rfl, rfl, rfl, trivial⟩
                  · clear hit1301 m1299
                    rintro m1299 ⟨x1082, x1087, w1083, w1085, w1086⟩ ⟨hit1301, hn1084⟩
                    obtain rfl : x1082.length = w1083 := hn1084
                    obtain ⟨m1300, f_, hlt1302, hf_, hrun⟩ := bit hit1301
                    clear hit1301
                    have hrun : (bailifflaw16_JudgeSpoilt.l0b a0_0 a1_0 a2 x1082 x1087).bind _ = some o1296 := hrun
                    unfold bailifflaw16_JudgeSpoilt.l0b at hrun
                    · refine At.seq ?_
                      refine At.seq ?_
                      refine At.region ?_
                      refine At.run 3 rfl ?_
                      refine At.y (Y.ixArrK rfl rfl rfl rfl rfl (show (0 : Int) ≤ 0 ∧ (0 : Int) < 2 by decide).1 (show (0 : Int) ≤ 0 ∧ (0 : Int) < 2 by decide).2 (q := 0) (off := 0) rfl rfl) rfl rfl rfl ?_
                      refine At.y (Y.load rfl rfl (.s (.s .z)) rfl rfl rfl) rfl rfl rfl ?_
                      refine At.run 2 rfl ?_
                      refine At.nil ?_
                      refine At.thn ?_
                      rcases bite hrun with ⟨h1767, hrun⟩ | ⟨h1767, hrun⟩
                      · · refine At.condT rfl (decide_eq_true h1767) ?_
                          refine At.skip ?_
                          refine At.thn ?_
                          refine At.seq ?_
                          obtain ⟨G1768, hl1769, hr1770, hrun⟩ := bjoin hrun
                          refine At.join (X := (List Int) × Nat × (Option Addr) × Nat) (fun s_ => [(2, .int .i64 (Int.tmod (IntKind.i64.wrap (0 - (IntKind.i64.wrap (a2 + 1)))) (a0_0.length : Int))), (3, .pointer (some ⟨b258, 0, none⟩)), (4, .pointer (some ⟨b259, 0, none⟩)), (9, .int .i64 0), (10, .slice s_.2.2.1 s_.2.1 s_.2.2.2), (11, .int .i64 x1087)]) (fun s_ => row (Fl.int .i64) 3 s_.2.2.1 s_.2.1 s_.2.2.2 s_.1 :: pt b264 (.cells [.int .i64 t262.1, .int .i64 t262.2.1, .int .i64 t262.2.2].toArray 44) :: pt b259 (.cells [.slice A1_0 a1_0.length c1_0, .slice A1_1 a1_1.length c1_1, .slice A1_2 a1_2.length c1_2, .slice A1_3 a1_3.length c1_3].toArray 39) :: pt b258 (.cells [.slice A0_0 a0_0.length c0_0, .slice A0_1 a0_1.length c0_1, .slice A0_2 a0_2.length c0_2].toArray 36) :: Fr) (fun s_ => G1768 (.inl s_.1) = some o1296 ∧ s_.1.length = s_.2.1) ?_ (fun J1771 => ?_)
                          · rintro ⟨x1972, w1973, w1975, w1976⟩ ⟨hrun, hn1974⟩
                            obtain rfl : x1972.length = w1973 := hn1974
                            have hrun := (hl1769 _).symm.trans hrun
                            · refine At.region ?_
                              refine At.run 3 rfl ?_
                              refine At.nil ?_
                              have hrun := bnx hf_ hrun
                              exact fun a w e hs => ⟨m1300, (x1972, IntKind.i64.wrap (x1087 + 1), x1972.length, w1975, w1976), hlt1302, ⟨hrun, rfl⟩, e.sub ⟨rfl, rfl, rfl, rfl, rfl, rfl, trivial⟩, hs⟩
                          · · refine At.block ?_
                              refine At.seq ?_
                              refine At.region ?_
                              refine At.run 2 rfl ?_
                              refine At.y (Y.ixArrK rfl rfl rfl rfl rfl (show (0 : Int) ≤ 0 ∧ (0 : Int) < 2 by decide).1 (show (0 : Int) ≤ 0 ∧ (0 : Int) < 2 by decide).2 (q := 0) (off := 0) rfl rfl) rfl rfl rfl ?_
                              refine At.y (Y.load rfl rfl (.s (.s .z)) rfl rfl rfl) rfl rfl rfl ?_
                              refine At.run 1 rfl ?_
                              obtain ⟨h1977, hrun⟩ := bnone hrun
                              refine At.y (Y.ixRd hr1_0 rfl rfl rfl rfl rfl rfl rfl h1977.1 h1977.2) rfl rfl rfl ?_
                              refine At.y (Y.ldFl hr1_0 rfl (q := 0) rfl rfl h1977.1 h1977.2 rfl rfl rfl) rfl rfl rfl ?_
                              refine At.run 2 rfl ?_
                              refine At.nil ?_
                              refine At.thn ?_
                              rcases bite hrun with ⟨h1978, hrun⟩ | ⟨h1978, hrun⟩
                              · · refine At.condF rfl (nf (decide_eq_true h1978)) ?_
                                  refine At.skip ?_
                                  refine At.ibn ?_
                                  refine At.thn ?_
                                  exact fun a w e hs => J1771 (x1082, x1082.length, w1085, w1086) ⟨hrun, rfl⟩ a w (e.sub ⟨rfl, rfl, rfl, rfl, rfl, rfl, trivial⟩) hs
                              · · refine At.condT rfl (nt (decide_eq_false h1978)) ?_
                                  refine At.region ?_
                                  refine At.run 3 rfl ?_
                                  refine At.y (Y.ixArrK rfl rfl rfl rfl rfl (show (0 : Int) ≤ 0 ∧ (0 : Int) < 2 by decide).1 (show (0 : Int) ≤ 0 ∧ (0 : Int) < 2 by decide).2 (q := 0) (off := 0) rfl rfl) rfl rfl rfl ?_
                                  refine At.y (Y.load rfl rfl (.s (.s .z)) rfl rfl rfl) rfl rfl rfl ?_
                                  refine At.run 1 rfl ?_
                                  refine At.y (Y.ixRd hr1_0 rfl rfl rfl rfl rfl rfl rfl h1977.1 h1977.2) rfl rfl rfl ?_
                                  refine At.y (Y.ldFl hr1_0 rfl (q := 0) rfl rfl h1977.1 h1977.2 rfl rfl rfl) rfl rfl rfl ?_
                                  refine At.lit rfl (xo := [.tmp 68]) (ys := ([(gt a1_0 x1087)] : List Int)) (Fl.int .i64) rfl rfl rfl rfl rfl rfl rfl rfl rfl rfl rfl (fun A1979 c1980 => ?_)
                                  obtain ⟨h1982, hrun⟩ := bnone hrun
                                  refine At.append rfl (.s .z) (Src.own .z (by simp)) rfl rfl rfl rfl rfl rfl rfl rfl h1982 (by decide) rfl (fun A1983 c1984 => ?_)
                                  refine At.drop (.s .z) ?_
                                  refine At.run 1 rfl ?_
                                  refine At.nil ?_
                                  refine At.ibn ?_
                                  refine At.thn ?_
                                  exact fun a w e hs => J1771 ((x1082 ++ ([(gt a1_0 x1087)] : List Int)), (x1082 ++ ([(gt a1_0 x1087)] : List Int)).length, A1983, c1984) ⟨hrun, rfl⟩ a w (e.sub ⟨rfl, rfl, rfl, rfl, rfl, rfl, trivial⟩) hs
                      · · refine At.condF rfl (decide_eq_false h1767) ?_
                          refine At.exit ?_
                          refine At.the ?_
                          refine At.the ?_
                          exact fun a w e hs => J1303 (x1082, x1082.length, w1085, w1086) ⟨(bdn hrun ho1298), rfl⟩ a w (e.sub ⟨rfl, rfl, rfl, rfl, rfl, trivial⟩) hs
              · · refine At.condF rfl (decide_eq_false h475) ?_
                  refine At.skip ?_
                  refine At.thn ?_
                  refine At.seq ?_
                  refine At.region ?_
                  refine At.run 1 rfl ?_
                  refine At.nil ?_
                  refine At.thn ?_
                  refine At.seq ?_
                  refine At.seq ?_
                  refine At.region ?_
                  refine At.run 1 rfl ?_
                  refine At.nil ?_
                  refine At.thn ?_
                  refine At.block ?_
                  obtain ⟨G2802, hl2803, hr2804, hrun⟩ := bjoin hrun
                  obtain ⟨o2805, hlo2806, ho2807⟩ := bsome hrun
                  clear hrun
                  unfold bailifflaw16_JudgeSpoilt.l1 at hlo2806
                  obtain ⟨m2808, hit2810⟩ := iter_some.1 hlo2806
                  clear hlo2806
                  refine At.nilRow (Fl.int .i64) 3 ?_
                  refine At.loopJ (X := (List Int) × Int × Nat × (Option Addr) × Nat) (Y := (List Int) × Nat × (Option Addr) × Nat) (e0 := 0) (fun s_ => [(2, .int .i64 (Int.tmod (IntKind.i64.wrap (0 - (IntKind.i64.wrap (a2 + 1)))) (a0_0.length : Int))), (3, .pointer (some ⟨b258, 0, none⟩)), (4, .pointer (some ⟨b259, 0, none⟩)), (9, .int .i64 1), (10, .slice s_.2.2.2.1 s_.2.2.1 s_.2.2.2.2), (11, .int .i64 s_.2.1)]) (fun s_ => row (Fl.int .i64) 3 s_.2.2.2.1 s_.2.2.1 s_.2.2.2.2 s_.1 :: pt b264 (.cells [.int .i64 t262.1, .int .i64 t262.2.1, .int .i64 t262.2.2].toArray 44) :: pt b259 (.cells [.slice A1_0 a1_0.length c1_0, .slice A1_1 a1_1.length c1_1, .slice A1_2 a1_2.length c1_2, .slice A1_3 a1_3.length c1_3].toArray 39) :: pt b258 (.cells [.slice A0_0 a0_0.length c0_0, .slice A0_1 a0_1.length c0_1, .slice A0_2 a0_2.length c0_2].toArray 36) :: Fr) (fun m_ => fun s_ => iterN (fun t_ : (List Int) × Int => bailifflaw16_JudgeSpoilt.l1b a0_0 a1_1 a2 t_.1 t_.2) m_ (s_.1, s_.2.1) = some o2805 ∧ s_.1.length = s_.2.2.1) m2808 (([] : List Int), 0, 0, none, 0) ⟨hit2810, rfl⟩ (fun s_ => [(2, .int .i64 (Int.tmod (IntKind.i64.wrap (0 - (IntKind.i64.wrap (a2 + 1)))) (a0_0.length : Int))), (3, .pointer (some ⟨b258, 0, none⟩)), (4, .pointer (some ⟨b259, 0, none⟩)), (9, .int .i64 1), (10, .slice s_.2.2.1 s_.2.1 s_.2.2.2)]) (fun s_ => row (Fl.int .i64) 3 s_.2.2.1 s_.2.1 s_.2.2.2 s_.1 :: pt b264 (.cells [.int .i64 t262.1, .int .i64 t262.2.1, .int .i64 t262.2.2].toArray 44) :: pt b259 (.cells [.slice A1_0 a1_0.length c1_0, .slice A1_1 a1_1.length c1_1, .slice A1_2 a1_2.length c1_2, .slice A1_3 a1_3.length c1_3].toArray 39) :: pt b258 (.cells [.slice A0_0 a0_0.length c0_0, .slice A0_1 a0_1.length c0_1, .slice A0_2 a0_2.length c0_2].toArray 36) :: Fr) (fun s_ => G2802 (.inl s_.1) = some r ∧ s_.1.length = s_.2.1) (fun a w e hs => ⟨e.sub ⟨rfl, rfl, rfl, rfl, rfl, rfl, trivial⟩, hs⟩) ?_ (fun J2812 => ?_)
                  · rintro ⟨x2797, w2798, w2800, w2801⟩ ⟨hrun, hn2799⟩
                    obtain rfl : x2797.length = w2798 := hn2799
                    have hrun := (hl2803 _).symm.trans hrun
                    · refine At.ibx ?_
                      refine At.thn ?_
                      refine At.seq ?_
                      refine At.region ?_
                      refine At.y (Y.load rfl rfl (.s (.s .z)) rfl rfl rfl) rfl rfl rfl ?_
                      refine At.alloc rfl rfl rfl (fun b2813 => ?_)
                      refine At.store rfl rfl rfl rfl .z rfl rfl rfl (.c (.c (.c (.c .n)))) ?_
                      refine At.nil ?_
                      refine At.thn ?_
                      refine At.seq ?_
                      refine At.region ?_
                      refine At.run 3 rfl ?_
                      refine At.y (Y.ixArrK rfl rfl rfl rfl rfl (show (0 : Int) ≤ 1 ∧ (1 : Int) < 2 by decide).1 (show (0 : Int) ≤ 1 ∧ (1 : Int) < 2 by decide).2 (q := 1) (off := 1) rfl rfl) rfl rfl rfl ?_
                      refine At.store rfl rfl rfl rfl .z rfl rfl rfl (.s (.c .n)) ?_
                      refine At.nil ?_
                      refine At.thn ?_
                      refine At.seq ?_
                      refine At.region ?_
                      refine At.y (Y.load rfl rfl .z rfl rfl rfl) rfl rfl rfl ?_
                      refine At.alloc rfl rfl rfl (fun b2814 => ?_)
                      refine At.store rfl rfl rfl rfl .z rfl rfl rfl (.c (.c (.c (.c .n)))) ?_
                      refine At.nil ?_
                      refine At.thn ?_
                      refine At.seq ?_
                      refine At.region ?_
                      refine At.run 2 rfl ?_
                      refine At.lit rfl (xo := []) (ys := ([] : List Int)) (Fl.int .i64) rfl rfl rfl rfl rfl rfl rfl rfl rfl rfl rfl (fun A2815 c2816 => ?_)
                      refine At.run 3 rfl ?_
                      refine At.y (Y.ixArrK rfl rfl rfl rfl rfl (show (0 : Int) ≤ 0 ∧ (0 : Int) < 2 by decide).1 (show (0 : Int) ≤ 0 ∧ (0 : Int) < 2 by decide).2 (q := 0) (off := 0) rfl rfl) rfl rfl rfl ?_
                      refine At.y (Y.load rfl rfl (.s (.s (.s (.s (.s .z))))) rfl rfl rfl) rfl rfl rfl ?_
                      obtain ⟨h2818, hrun⟩ := bnone hrun
                      refine At.appendAll rfl .z (SrcE.rd hr1_0) rfl rfl rfl rfl rfl rfl rfl rfl rfl h2818 (by decide) rfl (fun A2819 c2820 => ?_)
                      refine At.run 1 rfl ?_
                      refine At.lit rfl (xo := [.tmp 86]) (ys := ([(Int.tmod (IntKind.i64.wrap (0 - (IntKind.i64.wrap (a2 + 1)))) (a0_0.length : Int))] : List Int)) (Fl.int .i64) rfl rfl rfl rfl rfl rfl rfl rfl rfl rfl rfl (fun A2821 c2822 => ?_)
                      obtain ⟨h2824, hrun⟩ := bnone hrun
                      refine At.append rfl (.s .z) (Src.own .z (by simp)) rfl rfl rfl rfl rfl rfl rfl rfl h2824 (by decide) rfl (fun A2825 c2826 => ?_)
                      refine At.drop (.s .z) ?_
                      refine At.run 1 rfl ?_
                      refine At.y (Y.ixArrK rfl rfl rfl rfl rfl (show (0 : Int) ≤ 0 ∧ (0 : Int) < 2 by decide).1 (show (0 : Int) ≤ 0 ∧ (0 : Int) < 2 by decide).2 (q := 0) (off := 0) rfl rfl) rfl rfl rfl ?_
                      refine At.store rfl rfl rfl rfl (.s .z) rfl rfl rfl (.c .n) ?_
                      refine At.nil ?_
                      refine At.thn ?_
                      refine At.seq ?_
                      refine At.region ?_
                      refine At.y (Y.load rfl rfl (.s (.s (.s (.s (.s .z))))) rfl rfl rfl) rfl rfl rfl ?_
                      refine At.alloc rfl rfl rfl (fun b2827 => ?_)
                      refine At.store rfl rfl rfl rfl .z rfl rfl rfl (.c (.c (.c (.c .n)))) ?_
                      refine At.nil ?_
                      refine At.thn ?_
                      refine At.seq ?_
                      refine At.region ?_
                      refine At.run 1 rfl ?_
                      refine At.lit rfl (xo := []) (ys := ([] : List Int)) (Fl.int .i64) rfl rfl rfl rfl rfl rfl rfl rfl rfl rfl rfl (fun A2828 c2829 => ?_)
                      refine At.run 2 rfl ?_
                      refine At.y (Y.ixArrK rfl rfl rfl rfl rfl (show (0 : Int) ≤ 1 ∧ (1 : Int) < 2 by decide).1 (show (0 : Int) ≤ 1 ∧ (1 : Int) < 2 by decide).2 (q := 1) (off := 1) rfl rfl) rfl rfl rfl ?_
                      refine At.y (Y.load rfl rfl (.s (.s (.s (.s (.s (.s (.s .z))))))) rfl rfl rfl) rfl rfl rfl ?_
                      obtain ⟨h2831, hrun⟩ := bnone hrun
                      refine At.appendAll rfl .z (SrcE.rd hr1_1) rfl rfl rfl rfl rfl rfl rfl rfl rfl h2831 (by decide) rfl (fun A2832 c2833 => ?_)
                      refine At.run 1 rfl ?_
                      refine At.lit rfl (xo := [.tmp 99]) (ys := ([(Int.tmod (IntKind.i64.wrap (0 - (IntKind.i64.wrap (a2 + 1)))) (a0_0.length : Int))] : List Int)) (Fl.int .i64) rfl rfl rfl rfl rfl rfl rfl rfl rfl rfl rfl (fun A2834 c2835 => ?_)
                      obtain ⟨h2837, hrun⟩ := bnone hrun
                      refine At.append rfl (.s .z) (Src.own .z (by simp)) rfl rfl rfl rfl rfl rfl rfl rfl h2837 (by decide) rfl (fun A2838 c2839 => ?_)
                      refine At.drop (.s .z) ?_
                      refine At.run 1 rfl ?_
                      refine At.y (Y.ixArrK rfl rfl rfl rfl rfl (show (0 : Int) ≤ 1 ∧ (1 : Int) < 2 by decide).1 (show (0 : Int) ≤ 1 ∧ (1 : Int) < 2 by decide).2 (q := 1) (off := 1) rfl rfl) rfl rfl rfl ?_
                      refine At.store rfl rfl rfl rfl (.s .z) rfl rfl rfl (.s (.c .n)) ?_
                      refine At.nil ?_
                      refine At.thn ?_
                      refine At.seq ?_
                      refine At.region ?_
                      refine At.y (Y.load rfl rfl (.s (.s (.s (.s (.s (.s (.s (.s .z)))))))) rfl rfl rfl) rfl rfl rfl ?_
                      refine At.y (Y.load rfl rfl (.s (.s .z)) rfl rfl rfl) rfl rfl rfl ?_
                      refine At.freeze (.s (.s (.s .z))) fun R2840 hr2841 hn2842 hc2843 hs2844 th2845 => ?_
                      refine At.freeze (.s (.s (.s (.s .z)))) fun R2846 hr2847 hn2848 hc2849 hs2850 th2851 => ?_
                      obtain ⟨t2852, hc2853, hrun⟩ := bbind hrun
                      refine At.call rfl judge_Judge.callee rfl rfl rfl (judge_Judge.spec _ _ A0_0 a0_0.length c0_0 A0_1 a0_1.length c0_1 A0_2 a0_2.length c0_2 A2825 (((([] : List Int) ++ a1_0) ++ ([(Int.tmod (IntKind.i64.wrap (0 - (IntKind.i64.wrap (a2 + 1)))) (a0_0.length : Int))] : List Int)).length) c2826 w2800 x2797.length w2801 A1_2 a1_2.length c1_2 A1_3 a1_3.length c1_3 a0_0 a0_1 a0_2 ((([] : List Int) ++ a1_0) ++ ([(Int.tmod (IntKind.i64.wrap (0 - (IntKind.i64.wrap (a2 + 1)))) (a0_0.length : Int))] : List Int)) x2797 a1_2 a1_3 (RdS.mono (hs2844.trans hs2850) hr0_0) rfl hc0_0 (RdS.mono (hs2844.trans hs2850) hr0_1) rfl hc0_1 (RdS.mono (hs2844.trans hs2850) hr0_2) rfl hc0_2 (RdS.mono hs2850 hr2841) hn2842 hc2843 hr2847 hn2848 hc2849 (RdS.mono (hs2844.trans hs2850) hr1_2) rfl hc1_2 (RdS.mono (hs2844.trans hs2850) hr1_3) rfl hc1_3 hc2853) ?_
                      rintro _ _ ⟨rfl, rfl⟩
                      refine At.run 3 rfl ?_
                      obtain ⟨G3055, hl3056, hr3057, hrun⟩ := bjoin hrun
                      refine At.joinO 7 (X := Bool) (fun x3054 => [(2, .int .i64 (Int.tmod (IntKind.i64.wrap (0 - (IntKind.i64.wrap (a2 + 1)))) (a0_0.length : Int))), (3, .pointer (some ⟨b258, 0, none⟩)), (14, .pointer (some ⟨b2827, 0, none⟩)), (116, .bool x3054)]) (fun x3054 => pt b2827 (.cells [.slice A1_0 a1_0.length c1_0, .slice A2838 (((([] : List Int) ++ a1_1) ++ ([(Int.tmod (IntKind.i64.wrap (0 - (IntKind.i64.wrap (a2 + 1)))) (a0_0.length : Int))] : List Int)).length) c2839, .slice A1_2 a1_2.length c1_2, .slice A1_3 a1_3.length c1_3].toArray 39) :: row (Fl.int .i64) 3 A2838 (((([] : List Int) ++ a1_1) ++ ([(Int.tmod (IntKind.i64.wrap (0 - (IntKind.i64.wrap (a2 + 1)))) (a0_0.length : Int))] : List Int)).length) c2839 ((([] : List Int) ++ a1_1) ++ ([(Int.tmod (IntKind.i64.wrap (0 - (IntKind.i64.wrap (a2 + 1)))) (a0_0.length : Int))] : List Int)) :: pt b2814 (.cells [.slice A2825 (((([] : List Int) ++ a1_0) ++ ([(Int.tmod (IntKind.i64.wrap (0 - (IntKind.i64.wrap (a2 + 1)))) (a0_0.length : Int))] : List Int)).length) c2826, .slice w2800 x2797.length w2801, .slice A1_2 a1_2.length c1_2, .slice A1_3 a1_3.length c1_3].toArray 39) :: pt b2813 (.cells [.slice A1_0 a1_0.length c1_0, .slice w2800 x2797.length w2801, .slice A1_2 a1_2.length c1_2, .slice A1_3 a1_3.length c1_3].toArray 39) :: pt b264 (.cells [.int .i64 t262.1, .int .i64 t262.2.1, .int .i64 t262.2.2].toArray 44) :: pt b259 (.cells [.slice A1_0 a1_0.length c1_0, .slice A1_1 a1_1.length c1_1, .slice A1_2 a1_2.length c1_2, .slice A1_3 a1_3.length c1_3].toArray 39) :: pt b258 (.cells [.slice A0_0 a0_0.length c0_0, .slice A0_1 a0_1.length c0_1, .slice A0_2 a0_2.length c0_2].toArray 36) :: Fr) (fun x3054 => G3055 (.inl x3054) = some r) ?_ (fun J3058 => ?_)
                      · rintro x3054 hrun
                        have hrun := (hl3056 _).symm.trans hrun
                        · refine At.run 1 rfl ?_
                          obtain ⟨G3260, hl3261, hr3262, hrun⟩ := bjoin hrun
                          refine At.joinO 7 (X := Bool) (fun x3259 => [(124, .bool x3259)]) (fun x3259 => row (Fl.int .i64) 3 A2838 (((([] : List Int) ++ a1_1) ++ ([(Int.tmod (IntKind.i64.wrap (0 - (IntKind.i64.wrap (a2 + 1)))) (a0_0.length : Int))] : List Int)).length) c2839 ((([] : List Int) ++ a1_1) ++ ([(Int.tmod (IntKind.i64.wrap (0 - (IntKind.i64.wrap (a2 + 1)))) (a0_0.length : Int))] : List Int)) :: pt b2827 (.cells [.slice A1_0 a1_0.length c1_0, .slice A2838 (((([] : List Int) ++ a1_1) ++ ([(Int.tmod (IntKind.i64.wrap (0 - (IntKind.i64.wrap (a2 + 1)))) (a0_0.length : Int))] : List Int)).length) c2839, .slice A1_2 a1_2.length c1_2, .slice A1_3 a1_3.length c1_3].toArray 39) :: pt b2814 (.cells [.slice A2825 (((([] : List Int) ++ a1_0) ++ ([(Int.tmod (IntKind.i64.wrap (0 - (IntKind.i64.wrap (a2 + 1)))) (a0_0.length : Int))] : List Int)).length) c2826, .slice w2800 x2797.length w2801, .slice A1_2 a1_2.length c1_2, .slice A1_3 a1_3.length c1_3].toArray 39) :: pt b2813 (.cells [.slice A1_0 a1_0.length c1_0, .slice w2800 x2797.length w2801, .slice A1_2 a1_2.length c1_2, .slice A1_3 a1_3.length c1_3].toArray 39) :: pt b264 (.cells [.int .i64 t262.1, .int .i64 t262.2.1, .int .i64 t262.2.2].toArray 44) :: pt b259 (.cells [.slice A1_0 a1_0.length c1_0, .slice A1_1 a1_1.length c1_1, .slice A1_2 a1_2.length c1_2, .slice A1_3 a1_3.length c1_3].toArray 39) :: pt b258 (.cells [.slice A0_0 a0_0.length c0_0, .slice A0_1 a0_1.length c0_1, .slice A0_2 a0_2.length c0_2].toArray 36) :: Fr) (fun x3259 => G3260 (.inl x3259) = some r) ?_ (fun J3263 => ?_)
                          · rintro x3259 hrun
                            have hrun := (hl3261 _).symm.trans hrun
                            · refine At.run 1 rfl ?_
                              refine At.nil ?_
                              refine At.thn ?_
                              refine At.ret ?_
                              refine At.thaw th2851 ?_
                              refine At.thaw th2845 ?_
                              refine At.drop .z ?_
                              refine At.drop .z ?_
                              refine At.drop .z ?_
                              refine At.drop .z ?_
                              refine At.drop .z ?_
                              refine At.drop .z ?_
                              refine At.drop .z ?_
                              refine At.drop .z ?_
                              refine At.drop .z ?_
                              obtain rfl := (bret hrun).symm
                              exact At.res (.inl rfl) rfl rfl ⟨rfl, rfl⟩
                          · · rcases bite hrun with ⟨h3264, hrun⟩ | ⟨h3264, hrun⟩
                              · · refine At.know (t := 117) rfl h3264 ?_
                                  refine At.y (Y.load rfl rfl (.s (.s (.s (.s (.s (.s .z)))))) rfl rfl rfl) rfl rfl rfl ?_
                                  refine At.y (Y.load rfl rfl .z rfl rfl rfl) rfl rfl rfl ?_
                                  refine At.freeze (.s .z) fun R3265 hr3266 hn3267 hc3268 hs3269 th3270 => ?_
                                  obtain ⟨t3271, hc3272, hrun⟩ := bbind hrun
                                  refine At.call rfl judge_Judge.callee rfl rfl rfl (judge_Judge.spec _ _ A0_0 a0_0.length c0_0 A0_1 a0_1.length c0_1 A0_2 a0_2.length c0_2 A1_0 a1_0.length c1_0 A2838 (((([] : List Int) ++ a1_1) ++ ([(Int.tmod (IntKind.i64.wrap (0 - (IntKind.i64.wrap (a2 + 1)))) (a0_0.length : Int))] : List Int)).length) c2839 A1_2 a1_2.length c1_2 A1_3 a1_3.length c1_3 a0_0 a0_1 a0_2 a1_0 ((([] : List Int) ++ a1_1) ++ ([(Int.tmod (IntKind.i64.wrap (0 - (IntKind.i64.wrap (a2 + 1)))) (a0_0.length : Int))] : List Int)) a1_2 a1_3 (RdS.mono ((hs2844.trans hs2850).trans hs3269) hr0_0) rfl hc0_0 (RdS.mono ((hs2844.trans hs2850).trans hs3269) hr0_1) rfl hc0_1 (RdS.mono ((hs2844.trans hs2850).trans hs3269) hr0_2) rfl hc0_2 (RdS.mono ((hs2844.trans hs2850).trans hs3269) hr1_0) rfl hc1_0 hr3266 hn3267 hc3268 (RdS.mono ((hs2844.trans hs2850).trans hs3269) hr1_2) rfl hc1_2 (RdS.mono ((hs2844.trans hs2850).trans hs3269) hr1_3) rfl hc1_3 hc3272) ?_
                                  rintro _ _ ⟨rfl, rfl⟩
                                  refine At.run 1 rfl ?_
                                  refine At.y (Y.build (is := [0, 2]) (xo := [.const (.int .i64 19), .tmp 121]) (vs := [.int .i64 19, .int .i64 (Int.tmod (IntKind.i64.wrap (0 - (IntKind.i64.wrap (a2 + 1)))) (a0_0.length : Int))]) (cs := [.int .i64 19, .int .i64 0, .int .i64 (Int.tmod (IntKind.i64.wrap (0 - (IntKind.i64.wrap (a2 + 1)))) (a0_0.length : Int))]) rfl rfl rfl rfl rfl rfl) rfl rfl rfl ?_
                                  refine At.y (Y.eqSt (xs := [.int .i64 t3271.1, .int .i64 t3271.2.1, .int .i64 t3271.2.2]) (ys := [.int .i64 19, .int .i64 0, .int .i64 (Int.tmod (IntKind.i64.wrap (0 - (IntKind.i64.wrap (a2 + 1)))) (a0_0.length : Int))]) rfl rfl rfl rfl (by kernel_rfl) (by kernel_rfl) (by kernel_rfl) rfl) rfl rfl rfl ?_
                                  refine At.run 1 rfl ?_
                                  refine At.thaw th3270 ?_
                                  exact At.of (J3263 (decide (t3271.1 = 19) && (decide (t3271.2.1 = 0) && (decide (t3271.2.2 = (Int.tmod (IntKind.i64.wrap (0 - (IntKind.i64.wrap (a2 + 1)))) (a0_0.length : Int))) && true))) hrun) ⟨rfl, trivial⟩
                              · · refine At.know (t := 117) rfl (bn h3264) ?_
                                  refine At.run 7 rfl ?_
                                  refine At.frt (.s (.s (.s (.s (.s (.s .z)))))) ?_
                                  refine At.frt (.s (.s (.s (.s (.s (.s .z)))))) ?_
                                  refine At.frt (.s (.s (.s (.s (.s (.s .z)))))) ?_
                                  refine At.frt (.s (.s (.s (.s (.s (.s .z)))))) ?_
                                  refine At.frt (.s (.s (.s (.s (.s (.s .z)))))) ?_
                                  refine At.frt (.s (.s (.s (.s (.s .z))))) ?_
                                  refine At.frt (.s (.s (.s (.s (.s (.s .z)))))) ?_
                                  exact At.of (J3263 false hrun) ⟨rfl, trivial⟩
                      · · rcases bite hrun with ⟨h3273, hrun⟩ | ⟨h3273, hrun⟩
                          · · refine At.know (t := 109) rfl (nf (decide_eq_true h3273)) ?_
                              refine At.run 7 rfl ?_
                              exact At.of (J3058 false hrun) ⟨rfl, rfl, rfl, rfl, trivial⟩
                          · · refine At.know (t := 109) rfl (nt (decide_eq_false h3273)) ?_
                              refine At.y (Y.load rfl rfl (.s (.s (.s (.s (.s (.s .z)))))) rfl rfl rfl) rfl rfl rfl ?_
                              refine At.y (Y.load rfl rfl (.s (.s (.s .z))) rfl rfl rfl) rfl rfl rfl ?_
                              obtain ⟨t3274, hc3275, hrun⟩ := bbind hrun
                              refine At.call rfl judge_Judge.callee rfl rfl rfl (judge_Judge.spec _ _ A0_0 a0_0.length c0_0 A0_1 a0_1.length c0_1 A0_2 a0_2.length c0_2 A1_0 a1_0.length c1_0 w2800 x2797.length w2801 A1_2 a1_2.length c1_2 A1_3 a1_3.length c1_3 a0_0 a0_1 a0_2 a1_0 x2797 a1_2 a1_3 (RdS.mono (hs2844.trans hs2850) hr0_0) rfl hc0_0 (RdS.mono (hs2844.trans hs2850) hr0_1) rfl hc0_1 (RdS.mono (hs2844.trans hs2850) hr0_2) rfl hc0_2 (RdS.mono (hs2844.trans hs2850) hr1_0) rfl hc1_0 hr2847 hn2848 hc2849 (RdS.mono (hs2844.trans hs2850) hr1_2) rfl hc1_2 (RdS.mono (hs2844.trans hs2850) hr1_3) rfl hc1_3 hc3275) ?_
                              rintro _ _ ⟨rfl, rfl⟩
                              refine At.run 1 rfl ?_
                              refine At.y (Y.build (is := [0, 2]) (xo := [.const (.int .i64 19), .tmp 113]) (vs := [.int .i64 19, .int .i64 (Int.tmod (IntKind.i64.wrap (0 - (IntKind.i64.wrap (a2 + 1)))) (a0_0.length : Int))]) (cs := [.int .i64 19, .int .i64 0, .int .i64 (Int.tmod (IntKind.i64.wrap (0 - (IntKind.i64.wrap (a2 + 1)))) (a0_0.length : Int))]) rfl rfl rfl rfl rfl rfl) rfl rfl rfl ?_
                              refine At.y (Y.eqSt (xs := [.int .i64 t3274.1, .int .i64 t3274.2.1, .int .i64 t3274.2.2]) (ys := [.int .i64 19, .int .i64 0, .int .i64 (Int.tmod (IntKind.i64.wrap (0 - (IntKind.i64.wrap (a2 + 1)))) (a0_0.length : Int))]) rfl rfl rfl rfl (by kernel_rfl) (by kernel_rfl) (by kernel_rfl) rfl) rfl rfl rfl ?_
                              refine At.run 1 rfl ?_
                              exact At.of (J3058 (decide (t3274.1 = 19) && (decide (t3274.2.1 = 0) && (decide (t3274.2.2 = (Int.tmod (IntKind.i64.wrap (0 - (IntKind.i64.wrap (a2 + 1)))) (a0_0.length : Int))) && true))) hrun) ⟨rfl, rfl, rfl, rfl, trivial⟩
                  · clear hit2810 m2808
                    rintro m2808 ⟨x2591, x2596, w2592, w2594, w2595⟩ ⟨hit2810, hn2593⟩
                    obtain rfl : x2591.length = w2592 := hn2593
                    obtain ⟨m2809, f_, hlt2811, hf_, hrun⟩ := bit hit2810
                    clear hit2810
                    have hrun : (bailifflaw16_JudgeSpoilt.l1b a0_0 a1_1 a2 x2591 x2596).bind _ = some o2805 := hrun
                    unfold bailifflaw16_JudgeSpoilt.l1b at hrun
                    · refine At.seq ?_
                      refine At.seq ?_
                      refine At.region ?_
                      refine At.run 3 rfl ?_
                      refine At.y (Y.ixArrK rfl rfl rfl rfl rfl (show (0 : Int) ≤ 1 ∧ (1 : Int) < 2 by decide).1 (show (0 : Int) ≤ 1 ∧ (1 : Int) < 2 by decide).2 (q := 1) (off := 1) rfl rfl) rfl rfl rfl ?_
                      refine At.y (Y.load rfl rfl (.s (.s .z)) rfl rfl rfl) rfl rfl rfl ?_
                      refine At.run 2 rfl ?_
                      refine At.nil ?_
                      refine At.thn ?_
                      rcases bite hrun with ⟨h3276, hrun⟩ | ⟨h3276, hrun⟩
                      · · refine At.condT rfl (decide_eq_true h3276) ?_
                          refine At.skip ?_
                          refine At.thn ?_
                          refine At.seq ?_
                          obtain ⟨G3277, hl3278, hr3279, hrun⟩ := bjoin hrun
                          refine At.join (X := (List Int) × Nat × (Option Addr) × Nat) (fun s_ => [(2, .int .i64 (Int.tmod (IntKind.i64.wrap (0 - (IntKind.i64.wrap (a2 + 1)))) (a0_0.length : Int))), (3, .pointer (some ⟨b258, 0, none⟩)), (4, .pointer (some ⟨b259, 0, none⟩)), (9, .int .i64 1), (10, .slice s_.2.2.1 s_.2.1 s_.2.2.2), (11, .int .i64 x2596)]) (fun s_ => row (Fl.int .i64) 3 s_.2.2.1 s_.2.1 s_.2.2.2 s_.1 :: pt b264 (.cells [.int .i64 t262.1, .int .i64 t262.2.1, .int .i64 t262.2.2].toArray 44) :: pt b259 (.cells [.slice A1_0 a1_0.length c1_0, .slice A1_1 a1_1.length c1_1, .slice A1_2 a1_2.length c1_2, .slice A1_3 a1_3.length c1_3].toArray 39) :: pt b258 (.cells [.slice A0_0 a0_0.length c0_0, .slice A0_1 a0_1.length c0_1, .slice A0_2 a0_2.length c0_2].toArray 36) :: Fr) (fun s_ => G3277 (.inl s_.1) = some o2805 ∧ s_.1.length = s_.2.1) ?_ (fun J3280 => ?_)
                          · rintro ⟨x3481, w3482, w3484, w3485⟩ ⟨hrun, hn3483⟩
                            obtain rfl : x3481.length = w3482 := hn3483
                            have hrun := (hl3278 _).symm.trans hrun
                            · refine At.region ?_
                              refine At.run 3 rfl ?_
                              refine At.nil ?_
                              have hrun := bnx hf_ hrun
                              exact fun a w e hs => ⟨m2809, (x3481, IntKind.i64.wrap (x2596 + 1), x3481.length, w3484, w3485), hlt2811, ⟨hrun, rfl⟩, e.sub ⟨rfl, rfl, rfl, rfl, rfl, rfl, trivial⟩, hs⟩
                          · · refine At.block ?_
                              refine At.seq ?_
                              refine At.region ?_
                              refine At.run 2 rfl ?_
                              refine At.y (Y.ixArrK rfl rfl rfl rfl rfl (show (0 : Int) ≤ 1 ∧ (1 : Int) < 2 by decide).1 (show (0 : Int) ≤ 1 ∧ (1 : Int) < 2 by decide).2 (q := 1) (off := 1) rfl rfl) rfl rfl rfl ?_
                              refine At.y (Y.load rfl rfl (.s (.s .z)) rfl rfl rfl) rfl rfl rfl ?_
                              refine At.run 1 rfl ?_
                              obtain ⟨h3486, hrun⟩ := bnone hrun
                              refine At.y (Y.ixRd hr1_1 rfl rfl rfl rfl rfl rfl rfl h3486.1 h3486.2) rfl rfl rfl ?_
                              refine At.y (Y.ldFl hr1_1 rfl (q := 0) rfl rfl h3486.1 h3486.2 rfl rfl rfl) rfl rfl rfl ?_
                              refine At.run 2 rfl ?_
                              refine At.nil ?_
                              refine At.thn ?_
                              rcases bite hrun with ⟨h3487, hrun⟩ | ⟨h3487, hrun⟩
                              · · refine At.condF rfl (nf (decide_eq_true h3487)) ?_
                                  refine At.skip ?_
                                  refine At.ibn ?_
                                  refine At.thn ?_
                                  exact fun a w e hs => J3280 (x2591, x2591.length, w2594, w2595) ⟨hrun, rfl⟩ a w (e.sub ⟨rfl, rfl, rfl, rfl, rfl, rfl, trivial⟩) hs
                              · · refine At.condT rfl (nt (decide_eq_false h3487)) ?_
                                  refine At.region ?_
                                  refine At.run 3 rfl ?_
                                  refine At.y (Y.ixArrK rfl rfl rfl rfl rfl (show (0 : Int) ≤ 1 ∧ (1 : Int) < 2 by decide).1 (show (0 : Int) ≤ 1 ∧ (1 : Int) < 2 by decide).2 (q := 1) (off := 1) rfl rfl) rfl rfl rfl ?_
                                  refine At.y (Y.load rfl rfl (.s (.s .z)) rfl rfl rfl) rfl rfl rfl ?_
                                  refine At.run 1 rfl ?_
                                  refine At.y (Y.ixRd hr1_1 rfl rfl rfl rfl rfl rfl rfl h3486.1 h3486.2) rfl rfl rfl ?_
                                  refine At.y (Y.ldFl hr1_1 rfl (q := 0) rfl rfl h3486.1 h3486.2 rfl rfl rfl) rfl rfl rfl ?_
                                  refine At.lit rfl (xo := [.tmp 68]) (ys := ([(gt a1_1 x2596)] : List Int)) (Fl.int .i64) rfl rfl rfl rfl rfl rfl rfl rfl rfl rfl rfl (fun A3488 c3489 => ?_)
                                  obtain ⟨h3491, hrun⟩ := bnone hrun
                                  refine At.append rfl (.s .z) (Src.own .z (by simp)) rfl rfl rfl rfl rfl rfl rfl rfl h3491 (by decide) rfl (fun A3492 c3493 => ?_)
                                  refine At.drop (.s .z) ?_
                                  refine At.run 1 rfl ?_
                                  refine At.nil ?_
                                  refine At.ibn ?_
                                  refine At.thn ?_
                                  exact fun a w e hs => J3280 ((x2591 ++ ([(gt a1_1 x2596)] : List Int)), (x2591 ++ ([(gt a1_1 x2596)] : List Int)).length, A3492, c3493) ⟨hrun, rfl⟩ a w (e.sub ⟨rfl, rfl, rfl, rfl, rfl, rfl, trivial⟩) hs
                      · · refine At.condF rfl (decide_eq_false h3276) ?_
                          refine At.exit ?_
                          refine At.the ?_
                          refine At.the ?_
                          exact fun a w e hs => J2812 (x2591, x2591.length, w2594, w2595) ⟨(bdn hrun ho2807), rfl⟩ a w (e.sub ⟨rfl, rfl, rfl, rfl, rfl, trivial⟩) hs
          · · refine At.condF rfl (decide_eq_false h471) ?_
              refine At.skip ?_
              refine At.thn ?_
              refine At.seq ?_
              refine At.region ?_
              refine At.run 2 rfl ?_
              refine At.y (Y.load rfl rfl (.s (.s .z)) rfl rfl rfl) rfl rfl rfl ?_
              refine At.run 1 rfl ?_
              obtain ⟨h3494, hrun⟩ := bnone hrun
              refine At.y (Y.rem rfl rfl h3494) rfl rfl rfl ?_
              refine At.run 1 rfl ?_
              refine At.nil ?_
              refine At.thn ?_
              refine At.seq ?_
              refine At.region ?_
              refine At.run 1 rfl ?_
              refine At.nil ?_
              refine At.thn ?_
              refine At.seq ?_
              refine At.seq ?_
              refine At.region ?_
              refine At.run 1 rfl ?_
              refine At.y (Y.ixArrK rfl rfl rfl rfl rfl (show (0 : Int) ≤ 0 ∧ (0 : Int) < 2 by decide).1 (show (0 : Int) ≤ 0 ∧ (0 : Int) < 2 by decide).2 (q := 0) (off := 0) rfl rfl) rfl rfl rfl ?_
              refine At.y (Y.load rfl rfl (.s .z) rfl rfl rfl) rfl rfl rfl ?_
              refine At.run 1 rfl ?_
              obtain ⟨t3495, hc3496, hrun⟩ := bbind hrun
              refine At.call rfl bailiffref16_Count.callee rfl rfl rfl (bailiffref16_Count.spec _ _ A1_0 a1_0.length c1_0 a1_0 (Int.tmod a2 (a0_0.length : Int)) hr1_0 rfl hc1_0 hc3496) ?_
              rintro _ _ ⟨rfl, rfl⟩
              refine At.run 1 rfl ?_
              refine At.nil ?_
              refine At.thn ?_
              rcases bite hrun with ⟨h3497, hrun⟩ | ⟨h3497, hrun⟩
              · · refine At.condT rfl (decide_eq_true h3497) ?_
                  refine At.region ?_
                  refine At.run 1 rfl ?_
                  refine At.nil ?_
                  refine At.thn ?_
                  refine At.seq ?_
                  refine At.region ?_
                  refine At.run 1 rfl ?_
                  refine At.nil ?_
                  refine At.thn ?_
                  refine At.seq ?_
                  refine At.seq ?_
                  refine At.region ?_
                  refine At.run 1 rfl ?_
                  refine At.nil ?_
                  refine At.thn ?_
                  refine At.block ?_
                  obtain ⟨G4315, hl4316, hr4317, hrun⟩ := bjoin hrun
                  obtain ⟨o4318, hlo4319, ho4320⟩ := bsome hrun
                  clear hrun
                  unfold bailifflaw16_JudgeSpoilt.l2 at hlo4319
                  obtain ⟨m4321, hit4323⟩ := iter_some.1 hlo4319
                  clear hlo4319
                  refine At.nilRow (Fl.int .i64) 3 ?_
                  refine At.loopJ (X := (List Int) × Int × Nat × (Option Addr) × Nat) (Y := (List Int) × Nat × (Option Addr) × Nat) (e0 := 0) (fun s_ => [(2, .int .i64 (Int.tmod a2 (a0_0.length : Int))), (3, .pointer (some ⟨b258, 0, none⟩)), (4, .pointer (some ⟨b259, 0, none⟩)), (9, .int .i64 0), (10, .slice s_.2.2.2.1 s_.2.2.1 s_.2.2.2.2), (11, .int .i64 s_.2.1)]) (fun s_ => row (Fl.int .i64) 3 s_.2.2.2.1 s_.2.2.1 s_.2.2.2.2 s_.1 :: pt b264 (.cells [.int .i64 t262.1, .int .i64 t262.2.1, .int .i64 t262.2.2].toArray 44) :: pt b259 (.cells [.slice A1_0 a1_0.length c1_0, .slice A1_1 a1_1.length c1_1, .slice A1_2 a1_2.length c1_2, .slice A1_3 a1_3.length c1_3].toArray 39) :: pt b258 (.cells [.slice A0_0 a0_0.length c0_0, .slice A0_1 a0_1.length c0_1, .slice A0_2 a0_2.length c0_2].toArray 36) :: Fr) (fun m_ => fun s_ => iterN (fun t_ : (List Int) × Int => bailifflaw16_JudgeSpoilt.l2b a0_0 a1_0 a2 t_.1 t_.2) m_ (s_.1, s_.2.1) = some o4318 ∧ s_.1.length = s_.2.2.1) m4321 (([] : List Int), 0, 0, none, 0) ⟨hit4323, rfl⟩ (fun s_ => [(2, .int .i64 (Int.tmod a2 (a0_0.length : Int))), (3, .pointer (some ⟨b258, 0, none⟩)), (4, .pointer (some ⟨b259, 0, none⟩)), (9, .int .i64 0), (10, .slice s_.2.2.1 s_.2.1 s_.2.2.2)]) (fun s_ => row (Fl.int .i64) 3 s_.2.2.1 s_.2.1 s_.2.2.2 s_.1 :: pt b264 (.cells [.int .i64 t262.1, .int .i64 t262.2.1, .int .i64 t262.2.2].toArray 44) :: pt b259 (.cells [.slice A1_0 a1_0.length c1_0, .slice A1_1 a1_1.length c1_1, .slice A1_2 a1_2.length c1_2, .slice A1_3 a1_3.length c1_3].toArray 39) :: pt b258 (.cells [.slice A0_0 a0_0.length c0_0, .slice A0_1 a0_1.length c0_1, .slice A0_2 a0_2.length c0_2].toArray 36) :: Fr) (fun s_ => G4315 (.inl s_.1) = some r ∧ s_.1.length = s_.2.1) (fun a w e hs => ⟨e.sub ⟨rfl, rfl, rfl, rfl, rfl, rfl, trivial⟩, hs⟩) ?_ (fun J4325 => ?_)
                  · rintro ⟨x4310, w4311, w4313, w4314⟩ ⟨hrun, hn4312⟩
                    obtain rfl : x4310.length = w4311 := hn4312
                    have hrun := (hl4316 _).symm.trans hrun
                    · refine At.ibx ?_
                      refine At.thn ?_
                      refine At.seq ?_
                      refine At.region ?_
                      refine At.y (Y.load rfl rfl (.s (.s .z)) rfl rfl rfl) rfl rfl rfl ?_
                      refine At.alloc rfl rfl rfl (fun b4326 => ?_)
                      refine At.store rfl rfl rfl rfl .z rfl rfl rfl (.c (.c (.c (.c .n)))) ?_
                      refine At.nil ?_
                      refine At.thn ?_
                      refine At.seq ?_
                      refine At.region ?_
                      refine At.run 3 rfl ?_
                      refine At.y (Y.ixArrK rfl rfl rfl rfl rfl (show (0 : Int) ≤ 0 ∧ (0 : Int) < 2 by decide).1 (show (0 : Int) ≤ 0 ∧ (0 : Int) < 2 by decide).2 (q := 0) (off := 0) rfl rfl) rfl rfl rfl ?_
                      refine At.store rfl rfl rfl rfl .z rfl rfl rfl (.c .n) ?_
                      refine At.nil ?_
                      refine At.thn ?_
                      refine At.seq ?_
                      refine At.region ?_
                      refine At.y (Y.load rfl rfl .z rfl rfl rfl) rfl rfl rfl ?_
                      refine At.alloc rfl rfl rfl (fun b4327 => ?_)
                      refine At.store rfl rfl rfl rfl .z rfl rfl rfl (.c (.c (.c (.c .n)))) ?_
                      refine At.nil ?_
                      refine At.thn ?_
                      refine At.seq ?_
                      refine At.region ?_
                      refine At.run 2 rfl ?_
                      refine At.lit rfl (xo := []) (ys := ([] : List Int)) (Fl.int .i64) rfl rfl rfl rfl rfl rfl rfl rfl rfl rfl rfl (fun A4328 c4329 => ?_)
                      refine At.run 3 rfl ?_
                      refine At.y (Y.ixArrK rfl rfl rfl rfl rfl (show (0 : Int) ≤ 1 ∧ (1 : Int) < 2 by decide).1 (show (0 : Int) ≤ 1 ∧ (1 : Int) < 2 by decide).2 (q := 1) (off := 1) rfl rfl) rfl rfl rfl ?_
                      refine At.y (Y.load rfl rfl (.s (.s (.s (.s (.s .z))))) rfl rfl rfl) rfl rfl rfl ?_
                      obtain ⟨h4331, hrun⟩ := bnone hrun
                      refine At.appendAll rfl .z (SrcE.rd hr1_1) rfl rfl rfl rfl rfl rfl rfl rfl rfl h4331 (by decide) rfl (fun A4332 c4333 => ?_)
                      refine At.run 1 rfl ?_
                      refine At.lit rfl (xo := [.tmp 86]) (ys := ([(Int.tmod a2 (a0_0.length : Int))] : List Int)) (Fl.int .i64) rfl rfl rfl rfl rfl rfl rfl rfl rfl rfl rfl (fun A4334 c4335 => ?_)
                      obtain ⟨h4337, hrun⟩ := bnone hrun
                      refine At.append rfl (.s .z) (Src.own .z (by simp)) rfl rfl rfl rfl rfl rfl rfl rfl h4337 (by decide) rfl (fun A4338 c4339 => ?_)
                      refine At.drop (.s .z) ?_
                      refine At.run 1 rfl ?_
                      refine At.y (Y.ixArrK rfl rfl rfl rfl rfl (show (0 : Int) ≤ 1 ∧ (1 : Int) < 2 by decide).1 (show (0 : Int) ≤ 1 ∧ (1 : Int) < 2 by decide).2 (q := 1) (off := 1) rfl rfl) rfl rfl rfl ?_
                      refine At.store rfl rfl rfl rfl (.s .z) rfl rfl rfl (.s (.c .n)) ?_
                      refine At.nil ?_
                      refine At.thn ?_
                      refine At.seq ?_
                      refine At.region ?_
                      refine At.y (Y.load rfl rfl (.s (.s (.s (.s (.s .z))))) rfl rfl rfl) rfl rfl rfl ?_
                      refine At.alloc rfl rfl rfl (fun b4340 => ?_)
                      refine At.store rfl rfl rfl rfl .z rfl rfl rfl (.c (.c (.c (.c .n)))) ?_
                      refine At.nil ?_
                      refine At.thn ?_
                      refine At.seq ?_
                      refine At.region ?_
                      refine At.run 1 rfl ?_
                      refine At.lit rfl (xo := []) (ys := ([] : List Int)) (Fl.int .i64) rfl rfl rfl rfl rfl rfl rfl rfl rfl rfl rfl (fun A4341 c4342 => ?_)
                      refine At.run 2 rfl ?_
                      refine At.y (Y.ixArrK rfl rfl rfl rfl rfl (show (0 : Int) ≤ 0 ∧ (0 : Int) < 2 by decide).1 (show (0 : Int) ≤ 0 ∧ (0 : Int) < 2 by decide).2 (q := 0) (off := 0) rfl rfl) rfl rfl rfl ?_
                      refine At.y (Y.load rfl rfl (.s (.s (.s (.s (.s (.s (.s .z))))))) rfl rfl rfl) rfl rfl rfl ?_
                      obtain ⟨h4344, hrun⟩ := bnone hrun
                      refine At.appendAll rfl .z (SrcE.rd hr1_0) rfl rfl rfl rfl rfl rfl rfl rfl rfl h4344 (by decide) rfl (fun A4345 c4346 => ?_)
                      refine At.run 1 rfl ?_
                      refine At.lit rfl (xo := [.tmp 99]) (ys := ([(Int.tmod a2 (a0_0.length : Int))] : List Int)) (Fl.int .i64) rfl rfl rfl rfl rfl rfl rfl rfl rfl rfl rfl (fun A4347 c4348 => ?_)
                      obtain ⟨h4350, hrun⟩ := bnone hrun
                      refine At.append rfl (.s .z) (Src.own .z (by simp)) rfl rfl rfl rfl rfl rfl rfl rfl h4350 (by decide) rfl (fun A4351 c4352 => ?_)
                      refine At.drop (.s .z) ?_
                      refine At.run 1 rfl ?_
                      refine At.y (Y.ixArrK rfl rfl rfl rfl rfl (show (0 : Int) ≤ 0 ∧ (0 : Int) < 2 by decide).1 (show (0 : Int) ≤ 0 ∧ (0 : Int) < 2 by decide).2 (q := 0) (off := 0) rfl rfl) rfl rfl rfl ?_
                      refine At.store rfl rfl rfl rfl (.s .z) rfl rfl rfl (.c .n) ?_
                      refine At.nil ?_
                      refine At.thn ?_
                      refine At.seq ?_
                      refine At.region ?_
                      refine At.y (Y.load rfl rfl (.s (.s (.s (.s (.s (.s (.s (.s .z)))))))) rfl rfl rfl) rfl rfl rfl ?_
                      refine At.y (Y.load rfl rfl (.s (.s .z)) rfl rfl rfl) rfl rfl rfl ?_
                      refine At.freeze (.s (.s (.s (.s (.s .z))))) fun R4353 hr4354 hn4355 hc4356 hs4357 th4358 => ?_
                      refine At.freeze (.s (.s (.s .z))) fun R4359 hr4360 hn4361 hc4362 hs4363 th4364 => ?_
                      obtain ⟨t4365, hc4366, hrun⟩ := bbind hrun
                      refine At.call rfl judge_Judge.callee rfl rfl rfl (judge_Judge.spec _ _ A0_0 a0_0.length c0_0 A0_1 a0_1.length c0_1 A0_2 a0_2.length c0_2 w4313 x4310.length w4314 A4338 (((([] : List Int) ++ a1_1) ++ ([(Int.tmod a2 (a0_0.length : Int))] : List Int)).length) c4339 A1_2 a1_2.length c1_2 A1_3 a1_3.length c1_3 a0_0 a0_1 a0_2 x4310 ((([] : List Int) ++ a1_1) ++ ([(Int.tmod a2 (a0_0.length : Int))] : List Int)) a1_2 a1_3 (RdS.mono (hs4357.trans hs4363) hr0_0) rfl hc0_0 (RdS.mono (hs4357.trans hs4363) hr0_1) rfl hc0_1 (RdS.mono (hs4357.trans hs4363) hr0_2) rfl hc0_2 (RdS.mono hs4363 hr4354) hn4355 hc4356 hr4360 hn4361 hc4362 (RdS.mono (hs4357.trans hs4363) hr1_2) rfl hc1_2 (RdS.mono (hs4357.trans hs4363) hr1_3) rfl hc1_3 hc4366) ?_
                      rintro _ _ ⟨rfl, rfl⟩
                      refine At.run 3 rfl ?_
                      obtain ⟨G4568, hl4569, hr4570, hrun⟩ := bjoin hrun
                      refine At.joinO 7 (X := Bool) (fun x4567 => [(2, .int .i64 (Int.tmod a2 (a0_0.length : Int))), (3, .pointer (some ⟨b258, 0, none⟩)), (14, .pointer (some ⟨b4340, 0, none⟩)), (116, .bool x4567)]) (fun x4567 => pt b4340 (.cells [.slice A4351 (((([] : List Int) ++ a1_0) ++ ([(Int.tmod a2 (a0_0.length : Int))] : List Int)).length) c4352, .slice A1_1 a1_1.length c1_1, .slice A1_2 a1_2.length c1_2, .slice A1_3 a1_3.length c1_3].toArray 39) :: row (Fl.int .i64) 3 A4351 (((([] : List Int) ++ a1_0) ++ ([(Int.tmod a2 (a0_0.length : Int))] : List Int)).length) c4352 ((([] : List Int) ++ a1_0) ++ ([(Int.tmod a2 (a0_0.length : Int))] : List Int)) :: pt b4327 (.cells [.slice w4313 x4310.length w4314, .slice A4338 (((([] : List Int) ++ a1_1) ++ ([(Int.tmod a2 (a0_0.length : Int))] : List Int)).length) c4339, .slice A1_2 a1_2.length c1_2, .slice A1_3 a1_3.length c1_3].toArray 39) :: pt b4326 (.cells [.slice w4313 x4310.length w4314, .slice A1_1 a1_1.length c1_1, .slice A1_2 a1_2.length c1_2, .slice A1_3 a1_3.length c1_3].toArray 39) :: pt b264 (.cells [.int .i64 t262.1, .int .i64 t262.2.1, .int .i64 t262.2.2].toArray 44) :: pt b259 (.cells [.slice A1_0 a1_0.length c1_0, .slice A1_1 a1_1.length c1_1, .slice A1_2 a1_2.length c1_2, .slice A1_3 a1_3.length c1_3].toArray 39) :: pt b258 (.cells [.slice A0_0 a0_0.length c0_0, .slice A0_1 a0_1.length c0_1, .slice A0_2 a0_2.length c0_2].toArray 36) :: Fr) (fun x4567 => G4568 (.inl x4567) = some r) ?_ (fun J4571 => ?_)
                      · rintro x4567 hrun
                        have hrun := (hl4569 _).symm.trans hrun
                        · refine At.run 1 rfl ?_
                          obtain ⟨G4773, hl4774, hr4775, hrun⟩ := bjoin hrun
                          refine At.joinO 7 (X := Bool) (fun x4772 => [(124, .bool x4772)]) (fun x4772 => row (Fl.int .i64) 3 A4351 (((([] : List Int) ++ a1_0) ++ ([(Int.tmod a2 (a0_0.length : Int))] : List Int)).length) c4352 ((([] : List Int) ++ a1_0) ++ ([(Int.tmod a2 (a0_0.length : Int))] : List Int)) :: pt b4340 (.cells [.slice A4351 (((([] : List Int) ++ a1_0) ++ ([(Int.tmod a2 (a0_0.length : Int))] : List Int)).length) c4352, .slice A1_1 a1_1.length c1_1, .slice A1_2 a1_2.length c1_2, .slice A1_3 a1_3.length c1_3].toArray 39) :: pt b4327 (.cells [.slice w4313 x4310.length w4314, .slice A4338 (((([] : List Int) ++ a1_1) ++ ([(Int.tmod a2 (a0_0.length : Int))] : List Int)).length) c4339, .slice A1_2 a1_2.length c1_2, .slice A1_3 a1_3.length c1_3].toArray 39) :: pt b4326 (.cells [.slice w4313 x4310.length w4314, .slice A1_1 a1_1.length c1_1, .slice A1_2 a1_2.length c1_2, .slice A1_3 a1_3.length c1_3].toArray 39) :: pt b264 (.cells [.int .i64 t262.1, .int .i64 t262.2.1, .int .i64 t262.2.2].toArray 44) :: pt b259 (.cells [.slice A1_0 a1_0.length c1_0, .slice A1_1 a1_1.length c1_1, .slice A1_2 a1_2.length c1_2, .slice A1_3 a1_3.length c1_3].toArray 39) :: pt b258 (.cells [.slice A0_0 a0_0.length c0_0, .slice A0_1 a0_1.length c0_1, .slice A0_2 a0_2.length c0_2].toArray 36) :: Fr) (fun x4772 => G4773 (.inl x4772) = some r) ?_ (fun J4776 => ?_)
                          · rintro x4772 hrun
                            have hrun := (hl4774 _).symm.trans hrun
                            · refine At.run 1 rfl ?_
                              refine At.nil ?_
                              refine At.thn ?_
                              refine At.ret ?_
                              refine At.thaw th4364 ?_
                              refine At.thaw th4358 ?_
                              refine At.drop .z ?_
                              refine At.drop .z ?_
                              refine At.drop .z ?_
                              refine At.drop .z ?_
                              refine At.drop .z ?_
                              refine At.drop .z ?_
                              refine At.drop .z ?_
                              refine At.drop .z ?_
                              refine At.drop .z ?_
                              obtain rfl := (bret hrun).symm
                              exact At.res (.inl rfl) rfl rfl ⟨rfl, rfl⟩
                          · · rcases bite hrun with ⟨h4777, hrun⟩ | ⟨h4777, hrun⟩
                              · · refine At.know (t := 117) rfl h4777 ?_
                                  refine At.y (Y.load rfl rfl (.s (.s (.s (.s (.s (.s .z)))))) rfl rfl rfl) rfl rfl rfl ?_
                                  refine At.y (Y.load rfl rfl .z rfl rfl rfl) rfl rfl rfl ?_
                                  refine At.freeze (.s .z) fun R4778 hr4779 hn4780 hc4781 hs4782 th4783 => ?_
                                  obtain ⟨t4784, hc4785, hrun⟩ := bbind hrun
                                  refine At.call rfl judge_Judge.callee rfl rfl rfl (judge_Judge.spec _ _ A0_0 a0_0.length c0_0 A0_1 a0_1.length c0_1 A0_2 a0_2.length c0_2 A4351 (((([] : List Int) ++ a1_0) ++ ([(Int.tmod a2 (a0_0.length : Int))] : List Int)).length) c4352 A1_1 a1_1.length c1_1 A1_2 a1_2.length c1_2 A1_3 a1_3.length c1_3 a0_0 a0_1 a0_2 ((([] : List Int) ++ a1_0) ++ ([(Int.tmod a2 (a0_0.length : Int))] : List Int)) a1_1 a1_2 a1_3 (RdS.mono ((hs4357.trans hs4363).trans hs4782) hr0_0) rfl hc0_0 (RdS.mono ((hs4357.trans hs4363).trans hs4782) hr0_1) rfl hc0_1 (RdS.mono ((hs4357.trans hs4363).trans hs4782) hr0_2) rfl hc0_2 hr4779 hn4780 hc4781 (RdS.mono ((hs4357.trans hs4363).trans hs4782) hr1_1) rfl hc1_1 (RdS.mono ((hs4357.trans hs4363).trans hs4782) hr1_2) rfl hc1_2 (RdS.mono ((hs4357.trans hs4363).trans hs4782) hr1_3) rfl hc1_3 hc4785) ?_
                                  rintro _ _ ⟨rfl, rfl⟩
                                  refine At.run 1 rfl ?_
                                  refine At.y (Y.build (is := [0, 2]) (xo := [.const (.int .i64 19), .tmp 121]) (vs := [.int .i64 19, .int .i64 (Int.tmod a2 (a0_0.length : Int))]) (cs := [.int .i64 19, .int .i64 0, .int .i64 (Int.tmod a2 (a0_0.length : Int))]) rfl rfl rfl rfl rfl rfl) rfl rfl rfl ?_
                                  refine At.y (Y.eqSt (xs := [.int .i64 t4784.1, .int .i64 t4784.2.1, .int .i64 t4784.2.2]) (ys := [.int .i64 19, .int .i64 0, .int .i64 (Int.tmod a2 (a0_0.length : Int))]) rfl rfl rfl rfl (by kernel_rfl) (by kernel_rfl) (by kernel_rfl) rfl) rfl rfl rfl ?_
                                  refine At.run 1 rfl ?_
                                  refine At.thaw th4783 ?_
                                  exact At.of (J4776 (decide (t4784.1 = 19) && (decide (t4784.2.1 = 0) && (decide (t4784.2.2 = (Int.tmod a2 (a0_0.length : Int))) && true))) hrun) ⟨rfl, trivial⟩
                              · · refine At.know (t := 117) rfl (bn h4777) ?_
                                  refine At.run 7 rfl ?_
                                  refine At.frt (.s (.s (.s (.s (.s (.s .z)))))) ?_
                                  refine At.frt (.s (.s (.s (.s (.s (.s .z)))))) ?_
                                  refine At.frt (.s (.s (.s (.s (.s (.s .z)))))) ?_
                                  refine At.frt (.s (.s (.s (.s (.s (.s .z)))))) ?_
                                  refine At.frt (.s (.s (.s (.s (.s (.s .z)))))) ?_
                                  refine At.frt (.s (.s (.s (.s (.s .z))))) ?_
                                  refine At.frt (.s (.s (.s (.s (.s (.s .z)))))) ?_
                                  exact At.of (J4776 false hrun) ⟨rfl, trivial⟩
                      · · rcases bite hrun with ⟨h4786, hrun⟩ | ⟨h4786, hrun⟩
                          · · refine At.know (t := 109) rfl (nf (decide_eq_true h4786)) ?_
                              refine At.run 7 rfl ?_
                              exact At.of (J4571 false hrun) ⟨rfl, rfl, rfl, rfl, trivial⟩
                          · · refine At.know (t := 109) rfl (nt (decide_eq_false h4786)) ?_
                              refine At.y (Y.load rfl rfl (.s (.s (.s (.s (.s (.s .z)))))) rfl rfl rfl) rfl rfl rfl ?_
                              refine At.y (Y.load rfl rfl (.s (.s (.s .z))) rfl rfl rfl) rfl rfl rfl ?_
                              obtain ⟨t4787, hc4788, hrun⟩ := bbind hrun
                              refine At.call rfl judge_Judge.callee rfl rfl rfl (judge_Judge.spec _ _ A0_0 a0_0.length c0_0 A0_1 a0_1.length c0_1 A0_2 a0_2.length c0_2 w4313 x4310.length w4314 A1_1 a1_1.length c1_1 A1_2 a1_2.length c1_2 A1_3 a1_3.length c1_3 a0_0 a0_1 a0_2 x4310 a1_1 a1_2 a1_3 (RdS.mono (hs4357.trans hs4363) hr0_0) rfl hc0_0 (RdS.mono (hs4357.trans hs4363) hr0_1) rfl hc0_1 (RdS.mono (hs4357.trans hs4363) hr0_2) rfl hc0_2 (RdS.mono hs4363 hr4354) hn4355 hc4356 (RdS.mono (hs4357.trans hs4363) hr1_1) rfl hc1_1 (RdS.mono (hs4357.trans hs4363) hr1_2) rfl hc1_2 (RdS.mono (hs4357.trans hs4363) hr1_3) rfl hc1_3 hc4788) ?_
                              rintro _ _ ⟨rfl, rfl⟩
                              refine At.run 1 rfl ?_
                              refine At.y (Y.build (is := [0, 2]) (xo := [.const (.int .i64 19), .tmp 113]) (vs := [.int .i64 19, .int .i64 (Int.tmod a2 (a0_0.length : Int))]) (cs := [.int .i64 19, .int .i64 0, .int .i64 (Int.tmod a2 (a0_0.length : Int))]) rfl rfl rfl rfl rfl rfl) rfl rfl rfl ?_
                              refine At.y (Y.eqSt (xs := [.int .i64 t4787.1, .int .i64 t4787.2.1, .int .i64 t4787.2.2]) (ys := [.int .i64 19, .int .i64 0, .int .i64 (Int.tmod a2 (a0_0.length : Int))]) rfl rfl rfl rfl (by kernel_rfl) (by kernel_rfl) (by kernel_rfl) rfl) rfl rfl rfl ?_
                              refine At.run 1 rfl ?_
                              exact At.of (J4571 (decide (t4787.1 = 19) && (decide (t4787.2.1 = 0) && (decide (t4787.2.2 = (Int.tmod a2 (a0_0.length : Int))) && true))) hrun) ⟨rfl, rfl, rfl, rfl, trivial⟩
                  · clear hit4323 m4321
                    rintro m4321 ⟨x4104, x4109, w4105, w4107, w4108⟩ ⟨hit4323, hn4106⟩
                    obtain rfl : x4104.length = w4105 := hn4106
                    obtain ⟨m4322, f_, hlt4324, hf_, hrun⟩ := bit hit4323
                    clear hit4323
                    have hrun : (bailifflaw16_JudgeSpoilt.l2b a0_0 a1_0 a2 x4104 x4109).bind _ = some o4318 := hrun
                    unfold bailifflaw16_JudgeSpoilt.l2b at hrun
                    · refine At.seq ?_
                      refine At.seq ?_
                      refine At.region ?_
                      refine At.run 3 rfl ?_
                      refine At.y (Y.ixArrK rfl rfl rfl rfl rfl (show (0 : Int) ≤ 0 ∧ (0 : Int) < 2 by decide).1 (show (0 : Int) ≤ 0 ∧ (0 : Int) < 2 by decide).2 (q := 0) (off := 0) rfl rfl) rfl rfl rfl ?_
                      refine At.y (Y.load rfl rfl (.s (.s .z)) rfl rfl rfl) rfl rfl rfl ?_
                      refine At.run 2 rfl ?_
                      refine At.nil ?_
                      refine At.thn ?_
                      rcases bite hrun with ⟨h4789, hrun⟩ | ⟨h4789, hrun⟩
                      · · refine At.condT rfl (decide_eq_true h4789) ?_
                          refine At.skip ?_
                          refine At.thn ?_
                          refine At.seq ?_
                          obtain ⟨G4790, hl4791, hr4792, hrun⟩ := bjoin hrun
                          refine At.join (X := (List Int) × Nat × (Option Addr) × Nat) (fun s_ => [(2, .int .i64 (Int.tmod a2 (a0_0.length : Int))), (3, .pointer (some ⟨b258, 0, none⟩)), (4, .pointer (some ⟨b259, 0, none⟩)), (9, .int .i64 0), (10, .slice s_.2.2.1 s_.2.1 s_.2.2.2), (11, .int .i64 x4109)]) (fun s_ => row (Fl.int .i64) 3 s_.2.2.1 s_.2.1 s_.2.2.2 s_.1 :: pt b264 (.cells [.int .i64 t262.1, .int .i64 t262.2.1, .int .i64 t262.2.2].toArray 44) :: pt b259 (.cells [.slice A1_0 a1_0.length c1_0, .slice A1_1 a1_1.length c1_1, .slice A1_2 a1_2.length c1_2, .slice A1_3 a1_3.length c1_3].toArray 39) :: pt b258 (.cells [.slice A0_0 a0_0.length c0_0, .slice A0_1 a0_1.length c0_1, .slice A0_2 a0_2.length c0_2].toArray 36) :: Fr) (fun s_ => G4790 (.inl s_.1) = some o4318 ∧ s_.1.length = s_.2.1) ?_ (fun J4793 => ?_)
                          · rintro ⟨x4994, w4995, w4997, w4998⟩ ⟨hrun, hn4996⟩
                            obtain rfl : x4994.length = w4995 := hn4996
                            have hrun := (hl4791 _).symm.trans hrun
                            · refine At.region ?_
                              refine At.run 3 rfl ?_
                              refine At.nil ?_
                              have hrun := bnx hf_ hrun
                              exact fun a w e hs => ⟨m4322, (x4994, IntKind.i64.wrap (x4109 + 1), x4994.length, w4997, w4998), hlt4324, ⟨hrun, rfl⟩, e.sub ⟨rfl, rfl, rfl, rfl, rfl, rfl, trivial⟩, hs⟩
                          · · refine At.block ?_
                              refine At.seq ?_
                              refine At.region ?_
                              refine At.run 2 rfl ?_
                              refine At.y (Y.ixArrK rfl rfl rfl rfl rfl (show (0 : Int) ≤ 0 ∧ (0 : Int) < 2 by decide).1 (show (0 : Int) ≤ 0 ∧ (0 : Int) < 2 by decide).2 (q := 0) (off := 0) rfl rfl) rfl rfl rfl ?_
                              refine At.y (Y.load rfl rfl (.s (.s .z)) rfl rfl rfl) rfl rfl rfl ?_
                              refine At.run 1 rfl ?_
                              obtain ⟨h4999, hrun⟩ := bnone hrun
                              refine At.y (Y.ixRd hr1_0 rfl rfl rfl rfl rfl rfl rfl h4999.1 h4999.2) rfl rfl rfl ?_
                              refine At.y (Y.ldFl hr1_0 rfl (q := 0) rfl rfl h4999.1 h4999.2 rfl rfl rfl) rfl rfl rfl ?_
                              refine At.run 2 rfl ?_
                              refine At.nil ?_
                              refine At.thn ?_
                              rcases bite hrun with ⟨h5000, hrun⟩ | ⟨h5000, hrun⟩
                              · · refine At.condF rfl (nf (decide_eq_true h5000)) ?_
                                  refine At.skip ?_
                                  refine At.ibn ?_
                                  refine At.thn ?_
                                  exact fun a w e hs => J4793 (x4104, x4104.length, w4107, w4108) ⟨hrun, rfl⟩ a w (e.sub ⟨rfl, rfl, rfl, rfl, rfl, rfl, trivial⟩) hs
                              · · refine At.condT rfl (nt (decide_eq_false h5000)) ?_
                                  refine At.region ?_
                                  refine At.run 3 rfl ?_
                                  refine At.y (Y.ixArrK rfl rfl rfl rfl rfl (show (0 : Int) ≤ 0 ∧ (0 : Int) < 2 by decide).1 (show (0 : Int) ≤ 0 ∧ (0 : Int) < 2 by decide).2 (q := 0) (off := 0) rfl rfl) rfl rfl rfl ?_
                                  refine At.y (Y.load rfl rfl (.s (.s .z)) rfl rfl rfl) rfl rfl rfl ?_
                                  refine At.run 1 rfl ?_
                                  refine At.y (Y.ixRd hr1_0 rfl rfl rfl rfl rfl rfl rfl h4999.1 h4999.2) rfl rfl rfl ?_
                                  refine At.y (Y.ldFl hr1_0 rfl (q := 0) rfl rfl h4999.1 h4999.2 rfl rfl rfl) rfl rfl rfl ?_
                                  refine At.lit rfl (xo := [.tmp 68]) (ys := ([(gt a1_0 x4109)] : List Int)) (Fl.int .i64) rfl rfl rfl rfl rfl rfl rfl rfl rfl rfl rfl (fun A5001 c5002 => ?_)
                                  obtain ⟨h5004, hrun⟩ := bnone hrun
                                  refine At.append rfl (.s .z) (Src.own .z (by simp)) rfl rfl rfl rfl rfl rfl rfl rfl h5004 (by decide) rfl (fun A5005 c5006 => ?_)
                                  refine At.drop (.s .z) ?_
                                  refine At.run 1 rfl ?_
                                  refine At.nil ?_
                                  refine At.ibn ?_
                                  refine At.thn ?_
                                  exact fun a w e hs => J4793 ((x4104 ++ ([(gt a1_0 x4109)] : List Int)), (x4104 ++ ([(gt a1_0 x4109)] : List Int)).length, A5005, c5006) ⟨hrun, rfl⟩ a w (e.sub ⟨rfl, rfl, rfl, rfl, rfl, rfl, trivial⟩) hs
                      · · refine At.condF rfl (decide_eq_false h4789) ?_
                          refine At.exit ?_
                          refine At.the ?_
                          refine At.the ?_
                          exact fun a w e hs => J4325 (x4104, x4104.length, w4107, w4108) ⟨(bdn hrun ho4320), rfl⟩ a w (e.sub ⟨rfl, rfl, rfl, rfl, rfl, trivial⟩) hs
              · · refine At.condF rfl (decide_eq_false h3497) ?_
                  refine At.skip ?_
                  refine At.thn ?_
                  refine At.seq ?_
                  refine At.region ?_
                  refine At.run 1 rfl ?_
                  refine At.nil ?_
                  refine At.thn ?_
                  refine At.seq ?_
                  refine At.seq ?_
                  refine At.region ?_
                  refine At.run 1 rfl ?_
                  refine At.nil ?_
                  refine At.thn ?_
                  refine At.block ?_
                  obtain ⟨G5824, hl5825, hr5826, hrun⟩ := bjoin hrun
                  obtain ⟨o5827, hlo5828, ho5829⟩ := bsome hrun
                  clear hrun
                  unfold bailifflaw16_JudgeSpoilt.l3 at hlo5828
                  obtain ⟨m5830, hit5832⟩ := iter_some.1 hlo5828
                  clear hlo5828
                  refine At.nilRow (Fl.int .i64) 3 ?_
                  refine At.loopJ (X := (List Int) × Int × Nat × (Option Addr) × Nat) (Y := (List Int) × Nat × (Option Addr) × Nat) (e0 := 0) (fun s_ => [(2, .int .i64 (Int.tmod a2 (a0_0.length : Int))), (3, .pointer (some ⟨b258, 0, none⟩)), (4, .pointer (some ⟨b259, 0, none⟩)), (9, .int .i64 1), (10, .slice s_.2.2.2.1 s_.2.2.1 s_.2.2.2.2), (11, .int .i64 s_.2.1)]) (fun s_ => row (Fl.int .i64) 3 s_.2.2.2.1 s_.2.2.1 s_.2.2.2.2 s_.1 :: pt b264 (.cells [.int .i64 t262.1, .int .i64 t262.2.1, .int .i64 t262.2.2].toArray 44) :: pt b259 (.cells [.slice A1_0 a1_0.length c1_0, .slice A1_1 a1_1.length c1_1, .slice A1_2 a1_2.length c1_2, .slice A1_3 a1_3.length c1_3].toArray 39) :: pt b258 (.cells [.slice A0_0 a0_0.length c0_0, .slice A0_1 a0_1.length c0_1, .slice A0_2 a0_2.length c0_2].toArray 36) :: Fr) (fun m_ => fun s_ => iterN (fun t_ : (List Int) × Int => bailifflaw16_JudgeSpoilt.l3b a0_0 a1_1 a2 t_.1 t_.2) m_ (s_.1, s_.2.1) = some o5827 ∧ s_.1.length = s_.2.2.1) m5830 (([] : List Int), 0, 0, none, 0) ⟨hit5832, rfl⟩ (fun s_ => [(2, .int .i64 (Int.tmod a2 (a0_0.length : Int))), (3, .pointer (some ⟨b258, 0, none⟩)), (4, .pointer (some ⟨b259, 0, none⟩)), (9, .int .i64 1), (10, .slice s_.2.2.1 s_.2.1 s_.2.2.2)]) (fun s_ => row (Fl.int .i64) 3 s_.2.2.1 s_.2.1 s_.2.2.2 s_.1 :: pt b264 (.cells [.int .i64 t262.1, .int .i64 t262.2.1, .int .i64 t262.2.2].toArray 44) :: pt b259 (.cells [.slice A1_0 a1_0.length c1_0, .slice A1_1 a1_1.length c1_1, .slice A1_2 a1_2.length c1_2, .slice A1_3 a1_3.length c1_3].toArray 39) :: pt b258 (.cells [.slice A0_0 a0_0.length c0_0, .slice A0_1 a0_1.length c0_1, .slice A0_2 a0_2.length c0_2].toArray 36) :: Fr) (fun s_ => G5824 (.inl s_.1) = some r ∧ s_.1.length = s_.2.1) (fun a w e hs => ⟨e.sub ⟨rfl, rfl, rfl, rfl, rfl, rfl, trivial⟩, hs⟩) ?_ (fun J5834 => ?_)
                  · rintro ⟨x5819, w5820, w5822, w5823⟩ ⟨hrun, hn5821⟩
                    obtain rfl : x5819.length = w5820 := hn5821
                    have hrun := (hl5825 _).symm.trans hrun
                    · refine At.ibx ?_
                      refine At.thn ?_
                      refine At.seq ?_
                      refine At.region ?_
                      refine At.y (Y.load rfl rfl (.s (.s .z)) rfl rfl rfl) rfl rfl rfl ?_
                      refine At.alloc rfl rfl rfl (fun b5835 => ?_)
                      refine At.store rfl rfl rfl rfl .z rfl rfl rfl (.c (.c (.c (.c .n)))) ?_
                      refine At.nil ?_
                      refine At.thn ?_
                      refine At.seq ?_
                      refine At.region ?_
                      refine At.run 3 rfl ?_
                      refine At.y (Y.ixArrK rfl rfl rfl rfl rfl (show (0 : Int) ≤ 1 ∧ (1 : Int) < 2 by decide).1 (show (0 : Int) ≤ 1 ∧ (1 : Int) < 2 by decide).2 (q := 1) (off := 1) rfl rfl) rfl rfl rfl ?_
                      refine At.store rfl rfl rfl rfl .z rfl rfl rfl (.s (.c .n)) ?_
                      refine At.nil ?_
                      refine At.thn ?_
                      refine At.seq ?_
                      refine At.region ?_
                      refine At.y (Y.load rfl rfl .z rfl rfl rfl) rfl rfl rfl ?_
                      refine At.alloc rfl rfl rfl (fun b5836 => ?_)
                      refine At.store rfl rfl rfl rfl .z rfl rfl rfl (.c (.c (.c (.c .n)))) ?_
                      refine At.nil ?_
                      refine At.thn ?_
                      refine At.seq ?_
                      refine At.region ?_
                      refine At.run 2 rfl ?_
                      refine At.lit rfl (xo := []) (ys := ([] : List Int)) (Fl.int .i64) rfl rfl rfl rfl rfl rfl rfl rfl rfl rfl rfl (fun A5837 c5838 => ?_)
                      refine At.run 3 rfl ?_
                      refine At.y (Y.ixArrK rfl rfl rfl rfl rfl (show (0 : Int) ≤ 0 ∧ (0 : Int) < 2 by decide).1 (show (0 : Int) ≤ 0 ∧ (0 : Int) < 2 by decide).2 (q := 0) (off := 0) rfl rfl) rfl rfl rfl ?_
                      refine At.y (Y.load rfl rfl (.s (.s (.s (.s (.s .z))))) rfl rfl rfl) rfl rfl rfl ?_
                      obtain ⟨h5840, hrun⟩ := bnone hrun
                      refine At.appendAll rfl .z (SrcE.rd hr1_0) rfl rfl rfl rfl rfl rfl rfl rfl rfl h5840 (by decide) rfl (fun A5841 c5842 => ?_)
                      refine At.run 1 rfl ?_
                      refine At.lit rfl (xo := [.tmp 86]) (ys := ([(Int.tmod a2 (a0_0.length : Int))] : List Int)) (Fl.int .i64) rfl rfl rfl rfl rfl rfl rfl rfl rfl rfl rfl (fun A5843 c5844 => ?_)
                      obtain ⟨h5846, hrun⟩ := bnone hrun
                      refine At.append rfl (.s .z) (Src.own .z (by simp)) rfl rfl rfl rfl rfl rfl rfl rfl h5846 (by decide) rfl (fun A5847 c5848 => ?_)
                      refine At.drop (.s .z) ?_
                      refine At.run 1 rfl ?_
                      refine At.y (Y.ixArrK rfl rfl rfl rfl rfl (show (0 : Int) ≤ 0 ∧ (0 : Int) < 2 by decide).1 (show (0 : Int) ≤ 0 ∧ (0 : Int) < 2 by decide).2 (q := 0) (off := 0) rfl rfl) rfl rfl rfl ?_
                      refine At.store rfl rfl rfl rfl (.s .z) rfl rfl rfl (.c .n) ?_
                      refine At.nil ?_
                      refine At.thn ?_
                      refine At.seq ?_
                      refine At.region ?_
                      refine At.y (Y.load rfl rfl (.s (.s (.s (.s (.s .z))))) rfl rfl rfl) rfl rfl rfl ?_
                      refine At.alloc rfl rfl rfl (fun b5849 => ?_)
                      refine At.store rfl rfl rfl rfl .z rfl rfl rfl (.c (.c (.c (.c .n)))) ?_
                      refine At.nil ?_
                      refine At.thn ?_
                      refine At.seq ?_
                      refine At.region ?_
                      refine At.run 1 rfl ?_
                      refine At.lit rfl (xo := []) (ys := ([] : List Int)) (Fl.int .i64) rfl rfl rfl rfl rfl rfl rfl rfl rfl rfl rfl (fun A5850 c5851 => ?_)
                      refine At.run 2 rfl ?_
                      refine At.y (Y.ixArrK rfl rfl rfl rfl rfl (show (0 : Int) ≤ 1 ∧ (1 : Int) < 2 by decide).1 (show (0 : Int) ≤ 1 ∧ (1 : Int) < 2 by decide).2 (q := 1) (off := 1) rfl rfl) rfl rfl rfl ?_
                      refine At.y (Y.load rfl rfl (.s (.s (.s (.s (.s (.s (.s .z))))))) rfl rfl rfl) rfl rfl rfl ?_
                      obtain ⟨h5853, hrun⟩ := bnone hrun
                      refine At.appendAll rfl .z (SrcE.rd hr1_1) rfl rfl rfl rfl rfl rfl rfl rfl rfl h5853 (by decide) rfl (fun A5854 c5855 => ?_)
                      refine At.run 1 rfl ?_
                      refine At.lit rfl (xo := [.tmp 99]) (ys := ([(Int.tmod a2 (a0_0.length : Int))] : List Int)) (Fl.int .i64) rfl rfl rfl rfl rfl rfl rfl rfl rfl rfl rfl (fun A5856 c5857 => ?_)
                      obtain ⟨h5859, hrun⟩ := bnone hrun
                      refine At.append rfl (.s .z) (Src.own .z (by simp)) rfl rfl rfl rfl rfl rfl rfl rfl h5859 (by decide) rfl (fun A5860 c5861 => ?_)
                      refine At.drop (.s .z) ?_
                      refine At.run 1 rfl ?_
                      refine At.y (Y.ixArrK rfl rfl rfl rfl rfl (show (0 : Int) ≤ 1 ∧ (1 : Int) < 2 by decide).1 (show (0 : Int) ≤ 1 ∧ (1 : Int) < 2 by decide).2 (q := 1) (off := 1) rfl rfl) rfl rfl rfl ?_
                      refine At.store rfl rfl rfl rfl (.s .z) rfl rfl rfl (.s (.c .n)) ?_
                      refine At.nil ?_
                      refine At.thn ?_
                      refine At.seq ?_
                      refine At.region ?_
                      refine At.y (Y.load rfl rfl (.s (.s (.s (.s (.s (.s (.s (.s .z)))))))) rfl rfl rfl) rfl rfl rfl ?_
                      refine At.y (Y.load rfl rfl (.s (.s .z)) rfl rfl rfl) rfl rfl rfl ?_
                      refine At.freeze (.s (.s (.s .z))) fun R5862 hr5863 hn5864 hc5865 hs5866 th5867 => ?_
                      refine At.freeze (.s (.s (.s (.s .z)))) fun R5868 hr5869 hn5870 hc5871 hs5872 th5873 => ?_
                      obtain ⟨t5874, hc5875, hrun⟩ := bbind hrun
                      refine At.call rfl judge_Judge.callee rfl rfl rfl (judge_Judge.spec _ _ A0_0 a0_0.length c0_0 A0_1 a0_1.length c0_1 A0_2 a0_2.length c0_2 A5847 (((([] : List Int) ++ a1_0) ++ ([(Int.tmod a2 (a0_0.length : Int))] : List Int)).length) c5848 w5822 x5819.length w5823 A1_2 a1_2.length c1_2 A1_3 a1_3.length c1_3 a0_0 a0_1 a0_2 ((([] : List Int) ++ a1_0) ++ ([(Int.tmod a2 (a0_0.length : Int))] : List Int)) x5819 a1_2 a1_3 (RdS.mono (hs5866.trans hs5872) hr0_0) rfl hc0_0 (RdS.mono (hs5866.trans hs5872) hr0_1) rfl hc0_1 (RdS.mono (hs5866.trans hs5872) hr0_2) rfl hc0_2 (RdS.mono hs5872 hr5863) hn5864 hc5865 hr5869 hn5870 hc5871 (RdS.mono (hs5866.trans hs5872) hr1_2) rfl hc1_2 (RdS.mono (hs5866.trans hs5872) hr1_3) rfl hc1_3 hc5875) ?_
                      rintro _ _ ⟨rfl, rfl⟩
                      refine At.run 3 rfl ?_
                      obtain ⟨G6077, hl6078, hr6079, hrun⟩ := bjoin hrun
                      refine At.joinO 7 (X := Bool) (fun x6076 => [(2, .int .i64 (Int.tmod a2 (a0_0.length : Int))), (3, .pointer (some ⟨b258, 0, none⟩)), (14, .pointer (some ⟨b5849, 0, none⟩)), (116, .bool x6076)]) (fun x6076 => pt b5849 (.cells [.slice A1_0 a1_0.length c1_0, .slice A5860 (((([] : List Int) ++ a1_1) ++ ([(Int.tmod a2 (a0_0.length : Int))] : List Int)).length) c5861, .slice A1_2 a1_2.length c1_2, .slice A1_3 a1_3.length c1_3].toArray 39) :: row (Fl.int .i64) 3 A5860 (((([] : List Int) ++ a1_1) ++ ([(Int.tmod a2 (a0_0.length : Int))] : List Int)).length) c5861 ((([] : List Int) ++ a1_1) ++ ([(Int.tmod a2 (a0_0.length : Int))] : List Int)) :: pt b5836 (.cells [.slice A5847 (((([] : List Int) ++ a1_0) ++ ([(Int.tmod a2 (a0_0.length : Int))] : List Int)).length) c5848, .slice w5822 x5819.length w5823, .slice A1_2 a1_2.length c1_2, .slice A1_3 a1_3.length c1_3].toArray 39) :: pt b5835 (.cells [.slice A1_0 a1_0.length c1_0, .slice w5822 x5819.length w5823, .slice A1_2 a1_2.length c1_2, .slice A1_3 a1_3.length c1_3].toArray 39) :: pt b264 (.cells [.int .i64 t262.1, .int .i64 t262.2.1, .int .i64 t262.2.2].toArray 44) :: pt b259 (.cells [.slice A1_0 a1_0.length c1_0, .slice A1_1 a1_1.length c1_1, .slice A1_2 a1_2.length c1_2, .slice A1_3 a1_3.length c1_3].toArray 39) :: pt b258 (.cells [.slice A0_0 a0_0.length c0_0, .slice A0_1 a0_1.length c0_1, .slice A0_2 a0_2.length c0_2].toArray 36) :: Fr) (fun x6076 => G6077 (.inl x6076) = some r) ?_ (fun J6080 => ?_)
                      · rintro x6076 hrun
                        have hrun := (hl6078 _).symm.trans hrun
                        · refine At.run 1 rfl ?_
                          obtain ⟨G6282, hl6283, hr6284, hrun⟩ := bjoin hrun
                          refine At.joinO 7 (X := Bool) (fun x6281 => [(124, .bool x6281)]) (fun x6281 => row (Fl.int .i64) 3 A5860 (((([] : List Int) ++ a1_1) ++ ([(Int.tmod a2 (a0_0.length : Int))] : List Int)).length) c5861 ((([] : List Int) ++ a1_1) ++ ([(Int.tmod a2 (a0_0.length : Int))] : List Int)) :: pt b5849 (.cells [.slice A1_0 a1_0.length c1_0, .slice A5860 (((([] : List Int) ++ a1_1) ++ ([(Int.tmod a2 (a0_0.length : Int))] : List Int)).length) c5861, .slice A1_2 a1_2.length c1_2, .slice A1_3 a1_3.length c1_3].toArray 39) :: pt b5836 (.cells [.slice A5847 (((([] : List Int) ++ a1_0) ++ ([(Int.tmod a2 (a0_0.length : Int))] : List Int)).length) c5848, .slice w5822 x5819.length w5823, .slice A1_2 a1_2.length c1_2, .slice A1_3 a1_3.length c1_3].toArray 39) :: pt b5835 (.cells [.slice A1_0 a1_0.length c1_0, .slice w5822 x5819.length w5823, .slice A1_2 a1_2.length c1_2, .slice A1_3 a1_3.length c1_3].toArray 39) :: pt b264 (.cells [.int .i64 t262.1, .int .i64 t262.2.1, .int .i64 t262.2.2].toArray 44) :: pt b259 (.cells [.slice A1_0 a1_0.length c1_0, .slice A1_1 a1_1.length c1_1, .slice A1_2 a1_2.length c1_2, .slice A1_3 a1_3.length c1_3].toArray 39) :: pt b258 (.cells [.slice A0_0 a0_0.length c0_0, .slice A0_1 a0_1.length c0_1, .slice A0_2 a0_2.length c0_2].toArray 36) :: Fr) (fun x6281 => G6282 (.inl x6281) = some r) ?_ (fun J6285 => ?_)
                          · rintro x6281 hrun
                            have hrun := (hl6283 _).symm.trans hrun
                            · refine At.run 1 rfl ?_
                              refine At.nil ?_
                              refine At.thn ?_
                              refine At.ret ?_
                              refine At.thaw th5873 ?_
                              refine At.thaw th5867 ?_
                              refine At.drop .z ?_
                              refine At.drop .z ?_
                              refine At.drop .z ?_
                              refine At.drop .z ?_
                              refine At.drop .z ?_
                              refine At.drop .z ?_
                              refine At.drop .z ?_
                              refine At.drop .z ?_
                              refine At.drop .z ?_
                              obtain rfl := (bret hrun).symm
                              exact At.res (.inl rfl) rfl rfl ⟨rfl, rfl⟩
                          · · rcases bite hrun with ⟨h6286, hrun⟩ | ⟨h6286, hrun⟩
                              · · refine At.know (t := 117) rfl h6286 ?_
                                  refine At.y (Y.load rfl rfl (.s (.s (.s (.s (.s (.s .z)))))) rfl rfl rfl) rfl rfl rfl ?_
                                  refine At.y (Y.load rfl rfl .z rfl rfl rfl) rfl rfl rfl ?_
                                  refine At.freeze (.s .z) fun R6287 hr6288 hn6289 hc6290 hs6291 th6292 => ?_
                                  obtain ⟨t6293, hc6294, hrun⟩ := bbind hrun
                                  refine At.call rfl judge_Judge.callee rfl rfl rfl (judge_Judge.spec _ _ A0_0 a0_0.length c0_0 A0_1 a0_1.length c0_1 A0_2 a0_2.length c0_2 A1_0 a1_0.length c1_0 A5860 (((([] : List Int) ++ a1_1) ++ ([(Int.tmod a2 (a0_0.length : Int))] : List Int)).length) c5861 A1_2 a1_2.length c1_2 A1_3 a1_3.length c1_3 a0_0 a0_1 a0_2 a1_0 ((([] : List Int) ++ a1_1) ++ ([(Int.tmod a2 (a0_0.length : Int))] : List Int)) a1_2 a1_3 (RdS.mono ((hs5866.trans hs5872).trans hs6291) hr0_0) rfl hc0_0 (RdS.mono ((hs5866.trans hs5872).trans hs6291) hr0_1) rfl hc0_1 (RdS.mono ((hs5866.trans hs5872).trans hs6291) hr0_2) rfl hc0_2 (RdS.mono ((hs5866.trans hs5872).trans hs6291) hr1_0) rfl hc1_0 hr6288 hn6289 hc6290 (RdS.mono ((hs5866.trans hs5872).trans hs6291) hr1_2) rfl hc1_2 (RdS.mono ((hs5866.trans hs5872).trans hs6291) hr1_3) rfl hc1_3 hc6294) ?_
                                  rintro _ _ ⟨rfl, rfl⟩
                                  refine At.run 1 rfl ?_
                                  refine At.y (Y.build (is := [0, 2]) (xo := [.const (.int .i64 19), .tmp 121]) (vs := [.int .i64 19, .int .i64 (Int.tmod a2 (a0_0.length : Int))]) (cs := [.int .i64 19, .int .i64 0, .int .i64 (Int.tmod a2 (a0_0.length : Int))]) rfl rfl rfl rfl rfl rfl) rfl rfl rfl ?_
                                  refine At.y (Y.eqSt (xs := [.int .i64 t6293.1, .int .i64 t6293.2.1, .int .i64 t6293.2.2]) (ys := [.int .i64 19, .int .i64 0, .int .i64 (Int.tmod a2 (a0_0.length : Int))]) rfl rfl rfl rfl (by kernel_rfl) (by kernel_rfl) (by kernel_rfl) rfl) rfl rfl rfl ?_
                                  refine At.run 1 rfl ?_
                                  refine At.thaw th6292 ?_
                                  exact At.of (J6285 (decide (t6293.1 = 19) && (decide (t6293.2.1 = 0) && (decide (t6293.2.2 = (Int.tmod a2 (a0_0.length : Int))) && true))) hrun) ⟨rfl, trivial⟩
                              · · refine At.know (t := 117) rfl (bn h6286) ?_
                                  refine At.run 7 rfl ?_
                                  refine At.frt (.s (.s (.s (.s (.s (.s .z)))))) ?_
                                  refine At.frt (.s (.s (.s (.s (.s (.s .z)))))) ?_
                                  refine At.frt (.s (.s (.s (.s (.s (.s .z)))))) ?_
                                  refine At.frt (.s (.s (.s (.s (.s (.s .z)))))) ?_
                                  refine At.frt (.s (.s (.s (.s (.s (.s .z)))))) ?_
                                  refine At.frt (.s (.s (.s (.s (.s .z))))) ?_
                                  refine At.frt (.s (.s (.s (.s (.s (.s .z)))))) ?_
                                  exact At.of (J6285 false hrun) ⟨rfl, trivial⟩
                      · · rcases bite hrun with ⟨h6295, hrun⟩ | ⟨h6295, hrun⟩
                          · · refine At.know (t := 109) rfl (nf (decide_eq_true h6295)) ?_
                              refine At.run 7 rfl ?_
                              exact At.of (J6080 false hrun) ⟨rfl, rfl, rfl, rfl, trivial⟩
                          · · refine At.know (t := 109) rfl (nt (decide_eq_false h6295)) ?_
                              refine At.y (Y.load rfl rfl (.s (.s (.s (.s (.s (.s .z)))))) rfl rfl rfl) rfl rfl rfl ?_
                              refine At.y (Y.load rfl rfl (.s (.s (.s .z))) rfl rfl rfl) rfl rfl rfl ?_
                              obtain ⟨t6296, hc6297, hrun⟩ := bbind hrun
                              refine At.call rfl judge_Judge.callee rfl rfl rfl (judge_Judge.spec _ _ A0_0 a0_0.length c0_0 A0_1 a0_1.length c0_1 A0_2 a0_2.length c0_2 A1_0 a1_0.length c1_0 w5822 x5819.length w5823 A1_2 a1_2.length c1_2 A1_3 a1_3.length c1_3 a0_0 a0_1 a0_2 a1_0 x5819 a1_2 a1_3 (RdS.mono (hs5866.trans hs5872) hr0_0) rfl hc0_0 (RdS.mono (hs5866.trans hs5872) hr0_1) rfl hc0_1 (RdS.mono (hs5866.trans hs5872) hr0_2) rfl hc0_2 (RdS.mono (hs5866.trans hs5872) hr1_0) rfl hc1_0 hr5869 hn5870 hc5871 (RdS.mono (hs5866.trans hs5872) hr1_2) rfl hc1_2 (RdS.mono (hs5866.trans hs5872) hr1_3) rfl hc1_3 hc6297) ?_
                              rintro _ _ ⟨rfl, rfl⟩
                              refine At.run 1 rfl ?_
                              refine At.y (Y.build (is := [0, 2]) (xo := [.const (.int .i64 19), .tmp 113]) (vs := [.int .i64 19, .int .i64 (Int.tmod a2 (a0_0.length : Int))]) (cs := [.int .i64 19, .int .i64 0, .int .i64 (Int.tmod a2 (a0_0.length : Int))]) rfl rfl rfl rfl rfl rfl) rfl rfl rfl ?_
                              refine At.y (Y.eqSt (xs := [.int .i64 t6296.1, .int .i64 t6296.2.1, .int .i64 t6296.2.2]) (ys := [.int .i64 19, .int .i64 0, .int .i64 (Int.tmod a2 (a0_0.length : Int))]) rfl rfl rfl rfl (by kernel_rfl) (by kernel_rfl) (by kernel_rfl) rfl) rfl rfl rfl ?_
                              refine At.run 1 rfl ?_
                              exact At.of (J6080 (decide (t6296.1 = 19) && (decide (t6296.2.1 = 0) && (decide (t6296.2.2 = (Int.tmod a2 (a0_0.length : Int))) && true))) hrun) ⟨rfl, rfl, rfl, rfl, trivial⟩
                  · clear hit5832 m5830
                    rintro m5830 ⟨x5613, x5618, w5614, w5616, w5617⟩ ⟨hit5832, hn5615⟩
                    obtain rfl : x5613.length = w5614 := hn5615
                    obtain ⟨m5831, f_, hlt5833, hf_, hrun⟩ := bit hit5832
                    clear hit5832
                    have hrun : (bailifflaw16_JudgeSpoilt.l3b a0_0 a1_1 a2 x5613 x5618).bind _ = some o5827 := hrun
                    unfold bailifflaw16_JudgeSpoilt.l3b at hrun
                    · refine At.seq ?_
                      refine At.seq ?_
                      refine At.region ?_
                      refine At.run 3 rfl ?_
                      refine At.y (Y.ixArrK rfl rfl rfl rfl rfl (show (0 : Int) ≤ 1 ∧ (1 : Int) < 2 by decide).1 (show (0 : Int) ≤ 1 ∧ (1 : Int) < 2 by decide).2 (q := 1) (off := 1) rfl rfl) rfl rfl rfl ?_
                      refine At.y (Y.load rfl rfl (.s (.s .z)) rfl rfl rfl) rfl rfl rfl ?_
                      refine At.run 2 rfl ?_
                      refine At.nil ?_
                      refine At.thn ?_
                      rcases bite hrun with ⟨h6298, hrun⟩ | ⟨h6298, hrun⟩
                      · · refine At.condT rfl (decide_eq_true h6298) ?_
                          refine At.skip ?_
                          refine At.thn ?_
                          refine At.seq ?_
                          obtain ⟨G6299, hl6300, hr6301, hrun⟩ := bjoin hrun
                          refine At.join (X := (List Int) × Nat × (Option Addr) × Nat) (fun s_ => [(2, .int .i64 (Int.tmod a2 (a0_0.length : Int))), (3, .pointer (some ⟨b258, 0, none⟩)), (4, .pointer (some ⟨b259, 0, none⟩)), (9, .int .i64 1), (10, .slice s_.2.2.1 s_.2.1 s_.2.2.2), (11, .int .i64 x5618)]) (fun s_ => row (Fl.int .i64) 3 s_.2.2.1 s_.2.1 s_.2.2.2 s_.1 :: pt b264 (.cells [.int .i64 t262.1, .int .i64 t262.2.1, .int .i64 t262.2.2].toArray 44) :: pt b259 (.cells [.slice A1_0 a1_0.length c1_0, .slice A1_1 a1_1.length c1_1, .slice A1_2 a1_2.length c1_2, .slice A1_3 a1_3.length c1_3].toArray 39) :: pt b258 (.cells [.slice A0_0 a0_0.length c0_0, .slice A0_1 a0_1.length c0_1, .slice A0_2 a0_2.length c0_2].toArray 36) :: Fr) (fun s_ => G6299 (.inl s_.1) = some o5827 ∧ s_.1.length = s_.2.1) ?_ (fun J6302 => ?_)
                          · rintro ⟨x6503, w6504, w6506, w6507⟩ ⟨hrun, hn6505⟩
                            obtain rfl : x6503.length = w6504 := hn6505
                            have hrun := (hl6300 _).symm.trans hrun
                            · refine At.region ?_
                              refine At.run 3 rfl ?_
                              refine At.nil ?_
                              have hrun := bnx hf_ hrun
                              exact fun a w e hs => ⟨m5831, (x6503, IntKind.i64.wrap (x5618 + 1), x6503.length, w6506, w6507), hlt5833, ⟨hrun, rfl⟩, e.sub ⟨rfl, rfl, rfl, rfl, rfl, rfl, trivial⟩, hs⟩
                          · · refine At.block ?_
                              refine At.seq ?_
                              refine At.region ?_
                              refine At.run 2 rfl ?_
                              refine At.y (Y.ixArrK rfl rfl rfl rfl rfl (show (0 : Int) ≤ 1 ∧ (1 : Int) < 2 by decide).1 (show (0 : Int) ≤ 1 ∧ (1 : Int) < 2 by decide).2 (q := 1) (off := 1) rfl rfl) rfl rfl rfl ?_
                              refine At.y (Y.load rfl rfl (.s (.s .z)) rfl rfl rfl) rfl rfl rfl ?_
                              refine At.run 1 rfl ?_
                              obtain ⟨h6508, hrun⟩ := bnone hrun
                              refine At.y (Y.ixRd hr1_1 rfl rfl rfl rfl rfl rfl rfl h6508.1 h6508.2) rfl rfl rfl ?_
                              refine At.y (Y.ldFl hr1_1 rfl (q := 0) rfl rfl h6508.1 h6508.2 rfl rfl rfl) rfl rfl rfl ?_
                              refine At.run 2 rfl ?_
                              refine At.nil ?_
                              refine At.thn ?_
                              rcases bite hrun with ⟨h6509, hrun⟩ | ⟨h6509, hrun⟩
                              · · refine At.condF rfl (nf (decide_eq_true h6509)) ?_
                                  refine At.skip ?_
                                  refine At.ibn ?_
                                  refine At.thn ?_
                                  exact fun a w e hs => J6302 (x5613, x5613.length, w5616, w5617) ⟨hrun, rfl⟩ a w (e.sub ⟨rfl, rfl, rfl, rfl, rfl, rfl, trivial⟩) hs
                              · · refine At.condT rfl (nt (decide_eq_false h6509)) ?_
                                  refine At.region ?_
                                  refine At.run 3 rfl ?_
                                  refine At.y (Y.ixArrK rfl rfl rfl rfl rfl (show (0 : Int) ≤ 1 ∧ (1 : Int) < 2 by decide).1 (show (0 : Int) ≤ 1 ∧ (1 : Int) < 2 by decide).2 (q := 1) (off := 1) rfl rfl) rfl rfl rfl ?_
                                  refine At.y (Y.load rfl rfl (.s (.s .z)) rfl rfl rfl) rfl rfl rfl ?_
                                  refine At.run 1 rfl ?_
                                  refine At.y (Y.ixRd hr1_1 rfl rfl rfl rfl rfl rfl rfl h6508.1 h6508.2) rfl rfl rfl ?_
                                  refine At.y (Y.ldFl hr1_1 rfl (q := 0) rfl rfl h6508.1 h6508.2 rfl rfl rfl) rfl rfl rfl ?_
                                  refine At.lit rfl (xo := [.tmp 68]) (ys := ([(gt a1_1 x5618)] : List Int)) (Fl.int .i64) rfl rfl rfl rfl rfl rfl rfl rfl rfl rfl rfl (fun A6510 c6511 => ?_)
                                  obtain ⟨h6513, hrun⟩ := bnone hrun
                                  refine At.append rfl (.s .z) (Src.own .z (by simp)) rfl rfl rfl rfl rfl rfl rfl rfl h6513 (by decide) rfl (fun A6514 c6515 => ?_)
                                  refine At.drop (.s .z) ?_
                                  refine At.run 1 rfl ?_
                                  refine At.nil ?_
                                  refine At.ibn ?_
                                  refine At.thn ?_
                                  exact fun a w e hs => J6302 ((x5613 ++ ([(gt a1_1 x5618)] : List Int)), (x5613 ++ ([(gt a1_1 x5618)] : List Int)).length, A6514, c6515) ⟨hrun, rfl⟩ a w (e.sub ⟨rfl, rfl, rfl, rfl, rfl, rfl, trivial⟩) hs
                      · · refine At.condF rfl (decide_eq_false h6298) ?_
                          refine At.exit ?_
                          refine At.the ?_
                          refine At.the ?_
                          exact fun a w e hs => J5834 (x5613, x5613.length, w5616, w5617) ⟨(bdn hrun ho5829), rfl⟩ a w (e.sub ⟨rfl, rfl, rfl, rfl, rfl, trivial⟩) hs
  · · rcases bite hrun with ⟨h6516, hrun⟩ | ⟨h6516, hrun⟩
      · · refine At.know (t := 21) rfl (nf h6516) ?_
          refine At.run 1 rfl ?_
          refine At.y (Y.load rfl rfl .z rfl rfl rfl) rfl rfl rfl ?_
          refine At.run 2 rfl ?_
          exact At.of (J469 (!(decide (t262.1 = 0))) hrun) ⟨rfl, rfl, rfl, rfl, rfl, trivial⟩
      · · refine At.know (t := 21) rfl (nt (bn h6516)) ?_
          refine At.run 4 rfl ?_
          exact At.of (J469 true hrun) ⟨rfl, rfl, rfl, rfl, rfl, trivial⟩

end Go.Bw
