/- Walks: what the functions of the program compute, told by plain functions, and that the calls come to them. Conditions: none. -/
import Derived.Test.YtmkidaijgdgcjaaBwTyx
import Derived.Test.YtmkidaijgdgcjaaProg
import Derived.Test.YtmkidaijgdgcjaaBwLay
import Derived.Test.YtmkidaijgdgcjaaBwSortI
import Derived.Test.YtmkidaijgdgcjaaBwSortF
import Derived.Deep.QuietTactic
import Derived.Test.YtmkidaijgdgcjaaBwJud
import Derived.Test.YtmkidaijgdgcjaaBwAgg
set_option linter.unusedVariables false
set_option linter.unusedSimpArgs false
set_option linter.unusedSectionVars false
namespace Go.Bw
open Go Go.RowKit Go.Proofs
noncomputable def bailifflaw16_JudgeBlind.l3b (a1_1 : List Int) (x4174 : List Int) (x4175 : Int) : Option (((List Int) × Int) ⊕ (((List Int)) ⊕ (Bool))) :=
  if x4175 < IntKind.i64.wrap (Int.tdiv ((((([] : List Int) ++ a1_1) ++ ([0] : List Int)).take (a1_1.length : Int).toNat).length : Int) 2) then
    if (0 : Int) ≤ IntKind.i64.wrap (IntKind.i64.wrap (((((([] : List Int) ++ a1_1) ++ ([0] : List Int)).take (a1_1.length : Int).toNat).length : Int) - 1) - x4175) ∧ IntKind.i64.wrap (IntKind.i64.wrap (((((([] : List Int) ++ a1_1) ++ ([0] : List Int)).take (a1_1.length : Int).toNat).length : Int) - 1) - x4175) < ((((([] : List Int) ++ a1_1) ++ ([0] : List Int)).take (a1_1.length : Int).toNat).length : Int) then
      if (0 : Int) ≤ x4175 ∧ x4175 < ((((([] : List Int) ++ a1_1) ++ ([0] : List Int)).take (a1_1.length : Int).toNat).length : Int) then
        nx ((st (st x4174 x4175 (gt x4174 (IntKind.i64.wrap (IntKind.i64.wrap (((((([] : List Int) ++ a1_1) ++ ([0] : List Int)).take (a1_1.length : Int).toNat).length : Int) - 1) - x4175)))) (IntKind.i64.wrap (IntKind.i64.wrap (((((([] : List Int) ++ a1_1) ++ ([0] : List Int)).take (a1_1.length : Int).toNat).length : Int) - 1) - x4175)) (gt x4174 x4175)), IntKind.i64.wrap (x4175 + 1))
      else none
    else none
  else
    dn (.inl x4174)
noncomputable def bailifflaw16_JudgeBlind.l3 (a1_1 : List Int) (x4174 : List Int) (x4175 : Int) : Option (((List Int)) ⊕ (Bool)) := iter (fun t_ : (List Int) × Int => bailifflaw16_JudgeBlind.l3b a1_1 t_.1 t_.2) (x4174, x4175)
noncomputable def bailifflaw16_JudgeBlind.l2b (a1_0 : List Int) (x3358 : List Int) (x3359 : Int) : Option (((List Int) × Int) ⊕ (((List Int)) ⊕ (Bool))) :=
  if x3359 < IntKind.i64.wrap (Int.tdiv ((((([] : List Int) ++ a1_0) ++ ([0] : List Int)).take (a1_0.length : Int).toNat).length : Int) 2) then
    if (0 : Int) ≤ IntKind.i64.wrap (IntKind.i64.wrap (((((([] : List Int) ++ a1_0) ++ ([0] : List Int)).take (a1_0.length : Int).toNat).length : Int) - 1) - x3359) ∧ IntKind.i64.wrap (IntKind.i64.wrap (((((([] : List Int) ++ a1_0) ++ ([0] : List Int)).take (a1_0.length : Int).toNat).length : Int) - 1) - x3359) < ((((([] : List Int) ++ a1_0) ++ ([0] : List Int)).take (a1_0.length : Int).toNat).length : Int) then
      if (0 : Int) ≤ x3359 ∧ x3359 < ((((([] : List Int) ++ a1_0) ++ ([0] : List Int)).take (a1_0.length : Int).toNat).length : Int) then
        nx ((st (st x3358 x3359 (gt x3358 (IntKind.i64.wrap (IntKind.i64.wrap (((((([] : List Int) ++ a1_0) ++ ([0] : List Int)).take (a1_0.length : Int).toNat).length : Int) - 1) - x3359)))) (IntKind.i64.wrap (IntKind.i64.wrap (((((([] : List Int) ++ a1_0) ++ ([0] : List Int)).take (a1_0.length : Int).toNat).length : Int) - 1) - x3359)) (gt x3358 x3359)), IntKind.i64.wrap (x3359 + 1))
      else none
    else none
  else
    dn (.inl x3358)
noncomputable def bailifflaw16_JudgeBlind.l2 (a1_0 : List Int) (x3358 : List Int) (x3359 : Int) : Option (((List Int)) ⊕ (Bool)) := iter (fun t_ : (List Int) × Int => bailifflaw16_JudgeBlind.l2b a1_0 t_.1 t_.2) (x3358, x3359)
noncomputable def bailifflaw16_JudgeBlind.l1b (a0_0 : List Int) (a1_1 : List Int) (t262 : Int × Int × Int) (t928 : Int × Int × Int) (x2344 : Int) : Option ((Int) ⊕ ((Unit) ⊕ (Bool))) :=
  if x2344 < ((((([] : List Int) ++ a1_1) ++ ([0] : List Int)).take (a1_1.length : Int).toNat).length : Int) then
    if (0 : Int) ≤ x2344 ∧ x2344 < ((((([] : List Int) ++ a1_1) ++ ([0] : List Int)).take (a1_1.length : Int).toNat).length : Int) then
      jn (
        if gt (((([] : List Int) ++ a1_1) ++ ([0] : List Int)).take (a1_1.length : Int).toNat) x2344 < 0 then
          some (.inl true)
        else
          some (.inl (decide ((a0_0.length : Int) ≤ gt (((([] : List Int) ++ a1_1) ++ ([0] : List Int)).take (a1_1.length : Int).toNat) x2344)))) (fun (x5238 : Bool) =>
        if x5238 = true then
          upL (some (decide (t928.1 = t262.1) && (decide (t928.2.1 = t262.2.1) && (decide (t928.2.2 = t262.2.2) && true))))
        else
          nx (IntKind.i64.wrap (x2344 + 1)))
    else none
  else
    dn (.inl ())
noncomputable def bailifflaw16_JudgeBlind.l1 (a0_0 : List Int) (a1_1 : List Int) (t262 : Int × Int × Int) (t928 : Int × Int × Int) (x2344 : Int) : Option ((Unit) ⊕ (Bool)) := iter (fun t_ : Int => bailifflaw16_JudgeBlind.l1b a0_0 a1_1 t262 t928 t_) x2344
noncomputable def bailifflaw16_JudgeBlind.l0b (a0_0 : List Int) (a1_0 : List Int) (t262 : Int × Int × Int) (t928 : Int × Int × Int) (x1531 : Int) : Option ((Int) ⊕ ((Unit) ⊕ (Bool))) :=
  if x1531 < ((((([] : List Int) ++ a1_0) ++ ([0] : List Int)).take (a1_0.length : Int).toNat).length : Int) then
    if (0 : Int) ≤ x1531 ∧ x1531 < ((((([] : List Int) ++ a1_0) ++ ([0] : List Int)).take (a1_0.length : Int).toNat).length : Int) then
      jn (
        if gt (((([] : List Int) ++ a1_0) ++ ([0] : List Int)).take (a1_0.length : Int).toNat) x1531 < 0 then
          some (.inl true)
        else
          some (.inl (decide ((a0_0.length : Int) ≤ gt (((([] : List Int) ++ a1_0) ++ ([0] : List Int)).take (a1_0.length : Int).toNat) x1531)))) (fun (x5447 : Bool) =>
        if x5447 = true then
          upL (some (decide (t928.1 = t262.1) && (decide (t928.2.1 = t262.2.1) && (decide (t928.2.2 = t262.2.2) && true))))
        else
          nx (IntKind.i64.wrap (x1531 + 1)))
    else none
  else
    dn (.inl ())
noncomputable def bailifflaw16_JudgeBlind.l0 (a0_0 : List Int) (a1_0 : List Int) (t262 : Int × Int × Int) (t928 : Int × Int × Int) (x1531 : Int) : Option ((Unit) ⊕ (Bool)) := iter (fun t_ : Int => bailifflaw16_JudgeBlind.l0b a0_0 a1_0 t262 t928 t_) x1531
noncomputable def bailifflaw16_JudgeBlind.l4b (a0_0 : List Int) (a1_1 : List Int) (a1_3 : List Int) (a2 : List Int) (x6056 : List Int) (x6057 : Int) : Option (((List Int) × Int) ⊕ (((List Int)) ⊕ (((List Int)) ⊕ (Bool)))) :=
  if x6057 < ((((([] : List Int) ++ a1_3) ++ ([0] : List Int)).take (a1_3.length : Int).toNat).length : Int) then
    jn (
      jn (
        if x6057 < (a0_0.length : Int) then
          if (0 : Int) ≤ x6057 ∧ x6057 < (a0_0.length : Int) then
            some (.inl (decide (gt a0_0 x6057 = 1)))
          else none
        else
          some (.inl false)) (fun (x6893 : Bool) =>
        jn (
          if x6893 = true then
            (bailiffref16_Count.f a1_1 x6057).bind fun t7108 =>
              some (.inl (decide (0 < t7108)))
          else
            some (.inl false)) (fun (x7098 : Bool) =>
          if x7098 = true then
            some (.inl x6056)
          else
            if ¬ (a2.length : Int) = 0 then
              if (0 : Int) ≤ (Int.tmod x6057 (a2.length : Int)) ∧ (Int.tmod x6057 (a2.length : Int)) < (a2.length : Int) then
                if (0 : Int) ≤ x6057 ∧ x6057 < ((((([] : List Int) ++ a1_3) ++ ([0] : List Int)).take (a1_3.length : Int).toNat).length : Int) then
                  some (.inl (st x6056 x6057 (gt a2 (Int.tmod x6057 (a2.length : Int)))))
                else none
              else none
            else none))) (fun (x6692 : List Int) =>
      nx (x6692, IntKind.i64.wrap (x6057 + 1)))
  else
    dn (.inl x6056)
noncomputable def bailifflaw16_JudgeBlind.l4 (a0_0 : List Int) (a1_1 : List Int) (a1_3 : List Int) (a2 : List Int) (x6056 : List Int) (x6057 : Int) : Option (((List Int)) ⊕ (((List Int)) ⊕ (Bool))) := iter (fun t_ : (List Int) × Int => bailifflaw16_JudgeBlind.l4b a0_0 a1_1 a1_3 a2 t_.1 t_.2) (x6056, x6057)
noncomputable def bailifflaw16_JudgeBlind.l5b (a0_0 : List Int) (a1_0 : List Int) (a1_2 : List Int) (a2 : List Int) (x7714 : List Int) (x7715 : Int) : Option (((List Int) × Int) ⊕ (((List Int)) ⊕ (((List Int)) ⊕ (Bool)))) :=
  if x7715 < ((((([] : List Int) ++ a1_2) ++ ([0] : List Int)).take (a1_2.length : Int).toNat).length : Int) then
    jn (
      jn (
        if x7715 < (a0_0.length : Int) then
          if (0 : Int) ≤ x7715 ∧ x7715 < (a0_0.length : Int) then
            some (.inl (decide (gt a0_0 x7715 = 0)))
          else none
        else
          some (.inl false)) (fun (x8551 : Bool) =>
        jn (
          if x8551 = true then
            (bailiffref16_Count.f a1_0 x7715).bind fun t8766 =>
              some (.inl (decide (0 < t8766)))
          else
            some (.inl false)) (fun (x8756 : Bool) =>
          if x8756 = true then
            some (.inl x7714)
          else
            if ¬ (a2.length : Int) = 0 then
              if (0 : Int) ≤ (Int.tmod x7715 (a2.length : Int)) ∧ (Int.tmod x7715 (a2.length : Int)) < (a2.length : Int) then
                if (0 : Int) ≤ x7715 ∧ x7715 < ((((([] : List Int) ++ a1_2) ++ ([0] : List Int)).take (a1_2.length : Int).toNat).length : Int) then
                  some (.inl (st x7714 x7715 (gt a2 (Int.tmod x7715 (a2.length : Int)))))
                else none
              else none
            else none))) (fun (x8350 : List Int) =>
      nx (x8350, IntKind.i64.wrap (x7715 + 1)))
  else
    dn (.inl x7714)
noncomputable def bailifflaw16_JudgeBlind.l5 (a0_0 : List Int) (a1_0 : List Int) (a1_2 : List Int) (a2 : List Int) (x7714 : List Int) (x7715 : Int) : Option (((List Int)) ⊕ (((List Int)) ⊕ (Bool))) := iter (fun t_ : (List Int) × Int => bailifflaw16_JudgeBlind.l5b a0_0 a1_0 a1_2 a2 t_.1 t_.2) (x7714, x7715)
noncomputable def bailifflaw16_JudgeBlind.f (a0_0 : List Int) (a0_1 : List Int) (a0_2 : List (List Int)) (a1_0 : List Int) (a1_1 : List Int) (a1_2 : List Int) (a1_3 : List Int) (a2 : List Int) : Option Bool :=
  (bailifflaw16_shown.f ).bind fun t260 =>
    (judge_Judge.f a0_0 a0_1 a0_2 a1_0 a1_1 a1_2 a1_3).bind fun t262 =>
      jn (
        if t260 = true then
          some (.inl (decide ((a2.length : Int) = 0)))
        else
          some (.inl true)) (fun (x465 : Bool) =>
        if x465 = true then
          some t260
        else
          (bailifflaw16_lent.f a1_0 a1_1 a1_2 a1_3).bind fun t471 =>
            jn (
              jn (bailifflaw16_JudgeBlind.l5 a0_0 a1_0 a1_2 a2 (((([] : List Int) ++ a1_2) ++ ([0] : List Int)).take (a1_2.length : Int).toNat) 0) (fun (x7916 : List Int) =>
                if (a0_0.length : Int) ≤ ((((([] : List Int) ++ a1_2) ++ ([0] : List Int)).take (a1_2.length : Int).toNat).length : Int) then
                  if (0 : Int) ≤ 0 ∧ 0 < (a2.length : Int) then
                    if ((((([] : List Int) ++ a1_2) ++ ([0] : List Int)).take (a1_2.length : Int).toNat).length + ([(gt a2 0)] : List Int).length) * 8 ≤ 140737488355328 then
                      some (.inl (x7916 ++ ([(gt a2 0)] : List Int)))
                    else none
                  else none
                else
                  some (.inl x7916))) (fun (x690 : List Int) =>
              jn (
                jn (bailifflaw16_JudgeBlind.l4 a0_0 a1_1 a1_3 a2 (((([] : List Int) ++ a1_3) ++ ([0] : List Int)).take (a1_3.length : Int).toNat) 0) (fun (x6258 : List Int) =>
                  if (a0_0.length : Int) ≤ ((((([] : List Int) ++ a1_3) ++ ([0] : List Int)).take (a1_3.length : Int).toNat).length : Int) then
                    if (0 : Int) ≤ 0 ∧ 0 < (a2.length : Int) then
                      if ((((([] : List Int) ++ a1_3) ++ ([0] : List Int)).take (a1_3.length : Int).toNat).length + ([(gt a2 0)] : List Int).length) * 8 ≤ 140737488355328 then
                        some (.inl (x6258 ++ ([(gt a2 0)] : List Int)))
                      else none
                    else none
                  else
                    some (.inl x6258))) (fun (x899 : List Int) =>
                (judge_Judge.f a0_0 a0_1 a0_2 (((([] : List Int) ++ a1_0) ++ ([0] : List Int)).take (a1_0.length : Int).toNat) (((([] : List Int) ++ a1_1) ++ ([0] : List Int)).take (a1_1.length : Int).toNat) x690 x899).bind fun t928 =>
                  jn (bailifflaw16_JudgeBlind.l0 a0_0 a1_0 t262 t928 0) (fun (_ : Unit) =>
                    jn (bailifflaw16_JudgeBlind.l1 a0_0 a1_1 t262 t928 0) (fun (_ : Unit) =>
                      jn (bailifflaw16_JudgeBlind.l2 a1_0 (((([] : List Int) ++ a1_0) ++ ([0] : List Int)).take (a1_0.length : Int).toNat) 0) (fun (x3560 : List Int) =>
                        jn (bailifflaw16_JudgeBlind.l3 a1_1 (((([] : List Int) ++ a1_1) ++ ([0] : List Int)).take (a1_1.length : Int).toNat) 0) (fun (x4376 : List Int) =>
                          jn (
                            if (decide (t928.1 = t262.1) && (decide (t928.2.1 = t262.2.1) && (decide (t928.2.2 = t262.2.2) && true))) = true then
                              (judge_Judge.f a0_0 a0_1 a0_2 x3560 x4376 x690 x899).bind fun t4618 =>
                                some (.inl (decide (t4618.1 = t262.1) && (decide (t4618.2.1 = t262.2.1) && (decide (t4618.2.2 = t262.2.2) && true))))
                            else
                              some (.inl false)) (fun (x4612 : Bool) =>
                            some x4612))))))))
theorem bailifflaw16_JudgeBlind.callee : Callee Go.Proofs.Try.prog 10 := ⟨_, Go.Proofs.Try.func10, by kernel_rfl, by kernel_rfl⟩
set_option maxRecDepth 100000 in
set_option maxHeartbeats 2000000 in
theorem bailifflaw16_JudgeBlind.spec (R : Res) (Fr : List HProp) (A0_0 : Option Addr) (n0_0 : Nat) (c0_0 : Nat) (A0_1 : Option Addr) (n0_1 : Nat) (c0_1 : Nat) (A0_2 : Option Addr) (n0_2 : Nat) (c0_2 : Nat) (A1_0 : Option Addr) (n1_0 : Nat) (c1_0 : Nat) (A1_1 : Option Addr) (n1_1 : Nat) (c1_1 : Nat) (A1_2 : Option Addr) (n1_2 : Nat) (c1_2 : Nat) (A1_3 : Option Addr) (n1_3 : Nat) (c1_3 : Nat) (A2 : Option Addr) (n2 : Nat) (c2 : Nat) (a0_0 : List Int) (a0_1 : List Int) (a0_2 : List (List Int)) (a1_0 : List Int) (a1_1 : List Int) (a1_2 : List Int) (a1_3 : List Int) (a2 : List Int) (hr0_0 : RdS (Fl.int .i64).rep R.heap A0_0 a0_0) (hn0_0 : a0_0.length = n0_0) (hc0_0 : n0_0 ≤ c0_0) (hr0_1 : RdS (Fl.int .i64).rep R.heap A0_1 a0_1) (hn0_1 : a0_1.length = n0_1) (hc0_1 : n0_1 ≤ c0_1) (hr0_2 : RdS ((Fl.int .i64).rep).slice R.heap A0_2 a0_2) (hn0_2 : a0_2.length = n0_2) (hc0_2 : n0_2 ≤ c0_2) (hr1_0 : RdS (Fl.int .i64).rep R.heap A1_0 a1_0) (hn1_0 : a1_0.length = n1_0) (hc1_0 : n1_0 ≤ c1_0) (hr1_1 : RdS (Fl.int .i64).rep R.heap A1_1 a1_1) (hn1_1 : a1_1.length = n1_1) (hc1_1 : n1_1 ≤ c1_1) (hr1_2 : RdS (Fl.int .i64).rep R.heap A1_2 a1_2) (hn1_2 : a1_2.length = n1_2) (hc1_2 : n1_2 ≤ c1_2) (hr1_3 : RdS (Fl.int .i64).rep R.heap A1_3 a1_3) (hn1_3 : a1_3.length = n1_3) (hc1_3 : n1_3 ≤ c1_3) (hr2 : RdS (Fl.int .i64).rep R.heap A2 a2) (hn2 : a2.length = n2) (hc2 : n2 ≤ c2) {r : Bool} (hrun : bailifflaw16_JudgeBlind.f a0_0 a0_1 a0_2 a1_0 a1_1 a1_2 a1_3 a2 = some r) :
    Spec Go.Proofs.Try.prog 10 [.agg #[.slice A0_0 n0_0 c0_0, .slice A0_1 n0_1 c0_1, .slice A0_2 n0_2 c0_2], .agg #[.slice A1_0 n1_0 c1_0, .slice A1_1 n1_1 c1_1, .slice A1_2 n1_2 c1_2, .slice A1_3 n1_3 c1_3], .slice A2 n2 c2] R (Fr) (fun v l' => v = .bool r ∧ Fr = l') := by
  subst hn0_0
  subst hn0_1
  subst hn0_2
  subst hn1_0
  subst hn1_1
  subst hn1_2
  subst hn1_3
  subst hn2
  refine Spec.of Go.Proofs.Try.func10 rfl rfl ?_
  unfold bailifflaw16_JudgeBlind.f at hrun
  have hrun := brun hrun
  refine At.seq ?_
  refine At.region ?_
  refine At.box rfl rfl (cs := [.slice A0_0 a0_0.length c0_0, .slice A0_1 a0_1.length c0_1, .slice A0_2 a0_2.length c0_2]) rfl rfl (fun b258 => ?_)
  refine At.box rfl rfl (cs := [.slice A1_0 a1_0.length c1_0, .slice A1_1 a1_1.length c1_1, .slice A1_2 a1_2.length c1_2, .slice A1_3 a1_3.length c1_3]) rfl rfl (fun b259 => ?_)
  refine At.run 1 rfl ?_
  refine At.nil ?_
  refine At.thn ?_
  refine At.seq ?_
  refine At.region ?_
  obtain ⟨t260, hc261, hrun⟩ := bbind hrun
  refine At.call rfl bailifflaw16_shown.callee rfl rfl rfl (bailifflaw16_shown.spec _ _    hc261) ?_
  rintro _ _ ⟨rfl, rfl⟩
  refine At.run 1 rfl ?_
  refine At.nil ?_
  refine At.thn ?_
  refine At.seq ?_
  refine At.region ?_
  refine At.y (Y.load rfl rfl (.s .z) rfl rfl rfl) rfl rfl rfl ?_
  refine At.y (Y.load rfl rfl .z rfl rfl rfl) rfl rfl rfl ?_
  obtain ⟨t262, hc263, hrun⟩ := bbind hrun
  refine At.call rfl judge_Judge.callee rfl rfl rfl (judge_Judge.spec _ _ A0_0 a0_0.length c0_0 A0_1 a0_1.length c0_1 A0_2 a0_2.length c0_2 A1_0 a1_0.length c1_0 A1_1 a1_1.length c1_1 A1_2 a1_2.length c1_2 A1_3 a1_3.length c1_3 a0_0 a0_1 a0_2 a1_0 a1_1 a1_2 a1_3 hr0_0 rfl hc0_0 hr0_1 rfl hc0_1 hr0_2 rfl hc0_2 hr1_0 rfl hc1_0 hr1_1 rfl hc1_1 hr1_2 rfl hc1_2 hr1_3 rfl hc1_3 hc263) ?_
  rintro _ _ ⟨rfl, rfl⟩
  refine At.alloc rfl rfl rfl (fun b264 => ?_)
  refine At.store rfl rfl rfl rfl .z rfl rfl rfl (.c (.c (.c .n))) ?_
  refine At.nil ?_
  refine At.thn ?_
  refine At.seq ?_
  refine At.seq ?_
  refine At.region ?_
  refine At.run 3 rfl ?_
  obtain ⟨G466, hl467, hr468, hrun⟩ := bjoin hrun
  refine At.joinO 4 (X := Bool) (fun x465 => [(2, .slice A2 a2.length c2), (3, .pointer (some ⟨b258, 0, none⟩)), (4, .pointer (some ⟨b259, 0, none⟩)), (7, .bool t260), (8, .pointer (some ⟨b264, 0, none⟩)), (30, .bool x465)]) (fun x465 => pt b264 (.cells [.int .i64 t262.1, .int .i64 t262.2.1, .int .i64 t262.2.2].toArray 44) :: pt b259 (.cells [.slice A1_0 a1_0.length c1_0, .slice A1_1 a1_1.length c1_1, .slice A1_2 a1_2.length c1_2, .slice A1_3 a1_3.length c1_3].toArray 39) :: pt b258 (.cells [.slice A0_0 a0_0.length c0_0, .slice A0_1 a0_1.length c0_1, .slice A0_2 a0_2.length c0_2].toArray 36) :: Fr) (fun x465 => G466 (.inl x465) = some r) ?_ (fun J469 => ?_)
  · rintro x465 hrun
    have hrun := (hl467 _).symm.trans hrun
    · refine At.nil ?_
      refine At.thn ?_
      rcases bite hrun with ⟨h470, hrun⟩ | ⟨h470, hrun⟩
      · · refine At.condT rfl h470 ?_
          refine At.seq ?_
          refine At.region ?_
          refine At.run 2 rfl ?_
          refine At.nil ?_
          refine At.thn ?_
          refine At.ret ?_
          refine At.thr ?_
          refine At.drop .z ?_
          refine At.drop .z ?_
          refine At.drop .z ?_
          obtain rfl := (bret hrun).symm
          exact At.res (.inl rfl) rfl rfl ⟨rfl, rfl⟩
      · · refine At.condF rfl (bn h470) ?_
          refine At.skip ?_
          refine At.thn ?_
          refine At.seq ?_
          refine At.region ?_
          refine At.y (Y.load rfl rfl (.s .z) rfl rfl rfl) rfl rfl rfl ?_
          obtain ⟨t471, hc472, hrun⟩ := bbind hrun
          refine At.call rfl bailifflaw16_lent.callee rfl rfl rfl (bailifflaw16_lent.spec _ _ A1_0 a1_0.length c1_0 A1_1 a1_1.length c1_1 A1_2 a1_2.length c1_2 A1_3 a1_3.length c1_3 a1_0 a1_1 a1_2 a1_3 hr1_0 rfl hc1_0 hr1_1 rfl hc1_1 hr1_2 rfl hc1_2 hr1_3 rfl hc1_3 hc472) ?_
          rintro _ _ ⟨w473, w474, w475, w476, w477, w478, w479, w480, rfl, rfl⟩
          refine At.alloc rfl rfl rfl (fun b485 => ?_)
          refine At.store rfl rfl rfl rfl .z rfl rfl rfl (.c (.c (.c (.c .n)))) ?_
          refine At.nil ?_
          refine At.thn ?_
          refine At.seq ?_
          refine At.seq ?_
          refine At.region ?_
          refine At.run 1 rfl ?_
          refine At.nil ?_
          refine At.thn ?_
          refine At.block ?_
          refine At.rounds 3 ?_
          refine At.round ?_
          refine At.seq ?_
          refine At.seq ?_
          refine At.region ?_
          refine At.run 2 rfl ?_
          refine At.nil ?_
          refine At.thn ?_
          refine At.condT rfl rfl ?_
          refine At.skip ?_
          refine At.thn ?_
          refine At.seq ?_
          obtain ⟨G486, hl487, hr488, hrun⟩ := bjoin hrun
          refine At.join (X := (List Int) × Nat × (Option Addr) × Nat) (fun s_ => [(2, .slice A2 a2.length c2), (3, .pointer (some ⟨b258, 0, none⟩)), (4, .pointer (some ⟨b259, 0, none⟩)), (8, .pointer (some ⟨b264, 0, none⟩)), (9, .pointer (some ⟨b485, 0, none⟩)), (10, .int .i64 0)]) (fun s_ => pt b485 (.cells [.slice w479 ((((([] : List Int) ++ a1_0) ++ ([0] : List Int)).take (a1_0.length : Int).toNat).length) w480, .slice w475 ((((([] : List Int) ++ a1_1) ++ ([0] : List Int)).take (a1_1.length : Int).toNat).length) w476, .slice s_.2.2.1 s_.2.1 s_.2.2.2, .slice w473 ((((([] : List Int) ++ a1_3) ++ ([0] : List Int)).take (a1_3.length : Int).toNat).length) w474].toArray 39) :: row (Fl.int .i64) 3 s_.2.2.1 s_.2.1 s_.2.2.2 s_.1 :: row (Fl.int .i64) 3 w479 ((((([] : List Int) ++ a1_0) ++ ([0] : List Int)).take (a1_0.length : Int).toNat).length) w480 (((([] : List Int) ++ a1_0) ++ ([0] : List Int)).take (a1_0.length : Int).toNat) :: row (Fl.int .i64) 3 w475 ((((([] : List Int) ++ a1_1) ++ ([0] : List Int)).take (a1_1.length : Int).toNat).length) w476 (((([] : List Int) ++ a1_1) ++ ([0] : List Int)).take (a1_1.length : Int).toNat) :: row (Fl.int .i64) 3 w473 ((((([] : List Int) ++ a1_3) ++ ([0] : List Int)).take (a1_3.length : Int).toNat).length) w474 (((([] : List Int) ++ a1_3) ++ ([0] : List Int)).take (a1_3.length : Int).toNat) :: pt b264 (.cells [.int .i64 t262.1, .int .i64 t262.2.1, .int .i64 t262.2.2].toArray 44) :: pt b259 (.cells [.slice A1_0 a1_0.length c1_0, .slice A1_1 a1_1.length c1_1, .slice A1_2 a1_2.length c1_2, .slice A1_3 a1_3.length c1_3].toArray 39) :: pt b258 (.cells [.slice A0_0 a0_0.length c0_0, .slice A0_1 a0_1.length c0_1, .slice A0_2 a0_2.length c0_2].toArray 36) :: Fr) (fun s_ => G486 (.inl s_.1) = some r ∧ s_.1.length = s_.2.1) ?_ (fun J489 => ?_)
          · rintro ⟨x690, w691, w693, w694⟩ ⟨hrun, hn692⟩
            obtain rfl : x690.length = w691 := hn692
            have hrun := (hl487 _).symm.trans hrun
            · refine At.region ?_
              refine At.run 3 rfl ?_
              refine At.nil ?_
              refine At.thn ?_
              refine At.round ?_
              refine At.seq ?_
              refine At.seq ?_
              refine At.region ?_
              refine At.run 2 rfl ?_
              refine At.nil ?_
              refine At.thn ?_
              refine At.condT rfl rfl ?_
              refine At.skip ?_
              refine At.thn ?_
              refine At.seq ?_
              obtain ⟨G695, hl696, hr697, hrun⟩ := bjoin hrun
              refine At.join (X := (List Int) × Nat × (Option Addr) × Nat) (fun s_ => [(2, .slice A2 a2.length c2), (3, .pointer (some ⟨b258, 0, none⟩)), (4, .pointer (some ⟨b259, 0, none⟩)), (8, .pointer (some ⟨b264, 0, none⟩)), (9, .pointer (some ⟨b485, 0, none⟩)), (10, .int .i64 1)]) (fun s_ => pt b485 (.cells [.slice w479 ((((([] : List Int) ++ a1_0) ++ ([0] : List Int)).take (a1_0.length : Int).toNat).length) w480, .slice w475 ((((([] : List Int) ++ a1_1) ++ ([0] : List Int)).take (a1_1.length : Int).toNat).length) w476, .slice w693 x690.length w694, .slice s_.2.2.1 s_.2.1 s_.2.2.2].toArray 39) :: row (Fl.int .i64) 3 s_.2.2.1 s_.2.1 s_.2.2.2 s_.1 :: row (Fl.int .i64) 3 w693 x690.length w694 x690 :: row (Fl.int .i64) 3 w479 ((((([] : List Int) ++ a1_0) ++ ([0] : List Int)).take (a1_0.length : Int).toNat).length) w480 (((([] : List Int) ++ a1_0) ++ ([0] : List Int)).take (a1_0.length : Int).toNat) :: row (Fl.int .i64) 3 w475 ((((([] : List Int) ++ a1_1) ++ ([0] : List Int)).take (a1_1.length : Int).toNat).length) w476 (((([] : List Int) ++ a1_1) ++ ([0] : List Int)).take (a1_1.length : Int).toNat) :: pt b264 (.cells [.int .i64 t262.1, .int .i64 t262.2.1, .int .i64 t262.2.2].toArray 44) :: pt b259 (.cells [.slice A1_0 a1_0.length c1_0, .slice A1_1 a1_1.length c1_1, .slice A1_2 a1_2.length c1_2, .slice A1_3 a1_3.length c1_3].toArray 39) :: pt b258 (.cells [.slice A0_0 a0_0.length c0_0, .slice A0_1 a0_1.length c0_1, .slice A0_2 a0_2.length c0_2].toArray 36) :: Fr) (fun s_ => G695 (.inl s_.1) = some r ∧ s_.1.length = s_.2.1) ?_ (fun J698 => ?_)
              · rintro ⟨x899, w900, w902, w903⟩ ⟨hrun, hn901⟩
                obtain rfl : x899.length = w900 := hn901
                have hrun := (hl696 _).symm.trans hrun
                · refine At.region ?_
                  refine At.run 3 rfl ?_
                  refine At.nil ?_
                  refine At.thn ?_
                  refine At.round ?_
                  refine At.seq ?_
                  refine At.seq ?_
                  refine At.region ?_
                  refine At.run 2 rfl ?_
                  refine At.nil ?_
                  refine At.thn ?_
                  refine At.condF rfl rfl ?_
                  refine At.exit ?_
                  refine At.the ?_
                  refine At.the ?_
                  refine At.ibx ?_
                  refine At.thn ?_
                  refine At.seq ?_
                  refine At.freeze (.s (.s (.s .z))) fun R904 hr905 hn906 hc907 hs908 th909 => ?_
                  refine At.freeze (.s (.s (.s .z))) fun R910 hr911 hn912 hc913 hs914 th915 => ?_
                  refine At.freeze (.s (.s .z)) fun R916 hr917 hn918 hc919 hs920 th921 => ?_
                  refine At.freeze (.s .z) fun R922 hr923 hn924 hc925 hs926 th927 => ?_
                  refine At.quiet (by kernel_rfl) ?_
                  refine At.Quiet.y (Y.load rfl rfl (.s (.s (.s .z))) rfl rfl rfl) rfl rfl rfl ?_
                  refine At.Quiet.y (Y.load rfl rfl .z rfl rfl rfl) rfl rfl rfl ?_
                  obtain ⟨t928, hc929, hrun⟩ := bbind hrun
                  refine At.Quiet.call rfl judge_Judge.callee rfl rfl rfl (judge_Judge.spec _ _ A0_0 a0_0.length c0_0 A0_1 a0_1.length c0_1 A0_2 a0_2.length c0_2 w479 ((((([] : List Int) ++ a1_0) ++ ([0] : List Int)).take (a1_0.length : Int).toNat).length) w480 w475 ((((([] : List Int) ++ a1_1) ++ ([0] : List Int)).take (a1_1.length : Int).toNat).length) w476 w693 x690.length w694 w902 x899.length w903 a0_0 a0_1 a0_2 (((([] : List Int) ++ a1_0) ++ ([0] : List Int)).take (a1_0.length : Int).toNat) (((([] : List Int) ++ a1_1) ++ ([0] : List Int)).take (a1_1.length : Int).toNat) x690 x899 (RdS.mono (((hs908.trans hs914).trans hs920).trans hs926) hr0_0) rfl hc0_0 (RdS.mono (((hs908.trans hs914).trans hs920).trans hs926) hr0_1) rfl hc0_1 (RdS.mono (((hs908.trans hs914).trans hs920).trans hs926) hr0_2) rfl hc0_2 (RdS.mono ((hs914.trans hs920).trans hs926) hr905) hn906 hc907 (RdS.mono (hs920.trans hs926) hr911) hn912 hc913 (RdS.mono hs926 hr917) hn918 hc919 hr923 hn924 hc925 hc929) (fun _ _ h_ => ⟨h_.1, fun _ hs => h_.2 ▸ hs⟩) ?_
                  refine At.Quiet.y (Y.load rfl rfl (.s .z) rfl rfl rfl) rfl rfl rfl ?_
                  refine At.Quiet.y (Y.eqSt (xs := [.int .i64 t928.1, .int .i64 t928.2.1, .int .i64 t928.2.2]) (ys := [.int .i64 t262.1, .int .i64 t262.2.1, .int .i64 t262.2.2]) rfl rfl rfl rfl (by kernel_rfl) (by kernel_rfl) (by kernel_rfl) rfl) rfl rfl rfl ?_
                  refine At.Quiet.run 1 rfl ?_
                  refine At.Quiet.nil ?_
                  refine At.thn ?_
                  refine At.seq ?_
                  refine At.seq ?_
                  refine At.region ?_
                  refine At.run 1 rfl ?_
                  refine At.nil ?_
                  refine At.thn ?_
                  refine At.block ?_
                  refine At.rounds 3 ?_
                  refine At.round ?_
                  refine At.seq ?_
                  refine At.seq ?_
                  refine At.region ?_
                  refine At.run 2 rfl ?_
                  refine At.nil ?_
                  refine At.thn ?_
                  refine At.condT rfl rfl ?_
                  refine At.skip ?_
                  refine At.thn ?_
                  refine At.seq ?_
                  refine At.block ?_
                  refine At.seq ?_
                  refine At.region ?_
                  refine At.run 2 rfl ?_
                  refine At.y (Y.ixArrK rfl rfl rfl rfl rfl (show (0 : Int) ≤ 0 ∧ (0 : Int) < 2 by decide).1 (show (0 : Int) ≤ 0 ∧ (0 : Int) < 2 by decide).2 (q := 0) (off := 0) rfl rfl) rfl rfl rfl ?_
                  refine At.y (Y.load rfl rfl .z rfl rfl rfl) rfl rfl rfl ?_
                  refine At.run 1 rfl ?_
                  refine At.nil ?_
                  refine At.thn ?_
                  refine At.seq ?_
                  refine At.region ?_
                  refine At.run 1 rfl ?_
                  refine At.nil ?_
                  refine At.thn ?_
                  refine At.block ?_
                  obtain ⟨G1732, hl1733, hr1734, hrun⟩ := bjoin hrun
                  obtain ⟨o1735, hlo1736, ho1737⟩ := bsome hrun
                  clear hrun
                  unfold bailifflaw16_JudgeBlind.l0 at hlo1736
                  obtain ⟨m1738, hit1740⟩ := iter_some.1 hlo1736
                  clear hlo1736
                  refine At.loopJ (X := Int) (Y := Unit) (e0 := 6) (fun x1531 => [(3, .pointer (some ⟨b258, 0, none⟩)), (8, .pointer (some ⟨b264, 0, none⟩)), (9, .pointer (some ⟨b485, 0, none⟩)), (13, .bool (decide (t928.1 = t262.1) && (decide (t928.2.1 = t262.2.1) && (decide (t928.2.2 = t262.2.2) && true)))), (14, .int .i64 0), (15, .slice w479 ((((([] : List Int) ++ a1_0) ++ ([0] : List Int)).take (a1_0.length : Int).toNat).length) w480), (16, .int .i64 x1531)]) (fun x1531 => pt b485 (.cells [.slice w479 ((((([] : List Int) ++ a1_0) ++ ([0] : List Int)).take (a1_0.length : Int).toNat).length) w480, .slice w475 ((((([] : List Int) ++ a1_1) ++ ([0] : List Int)).take (a1_1.length : Int).toNat).length) w476, .slice w693 x690.length w694, .slice w902 x899.length w903].toArray 39) :: pt b264 (.cells [.int .i64 t262.1, .int .i64 t262.2.1, .int .i64 t262.2.2].toArray 44) :: pt b259 (.cells [.slice A1_0 a1_0.length c1_0, .slice A1_1 a1_1.length c1_1, .slice A1_2 a1_2.length c1_2, .slice A1_3 a1_3.length c1_3].toArray 39) :: pt b258 (.cells [.slice A0_0 a0_0.length c0_0, .slice A0_1 a0_1.length c0_1, .slice A0_2 a0_2.length c0_2].toArray 36) :: Fr) (fun m_ => fun x1531 => iterN (fun t_ : Int => bailifflaw16_JudgeBlind.l0b a0_0 a1_0 t262 t928 t_) m_ x1531 = some o1735) m1738 0 hit1740 (fun _ => [(3, .pointer (some ⟨b258, 0, none⟩)), (8, .pointer (some ⟨b264, 0, none⟩)), (9, .pointer (some ⟨b485, 0, none⟩)), (13, .bool (decide (t928.1 = t262.1) && (decide (t928.2.1 = t262.2.1) && (decide (t928.2.2 = t262.2.2) && true)))), (14, .int .i64 0)]) (fun _ => pt b485 (.cells [.slice w479 ((((([] : List Int) ++ a1_0) ++ ([0] : List Int)).take (a1_0.length : Int).toNat).length) w480, .slice w475 ((((([] : List Int) ++ a1_1) ++ ([0] : List Int)).take (a1_1.length : Int).toNat).length) w476, .slice w693 x690.length w694, .slice w902 x899.length w903].toArray 39) :: pt b264 (.cells [.int .i64 t262.1, .int .i64 t262.2.1, .int .i64 t262.2.2].toArray 44) :: pt b259 (.cells [.slice A1_0 a1_0.length c1_0, .slice A1_1 a1_1.length c1_1, .slice A1_2 a1_2.length c1_2, .slice A1_3 a1_3.length c1_3].toArray 39) :: pt b258 (.cells [.slice A0_0 a0_0.length c0_0, .slice A0_1 a0_1.length c0_1, .slice A0_2 a0_2.length c0_2].toArray 36) :: Fr) (fun _ => G1732 (.inl ()) = some r) (fun a w e hs => ⟨e.sub ⟨rfl, rfl, rfl, rfl, rfl, rfl, rfl, trivial⟩, hs⟩) ?_ (fun J1742 => ?_)
                  · rintro _ hrun
                    have hrun := (hl1733 _).symm.trans hrun
                    · refine At.ibx ?_
                      refine At.ibn ?_
                      refine At.thn ?_
                      refine At.region ?_
                      refine At.run 3 rfl ?_
                      refine At.nil ?_
                      refine At.thn ?_
                      refine At.round ?_
                      refine At.seq ?_
                      refine At.seq ?_
                      refine At.region ?_
                      refine At.run 2 rfl ?_
                      refine At.nil ?_
                      refine At.thn ?_
                      refine At.condT rfl rfl ?_
                      refine At.skip ?_
                      refine At.thn ?_
                      refine At.seq ?_
                      refine At.block ?_
                      refine At.seq ?_
                      refine At.region ?_
                      refine At.run 2 rfl ?_
                      refine At.y (Y.ixArrK rfl rfl rfl rfl rfl (show (0 : Int) ≤ 1 ∧ (1 : Int) < 2 by decide).1 (show (0 : Int) ≤ 1 ∧ (1 : Int) < 2 by decide).2 (q := 1) (off := 1) rfl rfl) rfl rfl rfl ?_
                      refine At.y (Y.load rfl rfl .z rfl rfl rfl) rfl rfl rfl ?_
                      refine At.run 1 rfl ?_
                      refine At.nil ?_
                      refine At.thn ?_
                      refine At.seq ?_
                      refine At.region ?_
                      refine At.run 1 rfl ?_
                      refine At.nil ?_
                      refine At.thn ?_
                      refine At.block ?_
                      obtain ⟨G2545, hl2546, hr2547, hrun⟩ := bjoin hrun
                      obtain ⟨o2548, hlo2549, ho2550⟩ := bsome hrun
                      clear hrun
                      unfold bailifflaw16_JudgeBlind.l1 at hlo2549
                      obtain ⟨m2551, hit2553⟩ := iter_some.1 hlo2549
                      clear hlo2549
                      refine At.loopJ (X := Int) (Y := Unit) (e0 := 6) (fun x2344 => [(3, .pointer (some ⟨b258, 0, none⟩)), (8, .pointer (some ⟨b264, 0, none⟩)), (9, .pointer (some ⟨b485, 0, none⟩)), (13, .bool (decide (t928.1 = t262.1) && (decide (t928.2.1 = t262.2.1) && (decide (t928.2.2 = t262.2.2) && true)))), (14, .int .i64 1), (15, .slice w475 ((((([] : List Int) ++ a1_1) ++ ([0] : List Int)).take (a1_1.length : Int).toNat).length) w476), (16, .int .i64 x2344)]) (fun x2344 => pt b485 (.cells [.slice w479 ((((([] : List Int) ++ a1_0) ++ ([0] : List Int)).take (a1_0.length : Int).toNat).length) w480, .slice w475 ((((([] : List Int) ++ a1_1) ++ ([0] : List Int)).take (a1_1.length : Int).toNat).length) w476, .slice w693 x690.length w694, .slice w902 x899.length w903].toArray 39) :: pt b264 (.cells [.int .i64 t262.1, .int .i64 t262.2.1, .int .i64 t262.2.2].toArray 44) :: pt b259 (.cells [.slice A1_0 a1_0.length c1_0, .slice A1_1 a1_1.length c1_1, .slice A1_2 a1_2.length c1_2, .slice A1_3 a1_3.length c1_3].toArray 39) :: pt b258 (.cells [.slice A0_0 a0_0.length c0_0, .slice A0_1 a0_1.length c0_1, .slice A0_2 a0_2.length c0_2].toArray 36) :: Fr) (fun m_ => fun x2344 => iterN (fun t_ : Int => bailifflaw16_JudgeBlind.l1b a0_0 a1_1 t262 t928 t_) m_ x2344 = some o2548) m2551 0 hit2553 (fun _ => [(3, .pointer (some ⟨b258, 0, none⟩)), (8, .pointer (some ⟨b264, 0, none⟩)), (9, .pointer (some ⟨b485, 0, none⟩)), (13, .bool (decide (t928.1 = t262.1) && (decide (t928.2.1 = t262.2.1) && (decide (t928.2.2 = t262.2.2) && true)))), (14, .int .i64 1)]) (fun _ => pt b485 (.cells [.slice w479 ((((([] : List Int) ++ a1_0) ++ ([0] : List Int)).take (a1_0.length : Int).toNat).length) w480, .slice w475 ((((([] : List Int) ++ a1_1) ++ ([0] : List Int)).take (a1_1.length : Int).toNat).length) w476, .slice w693 x690.length w694, .slice w902 x899.length w903].toArray 39) :: pt b264 (.cells [.int .i64 t262.1, .int .i64 t262.2.1, .int .i64 t262.2.2].toArray 44) :: pt b259 (.cells [.slice A1_0 a1_0.length c1_0, .slice A1_1 a1_1.length c1_1, .slice A1_2 a1_2.length c1_2, .slice A1_3 a1_3.length c1_3].toArray 39) :: pt b258 (.cells [.slice A0_0 a0_0.length c0_0, .slice A0_1 a0_1.length c0_1, .slice A0_2 a0_2.length c0_2].toArray 36) :: Fr) (fun _ => G2545 (.inl ()) = some r) (fun a w e hs => ⟨e.sub ⟨rfl, rfl, rfl, rfl, rfl, rfl, rfl, trivial⟩, hs⟩) ?_ (fun J2555 => ?_)
                      · rintro _ hrun
                        have hrun := (hl2546 _).symm.trans hrun
                        · refine At.ibx ?_
                          refine At.ibn ?_
                          refine At.thn ?_
                          refine At.region ?_
                          refine At.run 3 rfl ?_
                          refine At.nil ?_
                          refine At.thn ?_
                          refine At.round ?_
                          refine At.seq ?_
                          refine At.seq ?_
                          refine At.region ?_
                          refine At.run 2 rfl ?_
                          refine At.nil ?_
                          refine At.thn ?_
                          refine At.condF rfl rfl ?_
                          refine At.exit ?_
                          refine At.the ?_
                          refine At.the ?_
                          refine At.ibx ?_
                          refine At.thn ?_
                          refine At.seq ?_
                          refine At.seq ?_
                          refine At.region ?_
                          refine At.run 1 rfl ?_
                          refine At.nil ?_
                          refine At.thn ?_
                          refine At.block ?_
                          refine At.rounds 3 ?_
                          refine At.round ?_
                          refine At.seq ?_
                          refine At.seq ?_
                          refine At.region ?_
                          refine At.run 2 rfl ?_
                          refine At.nil ?_
                          refine At.thn ?_
                          refine At.condT rfl rfl ?_
                          refine At.skip ?_
                          refine At.thn ?_
                          refine At.seq ?_
                          refine At.block ?_
                          refine At.seq ?_
                          refine At.region ?_
                          refine At.run 2 rfl ?_
                          refine At.y (Y.ixArrK rfl rfl rfl rfl rfl (show (0 : Int) ≤ 0 ∧ (0 : Int) < 2 by decide).1 (show (0 : Int) ≤ 0 ∧ (0 : Int) < 2 by decide).2 (q := 0) (off := 0) rfl rfl) rfl rfl rfl ?_
                          refine At.y (Y.load rfl rfl .z rfl rfl rfl) rfl rfl rfl ?_
                          refine At.run 1 rfl ?_
                          refine At.nil ?_
                          refine At.thn ?_
                          refine At.seq ?_
                          refine At.region ?_
                          refine At.run 1 rfl ?_
                          refine At.nil ?_
                          refine At.thn ?_
                          refine At.block ?_
                          refine At.thaw th927 ?_
                          refine At.thaw th921 ?_
                          refine At.thaw th915 ?_
                          refine At.thaw th909 ?_
                          obtain ⟨G3561, hl3562, hr3563, hrun⟩ := bjoin hrun
                          obtain ⟨o3564, hlo3565, ho3566⟩ := bsome hrun
                          clear hrun
                          unfold bailifflaw16_JudgeBlind.l2 at hlo3565
                          obtain ⟨m3567, hit3569⟩ := iter_some.1 hlo3565
                          clear hlo3565
                          refine At.loopJ (X := (List Int) × Int) (Y := (List Int)) (e0 := 10) (fun s_ => [(3, .pointer (some ⟨b258, 0, none⟩)), (8, .pointer (some ⟨b264, 0, none⟩)), (9, .pointer (some ⟨b485, 0, none⟩)), (13, .bool (decide (t928.1 = t262.1) && (decide (t928.2.1 = t262.2.1) && (decide (t928.2.2 = t262.2.2) && true)))), (17, .int .i64 0), (18, .slice w479 ((((([] : List Int) ++ a1_0) ++ ([0] : List Int)).take (a1_0.length : Int).toNat).length) w480), (19, .int .i64 s_.2)]) (fun s_ => row (Fl.int .i64) 3 w479 ((((([] : List Int) ++ a1_0) ++ ([0] : List Int)).take (a1_0.length : Int).toNat).length) w480 s_.1 :: row (Fl.int .i64) 3 w475 ((((([] : List Int) ++ a1_1) ++ ([0] : List Int)).take (a1_1.length : Int).toNat).length) w476 (((([] : List Int) ++ a1_1) ++ ([0] : List Int)).take (a1_1.length : Int).toNat) :: row (Fl.int .i64) 3 w693 x690.length w694 x690 :: row (Fl.int .i64) 3 w902 x899.length w903 x899 :: pt b485 (.cells [.slice w479 ((((([] : List Int) ++ a1_0) ++ ([0] : List Int)).take (a1_0.length : Int).toNat).length) w480, .slice w475 ((((([] : List Int) ++ a1_1) ++ ([0] : List Int)).take (a1_1.length : Int).toNat).length) w476, .slice w693 x690.length w694, .slice w902 x899.length w903].toArray 39) :: pt b264 (.cells [.int .i64 t262.1, .int .i64 t262.2.1, .int .i64 t262.2.2].toArray 44) :: pt b259 (.cells [.slice A1_0 a1_0.length c1_0, .slice A1_1 a1_1.length c1_1, .slice A1_2 a1_2.length c1_2, .slice A1_3 a1_3.length c1_3].toArray 39) :: pt b258 (.cells [.slice A0_0 a0_0.length c0_0, .slice A0_1 a0_1.length c0_1, .slice A0_2 a0_2.length c0_2].toArray 36) :: Fr) (fun m_ => fun s_ => iterN (fun t_ : (List Int) × Int => bailifflaw16_JudgeBlind.l2b a1_0 t_.1 t_.2) m_ (s_.1, s_.2) = some o3564) m3567 ((((([] : List Int) ++ a1_0) ++ ([0] : List Int)).take (a1_0.length : Int).toNat), 0) hit3569 (fun x3560 => [(3, .pointer (some ⟨b258, 0, none⟩)), (8, .pointer (some ⟨b264, 0, none⟩)), (9, .pointer (some ⟨b485, 0, none⟩)), (13, .bool (decide (t928.1 = t262.1) && (decide (t928.2.1 = t262.2.1) && (decide (t928.2.2 = t262.2.2) && true)))), (17, .int .i64 0)]) (fun x3560 => row (Fl.int .i64) 3 w479 ((((([] : List Int) ++ a1_0) ++ ([0] : List Int)).take (a1_0.length : Int).toNat).length) w480 x3560 :: row (Fl.int .i64) 3 w475 ((((([] : List Int) ++ a1_1) ++ ([0] : List Int)).take (a1_1.length : Int).toNat).length) w476 (((([] : List Int) ++ a1_1) ++ ([0] : List Int)).take (a1_1.length : Int).toNat) :: row (Fl.int .i64) 3 w693 x690.length w694 x690 :: row (Fl.int .i64) 3 w902 x899.length w903 x899 :: pt b485 (.cells [.slice w479 ((((([] : List Int) ++ a1_0) ++ ([0] : List Int)).take (a1_0.length : Int).toNat).length) w480, .slice w475 ((((([] : List Int) ++ a1_1) ++ ([0] : List Int)).take (a1_1.length : Int).toNat).length) w476, .slice w693 x690.length w694, .slice w902 x899.length w903].toArray 39) :: pt b264 (.cells [.int .i64 t262.1, .int .i64 t262.2.1, .int .i64 t262.2.2].toArray 44) :: pt b259 (.cells [.slice A1_0 a1_0.length c1_0, .slice A1_1 a1_1.length c1_1, .slice A1_2 a1_2.length c1_2, .slice A1_3 a1_3.length c1_3].toArray 39) :: pt b258 (.cells [.slice A0_0 a0_0.length c0_0, .slice A0_1 a0_1.length c0_1, .slice A0_2 a0_2.length c0_2].toArray 36) :: Fr) (fun x3560 => G3561 (.inl x3560) = some r) (fun a w e hs => ⟨e.sub ⟨rfl, rfl, rfl, rfl, rfl, rfl, rfl, trivial⟩, hs⟩) ?_ (fun J3571 => ?_)
                          · rintro x3560 hrun
                            have hrun := (hl3562 _).symm.trans hrun
                            · refine At.ibx ?_
                              refine At.ibn ?_
                              refine At.thn ?_
                              refine At.region ?_
                              refine At.run 3 rfl ?_
                              refine At.nil ?_
                              refine At.thn ?_
                              refine At.round ?_
                              refine At.seq ?_
                              refine At.seq ?_
                              refine At.region ?_
                              refine At.run 2 rfl ?_
                              refine At.nil ?_
                              refine At.thn ?_
                              refine At.condT rfl rfl ?_
                              refine At.skip ?_
                              refine At.thn ?_
                              refine At.seq ?_
                              refine At.block ?_
                              refine At.seq ?_
                              refine At.region ?_
                              refine At.run 2 rfl ?_
                              refine At.y (Y.ixArrK rfl rfl rfl rfl rfl (show (0 : Int) ≤ 1 ∧ (1 : Int) < 2 by decide).1 (show (0 : Int) ≤ 1 ∧ (1 : Int) < 2 by decide).2 (q := 1) (off := 1) rfl rfl) rfl rfl rfl ?_
                              refine At.y (Y.load rfl rfl (.s (.s (.s (.s .z)))) rfl rfl rfl) rfl rfl rfl ?_
                              refine At.run 1 rfl ?_
                              refine At.nil ?_
                              refine At.thn ?_
                              refine At.seq ?_
                              refine At.region ?_
                              refine At.run 1 rfl ?_
                              refine At.nil ?_
                              refine At.thn ?_
                              refine At.block ?_
                              obtain ⟨G4377, hl4378, hr4379, hrun⟩ := bjoin hrun
                              obtain ⟨o4380, hlo4381, ho4382⟩ := bsome hrun
                              clear hrun
                              unfold bailifflaw16_JudgeBlind.l3 at hlo4381
                              obtain ⟨m4383, hit4385⟩ := iter_some.1 hlo4381
                              clear hlo4381
                              refine At.loopJ (X := (List Int) × Int) (Y := (List Int)) (e0 := 10) (fun s_ => [(3, .pointer (some ⟨b258, 0, none⟩)), (8, .pointer (some ⟨b264, 0, none⟩)), (9, .pointer (some ⟨b485, 0, none⟩)), (13, .bool (decide (t928.1 = t262.1) && (decide (t928.2.1 = t262.2.1) && (decide (t928.2.2 = t262.2.2) && true)))), (17, .int .i64 1), (18, .slice w475 ((((([] : List Int) ++ a1_1) ++ ([0] : List Int)).take (a1_1.length : Int).toNat).length) w476), (19, .int .i64 s_.2)]) (fun s_ => row (Fl.int .i64) 3 w479 ((((([] : List Int) ++ a1_0) ++ ([0] : List Int)).take (a1_0.length : Int).toNat).length) w480 x3560 :: row (Fl.int .i64) 3 w475 ((((([] : List Int) ++ a1_1) ++ ([0] : List Int)).take (a1_1.length : Int).toNat).length) w476 s_.1 :: row (Fl.int .i64) 3 w693 x690.length w694 x690 :: row (Fl.int .i64) 3 w902 x899.length w903 x899 :: pt b485 (.cells [.slice w479 ((((([] : List Int) ++ a1_0) ++ ([0] : List Int)).take (a1_0.length : Int).toNat).length) w480, .slice w475 ((((([] : List Int) ++ a1_1) ++ ([0] : List Int)).take (a1_1.length : Int).toNat).length) w476, .slice w693 x690.length w694, .slice w902 x899.length w903].toArray 39) :: pt b264 (.cells [.int .i64 t262.1, .int .i64 t262.2.1, .int .i64 t262.2.2].toArray 44) :: pt b259 (.cells [.slice A1_0 a1_0.length c1_0, .slice A1_1 a1_1.length c1_1, .slice A1_2 a1_2.length c1_2, .slice A1_3 a1_3.length c1_3].toArray 39) :: pt b258 (.cells [.slice A0_0 a0_0.length c0_0, .slice A0_1 a0_1.length c0_1, .slice A0_2 a0_2.length c0_2].toArray 36) :: Fr) (fun m_ => fun s_ => iterN (fun t_ : (List Int) × Int => bailifflaw16_JudgeBlind.l3b a1_1 t_.1 t_.2) m_ (s_.1, s_.2) = some o4380) m4383 ((((([] : List Int) ++ a1_1) ++ ([0] : List Int)).take (a1_1.length : Int).toNat), 0) hit4385 (fun x4376 => [(3, .pointer (some ⟨b258, 0, none⟩)), (8, .pointer (some ⟨b264, 0, none⟩)), (9, .pointer (some ⟨b485, 0, none⟩)), (13, .bool (decide (t928.1 = t262.1) && (decide (t928.2.1 = t262.2.1) && (decide (t928.2.2 = t262.2.2) && true)))), (17, .int .i64 1)]) (fun x4376 => row (Fl.int .i64) 3 w479 ((((([] : List Int) ++ a1_0) ++ ([0] : List Int)).take (a1_0.length : Int).toNat).length) w480 x3560 :: row (Fl.int .i64) 3 w475 ((((([] : List Int) ++ a1_1) ++ ([0] : List Int)).take (a1_1.length : Int).toNat).length) w476 x4376 :: row (Fl.int .i64) 3 w693 x690.length w694 x690 :: row (Fl.int .i64) 3 w902 x899.length w903 x899 :: pt b485 (.cells [.slice w479 ((((([] : List Int) ++ a1_0) ++ ([0] : List Int)).take (a1_0.length : Int).toNat).length) w480, .slice w475 ((((([] : List Int) ++ a1_1) ++ ([0] : List Int)).take (a1_1.length : Int).toNat).length) w476, .slice w693 x690.length w694, .slice w902 x899.length w903].toArray 39) :: pt b264 (.cells [.int .i64 t262.1, .int .i64 t262.2.1, .int .i64 t262.2.2].toArray 44) :: pt b259 (.cells [.slice A1_0 a1_0.length c1_0, .slice A1_1 a1_1.length c1_1, .slice A1_2 a1_2.length c1_2, .slice A1_3 a1_3.length c1_3].toArray 39) :: pt b258 (.cells [.slice A0_0 a0_0.length c0_0, .slice A0_1 a0_1.length c0_1, .slice A0_2 a0_2.length c0_2].toArray 36) :: Fr) (fun x4376 => G4377 (.inl x4376) = some r) (fun a w e hs => ⟨e.sub ⟨rfl, rfl, rfl, rfl, rfl, rfl, rfl, trivial⟩, hs⟩) ?_ (fun J4387 => ?_)
                              · rintro x4376 hrun
                                have hrun := (hl4378 _).symm.trans hrun
                                · refine At.ibx ?_
                                  refine At.ibn ?_
                                  refine At.thn ?_
                                  refine At.region ?_
                                  refine At.run 3 rfl ?_
                                  refine At.nil ?_
                                  refine At.thn ?_
                                  refine At.round ?_
                                  refine At.seq ?_
                                  refine At.seq ?_
                                  refine At.region ?_
                                  refine At.run 2 rfl ?_
                                  refine At.nil ?_
                                  refine At.thn ?_
                                  refine At.condF rfl rfl ?_
                                  refine At.exit ?_
                                  refine At.the ?_
                                  refine At.the ?_
                                  refine At.ibx ?_
                                  refine At.thn ?_
                                  refine At.seq ?_
                                  refine At.freeze .z fun R4388 hr4389 hn4390 hc4391 hs4392 th4393 => ?_
                                  refine At.freeze .z fun R4394 hr4395 hn4396 hc4397 hs4398 th4399 => ?_
                                  refine At.freeze .z fun R4400 hr4401 hn4402 hc4403 hs4404 th4405 => ?_
                                  refine At.freeze .z fun R4406 hr4407 hn4408 hc4409 hs4410 th4411 => ?_
                                  refine At.quiet (by kernel_rfl) ?_
                                  refine At.Quiet.run 2 rfl ?_
                                  obtain ⟨G4613, hl4614, hr4615, hrun⟩ := bjoin hrun
                                  refine At.Quiet.joinO 6 (X := Bool) (fun x4612 => [(185, .bool x4612)]) (fun x4612 => pt b485 (.cells [.slice w479 ((((([] : List Int) ++ a1_0) ++ ([0] : List Int)).take (a1_0.length : Int).toNat).length) w480, .slice w475 ((((([] : List Int) ++ a1_1) ++ ([0] : List Int)).take (a1_1.length : Int).toNat).length) w476, .slice w693 x690.length w694, .slice w902 x899.length w903].toArray 39) :: pt b264 (.cells [.int .i64 t262.1, .int .i64 t262.2.1, .int .i64 t262.2.2].toArray 44) :: pt b259 (.cells [.slice A1_0 a1_0.length c1_0, .slice A1_1 a1_1.length c1_1, .slice A1_2 a1_2.length c1_2, .slice A1_3 a1_3.length c1_3].toArray 39) :: pt b258 (.cells [.slice A0_0 a0_0.length c0_0, .slice A0_1 a0_1.length c0_1, .slice A0_2 a0_2.length c0_2].toArray 36) :: Fr) (fun x4612 => G4613 (.inl x4612) = some r) ?_ (fun J4616 => ?_)
                                  · rintro x4612 hrun
                                    have hrun := (hl4614 _).symm.trans hrun
                                    · refine At.Quiet.run 1 rfl ?_
                                      refine At.Quiet.nil ?_
                                      refine At.thn ?_
                                      refine At.ret ?_
                                      refine At.thaw th4411 ?_
                                      refine At.thaw th4405 ?_
                                      refine At.thaw th4399 ?_
                                      refine At.thaw th4393 ?_
                                      refine At.drop .z ?_
                                      refine At.drop .z ?_
                                      refine At.drop .z ?_
                                      refine At.drop .z ?_
                                      refine At.drop .z ?_
                                      refine At.drop .z ?_
                                      refine At.drop .z ?_
                                      refine At.drop .z ?_
                                      obtain rfl := (bret hrun).symm
                                      exact At.res (.inl rfl) rfl rfl ⟨rfl, rfl⟩
                                  · · rcases bite hrun with ⟨h4617, hrun⟩ | ⟨h4617, hrun⟩
                                      · · refine At.Quiet.know (t := 179) rfl h4617 ?_
                                          refine At.Quiet.y (Y.load rfl rfl (.s (.s (.s .z))) rfl rfl rfl) rfl rfl rfl ?_
                                          refine At.Quiet.y (Y.load rfl rfl .z rfl rfl rfl) rfl rfl rfl ?_
                                          obtain ⟨t4618, hc4619, hrun⟩ := bbind hrun
                                          refine At.Quiet.call rfl judge_Judge.callee rfl rfl rfl (judge_Judge.spec _ _ A0_0 a0_0.length c0_0 A0_1 a0_1.length c0_1 A0_2 a0_2.length c0_2 w479 ((((([] : List Int) ++ a1_0) ++ ([0] : List Int)).take (a1_0.length : Int).toNat).length) w480 w475 ((((([] : List Int) ++ a1_1) ++ ([0] : List Int)).take (a1_1.length : Int).toNat).length) w476 w693 x690.length w694 w902 x899.length w903 a0_0 a0_1 a0_2 x3560 x4376 x690 x899 (RdS.mono (((hs4392.trans hs4398).trans hs4404).trans hs4410) hr0_0) rfl hc0_0 (RdS.mono (((hs4392.trans hs4398).trans hs4404).trans hs4410) hr0_1) rfl hc0_1 (RdS.mono (((hs4392.trans hs4398).trans hs4404).trans hs4410) hr0_2) rfl hc0_2 (RdS.mono ((hs4398.trans hs4404).trans hs4410) hr4389) hn4390 hc4391 (RdS.mono (hs4404.trans hs4410) hr4395) hn4396 hc4397 (RdS.mono hs4410 hr4401) hn4402 hc4403 hr4407 hn4408 hc4409 hc4619) (fun _ _ h_ => ⟨h_.1, fun _ hs => h_.2 ▸ hs⟩) ?_
                                          refine At.Quiet.y (Y.load rfl rfl (.s .z) rfl rfl rfl) rfl rfl rfl ?_
                                          refine At.Quiet.y (Y.eqSt (xs := [.int .i64 t4618.1, .int .i64 t4618.2.1, .int .i64 t4618.2.2]) (ys := [.int .i64 t262.1, .int .i64 t262.2.1, .int .i64 t262.2.2]) rfl rfl rfl rfl (by kernel_rfl) (by kernel_rfl) (by kernel_rfl) rfl) rfl rfl rfl ?_
                                          refine At.Quiet.run 1 rfl ?_
                                          exact At.Quiet.of (J4616 (decide (t4618.1 = t262.1) && (decide (t4618.2.1 = t262.2.1) && (decide (t4618.2.2 = t262.2.2) && true))) hrun) ⟨rfl, trivial⟩
                                      · · refine At.Quiet.know (t := 179) rfl (bn h4617) ?_
                                          refine At.Quiet.run 6 rfl ?_
                                          exact At.Quiet.of (J4616 false hrun) ⟨rfl, trivial⟩
                              · clear hit4385 m4383
                                rintro m4383 ⟨x4174, x4175⟩ hit4385
                                obtain ⟨m4384, f_, hlt4386, hf_, hrun⟩ := bit hit4385
                                clear hit4385
                                have hrun : (bailifflaw16_JudgeBlind.l3b a1_1 x4174 x4175).bind _ = some o4380 := hrun
                                unfold bailifflaw16_JudgeBlind.l3b at hrun
                                · refine At.seq ?_
                                  refine At.seq ?_
                                  refine At.region ?_
                                  refine At.run 3 rfl ?_
                                  refine At.y (Y.quo rfl rfl (by decide)) rfl rfl rfl ?_
                                  refine At.run 1 rfl ?_
                                  refine At.nil ?_
                                  refine At.thn ?_
                                  rcases bite hrun with ⟨h4620, hrun⟩ | ⟨h4620, hrun⟩
                                  · · refine At.condT rfl (decide_eq_true h4620) ?_
                                      refine At.skip ?_
                                      refine At.thn ?_
                                      refine At.seq ?_
                                      refine At.block ?_
                                      refine At.held [row (Fl.int .i64) 3 w479 ((((([] : List Int) ++ a1_0) ++ ([0] : List Int)).take (a1_0.length : Int).toNat).length) w480 x3560, row (Fl.int .i64) 3 w693 x690.length w694 x690, row (Fl.int .i64) 3 w902 x899.length w903 x899, pt b485 (.cells [.slice w479 ((((([] : List Int) ++ a1_0) ++ ([0] : List Int)).take (a1_0.length : Int).toNat).length) w480, .slice w475 ((((([] : List Int) ++ a1_1) ++ ([0] : List Int)).take (a1_1.length : Int).toNat).length) w476, .slice w693 x690.length w694, .slice w902 x899.length w903].toArray 39), pt b264 (.cells [.int .i64 t262.1, .int .i64 t262.2.1, .int .i64 t262.2.2].toArray 44), pt b259 (.cells [.slice A1_0 a1_0.length c1_0, .slice A1_1 a1_1.length c1_1, .slice A1_2 a1_2.length c1_2, .slice A1_3 a1_3.length c1_3].toArray 39), pt b258 (.cells [.slice A0_0 a0_0.length c0_0, .slice A0_1 a0_1.length c0_1, .slice A0_2 a0_2.length c0_2].toArray 36)] 24 rfl ?_
                                      refine At.H.pv 0 rfl (by kernel_rfl) (by kernel_rfl) (by kernel_rfl) rfl rfl rfl rfl (.c .z (.c (.s .z) (.c (.s .z) (.c (.s .z) (.c (.s .z) (.c (.s .z) (.c (.s .z) .n))))))) ?_
                                      refine At.H.pv 1 rfl (by kernel_rfl) (by kernel_rfl) (by kernel_rfl) rfl rfl rfl rfl (.c .z (.c (.s .z) (.c (.s .z) (.c (.s .z) (.c (.s .z) (.c (.s .z) (.c (.s .z) .n))))))) ?_
                                      refine At.H.pv 2 rfl (by kernel_rfl) (by kernel_rfl) (by kernel_rfl) rfl rfl rfl rfl (.c .z (.c (.s .z) (.c (.s .z) (.c (.s .z) (.c (.s .z) (.c (.s .z) (.c (.s .z) .n))))))) ?_
                                      refine At.H.pv 3 rfl (by kernel_rfl) (by kernel_rfl) (by kernel_rfl) rfl rfl rfl rfl (.c .z (.c (.s .z) (.c (.s .z) (.c (.s .z) (.c (.s .z) (.c (.s .z) (.c (.s .z) .n))))))) ?_
                                      refine At.H.pv 4 rfl (by kernel_rfl) (by kernel_rfl) (by kernel_rfl) rfl rfl rfl rfl (.c .z (.c (.s .z) (.c (.s .z) (.c (.s .z) (.c (.s .z) (.c (.s .z) (.c (.s .z) .n))))))) ?_
                                      refine At.H.pv 5 rfl (by kernel_rfl) (by kernel_rfl) (by kernel_rfl) rfl rfl rfl rfl (.c .z (.c (.s .z) (.c (.s .z) (.c (.s .z) (.c (.s .z) (.c (.s .z) (.c (.s .z) .n))))))) ?_
                                      refine At.H.pv 6 rfl (by kernel_rfl) (by kernel_rfl) (by kernel_rfl) rfl rfl rfl rfl (.c .z (.c (.s .z) (.c (.s .z) (.c (.s .z) (.c (.s .z) (.c (.s .z) (.c (.s .z) .n))))))) ?_
                                      refine At.H.pv 7 rfl (by kernel_rfl) (by kernel_rfl) (by kernel_rfl) rfl rfl rfl rfl (.c .z (.c (.s .z) (.c (.s .z) (.c (.s .z) (.c (.s .z) (.c (.s .z) (.c (.s .z) .n))))))) ?_
                                      refine At.H.pv 8 rfl (by kernel_rfl) (by kernel_rfl) (by kernel_rfl) rfl rfl rfl rfl (.c .z (.c (.s .z) (.c (.s .z) (.c (.s .z) (.c (.s .z) (.c (.s .z) (.c (.s .z) .n))))))) ?_
                                      refine At.H.pv 9 rfl (by kernel_rfl) (by kernel_rfl) (by kernel_rfl) rfl rfl rfl rfl (.c .z (.c (.s .z) (.c (.s .z) (.c (.s .z) (.c (.s .z) (.c (.s .z) (.c (.s .z) .n))))))) ?_
                                      refine At.H.pv 10 rfl (by kernel_rfl) (by kernel_rfl) (by kernel_rfl) rfl rfl rfl rfl (.c .z (.c (.s .z) (.c (.s .z) (.c (.s .z) (.c (.s .z) (.c (.s .z) (.c (.s .z) .n))))))) ?_
                                      refine At.H.pv 11 rfl (by kernel_rfl) (by kernel_rfl) (by kernel_rfl) rfl rfl rfl rfl (.c .z (.c (.s .z) (.c (.s .z) (.c (.s .z) (.c (.s .z) (.c (.s .z) (.c (.s .z) .n))))))) ?_
                                      refine At.H.pv 12 rfl (by kernel_rfl) (by kernel_rfl) (by kernel_rfl) rfl rfl rfl rfl (.c .z (.c (.s .z) (.c (.s .z) (.c (.s .z) (.c (.s .z) (.c (.s .z) (.c (.s .z) .n))))))) ?_
                                      refine At.H.pv 13 rfl (by kernel_rfl) (by kernel_rfl) (by kernel_rfl) rfl rfl rfl rfl (.c .z (.c (.s .z) (.c (.s .z) (.c (.s .z) (.c (.s .z) (.c (.s .z) (.c (.s .z) .n))))))) ?_
                                      refine At.H.pv 16 rfl (by kernel_rfl) (by kernel_rfl) (by kernel_rfl) rfl rfl rfl rfl (.c .z (.c (.s .z) (.c (.s .z) (.c (.s .z) (.c (.s .z) (.c (.s .z) (.c (.s .z) .n))))))) ?_
                                      refine At.H.pv 17 rfl (by kernel_rfl) (by kernel_rfl) (by kernel_rfl) rfl rfl rfl rfl (.c .z (.c (.s .z) (.c (.s .z) (.c (.s .z) (.c (.s .z) (.c (.s .z) (.c (.s .z) .n))))))) ?_
                                      obtain ⟨h4826, hrun⟩ := bnone hrun
                                      obtain ⟨h4827, hrun⟩ := bnone hrun
                                      refine At.H.joinK (X := Unit) (fun _ => [(3, .pointer (some ⟨b258, 0, none⟩)), (8, .pointer (some ⟨b264, 0, none⟩)), (9, .pointer (some ⟨b485, 0, none⟩)), (13, .bool (decide (t928.1 = t262.1) && (decide (t928.2.1 = t262.2.1) && (decide (t928.2.2 = t262.2.2) && true)))), (17, .int .i64 1), (18, .slice w475 ((((([] : List Int) ++ a1_1) ++ ([0] : List Int)).take (a1_1.length : Int).toNat).length) w476), (19, .int .i64 x4175)]) (fun _ => row (Fl.int .i64) 3 w475 ((((([] : List Int) ++ a1_1) ++ ([0] : List Int)).take (a1_1.length : Int).toNat).length) w476 (st (st x4174 x4175 (gt x4174 (IntKind.i64.wrap (IntKind.i64.wrap (((((([] : List Int) ++ a1_1) ++ ([0] : List Int)).take (a1_1.length : Int).toNat).length : Int) - 1) - x4175)))) (IntKind.i64.wrap (IntKind.i64.wrap (((((([] : List Int) ++ a1_1) ++ ([0] : List Int)).take (a1_1.length : Int).toNat).length : Int) - 1) - x4175)) (gt x4174 x4175)) :: row (Fl.int .i64) 3 w479 ((((([] : List Int) ++ a1_0) ++ ([0] : List Int)).take (a1_0.length : Int).toNat).length) w480 x3560 :: row (Fl.int .i64) 3 w693 x690.length w694 x690 :: row (Fl.int .i64) 3 w902 x899.length w903 x899 :: pt b485 (.cells [.slice w479 ((((([] : List Int) ++ a1_0) ++ ([0] : List Int)).take (a1_0.length : Int).toNat).length) w480, .slice w475 ((((([] : List Int) ++ a1_1) ++ ([0] : List Int)).take (a1_1.length : Int).toNat).length) w476, .slice w693 x690.length w694, .slice w902 x899.length w903].toArray 39) :: pt b264 (.cells [.int .i64 t262.1, .int .i64 t262.2.1, .int .i64 t262.2.2].toArray 44) :: pt b259 (.cells [.slice A1_0 a1_0.length c1_0, .slice A1_1 a1_1.length c1_1, .slice A1_2 a1_2.length c1_2, .slice A1_3 a1_3.length c1_3].toArray 39) :: pt b258 (.cells [.slice A0_0 a0_0.length c0_0, .slice A0_1 a0_1.length c0_1, .slice A0_2 a0_2.length c0_2].toArray 36) :: Fr) (fun _ => True) ?_ (fun J4821 => ?_)
                                      · rintro _ -
                                        · refine At.ibn ?_
                                          refine At.thn ?_
                                          refine At.region ?_
                                          refine At.run 3 rfl ?_
                                          refine At.nil ?_
                                          refine At.frt (.s (.s (.s (.s (.s (.s (.s .z))))))) ?_
                                          refine At.frt (.s (.s (.s (.s (.s (.s (.s .z))))))) ?_
                                          refine At.frt (.s (.s (.s (.s (.s (.s (.s .z))))))) ?_
                                          refine At.frt (.s (.s (.s (.s (.s (.s (.s .z))))))) ?_
                                          refine At.frt (.s (.s (.s (.s (.s (.s (.s .z))))))) ?_
                                          refine At.frt (.s (.s (.s (.s (.s (.s (.s .z))))))) ?_
                                          refine At.frt (.s (.s (.s (.s (.s (.s .z)))))) ?_
                                          refine At.frt (.s (.s (.s (.s (.s (.s (.s .z))))))) ?_
                                          have hrun := bnx hf_ hrun
                                          exact fun a w e hs => ⟨m4384, ((st (st x4174 x4175 (gt x4174 (IntKind.i64.wrap (IntKind.i64.wrap (((((([] : List Int) ++ a1_1) ++ ([0] : List Int)).take (a1_1.length : Int).toNat).length : Int) - 1) - x4175)))) (IntKind.i64.wrap (IntKind.i64.wrap (((((([] : List Int) ++ a1_1) ++ ([0] : List Int)).take (a1_1.length : Int).toNat).length : Int) - 1) - x4175)) (gt x4174 x4175)), IntKind.i64.wrap (x4175 + 1)), hlt4386, hrun, e.sub ⟨rfl, rfl, rfl, rfl, rfl, rfl, rfl, trivial⟩, hs⟩
                                      · refine At.H.all [14, 18] (by kernel_rfl) rfl (all_cons ?_ (all_cons ?_ all_nil))
                                        · · refine At.HO.op rfl ?_
                                            refine At.y (Y.ix (.s .z) rfl rfl rfl rfl rfl rfl h4826.1 h4826.2) rfl rfl rfl ?_
                                            refine At.HO.back (.c .z (.c (.s .z) (.c (.s .z) (.c (.s .z) (.c (.s .z) (.c (.s .z) (.c (.s .z) .n))))))) ?_
                                            refine At.H.all [15, 18] (by kernel_rfl) rfl (all_cons ?_ (all_cons ?_ all_nil))
                                            · · refine At.HO.op rfl ?_
                                                refine At.y (Y.ld (.s .z) (q := 0) rfl rfl h4826.1 h4826.2 rfl rfl rfl) rfl rfl rfl ?_
                                                refine At.HO.back (.c .z (.c (.s .z) (.c (.s .z) (.c (.s .z) (.c (.s .z) (.c (.s .z) (.c (.s .z) .n))))))) ?_
                                                refine At.H.all [18] (by kernel_rfl) rfl (all_cons ?_ all_nil)
                                                · · refine At.HO.op rfl ?_
                                                    refine At.y (Y.ix (.s .z) rfl rfl rfl rfl rfl rfl h4827.1 h4827.2) rfl rfl rfl ?_
                                                    refine At.HO.back (.c .z (.c (.s .z) (.c (.s .z) (.c (.s .z) (.c (.s .z) (.c (.s .z) (.c (.s .z) .n))))))) ?_
                                                    refine At.H.all [19] (by kernel_rfl) rfl (all_cons ?_ all_nil)
                                                    · · refine At.HO.op rfl ?_
                                                        refine At.y (Y.ld (.s .z) (q := 0) rfl rfl h4827.1 h4827.2 rfl rfl rfl) rfl rfl rfl ?_
                                                        refine At.HO.back (.c .z (.c (.s .z) (.c (.s .z) (.c (.s .z) (.c (.s .z) (.c (.s .z) (.c (.s .z) .n))))))) ?_
                                                        refine At.H.all [20] (by kernel_rfl) rfl (all_cons ?_ all_nil)
                                                        · · refine At.HO.op rfl ?_
                                                            refine At.y (Y.ix (.s .z) rfl rfl rfl rfl rfl rfl h4827.1 h4827.2) rfl rfl rfl ?_
                                                            refine At.HO.back (.c .z (.c (.s .z) (.c (.s .z) (.c (.s .z) (.c (.s .z) (.c (.s .z) (.c (.s .z) .n))))))) ?_
                                                            refine At.H.all [21] (by kernel_rfl) rfl (all_cons ?_ all_nil)
                                                            · · refine At.HO.op rfl ?_
                                                                refine At.st rfl (.s .z) (q := 0) (z := (gt x4174 (IntKind.i64.wrap (IntKind.i64.wrap (((((([] : List Int) ++ a1_1) ++ ([0] : List Int)).take (a1_1.length : Int).toNat).length : Int) - 1) - x4175)))) rfl rfl rfl h4827.1 h4827.2 rfl rfl (.c .n) ?_
                                                                refine At.HO.back (.c (.s .z) (.c (.s .z) (.c (.s .z) (.c (.s .z) (.c (.s .z) (.c (.s .z) (.c (.s .z) .n))))))) ?_
                                                                refine At.H.all [22] (by kernel_rfl) rfl (all_cons ?_ all_nil)
                                                                · · refine At.HO.op rfl ?_
                                                                    refine At.y (Y.ix .z rfl rfl rfl rfl rfl rfl h4826.1 h4826.2) rfl rfl rfl ?_
                                                                    refine At.HO.back (.c (.s .z) (.c (.s .z) (.c (.s .z) (.c (.s .z) (.c (.s .z) (.c (.s .z) (.c (.s .z) .n))))))) ?_
                                                                    refine At.H.all [23] (by kernel_rfl) rfl (all_cons ?_ all_nil)
                                                                    · · refine At.HO.op rfl ?_
                                                                        refine At.st rfl .z (q := 0) (z := (gt x4174 x4175)) rfl rfl rfl h4826.1 h4826.2 rfl rfl (.c .n) ?_
                                                                        refine At.HO.back (.c (.s .z) (.c (.s .z) (.c (.s .z) (.c (.s .z) (.c (.s .z) (.c (.s .z) (.c (.s .z) .n))))))) ?_
                                                                        refine At.H.done (by kernel_rfl) ?_
                                                                        exact At.of (J4821 () trivial) ⟨rfl, rfl, rfl, rfl, rfl, rfl, rfl, trivial⟩
                                            · · refine At.HO.op rfl ?_
                                                refine At.y (Y.ix (.s .z) rfl rfl rfl rfl rfl rfl h4827.1 h4827.2) rfl rfl rfl ?_
                                                refine At.HO.back (.c .z (.c (.s .z) (.c (.s .z) (.c (.s .z) (.c (.s .z) (.c (.s .z) (.c (.s .z) .n))))))) ?_
                                                refine At.H.all [15, 19] (by kernel_rfl) rfl (all_cons ?_ (all_cons ?_ all_nil))
                                                · · refine At.HO.op rfl ?_
                                                    refine At.y (Y.ld (.s .z) (q := 0) rfl rfl h4826.1 h4826.2 rfl rfl rfl) rfl rfl rfl ?_
                                                    refine At.HO.back (.c .z (.c (.s .z) (.c (.s .z) (.c (.s .z) (.c (.s .z) (.c (.s .z) (.c (.s .z) .n))))))) ?_
                                                    refine At.H.all [19] (by kernel_rfl) rfl (all_cons ?_ all_nil)
                                                    · · refine At.HO.op rfl ?_
                                                        refine At.y (Y.ld (.s .z) (q := 0) rfl rfl h4827.1 h4827.2 rfl rfl rfl) rfl rfl rfl ?_
                                                        refine At.HO.back (.c .z (.c (.s .z) (.c (.s .z) (.c (.s .z) (.c (.s .z) (.c (.s .z) (.c (.s .z) .n))))))) ?_
                                                        refine At.H.all [20] (by kernel_rfl) rfl (all_cons ?_ all_nil)
                                                        · · refine At.HO.op rfl ?_
                                                            refine At.y (Y.ix (.s .z) rfl rfl rfl rfl rfl rfl h4827.1 h4827.2) rfl rfl rfl ?_
                                                            refine At.HO.back (.c .z (.c (.s .z) (.c (.s .z) (.c (.s .z) (.c (.s .z) (.c (.s .z) (.c (.s .z) .n))))))) ?_
                                                            refine At.H.all [21] (by kernel_rfl) rfl (all_cons ?_ all_nil)
                                                            · · refine At.HO.op rfl ?_
                                                                refine At.st rfl (.s .z) (q := 0) (z := (gt x4174 (IntKind.i64.wrap (IntKind.i64.wrap (((((([] : List Int) ++ a1_1) ++ ([0] : List Int)).take (a1_1.length : Int).toNat).length : Int) - 1) - x4175)))) rfl rfl rfl h4827.1 h4827.2 rfl rfl (.c .n) ?_
                                                                refine At.HO.back (.c (.s .z) (.c (.s .z) (.c (.s .z) (.c (.s .z) (.c (.s .z) (.c (.s .z) (.c (.s .z) .n))))))) ?_
                                                                refine At.H.all [22] (by kernel_rfl) rfl (all_cons ?_ all_nil)
                                                                · · refine At.HO.op rfl ?_
                                                                    refine At.y (Y.ix .z rfl rfl rfl rfl rfl rfl h4826.1 h4826.2) rfl rfl rfl ?_
                                                                    refine At.HO.back (.c (.s .z) (.c (.s .z) (.c (.s .z) (.c (.s .z) (.c (.s .z) (.c (.s .z) (.c (.s .z) .n))))))) ?_
                                                                    refine At.H.all [23] (by kernel_rfl) rfl (all_cons ?_ all_nil)
                                                                    · · refine At.HO.op rfl ?_
                                                                        refine At.st rfl .z (q := 0) (z := (gt x4174 x4175)) rfl rfl rfl h4826.1 h4826.2 rfl rfl (.c .n) ?_
                                                                        refine At.HO.back (.c (.s .z) (.c (.s .z) (.c (.s .z) (.c (.s .z) (.c (.s .z) (.c (.s .z) (.c (.s .z) .n))))))) ?_
                                                                        refine At.H.done (by kernel_rfl) ?_
                                                                        exact At.of (J4821 () trivial) ⟨rfl, rfl, rfl, rfl, rfl, rfl, rfl, trivial⟩
                                                · · refine At.HO.op rfl ?_
                                                    refine At.y (Y.ld (.s .z) (q := 0) rfl rfl h4827.1 h4827.2 rfl rfl rfl) rfl rfl rfl ?_
                                                    refine At.HO.back (.c .z (.c (.s .z) (.c (.s .z) (.c (.s .z) (.c (.s .z) (.c (.s .z) (.c (.s .z) .n))))))) ?_
                                                    refine At.H.all [15] (by kernel_rfl) rfl (all_cons ?_ all_nil)
                                                    · · refine At.HO.op rfl ?_
                                                        refine At.y (Y.ld (.s .z) (q := 0) rfl rfl h4826.1 h4826.2 rfl rfl rfl) rfl rfl rfl ?_
                                                        refine At.HO.back (.c .z (.c (.s .z) (.c (.s .z) (.c (.s .z) (.c (.s .z) (.c (.s .z) (.c (.s .z) .n))))))) ?_
                                                        refine At.H.all [20] (by kernel_rfl) rfl (all_cons ?_ all_nil)
                                                        · · refine At.HO.op rfl ?_
                                                            refine At.y (Y.ix (.s .z) rfl rfl rfl rfl rfl rfl h4827.1 h4827.2) rfl rfl rfl ?_
                                                            refine At.HO.back (.c .z (.c (.s .z) (.c (.s .z) (.c (.s .z) (.c (.s .z) (.c (.s .z) (.c (.s .z) .n))))))) ?_
                                                            refine At.H.all [21] (by kernel_rfl) rfl (all_cons ?_ all_nil)
                                                            · · refine At.HO.op rfl ?_
                                                                refine At.st rfl (.s .z) (q := 0) (z := (gt x4174 (IntKind.i64.wrap (IntKind.i64.wrap (((((([] : List Int) ++ a1_1) ++ ([0] : List Int)).take (a1_1.length : Int).toNat).length : Int) - 1) - x4175)))) rfl rfl rfl h4827.1 h4827.2 rfl rfl (.c .n) ?_
                                                                refine At.HO.back (.c (.s .z) (.c (.s .z) (.c (.s .z) (.c (.s .z) (.c (.s .z) (.c (.s .z) (.c (.s .z) .n))))))) ?_
                                                                refine At.H.all [22] (by kernel_rfl) rfl (all_cons ?_ all_nil)
                                                                · · refine At.HO.op rfl ?_
                                                                    refine At.y (Y.ix .z rfl rfl rfl rfl rfl rfl h4826.1 h4826.2) rfl rfl rfl ?_
                                                                    refine At.HO.back (.c (.s .z) (.c (.s .z) (.c (.s .z) (.c (.s .z) (.c (.s .z) (.c (.s .z) (.c (.s .z) .n))))))) ?_
                                                                    refine At.H.all [23] (by kernel_rfl) rfl (all_cons ?_ all_nil)
                                                                    · · refine At.HO.op rfl ?_
                                                                        refine At.st rfl .z (q := 0) (z := (gt x4174 x4175)) rfl rfl rfl h4826.1 h4826.2 rfl rfl (.c .n) ?_
                                                                        refine At.HO.back (.c (.s .z) (.c (.s .z) (.c (.s .z) (.c (.s .z) (.c (.s .z) (.c (.s .z) (.c (.s .z) .n))))))) ?_
                                                                        refine At.H.done (by kernel_rfl) ?_
                                                                        exact At.of (J4821 () trivial) ⟨rfl, rfl, rfl, rfl, rfl, rfl, rfl, trivial⟩
                                        · · refine At.HO.op rfl ?_
                                            refine At.y (Y.ix (.s .z) rfl rfl rfl rfl rfl rfl h4827.1 h4827.2) rfl rfl rfl ?_
                                            refine At.HO.back (.c .z (.c (.s .z) (.c (.s .z) (.c (.s .z) (.c (.s .z) (.c (.s .z) (.c (.s .z) .n))))))) ?_
                                            refine At.H.all [14, 19] (by kernel_rfl) rfl (all_cons ?_ (all_cons ?_ all_nil))
                                            · · refine At.HO.op rfl ?_
                                                refine At.y (Y.ix (.s .z) rfl rfl rfl rfl rfl rfl h4826.1 h4826.2) rfl rfl rfl ?_
                                                refine At.HO.back (.c .z (.c (.s .z) (.c (.s .z) (.c (.s .z) (.c (.s .z) (.c (.s .z) (.c (.s .z) .n))))))) ?_
                                                refine At.H.all [15, 19] (by kernel_rfl) rfl (all_cons ?_ (all_cons ?_ all_nil))
                                                · · refine At.HO.op rfl ?_
                                                    refine At.y (Y.ld (.s .z) (q := 0) rfl rfl h4826.1 h4826.2 rfl rfl rfl) rfl rfl rfl ?_
                                                    refine At.HO.back (.c .z (.c (.s .z) (.c (.s .z) (.c (.s .z) (.c (.s .z) (.c (.s .z) (.c (.s .z) .n))))))) ?_
                                                    refine At.H.all [19] (by kernel_rfl) rfl (all_cons ?_ all_nil)
                                                    · · refine At.HO.op rfl ?_
                                                        refine At.y (Y.ld (.s .z) (q := 0) rfl rfl h4827.1 h4827.2 rfl rfl rfl) rfl rfl rfl ?_
                                                        refine At.HO.back (.c .z (.c (.s .z) (.c (.s .z) (.c (.s .z) (.c (.s .z) (.c (.s .z) (.c (.s .z) .n))))))) ?_
                                                        refine At.H.all [20] (by kernel_rfl) rfl (all_cons ?_ all_nil)
                                                        · · refine At.HO.op rfl ?_
                                                            refine At.y (Y.ix (.s .z) rfl rfl rfl rfl rfl rfl h4827.1 h4827.2) rfl rfl rfl ?_
                                                            refine At.HO.back (.c .z (.c (.s .z) (.c (.s .z) (.c (.s .z) (.c (.s .z) (.c (.s .z) (.c (.s .z) .n))))))) ?_
                                                            refine At.H.all [21] (by kernel_rfl) rfl (all_cons ?_ all_nil)
                                                            · · refine At.HO.op rfl ?_
                                                                refine At.st rfl (.s .z) (q := 0) (z := (gt x4174 (IntKind.i64.wrap (IntKind.i64.wrap (((((([] : List Int) ++ a1_1) ++ ([0] : List Int)).take (a1_1.length : Int).toNat).length : Int) - 1) - x4175)))) rfl rfl rfl h4827.1 h4827.2 rfl rfl (.c .n) ?_
                                                                refine At.HO.back (.c (.s .z) (.c (.s .z) (.c (.s .z) (.c (.s .z) (.c (.s .z) (.c (.s .z) (.c (.s .z) .n))))))) ?_
                                                                refine At.H.all [22] (by kernel_rfl) rfl (all_cons ?_ all_nil)
                                                                · · refine At.HO.op rfl ?_
                                                                    refine At.y (Y.ix .z rfl rfl rfl rfl rfl rfl h4826.1 h4826.2) rfl rfl rfl ?_
                                                                    refine At.HO.back (.c (.s .z) (.c (.s .z) (.c (.s .z) (.c (.s .z) (.c (.s .z) (.c (.s .z) (.c (.s .z) .n))))))) ?_
                                                                    refine At.H.all [23] (by kernel_rfl) rfl (all_cons ?_ all_nil)
                                                                    · · refine At.HO.op rfl ?_
                                                                        refine At.st rfl .z (q := 0) (z := (gt x4174 x4175)) rfl rfl rfl h4826.1 h4826.2 rfl rfl (.c .n) ?_
                                                                        refine At.HO.back (.c (.s .z) (.c (.s .z) (.c (.s .z) (.c (.s .z) (.c (.s .z) (.c (.s .z) (.c (.s .z) .n))))))) ?_
                                                                        refine At.H.done (by kernel_rfl) ?_
                                                                        exact At.of (J4821 () trivial) ⟨rfl, rfl, rfl, rfl, rfl, rfl, rfl, trivial⟩
                                                · · refine At.HO.op rfl ?_
                                                    refine At.y (Y.ld (.s .z) (q := 0) rfl rfl h4827.1 h4827.2 rfl rfl rfl) rfl rfl rfl ?_
                                                    refine At.HO.back (.c .z (.c (.s .z) (.c (.s .z) (.c (.s .z) (.c (.s .z) (.c (.s .z) (.c (.s .z) .n))))))) ?_
                                                    refine At.H.all [15] (by kernel_rfl) rfl (all_cons ?_ all_nil)
                                                    · · refine At.HO.op rfl ?_
                                                        refine At.y (Y.ld (.s .z) (q := 0) rfl rfl h4826.1 h4826.2 rfl rfl rfl) rfl rfl rfl ?_
                                                        refine At.HO.back (.c .z (.c (.s .z) (.c (.s .z) (.c (.s .z) (.c (.s .z) (.c (.s .z) (.c (.s .z) .n))))))) ?_
                                                        refine At.H.all [20] (by kernel_rfl) rfl (all_cons ?_ all_nil)
                                                        · · refine At.HO.op rfl ?_
                                                            refine At.y (Y.ix (.s .z) rfl rfl rfl rfl rfl rfl h4827.1 h4827.2) rfl rfl rfl ?_
                                                            refine At.HO.back (.c .z (.c (.s .z) (.c (.s .z) (.c (.s .z) (.c (.s .z) (.c (.s .z) (.c (.s .z) .n))))))) ?_
                                                            refine At.H.all [21] (by kernel_rfl) rfl (all_cons ?_ all_nil)
                                                            · · refine At.HO.op rfl ?_
                                                                refine At.st rfl (.s .z) (q := 0) (z := (gt x4174 (IntKind.i64.wrap (IntKind.i64.wrap (((((([] : List Int) ++ a1_1) ++ ([0] : List Int)).take (a1_1.length : Int).toNat).length : Int) - 1) - x4175)))) rfl rfl rfl h4827.1 h4827.2 rfl rfl (.c .n) ?_
                                                                refine At.HO.back (.c (.s .z) (.c (.s .z) (.c (.s .z) (.c (.s .z) (.c (.s .z) (.c (.s .z) (.c (.s .z) .n))))))) ?_
                                                                refine At.H.all [22] (by kernel_rfl) rfl (all_cons ?_ all_nil)
                                                                · · refine At.HO.op rfl ?_
                                                                    refine At.y (Y.ix .z rfl rfl rfl rfl rfl rfl h4826.1 h4826.2) rfl rfl rfl ?_
                                                                    refine At.HO.back (.c (.s .z) (.c (.s .z) (.c (.s .z) (.c (.s .z) (.c (.s .z) (.c (.s .z) (.c (.s .z) .n))))))) ?_
                                                                    refine At.H.all [23] (by kernel_rfl) rfl (all_cons ?_ all_nil)
                                                                    · · refine At.HO.op rfl ?_
                                                                        refine At.st rfl .z (q := 0) (z := (gt x4174 x4175)) rfl rfl rfl h4826.1 h4826.2 rfl rfl (.c .n) ?_
                                                                        refine At.HO.back (.c (.s .z) (.c (.s .z) (.c (.s .z) (.c (.s .z) (.c (.s .z) (.c (.s .z) (.c (.s .z) .n))))))) ?_
                                                                        refine At.H.done (by kernel_rfl) ?_
                                                                        exact At.of (J4821 () trivial) ⟨rfl, rfl, rfl, rfl, rfl, rfl, rfl, trivial⟩
                                            · · refine At.HO.op rfl ?_
                                                refine At.y (Y.ld (.s .z) (q := 0) rfl rfl h4827.1 h4827.2 rfl rfl rfl) rfl rfl rfl ?_
                                                refine At.HO.back (.c .z (.c (.s .z) (.c (.s .z) (.c (.s .z) (.c (.s .z) (.c (.s .z) (.c (.s .z) .n))))))) ?_
                                                refine At.H.all [14] (by kernel_rfl) rfl (all_cons ?_ all_nil)
                                                · · refine At.HO.op rfl ?_
                                                    refine At.y (Y.ix (.s .z) rfl rfl rfl rfl rfl rfl h4826.1 h4826.2) rfl rfl rfl ?_
                                                    refine At.HO.back (.c .z (.c (.s .z) (.c (.s .z) (.c (.s .z) (.c (.s .z) (.c (.s .z) (.c (.s .z) .n))))))) ?_
                                                    refine At.H.all [15] (by kernel_rfl) rfl (all_cons ?_ all_nil)
                                                    · · refine At.HO.op rfl ?_
                                                        refine At.y (Y.ld (.s .z) (q := 0) rfl rfl h4826.1 h4826.2 rfl rfl rfl) rfl rfl rfl ?_
                                                        refine At.HO.back (.c .z (.c (.s .z) (.c (.s .z) (.c (.s .z) (.c (.s .z) (.c (.s .z) (.c (.s .z) .n))))))) ?_
                                                        refine At.H.all [20] (by kernel_rfl) rfl (all_cons ?_ all_nil)
                                                        · · refine At.HO.op rfl ?_
                                                            refine At.y (Y.ix (.s .z) rfl rfl rfl rfl rfl rfl h4827.1 h4827.2) rfl rfl rfl ?_
                                                            refine At.HO.back (.c .z (.c (.s .z) (.c (.s .z) (.c (.s .z) (.c (.s .z) (.c (.s .z) (.c (.s .z) .n))))))) ?_
                                                            refine At.H.all [21] (by kernel_rfl) rfl (all_cons ?_ all_nil)
                                                            · · refine At.HO.op rfl ?_
                                                                refine At.st rfl (.s .z) (q := 0) (z := (gt x4174 (IntKind.i64.wrap (IntKind.i64.wrap (((((([] : List Int) ++ a1_1) ++ ([0] : List Int)).take (a1_1.length : Int).toNat).length : Int) - 1) - x4175)))) rfl rfl rfl h4827.1 h4827.2 rfl rfl (.c .n) ?_
                                                                refine At.HO.back (.c (.s .z) (.c (.s .z) (.c (.s .z) (.c (.s .z) (.c (.s .z) (.c (.s .z) (.c (.s .z) .n))))))) ?_
                                                                refine At.H.all [22] (by kernel_rfl) rfl (all_cons ?_ all_nil)
                                                                · · refine At.HO.op rfl ?_
                                                                    refine At.y (Y.ix .z rfl rfl rfl rfl rfl rfl h4826.1 h4826.2) rfl rfl rfl ?_
                                                                    refine At.HO.back (.c (.s .z) (.c (.s .z) (.c (.s .z) (.c (.s .z) (.c (.s .z) (.c (.s .z) (.c (.s .z) .n))))))) ?_
                                                                    refine At.H.all [23] (by kernel_rfl) rfl (all_cons ?_ all_nil)
                                                                    · · refine At.HO.op rfl ?_
                                                                        refine At.st rfl .z (q := 0) (z := (gt x4174 x4175)) rfl rfl rfl h4826.1 h4826.2 rfl rfl (.c .n) ?_
                                                                        refine At.HO.back (.c (.s .z) (.c (.s .z) (.c (.s .z) (.c (.s .z) (.c (.s .z) (.c (.s .z) (.c (.s .z) .n))))))) ?_
                                                                        refine At.H.done (by kernel_rfl) ?_
                                                                        exact At.of (J4821 () trivial) ⟨rfl, rfl, rfl, rfl, rfl, rfl, rfl, trivial⟩
                                  · · refine At.condF rfl (decide_eq_false h4620) ?_
                                      refine At.exit ?_
                                      refine At.the ?_
                                      refine At.the ?_
                                      exact fun a w e hs => J4387 x4174 (bdn hrun ho4382) a w (e.sub ⟨rfl, rfl, rfl, rfl, rfl, trivial⟩) hs
                          · clear hit3569 m3567
                            rintro m3567 ⟨x3358, x3359⟩ hit3569
                            obtain ⟨m3568, f_, hlt3570, hf_, hrun⟩ := bit hit3569
                            clear hit3569
                            have hrun : (bailifflaw16_JudgeBlind.l2b a1_0 x3358 x3359).bind _ = some o3564 := hrun
                            unfold bailifflaw16_JudgeBlind.l2b at hrun
                            · refine At.seq ?_
                              refine At.seq ?_
                              refine At.region ?_
                              refine At.run 3 rfl ?_
                              refine At.y (Y.quo rfl rfl (by decide)) rfl rfl rfl ?_
                              refine At.run 1 rfl ?_
                              refine At.nil ?_
                              refine At.thn ?_
                              rcases bite hrun with ⟨h4828, hrun⟩ | ⟨h4828, hrun⟩
                              · · refine At.condT rfl (decide_eq_true h4828) ?_
                                  refine At.skip ?_
                                  refine At.thn ?_
                                  refine At.seq ?_
                                  refine At.block ?_
                                  refine At.held [row (Fl.int .i64) 3 w475 ((((([] : List Int) ++ a1_1) ++ ([0] : List Int)).take (a1_1.length : Int).toNat).length) w476 (((([] : List Int) ++ a1_1) ++ ([0] : List Int)).take (a1_1.length : Int).toNat), row (Fl.int .i64) 3 w693 x690.length w694 x690, row (Fl.int .i64) 3 w902 x899.length w903 x899, pt b485 (.cells [.slice w479 ((((([] : List Int) ++ a1_0) ++ ([0] : List Int)).take (a1_0.length : Int).toNat).length) w480, .slice w475 ((((([] : List Int) ++ a1_1) ++ ([0] : List Int)).take (a1_1.length : Int).toNat).length) w476, .slice w693 x690.length w694, .slice w902 x899.length w903].toArray 39), pt b264 (.cells [.int .i64 t262.1, .int .i64 t262.2.1, .int .i64 t262.2.2].toArray 44), pt b259 (.cells [.slice A1_0 a1_0.length c1_0, .slice A1_1 a1_1.length c1_1, .slice A1_2 a1_2.length c1_2, .slice A1_3 a1_3.length c1_3].toArray 39), pt b258 (.cells [.slice A0_0 a0_0.length c0_0, .slice A0_1 a0_1.length c0_1, .slice A0_2 a0_2.length c0_2].toArray 36)] 24 rfl ?_
                                  refine At.H.pv 0 rfl (by kernel_rfl) (by kernel_rfl) (by kernel_rfl) rfl rfl rfl rfl (.c (.s .z) (.c (.s .z) (.c (.s .z) (.c (.s .z) (.c (.s .z) (.c (.s .z) (.c (.s .z) .n))))))) ?_
                                  refine At.H.pv 1 rfl (by kernel_rfl) (by kernel_rfl) (by kernel_rfl) rfl rfl rfl rfl (.c (.s .z) (.c (.s .z) (.c (.s .z) (.c (.s .z) (.c (.s .z) (.c (.s .z) (.c (.s .z) .n))))))) ?_
                                  refine At.H.pv 2 rfl (by kernel_rfl) (by kernel_rfl) (by kernel_rfl) rfl rfl rfl rfl (.c (.s .z) (.c (.s .z) (.c (.s .z) (.c (.s .z) (.c (.s .z) (.c (.s .z) (.c (.s .z) .n))))))) ?_
                                  refine At.H.pv 3 rfl (by kernel_rfl) (by kernel_rfl) (by kernel_rfl) rfl rfl rfl rfl (.c (.s .z) (.c (.s .z) (.c (.s .z) (.c (.s .z) (.c (.s .z) (.c (.s .z) (.c (.s .z) .n))))))) ?_
                                  refine At.H.pv 4 rfl (by kernel_rfl) (by kernel_rfl) (by kernel_rfl) rfl rfl rfl rfl (.c (.s .z) (.c (.s .z) (.c (.s .z) (.c (.s .z) (.c (.s .z) (.c (.s .z) (.c (.s .z) .n))))))) ?_
                                  refine At.H.pv 5 rfl (by kernel_rfl) (by kernel_rfl) (by kernel_rfl) rfl rfl rfl rfl (.c (.s .z) (.c (.s .z) (.c (.s .z) (.c (.s .z) (.c (.s .z) (.c (.s .z) (.c (.s .z) .n))))))) ?_
                                  refine At.H.pv 6 rfl (by kernel_rfl) (by kernel_rfl) (by kernel_rfl) rfl rfl rfl rfl (.c (.s .z) (.c (.s .z) (.c (.s .z) (.c (.s .z) (.c (.s .z) (.c (.s .z) (.c (.s .z) .n))))))) ?_
                                  refine At.H.pv 7 rfl (by kernel_rfl) (by kernel_rfl) (by kernel_rfl) rfl rfl rfl rfl (.c (.s .z) (.c (.s .z) (.c (.s .z) (.c (.s .z) (.c (.s .z) (.c (.s .z) (.c (.s .z) .n))))))) ?_
                                  refine At.H.pv 8 rfl (by kernel_rfl) (by kernel_rfl) (by kernel_rfl) rfl rfl rfl rfl (.c (.s .z) (.c (.s .z) (.c (.s .z) (.c (.s .z) (.c (.s .z) (.c (.s .z) (.c (.s .z) .n))))))) ?_
                                  refine At.H.pv 9 rfl (by kernel_rfl) (by kernel_rfl) (by kernel_rfl) rfl rfl rfl rfl (.c (.s .z) (.c (.s .z) (.c (.s .z) (.c (.s .z) (.c (.s .z) (.c (.s .z) (.c (.s .z) .n))))))) ?_
                                  refine At.H.pv 10 rfl (by kernel_rfl) (by kernel_rfl) (by kernel_rfl) rfl rfl rfl rfl (.c (.s .z) (.c (.s .z) (.c (.s .z) (.c (.s .z) (.c (.s .z) (.c (.s .z) (.c (.s .z) .n))))))) ?_
                                  refine At.H.pv 11 rfl (by kernel_rfl) (by kernel_rfl) (by kernel_rfl) rfl rfl rfl rfl (.c (.s .z) (.c (.s .z) (.c (.s .z) (.c (.s .z) (.c (.s .z) (.c (.s .z) (.c (.s .z) .n))))))) ?_
                                  refine At.H.pv 12 rfl (by kernel_rfl) (by kernel_rfl) (by kernel_rfl) rfl rfl rfl rfl (.c (.s .z) (.c (.s .z) (.c (.s .z) (.c (.s .z) (.c (.s .z) (.c (.s .z) (.c (.s .z) .n))))))) ?_
                                  refine At.H.pv 13 rfl (by kernel_rfl) (by kernel_rfl) (by kernel_rfl) rfl rfl rfl rfl (.c (.s .z) (.c (.s .z) (.c (.s .z) (.c (.s .z) (.c (.s .z) (.c (.s .z) (.c (.s .z) .n))))))) ?_
                                  refine At.H.pv 16 rfl (by kernel_rfl) (by kernel_rfl) (by kernel_rfl) rfl rfl rfl rfl (.c (.s .z) (.c (.s .z) (.c (.s .z) (.c (.s .z) (.c (.s .z) (.c (.s .z) (.c (.s .z) .n))))))) ?_
                                  refine At.H.pv 17 rfl (by kernel_rfl) (by kernel_rfl) (by kernel_rfl) rfl rfl rfl rfl (.c (.s .z) (.c (.s .z) (.c (.s .z) (.c (.s .z) (.c (.s .z) (.c (.s .z) (.c (.s .z) .n))))))) ?_
                                  obtain ⟨h5034, hrun⟩ := bnone hrun
                                  obtain ⟨h5035, hrun⟩ := bnone hrun
                                  refine At.H.joinK (X := Unit) (fun _ => [(3, .pointer (some ⟨b258, 0, none⟩)), (8, .pointer (some ⟨b264, 0, none⟩)), (9, .pointer (some ⟨b485, 0, none⟩)), (13, .bool (decide (t928.1 = t262.1) && (decide (t928.2.1 = t262.2.1) && (decide (t928.2.2 = t262.2.2) && true)))), (17, .int .i64 0), (18, .slice w479 ((((([] : List Int) ++ a1_0) ++ ([0] : List Int)).take (a1_0.length : Int).toNat).length) w480), (19, .int .i64 x3359)]) (fun _ => row (Fl.int .i64) 3 w479 ((((([] : List Int) ++ a1_0) ++ ([0] : List Int)).take (a1_0.length : Int).toNat).length) w480 (st (st x3358 x3359 (gt x3358 (IntKind.i64.wrap (IntKind.i64.wrap (((((([] : List Int) ++ a1_0) ++ ([0] : List Int)).take (a1_0.length : Int).toNat).length : Int) - 1) - x3359)))) (IntKind.i64.wrap (IntKind.i64.wrap (((((([] : List Int) ++ a1_0) ++ ([0] : List Int)).take (a1_0.length : Int).toNat).length : Int) - 1) - x3359)) (gt x3358 x3359)) :: row (Fl.int .i64) 3 w475 ((((([] : List Int) ++ a1_1) ++ ([0] : List Int)).take (a1_1.length : Int).toNat).length) w476 (((([] : List Int) ++ a1_1) ++ ([0] : List Int)).take (a1_1.length : Int).toNat) :: row (Fl.int .i64) 3 w693 x690.length w694 x690 :: row (Fl.int .i64) 3 w902 x899.length w903 x899 :: pt b485 (.cells [.slice w479 ((((([] : List Int) ++ a1_0) ++ ([0] : List Int)).take (a1_0.length : Int).toNat).length) w480, .slice w475 ((((([] : List Int) ++ a1_1) ++ ([0] : List Int)).take (a1_1.length : Int).toNat).length) w476, .slice w693 x690.length w694, .slice w902 x899.length w903].toArray 39) :: pt b264 (.cells [.int .i64 t262.1, .int .i64 t262.2.1, .int .i64 t262.2.2].toArray 44) :: pt b259 (.cells [.slice A1_0 a1_0.length c1_0, .slice A1_1 a1_1.length c1_1, .slice A1_2 a1_2.length c1_2, .slice A1_3 a1_3.length c1_3].toArray 39) :: pt b258 (.cells [.slice A0_0 a0_0.length c0_0, .slice A0_1 a0_1.length c0_1, .slice A0_2 a0_2.length c0_2].toArray 36) :: Fr) (fun _ => True) ?_ (fun J5029 => ?_)
                                  · rintro _ -
                                    · refine At.ibn ?_
                                      refine At.thn ?_
                                      refine At.region ?_
                                      refine At.run 3 rfl ?_
                                      refine At.nil ?_
                                      have hrun := bnx hf_ hrun
                                      exact fun a w e hs => ⟨m3568, ((st (st x3358 x3359 (gt x3358 (IntKind.i64.wrap (IntKind.i64.wrap (((((([] : List Int) ++ a1_0) ++ ([0] : List Int)).take (a1_0.length : Int).toNat).length : Int) - 1) - x3359)))) (IntKind.i64.wrap (IntKind.i64.wrap (((((([] : List Int) ++ a1_0) ++ ([0] : List Int)).take (a1_0.length : Int).toNat).length : Int) - 1) - x3359)) (gt x3358 x3359)), IntKind.i64.wrap (x3359 + 1)), hlt3570, hrun, e.sub ⟨rfl, rfl, rfl, rfl, rfl, rfl, rfl, trivial⟩, hs⟩
                                  · refine At.H.all [14, 18] (by kernel_rfl) rfl (all_cons ?_ (all_cons ?_ all_nil))
                                    · · refine At.HO.op rfl ?_
                                        refine At.y (Y.ix .z rfl rfl rfl rfl rfl rfl h5034.1 h5034.2) rfl rfl rfl ?_
                                        refine At.HO.back (.c (.s .z) (.c (.s .z) (.c (.s .z) (.c (.s .z) (.c (.s .z) (.c (.s .z) (.c (.s .z) .n))))))) ?_
                                        refine At.H.all [15, 18] (by kernel_rfl) rfl (all_cons ?_ (all_cons ?_ all_nil))
                                        · · refine At.HO.op rfl ?_
                                            refine At.y (Y.ld .z (q := 0) rfl rfl h5034.1 h5034.2 rfl rfl rfl) rfl rfl rfl ?_
                                            refine At.HO.back (.c (.s .z) (.c (.s .z) (.c (.s .z) (.c (.s .z) (.c (.s .z) (.c (.s .z) (.c (.s .z) .n))))))) ?_
                                            refine At.H.all [18] (by kernel_rfl) rfl (all_cons ?_ all_nil)
                                            · · refine At.HO.op rfl ?_
                                                refine At.y (Y.ix .z rfl rfl rfl rfl rfl rfl h5035.1 h5035.2) rfl rfl rfl ?_
                                                refine At.HO.back (.c (.s .z) (.c (.s .z) (.c (.s .z) (.c (.s .z) (.c (.s .z) (.c (.s .z) (.c (.s .z) .n))))))) ?_
                                                refine At.H.all [19] (by kernel_rfl) rfl (all_cons ?_ all_nil)
                                                · · refine At.HO.op rfl ?_
                                                    refine At.y (Y.ld .z (q := 0) rfl rfl h5035.1 h5035.2 rfl rfl rfl) rfl rfl rfl ?_
                                                    refine At.HO.back (.c (.s .z) (.c (.s .z) (.c (.s .z) (.c (.s .z) (.c (.s .z) (.c (.s .z) (.c (.s .z) .n))))))) ?_
                                                    refine At.H.all [20] (by kernel_rfl) rfl (all_cons ?_ all_nil)
                                                    · · refine At.HO.op rfl ?_
                                                        refine At.y (Y.ix .z rfl rfl rfl rfl rfl rfl h5035.1 h5035.2) rfl rfl rfl ?_
                                                        refine At.HO.back (.c (.s .z) (.c (.s .z) (.c (.s .z) (.c (.s .z) (.c (.s .z) (.c (.s .z) (.c (.s .z) .n))))))) ?_
                                                        refine At.H.all [21] (by kernel_rfl) rfl (all_cons ?_ all_nil)
                                                        · · refine At.HO.op rfl ?_
                                                            refine At.st rfl .z (q := 0) (z := (gt x3358 (IntKind.i64.wrap (IntKind.i64.wrap (((((([] : List Int) ++ a1_0) ++ ([0] : List Int)).take (a1_0.length : Int).toNat).length : Int) - 1) - x3359)))) rfl rfl rfl h5035.1 h5035.2 rfl rfl (.c .n) ?_
                                                            refine At.HO.back (.c (.s .z) (.c (.s .z) (.c (.s .z) (.c (.s .z) (.c (.s .z) (.c (.s .z) (.c (.s .z) .n))))))) ?_
                                                            refine At.H.all [22] (by kernel_rfl) rfl (all_cons ?_ all_nil)
                                                            · · refine At.HO.op rfl ?_
                                                                refine At.y (Y.ix .z rfl rfl rfl rfl rfl rfl h5034.1 h5034.2) rfl rfl rfl ?_
                                                                refine At.HO.back (.c (.s .z) (.c (.s .z) (.c (.s .z) (.c (.s .z) (.c (.s .z) (.c (.s .z) (.c (.s .z) .n))))))) ?_
                                                                refine At.H.all [23] (by kernel_rfl) rfl (all_cons ?_ all_nil)
                                                                · · refine At.HO.op rfl ?_
                                                                    refine At.st rfl .z (q := 0) (z := (gt x3358 x3359)) rfl rfl rfl h5034.1 h5034.2 rfl rfl (.c .n) ?_
                                                                    refine At.HO.back (.c (.s .z) (.c (.s .z) (.c (.s .z) (.c (.s .z) (.c (.s .z) (.c (.s .z) (.c (.s .z) .n))))))) ?_
                                                                    refine At.H.done (by kernel_rfl) ?_
                                                                    exact At.of (J5029 () trivial) ⟨rfl, rfl, rfl, rfl, rfl, rfl, rfl, trivial⟩
                                        · · refine At.HO.op rfl ?_
                                            refine At.y (Y.ix .z rfl rfl rfl rfl rfl rfl h5035.1 h5035.2) rfl rfl rfl ?_
                                            refine At.HO.back (.c (.s .z) (.c (.s .z) (.c (.s .z) (.c (.s .z) (.c (.s .z) (.c (.s .z) (.c (.s .z) .n))))))) ?_
                                            refine At.H.all [15, 19] (by kernel_rfl) rfl (all_cons ?_ (all_cons ?_ all_nil))
                                            · · refine At.HO.op rfl ?_
                                                refine At.y (Y.ld .z (q := 0) rfl rfl h5034.1 h5034.2 rfl rfl rfl) rfl rfl rfl ?_
                                                refine At.HO.back (.c (.s .z) (.c (.s .z) (.c (.s .z) (.c (.s .z) (.c (.s .z) (.c (.s .z) (.c (.s .z) .n))))))) ?_
                                                refine At.H.all [19] (by kernel_rfl) rfl (all_cons ?_ all_nil)
                                                · · refine At.HO.op rfl ?_
                                                    refine At.y (Y.ld .z (q := 0) rfl rfl h5035.1 h5035.2 rfl rfl rfl) rfl rfl rfl ?_
                                                    refine At.HO.back (.c (.s .z) (.c (.s .z) (.c (.s .z) (.c (.s .z) (.c (.s .z) (.c (.s .z) (.c (.s .z) .n))))))) ?_
                                                    refine At.H.all [20] (by kernel_rfl) rfl (all_cons ?_ all_nil)
                                                    · · refine At.HO.op rfl ?_
                                                        refine At.y (Y.ix .z rfl rfl rfl rfl rfl rfl h5035.1 h5035.2) rfl rfl rfl ?_
                                                        refine At.HO.back (.c (.s .z) (.c (.s .z) (.c (.s .z) (.c (.s .z) (.c (.s .z) (.c (.s .z) (.c (.s .z) .n))))))) ?_
                                                        refine At.H.all [21] (by kernel_rfl) rfl (all_cons ?_ all_nil)
                                                        · · refine At.HO.op rfl ?_
                                                            refine At.st rfl .z (q := 0) (z := (gt x3358 (IntKind.i64.wrap (IntKind.i64.wrap (((((([] : List Int) ++ a1_0) ++ ([0] : List Int)).take (a1_0.length : Int).toNat).length : Int) - 1) - x3359)))) rfl rfl rfl h5035.1 h5035.2 rfl rfl (.c .n) ?_
                                                            refine At.HO.back (.c (.s .z) (.c (.s .z) (.c (.s .z) (.c (.s .z) (.c (.s .z) (.c (.s .z) (.c (.s .z) .n))))))) ?_
                                                            refine At.H.all [22] (by kernel_rfl) rfl (all_cons ?_ all_nil)
                                                            · · refine At.HO.op rfl ?_
                                                                refine At.y (Y.ix .z rfl rfl rfl rfl rfl rfl h5034.1 h5034.2) rfl rfl rfl ?_
                                                                refine At.HO.back (.c (.s .z) (.c (.s .z) (.c (.s .z) (.c (.s .z) (.c (.s .z) (.c (.s .z) (.c (.s .z) .n))))))) ?_
                                                                refine At.H.all [23] (by kernel_rfl) rfl (all_cons ?_ all_nil)
                                                                · · refine At.HO.op rfl ?_
                                                                    refine At.st rfl .z (q := 0) (z := (gt x3358 x3359)) rfl rfl rfl h5034.1 h5034.2 rfl rfl (.c .n) ?_
                                                                    refine At.HO.back (.c (.s .z) (.c (.s .z) (.c (.s .z) (.c (.s .z) (.c (.s .z) (.c (.s .z) (.c (.s .z) .n))))))) ?_
                                                                    refine At.H.done (by kernel_rfl) ?_
                                                                    exact At.of (J5029 () trivial) ⟨rfl, rfl, rfl, rfl, rfl, rfl, rfl, trivial⟩
                                            · · refine At.HO.op rfl ?_
                                                refine At.y (Y.ld .z (q := 0) rfl rfl h5035.1 h5035.2 rfl rfl rfl) rfl rfl rfl ?_
                                                refine At.HO.back (.c (.s .z) (.c (.s .z) (.c (.s .z) (.c (.s .z) (.c (.s .z) (.c (.s .z) (.c (.s .z) .n))))))) ?_
                                                refine At.H.all [15] (by kernel_rfl) rfl (all_cons ?_ all_nil)
                                                · · refine At.HO.op rfl ?_
                                                    refine At.y (Y.ld .z (q := 0) rfl rfl h5034.1 h5034.2 rfl rfl rfl) rfl rfl rfl ?_
                                                    refine At.HO.back (.c (.s .z) (.c (.s .z) (.c (.s .z) (.c (.s .z) (.c (.s .z) (.c (.s .z) (.c (.s .z) .n))))))) ?_
                                                    refine At.H.all [20] (by kernel_rfl) rfl (all_cons ?_ all_nil)
                                                    · · refine At.HO.op rfl ?_
                                                        refine At.y (Y.ix .z rfl rfl rfl rfl rfl rfl h5035.1 h5035.2) rfl rfl rfl ?_
                                                        refine At.HO.back (.c (.s .z) (.c (.s .z) (.c (.s .z) (.c (.s .z) (.c (.s .z) (.c (.s .z) (.c (.s .z) .n))))))) ?_
                                                        refine At.H.all [21] (by kernel_rfl) rfl (all_cons ?_ all_nil)
                                                        · · refine At.HO.op rfl ?_
                                                            refine At.st rfl .z (q := 0) (z := (gt x3358 (IntKind.i64.wrap (IntKind.i64.wrap (((((([] : List Int) ++ a1_0) ++ ([0] : List Int)).take (a1_0.length : Int).toNat).length : Int) - 1) - x3359)))) rfl rfl rfl h5035.1 h5035.2 rfl rfl (.c .n) ?_
                                                            refine At.HO.back (.c (.s .z) (.c (.s .z) (.c (.s .z) (.c (.s .z) (.c (.s .z) (.c (.s .z) (.c (.s .z) .n))))))) ?_
                                                            refine At.H.all [22] (by kernel_rfl) rfl (all_cons ?_ all_nil)
                                                            · · refine At.HO.op rfl ?_
                                                                refine At.y (Y.ix .z rfl rfl rfl rfl rfl rfl h5034.1 h5034.2) rfl rfl rfl ?_
                                                                refine At.HO.back (.c (.s .z) (.c (.s .z) (.c (.s .z) (.c (.s .z) (.c (.s .z) (.c (.s .z) (.c (.s .z) .n))))))) ?_
                                                                refine At.H.all [23] (by kernel_rfl) rfl (all_cons ?_ all_nil)
                                                                · · refine At.HO.op rfl ?_
                                                                    refine At.st rfl .z (q := 0) (z := (gt x3358 x3359)) rfl rfl rfl h5034.1 h5034.2 rfl rfl (.c .n) ?_
                                                                    refine At.HO.back (.c (.s .z) (.c (.s .z) (.c (.s .z) (.c (.s .z) (.c (.s .z) (.c (.s .z) (.c (.s .z) .n))))))) ?_
                                                                    refine At.H.done (by kernel_rfl) ?_
                                                                    exact At.of (J5029 () trivial) ⟨rfl, rfl, rfl, rfl, rfl, rfl, rfl, trivial⟩
                                    · · refine At.HO.op rfl ?_
                                        refine At.y (Y.ix .z rfl rfl rfl rfl rfl rfl h5035.1 h5035.2) rfl rfl rfl ?_
                                        refine At.HO.back (.c (.s .z) (.c (.s .z) (.c (.s .z) (.c (.s .z) (.c (.s .z) (.c (.s .z) (.c (.s .z) .n))))))) ?_
                                        refine At.H.all [14, 19] (by kernel_rfl) rfl (all_cons ?_ (all_cons ?_ all_nil))
                                        · · refine At.HO.op rfl ?_
                                            refine At.y (Y.ix .z rfl rfl rfl rfl rfl rfl h5034.1 h5034.2) rfl rfl rfl ?_
                                            refine At.HO.back (.c (.s .z) (.c (.s .z) (.c (.s .z) (.c (.s .z) (.c (.s .z) (.c (.s .z) (.c (.s .z) .n))))))) ?_
                                            refine At.H.all [15, 19] (by kernel_rfl) rfl (all_cons ?_ (all_cons ?_ all_nil))
                                            · · refine At.HO.op rfl ?_
                                                refine At.y (Y.ld .z (q := 0) rfl rfl h5034.1 h5034.2 rfl rfl rfl) rfl rfl rfl ?_
                                                refine At.HO.back (.c (.s .z) (.c (.s .z) (.c (.s .z) (.c (.s .z) (.c (.s .z) (.c (.s .z) (.c (.s .z) .n))))))) ?_
                                                refine At.H.all [19] (by kernel_rfl) rfl (all_cons ?_ all_nil)
                                                · · refine At.HO.op rfl ?_
                                                    refine At.y (Y.ld .z (q := 0) rfl rfl h5035.1 h5035.2 rfl rfl rfl) rfl rfl rfl ?_
                                                    refine At.HO.back (.c (.s .z) (.c (.s .z) (.c (.s .z) (.c (.s .z) (.c (.s .z) (.c (.s .z) (.c (.s .z) .n))))))) ?_
                                                    refine At.H.all [20] (by kernel_rfl) rfl (all_cons ?_ all_nil)
                                                    · · refine At.HO.op rfl ?_
                                                        refine At.y (Y.ix .z rfl rfl rfl rfl rfl rfl h5035.1 h5035.2) rfl rfl rfl ?_
                                                        refine At.HO.back (.c (.s .z) (.c (.s .z) (.c (.s .z) (.c (.s .z) (.c (.s .z) (.c (.s .z) (.c (.s .z) .n))))))) ?_
                                                        refine At.H.all [21] (by kernel_rfl) rfl (all_cons ?_ all_nil)
                                                        · · refine At.HO.op rfl ?_
                                                            refine At.st rfl .z (q := 0) (z := (gt x3358 (IntKind.i64.wrap (IntKind.i64.wrap (((((([] : List Int) ++ a1_0) ++ ([0] : List Int)).take (a1_0.length : Int).toNat).length : Int) - 1) - x3359)))) rfl rfl rfl h5035.1 h5035.2 rfl rfl (.c .n) ?_
                                                            refine At.HO.back (.c (.s .z) (.c (.s .z) (.c (.s .z) (.c (.s .z) (.c (.s .z) (.c (.s .z) (.c (.s .z) .n))))))) ?_
                                                            refine At.H.all [22] (by kernel_rfl) rfl (all_cons ?_ all_nil)
                                                            · · refine At.HO.op rfl ?_
                                                                refine At.y (Y.ix .z rfl rfl rfl rfl rfl rfl h5034.1 h5034.2) rfl rfl rfl ?_
                                                                refine At.HO.back (.c (.s .z) (.c (.s .z) (.c (.s .z) (.c (.s .z) (.c (.s .z) (.c (.s .z) (.c (.s .z) .n))))))) ?_
                                                                refine At.H.all [23] (by kernel_rfl) rfl (all_cons ?_ all_nil)
                                                                · · refine At.HO.op rfl ?_
                                                                    refine At.st rfl .z (q := 0) (z := (gt x3358 x3359)) rfl rfl rfl h5034.1 h5034.2 rfl rfl (.c .n) ?_
                                                                    refine At.HO.back (.c (.s .z) (.c (.s .z) (.c (.s .z) (.c (.s .z) (.c (.s .z) (.c (.s .z) (.c (.s .z) .n))))))) ?_
                                                                    refine At.H.done (by kernel_rfl) ?_
                                                                    exact At.of (J5029 () trivial) ⟨rfl, rfl, rfl, rfl, rfl, rfl, rfl, trivial⟩
                                            · · refine At.HO.op rfl ?_
                                                refine At.y (Y.ld .z (q := 0) rfl rfl h5035.1 h5035.2 rfl rfl rfl) rfl rfl rfl ?_
                                                refine At.HO.back (.c (.s .z) (.c (.s .z) (.c (.s .z) (.c (.s .z) (.c (.s .z) (.c (.s .z) (.c (.s .z) .n))))))) ?_
                                                refine At.H.all [15] (by kernel_rfl) rfl (all_cons ?_ all_nil)
                                                · · refine At.HO.op rfl ?_
                                                    refine At.y (Y.ld .z (q := 0) rfl rfl h5034.1 h5034.2 rfl rfl rfl) rfl rfl rfl ?_
                                                    refine At.HO.back (.c (.s .z) (.c (.s .z) (.c (.s .z) (.c (.s .z) (.c (.s .z) (.c (.s .z) (.c (.s .z) .n))))))) ?_
                                                    refine At.H.all [20] (by kernel_rfl) rfl (all_cons ?_ all_nil)
                                                    · · refine At.HO.op rfl ?_
                                                        refine At.y (Y.ix .z rfl rfl rfl rfl rfl rfl h5035.1 h5035.2) rfl rfl rfl ?_
                                                        refine At.HO.back (.c (.s .z) (.c (.s .z) (.c (.s .z) (.c (.s .z) (.c (.s .z) (.c (.s .z) (.c (.s .z) .n))))))) ?_
                                                        refine At.H.all [21] (by kernel_rfl) rfl (all_cons ?_ all_nil)
                                                        · · refine At.HO.op rfl ?_
                                                            refine At.st rfl .z (q := 0) (z := (gt x3358 (IntKind.i64.wrap (IntKind.i64.wrap (((((([] : List Int) ++ a1_0) ++ ([0] : List Int)).take (a1_0.length : Int).toNat).length : Int) - 1) - x3359)))) rfl rfl rfl h5035.1 h5035.2 rfl rfl (.c .n) ?_
                                                            refine At.HO.back (.c (.s .z) (.c (.s .z) (.c (.s .z) (.c (.s .z) (.c (.s .z) (.c (.s .z) (.c (.s .z) .n))))))) ?_
                                                            refine At.H.all [22] (by kernel_rfl) rfl (all_cons ?_ all_nil)
                                                            · · refine At.HO.op rfl ?_
                                                                refine At.y (Y.ix .z rfl rfl rfl rfl rfl rfl h5034.1 h5034.2) rfl rfl rfl ?_
                                                                refine At.HO.back (.c (.s .z) (.c (.s .z) (.c (.s .z) (.c (.s .z) (.c (.s .z) (.c (.s .z) (.c (.s .z) .n))))))) ?_
                                                                refine At.H.all [23] (by kernel_rfl) rfl (all_cons ?_ all_nil)
                                                                · · refine At.HO.op rfl ?_
                                                                    refine At.st rfl .z (q := 0) (z := (gt x3358 x3359)) rfl rfl rfl h5034.1 h5034.2 rfl rfl (.c .n) ?_
                                                                    refine At.HO.back (.c (.s .z) (.c (.s .z) (.c (.s .z) (.c (.s .z) (.c (.s .z) (.c (.s .z) (.c (.s .z) .n))))))) ?_
                                                                    refine At.H.done (by kernel_rfl) ?_
                                                                    exact At.of (J5029 () trivial) ⟨rfl, rfl, rfl, rfl, rfl, rfl, rfl, trivial⟩
                                        · · refine At.HO.op rfl ?_
                                            refine At.y (Y.ld .z (q := 0) rfl rfl h5035.1 h5035.2 rfl rfl rfl) rfl rfl rfl ?_
                                            refine At.HO.back (.c (.s .z) (.c (.s .z) (.c (.s .z) (.c (.s .z) (.c (.s .z) (.c (.s .z) (.c (.s .z) .n))))))) ?_
                                            refine At.H.all [14] (by kernel_rfl) rfl (all_cons ?_ all_nil)
                                            · · refine At.HO.op rfl ?_
                                                refine At.y (Y.ix .z rfl rfl rfl rfl rfl rfl h5034.1 h5034.2) rfl rfl rfl ?_
                                                refine At.HO.back (.c (.s .z) (.c (.s .z) (.c (.s .z) (.c (.s .z) (.c (.s .z) (.c (.s .z) (.c (.s .z) .n))))))) ?_
                                                refine At.H.all [15] (by kernel_rfl) rfl (all_cons ?_ all_nil)
                                                · · refine At.HO.op rfl ?_
                                                    refine At.y (Y.ld .z (q := 0) rfl rfl h5034.1 h5034.2 rfl rfl rfl) rfl rfl rfl ?_
                                                    refine At.HO.back (.c (.s .z) (.c (.s .z) (.c (.s .z) (.c (.s .z) (.c (.s .z) (.c (.s .z) (.c (.s .z) .n))))))) ?_
                                                    refine At.H.all [20] (by kernel_rfl) rfl (all_cons ?_ all_nil)
                                                    · · refine At.HO.op rfl ?_
                                                        refine At.y (Y.ix .z rfl rfl rfl rfl rfl rfl h5035.1 h5035.2) rfl rfl rfl ?_
                                                        refine At.HO.back (.c (.s .z) (.c (.s .z) (.c (.s .z) (.c (.s .z) (.c (.s .z) (.c (.s .z) (.c (.s .z) .n))))))) ?_
                                                        refine At.H.all [21] (by kernel_rfl) rfl (all_cons ?_ all_nil)
                                                        · · refine At.HO.op rfl ?_
                                                            refine At.st rfl .z (q := 0) (z := (gt x3358 (IntKind.i64.wrap (IntKind.i64.wrap (((((([] : List Int) ++ a1_0) ++ ([0] : List Int)).take (a1_0.length : Int).toNat).length : Int) - 1) - x3359)))) rfl rfl rfl h5035.1 h5035.2 rfl rfl (.c .n) ?_
                                                            refine At.HO.back (.c (.s .z) (.c (.s .z) (.c (.s .z) (.c (.s .z) (.c (.s .z) (.c (.s .z) (.c (.s .z) .n))))))) ?_
                                                            refine At.H.all [22] (by kernel_rfl) rfl (all_cons ?_ all_nil)
                                                            · · refine At.HO.op rfl ?_
                                                                refine At.y (Y.ix .z rfl rfl rfl rfl rfl rfl h5034.1 h5034.2) rfl rfl rfl ?_
                                                                refine At.HO.back (.c (.s .z) (.c (.s .z) (.c (.s .z) (.c (.s .z) (.c (.s .z) (.c (.s .z) (.c (.s .z) .n))))))) ?_
                                                                refine At.H.all [23] (by kernel_rfl) rfl (all_cons ?_ all_nil)
                                                                · · refine At.HO.op rfl ?_
                                                                    refine At.st rfl .z (q := 0) (z := (gt x3358 x3359)) rfl rfl rfl h5034.1 h5034.2 rfl rfl (.c .n) ?_
                                                                    refine At.HO.back (.c (.s .z) (.c (.s .z) (.c (.s .z) (.c (.s .z) (.c (.s .z) (.c (.s .z) (.c (.s .z) .n))))))) ?_
                                                                    refine At.H.done (by kernel_rfl) ?_
                                                                    exact At.of (J5029 () trivial) ⟨rfl, rfl, rfl, rfl, rfl, rfl, rfl, trivial⟩
                              · · refine At.condF rfl (decide_eq_false h4828) ?_
                                  refine At.exit ?_
                                  refine At.the ?_
                                  refine At.the ?_
                                  exact fun a w e hs => J3571 x3358 (bdn hrun ho3566) a w (e.sub ⟨rfl, rfl, rfl, rfl, rfl, trivial⟩) hs
                      · clear hit2553 m2551
                        rintro m2551 x2344 hit2553
                        obtain ⟨m2552, f_, hlt2554, hf_, hrun⟩ := bit hit2553
                        clear hit2553
                        have hrun : (bailifflaw16_JudgeBlind.l1b a0_0 a1_1 t262 t928 x2344).bind _ = some o2548 := hrun
                        unfold bailifflaw16_JudgeBlind.l1b at hrun
                        · refine At.seq ?_
                          refine At.seq ?_
                          refine At.region ?_
                          refine At.run 4 rfl ?_
                          refine At.nil ?_
                          refine At.thn ?_
                          rcases bite hrun with ⟨h5036, hrun⟩ | ⟨h5036, hrun⟩
                          · · refine At.condT rfl (decide_eq_true h5036) ?_
                              refine At.skip ?_
                              refine At.thn ?_
                              refine At.seq ?_
                              refine At.block ?_
                              refine At.seq ?_
                              refine At.quiet (by kernel_rfl) ?_
                              refine At.Quiet.run 2 rfl ?_
                              obtain ⟨h5037, hrun⟩ := bnone hrun
                              refine At.Quiet.y (Y.ixRd (RdS.mono (hs920.trans hs926) hr911) hn912 rfl rfl rfl rfl rfl rfl h5037.1 h5037.2) rfl rfl rfl ?_
                              refine At.Quiet.y (Y.ldFl (RdS.mono (hs920.trans hs926) hr911) hn912 (q := 0) rfl rfl h5037.1 h5037.2 rfl rfl rfl) rfl rfl rfl ?_
                              refine At.Quiet.run 2 rfl ?_
                              obtain ⟨G5239, hl5240, hr5241, hrun⟩ := bjoin hrun
                              refine At.Quiet.joinO 9 (X := Bool) (fun x5238 => [(3, .pointer (some ⟨b258, 0, none⟩)), (8, .pointer (some ⟨b264, 0, none⟩)), (9, .pointer (some ⟨b485, 0, none⟩)), (13, .bool (decide (t928.1 = t262.1) && (decide (t928.2.1 = t262.2.1) && (decide (t928.2.2 = t262.2.2) && true)))), (14, .int .i64 1), (15, .slice w475 ((((([] : List Int) ++ a1_1) ++ ([0] : List Int)).take (a1_1.length : Int).toNat).length) w476), (16, .int .i64 x2344), (139, .bool x5238)]) (fun x5238 => pt b485 (.cells [.slice w479 ((((([] : List Int) ++ a1_0) ++ ([0] : List Int)).take (a1_0.length : Int).toNat).length) w480, .slice w475 ((((([] : List Int) ++ a1_1) ++ ([0] : List Int)).take (a1_1.length : Int).toNat).length) w476, .slice w693 x690.length w694, .slice w902 x899.length w903].toArray 39) :: pt b264 (.cells [.int .i64 t262.1, .int .i64 t262.2.1, .int .i64 t262.2.2].toArray 44) :: pt b259 (.cells [.slice A1_0 a1_0.length c1_0, .slice A1_1 a1_1.length c1_1, .slice A1_2 a1_2.length c1_2, .slice A1_3 a1_3.length c1_3].toArray 39) :: pt b258 (.cells [.slice A0_0 a0_0.length c0_0, .slice A0_1 a0_1.length c0_1, .slice A0_2 a0_2.length c0_2].toArray 36) :: Fr) (fun x5238 => G5239 (.inl x5238) = some o2548) ?_ (fun J5242 => ?_)
                              · rintro x5238 hrun
                                have hrun := (hl5240 _).symm.trans hrun
                                · refine At.Quiet.nil ?_
                                  refine At.thn ?_
                                  rcases bite hrun with ⟨h5243, hrun⟩ | ⟨h5243, hrun⟩
                                  · · refine At.condT rfl h5243 ?_
                                      refine At.seq ?_
                                      refine At.region ?_
                                      refine At.run 2 rfl ?_
                                      refine At.nil ?_
                                      refine At.thn ?_
                                      refine At.ret ?_
                                      refine At.ibr ?_
                                      refine At.thr ?_
                                      have hrun := bupL hr2547 ho2550 hrun
                                      refine At.thr ?_
                                      refine At.ibr ?_
                                      refine At.ibr ?_
                                      refine At.thr ?_
                                      refine At.thr ?_
                                      refine At.ibr ?_
                                      refine At.thr ?_
                                      refine At.thaw th927 ?_
                                      refine At.thaw th921 ?_
                                      refine At.thaw th915 ?_
                                      refine At.thaw th909 ?_
                                      refine At.drop .z ?_
                                      refine At.drop .z ?_
                                      refine At.drop .z ?_
                                      refine At.drop .z ?_
                                      refine At.drop .z ?_
                                      refine At.drop .z ?_
                                      refine At.drop .z ?_
                                      refine At.drop .z ?_
                                      obtain rfl := (bret hrun).symm
                                      exact At.res (.inl rfl) rfl rfl ⟨rfl, rfl⟩
                                  · · refine At.condF rfl (bn h5243) ?_
                                      refine At.skip ?_
                                      refine At.ibn ?_
                                      refine At.thn ?_
                                      refine At.region ?_
                                      refine At.run 3 rfl ?_
                                      refine At.nil ?_
                                      have hrun := bnx hf_ hrun
                                      exact fun a w e hs => ⟨m2552, (IntKind.i64.wrap (x2344 + 1)), hlt2554, hrun, e.sub ⟨rfl, rfl, rfl, rfl, rfl, rfl, rfl, trivial⟩, hs⟩
                              · · rcases bite hrun with ⟨h5244, hrun⟩ | ⟨h5244, hrun⟩
                                  · · refine At.Quiet.know (t := 130) rfl (decide_eq_true h5244) ?_
                                      refine At.Quiet.run 9 rfl ?_
                                      exact At.Quiet.of (J5242 true hrun) ⟨rfl, rfl, rfl, rfl, rfl, rfl, rfl, rfl, trivial⟩
                                  · · refine At.Quiet.know (t := 130) rfl (decide_eq_false h5244) ?_
                                      refine At.Quiet.run 2 rfl ?_
                                      refine At.Quiet.y (Y.ixRd (RdS.mono (hs920.trans hs926) hr911) hn912 rfl rfl rfl rfl rfl rfl h5037.1 h5037.2) rfl rfl rfl ?_
                                      refine At.Quiet.y (Y.ldFl (RdS.mono (hs920.trans hs926) hr911) hn912 (q := 0) rfl rfl h5037.1 h5037.2 rfl rfl rfl) rfl rfl rfl ?_
                                      refine At.Quiet.run 1 rfl ?_
                                      refine At.Quiet.y (Y.load rfl rfl (.s (.s (.s .z))) rfl rfl rfl) rfl rfl rfl ?_
                                      refine At.Quiet.run 3 rfl ?_
                                      exact At.Quiet.of (J5242 (decide ((a0_0.length : Int) ≤ gt (((([] : List Int) ++ a1_1) ++ ([0] : List Int)).take (a1_1.length : Int).toNat) x2344)) hrun) ⟨rfl, rfl, rfl, rfl, rfl, rfl, rfl, rfl, trivial⟩
                          · · refine At.condF rfl (decide_eq_false h5036) ?_
                              refine At.exit ?_
                              refine At.the ?_
                              refine At.the ?_
                              exact fun a w e hs => J2555 () (bdn hrun ho2550) a w (e.sub ⟨rfl, rfl, rfl, rfl, rfl, trivial⟩) hs
                  · clear hit1740 m1738
                    rintro m1738 x1531 hit1740
                    obtain ⟨m1739, f_, hlt1741, hf_, hrun⟩ := bit hit1740
                    clear hit1740
                    have hrun : (bailifflaw16_JudgeBlind.l0b a0_0 a1_0 t262 t928 x1531).bind _ = some o1735 := hrun
                    unfold bailifflaw16_JudgeBlind.l0b at hrun
                    · refine At.seq ?_
                      refine At.seq ?_
                      refine At.region ?_
                      refine At.run 4 rfl ?_
                      refine At.nil ?_
                      refine At.thn ?_
                      rcases bite hrun with ⟨h5245, hrun⟩ | ⟨h5245, hrun⟩
                      · · refine At.condT rfl (decide_eq_true h5245) ?_
                          refine At.skip ?_
                          refine At.thn ?_
                          refine At.seq ?_
                          refine At.block ?_
                          refine At.seq ?_
                          refine At.quiet (by kernel_rfl) ?_
                          refine At.Quiet.run 2 rfl ?_
                          obtain ⟨h5246, hrun⟩ := bnone hrun
                          refine At.Quiet.y (Y.ixRd (RdS.mono ((hs914.trans hs920).trans hs926) hr905) hn906 rfl rfl rfl rfl rfl rfl h5246.1 h5246.2) rfl rfl rfl ?_
                          refine At.Quiet.y (Y.ldFl (RdS.mono ((hs914.trans hs920).trans hs926) hr905) hn906 (q := 0) rfl rfl h5246.1 h5246.2 rfl rfl rfl) rfl rfl rfl ?_
                          refine At.Quiet.run 2 rfl ?_
                          obtain ⟨G5448, hl5449, hr5450, hrun⟩ := bjoin hrun
                          refine At.Quiet.joinO 9 (X := Bool) (fun x5447 => [(3, .pointer (some ⟨b258, 0, none⟩)), (8, .pointer (some ⟨b264, 0, none⟩)), (9, .pointer (some ⟨b485, 0, none⟩)), (13, .bool (decide (t928.1 = t262.1) && (decide (t928.2.1 = t262.2.1) && (decide (t928.2.2 = t262.2.2) && true)))), (14, .int .i64 0), (15, .slice w479 ((((([] : List Int) ++ a1_0) ++ ([0] : List Int)).take (a1_0.length : Int).toNat).length) w480), (16, .int .i64 x1531), (139, .bool x5447)]) (fun x5447 => pt b485 (.cells [.slice w479 ((((([] : List Int) ++ a1_0) ++ ([0] : List Int)).take (a1_0.length : Int).toNat).length) w480, .slice w475 ((((([] : List Int) ++ a1_1) ++ ([0] : List Int)).take (a1_1.length : Int).toNat).length) w476, .slice w693 x690.length w694, .slice w902 x899.length w903].toArray 39) :: pt b264 (.cells [.int .i64 t262.1, .int .i64 t262.2.1, .int .i64 t262.2.2].toArray 44) :: pt b259 (.cells [.slice A1_0 a1_0.length c1_0, .slice A1_1 a1_1.length c1_1, .slice A1_2 a1_2.length c1_2, .slice A1_3 a1_3.length c1_3].toArray 39) :: pt b258 (.cells [.slice A0_0 a0_0.length c0_0, .slice A0_1 a0_1.length c0_1, .slice A0_2 a0_2.length c0_2].toArray 36) :: Fr) (fun x5447 => G5448 (.inl x5447) = some o1735) ?_ (fun J5451 => ?_)
                          · rintro x5447 hrun
                            have hrun := (hl5449 _).symm.trans hrun
                            · refine At.Quiet.nil ?_
                              refine At.thn ?_
                              rcases bite hrun with ⟨h5452, hrun⟩ | ⟨h5452, hrun⟩
                              · · refine At.condT rfl h5452 ?_
                                  refine At.seq ?_
                                  refine At.region ?_
                                  refine At.run 2 rfl ?_
                                  refine At.nil ?_
                                  refine At.thn ?_
                                  refine At.ret ?_
                                  refine At.ibr ?_
                                  refine At.thr ?_
                                  have hrun := bupL hr1734 ho1737 hrun
                                  refine At.thr ?_
                                  refine At.ibr ?_
                                  refine At.ibr ?_
                                  refine At.thr ?_
                                  refine At.thr ?_
                                  refine At.ibr ?_
                                  refine At.thr ?_
                                  refine At.thaw th927 ?_
                                  refine At.thaw th921 ?_
                                  refine At.thaw th915 ?_
                                  refine At.thaw th909 ?_
                                  refine At.drop .z ?_
                                  refine At.drop .z ?_
                                  refine At.drop .z ?_
                                  refine At.drop .z ?_
                                  refine At.drop .z ?_
                                  refine At.drop .z ?_
                                  refine At.drop .z ?_
                                  refine At.drop .z ?_
                                  obtain rfl := (bret hrun).symm
                                  exact At.res (.inl rfl) rfl rfl ⟨rfl, rfl⟩
                              · · refine At.condF rfl (bn h5452) ?_
                                  refine At.skip ?_
                                  refine At.ibn ?_
                                  refine At.thn ?_
                                  refine At.region ?_
                                  refine At.run 3 rfl ?_
                                  refine At.nil ?_
                                  have hrun := bnx hf_ hrun
                                  exact fun a w e hs => ⟨m1739, (IntKind.i64.wrap (x1531 + 1)), hlt1741, hrun, e.sub ⟨rfl, rfl, rfl, rfl, rfl, rfl, rfl, trivial⟩, hs⟩
                          · · rcases bite hrun with ⟨h5453, hrun⟩ | ⟨h5453, hrun⟩
                              · · refine At.Quiet.know (t := 130) rfl (decide_eq_true h5453) ?_
                                  refine At.Quiet.run 9 rfl ?_
                                  exact At.Quiet.of (J5451 true hrun) ⟨rfl, rfl, rfl, rfl, rfl, rfl, rfl, rfl, trivial⟩
                              · · refine At.Quiet.know (t := 130) rfl (decide_eq_false h5453) ?_
                                  refine At.Quiet.run 2 rfl ?_
                                  refine At.Quiet.y (Y.ixRd (RdS.mono ((hs914.trans hs920).trans hs926) hr905) hn906 rfl rfl rfl rfl rfl rfl h5246.1 h5246.2) rfl rfl rfl ?_
                                  refine At.Quiet.y (Y.ldFl (RdS.mono ((hs914.trans hs920).trans hs926) hr905) hn906 (q := 0) rfl rfl h5246.1 h5246.2 rfl rfl rfl) rfl rfl rfl ?_
                                  refine At.Quiet.run 1 rfl ?_
                                  refine At.Quiet.y (Y.load rfl rfl (.s (.s (.s .z))) rfl rfl rfl) rfl rfl rfl ?_
                                  refine At.Quiet.run 3 rfl ?_
                                  exact At.Quiet.of (J5451 (decide ((a0_0.length : Int) ≤ gt (((([] : List Int) ++ a1_0) ++ ([0] : List Int)).take (a1_0.length : Int).toNat) x1531)) hrun) ⟨rfl, rfl, rfl, rfl, rfl, rfl, rfl, rfl, trivial⟩
                      · · refine At.condF rfl (decide_eq_false h5245) ?_
                          refine At.exit ?_
                          refine At.the ?_
                          refine At.the ?_
                          exact fun a w e hs => J1742 () (bdn hrun ho1737) a w (e.sub ⟨rfl, rfl, rfl, rfl, rfl, trivial⟩) hs
              · · refine At.block ?_
                  refine At.seq ?_
                  refine At.seq ?_
                  refine At.region ?_
                  refine At.run 1 rfl ?_
                  refine At.nil ?_
                  refine At.thn ?_
                  refine At.block ?_
                  obtain ⟨G6259, hl6260, hr6261, hrun⟩ := bjoin hrun
                  obtain ⟨o6262, hlo6263, ho6264⟩ := bsome hrun
                  clear hrun
                  unfold bailifflaw16_JudgeBlind.l4 at hlo6263
                  obtain ⟨m6265, hit6267⟩ := iter_some.1 hlo6263
                  clear hlo6263
                  refine At.loopJ (X := (List Int) × Int) (Y := (List Int)) (e0 := 2) (fun s_ => [(2, .slice A2 a2.length c2), (3, .pointer (some ⟨b258, 0, none⟩)), (4, .pointer (some ⟨b259, 0, none⟩)), (8, .pointer (some ⟨b264, 0, none⟩)), (9, .pointer (some ⟨b485, 0, none⟩)), (10, .int .i64 1), (11, .int .i64 s_.2)]) (fun s_ => pt b485 (.cells [.slice w479 ((((([] : List Int) ++ a1_0) ++ ([0] : List Int)).take (a1_0.length : Int).toNat).length) w480, .slice w475 ((((([] : List Int) ++ a1_1) ++ ([0] : List Int)).take (a1_1.length : Int).toNat).length) w476, .slice w693 x690.length w694, .slice w473 ((((([] : List Int) ++ a1_3) ++ ([0] : List Int)).take (a1_3.length : Int).toNat).length) w474].toArray 39) :: row (Fl.int .i64) 3 w693 x690.length w694 x690 :: row (Fl.int .i64) 3 w479 ((((([] : List Int) ++ a1_0) ++ ([0] : List Int)).take (a1_0.length : Int).toNat).length) w480 (((([] : List Int) ++ a1_0) ++ ([0] : List Int)).take (a1_0.length : Int).toNat) :: row (Fl.int .i64) 3 w475 ((((([] : List Int) ++ a1_1) ++ ([0] : List Int)).take (a1_1.length : Int).toNat).length) w476 (((([] : List Int) ++ a1_1) ++ ([0] : List Int)).take (a1_1.length : Int).toNat) :: row (Fl.int .i64) 3 w473 ((((([] : List Int) ++ a1_3) ++ ([0] : List Int)).take (a1_3.length : Int).toNat).length) w474 s_.1 :: pt b264 (.cells [.int .i64 t262.1, .int .i64 t262.2.1, .int .i64 t262.2.2].toArray 44) :: pt b259 (.cells [.slice A1_0 a1_0.length c1_0, .slice A1_1 a1_1.length c1_1, .slice A1_2 a1_2.length c1_2, .slice A1_3 a1_3.length c1_3].toArray 39) :: pt b258 (.cells [.slice A0_0 a0_0.length c0_0, .slice A0_1 a0_1.length c0_1, .slice A0_2 a0_2.length c0_2].toArray 36) :: Fr) (fun m_ => fun s_ => iterN (fun t_ : (List Int) × Int => bailifflaw16_JudgeBlind.l4b a0_0 a1_1 a1_3 a2 t_.1 t_.2) m_ (s_.1, s_.2) = some o6262) m6265 ((((([] : List Int) ++ a1_3) ++ ([0] : List Int)).take (a1_3.length : Int).toNat), 0) hit6267 (fun x6258 => [(2, .slice A2 a2.length c2), (3, .pointer (some ⟨b258, 0, none⟩)), (4, .pointer (some ⟨b259, 0, none⟩)), (8, .pointer (some ⟨b264, 0, none⟩)), (9, .pointer (some ⟨b485, 0, none⟩)), (10, .int .i64 1)]) (fun x6258 => pt b485 (.cells [.slice w479 ((((([] : List Int) ++ a1_0) ++ ([0] : List Int)).take (a1_0.length : Int).toNat).length) w480, .slice w475 ((((([] : List Int) ++ a1_1) ++ ([0] : List Int)).take (a1_1.length : Int).toNat).length) w476, .slice w693 x690.length w694, .slice w473 ((((([] : List Int) ++ a1_3) ++ ([0] : List Int)).take (a1_3.length : Int).toNat).length) w474].toArray 39) :: row (Fl.int .i64) 3 w693 x690.length w694 x690 :: row (Fl.int .i64) 3 w479 ((((([] : List Int) ++ a1_0) ++ ([0] : List Int)).take (a1_0.length : Int).toNat).length) w480 (((([] : List Int) ++ a1_0) ++ ([0] : List Int)).take (a1_0.length : Int).toNat) :: row (Fl.int .i64) 3 w475 ((((([] : List Int) ++ a1_1) ++ ([0] : List Int)).take (a1_1.length : Int).toNat).length) w476 (((([] : List Int) ++ a1_1) ++ ([0] : List Int)).take (a1_1.length : Int).toNat) :: row (Fl.int .i64) 3 w473 ((((([] : List Int) ++ a1_3) ++ ([0] : List Int)).take (a1_3.length : Int).toNat).length) w474 x6258 :: pt b264 (.cells [.int .i64 t262.1, .int .i64 t262.2.1, .int .i64 t262.2.2].toArray 44) :: pt b259 (.cells [.slice A1_0 a1_0.length c1_0, .slice A1_1 a1_1.length c1_1, .slice A1_2 a1_2.length c1_2, .slice A1_3 a1_3.length c1_3].toArray 39) :: pt b258 (.cells [.slice A0_0 a0_0.length c0_0, .slice A0_1 a0_1.length c0_1, .slice A0_2 a0_2.length c0_2].toArray 36) :: Fr) (fun x6258 => G6259 (.inl x6258) = some r) (fun a w e hs => ⟨e.sub ⟨rfl, rfl, rfl, rfl, rfl, rfl, rfl, trivial⟩, hs⟩) ?_ (fun J6269 => ?_)
                  · rintro x6258 hrun
                    have hrun := (hl6260 _).symm.trans hrun
                    · refine At.ibx ?_
                      refine At.thn ?_
                      refine At.seq ?_
                      refine At.quiet (by kernel_rfl) ?_
                      refine At.Quiet.run 2 rfl ?_
                      refine At.Quiet.y (Y.ixArrK rfl rfl rfl rfl rfl (show (0 : Int) ≤ 1 ∧ (1 : Int) < 2 by decide).1 (show (0 : Int) ≤ 1 ∧ (1 : Int) < 2 by decide).2 (q := 1) (off := 3) rfl rfl) rfl rfl rfl ?_
                      refine At.Quiet.y (Y.load rfl rfl .z rfl rfl rfl) rfl rfl rfl ?_
                      refine At.Quiet.run 2 rfl ?_
                      refine At.Quiet.y (Y.load rfl rfl (.s (.s (.s (.s (.s (.s (.s .z))))))) rfl rfl rfl) rfl rfl rfl ?_
                      refine At.Quiet.run 2 rfl ?_
                      refine At.Quiet.nil ?_
                      refine At.thn ?_
                      rcases bite hrun with ⟨h6270, hrun⟩ | ⟨h6270, hrun⟩
                      · · refine At.condT rfl (decide_eq_true h6270) ?_
                          refine At.held [row (Fl.int .i64) 3 w693 x690.length w694 x690, row (Fl.int .i64) 3 w479 ((((([] : List Int) ++ a1_0) ++ ([0] : List Int)).take (a1_0.length : Int).toNat).length) w480 (((([] : List Int) ++ a1_0) ++ ([0] : List Int)).take (a1_0.length : Int).toNat), row (Fl.int .i64) 3 w475 ((((([] : List Int) ++ a1_1) ++ ([0] : List Int)).take (a1_1.length : Int).toNat).length) w476 (((([] : List Int) ++ a1_1) ++ ([0] : List Int)).take (a1_1.length : Int).toNat), pt b264 (.cells [.int .i64 t262.1, .int .i64 t262.2.1, .int .i64 t262.2.2].toArray 44), pt b259 (.cells [.slice A1_0 a1_0.length c1_0, .slice A1_1 a1_1.length c1_1, .slice A1_2 a1_2.length c1_2, .slice A1_3 a1_3.length c1_3].toArray 39), pt b258 (.cells [.slice A0_0 a0_0.length c0_0, .slice A0_1 a0_1.length c0_1, .slice A0_2 a0_2.length c0_2].toArray 36)] 13 rfl ?_
                          refine At.H.pv 0 rfl (by kernel_rfl) (by kernel_rfl) (by kernel_rfl) rfl rfl rfl rfl (.c (.s .z) (.c (.s .z) (.c (.s .z) (.c (.s (.s .z)) (.c (.s (.s .z)) (.c (.s (.s .z)) .n)))))) ?_
                          refine At.H.pv 1 rfl (by kernel_rfl) (by kernel_rfl) (by kernel_rfl) rfl rfl rfl rfl (.c (.s .z) (.c (.s .z) (.c (.s .z) (.c (.s (.s .z)) (.c (.s (.s .z)) (.c (.s (.s .z)) .n)))))) ?_
                          refine At.H.pv 2 rfl (by kernel_rfl) (by kernel_rfl) (by kernel_rfl) rfl rfl rfl rfl (.c (.s .z) (.c (.s .z) (.c (.s .z) (.c (.s (.s .z)) (.c (.s (.s .z)) (.c (.s (.s .z)) .n)))))) ?_
                          refine At.H.take 3 rfl (by kernel_rfl) (by kernel_rfl) (by kernel_rfl) (Y.ixArrK rfl rfl rfl rfl rfl (show (0 : Int) ≤ 1 ∧ (1 : Int) < 2 by decide).1 (show (0 : Int) ≤ 1 ∧ (1 : Int) < 2 by decide).2 (q := 1) (off := 3) rfl rfl) rfl rfl rfl (.c (.s .z) (.c (.s .z) (.c (.s .z) (.c (.s (.s .z)) (.c (.s (.s .z)) (.c (.s (.s .z)) .n)))))) ?_
                          refine At.H.pv 5 rfl (by kernel_rfl) (by kernel_rfl) (by kernel_rfl) rfl rfl rfl rfl (.c (.s .z) (.c (.s .z) (.c (.s .z) (.c (.s (.s .z)) (.c (.s (.s .z)) (.c (.s (.s .z)) .n)))))) ?_
                          obtain ⟨h6474, hrun⟩ := bnone hrun
                          refine At.H.take 6 rfl (by kernel_rfl) (by kernel_rfl) (by kernel_rfl) (Y.ixRd hr2 rfl rfl rfl rfl rfl rfl rfl h6474.1 h6474.2) rfl rfl rfl (.c (.s .z) (.c (.s .z) (.c (.s .z) (.c (.s (.s .z)) (.c (.s (.s .z)) (.c (.s (.s .z)) .n)))))) ?_
                          refine At.H.take 7 rfl (by kernel_rfl) (by kernel_rfl) (by kernel_rfl) (Y.ldFl hr2 rfl (q := 0) rfl rfl h6474.1 h6474.2 rfl rfl rfl) rfl rfl rfl (.c (.s .z) (.c (.s .z) (.c (.s .z) (.c (.s (.s .z)) (.c (.s (.s .z)) (.c (.s (.s .z)) .n)))))) ?_
                          refine At.H.pv 10 rfl (by kernel_rfl) (by kernel_rfl) (by kernel_rfl) rfl rfl rfl rfl (.c (.s .z) (.c (.s .z) (.c (.s .z) (.c (.s (.s .z)) (.c (.s (.s .z)) (.c (.s (.s .z)) .n)))))) ?_
                          obtain ⟨h6475, hrun⟩ := bnone hrun
                          refine At.H.joinK (X := (Option Addr) × Nat) (fun s_ => [(2, .slice A2 a2.length c2), (3, .pointer (some ⟨b258, 0, none⟩)), (4, .pointer (some ⟨b259, 0, none⟩)), (8, .pointer (some ⟨b264, 0, none⟩)), (9, .pointer (some ⟨b485, 0, none⟩)), (10, .int .i64 1)]) (fun s_ => pt b485 (.cells [.slice w479 ((((([] : List Int) ++ a1_0) ++ ([0] : List Int)).take (a1_0.length : Int).toNat).length) w480, .slice w475 ((((([] : List Int) ++ a1_1) ++ ([0] : List Int)).take (a1_1.length : Int).toNat).length) w476, .slice w693 x690.length w694, .slice s_.1 ((x6258 ++ ([(gt a2 0)] : List Int)).length) s_.2].toArray 39) :: row (Fl.int .i64) 3 s_.1 ((x6258 ++ ([(gt a2 0)] : List Int)).length) s_.2 (x6258 ++ ([(gt a2 0)] : List Int)) :: row (Fl.int .i64) 3 w693 x690.length w694 x690 :: row (Fl.int .i64) 3 w479 ((((([] : List Int) ++ a1_0) ++ ([0] : List Int)).take (a1_0.length : Int).toNat).length) w480 (((([] : List Int) ++ a1_0) ++ ([0] : List Int)).take (a1_0.length : Int).toNat) :: row (Fl.int .i64) 3 w475 ((((([] : List Int) ++ a1_1) ++ ([0] : List Int)).take (a1_1.length : Int).toNat).length) w476 (((([] : List Int) ++ a1_1) ++ ([0] : List Int)).take (a1_1.length : Int).toNat) :: pt b264 (.cells [.int .i64 t262.1, .int .i64 t262.2.1, .int .i64 t262.2.2].toArray 44) :: pt b259 (.cells [.slice A1_0 a1_0.length c1_0, .slice A1_1 a1_1.length c1_1, .slice A1_2 a1_2.length c1_2, .slice A1_3 a1_3.length c1_3].toArray 39) :: pt b258 (.cells [.slice A0_0 a0_0.length c0_0, .slice A0_1 a0_1.length c0_1, .slice A0_2 a0_2.length c0_2].toArray 36) :: Fr) (fun s_ => True) ?_ (fun J6473 => ?_)
                          · rintro ⟨w6471, w6472⟩ -
                            · refine At.ibn ?_
                              refine At.thn ?_
                              exact fun a w e hs => J698 ((x6258 ++ ([(gt a2 0)] : List Int)), (x6258 ++ ([(gt a2 0)] : List Int)).length, w6471, w6472) ⟨hrun, rfl⟩ a w (e.sub ⟨rfl, rfl, rfl, rfl, rfl, rfl, trivial⟩) hs
                          · refine At.H.all [4, 8] (by kernel_rfl) rfl (all_cons ?_ (all_cons ?_ all_nil))
                            · · refine At.HO.op rfl ?_
                                refine At.y (Y.load rfl rfl .z rfl rfl rfl) rfl rfl rfl ?_
                                refine At.HO.back (.c (.s .z) (.c (.s .z) (.c (.s .z) (.c (.s (.s .z)) (.c (.s (.s .z)) (.c (.s (.s .z)) .n)))))) ?_
                                refine At.H.all [8] (by kernel_rfl) rfl (all_cons ?_ all_nil)
                                · · refine At.HO.op rfl ?_
                                    refine At.lit rfl (xo := [.tmp 101]) (ys := ([(gt a2 0)] : List Int)) (Fl.int .i64) rfl rfl rfl rfl rfl rfl rfl rfl rfl rfl rfl (fun A6476 c6477 => ?_)
                                    refine At.HO.back (.c (.s (.s .z)) (.c (.s (.s .z)) (.c (.s (.s .z)) (.c (.s (.s (.s .z))) (.c (.s (.s (.s .z))) (.c (.s (.s (.s .z))) .n)))))) ?_
                                    refine At.H.all [9] (by kernel_rfl) rfl (all_cons ?_ all_nil)
                                    · · refine At.HO.op rfl ?_
                                        refine At.append rfl (.s (.s (.s (.s (.s .z))))) (Src.own .z (by simp)) rfl rfl rfl rfl rfl rfl rfl rfl h6475 (by decide) rfl (fun A6479 c6480 => ?_)
                                        refine At.drop (.s .z) ?_
                                        refine At.HO.back (.c (.s (.s .z)) (.c (.s (.s .z)) (.c (.s (.s .z)) (.c (.s (.s .z)) (.c (.s (.s .z)) (.c (.s (.s .z)) .n)))))) ?_
                                        refine At.H.take 11 rfl (by kernel_rfl) (by kernel_rfl) (by kernel_rfl) (Y.ixArrK rfl rfl rfl rfl rfl (show (0 : Int) ≤ 1 ∧ (1 : Int) < 2 by decide).1 (show (0 : Int) ≤ 1 ∧ (1 : Int) < 2 by decide).2 (q := 1) (off := 3) rfl rfl) rfl rfl rfl (.c (.s (.s .z)) (.c (.s (.s .z)) (.c (.s (.s .z)) (.c (.s (.s .z)) (.c (.s (.s .z)) (.c (.s (.s .z)) .n)))))) ?_
                                        refine At.H.all [12] (by kernel_rfl) rfl (all_cons ?_ all_nil)
                                        · · refine At.HO.op rfl ?_
                                            refine At.store rfl rfl rfl rfl (.s .z) rfl rfl rfl (.s (.s (.s (.c .n)))) ?_
                                            refine At.HO.back (.c (.s (.s .z)) (.c (.s (.s .z)) (.c (.s (.s .z)) (.c (.s (.s .z)) (.c (.s (.s .z)) (.c (.s (.s .z)) .n)))))) ?_
                                            refine At.H.done (by kernel_rfl) ?_
                                            exact At.of (J6473 (A6479, c6480) trivial) ⟨rfl, rfl, rfl, rfl, rfl, rfl, trivial⟩
                            · · refine At.HO.op rfl ?_
                                refine At.lit rfl (xo := [.tmp 101]) (ys := ([(gt a2 0)] : List Int)) (Fl.int .i64) rfl rfl rfl rfl rfl rfl rfl rfl rfl rfl rfl (fun A6481 c6482 => ?_)
                                refine At.HO.back (.c (.s (.s .z)) (.c (.s (.s .z)) (.c (.s (.s .z)) (.c (.s (.s (.s .z))) (.c (.s (.s (.s .z))) (.c (.s (.s (.s .z))) .n)))))) ?_
                                refine At.H.all [4] (by kernel_rfl) rfl (all_cons ?_ all_nil)
                                · · refine At.HO.op rfl ?_
                                    refine At.y (Y.load rfl rfl (.s .z) rfl rfl rfl) rfl rfl rfl ?_
                                    refine At.HO.back (.c (.s (.s .z)) (.c (.s (.s .z)) (.c (.s (.s .z)) (.c (.s (.s (.s .z))) (.c (.s (.s (.s .z))) (.c (.s (.s (.s .z))) .n)))))) ?_
                                    refine At.H.all [9] (by kernel_rfl) rfl (all_cons ?_ all_nil)
                                    · · refine At.HO.op rfl ?_
                                        refine At.append rfl (.s (.s (.s (.s (.s .z))))) (Src.own .z (by simp)) rfl rfl rfl rfl rfl rfl rfl rfl h6475 (by decide) rfl (fun A6484 c6485 => ?_)
                                        refine At.drop (.s .z) ?_
                                        refine At.HO.back (.c (.s (.s .z)) (.c (.s (.s .z)) (.c (.s (.s .z)) (.c (.s (.s .z)) (.c (.s (.s .z)) (.c (.s (.s .z)) .n)))))) ?_
                                        refine At.H.take 11 rfl (by kernel_rfl) (by kernel_rfl) (by kernel_rfl) (Y.ixArrK rfl rfl rfl rfl rfl (show (0 : Int) ≤ 1 ∧ (1 : Int) < 2 by decide).1 (show (0 : Int) ≤ 1 ∧ (1 : Int) < 2 by decide).2 (q := 1) (off := 3) rfl rfl) rfl rfl rfl (.c (.s (.s .z)) (.c (.s (.s .z)) (.c (.s (.s .z)) (.c (.s (.s .z)) (.c (.s (.s .z)) (.c (.s (.s .z)) .n)))))) ?_
                                        refine At.H.all [12] (by kernel_rfl) rfl (all_cons ?_ all_nil)
                                        · · refine At.HO.op rfl ?_
                                            refine At.store rfl rfl rfl rfl (.s .z) rfl rfl rfl (.s (.s (.s (.c .n)))) ?_
                                            refine At.HO.back (.c (.s (.s .z)) (.c (.s (.s .z)) (.c (.s (.s .z)) (.c (.s (.s .z)) (.c (.s (.s .z)) (.c (.s (.s .z)) .n)))))) ?_
                                            refine At.H.done (by kernel_rfl) ?_
                                            exact At.of (J6473 (A6484, c6485) trivial) ⟨rfl, rfl, rfl, rfl, rfl, rfl, trivial⟩
                      · · refine At.condF rfl (decide_eq_false h6270) ?_
                          refine At.skip ?_
                          refine At.ibn ?_
                          refine At.thn ?_
                          refine At.rowLen (.s (.s (.s (.s .z)))) fun hn6486 => ?_
                          refine At.frt (.s (.s (.s (.s (.s (.s (.s .z))))))) ?_
                          refine At.frt (.s (.s (.s (.s (.s (.s (.s .z))))))) ?_
                          refine At.frt (.s (.s (.s (.s (.s (.s (.s .z))))))) ?_
                          refine At.frt (.s (.s (.s (.s (.s (.s .z)))))) ?_
                          refine At.frt (.s (.s (.s (.s (.s (.s .z)))))) ?_
                          refine At.frt (.s (.s (.s (.s (.s (.s .z)))))) ?_
                          refine At.frt (.s (.s (.s (.s (.s (.s (.s .z))))))) ?_
                          refine At.frt (.s (.s (.s (.s (.s (.s (.s .z))))))) ?_
                          exact fun a w e hs => J698 (x6258, (((([] : List Int) ++ a1_3) ++ ([0] : List Int)).take (a1_3.length : Int).toNat).length, w473, w474) ⟨hrun, hn6486⟩ a w (e.sub ⟨rfl, rfl, rfl, rfl, rfl, rfl, trivial⟩) hs
                  · clear hit6267 m6265
                    rintro m6265 ⟨x6056, x6057⟩ hit6267
                    obtain ⟨m6266, f_, hlt6268, hf_, hrun⟩ := bit hit6267
                    clear hit6267
                    have hrun : (bailifflaw16_JudgeBlind.l4b a0_0 a1_1 a1_3 a2 x6056 x6057).bind _ = some o6262 := hrun
                    unfold bailifflaw16_JudgeBlind.l4b at hrun
                    · refine At.seq ?_
                      refine At.seq ?_
                      refine At.region ?_
                      refine At.run 3 rfl ?_
                      refine At.y (Y.ixArrK rfl rfl rfl rfl rfl (show (0 : Int) ≤ 1 ∧ (1 : Int) < 2 by decide).1 (show (0 : Int) ≤ 1 ∧ (1 : Int) < 2 by decide).2 (q := 1) (off := 3) rfl rfl) rfl rfl rfl ?_
                      refine At.y (Y.load rfl rfl .z rfl rfl rfl) rfl rfl rfl ?_
                      refine At.run 2 rfl ?_
                      refine At.nil ?_
                      refine At.thn ?_
                      rcases bite hrun with ⟨h6487, hrun⟩ | ⟨h6487, hrun⟩
                      · · refine At.condT rfl (decide_eq_true h6487) ?_
                          refine At.skip ?_
                          refine At.thn ?_
                          refine At.seq ?_
                          obtain ⟨G6488, hl6489, hr6490, hrun⟩ := bjoin hrun
                          refine At.join (X := (List Int)) (fun x6692 => [(2, .slice A2 a2.length c2), (3, .pointer (some ⟨b258, 0, none⟩)), (4, .pointer (some ⟨b259, 0, none⟩)), (8, .pointer (some ⟨b264, 0, none⟩)), (9, .pointer (some ⟨b485, 0, none⟩)), (10, .int .i64 1), (11, .int .i64 x6057)]) (fun x6692 => pt b485 (.cells [.slice w479 ((((([] : List Int) ++ a1_0) ++ ([0] : List Int)).take (a1_0.length : Int).toNat).length) w480, .slice w475 ((((([] : List Int) ++ a1_1) ++ ([0] : List Int)).take (a1_1.length : Int).toNat).length) w476, .slice w693 x690.length w694, .slice w473 ((((([] : List Int) ++ a1_3) ++ ([0] : List Int)).take (a1_3.length : Int).toNat).length) w474].toArray 39) :: row (Fl.int .i64) 3 w693 x690.length w694 x690 :: row (Fl.int .i64) 3 w479 ((((([] : List Int) ++ a1_0) ++ ([0] : List Int)).take (a1_0.length : Int).toNat).length) w480 (((([] : List Int) ++ a1_0) ++ ([0] : List Int)).take (a1_0.length : Int).toNat) :: row (Fl.int .i64) 3 w475 ((((([] : List Int) ++ a1_1) ++ ([0] : List Int)).take (a1_1.length : Int).toNat).length) w476 (((([] : List Int) ++ a1_1) ++ ([0] : List Int)).take (a1_1.length : Int).toNat) :: row (Fl.int .i64) 3 w473 ((((([] : List Int) ++ a1_3) ++ ([0] : List Int)).take (a1_3.length : Int).toNat).length) w474 x6692 :: pt b264 (.cells [.int .i64 t262.1, .int .i64 t262.2.1, .int .i64 t262.2.2].toArray 44) :: pt b259 (.cells [.slice A1_0 a1_0.length c1_0, .slice A1_1 a1_1.length c1_1, .slice A1_2 a1_2.length c1_2, .slice A1_3 a1_3.length c1_3].toArray 39) :: pt b258 (.cells [.slice A0_0 a0_0.length c0_0, .slice A0_1 a0_1.length c0_1, .slice A0_2 a0_2.length c0_2].toArray 36) :: Fr) (fun x6692 => G6488 (.inl x6692) = some o6262) ?_ (fun J6491 => ?_)
                          · rintro x6692 hrun
                            have hrun := (hl6489 _).symm.trans hrun
                            · refine At.region ?_
                              refine At.run 3 rfl ?_
                              refine At.nil ?_
                              have hrun := bnx hf_ hrun
                              exact fun a w e hs => ⟨m6266, (x6692, IntKind.i64.wrap (x6057 + 1)), hlt6268, hrun, e.sub ⟨rfl, rfl, rfl, rfl, rfl, rfl, rfl, trivial⟩, hs⟩
                          · · refine At.block ?_
                              refine At.seq ?_
                              refine At.region ?_
                              refine At.run 2 rfl ?_
                              refine At.y (Y.load rfl rfl (.s (.s (.s (.s (.s (.s (.s .z))))))) rfl rfl rfl) rfl rfl rfl ?_
                              refine At.run 3 rfl ?_
                              obtain ⟨G6894, hl6895, hr6896, hrun⟩ := bjoin hrun
                              refine At.joinO 8 (X := Bool) (fun x6893 => [(2, .slice A2 a2.length c2), (3, .pointer (some ⟨b258, 0, none⟩)), (4, .pointer (some ⟨b259, 0, none⟩)), (8, .pointer (some ⟨b264, 0, none⟩)), (9, .pointer (some ⟨b485, 0, none⟩)), (10, .int .i64 1), (11, .int .i64 x6057), (60, .bool x6893)]) (fun x6893 => pt b485 (.cells [.slice w479 ((((([] : List Int) ++ a1_0) ++ ([0] : List Int)).take (a1_0.length : Int).toNat).length) w480, .slice w475 ((((([] : List Int) ++ a1_1) ++ ([0] : List Int)).take (a1_1.length : Int).toNat).length) w476, .slice w693 x690.length w694, .slice w473 ((((([] : List Int) ++ a1_3) ++ ([0] : List Int)).take (a1_3.length : Int).toNat).length) w474].toArray 39) :: row (Fl.int .i64) 3 w693 x690.length w694 x690 :: row (Fl.int .i64) 3 w479 ((((([] : List Int) ++ a1_0) ++ ([0] : List Int)).take (a1_0.length : Int).toNat).length) w480 (((([] : List Int) ++ a1_0) ++ ([0] : List Int)).take (a1_0.length : Int).toNat) :: row (Fl.int .i64) 3 w475 ((((([] : List Int) ++ a1_1) ++ ([0] : List Int)).take (a1_1.length : Int).toNat).length) w476 (((([] : List Int) ++ a1_1) ++ ([0] : List Int)).take (a1_1.length : Int).toNat) :: row (Fl.int .i64) 3 w473 ((((([] : List Int) ++ a1_3) ++ ([0] : List Int)).take (a1_3.length : Int).toNat).length) w474 x6056 :: pt b264 (.cells [.int .i64 t262.1, .int .i64 t262.2.1, .int .i64 t262.2.2].toArray 44) :: pt b259 (.cells [.slice A1_0 a1_0.length c1_0, .slice A1_1 a1_1.length c1_1, .slice A1_2 a1_2.length c1_2, .slice A1_3 a1_3.length c1_3].toArray 39) :: pt b258 (.cells [.slice A0_0 a0_0.length c0_0, .slice A0_1 a0_1.length c0_1, .slice A0_2 a0_2.length c0_2].toArray 36) :: Fr) (fun x6893 => G6894 (.inl x6893) = some o6262) ?_ (fun J6897 => ?_)
                              · rintro x6893 hrun
                                have hrun := (hl6895 _).symm.trans hrun
                                · refine At.run 1 rfl ?_
                                  obtain ⟨G7099, hl7100, hr7101, hrun⟩ := bjoin hrun
                                  refine At.joinO 8 (X := Bool) (fun x7098 => [(2, .slice A2 a2.length c2), (3, .pointer (some ⟨b258, 0, none⟩)), (4, .pointer (some ⟨b259, 0, none⟩)), (8, .pointer (some ⟨b264, 0, none⟩)), (9, .pointer (some ⟨b485, 0, none⟩)), (10, .int .i64 1), (11, .int .i64 x6057), (69, .bool x7098)]) (fun x7098 => pt b485 (.cells [.slice w479 ((((([] : List Int) ++ a1_0) ++ ([0] : List Int)).take (a1_0.length : Int).toNat).length) w480, .slice w475 ((((([] : List Int) ++ a1_1) ++ ([0] : List Int)).take (a1_1.length : Int).toNat).length) w476, .slice w693 x690.length w694, .slice w473 ((((([] : List Int) ++ a1_3) ++ ([0] : List Int)).take (a1_3.length : Int).toNat).length) w474].toArray 39) :: row (Fl.int .i64) 3 w693 x690.length w694 x690 :: row (Fl.int .i64) 3 w479 ((((([] : List Int) ++ a1_0) ++ ([0] : List Int)).take (a1_0.length : Int).toNat).length) w480 (((([] : List Int) ++ a1_0) ++ ([0] : List Int)).take (a1_0.length : Int).toNat) :: row (Fl.int .i64) 3 w475 ((((([] : List Int) ++ a1_1) ++ ([0] : List Int)).take (a1_1.length : Int).toNat).length) w476 (((([] : List Int) ++ a1_1) ++ ([0] : List Int)).take (a1_1.length : Int).toNat) :: row (Fl.int .i64) 3 w473 ((((([] : List Int) ++ a1_3) ++ ([0] : List Int)).take (a1_3.length : Int).toNat).length) w474 x6056 :: pt b264 (.cells [.int .i64 t262.1, .int .i64 t262.2.1, .int .i64 t262.2.2].toArray 44) :: pt b259 (.cells [.slice A1_0 a1_0.length c1_0, .slice A1_1 a1_1.length c1_1, .slice A1_2 a1_2.length c1_2, .slice A1_3 a1_3.length c1_3].toArray 39) :: pt b258 (.cells [.slice A0_0 a0_0.length c0_0, .slice A0_1 a0_1.length c0_1, .slice A0_2 a0_2.length c0_2].toArray 36) :: Fr) (fun x7098 => G7099 (.inl x7098) = some o6262) ?_ (fun J7102 => ?_)
                                  · rintro x7098 hrun
                                    have hrun := (hl7100 _).symm.trans hrun
                                    · refine At.run 1 rfl ?_
                                      refine At.nil ?_
                                      refine At.thn ?_
                                      refine At.seq ?_
                                      refine At.region ?_
                                      refine At.run 2 rfl ?_
                                      refine At.nil ?_
                                      refine At.thn ?_
                                      rcases bite hrun with ⟨h7103, hrun⟩ | ⟨h7103, hrun⟩
                                      · · refine At.condF rfl (nf h7103) ?_
                                          refine At.skip ?_
                                          refine At.ibn ?_
                                          refine At.thn ?_
                                          exact fun a w e hs => J6491 x6056 hrun a w (e.sub ⟨rfl, rfl, rfl, rfl, rfl, rfl, rfl, trivial⟩) hs
                                      · · refine At.condT rfl (nt (bn h7103)) ?_
                                          refine At.still 13 (by kernel_rfl) ?_
                                          refine At.Still.run 2 rfl ?_
                                          refine At.Still.y (Y.ixArrK rfl rfl rfl rfl rfl (show (0 : Int) ≤ 1 ∧ (1 : Int) < 2 by decide).1 (show (0 : Int) ≤ 1 ∧ (1 : Int) < 2 by decide).2 (q := 1) (off := 3) rfl rfl) rfl rfl rfl ?_
                                          refine At.Still.y (Y.load rfl rfl .z rfl rfl rfl) rfl rfl rfl ?_
                                          refine At.Still.run 5 rfl ?_
                                          obtain ⟨h7104, hrun⟩ := bnone hrun
                                          refine At.Still.y (Y.rem rfl rfl h7104) rfl rfl rfl ?_
                                          obtain ⟨h7105, hrun⟩ := bnone hrun
                                          refine At.Still.y (Y.ixRd hr2 rfl rfl rfl rfl rfl rfl rfl h7105.1 h7105.2) rfl rfl rfl ?_
                                          refine At.Still.y (Y.ldFl hr2 rfl (q := 0) rfl rfl h7105.1 h7105.2 rfl rfl rfl) rfl rfl rfl ?_
                                          obtain ⟨h7106, hrun⟩ := bnone hrun
                                          refine At.Still.y (Y.ix (.s (.s (.s (.s .z)))) rfl rfl rfl rfl rfl rfl h7106.1 h7106.2) rfl rfl rfl ?_
                                          refine At.Still.nil ?_
                                          refine At.st rfl (.s (.s (.s (.s .z)))) (q := 0) (z := (gt a2 (Int.tmod x6057 (a2.length : Int)))) rfl rfl rfl h7106.1 h7106.2 rfl rfl (.c .n) ?_
                                          refine At.nil ?_
                                          refine At.ibn ?_
                                          refine At.thn ?_
                                          refine At.frt (.s (.s (.s (.s (.s (.s (.s .z))))))) ?_
                                          refine At.frt (.s (.s (.s (.s (.s (.s (.s .z))))))) ?_
                                          refine At.frt (.s (.s (.s (.s (.s (.s (.s .z))))))) ?_
                                          refine At.frt (.s (.s (.s .z))) ?_
                                          refine At.frt (.s (.s (.s (.s (.s (.s (.s .z))))))) ?_
                                          refine At.frt (.s (.s (.s (.s (.s (.s (.s .z))))))) ?_
                                          refine At.frt (.s (.s (.s (.s (.s (.s (.s .z))))))) ?_
                                          refine At.frt (.s (.s (.s (.s (.s (.s (.s .z))))))) ?_
                                          exact fun a w e hs => J6491 (st x6056 x6057 (gt a2 (Int.tmod x6057 (a2.length : Int)))) hrun a w (e.sub ⟨rfl, rfl, rfl, rfl, rfl, rfl, rfl, trivial⟩) hs
                                  · · rcases bite hrun with ⟨h7107, hrun⟩ | ⟨h7107, hrun⟩
                                      · · refine At.know (t := 61) rfl h7107 ?_
                                          refine At.run 2 rfl ?_
                                          refine At.y (Y.ixArrK rfl rfl rfl rfl rfl (show (0 : Int) ≤ 1 ∧ (1 : Int) < 2 by decide).1 (show (0 : Int) ≤ 1 ∧ (1 : Int) < 2 by decide).2 (q := 1) (off := 1) rfl rfl) rfl rfl rfl ?_
                                          refine At.y (Y.load rfl rfl (.s (.s (.s (.s (.s (.s .z)))))) rfl rfl rfl) rfl rfl rfl ?_
                                          refine At.run 1 rfl ?_
                                          obtain ⟨t7108, hc7109, hrun⟩ := bbind hrun
                                          refine At.call rfl bailiffref16_Count.callee rfl rfl rfl (bailiffref16_Count.spec _ _ A1_1 a1_1.length c1_1 a1_1 x6057 hr1_1 rfl hc1_1 hc7109) ?_
                                          rintro _ _ ⟨rfl, rfl⟩
                                          refine At.run 2 rfl ?_
                                          exact At.of (J7102 (decide (0 < t7108)) hrun) ⟨rfl, rfl, rfl, rfl, rfl, rfl, rfl, rfl, trivial⟩
                                      · · refine At.know (t := 61) rfl (bn h7107) ?_
                                          refine At.run 8 rfl ?_
                                          exact At.of (J7102 false hrun) ⟨rfl, rfl, rfl, rfl, rfl, rfl, rfl, rfl, trivial⟩
                              · · rcases bite hrun with ⟨h7110, hrun⟩ | ⟨h7110, hrun⟩
                                  · · refine At.know (t := 52) rfl (decide_eq_true h7110) ?_
                                      refine At.run 1 rfl ?_
                                      refine At.y (Y.load rfl rfl (.s (.s (.s (.s (.s (.s (.s .z))))))) rfl rfl rfl) rfl rfl rfl ?_
                                      refine At.run 1 rfl ?_
                                      obtain ⟨h7111, hrun⟩ := bnone hrun
                                      refine At.y (Y.ixRd hr0_0 rfl rfl rfl rfl rfl rfl rfl h7111.1 h7111.2) rfl rfl rfl ?_
                                      refine At.y (Y.ldFl hr0_0 rfl (q := 0) rfl rfl h7111.1 h7111.2 rfl rfl rfl) rfl rfl rfl ?_
                                      refine At.run 3 rfl ?_
                                      exact At.of (J6897 (decide (gt a0_0 x6057 = 1)) hrun) ⟨rfl, rfl, rfl, rfl, rfl, rfl, rfl, rfl, trivial⟩
                                  · · refine At.know (t := 52) rfl (decide_eq_false h7110) ?_
                                      refine At.run 8 rfl ?_
                                      exact At.of (J6897 false hrun) ⟨rfl, rfl, rfl, rfl, rfl, rfl, rfl, rfl, trivial⟩
                      · · refine At.condF rfl (decide_eq_false h6487) ?_
                          refine At.exit ?_
                          refine At.the ?_
                          refine At.the ?_
                          exact fun a w e hs => J6269 x6056 (bdn hrun ho6264) a w (e.sub ⟨rfl, rfl, rfl, rfl, rfl, rfl, trivial⟩) hs
          · · refine At.block ?_
              refine At.seq ?_
              refine At.seq ?_
              refine At.region ?_
              refine At.run 1 rfl ?_
              refine At.nil ?_
              refine At.thn ?_
              refine At.block ?_
              obtain ⟨G7917, hl7918, hr7919, hrun⟩ := bjoin hrun
              obtain ⟨o7920, hlo7921, ho7922⟩ := bsome hrun
              clear hrun
              unfold bailifflaw16_JudgeBlind.l5 at hlo7921
              obtain ⟨m7923, hit7925⟩ := iter_some.1 hlo7921
              clear hlo7921
              refine At.loopJ (X := (List Int) × Int) (Y := (List Int)) (e0 := 2) (fun s_ => [(2, .slice A2 a2.length c2), (3, .pointer (some ⟨b258, 0, none⟩)), (4, .pointer (some ⟨b259, 0, none⟩)), (8, .pointer (some ⟨b264, 0, none⟩)), (9, .pointer (some ⟨b485, 0, none⟩)), (10, .int .i64 0), (11, .int .i64 s_.2)]) (fun s_ => pt b485 (.cells [.slice w479 ((((([] : List Int) ++ a1_0) ++ ([0] : List Int)).take (a1_0.length : Int).toNat).length) w480, .slice w475 ((((([] : List Int) ++ a1_1) ++ ([0] : List Int)).take (a1_1.length : Int).toNat).length) w476, .slice w477 ((((([] : List Int) ++ a1_2) ++ ([0] : List Int)).take (a1_2.length : Int).toNat).length) w478, .slice w473 ((((([] : List Int) ++ a1_3) ++ ([0] : List Int)).take (a1_3.length : Int).toNat).length) w474].toArray 39) :: row (Fl.int .i64) 3 w479 ((((([] : List Int) ++ a1_0) ++ ([0] : List Int)).take (a1_0.length : Int).toNat).length) w480 (((([] : List Int) ++ a1_0) ++ ([0] : List Int)).take (a1_0.length : Int).toNat) :: row (Fl.int .i64) 3 w475 ((((([] : List Int) ++ a1_1) ++ ([0] : List Int)).take (a1_1.length : Int).toNat).length) w476 (((([] : List Int) ++ a1_1) ++ ([0] : List Int)).take (a1_1.length : Int).toNat) :: row (Fl.int .i64) 3 w477 ((((([] : List Int) ++ a1_2) ++ ([0] : List Int)).take (a1_2.length : Int).toNat).length) w478 s_.1 :: row (Fl.int .i64) 3 w473 ((((([] : List Int) ++ a1_3) ++ ([0] : List Int)).take (a1_3.length : Int).toNat).length) w474 (((([] : List Int) ++ a1_3) ++ ([0] : List Int)).take (a1_3.length : Int).toNat) :: pt b264 (.cells [.int .i64 t262.1, .int .i64 t262.2.1, .int .i64 t262.2.2].toArray 44) :: pt b259 (.cells [.slice A1_0 a1_0.length c1_0, .slice A1_1 a1_1.length c1_1, .slice A1_2 a1_2.length c1_2, .slice A1_3 a1_3.length c1_3].toArray 39) :: pt b258 (.cells [.slice A0_0 a0_0.length c0_0, .slice A0_1 a0_1.length c0_1, .slice A0_2 a0_2.length c0_2].toArray 36) :: Fr) (fun m_ => fun s_ => iterN (fun t_ : (List Int) × Int => bailifflaw16_JudgeBlind.l5b a0_0 a1_0 a1_2 a2 t_.1 t_.2) m_ (s_.1, s_.2) = some o7920) m7923 ((((([] : List Int) ++ a1_2) ++ ([0] : List Int)).take (a1_2.length : Int).toNat), 0) hit7925 (fun x7916 => [(2, .slice A2 a2.length c2), (3, .pointer (some ⟨b258, 0, none⟩)), (4, .pointer (some ⟨b259, 0, none⟩)), (8, .pointer (some ⟨b264, 0, none⟩)), (9, .pointer (some ⟨b485, 0, none⟩)), (10, .int .i64 0)]) (fun x7916 => pt b485 (.cells [.slice w479 ((((([] : List Int) ++ a1_0) ++ ([0] : List Int)).take (a1_0.length : Int).toNat).length) w480, .slice w475 ((((([] : List Int) ++ a1_1) ++ ([0] : List Int)).take (a1_1.length : Int).toNat).length) w476, .slice w477 ((((([] : List Int) ++ a1_2) ++ ([0] : List Int)).take (a1_2.length : Int).toNat).length) w478, .slice w473 ((((([] : List Int) ++ a1_3) ++ ([0] : List Int)).take (a1_3.length : Int).toNat).length) w474].toArray 39) :: row (Fl.int .i64) 3 w479 ((((([] : List Int) ++ a1_0) ++ ([0] : List Int)).take (a1_0.length : Int).toNat).length) w480 (((([] : List Int) ++ a1_0) ++ ([0] : List Int)).take (a1_0.length : Int).toNat) :: row (Fl.int .i64) 3 w475 ((((([] : List Int) ++ a1_1) ++ ([0] : List Int)).take (a1_1.length : Int).toNat).length) w476 (((([] : List Int) ++ a1_1) ++ ([0] : List Int)).take (a1_1.length : Int).toNat) :: row (Fl.int .i64) 3 w477 ((((([] : List Int) ++ a1_2) ++ ([0] : List Int)).take (a1_2.length : Int).toNat).length) w478 x7916 :: row (Fl.int .i64) 3 w473 ((((([] : List Int) ++ a1_3) ++ ([0] : List Int)).take (a1_3.length : Int).toNat).length) w474 (((([] : List Int) ++ a1_3) ++ ([0] : List Int)).take (a1_3.length : Int).toNat) :: pt b264 (.cells [.int .i64 t262.1, .int .i64 t262.2.1, .int .i64 t262.2.2].toArray 44) :: pt b259 (.cells [.slice A1_0 a1_0.length c1_0, .slice A1_1 a1_1.length c1_1, .slice A1_2 a1_2.length c1_2, .slice A1_3 a1_3.length c1_3].toArray 39) :: pt b258 (.cells [.slice A0_0 a0_0.length c0_0, .slice A0_1 a0_1.length c0_1, .slice A0_2 a0_2.length c0_2].toArray 36) :: Fr) (fun x7916 => G7917 (.inl x7916) = some r) (fun a w e hs => ⟨e.sub ⟨rfl, rfl, rfl, rfl, rfl, rfl, rfl, trivial⟩, hs⟩) ?_ (fun J7927 => ?_)
              · rintro x7916 hrun
                have hrun := (hl7918 _).symm.trans hrun
                · refine At.ibx ?_
                  refine At.thn ?_
                  refine At.seq ?_
                  refine At.quiet (by kernel_rfl) ?_
                  refine At.Quiet.run 2 rfl ?_
                  refine At.Quiet.y (Y.ixArrK rfl rfl rfl rfl rfl (show (0 : Int) ≤ 0 ∧ (0 : Int) < 2 by decide).1 (show (0 : Int) ≤ 0 ∧ (0 : Int) < 2 by decide).2 (q := 0) (off := 2) rfl rfl) rfl rfl rfl ?_
                  refine At.Quiet.y (Y.load rfl rfl .z rfl rfl rfl) rfl rfl rfl ?_
                  refine At.Quiet.run 2 rfl ?_
                  refine At.Quiet.y (Y.load rfl rfl (.s (.s (.s (.s (.s (.s (.s .z))))))) rfl rfl rfl) rfl rfl rfl ?_
                  refine At.Quiet.run 2 rfl ?_
                  refine At.Quiet.nil ?_
                  refine At.thn ?_
                  rcases bite hrun with ⟨h7928, hrun⟩ | ⟨h7928, hrun⟩
                  · · refine At.condT rfl (decide_eq_true h7928) ?_
                      refine At.held [row (Fl.int .i64) 3 w479 ((((([] : List Int) ++ a1_0) ++ ([0] : List Int)).take (a1_0.length : Int).toNat).length) w480 (((([] : List Int) ++ a1_0) ++ ([0] : List Int)).take (a1_0.length : Int).toNat), row (Fl.int .i64) 3 w475 ((((([] : List Int) ++ a1_1) ++ ([0] : List Int)).take (a1_1.length : Int).toNat).length) w476 (((([] : List Int) ++ a1_1) ++ ([0] : List Int)).take (a1_1.length : Int).toNat), row (Fl.int .i64) 3 w473 ((((([] : List Int) ++ a1_3) ++ ([0] : List Int)).take (a1_3.length : Int).toNat).length) w474 (((([] : List Int) ++ a1_3) ++ ([0] : List Int)).take (a1_3.length : Int).toNat), pt b264 (.cells [.int .i64 t262.1, .int .i64 t262.2.1, .int .i64 t262.2.2].toArray 44), pt b259 (.cells [.slice A1_0 a1_0.length c1_0, .slice A1_1 a1_1.length c1_1, .slice A1_2 a1_2.length c1_2, .slice A1_3 a1_3.length c1_3].toArray 39), pt b258 (.cells [.slice A0_0 a0_0.length c0_0, .slice A0_1 a0_1.length c0_1, .slice A0_2 a0_2.length c0_2].toArray 36)] 13 rfl ?_
                      refine At.H.pv 0 rfl (by kernel_rfl) (by kernel_rfl) (by kernel_rfl) rfl rfl rfl rfl (.c (.s .z) (.c (.s .z) (.c (.s (.s .z)) (.c (.s (.s .z)) (.c (.s (.s .z)) (.c (.s (.s .z)) .n)))))) ?_
                      refine At.H.pv 1 rfl (by kernel_rfl) (by kernel_rfl) (by kernel_rfl) rfl rfl rfl rfl (.c (.s .z) (.c (.s .z) (.c (.s (.s .z)) (.c (.s (.s .z)) (.c (.s (.s .z)) (.c (.s (.s .z)) .n)))))) ?_
                      refine At.H.pv 2 rfl (by kernel_rfl) (by kernel_rfl) (by kernel_rfl) rfl rfl rfl rfl (.c (.s .z) (.c (.s .z) (.c (.s (.s .z)) (.c (.s (.s .z)) (.c (.s (.s .z)) (.c (.s (.s .z)) .n)))))) ?_
                      refine At.H.take 3 rfl (by kernel_rfl) (by kernel_rfl) (by kernel_rfl) (Y.ixArrK rfl rfl rfl rfl rfl (show (0 : Int) ≤ 0 ∧ (0 : Int) < 2 by decide).1 (show (0 : Int) ≤ 0 ∧ (0 : Int) < 2 by decide).2 (q := 0) (off := 2) rfl rfl) rfl rfl rfl (.c (.s .z) (.c (.s .z) (.c (.s (.s .z)) (.c (.s (.s .z)) (.c (.s (.s .z)) (.c (.s (.s .z)) .n)))))) ?_
                      refine At.H.pv 5 rfl (by kernel_rfl) (by kernel_rfl) (by kernel_rfl) rfl rfl rfl rfl (.c (.s .z) (.c (.s .z) (.c (.s (.s .z)) (.c (.s (.s .z)) (.c (.s (.s .z)) (.c (.s (.s .z)) .n)))))) ?_
                      obtain ⟨h8132, hrun⟩ := bnone hrun
                      refine At.H.take 6 rfl (by kernel_rfl) (by kernel_rfl) (by kernel_rfl) (Y.ixRd hr2 rfl rfl rfl rfl rfl rfl rfl h8132.1 h8132.2) rfl rfl rfl (.c (.s .z) (.c (.s .z) (.c (.s (.s .z)) (.c (.s (.s .z)) (.c (.s (.s .z)) (.c (.s (.s .z)) .n)))))) ?_
                      refine At.H.take 7 rfl (by kernel_rfl) (by kernel_rfl) (by kernel_rfl) (Y.ldFl hr2 rfl (q := 0) rfl rfl h8132.1 h8132.2 rfl rfl rfl) rfl rfl rfl (.c (.s .z) (.c (.s .z) (.c (.s (.s .z)) (.c (.s (.s .z)) (.c (.s (.s .z)) (.c (.s (.s .z)) .n)))))) ?_
                      refine At.H.pv 10 rfl (by kernel_rfl) (by kernel_rfl) (by kernel_rfl) rfl rfl rfl rfl (.c (.s .z) (.c (.s .z) (.c (.s (.s .z)) (.c (.s (.s .z)) (.c (.s (.s .z)) (.c (.s (.s .z)) .n)))))) ?_
                      obtain ⟨h8133, hrun⟩ := bnone hrun
                      refine At.H.joinK (X := (Option Addr) × Nat) (fun s_ => [(2, .slice A2 a2.length c2), (3, .pointer (some ⟨b258, 0, none⟩)), (4, .pointer (some ⟨b259, 0, none⟩)), (8, .pointer (some ⟨b264, 0, none⟩)), (9, .pointer (some ⟨b485, 0, none⟩)), (10, .int .i64 0)]) (fun s_ => pt b485 (.cells [.slice w479 ((((([] : List Int) ++ a1_0) ++ ([0] : List Int)).take (a1_0.length : Int).toNat).length) w480, .slice w475 ((((([] : List Int) ++ a1_1) ++ ([0] : List Int)).take (a1_1.length : Int).toNat).length) w476, .slice s_.1 ((x7916 ++ ([(gt a2 0)] : List Int)).length) s_.2, .slice w473 ((((([] : List Int) ++ a1_3) ++ ([0] : List Int)).take (a1_3.length : Int).toNat).length) w474].toArray 39) :: row (Fl.int .i64) 3 s_.1 ((x7916 ++ ([(gt a2 0)] : List Int)).length) s_.2 (x7916 ++ ([(gt a2 0)] : List Int)) :: row (Fl.int .i64) 3 w479 ((((([] : List Int) ++ a1_0) ++ ([0] : List Int)).take (a1_0.length : Int).toNat).length) w480 (((([] : List Int) ++ a1_0) ++ ([0] : List Int)).take (a1_0.length : Int).toNat) :: row (Fl.int .i64) 3 w475 ((((([] : List Int) ++ a1_1) ++ ([0] : List Int)).take (a1_1.length : Int).toNat).length) w476 (((([] : List Int) ++ a1_1) ++ ([0] : List Int)).take (a1_1.length : Int).toNat) :: row (Fl.int .i64) 3 w473 ((((([] : List Int) ++ a1_3) ++ ([0] : List Int)).take (a1_3.length : Int).toNat).length) w474 (((([] : List Int) ++ a1_3) ++ ([0] : List Int)).take (a1_3.length : Int).toNat) :: pt b264 (.cells [.int .i64 t262.1, .int .i64 t262.2.1, .int .i64 t262.2.2].toArray 44) :: pt b259 (.cells [.slice A1_0 a1_0.length c1_0, .slice A1_1 a1_1.length c1_1, .slice A1_2 a1_2.length c1_2, .slice A1_3 a1_3.length c1_3].toArray 39) :: pt b258 (.cells [.slice A0_0 a0_0.length c0_0, .slice A0_1 a0_1.length c0_1, .slice A0_2 a0_2.length c0_2].toArray 36) :: Fr) (fun s_ => True) ?_ (fun J8131 => ?_)
                      · rintro ⟨w8129, w8130⟩ -
                        · refine At.ibn ?_
                          refine At.thn ?_
                          exact fun a w e hs => J489 ((x7916 ++ ([(gt a2 0)] : List Int)), (x7916 ++ ([(gt a2 0)] : List Int)).length, w8129, w8130) ⟨hrun, rfl⟩ a w (e.sub ⟨rfl, rfl, rfl, rfl, rfl, rfl, trivial⟩) hs
                      · refine At.H.all [4, 8] (by kernel_rfl) rfl (all_cons ?_ (all_cons ?_ all_nil))
                        · · refine At.HO.op rfl ?_
                            refine At.y (Y.load rfl rfl .z rfl rfl rfl) rfl rfl rfl ?_
                            refine At.HO.back (.c (.s .z) (.c (.s .z) (.c (.s (.s .z)) (.c (.s (.s .z)) (.c (.s (.s .z)) (.c (.s (.s .z)) .n)))))) ?_
                            refine At.H.all [8] (by kernel_rfl) rfl (all_cons ?_ all_nil)
                            · · refine At.HO.op rfl ?_
                                refine At.lit rfl (xo := [.tmp 101]) (ys := ([(gt a2 0)] : List Int)) (Fl.int .i64) rfl rfl rfl rfl rfl rfl rfl rfl rfl rfl rfl (fun A8134 c8135 => ?_)
                                refine At.HO.back (.c (.s (.s .z)) (.c (.s (.s .z)) (.c (.s (.s (.s .z))) (.c (.s (.s (.s .z))) (.c (.s (.s (.s .z))) (.c (.s (.s (.s .z))) .n)))))) ?_
                                refine At.H.all [9] (by kernel_rfl) rfl (all_cons ?_ all_nil)
                                · · refine At.HO.op rfl ?_
                                    refine At.append rfl (.s (.s (.s (.s .z)))) (Src.own .z (by simp)) rfl rfl rfl rfl rfl rfl rfl rfl h8133 (by decide) rfl (fun A8137 c8138 => ?_)
                                    refine At.drop (.s .z) ?_
                                    refine At.HO.back (.c (.s (.s .z)) (.c (.s (.s .z)) (.c (.s (.s .z)) (.c (.s (.s .z)) (.c (.s (.s .z)) (.c (.s (.s .z)) .n)))))) ?_
                                    refine At.H.take 11 rfl (by kernel_rfl) (by kernel_rfl) (by kernel_rfl) (Y.ixArrK rfl rfl rfl rfl rfl (show (0 : Int) ≤ 0 ∧ (0 : Int) < 2 by decide).1 (show (0 : Int) ≤ 0 ∧ (0 : Int) < 2 by decide).2 (q := 0) (off := 2) rfl rfl) rfl rfl rfl (.c (.s (.s .z)) (.c (.s (.s .z)) (.c (.s (.s .z)) (.c (.s (.s .z)) (.c (.s (.s .z)) (.c (.s (.s .z)) .n)))))) ?_
                                    refine At.H.all [12] (by kernel_rfl) rfl (all_cons ?_ all_nil)
                                    · · refine At.HO.op rfl ?_
                                        refine At.store rfl rfl rfl rfl (.s .z) rfl rfl rfl (.s (.s (.c .n))) ?_
                                        refine At.HO.back (.c (.s (.s .z)) (.c (.s (.s .z)) (.c (.s (.s .z)) (.c (.s (.s .z)) (.c (.s (.s .z)) (.c (.s (.s .z)) .n)))))) ?_
                                        refine At.H.done (by kernel_rfl) ?_
                                        exact At.of (J8131 (A8137, c8138) trivial) ⟨rfl, rfl, rfl, rfl, rfl, rfl, trivial⟩
                        · · refine At.HO.op rfl ?_
                            refine At.lit rfl (xo := [.tmp 101]) (ys := ([(gt a2 0)] : List Int)) (Fl.int .i64) rfl rfl rfl rfl rfl rfl rfl rfl rfl rfl rfl (fun A8139 c8140 => ?_)
                            refine At.HO.back (.c (.s (.s .z)) (.c (.s (.s .z)) (.c (.s (.s (.s .z))) (.c (.s (.s (.s .z))) (.c (.s (.s (.s .z))) (.c (.s (.s (.s .z))) .n)))))) ?_
                            refine At.H.all [4] (by kernel_rfl) rfl (all_cons ?_ all_nil)
                            · · refine At.HO.op rfl ?_
                                refine At.y (Y.load rfl rfl (.s .z) rfl rfl rfl) rfl rfl rfl ?_
                                refine At.HO.back (.c (.s (.s .z)) (.c (.s (.s .z)) (.c (.s (.s (.s .z))) (.c (.s (.s (.s .z))) (.c (.s (.s (.s .z))) (.c (.s (.s (.s .z))) .n)))))) ?_
                                refine At.H.all [9] (by kernel_rfl) rfl (all_cons ?_ all_nil)
                                · · refine At.HO.op rfl ?_
                                    refine At.append rfl (.s (.s (.s (.s .z)))) (Src.own .z (by simp)) rfl rfl rfl rfl rfl rfl rfl rfl h8133 (by decide) rfl (fun A8142 c8143 => ?_)
                                    refine At.drop (.s .z) ?_
                                    refine At.HO.back (.c (.s (.s .z)) (.c (.s (.s .z)) (.c (.s (.s .z)) (.c (.s (.s .z)) (.c (.s (.s .z)) (.c (.s (.s .z)) .n)))))) ?_
                                    refine At.H.take 11 rfl (by kernel_rfl) (by kernel_rfl) (by kernel_rfl) (Y.ixArrK rfl rfl rfl rfl rfl (show (0 : Int) ≤ 0 ∧ (0 : Int) < 2 by decide).1 (show (0 : Int) ≤ 0 ∧ (0 : Int) < 2 by decide).2 (q := 0) (off := 2) rfl rfl) rfl rfl rfl (.c (.s (.s .z)) (.c (.s (.s .z)) (.c (.s (.s .z)) (.c (.s (.s .z)) (.c (.s (.s .z)) (.c (.s (.s .z)) .n)))))) ?_
                                    refine At.H.all [12] (by kernel_rfl) rfl (all_cons ?_ all_nil)
                                    · · refine At.HO.op rfl ?_
                                        refine At.store rfl rfl rfl rfl (.s .z) rfl rfl rfl (.s (.s (.c .n))) ?_
                                        refine At.HO.back (.c (.s (.s .z)) (.c (.s (.s .z)) (.c (.s (.s .z)) (.c (.s (.s .z)) (.c (.s (.s .z)) (.c (.s (.s .z)) .n)))))) ?_
                                        refine At.H.done (by kernel_rfl) ?_
                                        exact At.of (J8131 (A8142, c8143) trivial) ⟨rfl, rfl, rfl, rfl, rfl, rfl, trivial⟩
                  · · refine At.condF rfl (decide_eq_false h7928) ?_
                      refine At.skip ?_
                      refine At.ibn ?_
                      refine At.thn ?_
                      refine At.rowLen (.s (.s (.s .z))) fun hn8144 => ?_
                      refine At.frt (.s (.s (.s (.s (.s (.s (.s .z))))))) ?_
                      refine At.frt (.s (.s (.s (.s (.s (.s (.s .z))))))) ?_
                      refine At.frt (.s (.s (.s (.s (.s (.s (.s .z))))))) ?_
                      refine At.frt (.s (.s (.s (.s (.s (.s (.s .z))))))) ?_
                      refine At.frt (.s (.s (.s (.s (.s (.s .z)))))) ?_
                      refine At.frt (.s (.s (.s (.s (.s (.s .z)))))) ?_
                      refine At.frt (.s (.s (.s (.s (.s (.s (.s .z))))))) ?_
                      refine At.frt (.s (.s (.s (.s (.s (.s (.s .z))))))) ?_
                      exact fun a w e hs => J489 (x7916, (((([] : List Int) ++ a1_2) ++ ([0] : List Int)).take (a1_2.length : Int).toNat).length, w477, w478) ⟨hrun, hn8144⟩ a w (e.sub ⟨rfl, rfl, rfl, rfl, rfl, rfl, trivial⟩) hs
              · clear hit7925 m7923
                rintro m7923 ⟨x7714, x7715⟩ hit7925
                obtain ⟨m7924, f_, hlt7926, hf_, hrun⟩ := bit hit7925
                clear hit7925
                have hrun : (bailifflaw16_JudgeBlind.l5b a0_0 a1_0 a1_2 a2 x7714 x7715).bind _ = some o7920 := hrun
                unfold bailifflaw16_JudgeBlind.l5b at hrun
                · refine At.seq ?_
                  refine At.seq ?_
                  refine At.region ?_
                  refine At.run 3 rfl ?_
                  refine At.y (Y.ixArrK rfl rfl rfl rfl rfl (show (0 : Int) ≤ 0 ∧ (0 : Int) < 2 by decide).1 (show (0 : Int) ≤ 0 ∧ (0 : Int) < 2 by decide).2 (q := 0) (off := 2) rfl rfl) rfl rfl rfl ?_
                  refine At.y (Y.load rfl rfl .z rfl rfl rfl) rfl rfl rfl ?_
                  refine At.run 2 rfl ?_
                  refine At.nil ?_
                  refine At.thn ?_
                  rcases bite hrun with ⟨h8145, hrun⟩ | ⟨h8145, hrun⟩
                  · · refine At.condT rfl (decide_eq_true h8145) ?_
                      refine At.skip ?_
                      refine At.thn ?_
                      refine At.seq ?_
                      obtain ⟨G8146, hl8147, hr8148, hrun⟩ := bjoin hrun
                      refine At.join (X := (List Int)) (fun x8350 => [(2, .slice A2 a2.length c2), (3, .pointer (some ⟨b258, 0, none⟩)), (4, .pointer (some ⟨b259, 0, none⟩)), (8, .pointer (some ⟨b264, 0, none⟩)), (9, .pointer (some ⟨b485, 0, none⟩)), (10, .int .i64 0), (11, .int .i64 x7715)]) (fun x8350 => pt b485 (.cells [.slice w479 ((((([] : List Int) ++ a1_0) ++ ([0] : List Int)).take (a1_0.length : Int).toNat).length) w480, .slice w475 ((((([] : List Int) ++ a1_1) ++ ([0] : List Int)).take (a1_1.length : Int).toNat).length) w476, .slice w477 ((((([] : List Int) ++ a1_2) ++ ([0] : List Int)).take (a1_2.length : Int).toNat).length) w478, .slice w473 ((((([] : List Int) ++ a1_3) ++ ([0] : List Int)).take (a1_3.length : Int).toNat).length) w474].toArray 39) :: row (Fl.int .i64) 3 w479 ((((([] : List Int) ++ a1_0) ++ ([0] : List Int)).take (a1_0.length : Int).toNat).length) w480 (((([] : List Int) ++ a1_0) ++ ([0] : List Int)).take (a1_0.length : Int).toNat) :: row (Fl.int .i64) 3 w475 ((((([] : List Int) ++ a1_1) ++ ([0] : List Int)).take (a1_1.length : Int).toNat).length) w476 (((([] : List Int) ++ a1_1) ++ ([0] : List Int)).take (a1_1.length : Int).toNat) :: row (Fl.int .i64) 3 w477 ((((([] : List Int) ++ a1_2) ++ ([0] : List Int)).take (a1_2.length : Int).toNat).length) w478 x8350 :: row (Fl.int .i64) 3 w473 ((((([] : List Int) ++ a1_3) ++ ([0] : List Int)).take (a1_3.length : Int).toNat).length) w474 (((([] : List Int) ++ a1_3) ++ ([0] : List Int)).take (a1_3.length : Int).toNat) :: pt b264 (.cells [.int .i64 t262.1, .int .i64 t262.2.1, .int .i64 t262.2.2].toArray 44) :: pt b259 (.cells [.slice A1_0 a1_0.length c1_0, .slice A1_1 a1_1.length c1_1, .slice A1_2 a1_2.length c1_2, .slice A1_3 a1_3.length c1_3].toArray 39) :: pt b258 (.cells [.slice A0_0 a0_0.length c0_0, .slice A0_1 a0_1.length c0_1, .slice A0_2 a0_2.length c0_2].toArray 36) :: Fr) (fun x8350 => G8146 (.inl x8350) = some o7920) ?_ (fun J8149 => ?_)
                      · rintro x8350 hrun
                        have hrun := (hl8147 _).symm.trans hrun
                        · refine At.region ?_
                          refine At.run 3 rfl ?_
                          refine At.nil ?_
                          have hrun := bnx hf_ hrun
                          exact fun a w e hs => ⟨m7924, (x8350, IntKind.i64.wrap (x7715 + 1)), hlt7926, hrun, e.sub ⟨rfl, rfl, rfl, rfl, rfl, rfl, rfl, trivial⟩, hs⟩
                      · · refine At.block ?_
                          refine At.seq ?_
                          refine At.region ?_
                          refine At.run 2 rfl ?_
                          refine At.y (Y.load rfl rfl (.s (.s (.s (.s (.s (.s (.s .z))))))) rfl rfl rfl) rfl rfl rfl ?_
                          refine At.run 3 rfl ?_
                          obtain ⟨G8552, hl8553, hr8554, hrun⟩ := bjoin hrun
                          refine At.joinO 8 (X := Bool) (fun x8551 => [(2, .slice A2 a2.length c2), (3, .pointer (some ⟨b258, 0, none⟩)), (4, .pointer (some ⟨b259, 0, none⟩)), (8, .pointer (some ⟨b264, 0, none⟩)), (9, .pointer (some ⟨b485, 0, none⟩)), (10, .int .i64 0), (11, .int .i64 x7715), (60, .bool x8551)]) (fun x8551 => pt b485 (.cells [.slice w479 ((((([] : List Int) ++ a1_0) ++ ([0] : List Int)).take (a1_0.length : Int).toNat).length) w480, .slice w475 ((((([] : List Int) ++ a1_1) ++ ([0] : List Int)).take (a1_1.length : Int).toNat).length) w476, .slice w477 ((((([] : List Int) ++ a1_2) ++ ([0] : List Int)).take (a1_2.length : Int).toNat).length) w478, .slice w473 ((((([] : List Int) ++ a1_3) ++ ([0] : List Int)).take (a1_3.length : Int).toNat).length) w474].toArray 39) :: row (Fl.int .i64) 3 w479 ((((([] : List Int) ++ a1_0) ++ ([0] : List Int)).take (a1_0.length : Int).toNat).length) w480 (((([] : List Int) ++ a1_0) ++ ([0] : List Int)).take (a1_0.length : Int).toNat) :: row (Fl.int .i64) 3 w475 ((((([] : List Int) ++ a1_1) ++ ([0] : List Int)).take (a1_1.length : Int).toNat).length) w476 (((([] : List Int) ++ a1_1) ++ ([0] : List Int)).take (a1_1.length : Int).toNat) :: row (Fl.int .i64) 3 w477 ((((([] : List Int) ++ a1_2) ++ ([0] : List Int)).take (a1_2.length : Int).toNat).length) w478 x7714 :: row (Fl.int .i64) 3 w473 ((((([] : List Int) ++ a1_3) ++ ([0] : List Int)).take (a1_3.length : Int).toNat).length) w474 (((([] : List Int) ++ a1_3) ++ ([0] : List Int)).take (a1_3.length : Int).toNat) :: pt b264 (.cells [.int .i64 t262.1, .int .i64 t262.2.1, .int .i64 t262.2.2].toArray 44) :: pt b259 (.cells [.slice A1_0 a1_0.length c1_0, .slice A1_1 a1_1.length c1_1, .slice A1_2 a1_2.length c1_2, .slice A1_3 a1_3.length c1_3].toArray 39) :: pt b258 (.cells [.slice A0_0 a0_0.length c0_0, .slice A0_1 a0_1.length c0_1, .slice A0_2 a0_2.length c0_2].toArray 36) :: Fr) (fun x8551 => G8552 (.inl x8551) = some o7920) ?_ (fun J8555 => ?_)
                          · rintro x8551 hrun
                            have hrun := (hl8553 _).symm.trans hrun
                            · refine At.run 1 rfl ?_
                              obtain ⟨G8757, hl8758, hr8759, hrun⟩ := bjoin hrun
                              refine At.joinO 8 (X := Bool) (fun x8756 => [(2, .slice A2 a2.length c2), (3, .pointer (some ⟨b258, 0, none⟩)), (4, .pointer (some ⟨b259, 0, none⟩)), (8, .pointer (some ⟨b264, 0, none⟩)), (9, .pointer (some ⟨b485, 0, none⟩)), (10, .int .i64 0), (11, .int .i64 x7715), (69, .bool x8756)]) (fun x8756 => pt b485 (.cells [.slice w479 ((((([] : List Int) ++ a1_0) ++ ([0] : List Int)).take (a1_0.length : Int).toNat).length) w480, .slice w475 ((((([] : List Int) ++ a1_1) ++ ([0] : List Int)).take (a1_1.length : Int).toNat).length) w476, .slice w477 ((((([] : List Int) ++ a1_2) ++ ([0] : List Int)).take (a1_2.length : Int).toNat).length) w478, .slice w473 ((((([] : List Int) ++ a1_3) ++ ([0] : List Int)).take (a1_3.length : Int).toNat).length) w474].toArray 39) :: row (Fl.int .i64) 3 w479 ((((([] : List Int) ++ a1_0) ++ ([0] : List Int)).take (a1_0.length : Int).toNat).length) w480 (((([] : List Int) ++ a1_0) ++ ([0] : List Int)).take (a1_0.length : Int).toNat) :: row (Fl.int .i64) 3 w475 ((((([] : List Int) ++ a1_1) ++ ([0] : List Int)).take (a1_1.length : Int).toNat).length) w476 (((([] : List Int) ++ a1_1) ++ ([0] : List Int)).take (a1_1.length : Int).toNat) :: row (Fl.int .i64) 3 w477 ((((([] : List Int) ++ a1_2) ++ ([0] : List Int)).take (a1_2.length : Int).toNat).length) w478 x7714 :: row (Fl.int .i64) 3 w473 ((((([] : List Int) ++ a1_3) ++ ([0] : List Int)).take (a1_3.length : Int).toNat).length) w474 (((([] : List Int) ++ a1_3) ++ ([0] : List Int)).take (a1_3.length : Int).toNat) :: pt b264 (.cells [.int .i64 t262.1, .int .i64 t262.2.1, .int .i64 t262.2.2].toArray 44) :: pt b259 (.cells [.slice A1_0 a1_0.length c1_0, .slice A1_1 a1_1.length c1_1, .slice A1_2 a1_2.length c1_2, .slice A1_3 a1_3.length c1_3].toArray 39) :: pt b258 (.cells [.slice A0_0 a0_0.length c0_0, .slice A0_1 a0_1.length c0_1, .slice A0_2 a0_2.length c0_2].toArray 36) :: Fr) (fun x8756 => G8757 (.inl x8756) = some o7920) ?_ (fun J8760 => ?_)
                              · rintro x8756 hrun
                                have hrun := (hl8758 _).symm.trans hrun
                                · refine At.run 1 rfl ?_
                                  refine At.nil ?_
                                  refine At.thn ?_
                                  refine At.seq ?_
                                  refine At.region ?_
                                  refine At.run 2 rfl ?_
                                  refine At.nil ?_
                                  refine At.thn ?_
                                  rcases bite hrun with ⟨h8761, hrun⟩ | ⟨h8761, hrun⟩
                                  · · refine At.condF rfl (nf h8761) ?_
                                      refine At.skip ?_
                                      refine At.ibn ?_
                                      refine At.thn ?_
                                      exact fun a w e hs => J8149 x7714 hrun a w (e.sub ⟨rfl, rfl, rfl, rfl, rfl, rfl, rfl, trivial⟩) hs
                                  · · refine At.condT rfl (nt (bn h8761)) ?_
                                      refine At.still 13 (by kernel_rfl) ?_
                                      refine At.Still.run 2 rfl ?_
                                      refine At.Still.y (Y.ixArrK rfl rfl rfl rfl rfl (show (0 : Int) ≤ 0 ∧ (0 : Int) < 2 by decide).1 (show (0 : Int) ≤ 0 ∧ (0 : Int) < 2 by decide).2 (q := 0) (off := 2) rfl rfl) rfl rfl rfl ?_
                                      refine At.Still.y (Y.load rfl rfl .z rfl rfl rfl) rfl rfl rfl ?_
                                      refine At.Still.run 5 rfl ?_
                                      obtain ⟨h8762, hrun⟩ := bnone hrun
                                      refine At.Still.y (Y.rem rfl rfl h8762) rfl rfl rfl ?_
                                      obtain ⟨h8763, hrun⟩ := bnone hrun
                                      refine At.Still.y (Y.ixRd hr2 rfl rfl rfl rfl rfl rfl rfl h8763.1 h8763.2) rfl rfl rfl ?_
                                      refine At.Still.y (Y.ldFl hr2 rfl (q := 0) rfl rfl h8763.1 h8763.2 rfl rfl rfl) rfl rfl rfl ?_
                                      obtain ⟨h8764, hrun⟩ := bnone hrun
                                      refine At.Still.y (Y.ix (.s (.s (.s .z))) rfl rfl rfl rfl rfl rfl h8764.1 h8764.2) rfl rfl rfl ?_
                                      refine At.Still.nil ?_
                                      refine At.st rfl (.s (.s (.s .z))) (q := 0) (z := (gt a2 (Int.tmod x7715 (a2.length : Int)))) rfl rfl rfl h8764.1 h8764.2 rfl rfl (.c .n) ?_
                                      refine At.nil ?_
                                      refine At.ibn ?_
                                      refine At.thn ?_
                                      refine At.frt (.s (.s (.s (.s (.s (.s (.s .z))))))) ?_
                                      refine At.frt (.s (.s (.s (.s (.s (.s (.s .z))))))) ?_
                                      refine At.frt (.s (.s (.s (.s (.s (.s (.s .z))))))) ?_
                                      refine At.frt (.s (.s (.s (.s (.s (.s (.s .z))))))) ?_
                                      refine At.frt (.s (.s (.s (.s .z)))) ?_
                                      refine At.frt (.s (.s (.s (.s (.s (.s (.s .z))))))) ?_
                                      refine At.frt (.s (.s (.s (.s (.s (.s (.s .z))))))) ?_
                                      refine At.frt (.s (.s (.s (.s (.s (.s (.s .z))))))) ?_
                                      exact fun a w e hs => J8149 (st x7714 x7715 (gt a2 (Int.tmod x7715 (a2.length : Int)))) hrun a w (e.sub ⟨rfl, rfl, rfl, rfl, rfl, rfl, rfl, trivial⟩) hs
                              · · rcases bite hrun with ⟨h8765, hrun⟩ | ⟨h8765, hrun⟩
                                  · · refine At.know (t := 61) rfl h8765 ?_
                                      refine At.run 2 rfl ?_
                                      refine At.y (Y.ixArrK rfl rfl rfl rfl rfl (show (0 : Int) ≤ 0 ∧ (0 : Int) < 2 by decide).1 (show (0 : Int) ≤ 0 ∧ (0 : Int) < 2 by decide).2 (q := 0) (off := 0) rfl rfl) rfl rfl rfl ?_
                                      refine At.y (Y.load rfl rfl (.s (.s (.s (.s (.s (.s .z)))))) rfl rfl rfl) rfl rfl rfl ?_
                                      refine At.run 1 rfl ?_
                                      obtain ⟨t8766, hc8767, hrun⟩ := bbind hrun
                                      refine At.call rfl bailiffref16_Count.callee rfl rfl rfl (bailiffref16_Count.spec _ _ A1_0 a1_0.length c1_0 a1_0 x7715 hr1_0 rfl hc1_0 hc8767) ?_
                                      rintro _ _ ⟨rfl, rfl⟩
                                      refine At.run 2 rfl ?_
                                      exact At.of (J8760 (decide (0 < t8766)) hrun) ⟨rfl, rfl, rfl, rfl, rfl, rfl, rfl, rfl, trivial⟩
                                  · · refine At.know (t := 61) rfl (bn h8765) ?_
                                      refine At.run 8 rfl ?_
                                      exact At.of (J8760 false hrun) ⟨rfl, rfl, rfl, rfl, rfl, rfl, rfl, rfl, trivial⟩
                          · · rcases bite hrun with ⟨h8768, hrun⟩ | ⟨h8768, hrun⟩
                              · · refine At.know (t := 52) rfl (decide_eq_true h8768) ?_
                                  refine At.run 1 rfl ?_
                                  refine At.y (Y.load rfl rfl (.s (.s (.s (.s (.s (.s (.s .z))))))) rfl rfl rfl) rfl rfl rfl ?_
                                  refine At.run 1 rfl ?_
                                  obtain ⟨h8769, hrun⟩ := bnone hrun
                                  refine At.y (Y.ixRd hr0_0 rfl rfl rfl rfl rfl rfl rfl h8769.1 h8769.2) rfl rfl rfl ?_
                                  refine At.y (Y.ldFl hr0_0 rfl (q := 0) rfl rfl h8769.1 h8769.2 rfl rfl rfl) rfl rfl rfl ?_
                                  refine At.run 3 rfl ?_
                                  exact At.of (J8555 (decide (gt a0_0 x7715 = 0)) hrun) ⟨rfl, rfl, rfl, rfl, rfl, rfl, rfl, rfl, trivial⟩
                              · · refine At.know (t := 52) rfl (decide_eq_false h8768) ?_
                                  refine At.run 8 rfl ?_
                                  exact At.of (J8555 false hrun) ⟨rfl, rfl, rfl, rfl, rfl, rfl, rfl, rfl, trivial⟩
                  · · refine At.condF rfl (decide_eq_false h8145) ?_
                      refine At.exit ?_
                      refine At.the ?_
                      refine At.the ?_
                      exact fun a w e hs => J7927 x7714 (bdn hrun ho7922) a w (e.sub ⟨rfl, rfl, rfl, rfl, rfl, rfl, trivial⟩) hs
  · · rcases bite hrun with ⟨h8770, hrun⟩ | ⟨h8770, hrun⟩
      · · refine At.know (t := 26) rfl (nf h8770) ?_
          refine At.run 4 rfl ?_
          exact At.of (J469 (decide ((a2.length : Int) = 0)) hrun) ⟨rfl, rfl, rfl, rfl, rfl, rfl, trivial⟩
      · · refine At.know (t := 26) rfl (nt (bn h8770)) ?_
          refine At.run 4 rfl ?_
          exact At.of (J469 true hrun) ⟨rfl, rfl, rfl, rfl, rfl, rfl, trivial⟩

end Go.Bw
