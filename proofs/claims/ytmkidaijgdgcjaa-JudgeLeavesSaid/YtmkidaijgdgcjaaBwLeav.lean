/- Walks: what the functions of the program compute, told by plain functions, and that the calls come to them. Conditions: none. -/
import Derived.Test.YtmkidaijgdgcjaaBwTyx
import Derived.Test.YtmkidaijgdgcjaaProg
import Derived.Test.YtmkidaijgdgcjaaBwLay
import Derived.Test.YtmkidaijgdgcjaaBwSortI
import Derived.Test.YtmkidaijgdgcjaaBwSortF
import Derived.Deep.QuietTactic
import Derived.Test.YtmkidaijgdgcjaaBwJud
import Derived.Test.YtmkidaijgdgcjaaBwAgg
set_option linter.unusedVariables false
set_option linter.unusedSimpArgs false
set_option linter.unusedSectionVars false
namespace Go.Bw
open Go Go.RowKit Go.Proofs
noncomputable def bailifflaw16_JudgeLeaves.f (a0_0 : List Int) (a0_1 : List Int) (a0_2 : List (List Int)) (a1_0 : List Int) (a1_1 : List Int) (a1_2 : List Int) (a1_3 : List Int) (a2 : Int) (a3 : Int) : Option Bool :=
  (bailifflaw16_shown.f ).bind fun t260 =>
    (judge_Judge.f a0_0 a0_1 a0_2 a1_0 a1_1 a1_2 a1_3).bind fun t262 =>
      jn (
        if t260 = true then
          some (.inl (!(decide (t262.1 = 0))))
        else
          some (.inl true)) (fun (x465 : Bool) =>
        if x465 = true then
          some t260
        else
          if a2 < 0 then
            if ¬ (a0_0.length : Int) = 0 then
              if (0 : Int) ≤ (Int.tmod (IntKind.i64.wrap (0 - (IntKind.i64.wrap (a2 + 1)))) (a0_0.length : Int)) ∧ (Int.tmod (IntKind.i64.wrap (0 - (IntKind.i64.wrap (a2 + 1)))) (a0_0.length : Int)) < (a0_0.length : Int) then
                jn (
                  if (0 : Int) ≤ gt a0_0 (Int.tmod (IntKind.i64.wrap (0 - (IntKind.i64.wrap (a2 + 1)))) (a0_0.length : Int)) ∧ gt a0_0 (Int.tmod (IntKind.i64.wrap (0 - (IntKind.i64.wrap (a2 + 1)))) (a0_0.length : Int)) < (2 : Int) then
                    if gt a0_0 (Int.tmod (IntKind.i64.wrap (0 - (IntKind.i64.wrap (a2 + 1)))) (a0_0.length : Int)) = 0 then
                      (bailiffref16_Count.f a1_0 (Int.tmod (IntKind.i64.wrap (0 - (IntKind.i64.wrap (a2 + 1)))) (a0_0.length : Int))).bind fun t1568 =>
                        some (.inl (decide (t1568 = 0)))
                    else
                      (bailiffref16_Count.f a1_1 (Int.tmod (IntKind.i64.wrap (0 - (IntKind.i64.wrap (a2 + 1)))) (a0_0.length : Int))).bind fun t1571 =>
                        some (.inl (decide (t1571 = 0)))
                  else none) (fun (x678 : Bool) =>
                  if x678 = true then
                    some true
                  else
                    (bailifflaw16_lent.f a1_0 a1_1 a1_2 a1_3).bind fun t680 =>
                      jn (
                        if (0 : Int) ≤ gt a0_0 (Int.tmod (IntKind.i64.wrap (0 - (IntKind.i64.wrap (a2 + 1)))) (a0_0.length : Int)) ∧ gt a0_0 (Int.tmod (IntKind.i64.wrap (0 - (IntKind.i64.wrap (a2 + 1)))) (a0_0.length : Int)) < (2 : Int) then
                          if gt a0_0 (Int.tmod (IntKind.i64.wrap (0 - (IntKind.i64.wrap (a2 + 1)))) (a0_0.length : Int)) = 0 then
                            if (0 : Int) ≤ (Int.tmod (IntKind.i64.wrap (0 - (IntKind.i64.wrap (a2 + 1)))) (a0_0.length : Int)) ∧ (Int.tmod (IntKind.i64.wrap (0 - (IntKind.i64.wrap (a2 + 1)))) (a0_0.length : Int)) < ((((([] : List Int) ++ a1_2) ++ ([0] : List Int)).take (a1_2.length : Int).toNat).length : Int) then
                              some (.inl ((st (((([] : List Int) ++ a1_2) ++ ([0] : List Int)).take (a1_2.length : Int).toNat) (Int.tmod (IntKind.i64.wrap (0 - (IntKind.i64.wrap (a2 + 1)))) (a0_0.length : Int)) a3), (((([] : List Int) ++ a1_3) ++ ([0] : List Int)).take (a1_3.length : Int).toNat)))
                            else none
                          else
                            if (0 : Int) ≤ (Int.tmod (IntKind.i64.wrap (0 - (IntKind.i64.wrap (a2 + 1)))) (a0_0.length : Int)) ∧ (Int.tmod (IntKind.i64.wrap (0 - (IntKind.i64.wrap (a2 + 1)))) (a0_0.length : Int)) < ((((([] : List Int) ++ a1_3) ++ ([0] : List Int)).take (a1_3.length : Int).toNat).length : Int) then
                              some (.inl ((((([] : List Int) ++ a1_2) ++ ([0] : List Int)).take (a1_2.length : Int).toNat), (st (((([] : List Int) ++ a1_3) ++ ([0] : List Int)).take (a1_3.length : Int).toNat) (Int.tmod (IntKind.i64.wrap (0 - (IntKind.i64.wrap (a2 + 1)))) (a0_0.length : Int)) a3)))
                            else none
                        else none) (fun (s_ : (List Int) × (List Int)) =>
                        (judge_Judge.f a0_0 a0_1 a0_2 (((([] : List Int) ++ a1_0) ++ ([0] : List Int)).take (a1_0.length : Int).toNat) (((([] : List Int) ++ a1_1) ++ ([0] : List Int)).take (a1_1.length : Int).toNat) s_.1 s_.2).bind fun t925 =>
                          if (0 : Int) ≤ (Int.tmod (IntKind.i64.wrap (0 - (IntKind.i64.wrap (a2 + 1)))) (a0_0.length : Int)) ∧ (Int.tmod (IntKind.i64.wrap (0 - (IntKind.i64.wrap (a2 + 1)))) (a0_0.length : Int)) < (a0_2.length : Int) then
                            (bailiffref16_Count.f (gt a0_2 (Int.tmod (IntKind.i64.wrap (0 - (IntKind.i64.wrap (a2 + 1)))) (a0_0.length : Int))) a3).bind fun t933 =>
                              if t933 = 0 then
                                some (decide (t925.1 = 16) && (decide (t925.2.1 = gt a0_0 (Int.tmod (IntKind.i64.wrap (0 - (IntKind.i64.wrap (a2 + 1)))) (a0_0.length : Int))) && (decide (t925.2.2 = (Int.tmod (IntKind.i64.wrap (0 - (IntKind.i64.wrap (a2 + 1)))) (a0_0.length : Int))) && true)))
                              else
                                jn (
                                  if (0 : Int) ≤ gt a0_0 (Int.tmod (IntKind.i64.wrap (0 - (IntKind.i64.wrap (a2 + 1)))) (a0_0.length : Int)) ∧ gt a0_0 (Int.tmod (IntKind.i64.wrap (0 - (IntKind.i64.wrap (a2 + 1)))) (a0_0.length : Int)) < (2 : Int) then
                                    if gt a0_0 (Int.tmod (IntKind.i64.wrap (0 - (IntKind.i64.wrap (a2 + 1)))) (a0_0.length : Int)) = 0 then
                                      (bailiffref16_Count.f a1_0 a3).bind fun t1556 =>
                                        some (.inl (decide (t1556 = 0)))
                                    else
                                      (bailiffref16_Count.f a1_1 a3).bind fun t1559 =>
                                        some (.inl (decide (t1559 = 0)))
                                  else none) (fun (x1140 : Bool) =>
                                  if x1140 = true then
                                    some (decide (t925.1 = 20) && (decide (t925.2.1 = gt a0_0 (Int.tmod (IntKind.i64.wrap (0 - (IntKind.i64.wrap (a2 + 1)))) (a0_0.length : Int))) && (decide (t925.2.2 = (Int.tmod (IntKind.i64.wrap (0 - (IntKind.i64.wrap (a2 + 1)))) (a0_0.length : Int))) && true)))
                                  else
                                    jn (
                                      if (decide (t925.1 = 0) && (decide (t925.2.1 = 0) && (decide (t925.2.2 = 0) && true))) = true then
                                        some (.inl true)
                                      else
                                        jn (
                                          if t925.1 = 21 then
                                            some (.inl (decide (t925.2.1 = gt a0_0 (Int.tmod (IntKind.i64.wrap (0 - (IntKind.i64.wrap (a2 + 1)))) (a0_0.length : Int)))))
                                          else
                                            some (.inl false)) (fun (x1548 : Bool) =>
                                          some (.inl x1548))) (fun (x1342 : Bool) =>
                                      some x1342))
                          else none))
              else none
            else none
          else
            if ¬ (a0_0.length : Int) = 0 then
              if (0 : Int) ≤ (Int.tmod a2 (a0_0.length : Int)) ∧ (Int.tmod a2 (a0_0.length : Int)) < (a0_0.length : Int) then
                jn (
                  if (0 : Int) ≤ gt a0_0 (Int.tmod a2 (a0_0.length : Int)) ∧ gt a0_0 (Int.tmod a2 (a0_0.length : Int)) < (2 : Int) then
                    if gt a0_0 (Int.tmod a2 (a0_0.length : Int)) = 0 then
                      (bailiffref16_Count.f a1_0 (Int.tmod a2 (a0_0.length : Int))).bind fun t2669 =>
                        some (.inl (decide (t2669 = 0)))
                    else
                      (bailiffref16_Count.f a1_1 (Int.tmod a2 (a0_0.length : Int))).bind fun t2672 =>
                        some (.inl (decide (t2672 = 0)))
                  else none) (fun (x1779 : Bool) =>
                  if x1779 = true then
                    some true
                  else
                    (bailifflaw16_lent.f a1_0 a1_1 a1_2 a1_3).bind fun t1781 =>
                      jn (
                        if (0 : Int) ≤ gt a0_0 (Int.tmod a2 (a0_0.length : Int)) ∧ gt a0_0 (Int.tmod a2 (a0_0.length : Int)) < (2 : Int) then
                          if gt a0_0 (Int.tmod a2 (a0_0.length : Int)) = 0 then
                            if (0 : Int) ≤ (Int.tmod a2 (a0_0.length : Int)) ∧ (Int.tmod a2 (a0_0.length : Int)) < ((((([] : List Int) ++ a1_2) ++ ([0] : List Int)).take (a1_2.length : Int).toNat).length : Int) then
                              some (.inl ((st (((([] : List Int) ++ a1_2) ++ ([0] : List Int)).take (a1_2.length : Int).toNat) (Int.tmod a2 (a0_0.length : Int)) a3), (((([] : List Int) ++ a1_3) ++ ([0] : List Int)).take (a1_3.length : Int).toNat)))
                            else none
                          else
                            if (0 : Int) ≤ (Int.tmod a2 (a0_0.length : Int)) ∧ (Int.tmod a2 (a0_0.length : Int)) < ((((([] : List Int) ++ a1_3) ++ ([0] : List Int)).take (a1_3.length : Int).toNat).length : Int) then
                              some (.inl ((((([] : List Int) ++ a1_2) ++ ([0] : List Int)).take (a1_2.length : Int).toNat), (st (((([] : List Int) ++ a1_3) ++ ([0] : List Int)).take (a1_3.length : Int).toNat) (Int.tmod a2 (a0_0.length : Int)) a3)))
                            else none
                        else none) (fun (s_ : (List Int) × (List Int)) =>
                        (judge_Judge.f a0_0 a0_1 a0_2 (((([] : List Int) ++ a1_0) ++ ([0] : List Int)).take (a1_0.length : Int).toNat) (((([] : List Int) ++ a1_1) ++ ([0] : List Int)).take (a1_1.length : Int).toNat) s_.1 s_.2).bind fun t2026 =>
                          if (0 : Int) ≤ (Int.tmod a2 (a0_0.length : Int)) ∧ (Int.tmod a2 (a0_0.length : Int)) < (a0_2.length : Int) then
                            (bailiffref16_Count.f (gt a0_2 (Int.tmod a2 (a0_0.length : Int))) a3).bind fun t2034 =>
                              if t2034 = 0 then
                                some (decide (t2026.1 = 16) && (decide (t2026.2.1 = gt a0_0 (Int.tmod a2 (a0_0.length : Int))) && (decide (t2026.2.2 = (Int.tmod a2 (a0_0.length : Int))) && true)))
                              else
                                jn (
                                  if (0 : Int) ≤ gt a0_0 (Int.tmod a2 (a0_0.length : Int)) ∧ gt a0_0 (Int.tmod a2 (a0_0.length : Int)) < (2 : Int) then
                                    if gt a0_0 (Int.tmod a2 (a0_0.length : Int)) = 0 then
                                      (bailiffref16_Count.f a1_0 a3).bind fun t2657 =>
                                        some (.inl (decide (t2657 = 0)))
                                    else
                                      (bailiffref16_Count.f a1_1 a3).bind fun t2660 =>
                                        some (.inl (decide (t2660 = 0)))
                                  else none) (fun (x2241 : Bool) =>
                                  if x2241 = true then
                                    some (decide (t2026.1 = 20) && (decide (t2026.2.1 = gt a0_0 (Int.tmod a2 (a0_0.length : Int))) && (decide (t2026.2.2 = (Int.tmod a2 (a0_0.length : Int))) && true)))
                                  else
                                    jn (
                                      if (decide (t2026.1 = 0) && (decide (t2026.2.1 = 0) && (decide (t2026.2.2 = 0) && true))) = true then
                                        some (.inl true)
                                      else
                                        jn (
                                          if t2026.1 = 21 then
                                            some (.inl (decide (t2026.2.1 = gt a0_0 (Int.tmod a2 (a0_0.length : Int)))))
                                          else
                                            some (.inl false)) (fun (x2649 : Bool) =>
                                          some (.inl x2649))) (fun (x2443 : Bool) =>
                                      some x2443))
                          else none))
              else none
            else none)
theorem bailifflaw16_JudgeLeaves.callee : Callee Go.Proofs.Try.prog 12 := ⟨_, Go.Proofs.Try.func12, by kernel_rfl, by kernel_rfl⟩
set_option maxRecDepth 100000 in
set_option maxHeartbeats 2000000 in
theorem bailifflaw16_JudgeLeaves.spec (R : Res) (Fr : List HProp) (A0_0 : Option Addr) (n0_0 : Nat) (c0_0 : Nat) (A0_1 : Option Addr) (n0_1 : Nat) (c0_1 : Nat) (A0_2 : Option Addr) (n0_2 : Nat) (c0_2 : Nat) (A1_0 : Option Addr) (n1_0 : Nat) (c1_0 : Nat) (A1_1 : Option Addr) (n1_1 : Nat) (c1_1 : Nat) (A1_2 : Option Addr) (n1_2 : Nat) (c1_2 : Nat) (A1_3 : Option Addr) (n1_3 : Nat) (c1_3 : Nat) (a0_0 : List Int) (a0_1 : List Int) (a0_2 : List (List Int)) (a1_0 : List Int) (a1_1 : List Int) (a1_2 : List Int) (a1_3 : List Int) (a2 : Int) (a3 : Int) (hr0_0 : RdS (Fl.int .i64).rep R.heap A0_0 a0_0) (hn0_0 : a0_0.length = n0_0) (hc0_0 : n0_0 ≤ c0_0) (hr0_1 : RdS (Fl.int .i64).rep R.heap A0_1 a0_1) (hn0_1 : a0_1.length = n0_1) (hc0_1 : n0_1 ≤ c0_1) (hr0_2 : RdS ((Fl.int .i64).rep).slice R.heap A0_2 a0_2) (hn0_2 : a0_2.length = n0_2) (hc0_2 : n0_2 ≤ c0_2) (hr1_0 : RdS (Fl.int .i64).rep R.heap A1_0 a1_0) (hn1_0 : a1_0.length = n1_0) (hc1_0 : n1_0 ≤ c1_0) (hr1_1 : RdS (Fl.int .i64).rep R.heap A1_1 a1_1) (hn1_1 : a1_1.length = n1_1) (hc1_1 : n1_1 ≤ c1_1) (hr1_2 : RdS (Fl.int .i64).rep R.heap A1_2 a1_2) (hn1_2 : a1_2.length = n1_2) (hc1_2 : n1_2 ≤ c1_2) (hr1_3 : RdS (Fl.int .i64).rep R.heap A1_3 a1_3) (hn1_3 : a1_3.length = n1_3) (hc1_3 : n1_3 ≤ c1_3) {r : Bool} (hrun : bailifflaw16_JudgeLeaves.f a0_0 a0_1 a0_2 a1_0 a1_1 a1_2 a1_3 a2 a3 = some r) :
    Spec Go.Proofs.Try.prog 12 [.agg #[.slice A0_0 n0_0 c0_0, .slice A0_1 n0_1 c0_1, .slice A0_2 n0_2 c0_2], .agg #[.slice A1_0 n1_0 c1_0, .slice A1_1 n1_1 c1_1, .slice A1_2 n1_2 c1_2, .slice A1_3 n1_3 c1_3], .int .i64 a2, .int .i64 a3] R (Fr) (fun v l' => v = .bool r ∧ Fr = l') := by
  subst hn0_0
  subst hn0_1
  subst hn0_2
  subst hn1_0
  subst hn1_1
  subst hn1_2
  subst hn1_3
  refine Spec.of Go.Proofs.Try.func12 rfl rfl ?_
  unfold bailifflaw16_JudgeLeaves.f at hrun
  have hrun := brun hrun
  refine At.seq ?_
  refine At.region ?_
  refine At.box rfl rfl (cs := [.slice A0_0 a0_0.length c0_0, .slice A0_1 a0_1.length c0_1, .slice A0_2 a0_2.length c0_2]) rfl rfl (fun b258 => ?_)
  refine At.box rfl rfl (cs := [.slice A1_0 a1_0.length c1_0, .slice A1_1 a1_1.length c1_1, .slice A1_2 a1_2.length c1_2, .slice A1_3 a1_3.length c1_3]) rfl rfl (fun b259 => ?_)
  refine At.run 1 rfl ?_
  refine At.nil ?_
  refine At.thn ?_
  refine At.seq ?_
  refine At.region ?_
  obtain ⟨t260, hc261, hrun⟩ := bbind hrun
  refine At.call rfl bailifflaw16_shown.callee rfl rfl rfl (bailifflaw16_shown.spec _ _    hc261) ?_
  rintro _ _ ⟨rfl, rfl⟩
  refine At.run 1 rfl ?_
  refine At.nil ?_
  refine At.thn ?_
  refine At.seq ?_
  refine At.region ?_
  refine At.y (Y.load rfl rfl (.s .z) rfl rfl rfl) rfl rfl rfl ?_
  refine At.y (Y.load rfl rfl .z rfl rfl rfl) rfl rfl rfl ?_
  obtain ⟨t262, hc263, hrun⟩ := bbind hrun
  refine At.call rfl judge_Judge.callee rfl rfl rfl (judge_Judge.spec _ _ A0_0 a0_0.length c0_0 A0_1 a0_1.length c0_1 A0_2 a0_2.length c0_2 A1_0 a1_0.length c1_0 A1_1 a1_1.length c1_1 A1_2 a1_2.length c1_2 A1_3 a1_3.length c1_3 a0_0 a0_1 a0_2 a1_0 a1_1 a1_2 a1_3 hr0_0 rfl hc0_0 hr0_1 rfl hc0_1 hr0_2 rfl hc0_2 hr1_0 rfl hc1_0 hr1_1 rfl hc1_1 hr1_2 rfl hc1_2 hr1_3 rfl hc1_3 hc263) ?_
  rintro _ _ ⟨rfl, rfl⟩
  refine At.alloc rfl rfl rfl (fun b264 => ?_)
  refine At.store rfl rfl rfl rfl .z rfl rfl rfl (.c (.c (.c .n))) ?_
  refine At.nil ?_
  refine At.thn ?_
  refine At.seq ?_
  refine At.seq ?_
  refine At.region ?_
  refine At.run 3 rfl ?_
  obtain ⟨G466, hl467, hr468, hrun⟩ := bjoin hrun
  refine At.joinO 4 (X := Bool) (fun x465 => [(2, .int .i64 a2), (3, .int .i64 a3), (4, .pointer (some ⟨b258, 0, none⟩)), (5, .pointer (some ⟨b259, 0, none⟩)), (9, .bool t260), (10, .pointer (some ⟨b264, 0, none⟩)), (24, .bool x465)]) (fun x465 => pt b264 (.cells [.int .i64 t262.1, .int .i64 t262.2.1, .int .i64 t262.2.2].toArray 44) :: pt b259 (.cells [.slice A1_0 a1_0.length c1_0, .slice A1_1 a1_1.length c1_1, .slice A1_2 a1_2.length c1_2, .slice A1_3 a1_3.length c1_3].toArray 39) :: pt b258 (.cells [.slice A0_0 a0_0.length c0_0, .slice A0_1 a0_1.length c0_1, .slice A0_2 a0_2.length c0_2].toArray 36) :: Fr) (fun x465 => G466 (.inl x465) = some r) ?_ (fun J469 => ?_)
  · rintro x465 hrun
    have hrun := (hl467 _).symm.trans hrun
    · refine At.nil ?_
      refine At.thn ?_
      rcases bite hrun with ⟨h470, hrun⟩ | ⟨h470, hrun⟩
      · · refine At.condT rfl h470 ?_
          refine At.seq ?_
          refine At.region ?_
          refine At.run 2 rfl ?_
          refine At.nil ?_
          refine At.thn ?_
          refine At.ret ?_
          refine At.thr ?_
          refine At.drop .z ?_
          refine At.drop .z ?_
          refine At.drop .z ?_
          obtain rfl := (bret hrun).symm
          exact At.res (.inl rfl) rfl rfl ⟨rfl, rfl⟩
      · · refine At.condF rfl (bn h470) ?_
          refine At.skip ?_
          refine At.thn ?_
          refine At.seq ?_
          refine At.seq ?_
          refine At.region ?_
          refine At.run 2 rfl ?_
          refine At.nil ?_
          refine At.thn ?_
          rcases bite hrun with ⟨h471, hrun⟩ | ⟨h471, hrun⟩
          · · refine At.condT rfl (decide_eq_true h471) ?_
              refine At.region ?_
              refine At.run 4 rfl ?_
              refine At.nil ?_
              refine At.thn ?_
              refine At.seq ?_
              refine At.region ?_
              refine At.run 2 rfl ?_
              refine At.y (Y.load rfl rfl (.s (.s .z)) rfl rfl rfl) rfl rfl rfl ?_
              refine At.run 1 rfl ?_
              obtain ⟨h472, hrun⟩ := bnone hrun
              refine At.y (Y.rem rfl rfl h472) rfl rfl rfl ?_
              refine At.run 1 rfl ?_
              refine At.nil ?_
              refine At.thn ?_
              refine At.seq ?_
              refine At.region ?_
              refine At.run 1 rfl ?_
              refine At.y (Y.load rfl rfl (.s (.s .z)) rfl rfl rfl) rfl rfl rfl ?_
              refine At.run 1 rfl ?_
              obtain ⟨h473, hrun⟩ := bnone hrun
              refine At.y (Y.ixRd hr0_0 rfl rfl rfl rfl rfl rfl rfl h473.1 h473.2) rfl rfl rfl ?_
              refine At.y (Y.ldFl hr0_0 rfl (q := 0) rfl rfl h473.1 h473.2 rfl rfl rfl) rfl rfl rfl ?_
              refine At.run 1 rfl ?_
              refine At.nil ?_
              refine At.thn ?_
              refine At.seq ?_
              refine At.seq ?_
              obtain ⟨G474, hl475, hr476, hrun⟩ := bjoin hrun
              refine At.join (X := Bool) (fun x678 => [(3, .int .i64 a3), (4, .pointer (some ⟨b258, 0, none⟩)), (5, .pointer (some ⟨b259, 0, none⟩)), (10, .pointer (some ⟨b264, 0, none⟩)), (11, .int .i64 (Int.tmod (IntKind.i64.wrap (0 - (IntKind.i64.wrap (a2 + 1)))) (a0_0.length : Int))), (12, .int .i64 (gt a0_0 (Int.tmod (IntKind.i64.wrap (0 - (IntKind.i64.wrap (a2 + 1)))) (a0_0.length : Int)))), (47, .bool x678)]) (fun x678 => pt b264 (.cells [.int .i64 t262.1, .int .i64 t262.2.1, .int .i64 t262.2.2].toArray 44) :: pt b259 (.cells [.slice A1_0 a1_0.length c1_0, .slice A1_1 a1_1.length c1_1, .slice A1_2 a1_2.length c1_2, .slice A1_3 a1_3.length c1_3].toArray 39) :: pt b258 (.cells [.slice A0_0 a0_0.length c0_0, .slice A0_1 a0_1.length c0_1, .slice A0_2 a0_2.length c0_2].toArray 36) :: Fr) (fun x678 => G474 (.inl x678) = some r) ?_ (fun J477 => ?_)
              · rintro x678 hrun
                have hrun := (hl475 _).symm.trans hrun
                · rcases bite hrun with ⟨h679, hrun⟩ | ⟨h679, hrun⟩
                  · · refine At.condT rfl h679 ?_
                      refine At.seq ?_
                      refine At.region ?_
                      refine At.run 1 rfl ?_
                      refine At.nil ?_
                      refine At.thn ?_
                      refine At.ret ?_
                      refine At.thr ?_
                      refine At.drop .z ?_
                      refine At.drop .z ?_
                      refine At.drop .z ?_
                      obtain rfl := (bret hrun).symm
                      exact At.res (.inl rfl) rfl rfl ⟨rfl, rfl⟩
                  · · refine At.condF rfl (bn h679) ?_
                      refine At.skip ?_
                      refine At.thn ?_
                      refine At.seq ?_
                      refine At.region ?_
                      refine At.y (Y.load rfl rfl (.s .z) rfl rfl rfl) rfl rfl rfl ?_
                      obtain ⟨t680, hc681, hrun⟩ := bbind hrun
                      refine At.call rfl bailifflaw16_lent.callee rfl rfl rfl (bailifflaw16_lent.spec _ _ A1_0 a1_0.length c1_0 A1_1 a1_1.length c1_1 A1_2 a1_2.length c1_2 A1_3 a1_3.length c1_3 a1_0 a1_1 a1_2 a1_3 hr1_0 rfl hc1_0 hr1_1 rfl hc1_1 hr1_2 rfl hc1_2 hr1_3 rfl hc1_3 hc681) ?_
                      rintro _ _ ⟨w682, w683, w684, w685, w686, w687, w688, w689, rfl, rfl⟩
                      refine At.alloc rfl rfl rfl (fun b694 => ?_)
                      refine At.store rfl rfl rfl rfl .z rfl rfl rfl (.c (.c (.c (.c .n)))) ?_
                      refine At.nil ?_
                      refine At.thn ?_
                      refine At.seq ?_
                      obtain ⟨G695, hl696, hr697, hrun⟩ := bjoin hrun
                      refine At.join (X := (List Int) × (List Int)) (fun s_ => [(3, .int .i64 a3), (4, .pointer (some ⟨b258, 0, none⟩)), (5, .pointer (some ⟨b259, 0, none⟩)), (10, .pointer (some ⟨b264, 0, none⟩)), (11, .int .i64 (Int.tmod (IntKind.i64.wrap (0 - (IntKind.i64.wrap (a2 + 1)))) (a0_0.length : Int))), (12, .int .i64 (gt a0_0 (Int.tmod (IntKind.i64.wrap (0 - (IntKind.i64.wrap (a2 + 1)))) (a0_0.length : Int)))), (13, .pointer (some ⟨b694, 0, none⟩))]) (fun s_ => row (Fl.int .i64) 3 w686 ((((([] : List Int) ++ a1_2) ++ ([0] : List Int)).take (a1_2.length : Int).toNat).length) w687 s_.1 :: pt b694 (.cells [.slice w688 ((((([] : List Int) ++ a1_0) ++ ([0] : List Int)).take (a1_0.length : Int).toNat).length) w689, .slice w684 ((((([] : List Int) ++ a1_1) ++ ([0] : List Int)).take (a1_1.length : Int).toNat).length) w685, .slice w686 ((((([] : List Int) ++ a1_2) ++ ([0] : List Int)).take (a1_2.length : Int).toNat).length) w687, .slice w682 ((((([] : List Int) ++ a1_3) ++ ([0] : List Int)).take (a1_3.length : Int).toNat).length) w683].toArray 39) :: row (Fl.int .i64) 3 w688 ((((([] : List Int) ++ a1_0) ++ ([0] : List Int)).take (a1_0.length : Int).toNat).length) w689 (((([] : List Int) ++ a1_0) ++ ([0] : List Int)).take (a1_0.length : Int).toNat) :: row (Fl.int .i64) 3 w684 ((((([] : List Int) ++ a1_1) ++ ([0] : List Int)).take (a1_1.length : Int).toNat).length) w685 (((([] : List Int) ++ a1_1) ++ ([0] : List Int)).take (a1_1.length : Int).toNat) :: row (Fl.int .i64) 3 w682 ((((([] : List Int) ++ a1_3) ++ ([0] : List Int)).take (a1_3.length : Int).toNat).length) w683 s_.2 :: pt b264 (.cells [.int .i64 t262.1, .int .i64 t262.2.1, .int .i64 t262.2.2].toArray 44) :: pt b259 (.cells [.slice A1_0 a1_0.length c1_0, .slice A1_1 a1_1.length c1_1, .slice A1_2 a1_2.length c1_2, .slice A1_3 a1_3.length c1_3].toArray 39) :: pt b258 (.cells [.slice A0_0 a0_0.length c0_0, .slice A0_1 a0_1.length c0_1, .slice A0_2 a0_2.length c0_2].toArray 36) :: Fr) (fun s_ => G695 (.inl (s_.1, s_.2)) = some r) ?_ (fun J698 => ?_)
                      · rintro ⟨x899, x900⟩ hrun
                        have hrun := (hl696 _).symm.trans hrun
                        · refine At.seq ?_
                          refine At.region ?_
                          refine At.y (Y.load rfl rfl (.s (.s (.s (.s (.s (.s (.s .z))))))) rfl rfl rfl) rfl rfl rfl ?_
                          refine At.y (Y.load rfl rfl (.s .z) rfl rfl rfl) rfl rfl rfl ?_
                          refine At.freeze (.s (.s .z)) fun R901 hr902 hn903 hc904 hs905 th906 => ?_
                          refine At.freeze (.s (.s .z)) fun R907 hr908 hn909 hc910 hs911 th912 => ?_
                          refine At.freeze .z fun R913 hr914 hn915 hc916 hs917 th918 => ?_
                          refine At.freeze (.s .z) fun R919 hr920 hn921 hc922 hs923 th924 => ?_
                          obtain ⟨t925, hc926, hrun⟩ := bbind hrun
                          refine At.call rfl judge_Judge.callee rfl rfl rfl (judge_Judge.spec _ _ A0_0 a0_0.length c0_0 A0_1 a0_1.length c0_1 A0_2 a0_2.length c0_2 w688 ((((([] : List Int) ++ a1_0) ++ ([0] : List Int)).take (a1_0.length : Int).toNat).length) w689 w684 ((((([] : List Int) ++ a1_1) ++ ([0] : List Int)).take (a1_1.length : Int).toNat).length) w685 w686 ((((([] : List Int) ++ a1_2) ++ ([0] : List Int)).take (a1_2.length : Int).toNat).length) w687 w682 ((((([] : List Int) ++ a1_3) ++ ([0] : List Int)).take (a1_3.length : Int).toNat).length) w683 a0_0 a0_1 a0_2 (((([] : List Int) ++ a1_0) ++ ([0] : List Int)).take (a1_0.length : Int).toNat) (((([] : List Int) ++ a1_1) ++ ([0] : List Int)).take (a1_1.length : Int).toNat) x899 x900 (RdS.mono (((hs905.trans hs911).trans hs917).trans hs923) hr0_0) rfl hc0_0 (RdS.mono (((hs905.trans hs911).trans hs917).trans hs923) hr0_1) rfl hc0_1 (RdS.mono (((hs905.trans hs911).trans hs917).trans hs923) hr0_2) rfl hc0_2 (RdS.mono ((hs911.trans hs917).trans hs923) hr902) hn903 hc904 (RdS.mono (hs917.trans hs923) hr908) hn909 hc910 (RdS.mono hs923 hr914) hn915 hc916 hr920 hn921 hc922 hc926) ?_
                          rintro _ _ ⟨rfl, rfl⟩
                          refine At.store rfl rfl rfl rfl (.s .z) rfl rfl rfl (.c (.c (.c .n))) ?_
                          refine At.nil ?_
                          refine At.thn ?_
                          refine At.seq ?_
                          refine At.seq ?_
                          refine At.region ?_
                          refine At.run 1 rfl ?_
                          refine At.y (Y.load rfl rfl (.s (.s (.s .z))) rfl rfl rfl) rfl rfl rfl ?_
                          refine At.run 1 rfl ?_
                          obtain ⟨h927, hrun⟩ := bnone hrun
                          refine At.y (Y.ixRd (RdS.mono (((hs905.trans hs911).trans hs917).trans hs923) hr0_2) rfl rfl rfl rfl rfl rfl rfl h927.1 h927.2) rfl rfl rfl ?_
                          obtain ⟨A928, c929, hc930, hr931, hy932⟩ := RdS.rowAt (P := Go.Proofs.Try.prog) hr0_2 (((hs905.trans hs911).trans hs917).trans hs923) rfl h927.1 h927.2
                          refine At.y (hy932 rfl rfl rfl rfl) rfl rfl rfl ?_
                          refine At.run 1 rfl ?_
                          obtain ⟨t933, hc934, hrun⟩ := bbind hrun
                          refine At.call rfl bailiffref16_Count.callee rfl rfl rfl (bailiffref16_Count.spec _ _ A928 ((gt a0_2 (Int.tmod (IntKind.i64.wrap (0 - (IntKind.i64.wrap (a2 + 1)))) (a0_0.length : Int))).length) c929 (gt a0_2 (Int.tmod (IntKind.i64.wrap (0 - (IntKind.i64.wrap (a2 + 1)))) (a0_0.length : Int))) a3 (RdS.mono (((hs905.trans hs911).trans hs917).trans hs923) hr931) rfl hc930 hc934) ?_
                          rintro _ _ ⟨rfl, rfl⟩
                          refine At.run 1 rfl ?_
                          refine At.nil ?_
                          refine At.thn ?_
                          rcases bite hrun with ⟨h935, hrun⟩ | ⟨h935, hrun⟩
                          · · refine At.condT rfl (decide_eq_true h935) ?_
                              refine At.seq ?_
                              refine At.region ?_
                              refine At.y (Y.load rfl rfl .z rfl rfl rfl) rfl rfl rfl ?_
                              refine At.run 2 rfl ?_
                              refine At.y (Y.build (is := [0, 1, 2]) (xo := [.const (.int .i64 16), .tmp 69, .tmp 70]) (vs := [.int .i64 16, .int .i64 (gt a0_0 (Int.tmod (IntKind.i64.wrap (0 - (IntKind.i64.wrap (a2 + 1)))) (a0_0.length : Int))), .int .i64 (Int.tmod (IntKind.i64.wrap (0 - (IntKind.i64.wrap (a2 + 1)))) (a0_0.length : Int))]) (cs := [.int .i64 16, .int .i64 (gt a0_0 (Int.tmod (IntKind.i64.wrap (0 - (IntKind.i64.wrap (a2 + 1)))) (a0_0.length : Int))), .int .i64 (Int.tmod (IntKind.i64.wrap (0 - (IntKind.i64.wrap (a2 + 1)))) (a0_0.length : Int))]) rfl rfl rfl rfl rfl rfl) rfl rfl rfl ?_
                              refine At.y (Y.eqSt (xs := [.int .i64 t925.1, .int .i64 t925.2.1, .int .i64 t925.2.2]) (ys := [.int .i64 16, .int .i64 (gt a0_0 (Int.tmod (IntKind.i64.wrap (0 - (IntKind.i64.wrap (a2 + 1)))) (a0_0.length : Int))), .int .i64 (Int.tmod (IntKind.i64.wrap (0 - (IntKind.i64.wrap (a2 + 1)))) (a0_0.length : Int))]) rfl rfl rfl rfl (by kernel_rfl) (by kernel_rfl) (by kernel_rfl) rfl) rfl rfl rfl ?_
                              refine At.run 1 rfl ?_
                              refine At.nil ?_
                              refine At.thn ?_
                              refine At.ret ?_
                              refine At.thr ?_
                              refine At.thaw th924 ?_
                              refine At.thaw th918 ?_
                              refine At.thaw th912 ?_
                              refine At.thaw th906 ?_
                              refine At.drop .z ?_
                              refine At.drop .z ?_
                              refine At.drop .z ?_
                              refine At.drop .z ?_
                              refine At.drop .z ?_
                              refine At.drop .z ?_
                              refine At.drop .z ?_
                              refine At.drop .z ?_
                              obtain rfl := (bret hrun).symm
                              exact At.res (.inl rfl) rfl rfl ⟨rfl, rfl⟩
                          · · refine At.condF rfl (decide_eq_false h935) ?_
                              refine At.skip ?_
                              refine At.thn ?_
                              refine At.seq ?_
                              refine At.seq ?_
                              obtain ⟨G936, hl937, hr938, hrun⟩ := bjoin hrun
                              refine At.join (X := Bool) (fun x1140 => [(10, .pointer (some ⟨b264, 0, none⟩)), (11, .int .i64 (Int.tmod (IntKind.i64.wrap (0 - (IntKind.i64.wrap (a2 + 1)))) (a0_0.length : Int))), (12, .int .i64 (gt a0_0 (Int.tmod (IntKind.i64.wrap (0 - (IntKind.i64.wrap (a2 + 1)))) (a0_0.length : Int)))), (79, .bool x1140)]) (fun x1140 => pt b264 (.cells [.int .i64 t925.1, .int .i64 t925.2.1, .int .i64 t925.2.2].toArray 44) :: pt b694 (.cells [.slice w688 ((((([] : List Int) ++ a1_0) ++ ([0] : List Int)).take (a1_0.length : Int).toNat).length) w689, .slice w684 ((((([] : List Int) ++ a1_1) ++ ([0] : List Int)).take (a1_1.length : Int).toNat).length) w685, .slice w686 ((((([] : List Int) ++ a1_2) ++ ([0] : List Int)).take (a1_2.length : Int).toNat).length) w687, .slice w682 ((((([] : List Int) ++ a1_3) ++ ([0] : List Int)).take (a1_3.length : Int).toNat).length) w683].toArray 39) :: pt b259 (.cells [.slice A1_0 a1_0.length c1_0, .slice A1_1 a1_1.length c1_1, .slice A1_2 a1_2.length c1_2, .slice A1_3 a1_3.length c1_3].toArray 39) :: pt b258 (.cells [.slice A0_0 a0_0.length c0_0, .slice A0_1 a0_1.length c0_1, .slice A0_2 a0_2.length c0_2].toArray 36) :: Fr) (fun x1140 => G936 (.inl x1140) = some r) ?_ (fun J939 => ?_)
                              · rintro x1140 hrun
                                have hrun := (hl937 _).symm.trans hrun
                                · rcases bite hrun with ⟨h1141, hrun⟩ | ⟨h1141, hrun⟩
                                  · · refine At.condT rfl h1141 ?_
                                      refine At.seq ?_
                                      refine At.region ?_
                                      refine At.y (Y.load rfl rfl .z rfl rfl rfl) rfl rfl rfl ?_
                                      refine At.run 2 rfl ?_
                                      refine At.y (Y.build (is := [0, 1, 2]) (xo := [.const (.int .i64 20), .tmp 81, .tmp 82]) (vs := [.int .i64 20, .int .i64 (gt a0_0 (Int.tmod (IntKind.i64.wrap (0 - (IntKind.i64.wrap (a2 + 1)))) (a0_0.length : Int))), .int .i64 (Int.tmod (IntKind.i64.wrap (0 - (IntKind.i64.wrap (a2 + 1)))) (a0_0.length : Int))]) (cs := [.int .i64 20, .int .i64 (gt a0_0 (Int.tmod (IntKind.i64.wrap (0 - (IntKind.i64.wrap (a2 + 1)))) (a0_0.length : Int))), .int .i64 (Int.tmod (IntKind.i64.wrap (0 - (IntKind.i64.wrap (a2 + 1)))) (a0_0.length : Int))]) rfl rfl rfl rfl rfl rfl) rfl rfl rfl ?_
                                      refine At.y (Y.eqSt (xs := [.int .i64 t925.1, .int .i64 t925.2.1, .int .i64 t925.2.2]) (ys := [.int .i64 20, .int .i64 (gt a0_0 (Int.tmod (IntKind.i64.wrap (0 - (IntKind.i64.wrap (a2 + 1)))) (a0_0.length : Int))), .int .i64 (Int.tmod (IntKind.i64.wrap (0 - (IntKind.i64.wrap (a2 + 1)))) (a0_0.length : Int))]) rfl rfl rfl rfl (by kernel_rfl) (by kernel_rfl) (by kernel_rfl) rfl) rfl rfl rfl ?_
                                      refine At.run 1 rfl ?_
                                      refine At.nil ?_
                                      refine At.thn ?_
                                      refine At.ret ?_
                                      refine At.thr ?_
                                      refine At.thaw th924 ?_
                                      refine At.thaw th918 ?_
                                      refine At.thaw th912 ?_
                                      refine At.thaw th906 ?_
                                      refine At.drop .z ?_
                                      refine At.drop .z ?_
                                      refine At.drop .z ?_
                                      refine At.drop .z ?_
                                      refine At.drop .z ?_
                                      refine At.drop .z ?_
                                      refine At.drop .z ?_
                                      refine At.drop .z ?_
                                      obtain rfl := (bret hrun).symm
                                      exact At.res (.inl rfl) rfl rfl ⟨rfl, rfl⟩
                                  · · refine At.condF rfl (bn h1141) ?_
                                      refine At.skip ?_
                                      refine At.thn ?_
                                      refine At.seq ?_
                                      refine At.region ?_
                                      refine At.y (Y.load rfl rfl .z rfl rfl rfl) rfl rfl rfl ?_
                                      refine At.y (Y.build (is := []) (xo := []) (vs := []) (cs := [.int .i64 0, .int .i64 0, .int .i64 0]) rfl rfl rfl rfl rfl rfl) rfl rfl rfl ?_
                                      refine At.y (Y.eqSt (xs := [.int .i64 t925.1, .int .i64 t925.2.1, .int .i64 t925.2.2]) (ys := [.int .i64 0, .int .i64 0, .int .i64 0]) rfl rfl rfl rfl (by kernel_rfl) (by kernel_rfl) (by kernel_rfl) rfl) rfl rfl rfl ?_
                                      refine At.run 1 rfl ?_
                                      obtain ⟨G1343, hl1344, hr1345, hrun⟩ := bjoin hrun
                                      refine At.joinO 10 (X := Bool) (fun x1342 => [(98, .bool x1342)]) (fun x1342 => pt b264 (.cells [.int .i64 t925.1, .int .i64 t925.2.1, .int .i64 t925.2.2].toArray 44) :: pt b694 (.cells [.slice w688 ((((([] : List Int) ++ a1_0) ++ ([0] : List Int)).take (a1_0.length : Int).toNat).length) w689, .slice w684 ((((([] : List Int) ++ a1_1) ++ ([0] : List Int)).take (a1_1.length : Int).toNat).length) w685, .slice w686 ((((([] : List Int) ++ a1_2) ++ ([0] : List Int)).take (a1_2.length : Int).toNat).length) w687, .slice w682 ((((([] : List Int) ++ a1_3) ++ ([0] : List Int)).take (a1_3.length : Int).toNat).length) w683].toArray 39) :: pt b259 (.cells [.slice A1_0 a1_0.length c1_0, .slice A1_1 a1_1.length c1_1, .slice A1_2 a1_2.length c1_2, .slice A1_3 a1_3.length c1_3].toArray 39) :: pt b258 (.cells [.slice A0_0 a0_0.length c0_0, .slice A0_1 a0_1.length c0_1, .slice A0_2 a0_2.length c0_2].toArray 36) :: Fr) (fun x1342 => G1343 (.inl x1342) = some r) ?_ (fun J1346 => ?_)
                                      · rintro x1342 hrun
                                        have hrun := (hl1344 _).symm.trans hrun
                                        · refine At.run 1 rfl ?_
                                          refine At.nil ?_
                                          refine At.thn ?_
                                          refine At.ret ?_
                                          refine At.thaw th924 ?_
                                          refine At.thaw th918 ?_
                                          refine At.thaw th912 ?_
                                          refine At.thaw th906 ?_
                                          refine At.drop .z ?_
                                          refine At.drop .z ?_
                                          refine At.drop .z ?_
                                          refine At.drop .z ?_
                                          refine At.drop .z ?_
                                          refine At.drop .z ?_
                                          refine At.drop .z ?_
                                          refine At.drop .z ?_
                                          obtain rfl := (bret hrun).symm
                                          exact At.res (.inl rfl) rfl rfl ⟨rfl, rfl⟩
                                      · · rcases bite hrun with ⟨h1347, hrun⟩ | ⟨h1347, hrun⟩
                                          · · refine At.know (t := 88) rfl h1347 ?_
                                              refine At.run 10 rfl ?_
                                              exact At.of (J1346 true hrun) ⟨rfl, trivial⟩
                                          · · refine At.know (t := 88) rfl (bn h1347) ?_
                                              refine At.run 1 rfl ?_
                                              refine At.y (Y.load rfl rfl .z rfl rfl rfl) rfl rfl rfl ?_
                                              refine At.run 2 rfl ?_
                                              obtain ⟨G1549, hl1550, hr1551, hrun⟩ := bjoin hrun
                                              refine At.joinO 5 (X := Bool) (fun x1548 => [(88, .bool false), (97, .bool x1548)]) (fun x1548 => pt b264 (.cells [.int .i64 t925.1, .int .i64 t925.2.1, .int .i64 t925.2.2].toArray 44) :: pt b694 (.cells [.slice w688 ((((([] : List Int) ++ a1_0) ++ ([0] : List Int)).take (a1_0.length : Int).toNat).length) w689, .slice w684 ((((([] : List Int) ++ a1_1) ++ ([0] : List Int)).take (a1_1.length : Int).toNat).length) w685, .slice w686 ((((([] : List Int) ++ a1_2) ++ ([0] : List Int)).take (a1_2.length : Int).toNat).length) w687, .slice w682 ((((([] : List Int) ++ a1_3) ++ ([0] : List Int)).take (a1_3.length : Int).toNat).length) w683].toArray 39) :: pt b259 (.cells [.slice A1_0 a1_0.length c1_0, .slice A1_1 a1_1.length c1_1, .slice A1_2 a1_2.length c1_2, .slice A1_3 a1_3.length c1_3].toArray 39) :: pt b258 (.cells [.slice A0_0 a0_0.length c0_0, .slice A0_1 a0_1.length c0_1, .slice A0_2 a0_2.length c0_2].toArray 36) :: Fr) (fun x1548 => G1549 (.inl x1548) = some r) ?_ (fun J1552 => ?_)
                                              · rintro x1548 hrun
                                                have hrun := (hl1550 _).symm.trans hrun
                                                · refine At.run 1 rfl ?_
                                                  exact At.of (J1346 x1548 hrun) ⟨rfl, trivial⟩
                                              · · rcases bite hrun with ⟨h1553, hrun⟩ | ⟨h1553, hrun⟩
                                                  · · refine At.know (t := 92) rfl (decide_eq_true h1553) ?_
                                                      refine At.run 1 rfl ?_
                                                      refine At.y (Y.load rfl rfl .z rfl rfl rfl) rfl rfl rfl ?_
                                                      refine At.run 3 rfl ?_
                                                      exact At.of (J1552 (decide (t925.2.1 = gt a0_0 (Int.tmod (IntKind.i64.wrap (0 - (IntKind.i64.wrap (a2 + 1)))) (a0_0.length : Int)))) hrun) ⟨rfl, rfl, trivial⟩
                                                  · · refine At.know (t := 92) rfl (decide_eq_false h1553) ?_
                                                      refine At.run 5 rfl ?_
                                                      exact At.of (J1552 false hrun) ⟨rfl, rfl, trivial⟩
                              · · refine At.region ?_
                                  refine At.run 2 rfl ?_
                                  obtain ⟨h1554, hrun⟩ := bnone hrun
                                  rcases bite hrun with ⟨h1555, hrun⟩ | ⟨h1555, hrun⟩
                                  · · refine At.y (Y.ixArrK rfl rfl rfl rfl rfl h1554.1 h1554.2 (q := 0) (off := 0) h1555 rfl) rfl rfl rfl ?_
                                      refine At.y (Y.load rfl rfl (.s (.s .z)) rfl rfl rfl) rfl rfl rfl ?_
                                      refine At.run 1 rfl ?_
                                      obtain ⟨t1556, hc1557, hrun⟩ := bbind hrun
                                      refine At.call rfl bailiffref16_Count.callee rfl rfl rfl (bailiffref16_Count.spec _ _ A1_0 a1_0.length c1_0 a1_0 a3 (RdS.mono (((hs905.trans hs911).trans hs917).trans hs923) hr1_0) rfl hc1_0 hc1557) ?_
                                      rintro _ _ ⟨rfl, rfl⟩
                                      refine At.run 1 rfl ?_
                                      refine At.nil ?_
                                      refine At.thn ?_
                                      exact fun a w e hs => J939 (decide (t1556 = 0)) hrun a w (e.sub ⟨rfl, rfl, rfl, rfl, trivial⟩) hs
                                  · · have h1558 : gt a0_0 (Int.tmod (IntKind.i64.wrap (0 - (IntKind.i64.wrap (a2 + 1)))) (a0_0.length : Int)) = 1 := by have h1_ := h1554; omega
                                      refine At.y (Y.ixArrK rfl rfl rfl rfl rfl h1554.1 h1554.2 (q := 1) (off := 1) h1558 rfl) rfl rfl rfl ?_
                                      refine At.y (Y.load rfl rfl (.s (.s .z)) rfl rfl rfl) rfl rfl rfl ?_
                                      refine At.run 1 rfl ?_
                                      obtain ⟨t1559, hc1560, hrun⟩ := bbind hrun
                                      refine At.call rfl bailiffref16_Count.callee rfl rfl rfl (bailiffref16_Count.spec _ _ A1_1 a1_1.length c1_1 a1_1 a3 (RdS.mono (((hs905.trans hs911).trans hs917).trans hs923) hr1_1) rfl hc1_1 hc1560) ?_
                                      rintro _ _ ⟨rfl, rfl⟩
                                      refine At.run 1 rfl ?_
                                      refine At.nil ?_
                                      refine At.thn ?_
                                      exact fun a w e hs => J939 (decide (t1559 = 0)) hrun a w (e.sub ⟨rfl, rfl, rfl, rfl, trivial⟩) hs
                      · · refine At.region ?_
                          refine At.run 2 rfl ?_
                          obtain ⟨h1561, hrun⟩ := bnone hrun
                          rcases bite hrun with ⟨h1562, hrun⟩ | ⟨h1562, hrun⟩
                          · · refine At.y (Y.ixArrK rfl rfl rfl rfl rfl h1561.1 h1561.2 (q := 0) (off := 2) h1562 rfl) rfl rfl rfl ?_
                              refine At.y (Y.load rfl rfl .z rfl rfl rfl) rfl rfl rfl ?_
                              refine At.run 2 rfl ?_
                              obtain ⟨h1563, hrun⟩ := bnone hrun
                              refine At.y (Y.ix (.s (.s (.s .z))) rfl rfl rfl rfl rfl rfl h1563.1 h1563.2) rfl rfl rfl ?_
                              refine At.st rfl (.s (.s (.s .z))) (q := 0) (z := a3) rfl rfl rfl h1563.1 h1563.2 rfl rfl (.c .n) ?_
                              refine At.nil ?_
                              refine At.thn ?_
                              exact fun a w e hs => J698 ((st (((([] : List Int) ++ a1_2) ++ ([0] : List Int)).take (a1_2.length : Int).toNat) (Int.tmod (IntKind.i64.wrap (0 - (IntKind.i64.wrap (a2 + 1)))) (a0_0.length : Int)) a3), (((([] : List Int) ++ a1_3) ++ ([0] : List Int)).take (a1_3.length : Int).toNat)) hrun a w (e.sub ⟨rfl, rfl, rfl, rfl, rfl, rfl, rfl, trivial⟩) hs
                          · · have h1564 : gt a0_0 (Int.tmod (IntKind.i64.wrap (0 - (IntKind.i64.wrap (a2 + 1)))) (a0_0.length : Int)) = 1 := by have h1_ := h1561; omega
                              refine At.y (Y.ixArrK rfl rfl rfl rfl rfl h1561.1 h1561.2 (q := 1) (off := 3) h1564 rfl) rfl rfl rfl ?_
                              refine At.y (Y.load rfl rfl .z rfl rfl rfl) rfl rfl rfl ?_
                              refine At.run 2 rfl ?_
                              obtain ⟨h1565, hrun⟩ := bnone hrun
                              refine At.y (Y.ix (.s (.s (.s (.s .z)))) rfl rfl rfl rfl rfl rfl h1565.1 h1565.2) rfl rfl rfl ?_
                              refine At.st rfl (.s (.s (.s (.s .z)))) (q := 0) (z := a3) rfl rfl rfl h1565.1 h1565.2 rfl rfl (.c .n) ?_
                              refine At.nil ?_
                              refine At.thn ?_
                              refine At.frt (.s (.s (.s (.s (.s (.s (.s .z))))))) ?_
                              refine At.frt (.s (.s (.s (.s (.s (.s (.s .z))))))) ?_
                              refine At.frt (.s (.s (.s (.s (.s (.s (.s .z))))))) ?_
                              refine At.frt (.s (.s (.s .z))) ?_
                              refine At.frt (.s (.s (.s (.s (.s (.s .z)))))) ?_
                              refine At.frt (.s (.s (.s (.s (.s (.s .z)))))) ?_
                              refine At.frt (.s (.s (.s (.s (.s (.s .z)))))) ?_
                              refine At.frt (.s (.s (.s (.s (.s (.s (.s .z))))))) ?_
                              exact fun a w e hs => J698 ((((([] : List Int) ++ a1_2) ++ ([0] : List Int)).take (a1_2.length : Int).toNat), (st (((([] : List Int) ++ a1_3) ++ ([0] : List Int)).take (a1_3.length : Int).toNat) (Int.tmod (IntKind.i64.wrap (0 - (IntKind.i64.wrap (a2 + 1)))) (a0_0.length : Int)) a3)) hrun a w (e.sub ⟨rfl, rfl, rfl, rfl, rfl, rfl, rfl, trivial⟩) hs
              · · refine At.region ?_
                  refine At.run 2 rfl ?_
                  obtain ⟨h1566, hrun⟩ := bnone hrun
                  rcases bite hrun with ⟨h1567, hrun⟩ | ⟨h1567, hrun⟩
                  · · refine At.y (Y.ixArrK rfl rfl rfl rfl rfl h1566.1 h1566.2 (q := 0) (off := 0) h1567 rfl) rfl rfl rfl ?_
                      refine At.y (Y.load rfl rfl (.s .z) rfl rfl rfl) rfl rfl rfl ?_
                      refine At.run 1 rfl ?_
                      obtain ⟨t1568, hc1569, hrun⟩ := bbind hrun
                      refine At.call rfl bailiffref16_Count.callee rfl rfl rfl (bailiffref16_Count.spec _ _ A1_0 a1_0.length c1_0 a1_0 (Int.tmod (IntKind.i64.wrap (0 - (IntKind.i64.wrap (a2 + 1)))) (a0_0.length : Int)) hr1_0 rfl hc1_0 hc1569) ?_
                      rintro _ _ ⟨rfl, rfl⟩
                      refine At.run 1 rfl ?_
                      refine At.nil ?_
                      refine At.thn ?_
                      exact fun a w e hs => J477 (decide (t1568 = 0)) hrun a w (e.sub ⟨rfl, rfl, rfl, rfl, rfl, rfl, rfl, trivial⟩) hs
                  · · have h1570 : gt a0_0 (Int.tmod (IntKind.i64.wrap (0 - (IntKind.i64.wrap (a2 + 1)))) (a0_0.length : Int)) = 1 := by have h1_ := h1566; omega
                      refine At.y (Y.ixArrK rfl rfl rfl rfl rfl h1566.1 h1566.2 (q := 1) (off := 1) h1570 rfl) rfl rfl rfl ?_
                      refine At.y (Y.load rfl rfl (.s .z) rfl rfl rfl) rfl rfl rfl ?_
                      refine At.run 1 rfl ?_
                      obtain ⟨t1571, hc1572, hrun⟩ := bbind hrun
                      refine At.call rfl bailiffref16_Count.callee rfl rfl rfl (bailiffref16_Count.spec _ _ A1_1 a1_1.length c1_1 a1_1 (Int.tmod (IntKind.i64.wrap (0 - (IntKind.i64.wrap (a2 + 1)))) (a0_0.length : Int)) hr1_1 rfl hc1_1 hc1572) ?_
                      rintro _ _ ⟨rfl, rfl⟩
                      refine At.run 1 rfl ?_
                      refine At.nil ?_
                      refine At.thn ?_
                      exact fun a w e hs => J477 (decide (t1571 = 0)) hrun a w (e.sub ⟨rfl, rfl, rfl, rfl, rfl, rfl, rfl, trivial⟩) hs
          · · refine At.condF rfl (decide_eq_false h471) ?_
              refine At.skip ?_
              refine At.thn ?_
              refine At.seq ?_
              refine At.region ?_
              refine At.run 2 rfl ?_
              refine At.y (Y.load rfl rfl (.s (.s .z)) rfl rfl rfl) rfl rfl rfl ?_
              refine At.run 1 rfl ?_
              obtain ⟨h1573, hrun⟩ := bnone hrun
              refine At.y (Y.rem rfl rfl h1573) rfl rfl rfl ?_
              refine At.run 1 rfl ?_
              refine At.nil ?_
              refine At.thn ?_
              refine At.seq ?_
              refine At.region ?_
              refine At.run 1 rfl ?_
              refine At.y (Y.load rfl rfl (.s (.s .z)) rfl rfl rfl) rfl rfl rfl ?_
              refine At.run 1 rfl ?_
              obtain ⟨h1574, hrun⟩ := bnone hrun
              refine At.y (Y.ixRd hr0_0 rfl rfl rfl rfl rfl rfl rfl h1574.1 h1574.2) rfl rfl rfl ?_
              refine At.y (Y.ldFl hr0_0 rfl (q := 0) rfl rfl h1574.1 h1574.2 rfl rfl rfl) rfl rfl rfl ?_
              refine At.run 1 rfl ?_
              refine At.nil ?_
              refine At.thn ?_
              refine At.seq ?_
              refine At.seq ?_
              obtain ⟨G1575, hl1576, hr1577, hrun⟩ := bjoin hrun
              refine At.join (X := Bool) (fun x1779 => [(3, .int .i64 a3), (4, .pointer (some ⟨b258, 0, none⟩)), (5, .pointer (some ⟨b259, 0, none⟩)), (10, .pointer (some ⟨b264, 0, none⟩)), (11, .int .i64 (Int.tmod a2 (a0_0.length : Int))), (12, .int .i64 (gt a0_0 (Int.tmod a2 (a0_0.length : Int)))), (47, .bool x1779)]) (fun x1779 => pt b264 (.cells [.int .i64 t262.1, .int .i64 t262.2.1, .int .i64 t262.2.2].toArray 44) :: pt b259 (.cells [.slice A1_0 a1_0.length c1_0, .slice A1_1 a1_1.length c1_1, .slice A1_2 a1_2.length c1_2, .slice A1_3 a1_3.length c1_3].toArray 39) :: pt b258 (.cells [.slice A0_0 a0_0.length c0_0, .slice A0_1 a0_1.length c0_1, .slice A0_2 a0_2.length c0_2].toArray 36) :: Fr) (fun x1779 => G1575 (.inl x1779) = some r) ?_ (fun J1578 => ?_)
              · rintro x1779 hrun
                have hrun := (hl1576 _).symm.trans hrun
                · rcases bite hrun with ⟨h1780, hrun⟩ | ⟨h1780, hrun⟩
                  · · refine At.condT rfl h1780 ?_
                      refine At.seq ?_
                      refine At.region ?_
                      refine At.run 1 rfl ?_
                      refine At.nil ?_
                      refine At.thn ?_
                      refine At.ret ?_
                      refine At.thr ?_
                      refine At.drop .z ?_
                      refine At.drop .z ?_
                      refine At.drop .z ?_
                      obtain rfl := (bret hrun).symm
                      exact At.res (.inl rfl) rfl rfl ⟨rfl, rfl⟩
                  · · refine At.condF rfl (bn h1780) ?_
                      refine At.skip ?_
                      refine At.thn ?_
                      refine At.seq ?_
                      refine At.region ?_
                      refine At.y (Y.load rfl rfl (.s .z) rfl rfl rfl) rfl rfl rfl ?_
                      obtain ⟨t1781, hc1782, hrun⟩ := bbind hrun
                      refine At.call rfl bailifflaw16_lent.callee rfl rfl rfl (bailifflaw16_lent.spec _ _ A1_0 a1_0.length c1_0 A1_1 a1_1.length c1_1 A1_2 a1_2.length c1_2 A1_3 a1_3.length c1_3 a1_0 a1_1 a1_2 a1_3 hr1_0 rfl hc1_0 hr1_1 rfl hc1_1 hr1_2 rfl hc1_2 hr1_3 rfl hc1_3 hc1782) ?_
                      rintro _ _ ⟨w1783, w1784, w1785, w1786, w1787, w1788, w1789, w1790, rfl, rfl⟩
                      refine At.alloc rfl rfl rfl (fun b1795 => ?_)
                      refine At.store rfl rfl rfl rfl .z rfl rfl rfl (.c (.c (.c (.c .n)))) ?_
                      refine At.nil ?_
                      refine At.thn ?_
                      refine At.seq ?_
                      obtain ⟨G1796, hl1797, hr1798, hrun⟩ := bjoin hrun
                      refine At.join (X := (List Int) × (List Int)) (fun s_ => [(3, .int .i64 a3), (4, .pointer (some ⟨b258, 0, none⟩)), (5, .pointer (some ⟨b259, 0, none⟩)), (10, .pointer (some ⟨b264, 0, none⟩)), (11, .int .i64 (Int.tmod a2 (a0_0.length : Int))), (12, .int .i64 (gt a0_0 (Int.tmod a2 (a0_0.length : Int)))), (13, .pointer (some ⟨b1795, 0, none⟩))]) (fun s_ => row (Fl.int .i64) 3 w1787 ((((([] : List Int) ++ a1_2) ++ ([0] : List Int)).take (a1_2.length : Int).toNat).length) w1788 s_.1 :: pt b1795 (.cells [.slice w1789 ((((([] : List Int) ++ a1_0) ++ ([0] : List Int)).take (a1_0.length : Int).toNat).length) w1790, .slice w1785 ((((([] : List Int) ++ a1_1) ++ ([0] : List Int)).take (a1_1.length : Int).toNat).length) w1786, .slice w1787 ((((([] : List Int) ++ a1_2) ++ ([0] : List Int)).take (a1_2.length : Int).toNat).length) w1788, .slice w1783 ((((([] : List Int) ++ a1_3) ++ ([0] : List Int)).take (a1_3.length : Int).toNat).length) w1784].toArray 39) :: row (Fl.int .i64) 3 w1789 ((((([] : List Int) ++ a1_0) ++ ([0] : List Int)).take (a1_0.length : Int).toNat).length) w1790 (((([] : List Int) ++ a1_0) ++ ([0] : List Int)).take (a1_0.length : Int).toNat) :: row (Fl.int .i64) 3 w1785 ((((([] : List Int) ++ a1_1) ++ ([0] : List Int)).take (a1_1.length : Int).toNat).length) w1786 (((([] : List Int) ++ a1_1) ++ ([0] : List Int)).take (a1_1.length : Int).toNat) :: row (Fl.int .i64) 3 w1783 ((((([] : List Int) ++ a1_3) ++ ([0] : List Int)).take (a1_3.length : Int).toNat).length) w1784 s_.2 :: pt b264 (.cells [.int .i64 t262.1, .int .i64 t262.2.1, .int .i64 t262.2.2].toArray 44) :: pt b259 (.cells [.slice A1_0 a1_0.length c1_0, .slice A1_1 a1_1.length c1_1, .slice A1_2 a1_2.length c1_2, .slice A1_3 a1_3.length c1_3].toArray 39) :: pt b258 (.cells [.slice A0_0 a0_0.length c0_0, .slice A0_1 a0_1.length c0_1, .slice A0_2 a0_2.length c0_2].toArray 36) :: Fr) (fun s_ => G1796 (.inl (s_.1, s_.2)) = some r) ?_ (fun J1799 => ?_)
                      · rintro ⟨x2000, x2001⟩ hrun
                        have hrun := (hl1797 _).symm.trans hrun
                        · refine At.seq ?_
                          refine At.region ?_
                          refine At.y (Y.load rfl rfl (.s (.s (.s (.s (.s (.s (.s .z))))))) rfl rfl rfl) rfl rfl rfl ?_
                          refine At.y (Y.load rfl rfl (.s .z) rfl rfl rfl) rfl rfl rfl ?_
                          refine At.freeze (.s (.s .z)) fun R2002 hr2003 hn2004 hc2005 hs2006 th2007 => ?_
                          refine At.freeze (.s (.s .z)) fun R2008 hr2009 hn2010 hc2011 hs2012 th2013 => ?_
                          refine At.freeze .z fun R2014 hr2015 hn2016 hc2017 hs2018 th2019 => ?_
                          refine At.freeze (.s .z) fun R2020 hr2021 hn2022 hc2023 hs2024 th2025 => ?_
                          obtain ⟨t2026, hc2027, hrun⟩ := bbind hrun
                          refine At.call rfl judge_Judge.callee rfl rfl rfl (judge_Judge.spec _ _ A0_0 a0_0.length c0_0 A0_1 a0_1.length c0_1 A0_2 a0_2.length c0_2 w1789 ((((([] : List Int) ++ a1_0) ++ ([0] : List Int)).take (a1_0.length : Int).toNat).length) w1790 w1785 ((((([] : List Int) ++ a1_1) ++ ([0] : List Int)).take (a1_1.length : Int).toNat).length) w1786 w1787 ((((([] : List Int) ++ a1_2) ++ ([0] : List Int)).take (a1_2.length : Int).toNat).length) w1788 w1783 ((((([] : List Int) ++ a1_3) ++ ([0] : List Int)).take (a1_3.length : Int).toNat).length) w1784 a0_0 a0_1 a0_2 (((([] : List Int) ++ a1_0) ++ ([0] : List Int)).take (a1_0.length : Int).toNat) (((([] : List Int) ++ a1_1) ++ ([0] : List Int)).take (a1_1.length : Int).toNat) x2000 x2001 (RdS.mono (((hs2006.trans hs2012).trans hs2018).trans hs2024) hr0_0) rfl hc0_0 (RdS.mono (((hs2006.trans hs2012).trans hs2018).trans hs2024) hr0_1) rfl hc0_1 (RdS.mono (((hs2006.trans hs2012).trans hs2018).trans hs2024) hr0_2) rfl hc0_2 (RdS.mono ((hs2012.trans hs2018).trans hs2024) hr2003) hn2004 hc2005 (RdS.mono (hs2018.trans hs2024) hr2009) hn2010 hc2011 (RdS.mono hs2024 hr2015) hn2016 hc2017 hr2021 hn2022 hc2023 hc2027) ?_
                          rintro _ _ ⟨rfl, rfl⟩
                          refine At.store rfl rfl rfl rfl (.s .z) rfl rfl rfl (.c (.c (.c .n))) ?_
                          refine At.nil ?_
                          refine At.thn ?_
                          refine At.seq ?_
                          refine At.seq ?_
                          refine At.region ?_
                          refine At.run 1 rfl ?_
                          refine At.y (Y.load rfl rfl (.s (.s (.s .z))) rfl rfl rfl) rfl rfl rfl ?_
                          refine At.run 1 rfl ?_
                          obtain ⟨h2028, hrun⟩ := bnone hrun
                          refine At.y (Y.ixRd (RdS.mono (((hs2006.trans hs2012).trans hs2018).trans hs2024) hr0_2) rfl rfl rfl rfl rfl rfl rfl h2028.1 h2028.2) rfl rfl rfl ?_
                          obtain ⟨A2029, c2030, hc2031, hr2032, hy2033⟩ := RdS.rowAt (P := Go.Proofs.Try.prog) hr0_2 (((hs2006.trans hs2012).trans hs2018).trans hs2024) rfl h2028.1 h2028.2
                          refine At.y (hy2033 rfl rfl rfl rfl) rfl rfl rfl ?_
                          refine At.run 1 rfl ?_
                          obtain ⟨t2034, hc2035, hrun⟩ := bbind hrun
                          refine At.call rfl bailiffref16_Count.callee rfl rfl rfl (bailiffref16_Count.spec _ _ A2029 ((gt a0_2 (Int.tmod a2 (a0_0.length : Int))).length) c2030 (gt a0_2 (Int.tmod a2 (a0_0.length : Int))) a3 (RdS.mono (((hs2006.trans hs2012).trans hs2018).trans hs2024) hr2032) rfl hc2031 hc2035) ?_
                          rintro _ _ ⟨rfl, rfl⟩
                          refine At.run 1 rfl ?_
                          refine At.nil ?_
                          refine At.thn ?_
                          rcases bite hrun with ⟨h2036, hrun⟩ | ⟨h2036, hrun⟩
                          · · refine At.condT rfl (decide_eq_true h2036) ?_
                              refine At.seq ?_
                              refine At.region ?_
                              refine At.y (Y.load rfl rfl .z rfl rfl rfl) rfl rfl rfl ?_
                              refine At.run 2 rfl ?_
                              refine At.y (Y.build (is := [0, 1, 2]) (xo := [.const (.int .i64 16), .tmp 69, .tmp 70]) (vs := [.int .i64 16, .int .i64 (gt a0_0 (Int.tmod a2 (a0_0.length : Int))), .int .i64 (Int.tmod a2 (a0_0.length : Int))]) (cs := [.int .i64 16, .int .i64 (gt a0_0 (Int.tmod a2 (a0_0.length : Int))), .int .i64 (Int.tmod a2 (a0_0.length : Int))]) rfl rfl rfl rfl rfl rfl) rfl rfl rfl ?_
                              refine At.y (Y.eqSt (xs := [.int .i64 t2026.1, .int .i64 t2026.2.1, .int .i64 t2026.2.2]) (ys := [.int .i64 16, .int .i64 (gt a0_0 (Int.tmod a2 (a0_0.length : Int))), .int .i64 (Int.tmod a2 (a0_0.length : Int))]) rfl rfl rfl rfl (by kernel_rfl) (by kernel_rfl) (by kernel_rfl) rfl) rfl rfl rfl ?_
                              refine At.run 1 rfl ?_
                              refine At.nil ?_
                              refine At.thn ?_
                              refine At.ret ?_
                              refine At.thr ?_
                              refine At.thaw th2025 ?_
                              refine At.thaw th2019 ?_
                              refine At.thaw th2013 ?_
                              refine At.thaw th2007 ?_
                              refine At.drop .z ?_
                              refine At.drop .z ?_
                              refine At.drop .z ?_
                              refine At.drop .z ?_
                              refine At.drop .z ?_
                              refine At.drop .z ?_
                              refine At.drop .z ?_
                              refine At.drop .z ?_
                              obtain rfl := (bret hrun).symm
                              exact At.res (.inl rfl) rfl rfl ⟨rfl, rfl⟩
                          · · refine At.condF rfl (decide_eq_false h2036) ?_
                              refine At.skip ?_
                              refine At.thn ?_
                              refine At.seq ?_
                              refine At.seq ?_
                              obtain ⟨G2037, hl2038, hr2039, hrun⟩ := bjoin hrun
                              refine At.join (X := Bool) (fun x2241 => [(10, .pointer (some ⟨b264, 0, none⟩)), (11, .int .i64 (Int.tmod a2 (a0_0.length : Int))), (12, .int .i64 (gt a0_0 (Int.tmod a2 (a0_0.length : Int)))), (79, .bool x2241)]) (fun x2241 => pt b264 (.cells [.int .i64 t2026.1, .int .i64 t2026.2.1, .int .i64 t2026.2.2].toArray 44) :: pt b1795 (.cells [.slice w1789 ((((([] : List Int) ++ a1_0) ++ ([0] : List Int)).take (a1_0.length : Int).toNat).length) w1790, .slice w1785 ((((([] : List Int) ++ a1_1) ++ ([0] : List Int)).take (a1_1.length : Int).toNat).length) w1786, .slice w1787 ((((([] : List Int) ++ a1_2) ++ ([0] : List Int)).take (a1_2.length : Int).toNat).length) w1788, .slice w1783 ((((([] : List Int) ++ a1_3) ++ ([0] : List Int)).take (a1_3.length : Int).toNat).length) w1784].toArray 39) :: pt b259 (.cells [.slice A1_0 a1_0.length c1_0, .slice A1_1 a1_1.length c1_1, .slice A1_2 a1_2.length c1_2, .slice A1_3 a1_3.length c1_3].toArray 39) :: pt b258 (.cells [.slice A0_0 a0_0.length c0_0, .slice A0_1 a0_1.length c0_1, .slice A0_2 a0_2.length c0_2].toArray 36) :: Fr) (fun x2241 => G2037 (.inl x2241) = some r) ?_ (fun J2040 => ?_)
                              · rintro x2241 hrun
                                have hrun := (hl2038 _).symm.trans hrun
                                · rcases bite hrun with ⟨h2242, hrun⟩ | ⟨h2242, hrun⟩
                                  · · refine At.condT rfl h2242 ?_
                                      refine At.seq ?_
                                      refine At.region ?_
                                      refine At.y (Y.load rfl rfl .z rfl rfl rfl) rfl rfl rfl ?_
                                      refine At.run 2 rfl ?_
                                      refine At.y (Y.build (is := [0, 1, 2]) (xo := [.const (.int .i64 20), .tmp 81, .tmp 82]) (vs := [.int .i64 20, .int .i64 (gt a0_0 (Int.tmod a2 (a0_0.length : Int))), .int .i64 (Int.tmod a2 (a0_0.length : Int))]) (cs := [.int .i64 20, .int .i64 (gt a0_0 (Int.tmod a2 (a0_0.length : Int))), .int .i64 (Int.tmod a2 (a0_0.length : Int))]) rfl rfl rfl rfl rfl rfl) rfl rfl rfl ?_
                                      refine At.y (Y.eqSt (xs := [.int .i64 t2026.1, .int .i64 t2026.2.1, .int .i64 t2026.2.2]) (ys := [.int .i64 20, .int .i64 (gt a0_0 (Int.tmod a2 (a0_0.length : Int))), .int .i64 (Int.tmod a2 (a0_0.length : Int))]) rfl rfl rfl rfl (by kernel_rfl) (by kernel_rfl) (by kernel_rfl) rfl) rfl rfl rfl ?_
                                      refine At.run 1 rfl ?_
                                      refine At.nil ?_
                                      refine At.thn ?_
                                      refine At.ret ?_
                                      refine At.thr ?_
                                      refine At.thaw th2025 ?_
                                      refine At.thaw th2019 ?_
                                      refine At.thaw th2013 ?_
                                      refine At.thaw th2007 ?_
                                      refine At.drop .z ?_
                                      refine At.drop .z ?_
                                      refine At.drop .z ?_
                                      refine At.drop .z ?_
                                      refine At.drop .z ?_
                                      refine At.drop .z ?_
                                      refine At.drop .z ?_
                                      refine At.drop .z ?_
                                      obtain rfl := (bret hrun).symm
                                      exact At.res (.inl rfl) rfl rfl ⟨rfl, rfl⟩
                                  · · refine At.condF rfl (bn h2242) ?_
                                      refine At.skip ?_
                                      refine At.thn ?_
                                      refine At.seq ?_
                                      refine At.region ?_
                                      refine At.y (Y.load rfl rfl .z rfl rfl rfl) rfl rfl rfl ?_
                                      refine At.y (Y.build (is := []) (xo := []) (vs := []) (cs := [.int .i64 0, .int .i64 0, .int .i64 0]) rfl rfl rfl rfl rfl rfl) rfl rfl rfl ?_
                                      refine At.y (Y.eqSt (xs := [.int .i64 t2026.1, .int .i64 t2026.2.1, .int .i64 t2026.2.2]) (ys := [.int .i64 0, .int .i64 0, .int .i64 0]) rfl rfl rfl rfl (by kernel_rfl) (by kernel_rfl) (by kernel_rfl) rfl) rfl rfl rfl ?_
                                      refine At.run 1 rfl ?_
                                      obtain ⟨G2444, hl2445, hr2446, hrun⟩ := bjoin hrun
                                      refine At.joinO 10 (X := Bool) (fun x2443 => [(98, .bool x2443)]) (fun x2443 => pt b264 (.cells [.int .i64 t2026.1, .int .i64 t2026.2.1, .int .i64 t2026.2.2].toArray 44) :: pt b1795 (.cells [.slice w1789 ((((([] : List Int) ++ a1_0) ++ ([0] : List Int)).take (a1_0.length : Int).toNat).length) w1790, .slice w1785 ((((([] : List Int) ++ a1_1) ++ ([0] : List Int)).take (a1_1.length : Int).toNat).length) w1786, .slice w1787 ((((([] : List Int) ++ a1_2) ++ ([0] : List Int)).take (a1_2.length : Int).toNat).length) w1788, .slice w1783 ((((([] : List Int) ++ a1_3) ++ ([0] : List Int)).take (a1_3.length : Int).toNat).length) w1784].toArray 39) :: pt b259 (.cells [.slice A1_0 a1_0.length c1_0, .slice A1_1 a1_1.length c1_1, .slice A1_2 a1_2.length c1_2, .slice A1_3 a1_3.length c1_3].toArray 39) :: pt b258 (.cells [.slice A0_0 a0_0.length c0_0, .slice A0_1 a0_1.length c0_1, .slice A0_2 a0_2.length c0_2].toArray 36) :: Fr) (fun x2443 => G2444 (.inl x2443) = some r) ?_ (fun J2447 => ?_)
                                      · rintro x2443 hrun
                                        have hrun := (hl2445 _).symm.trans hrun
                                        · refine At.run 1 rfl ?_
                                          refine At.nil ?_
                                          refine At.thn ?_
                                          refine At.ret ?_
                                          refine At.thaw th2025 ?_
                                          refine At.thaw th2019 ?_
                                          refine At.thaw th2013 ?_
                                          refine At.thaw th2007 ?_
                                          refine At.drop .z ?_
                                          refine At.drop .z ?_
                                          refine At.drop .z ?_
                                          refine At.drop .z ?_
                                          refine At.drop .z ?_
                                          refine At.drop .z ?_
                                          refine At.drop .z ?_
                                          refine At.drop .z ?_
                                          obtain rfl := (bret hrun).symm
                                          exact At.res (.inl rfl) rfl rfl ⟨rfl, rfl⟩
                                      · · rcases bite hrun with ⟨h2448, hrun⟩ | ⟨h2448, hrun⟩
                                          · · refine At.know (t := 88) rfl h2448 ?_
                                              refine At.run 10 rfl ?_
                                              exact At.of (J2447 true hrun) ⟨rfl, trivial⟩
                                          · · refine At.know (t := 88) rfl (bn h2448) ?_
                                              refine At.run 1 rfl ?_
                                              refine At.y (Y.load rfl rfl .z rfl rfl rfl) rfl rfl rfl ?_
                                              refine At.run 2 rfl ?_
                                              obtain ⟨G2650, hl2651, hr2652, hrun⟩ := bjoin hrun
                                              refine At.joinO 5 (X := Bool) (fun x2649 => [(88, .bool false), (97, .bool x2649)]) (fun x2649 => pt b264 (.cells [.int .i64 t2026.1, .int .i64 t2026.2.1, .int .i64 t2026.2.2].toArray 44) :: pt b1795 (.cells [.slice w1789 ((((([] : List Int) ++ a1_0) ++ ([0] : List Int)).take (a1_0.length : Int).toNat).length) w1790, .slice w1785 ((((([] : List Int) ++ a1_1) ++ ([0] : List Int)).take (a1_1.length : Int).toNat).length) w1786, .slice w1787 ((((([] : List Int) ++ a1_2) ++ ([0] : List Int)).take (a1_2.length : Int).toNat).length) w1788, .slice w1783 ((((([] : List Int) ++ a1_3) ++ ([0] : List Int)).take (a1_3.length : Int).toNat).length) w1784].toArray 39) :: pt b259 (.cells [.slice A1_0 a1_0.length c1_0, .slice A1_1 a1_1.length c1_1, .slice A1_2 a1_2.length c1_2, .slice A1_3 a1_3.length c1_3].toArray 39) :: pt b258 (.cells [.slice A0_0 a0_0.length c0_0, .slice A0_1 a0_1.length c0_1, .slice A0_2 a0_2.length c0_2].toArray 36) :: Fr) (fun x2649 => G2650 (.inl x2649) = some r) ?_ (fun J2653 => ?_)
                                              · rintro x2649 hrun
                                                have hrun := (hl2651 _).symm.trans hrun
                                                · refine At.run 1 rfl ?_
                                                  exact At.of (J2447 x2649 hrun) ⟨rfl, trivial⟩
                                              · · rcases bite hrun with ⟨h2654, hrun⟩ | ⟨h2654, hrun⟩
                                                  · · refine At.know (t := 92) rfl (decide_eq_true h2654) ?_
                                                      refine At.run 1 rfl ?_
                                                      refine At.y (Y.load rfl rfl .z rfl rfl rfl) rfl rfl rfl ?_
                                                      refine At.run 3 rfl ?_
                                                      exact At.of (J2653 (decide (t2026.2.1 = gt a0_0 (Int.tmod a2 (a0_0.length : Int)))) hrun) ⟨rfl, rfl, trivial⟩
                                                  · · refine At.know (t := 92) rfl (decide_eq_false h2654) ?_
                                                      refine At.run 5 rfl ?_
                                                      exact At.of (J2653 false hrun) ⟨rfl, rfl, trivial⟩
                              · · refine At.region ?_
                                  refine At.run 2 rfl ?_
                                  obtain ⟨h2655, hrun⟩ := bnone hrun
                                  rcases bite hrun with ⟨h2656, hrun⟩ | ⟨h2656, hrun⟩
                                  · · refine At.y (Y.ixArrK rfl rfl rfl rfl rfl h2655.1 h2655.2 (q := 0) (off := 0) h2656 rfl) rfl rfl rfl ?_
                                      refine At.y (Y.load rfl rfl (.s (.s .z)) rfl rfl rfl) rfl rfl rfl ?_
                                      refine At.run 1 rfl ?_
                                      obtain ⟨t2657, hc2658, hrun⟩ := bbind hrun
                                      refine At.call rfl bailiffref16_Count.callee rfl rfl rfl (bailiffref16_Count.spec _ _ A1_0 a1_0.length c1_0 a1_0 a3 (RdS.mono (((hs2006.trans hs2012).trans hs2018).trans hs2024) hr1_0) rfl hc1_0 hc2658) ?_
                                      rintro _ _ ⟨rfl, rfl⟩
                                      refine At.run 1 rfl ?_
                                      refine At.nil ?_
                                      refine At.thn ?_
                                      exact fun a w e hs => J2040 (decide (t2657 = 0)) hrun a w (e.sub ⟨rfl, rfl, rfl, rfl, trivial⟩) hs
                                  · · have h2659 : gt a0_0 (Int.tmod a2 (a0_0.length : Int)) = 1 := by have h1_ := h2655; omega
                                      refine At.y (Y.ixArrK rfl rfl rfl rfl rfl h2655.1 h2655.2 (q := 1) (off := 1) h2659 rfl) rfl rfl rfl ?_
                                      refine At.y (Y.load rfl rfl (.s (.s .z)) rfl rfl rfl) rfl rfl rfl ?_
                                      refine At.run 1 rfl ?_
                                      obtain ⟨t2660, hc2661, hrun⟩ := bbind hrun
                                      refine At.call rfl bailiffref16_Count.callee rfl rfl rfl (bailiffref16_Count.spec _ _ A1_1 a1_1.length c1_1 a1_1 a3 (RdS.mono (((hs2006.trans hs2012).trans hs2018).trans hs2024) hr1_1) rfl hc1_1 hc2661) ?_
                                      rintro _ _ ⟨rfl, rfl⟩
                                      refine At.run 1 rfl ?_
                                      refine At.nil ?_
                                      refine At.thn ?_
                                      exact fun a w e hs => J2040 (decide (t2660 = 0)) hrun a w (e.sub ⟨rfl, rfl, rfl, rfl, trivial⟩) hs
                      · · refine At.region ?_
                          refine At.run 2 rfl ?_
                          obtain ⟨h2662, hrun⟩ := bnone hrun
                          rcases bite hrun with ⟨h2663, hrun⟩ | ⟨h2663, hrun⟩
                          · · refine At.y (Y.ixArrK rfl rfl rfl rfl rfl h2662.1 h2662.2 (q := 0) (off := 2) h2663 rfl) rfl rfl rfl ?_
                              refine At.y (Y.load rfl rfl .z rfl rfl rfl) rfl rfl rfl ?_
                              refine At.run 2 rfl ?_
                              obtain ⟨h2664, hrun⟩ := bnone hrun
                              refine At.y (Y.ix (.s (.s (.s .z))) rfl rfl rfl rfl rfl rfl h2664.1 h2664.2) rfl rfl rfl ?_
                              refine At.st rfl (.s (.s (.s .z))) (q := 0) (z := a3) rfl rfl rfl h2664.1 h2664.2 rfl rfl (.c .n) ?_
                              refine At.nil ?_
                              refine At.thn ?_
                              exact fun a w e hs => J1799 ((st (((([] : List Int) ++ a1_2) ++ ([0] : List Int)).take (a1_2.length : Int).toNat) (Int.tmod a2 (a0_0.length : Int)) a3), (((([] : List Int) ++ a1_3) ++ ([0] : List Int)).take (a1_3.length : Int).toNat)) hrun a w (e.sub ⟨rfl, rfl, rfl, rfl, rfl, rfl, rfl, trivial⟩) hs
                          · · have h2665 : gt a0_0 (Int.tmod a2 (a0_0.length : Int)) = 1 := by have h1_ := h2662; omega
                              refine At.y (Y.ixArrK rfl rfl rfl rfl rfl h2662.1 h2662.2 (q := 1) (off := 3) h2665 rfl) rfl rfl rfl ?_
                              refine At.y (Y.load rfl rfl .z rfl rfl rfl) rfl rfl rfl ?_
                              refine At.run 2 rfl ?_
                              obtain ⟨h2666, hrun⟩ := bnone hrun
                              refine At.y (Y.ix (.s (.s (.s (.s .z)))) rfl rfl rfl rfl rfl rfl h2666.1 h2666.2) rfl rfl rfl ?_
                              refine At.st rfl (.s (.s (.s (.s .z)))) (q := 0) (z := a3) rfl rfl rfl h2666.1 h2666.2 rfl rfl (.c .n) ?_
                              refine At.nil ?_
                              refine At.thn ?_
                              refine At.frt (.s (.s (.s (.s (.s (.s (.s .z))))))) ?_
                              refine At.frt (.s (.s (.s (.s (.s (.s (.s .z))))))) ?_
                              refine At.frt (.s (.s (.s (.s (.s (.s (.s .z))))))) ?_
                              refine At.frt (.s (.s (.s .z))) ?_
                              refine At.frt (.s (.s (.s (.s (.s (.s .z)))))) ?_
                              refine At.frt (.s (.s (.s (.s (.s (.s .z)))))) ?_
                              refine At.frt (.s (.s (.s (.s (.s (.s .z)))))) ?_
                              refine At.frt (.s (.s (.s (.s (.s (.s (.s .z))))))) ?_
                              exact fun a w e hs => J1799 ((((([] : List Int) ++ a1_2) ++ ([0] : List Int)).take (a1_2.length : Int).toNat), (st (((([] : List Int) ++ a1_3) ++ ([0] : List Int)).take (a1_3.length : Int).toNat) (Int.tmod a2 (a0_0.length : Int)) a3)) hrun a w (e.sub ⟨rfl, rfl, rfl, rfl, rfl, rfl, rfl, trivial⟩) hs
              · · refine At.region ?_
                  refine At.run 2 rfl ?_
                  obtain ⟨h2667, hrun⟩ := bnone hrun
                  rcases bite hrun with ⟨h2668, hrun⟩ | ⟨h2668, hrun⟩
                  · · refine At.y (Y.ixArrK rfl rfl rfl rfl rfl h2667.1 h2667.2 (q := 0) (off := 0) h2668 rfl) rfl rfl rfl ?_
                      refine At.y (Y.load rfl rfl (.s .z) rfl rfl rfl) rfl rfl rfl ?_
                      refine At.run 1 rfl ?_
                      obtain ⟨t2669, hc2670, hrun⟩ := bbind hrun
                      refine At.call rfl bailiffref16_Count.callee rfl rfl rfl (bailiffref16_Count.spec _ _ A1_0 a1_0.length c1_0 a1_0 (Int.tmod a2 (a0_0.length : Int)) hr1_0 rfl hc1_0 hc2670) ?_
                      rintro _ _ ⟨rfl, rfl⟩
                      refine At.run 1 rfl ?_
                      refine At.nil ?_
                      refine At.thn ?_
                      exact fun a w e hs => J1578 (decide (t2669 = 0)) hrun a w (e.sub ⟨rfl, rfl, rfl, rfl, rfl, rfl, rfl, trivial⟩) hs
                  · · have h2671 : gt a0_0 (Int.tmod a2 (a0_0.length : Int)) = 1 := by have h1_ := h2667; omega
                      refine At.y (Y.ixArrK rfl rfl rfl rfl rfl h2667.1 h2667.2 (q := 1) (off := 1) h2671 rfl) rfl rfl rfl ?_
                      refine At.y (Y.load rfl rfl (.s .z) rfl rfl rfl) rfl rfl rfl ?_
                      refine At.run 1 rfl ?_
                      obtain ⟨t2672, hc2673, hrun⟩ := bbind hrun
                      refine At.call rfl bailiffref16_Count.callee rfl rfl rfl (bailiffref16_Count.spec _ _ A1_1 a1_1.length c1_1 a1_1 (Int.tmod a2 (a0_0.length : Int)) hr1_1 rfl hc1_1 hc2673) ?_
                      rintro _ _ ⟨rfl, rfl⟩
                      refine At.run 1 rfl ?_
                      refine At.nil ?_
                      refine At.thn ?_
                      exact fun a w e hs => J1578 (decide (t2672 = 0)) hrun a w (e.sub ⟨rfl, rfl, rfl, rfl, rfl, rfl, rfl, trivial⟩) hs
  · · rcases bite hrun with ⟨h2674, hrun⟩ | ⟨h2674, hrun⟩
      · · refine At.know (t := 20) rfl (nf h2674) ?_
          refine At.run 1 rfl ?_
          refine At.y (Y.load rfl rfl .z rfl rfl rfl) rfl rfl rfl ?_
          refine At.run 2 rfl ?_
          exact At.of (J469 (!(decide (t262.1 = 0))) hrun) ⟨rfl, rfl, rfl, rfl, rfl, rfl, rfl, trivial⟩
      · · refine At.know (t := 20) rfl (nt (bn h2674)) ?_
          refine At.run 4 rfl ?_
          exact At.of (J469 true hrun) ⟨rfl, rfl, rfl, rfl, rfl, rfl, rfl, trivial⟩

end Go.Bw
