/- Walks: what the functions of the program compute, told by plain functions, and that the calls come to them. Conditions: none. -/
import Derived.Test.YtmkidaijgdgcjaaBwTyx
import Derived.Test.YtmkidaijgdgcjaaProg
import Derived.Test.YtmkidaijgdgcjaaBwLay
import Derived.Test.YtmkidaijgdgcjaaBwSortI
import Derived.Test.YtmkidaijgdgcjaaBwSortF
import Derived.Deep.QuietTactic
import Derived.Test.YtmkidaijgdgcjaaBwCycA
set_option linter.unusedVariables false
set_option linter.unusedSimpArgs false
set_option linter.unusedSectionVars false
namespace Go.Bw
open Go Go.RowKit Go.Proofs
noncomputable def cycles_walk_from_v2.l0b (a0_0 : List (List Int)) (a0_1_c0_0_c0_0 : List Int) (a0_1_c1_0 : Int) (a0_2 : List Int) (a0_3 : List Int) (a0_4 : List Bool) (x895 : List Int) (x896 : List Int) (x897 : List Bool) (x898 : List Int) (x903 : List cycles_stand) (x908 : List (List Int)) (x913 : Int) : Option (((List Int) × (List Int) × (List Bool) × (List Int) × (List cycles_stand) × (List (List Int)) × Int) ⊕ (((List Int) × (List Int) × (List Bool) × (List Int) × (List cycles_stand) × (List (List Int)) × Int) ⊕ ((List Int) × (List Int) × (List Bool) × (List Int) × (List cycles_stand) × (List (List Int)) × Int))) :=
  if 0 < (x903.length : Int) then
    if (0 : Int) ≤ IntKind.i64.wrap ((x903.length : Int) - 1) ∧ IntKind.i64.wrap ((x903.length : Int) - 1) < (x903.length : Int) then
      if (0 : Int) ≤ (gt x903 (IntKind.i64.wrap ((x903.length : Int) - 1))).node ∧ (gt x903 (IntKind.i64.wrap ((x903.length : Int) - 1))).node < (a0_0.length : Int) then
        if (gt x903 (IntKind.i64.wrap ((x903.length : Int) - 1))).step = ((gt a0_0 ((gt x903 (IntKind.i64.wrap ((x903.length : Int) - 1))).node)).length : Int) then
          (cycles_walk_leave_v2.f a0_0 a0_1_c0_0_c0_0 a0_1_c1_0 x895 x896 x897 x898 x903 x913 x908 ((gt x903 (IntKind.i64.wrap ((x903.length : Int) - 1))).node)).bind fun t1156 =>
            nx (x895, t1156.1, t1156.2.2.1, t1156.2.2.2.1, t1156.2.1, t1156.2.2.2.2, x913)
        else
          if (0 : Int) ≤ (gt x903 (IntKind.i64.wrap ((x903.length : Int) - 1))).step ∧ (gt x903 (IntKind.i64.wrap ((x903.length : Int) - 1))).step < ((gt a0_0 ((gt x903 (IntKind.i64.wrap ((x903.length : Int) - 1))).node)).length : Int) then
            jn (
              if gt (gt a0_0 ((gt x903 (IntKind.i64.wrap ((x903.length : Int) - 1))).node)) ((gt x903 (IntKind.i64.wrap ((x903.length : Int) - 1))).step) < 0 then
                some (.inl true)
              else
                some (.inl (decide ((a0_0.length : Int) ≤ gt (gt a0_0 ((gt x903 (IntKind.i64.wrap ((x903.length : Int) - 1))).node)) ((gt x903 (IntKind.i64.wrap ((x903.length : Int) - 1))).step))))) (fun (x1371 : Bool) =>
              jn (
                if x1371 = true then
                  some (.inl true)
                else
                  (cycles_Bad_2.f (gt (gt a0_0 ((gt x903 (IntKind.i64.wrap ((x903.length : Int) - 1))).node)) ((gt x903 (IntKind.i64.wrap ((x903.length : Int) - 1))).step)) a0_1_c0_0_c0_0 a0_1_c1_0).bind fun t1603 =>
                    some (.inl (!t1603))) (fun (x1576 : Bool) =>
                if x1576 = true then
                  nx (x895, x896, x897, x898, (st x903 (IntKind.i64.wrap ((x903.length : Int) - 1)) ({ gt x903 (IntKind.i64.wrap ((x903.length : Int) - 1)) with step := IntKind.i64.wrap ((gt x903 (IntKind.i64.wrap ((x903.length : Int) - 1))).step + 1) })), x908, x913)
                else
                  if (0 : Int) ≤ gt (gt a0_0 ((gt x903 (IntKind.i64.wrap ((x903.length : Int) - 1))).node)) ((gt x903 (IntKind.i64.wrap ((x903.length : Int) - 1))).step) ∧ gt (gt a0_0 ((gt x903 (IntKind.i64.wrap ((x903.length : Int) - 1))).node)) ((gt x903 (IntKind.i64.wrap ((x903.length : Int) - 1))).step) < (a0_2.length : Int) then
                    if gt x895 (gt (gt a0_0 ((gt x903 (IntKind.i64.wrap ((x903.length : Int) - 1))).node)) ((gt x903 (IntKind.i64.wrap ((x903.length : Int) - 1))).step)) = 0 then
                      (cycles_walk_meet_v2.f a0_0 a0_1_c0_0_c0_0 a0_1_c1_0 x895 x896 x897 x898 (st x903 (IntKind.i64.wrap ((x903.length : Int) - 1)) ({ gt x903 (IntKind.i64.wrap ((x903.length : Int) - 1)) with step := IntKind.i64.wrap ((gt x903 (IntKind.i64.wrap ((x903.length : Int) - 1))).step + 1) })) x913 x908 (gt (gt a0_0 ((gt x903 (IntKind.i64.wrap ((x903.length : Int) - 1))).node)) ((gt x903 (IntKind.i64.wrap ((x903.length : Int) - 1))).step))).bind fun t1589 =>
                        nx (t1589.2.2.2.2.1, t1589.2.2.2.1, t1589.2.2.1, t1589.2.1, t1589.1, x908, t1589.2.2.2.2.2)
                    else
                      if (0 : Int) ≤ gt (gt a0_0 ((gt x903 (IntKind.i64.wrap ((x903.length : Int) - 1))).node)) ((gt x903 (IntKind.i64.wrap ((x903.length : Int) - 1))).step) ∧ gt (gt a0_0 ((gt x903 (IntKind.i64.wrap ((x903.length : Int) - 1))).node)) ((gt x903 (IntKind.i64.wrap ((x903.length : Int) - 1))).step) < (a0_4.length : Int) then
                        if gt x897 (gt (gt a0_0 ((gt x903 (IntKind.i64.wrap ((x903.length : Int) - 1))).node)) ((gt x903 (IntKind.i64.wrap ((x903.length : Int) - 1))).step)) = true then
                          if (0 : Int) ≤ (gt (st x903 (IntKind.i64.wrap ((x903.length : Int) - 1)) ({ gt x903 (IntKind.i64.wrap ((x903.length : Int) - 1)) with step := IntKind.i64.wrap ((gt x903 (IntKind.i64.wrap ((x903.length : Int) - 1))).step + 1) })) (IntKind.i64.wrap ((x903.length : Int) - 1))).node ∧ (gt (st x903 (IntKind.i64.wrap ((x903.length : Int) - 1)) ({ gt x903 (IntKind.i64.wrap ((x903.length : Int) - 1)) with step := IntKind.i64.wrap ((gt x903 (IntKind.i64.wrap ((x903.length : Int) - 1))).step + 1) })) (IntKind.i64.wrap ((x903.length : Int) - 1))).node < (a0_3.length : Int) then
                            nx (x895, (st x896 ((gt (st x903 (IntKind.i64.wrap ((x903.length : Int) - 1)) ({ gt x903 (IntKind.i64.wrap ((x903.length : Int) - 1)) with step := IntKind.i64.wrap ((gt x903 (IntKind.i64.wrap ((x903.length : Int) - 1))).step + 1) })) (IntKind.i64.wrap ((x903.length : Int) - 1))).node) (if gt x895 (gt (gt a0_0 ((gt x903 (IntKind.i64.wrap ((x903.length : Int) - 1))).node)) ((gt x903 (IntKind.i64.wrap ((x903.length : Int) - 1))).step)) < gt x896 ((gt (st x903 (IntKind.i64.wrap ((x903.length : Int) - 1)) ({ gt x903 (IntKind.i64.wrap ((x903.length : Int) - 1)) with step := IntKind.i64.wrap ((gt x903 (IntKind.i64.wrap ((x903.length : Int) - 1))).step + 1) })) (IntKind.i64.wrap ((x903.length : Int) - 1))).node) then gt x895 (gt (gt a0_0 ((gt x903 (IntKind.i64.wrap ((x903.length : Int) - 1))).node)) ((gt x903 (IntKind.i64.wrap ((x903.length : Int) - 1))).step)) else gt x896 ((gt (st x903 (IntKind.i64.wrap ((x903.length : Int) - 1)) ({ gt x903 (IntKind.i64.wrap ((x903.length : Int) - 1)) with step := IntKind.i64.wrap ((gt x903 (IntKind.i64.wrap ((x903.length : Int) - 1))).step + 1) })) (IntKind.i64.wrap ((x903.length : Int) - 1))).node))), x897, x898, (st x903 (IntKind.i64.wrap ((x903.length : Int) - 1)) ({ gt x903 (IntKind.i64.wrap ((x903.length : Int) - 1)) with step := IntKind.i64.wrap ((gt x903 (IntKind.i64.wrap ((x903.length : Int) - 1))).step + 1) })), x908, x913)
                          else none
                        else
                          nx (x895, x896, x897, x898, (st x903 (IntKind.i64.wrap ((x903.length : Int) - 1)) ({ gt x903 (IntKind.i64.wrap ((x903.length : Int) - 1)) with step := IntKind.i64.wrap ((gt x903 (IntKind.i64.wrap ((x903.length : Int) - 1))).step + 1) })), x908, x913)
                      else none
                  else none))
          else none
      else none
    else none
  else
    dn (.inl (x895, x896, x897, x898, x903, x908, x913))
noncomputable def cycles_walk_from_v2.l0 (a0_0 : List (List Int)) (a0_1_c0_0_c0_0 : List Int) (a0_1_c1_0 : Int) (a0_2 : List Int) (a0_3 : List Int) (a0_4 : List Bool) (x895 : List Int) (x896 : List Int) (x897 : List Bool) (x898 : List Int) (x903 : List cycles_stand) (x908 : List (List Int)) (x913 : Int) : Option (((List Int) × (List Int) × (List Bool) × (List Int) × (List cycles_stand) × (List (List Int)) × Int) ⊕ ((List Int) × (List Int) × (List Bool) × (List Int) × (List cycles_stand) × (List (List Int)) × Int)) := iter (fun t_ : (List Int) × (List Int) × (List Bool) × (List Int) × (List cycles_stand) × (List (List Int)) × Int => cycles_walk_from_v2.l0b a0_0 a0_1_c0_0_c0_0 a0_1_c1_0 a0_2 a0_3 a0_4 t_.1 t_.2.1 t_.2.2.1 t_.2.2.2.1 t_.2.2.2.2.1 t_.2.2.2.2.2.1 t_.2.2.2.2.2.2) (x895, x896, x897, x898, x903, x908, x913)
noncomputable def cycles_walk_from_v2.f (a0_0 : List (List Int)) (a0_1_c0_0_c0_0 : List Int) (a0_1_c1_0 : Int) (a0_2 : List Int) (a0_3 : List Int) (a0_4 : List Bool) (a0_5 : List Int) (a0_6 : List cycles_stand) (a0_7 : Int) (a0_8_c0_0 : List (List Int)) (a1 : Int) : Option ((List Int) × (List Int) × (List Bool) × (List Int) × (List cycles_stand) × (List (List Int)) × Int) :=
  (cycles_walk_meet_v2.f a0_0 a0_1_c0_0_c0_0 a0_1_c1_0 a0_2 a0_3 a0_4 a0_5 a0_6 a0_7 a0_8_c0_0 a1).bind fun t270 =>
    jn (cycles_walk_from_v2.l0 a0_0 a0_1_c0_0_c0_0 a0_1_c1_0 a0_2 a0_3 a0_4 t270.2.2.2.2.1 t270.2.2.2.1 t270.2.2.1 t270.2.1 t270.1 a0_8_c0_0 t270.2.2.2.2.2) (fun (s_ : (List Int) × (List Int) × (List Bool) × (List Int) × (List cycles_stand) × (List (List Int)) × Int) =>
      some (s_.1, s_.2.1, s_.2.2.1, s_.2.2.2.1, s_.2.2.2.2.1, s_.2.2.2.2.2.1, s_.2.2.2.2.2.2))
theorem cycles_walk_from_v2.callee : Callee Go.Proofs.Try.prog 56 := ⟨_, Go.Proofs.Try.func56, by kernel_rfl, by kernel_rfl⟩
set_option maxRecDepth 100000 in
set_option maxHeartbeats 2000000 in
theorem cycles_walk_from_v2.spec (R : Res) (Fr : List HProp) (b0 : Nat) (A0_0 : Option Addr) (n0_0 : Nat) (c0_0 : Nat) (b0_1_c0 : Nat) (b0_1_c0_0_c0 : Nat) (A0_1_c0_0_c0_0 : Option Addr) (n0_1_c0_0_c0_0 : Nat) (c0_1_c0_0_c0_0 : Nat) (b0_1_c1 : Nat) (A0_2 : Option Addr) (n0_2 : Nat) (c0_2 : Nat) (A0_3 : Option Addr) (n0_3 : Nat) (c0_3 : Nat) (A0_4 : Option Addr) (n0_4 : Nat) (c0_4 : Nat) (A0_5 : Option Addr) (n0_5 : Nat) (c0_5 : Nat) (A0_6 : Option Addr) (n0_6 : Nat) (c0_6 : Nat) (b0_8_c0 : Nat) (A0_8_c0_0 : Option Addr) (n0_8_c0_0 : Nat) (c0_8_c0_0 : Nat) (a0_0 : List (List Int)) (a0_1_c0_0_c0_0 : List Int) (a0_1_c1_0 : Int) (a0_2 : List Int) (a0_3 : List Int) (a0_4 : List Bool) (a0_5 : List Int) (a0_6 : List cycles_stand) (a0_7 : Int) (a0_8_c0_0 : List (List Int)) (a1 : Int) (hr0_0 : RdS ((Fl.int .i64).rep).slice R.heap A0_0 a0_0) (hn0_0 : a0_0.length = n0_0) (hc0_0 : n0_0 ≤ c0_0) (hr0_1_c0_0_c0_0 : RdS (Fl.int .i64).rep R.heap A0_1_c0_0_c0_0 a0_1_c0_0_c0_0) (hn0_1_c0_0_c0_0 : a0_1_c0_0_c0_0.length = n0_1_c0_0_c0_0) (hc0_1_c0_0_c0_0 : n0_1_c0_0_c0_0 ≤ c0_1_c0_0_c0_0) (hn0_2 : a0_2.length = n0_2) (hn0_3 : a0_3.length = n0_3) (hn0_4 : a0_4.length = n0_4) (hn0_5 : a0_5.length = n0_5) (hn0_6 : a0_6.length = n0_6) (hn0_8_c0_0 : a0_8_c0_0.length = n0_8_c0_0) {r : (List Int) × (List Int) × (List Bool) × (List Int) × (List cycles_stand) × (List (List Int)) × Int} (hrun : cycles_walk_from_v2.f a0_0 a0_1_c0_0_c0_0 a0_1_c1_0 a0_2 a0_3 a0_4 a0_5 a0_6 a0_7 a0_8_c0_0 a1 = some r) :
    Spec Go.Proofs.Try.prog 56 [.pointer (some ⟨b0, 0, none⟩), .int .i64 a1] R (pt b0 (.cells [.slice A0_0 n0_0 c0_0, .func (.func 40) #[] #[.pointer (some ⟨b0_1_c0, 0, none⟩), .pointer (some ⟨b0_1_c1, 0, none⟩)], .slice A0_2 n0_2 c0_2, .slice A0_3 n0_3 c0_3, .slice A0_4 n0_4 c0_4, .slice A0_5 n0_5 c0_5, .slice A0_6 n0_6 c0_6, .int .i64 a0_7, .func (.func 55) #[] #[.pointer (some ⟨b0_8_c0, 0, none⟩)]].toArray 86) :: pt b0_1_c0 (.cells [.func (.func 38) #[] #[.pointer (some ⟨b0_1_c0_0_c0, 0, none⟩)]].toArray 62) :: pt b0_1_c0_0_c0 (.cells [.slice A0_1_c0_0_c0_0 n0_1_c0_0_c0_0 c0_1_c0_0_c0_0].toArray 26) :: pt b0_1_c1 (.cells [.int .i64 a0_1_c1_0].toArray 3) :: row (Fl.int .i64) 3 A0_2 n0_2 c0_2 a0_2 :: row (Fl.int .i64) 3 A0_3 n0_3 c0_3 a0_3 :: row Fl.bool 4 A0_4 n0_4 c0_4 a0_4 :: row (Fl.int .i64) 3 A0_5 n0_5 c0_5 a0_5 :: row cycles_stand.fl 99 A0_6 n0_6 c0_6 a0_6 :: pt b0_8_c0 (.cells [.slice A0_8_c0_0 n0_8_c0_0 c0_8_c0_0].toArray 22) :: rows (Fl.int .i64) 3 26 A0_8_c0_0 n0_8_c0_0 c0_8_c0_0 a0_8_c0_0 :: Fr) (fun v l' => ∃ (w255 : Nat) (w257 : Option Addr) (w258 : Nat) (w260 : Nat) (w262 : Option Addr) (w263 : Nat) (w265 : Nat) (w267 : Option Addr) (w268 : Nat), v = .tuple #[] ∧ pt b0 (.cells [.slice A0_0 n0_0 c0_0, .func (.func 40) #[] #[.pointer (some ⟨b0_1_c0, 0, none⟩), .pointer (some ⟨b0_1_c1, 0, none⟩)], .slice A0_2 n0_2 c0_2, .slice A0_3 n0_3 c0_3, .slice A0_4 n0_4 c0_4, .slice w257 w255 w258, .slice w262 w260 w263, .int .i64 r.2.2.2.2.2.2, .func (.func 55) #[] #[.pointer (some ⟨b0_8_c0, 0, none⟩)]].toArray 86) :: pt b0_1_c0 (.cells [.func (.func 38) #[] #[.pointer (some ⟨b0_1_c0_0_c0, 0, none⟩)]].toArray 62) :: pt b0_1_c0_0_c0 (.cells [.slice A0_1_c0_0_c0_0 n0_1_c0_0_c0_0 c0_1_c0_0_c0_0].toArray 26) :: pt b0_1_c1 (.cells [.int .i64 a0_1_c1_0].toArray 3) :: row (Fl.int .i64) 3 A0_2 n0_2 c0_2 r.1 :: row (Fl.int .i64) 3 A0_3 n0_3 c0_3 r.2.1 :: row Fl.bool 4 A0_4 n0_4 c0_4 r.2.2.1 :: row (Fl.int .i64) 3 w257 w255 w258 r.2.2.2.1 :: row cycles_stand.fl 99 w262 w260 w263 r.2.2.2.2.1 :: pt b0_8_c0 (.cells [.slice w267 w265 w268].toArray 22) :: rows (Fl.int .i64) 3 26 w267 w265 w268 r.2.2.2.2.2.1 :: Fr = l' ∧ r.2.2.2.1.length = w255 ∧ r.2.2.2.2.1.length = w260 ∧ r.2.2.2.2.2.1.length = w265) := by
  subst hn0_0
  subst hn0_1_c0_0_c0_0
  subst hn0_2
  subst hn0_3
  subst hn0_4
  subst hn0_5
  subst hn0_6
  subst hn0_8_c0_0
  refine Spec.of Go.Proofs.Try.func56 rfl rfl ?_
  unfold cycles_walk_from_v2.f at hrun
  have hrun := brun hrun
  refine At.seq ?_
  refine At.region ?_
  refine At.run 2 rfl ?_
  obtain ⟨t270, hc271, hrun⟩ := bbind hrun
  refine At.call rfl cycles_walk_meet_v2.callee rfl rfl rfl (cycles_walk_meet_v2.spec _ _ b0 A0_0 a0_0.length c0_0 b0_1_c0 b0_1_c0_0_c0 A0_1_c0_0_c0_0 a0_1_c0_0_c0_0.length c0_1_c0_0_c0_0 b0_1_c1 A0_2 a0_2.length c0_2 A0_3 a0_3.length c0_3 A0_4 a0_4.length c0_4 A0_5 a0_5.length c0_5 A0_6 a0_6.length c0_6 b0_8_c0 A0_8_c0_0 a0_8_c0_0.length c0_8_c0_0 a0_0 a0_1_c0_0_c0_0 a0_1_c1_0 a0_2 a0_3 a0_4 a0_5 a0_6 a0_7 a0_8_c0_0 a1 hr0_0 rfl hc0_0 hr0_1_c0_0_c0_0 rfl hc0_1_c0_0_c0_0 rfl rfl rfl rfl rfl rfl hc271) ?_
  rintro _ _ ⟨w272, w273, w274, w275, rfl, rfl⟩
  refine At.nil ?_
  refine At.thn ?_
  refine At.block ?_
  obtain ⟨G1133, hl1134, hr1135, hrun⟩ := bjoin hrun
  obtain ⟨o1136, hlo1137, ho1138⟩ := bsome hrun
  clear hrun
  unfold cycles_walk_from_v2.l0 at hlo1137
  obtain ⟨m1139, hit1141⟩ := iter_some.1 hlo1137
  clear hlo1137
  refine At.rowLen (.s (.s (.s (.s (.s (.s (.s .z))))))) fun hn1606 => ?_
  refine At.rowLen (.s (.s (.s (.s (.s (.s (.s (.s .z)))))))) fun hn1607 => ?_
  refine At.loopJ (X := (List Int) × (List Int) × (List Bool) × (List Int) × (List cycles_stand) × (List (List Int)) × Int × Nat × (Option Addr) × Nat × Nat × (Option Addr) × Nat × Nat × (Option Addr) × Nat) (Y := (List Int) × (List Int) × (List Bool) × (List Int) × (List cycles_stand) × (List (List Int)) × Int × Nat × (Option Addr) × Nat × Nat × (Option Addr) × Nat × Nat × (Option Addr) × Nat) (e0 := 0) (fun s_ => [(0, .pointer (some ⟨b0, 0, none⟩))]) (fun s_ => pt b0 (.cells [.slice A0_0 a0_0.length c0_0, .func (.func 40) #[] #[.pointer (some ⟨b0_1_c0, 0, none⟩), .pointer (some ⟨b0_1_c1, 0, none⟩)], .slice A0_2 a0_2.length c0_2, .slice A0_3 a0_3.length c0_3, .slice A0_4 a0_4.length c0_4, .slice s_.2.2.2.2.2.2.2.2.1 s_.2.2.2.2.2.2.2.1 s_.2.2.2.2.2.2.2.2.2.1, .slice s_.2.2.2.2.2.2.2.2.2.2.2.1 s_.2.2.2.2.2.2.2.2.2.2.1 s_.2.2.2.2.2.2.2.2.2.2.2.2.1, .int .i64 s_.2.2.2.2.2.2.1, .func (.func 55) #[] #[.pointer (some ⟨b0_8_c0, 0, none⟩)]].toArray 86) :: pt b0_1_c0 (.cells [.func (.func 38) #[] #[.pointer (some ⟨b0_1_c0_0_c0, 0, none⟩)]].toArray 62) :: pt b0_1_c0_0_c0 (.cells [.slice A0_1_c0_0_c0_0 a0_1_c0_0_c0_0.length c0_1_c0_0_c0_0].toArray 26) :: pt b0_1_c1 (.cells [.int .i64 a0_1_c1_0].toArray 3) :: row (Fl.int .i64) 3 A0_2 a0_2.length c0_2 s_.1 :: row (Fl.int .i64) 3 A0_3 a0_3.length c0_3 s_.2.1 :: row Fl.bool 4 A0_4 a0_4.length c0_4 s_.2.2.1 :: row (Fl.int .i64) 3 s_.2.2.2.2.2.2.2.2.1 s_.2.2.2.2.2.2.2.1 s_.2.2.2.2.2.2.2.2.2.1 s_.2.2.2.1 :: row cycles_stand.fl 99 s_.2.2.2.2.2.2.2.2.2.2.2.1 s_.2.2.2.2.2.2.2.2.2.2.1 s_.2.2.2.2.2.2.2.2.2.2.2.2.1 s_.2.2.2.2.1 :: pt b0_8_c0 (.cells [.slice s_.2.2.2.2.2.2.2.2.2.2.2.2.2.2.1 s_.2.2.2.2.2.2.2.2.2.2.2.2.2.1 s_.2.2.2.2.2.2.2.2.2.2.2.2.2.2.2].toArray 22) :: rows (Fl.int .i64) 3 26 s_.2.2.2.2.2.2.2.2.2.2.2.2.2.2.1 s_.2.2.2.2.2.2.2.2.2.2.2.2.2.1 s_.2.2.2.2.2.2.2.2.2.2.2.2.2.2.2 s_.2.2.2.2.2.1 :: Fr) (fun m_ => fun s_ => iterN (fun t_ : (List Int) × (List Int) × (List Bool) × (List Int) × (List cycles_stand) × (List (List Int)) × Int => cycles_walk_from_v2.l0b a0_0 a0_1_c0_0_c0_0 a0_1_c1_0 a0_2 a0_3 a0_4 t_.1 t_.2.1 t_.2.2.1 t_.2.2.2.1 t_.2.2.2.2.1 t_.2.2.2.2.2.1 t_.2.2.2.2.2.2) m_ (s_.1, s_.2.1, s_.2.2.1, s_.2.2.2.1, s_.2.2.2.2.1, s_.2.2.2.2.2.1, s_.2.2.2.2.2.2.1) = some o1136 ∧ s_.2.2.2.1.length = s_.2.2.2.2.2.2.2.1 ∧ s_.2.2.2.2.1.length = s_.2.2.2.2.2.2.2.2.2.2.1 ∧ s_.2.2.2.2.2.1.length = s_.2.2.2.2.2.2.2.2.2.2.2.2.2.1) m1139 (t270.2.2.2.2.1, t270.2.2.2.1, t270.2.2.1, t270.2.1, t270.1, a0_8_c0_0, t270.2.2.2.2.2, (a0_5 ++ ([a1] : List Int)).length, w274, w275, (a0_6 ++ ([(⟨a1, 0⟩ : cycles_stand)] : List cycles_stand)).length, w272, w273, a0_8_c0_0.length, A0_8_c0_0, c0_8_c0_0) ⟨hit1141, hn1606, hn1607, rfl⟩ (fun s_ => []) (fun s_ => pt b0 (.cells [.slice A0_0 a0_0.length c0_0, .func (.func 40) #[] #[.pointer (some ⟨b0_1_c0, 0, none⟩), .pointer (some ⟨b0_1_c1, 0, none⟩)], .slice A0_2 a0_2.length c0_2, .slice A0_3 a0_3.length c0_3, .slice A0_4 a0_4.length c0_4, .slice s_.2.2.2.2.2.2.2.2.1 s_.2.2.2.2.2.2.2.1 s_.2.2.2.2.2.2.2.2.2.1, .slice s_.2.2.2.2.2.2.2.2.2.2.2.1 s_.2.2.2.2.2.2.2.2.2.2.1 s_.2.2.2.2.2.2.2.2.2.2.2.2.1, .int .i64 s_.2.2.2.2.2.2.1, .func (.func 55) #[] #[.pointer (some ⟨b0_8_c0, 0, none⟩)]].toArray 86) :: pt b0_1_c0 (.cells [.func (.func 38) #[] #[.pointer (some ⟨b0_1_c0_0_c0, 0, none⟩)]].toArray 62) :: pt b0_1_c0_0_c0 (.cells [.slice A0_1_c0_0_c0_0 a0_1_c0_0_c0_0.length c0_1_c0_0_c0_0].toArray 26) :: pt b0_1_c1 (.cells [.int .i64 a0_1_c1_0].toArray 3) :: row (Fl.int .i64) 3 A0_2 a0_2.length c0_2 s_.1 :: row (Fl.int .i64) 3 A0_3 a0_3.length c0_3 s_.2.1 :: row Fl.bool 4 A0_4 a0_4.length c0_4 s_.2.2.1 :: row (Fl.int .i64) 3 s_.2.2.2.2.2.2.2.2.1 s_.2.2.2.2.2.2.2.1 s_.2.2.2.2.2.2.2.2.2.1 s_.2.2.2.1 :: row cycles_stand.fl 99 s_.2.2.2.2.2.2.2.2.2.2.2.1 s_.2.2.2.2.2.2.2.2.2.2.1 s_.2.2.2.2.2.2.2.2.2.2.2.2.1 s_.2.2.2.2.1 :: pt b0_8_c0 (.cells [.slice s_.2.2.2.2.2.2.2.2.2.2.2.2.2.2.1 s_.2.2.2.2.2.2.2.2.2.2.2.2.2.1 s_.2.2.2.2.2.2.2.2.2.2.2.2.2.2.2].toArray 22) :: rows (Fl.int .i64) 3 26 s_.2.2.2.2.2.2.2.2.2.2.2.2.2.2.1 s_.2.2.2.2.2.2.2.2.2.2.2.2.2.1 s_.2.2.2.2.2.2.2.2.2.2.2.2.2.2.2 s_.2.2.2.2.2.1 :: Fr) (fun s_ => G1133 (.inl (s_.1, s_.2.1, s_.2.2.1, s_.2.2.2.1, s_.2.2.2.2.1, s_.2.2.2.2.2.1, s_.2.2.2.2.2.2.1)) = some r ∧ s_.2.2.2.1.length = s_.2.2.2.2.2.2.2.1 ∧ s_.2.2.2.2.1.length = s_.2.2.2.2.2.2.2.2.2.2.1 ∧ s_.2.2.2.2.2.1.length = s_.2.2.2.2.2.2.2.2.2.2.2.2.2.1) (fun a w e hs => ⟨e.sub ⟨rfl, trivial⟩, hs⟩) ?_ (fun J1143 => ?_)
  · rintro ⟨x1114, x1115, x1116, x1117, x1122, x1127, x1132, w1118, w1120, w1121, w1123, w1125, w1126, w1128, w1130, w1131⟩ ⟨hrun, hn1119, hn1124, hn1129⟩
    obtain rfl : x1117.length = w1118 := hn1119
    obtain rfl : x1122.length = w1123 := hn1124
    obtain rfl : x1127.length = w1128 := hn1129
    have hrun := (hl1134 _).symm.trans hrun
    · refine At.ibx ?_
      obtain rfl := (bret hrun).symm
      exact At.res (.inr rfl) rfl rfl ⟨x1117.length, w1120, w1121, x1122.length, w1125, w1126, x1127.length, w1130, w1131, rfl, rfl, rfl, rfl, rfl⟩
  · clear hit1141 m1139
    rintro m1139 ⟨x895, x896, x897, x898, x903, x908, x913, w899, w901, w902, w904, w906, w907, w909, w911, w912⟩ ⟨hit1141, hn900, hn905, hn910⟩
    obtain rfl : x898.length = w899 := hn900
    obtain rfl : x903.length = w904 := hn905
    obtain rfl : x908.length = w909 := hn910
    obtain ⟨m1140, f_, hlt1142, hf_, hrun⟩ := bit hit1141
    clear hit1141
    have hrun : (cycles_walk_from_v2.l0b a0_0 a0_1_c0_0_c0_0 a0_1_c1_0 a0_2 a0_3 a0_4 x895 x896 x897 x898 x903 x908 x913).bind _ = some o1136 := hrun
    unfold cycles_walk_from_v2.l0b at hrun
    · refine At.seq ?_
      refine At.seq ?_
      refine At.region ?_
      refine At.run 3 rfl ?_
      refine At.y (Y.load rfl rfl .z rfl rfl rfl) rfl rfl rfl ?_
      refine At.run 2 rfl ?_
      refine At.nil ?_
      refine At.thn ?_
      rcases bite hrun with ⟨h1144, hrun⟩ | ⟨h1144, hrun⟩
      · · refine At.condT rfl (decide_eq_true h1144) ?_
          refine At.skip ?_
          refine At.thn ?_
          refine At.block ?_
          refine At.seq ?_
          refine At.quiet (by kernel_rfl) ?_
          refine At.Quiet.run 3 rfl ?_
          refine At.Quiet.y (Y.load rfl rfl .z rfl rfl rfl) rfl rfl rfl ?_
          refine At.Quiet.run 3 rfl ?_
          refine At.Quiet.y (Y.load rfl rfl .z rfl rfl rfl) rfl rfl rfl ?_
          refine At.Quiet.run 2 rfl ?_
          obtain ⟨h1145, hrun⟩ := bnone hrun
          refine At.Quiet.y (Y.ix (.s (.s (.s (.s (.s (.s (.s (.s .z)))))))) rfl rfl rfl rfl rfl rfl h1145.1 h1145.2) rfl rfl rfl ?_
          refine At.Quiet.run 1 rfl ?_
          refine At.Quiet.nil ?_
          refine At.thn ?_
          refine At.seq ?_
          refine At.seq ?_
          refine At.quiet (by kernel_rfl) ?_
          refine At.Quiet.run 1 rfl ?_
          refine At.Quiet.y (Y.ncOwn (.s (.s (.s (.s (.s (.s (.s (.s .z)))))))) h1145.1 h1145.2 rfl) rfl rfl rfl ?_
          refine At.Quiet.y (Y.faOwn (.s (.s (.s (.s (.s (.s (.s (.s .z)))))))) h1145.1 h1145.2 rfl rfl rfl rfl rfl rfl) rfl rfl rfl ?_
          refine At.Quiet.y (Y.ld (.s (.s (.s (.s (.s (.s (.s (.s .z)))))))) (q := 1) rfl rfl h1145.1 h1145.2 rfl rfl rfl) rfl rfl rfl ?_
          refine At.Quiet.run 3 rfl ?_
          refine At.Quiet.y (Y.load rfl rfl .z rfl rfl rfl) rfl rfl rfl ?_
          refine At.Quiet.run 1 rfl ?_
          refine At.Quiet.y (Y.ncOwn (.s (.s (.s (.s (.s (.s (.s (.s .z)))))))) h1145.1 h1145.2 rfl) rfl rfl rfl ?_
          refine At.Quiet.y (Y.faOwn (.s (.s (.s (.s (.s (.s (.s (.s .z)))))))) h1145.1 h1145.2 rfl rfl rfl rfl rfl rfl) rfl rfl rfl ?_
          refine At.Quiet.y (Y.ld (.s (.s (.s (.s (.s (.s (.s (.s .z)))))))) (q := 0) rfl rfl h1145.1 h1145.2 rfl rfl rfl) rfl rfl rfl ?_
          obtain ⟨h1146, hrun⟩ := bnone hrun
          refine At.Quiet.y (Y.ixRd hr0_0 rfl rfl rfl rfl rfl rfl rfl h1146.1 h1146.2) rfl rfl rfl ?_
          obtain ⟨A1147, c1148, hc1149, hr1150, hy1151⟩ := RdS.rowAt (P := Go.Proofs.Try.prog) hr0_0 (Sub.refl _) rfl h1146.1 h1146.2
          refine At.Quiet.y (hy1151 rfl rfl rfl rfl) rfl rfl rfl ?_
          refine At.Quiet.run 2 rfl ?_
          refine At.Quiet.nil ?_
          refine At.thn ?_
          rcases bite hrun with ⟨h1152, hrun⟩ | ⟨h1152, hrun⟩
          · · refine At.condT rfl (decide_eq_true h1152) ?_
              refine At.seq ?_
              refine At.region ?_
              refine At.run 2 rfl ?_
              refine At.y (Y.ncOwn (.s (.s (.s (.s (.s (.s (.s (.s .z)))))))) h1145.1 h1145.2 rfl) rfl rfl rfl ?_
              refine At.y (Y.faOwn (.s (.s (.s (.s (.s (.s (.s (.s .z)))))))) h1145.1 h1145.2 rfl rfl rfl rfl rfl rfl) rfl rfl rfl ?_
              refine At.y (Y.ld (.s (.s (.s (.s (.s (.s (.s (.s .z)))))))) (q := 0) rfl rfl h1145.1 h1145.2 rfl rfl rfl) rfl rfl rfl ?_
              refine At.rowLen (.s (.s (.s (.s .z)))) fun hn1153 => ?_
              refine At.rowLen (.s (.s (.s (.s (.s .z))))) fun hn1154 => ?_
              refine At.rowLen (.s (.s (.s (.s (.s (.s .z)))))) fun hn1155 => ?_
              obtain ⟨t1156, hc1157, hrun⟩ := bbind hrun
              refine At.call rfl cycles_walk_leave_v2.callee rfl rfl rfl (cycles_walk_leave_v2.spec _ _ b0 A0_0 a0_0.length c0_0 b0_1_c0 b0_1_c0_0_c0 A0_1_c0_0_c0_0 a0_1_c0_0_c0_0.length c0_1_c0_0_c0_0 b0_1_c1 A0_2 a0_2.length c0_2 A0_3 a0_3.length c0_3 A0_4 a0_4.length c0_4 w901 x898.length w902 w906 x903.length w907 b0_8_c0 w911 x908.length w912 a0_0 a0_1_c0_0_c0_0 a0_1_c1_0 x895 x896 x897 x898 x903 x913 x908 ((gt x903 (IntKind.i64.wrap ((x903.length : Int) - 1))).node) hr0_0 rfl hc0_0 hr0_1_c0_0_c0_0 rfl hc0_1_c0_0_c0_0 hn1153 hn1154 hn1155 rfl rfl rfl hc1157) ?_
              rintro _ _ ⟨w1158, w1159, w1160, w1161, rfl, rfl, rfl, rfl⟩
              refine At.nil ?_
              refine At.thn ?_
              refine At.exit ?_
              refine At.the ?_
              refine At.ibx ?_
              refine At.rowLen (.s (.s (.s (.s (.s (.s (.s (.s .z)))))))) fun hn1164 => ?_
              have hrun := bnx hf_ hrun
              exact fun a w e hs => ⟨m1140, (x895, t1156.1, t1156.2.2.1, t1156.2.2.2.1, t1156.2.1, t1156.2.2.2.2, x913, t1156.2.2.2.1.length, w901, w902, (x903.take (IntKind.i64.wrap ((x903.length : Int) - 1)).toNat).length, w906, w907, t1156.2.2.2.2.length, w1160, w1161), hlt1142, ⟨hrun, rfl, hn1164, rfl⟩, e.sub ⟨rfl, trivial⟩, hs⟩
          · · refine At.condF rfl (decide_eq_false h1152) ?_
              refine At.skip ?_
              refine At.thn ?_
              refine At.seq ?_
              refine At.quiet (by kernel_rfl) ?_
              refine At.Quiet.run 3 rfl ?_
              refine At.Quiet.y (Y.load rfl rfl .z rfl rfl rfl) rfl rfl rfl ?_
              refine At.Quiet.run 1 rfl ?_
              refine At.Quiet.y (Y.ncOwn (.s (.s (.s (.s (.s (.s (.s (.s .z)))))))) h1145.1 h1145.2 rfl) rfl rfl rfl ?_
              refine At.Quiet.y (Y.faOwn (.s (.s (.s (.s (.s (.s (.s (.s .z)))))))) h1145.1 h1145.2 rfl rfl rfl rfl rfl rfl) rfl rfl rfl ?_
              refine At.Quiet.y (Y.ld (.s (.s (.s (.s (.s (.s (.s (.s .z)))))))) (q := 0) rfl rfl h1145.1 h1145.2 rfl rfl rfl) rfl rfl rfl ?_
              refine At.Quiet.y (Y.ixRd hr0_0 rfl rfl rfl rfl rfl rfl rfl h1146.1 h1146.2) rfl rfl rfl ?_
              obtain ⟨A1165, c1166, hc1167, hr1168, hy1169⟩ := RdS.rowAt (P := Go.Proofs.Try.prog) hr0_0 (Sub.refl _) rfl h1146.1 h1146.2
              refine At.Quiet.y (hy1169 rfl rfl rfl rfl) rfl rfl rfl ?_
              refine At.Quiet.run 1 rfl ?_
              refine At.Quiet.y (Y.ncOwn (.s (.s (.s (.s (.s (.s (.s (.s .z)))))))) h1145.1 h1145.2 rfl) rfl rfl rfl ?_
              refine At.Quiet.y (Y.faOwn (.s (.s (.s (.s (.s (.s (.s (.s .z)))))))) h1145.1 h1145.2 rfl rfl rfl rfl rfl rfl) rfl rfl rfl ?_
              refine At.Quiet.y (Y.ld (.s (.s (.s (.s (.s (.s (.s (.s .z)))))))) (q := 1) rfl rfl h1145.1 h1145.2 rfl rfl rfl) rfl rfl rfl ?_
              obtain ⟨h1170, hrun⟩ := bnone hrun
              refine At.Quiet.y (Y.ixRd hr1168 rfl rfl rfl rfl rfl rfl rfl h1170.1 h1170.2) rfl rfl rfl ?_
              refine At.Quiet.y (Y.ldFl hr1168 rfl (q := 0) rfl rfl h1170.1 h1170.2 rfl rfl rfl) rfl rfl rfl ?_
              refine At.Quiet.run 1 rfl ?_
              refine At.Quiet.nil ?_
              refine At.thn ?_
              refine At.seq ?_
              refine At.region ?_
              refine At.run 1 rfl ?_
              refine At.y (Y.ncOwn (.s (.s (.s (.s (.s (.s (.s (.s .z)))))))) h1145.1 h1145.2 rfl) rfl rfl rfl ?_
              refine At.y (Y.faOwn (.s (.s (.s (.s (.s (.s (.s (.s .z)))))))) h1145.1 h1145.2 rfl rfl rfl rfl rfl rfl) rfl rfl rfl ?_
              refine At.y (Y.ld (.s (.s (.s (.s (.s (.s (.s (.s .z)))))))) (q := 1) rfl rfl h1145.1 h1145.2 rfl rfl rfl) rfl rfl rfl ?_
              refine At.run 1 rfl ?_
              refine At.y (Y.ncOwn (.s (.s (.s (.s (.s (.s (.s (.s .z)))))))) h1145.1 h1145.2 rfl) rfl rfl rfl ?_
              refine At.y (Y.faOwn (.s (.s (.s (.s (.s (.s (.s (.s .z)))))))) h1145.1 h1145.2 rfl rfl rfl rfl rfl rfl) rfl rfl rfl ?_
              refine At.st rfl (.s (.s (.s (.s (.s (.s (.s (.s .z)))))))) (q := 1) (z := { gt x903 (IntKind.i64.wrap ((x903.length : Int) - 1)) with step := IntKind.i64.wrap ((gt x903 (IntKind.i64.wrap ((x903.length : Int) - 1))).step + 1) }) rfl rfl rfl h1145.1 h1145.2 rfl rfl (.s (.c .n)) ?_
              refine At.nil ?_
              refine At.thn ?_
              refine At.block ?_
              refine At.seq ?_
              refine At.region ?_
              refine At.run 3 rfl ?_
              obtain ⟨G1372, hl1373, hr1374, hrun⟩ := bjoin hrun
              refine At.joinO 8 (X := Bool) (fun x1371 => [(0, .pointer (some ⟨b0, 0, none⟩)), (4, elp w906 ((IntKind.i64.wrap ((x903.length : Int) - 1)).toNat * cycles_stand.fl.sz)), (5, .int .i64 (gt (gt a0_0 ((gt x903 (IntKind.i64.wrap ((x903.length : Int) - 1))).node)) ((gt x903 (IntKind.i64.wrap ((x903.length : Int) - 1))).step))), (82, .bool x1371)]) (fun x1371 => row cycles_stand.fl 99 w906 x903.length w907 (st x903 (IntKind.i64.wrap ((x903.length : Int) - 1)) ({ gt x903 (IntKind.i64.wrap ((x903.length : Int) - 1)) with step := IntKind.i64.wrap ((gt x903 (IntKind.i64.wrap ((x903.length : Int) - 1))).step + 1) })) :: pt b0 (.cells [.slice A0_0 a0_0.length c0_0, .func (.func 40) #[] #[.pointer (some ⟨b0_1_c0, 0, none⟩), .pointer (some ⟨b0_1_c1, 0, none⟩)], .slice A0_2 a0_2.length c0_2, .slice A0_3 a0_3.length c0_3, .slice A0_4 a0_4.length c0_4, .slice w901 x898.length w902, .slice w906 x903.length w907, .int .i64 x913, .func (.func 55) #[] #[.pointer (some ⟨b0_8_c0, 0, none⟩)]].toArray 86) :: pt b0_1_c0 (.cells [.func (.func 38) #[] #[.pointer (some ⟨b0_1_c0_0_c0, 0, none⟩)]].toArray 62) :: pt b0_1_c0_0_c0 (.cells [.slice A0_1_c0_0_c0_0 a0_1_c0_0_c0_0.length c0_1_c0_0_c0_0].toArray 26) :: pt b0_1_c1 (.cells [.int .i64 a0_1_c1_0].toArray 3) :: row (Fl.int .i64) 3 A0_2 a0_2.length c0_2 x895 :: row (Fl.int .i64) 3 A0_3 a0_3.length c0_3 x896 :: row Fl.bool 4 A0_4 a0_4.length c0_4 x897 :: row (Fl.int .i64) 3 w901 x898.length w902 x898 :: pt b0_8_c0 (.cells [.slice w911 x908.length w912].toArray 22) :: rows (Fl.int .i64) 3 26 w911 x908.length w912 x908 :: Fr) (fun x1371 => G1372 (.inl x1371) = some o1136) ?_ (fun J1375 => ?_)
              · rintro x1371 hrun
                have hrun := (hl1373 _).symm.trans hrun
                · refine At.run 1 rfl ?_
                  obtain ⟨G1577, hl1578, hr1579, hrun⟩ := bjoin hrun
                  refine At.joinO 8 (X := Bool) (fun x1576 => [(0, .pointer (some ⟨b0, 0, none⟩)), (4, elp w906 ((IntKind.i64.wrap ((x903.length : Int) - 1)).toNat * cycles_stand.fl.sz)), (5, .int .i64 (gt (gt a0_0 ((gt x903 (IntKind.i64.wrap ((x903.length : Int) - 1))).node)) ((gt x903 (IntKind.i64.wrap ((x903.length : Int) - 1))).step))), (91, .bool x1576)]) (fun x1576 => row cycles_stand.fl 99 w906 x903.length w907 (st x903 (IntKind.i64.wrap ((x903.length : Int) - 1)) ({ gt x903 (IntKind.i64.wrap ((x903.length : Int) - 1)) with step := IntKind.i64.wrap ((gt x903 (IntKind.i64.wrap ((x903.length : Int) - 1))).step + 1) })) :: pt b0 (.cells [.slice A0_0 a0_0.length c0_0, .func (.func 40) #[] #[.pointer (some ⟨b0_1_c0, 0, none⟩), .pointer (some ⟨b0_1_c1, 0, none⟩)], .slice A0_2 a0_2.length c0_2, .slice A0_3 a0_3.length c0_3, .slice A0_4 a0_4.length c0_4, .slice w901 x898.length w902, .slice w906 x903.length w907, .int .i64 x913, .func (.func 55) #[] #[.pointer (some ⟨b0_8_c0, 0, none⟩)]].toArray 86) :: pt b0_1_c0 (.cells [.func (.func 38) #[] #[.pointer (some ⟨b0_1_c0_0_c0, 0, none⟩)]].toArray 62) :: pt b0_1_c0_0_c0 (.cells [.slice A0_1_c0_0_c0_0 a0_1_c0_0_c0_0.length c0_1_c0_0_c0_0].toArray 26) :: pt b0_1_c1 (.cells [.int .i64 a0_1_c1_0].toArray 3) :: row (Fl.int .i64) 3 A0_2 a0_2.length c0_2 x895 :: row (Fl.int .i64) 3 A0_3 a0_3.length c0_3 x896 :: row Fl.bool 4 A0_4 a0_4.length c0_4 x897 :: row (Fl.int .i64) 3 w901 x898.length w902 x898 :: pt b0_8_c0 (.cells [.slice w911 x908.length w912].toArray 22) :: rows (Fl.int .i64) 3 26 w911 x908.length w912 x908 :: Fr) (fun x1576 => G1577 (.inl x1576) = some o1136) ?_ (fun J1580 => ?_)
                  · rintro x1576 hrun
                    have hrun := (hl1578 _).symm.trans hrun
                    · refine At.run 1 rfl ?_
                      refine At.nil ?_
                      refine At.thn ?_
                      rcases bite hrun with ⟨h1581, hrun⟩ | ⟨h1581, hrun⟩
                      · · refine At.condT rfl h1581 ?_
                          refine At.skip ?_
                          refine At.ibn ?_
                          refine At.ibn ?_
                          refine At.rowLen .z fun hn1582 => ?_
                          refine At.frt (.s (.s (.s (.s (.s (.s (.s (.s (.s (.s .z)))))))))) ?_
                          refine At.frt (.s (.s (.s (.s (.s (.s (.s (.s (.s (.s .z)))))))))) ?_
                          refine At.frt (.s (.s .z)) ?_
                          refine At.frt (.s (.s (.s (.s (.s (.s (.s (.s (.s (.s .z)))))))))) ?_
                          refine At.frt (.s (.s (.s (.s (.s (.s (.s (.s (.s (.s .z)))))))))) ?_
                          refine At.frt (.s (.s (.s (.s (.s (.s (.s (.s (.s (.s .z)))))))))) ?_
                          refine At.frt (.s (.s (.s (.s (.s (.s (.s (.s (.s (.s .z)))))))))) ?_
                          refine At.frt (.s (.s (.s (.s (.s (.s (.s (.s (.s (.s .z)))))))))) ?_
                          refine At.frt (.s (.s (.s (.s (.s (.s (.s (.s (.s (.s .z)))))))))) ?_
                          refine At.frt (.s (.s (.s (.s (.s (.s (.s (.s (.s (.s .z)))))))))) ?_
                          refine At.frt (.s (.s (.s (.s (.s (.s (.s (.s (.s (.s .z)))))))))) ?_
                          have hrun := bnx hf_ hrun
                          exact fun a w e hs => ⟨m1140, (x895, x896, x897, x898, (st x903 (IntKind.i64.wrap ((x903.length : Int) - 1)) ({ gt x903 (IntKind.i64.wrap ((x903.length : Int) - 1)) with step := IntKind.i64.wrap ((gt x903 (IntKind.i64.wrap ((x903.length : Int) - 1))).step + 1) })), x908, x913, x898.length, w901, w902, x903.length, w906, w907, x908.length, w911, w912), hlt1142, ⟨hrun, rfl, hn1582, rfl⟩, e.sub ⟨rfl, trivial⟩, hs⟩
                      · · refine At.condF rfl (bn h1581) ?_
                          refine At.seq ?_
                          refine At.region ?_
                          refine At.run 3 rfl ?_
                          refine At.y (Y.load rfl rfl (.s .z) rfl rfl rfl) rfl rfl rfl ?_
                          refine At.run 1 rfl ?_
                          obtain ⟨h1583, hrun⟩ := bnone hrun
                          refine At.y (Y.ix (.s (.s (.s (.s (.s .z))))) rfl rfl rfl rfl rfl rfl h1583.1 h1583.2) rfl rfl rfl ?_
                          refine At.y (Y.ld (.s (.s (.s (.s (.s .z))))) (q := 0) rfl rfl h1583.1 h1583.2 rfl rfl rfl) rfl rfl rfl ?_
                          refine At.run 2 rfl ?_
                          refine At.nil ?_
                          refine At.thn ?_
                          rcases bite hrun with ⟨h1584, hrun⟩ | ⟨h1584, hrun⟩
                          · · refine At.condT rfl (decide_eq_true h1584) ?_
                              refine At.region ?_
                              refine At.run 2 rfl ?_
                              refine At.rowLen (.s (.s (.s (.s (.s .z))))) fun hn1585 => ?_
                              refine At.rowLen (.s (.s (.s (.s (.s (.s .z)))))) fun hn1586 => ?_
                              refine At.rowLen (.s (.s (.s (.s (.s (.s (.s .z))))))) fun hn1587 => ?_
                              refine At.rowLen .z fun hn1588 => ?_
                              refine At.frt (.s (.s (.s (.s (.s (.s (.s (.s (.s (.s .z)))))))))) ?_
                              refine At.frt (.s (.s (.s (.s (.s (.s (.s (.s (.s (.s .z)))))))))) ?_
                              refine At.frt (.s (.s .z)) ?_
                              refine At.frt (.s (.s (.s (.s (.s (.s (.s (.s (.s (.s .z)))))))))) ?_
                              refine At.frt (.s (.s (.s (.s (.s (.s (.s (.s (.s (.s .z)))))))))) ?_
                              refine At.frt (.s (.s (.s (.s (.s (.s (.s (.s (.s (.s .z)))))))))) ?_
                              refine At.frt (.s (.s (.s (.s (.s (.s (.s (.s (.s (.s .z)))))))))) ?_
                              refine At.frt (.s (.s (.s (.s (.s (.s (.s (.s (.s (.s .z)))))))))) ?_
                              refine At.frt (.s (.s (.s (.s (.s (.s (.s (.s (.s (.s .z)))))))))) ?_
                              refine At.frt (.s (.s (.s (.s (.s (.s (.s (.s (.s (.s .z)))))))))) ?_
                              refine At.frt (.s (.s (.s (.s (.s (.s (.s (.s (.s (.s .z)))))))))) ?_
                              obtain ⟨t1589, hc1590, hrun⟩ := bbind hrun
                              refine At.call rfl cycles_walk_meet_v2.callee rfl rfl rfl (cycles_walk_meet_v2.spec _ _ b0 A0_0 a0_0.length c0_0 b0_1_c0 b0_1_c0_0_c0 A0_1_c0_0_c0_0 a0_1_c0_0_c0_0.length c0_1_c0_0_c0_0 b0_1_c1 A0_2 a0_2.length c0_2 A0_3 a0_3.length c0_3 A0_4 a0_4.length c0_4 w901 x898.length w902 w906 x903.length w907 b0_8_c0 w911 x908.length w912 a0_0 a0_1_c0_0_c0_0 a0_1_c1_0 x895 x896 x897 x898 (st x903 (IntKind.i64.wrap ((x903.length : Int) - 1)) ({ gt x903 (IntKind.i64.wrap ((x903.length : Int) - 1)) with step := IntKind.i64.wrap ((gt x903 (IntKind.i64.wrap ((x903.length : Int) - 1))).step + 1) })) x913 x908 (gt (gt a0_0 ((gt x903 (IntKind.i64.wrap ((x903.length : Int) - 1))).node)) ((gt x903 (IntKind.i64.wrap ((x903.length : Int) - 1))).step)) hr0_0 rfl hc0_0 hr0_1_c0_0_c0_0 rfl hc0_1_c0_0_c0_0 hn1585 hn1586 hn1587 rfl hn1588 rfl hc1590) ?_
                              rintro _ _ ⟨w1591, w1592, w1593, w1594, rfl, rfl⟩
                              refine At.nil ?_
                              refine At.ibn ?_
                              refine At.ibn ?_
                              refine At.rowLen (.s (.s (.s (.s (.s (.s (.s .z))))))) fun hn1595 => ?_
                              refine At.rowLen (.s (.s (.s (.s (.s (.s (.s (.s .z)))))))) fun hn1596 => ?_
                              have hrun := bnx hf_ hrun
                              exact fun a w e hs => ⟨m1140, (t1589.2.2.2.2.1, t1589.2.2.2.1, t1589.2.2.1, t1589.2.1, t1589.1, x908, t1589.2.2.2.2.2, (x898 ++ ([(gt (gt a0_0 ((gt x903 (IntKind.i64.wrap ((x903.length : Int) - 1))).node)) ((gt x903 (IntKind.i64.wrap ((x903.length : Int) - 1))).step))] : List Int)).length, w1593, w1594, ((st x903 (IntKind.i64.wrap ((x903.length : Int) - 1)) ({ gt x903 (IntKind.i64.wrap ((x903.length : Int) - 1)) with step := IntKind.i64.wrap ((gt x903 (IntKind.i64.wrap ((x903.length : Int) - 1))).step + 1) })) ++ ([(⟨(gt (gt a0_0 ((gt x903 (IntKind.i64.wrap ((x903.length : Int) - 1))).node)) ((gt x903 (IntKind.i64.wrap ((x903.length : Int) - 1))).step)), 0⟩ : cycles_stand)] : List cycles_stand)).length, w1591, w1592, x908.length, w911, w912), hlt1142, ⟨hrun, hn1595, hn1596, rfl⟩, e.sub ⟨rfl, trivial⟩, hs⟩
                          · · refine At.condF rfl (decide_eq_false h1584) ?_
                              refine At.seq ?_
                              refine At.region ?_
                              refine At.run 3 rfl ?_
                              refine At.y (Y.load rfl rfl (.s .z) rfl rfl rfl) rfl rfl rfl ?_
                              refine At.run 1 rfl ?_
                              obtain ⟨h1597, hrun⟩ := bnone hrun
                              refine At.y (Y.ix (.s (.s (.s (.s (.s (.s (.s .z))))))) rfl rfl rfl rfl rfl rfl h1597.1 h1597.2) rfl rfl rfl ?_
                              refine At.y (Y.ld (.s (.s (.s (.s (.s (.s (.s .z))))))) (q := 0) rfl rfl h1597.1 h1597.2 rfl rfl rfl) rfl rfl rfl ?_
                              refine At.run 1 rfl ?_
                              refine At.nil ?_
                              refine At.thn ?_
                              rcases bite hrun with ⟨h1598, hrun⟩ | ⟨h1598, hrun⟩
                              · · refine At.condT rfl h1598 ?_
                                  refine At.still 27 (by kernel_rfl) ?_
                                  refine At.Still.run 3 rfl ?_
                                  refine At.Still.y (Y.load rfl rfl (.s .z) rfl rfl rfl) rfl rfl rfl ?_
                                  refine At.Still.run 1 rfl ?_
                                  refine At.Still.y (Y.ncOwn .z h1145.1 h1145.2 rfl) rfl rfl rfl ?_
                                  refine At.Still.y (Y.faOwn .z h1145.1 h1145.2 rfl rfl rfl rfl rfl rfl) rfl rfl rfl ?_
                                  refine At.Still.y (Y.ld .z (q := 0) rfl rfl h1145.1 h1145.2 rfl rfl rfl) rfl rfl rfl ?_
                                  refine At.Still.run 3 rfl ?_
                                  refine At.Still.y (Y.load rfl rfl (.s .z) rfl rfl rfl) rfl rfl rfl ?_
                                  refine At.Still.run 1 rfl ?_
                                  refine At.Still.y (Y.ncOwn .z h1145.1 h1145.2 rfl) rfl rfl rfl ?_
                                  refine At.Still.y (Y.faOwn .z h1145.1 h1145.2 rfl rfl rfl rfl rfl rfl) rfl rfl rfl ?_
                                  refine At.Still.y (Y.ld .z (q := 0) rfl rfl h1145.1 h1145.2 rfl rfl rfl) rfl rfl rfl ?_
                                  obtain ⟨h1599, hrun⟩ := bnone hrun
                                  refine At.Still.y (Y.ix (.s (.s (.s (.s (.s (.s .z)))))) rfl rfl rfl rfl rfl rfl h1599.1 h1599.2) rfl rfl rfl ?_
                                  refine At.Still.y (Y.ld (.s (.s (.s (.s (.s (.s .z)))))) (q := 0) rfl rfl h1599.1 h1599.2 rfl rfl rfl) rfl rfl rfl ?_
                                  refine At.Still.run 3 rfl ?_
                                  refine At.Still.y (Y.load rfl rfl (.s .z) rfl rfl rfl) rfl rfl rfl ?_
                                  refine At.Still.run 1 rfl ?_
                                  refine At.Still.y (Y.ix (.s (.s (.s (.s (.s .z))))) rfl rfl rfl rfl rfl rfl h1583.1 h1583.2) rfl rfl rfl ?_
                                  refine At.Still.y (Y.ld (.s (.s (.s (.s (.s .z))))) (q := 0) rfl rfl h1583.1 h1583.2 rfl rfl rfl) rfl rfl rfl ?_
                                  refine At.Still.run 1 rfl ?_
                                  refine At.Still.y (Y.ix (.s (.s (.s (.s (.s (.s .z)))))) rfl rfl rfl rfl rfl rfl h1599.1 h1599.2) rfl rfl rfl ?_
                                  refine At.Still.nil ?_
                                  refine At.st rfl (.s (.s (.s (.s (.s (.s .z)))))) (q := 0) (z := (if gt x895 (gt (gt a0_0 ((gt x903 (IntKind.i64.wrap ((x903.length : Int) - 1))).node)) ((gt x903 (IntKind.i64.wrap ((x903.length : Int) - 1))).step)) < gt x896 ((gt (st x903 (IntKind.i64.wrap ((x903.length : Int) - 1)) ({ gt x903 (IntKind.i64.wrap ((x903.length : Int) - 1)) with step := IntKind.i64.wrap ((gt x903 (IntKind.i64.wrap ((x903.length : Int) - 1))).step + 1) })) (IntKind.i64.wrap ((x903.length : Int) - 1))).node) then gt x895 (gt (gt a0_0 ((gt x903 (IntKind.i64.wrap ((x903.length : Int) - 1))).node)) ((gt x903 (IntKind.i64.wrap ((x903.length : Int) - 1))).step)) else gt x896 ((gt (st x903 (IntKind.i64.wrap ((x903.length : Int) - 1)) ({ gt x903 (IntKind.i64.wrap ((x903.length : Int) - 1)) with step := IntKind.i64.wrap ((gt x903 (IntKind.i64.wrap ((x903.length : Int) - 1))).step + 1) })) (IntKind.i64.wrap ((x903.length : Int) - 1))).node))) rfl rfl rfl h1599.1 h1599.2 rfl rfl (.c .n) ?_
                                  refine At.nil ?_
                                  refine At.ibn ?_
                                  refine At.ibn ?_
                                  refine At.rowLen (.s .z) fun hn1600 => ?_
                                  refine At.frt (.s (.s (.s (.s (.s (.s (.s (.s (.s (.s .z)))))))))) ?_
                                  refine At.frt (.s (.s (.s (.s (.s (.s (.s (.s (.s (.s .z)))))))))) ?_
                                  refine At.frt (.s (.s (.s .z))) ?_
                                  refine At.frt (.s (.s (.s (.s (.s (.s (.s (.s (.s (.s .z)))))))))) ?_
                                  refine At.frt (.s (.s (.s (.s (.s (.s (.s (.s (.s (.s .z)))))))))) ?_
                                  refine At.frt (.s (.s (.s (.s (.s .z))))) ?_
                                  refine At.frt (.s (.s (.s (.s (.s (.s (.s (.s (.s (.s .z)))))))))) ?_
                                  refine At.frt (.s (.s (.s (.s (.s (.s (.s (.s (.s (.s .z)))))))))) ?_
                                  refine At.frt (.s (.s (.s (.s (.s (.s (.s (.s (.s (.s .z)))))))))) ?_
                                  refine At.frt (.s (.s (.s (.s (.s (.s (.s (.s (.s (.s .z)))))))))) ?_
                                  refine At.frt (.s (.s (.s (.s (.s (.s (.s (.s (.s (.s .z)))))))))) ?_
                                  have hrun := bnx hf_ hrun
                                  exact fun a w e hs => ⟨m1140, (x895, (st x896 ((gt (st x903 (IntKind.i64.wrap ((x903.length : Int) - 1)) ({ gt x903 (IntKind.i64.wrap ((x903.length : Int) - 1)) with step := IntKind.i64.wrap ((gt x903 (IntKind.i64.wrap ((x903.length : Int) - 1))).step + 1) })) (IntKind.i64.wrap ((x903.length : Int) - 1))).node) (if gt x895 (gt (gt a0_0 ((gt x903 (IntKind.i64.wrap ((x903.length : Int) - 1))).node)) ((gt x903 (IntKind.i64.wrap ((x903.length : Int) - 1))).step)) < gt x896 ((gt (st x903 (IntKind.i64.wrap ((x903.length : Int) - 1)) ({ gt x903 (IntKind.i64.wrap ((x903.length : Int) - 1)) with step := IntKind.i64.wrap ((gt x903 (IntKind.i64.wrap ((x903.length : Int) - 1))).step + 1) })) (IntKind.i64.wrap ((x903.length : Int) - 1))).node) then gt x895 (gt (gt a0_0 ((gt x903 (IntKind.i64.wrap ((x903.length : Int) - 1))).node)) ((gt x903 (IntKind.i64.wrap ((x903.length : Int) - 1))).step)) else gt x896 ((gt (st x903 (IntKind.i64.wrap ((x903.length : Int) - 1)) ({ gt x903 (IntKind.i64.wrap ((x903.length : Int) - 1)) with step := IntKind.i64.wrap ((gt x903 (IntKind.i64.wrap ((x903.length : Int) - 1))).step + 1) })) (IntKind.i64.wrap ((x903.length : Int) - 1))).node))), x897, x898, (st x903 (IntKind.i64.wrap ((x903.length : Int) - 1)) ({ gt x903 (IntKind.i64.wrap ((x903.length : Int) - 1)) with step := IntKind.i64.wrap ((gt x903 (IntKind.i64.wrap ((x903.length : Int) - 1))).step + 1) })), x908, x913, x898.length, w901, w902, x903.length, w906, w907, x908.length, w911, w912), hlt1142, ⟨hrun, rfl, hn1600, rfl⟩, e.sub ⟨rfl, trivial⟩, hs⟩
                              · · refine At.condF rfl (bn h1598) ?_
                                  refine At.skip ?_
                                  refine At.ibn ?_
                                  refine At.ibn ?_
                                  refine At.rowLen .z fun hn1601 => ?_
                                  refine At.frt (.s (.s (.s (.s (.s (.s (.s (.s (.s (.s .z)))))))))) ?_
                                  refine At.frt (.s (.s (.s (.s (.s (.s (.s (.s (.s (.s .z)))))))))) ?_
                                  refine At.frt (.s (.s .z)) ?_
                                  refine At.frt (.s (.s (.s (.s (.s (.s (.s (.s (.s (.s .z)))))))))) ?_
                                  refine At.frt (.s (.s (.s (.s (.s (.s (.s (.s (.s (.s .z)))))))))) ?_
                                  refine At.frt (.s (.s (.s (.s (.s (.s (.s (.s (.s (.s .z)))))))))) ?_
                                  refine At.frt (.s (.s (.s (.s (.s (.s (.s (.s (.s (.s .z)))))))))) ?_
                                  refine At.frt (.s (.s (.s (.s (.s (.s (.s (.s (.s (.s .z)))))))))) ?_
                                  refine At.frt (.s (.s (.s (.s (.s (.s (.s (.s (.s (.s .z)))))))))) ?_
                                  refine At.frt (.s (.s (.s (.s (.s (.s (.s (.s (.s (.s .z)))))))))) ?_
                                  refine At.frt (.s (.s (.s (.s (.s (.s (.s (.s (.s (.s .z)))))))))) ?_
                                  have hrun := bnx hf_ hrun
                                  exact fun a w e hs => ⟨m1140, (x895, x896, x897, x898, (st x903 (IntKind.i64.wrap ((x903.length : Int) - 1)) ({ gt x903 (IntKind.i64.wrap ((x903.length : Int) - 1)) with step := IntKind.i64.wrap ((gt x903 (IntKind.i64.wrap ((x903.length : Int) - 1))).step + 1) })), x908, x913, x898.length, w901, w902, x903.length, w906, w907, x908.length, w911, w912), hlt1142, ⟨hrun, rfl, hn1601, rfl⟩, e.sub ⟨rfl, trivial⟩, hs⟩
                  · · rcases bite hrun with ⟨h1602, hrun⟩ | ⟨h1602, hrun⟩
                      · · refine At.know (t := 83) rfl h1602 ?_
                          refine At.run 8 rfl ?_
                          exact At.of (J1580 true hrun) ⟨rfl, rfl, rfl, rfl, trivial⟩
                      · · refine At.know (t := 83) rfl (bn h1602) ?_
                          refine At.run 3 rfl ?_
                          refine At.y (Y.load rfl rfl (.s .z) rfl rfl rfl) rfl rfl rfl ?_
                          refine At.run 1 rfl ?_
                          refine At.frt (.s (.s (.s (.s .z)))) ?_
                          refine At.frt (.s (.s (.s (.s .z)))) ?_
                          refine At.frt (.s (.s (.s (.s .z)))) ?_
                          obtain ⟨t1603, hc1604, hrun⟩ := bbind hrun
                          refine At.call rfl cycles_Bad_2.callee rfl rfl rfl (cycles_Bad_2.spec _ _ b0_1_c0 b0_1_c0_0_c0 A0_1_c0_0_c0_0 a0_1_c0_0_c0_0.length c0_1_c0_0_c0_0 b0_1_c1 (gt (gt a0_0 ((gt x903 (IntKind.i64.wrap ((x903.length : Int) - 1))).node)) ((gt x903 (IntKind.i64.wrap ((x903.length : Int) - 1))).step)) a0_1_c0_0_c0_0 a0_1_c1_0 hr0_1_c0_0_c0_0 rfl hc0_1_c0_0_c0_0 hc1604) ?_
                          rintro _ _ ⟨rfl, rfl⟩
                          refine At.run 2 rfl ?_
                          refine At.frt (.s (.s (.s (.s (.s (.s (.s (.s (.s (.s .z)))))))))) ?_
                          refine At.frt (.s (.s (.s (.s (.s (.s (.s (.s (.s (.s .z)))))))))) ?_
                          refine At.frt (.s (.s (.s (.s (.s (.s (.s (.s (.s (.s .z)))))))))) ?_
                          refine At.frt (.s (.s (.s (.s (.s (.s (.s (.s (.s (.s .z)))))))))) ?_
                          refine At.frt (.s (.s (.s (.s (.s (.s (.s (.s (.s (.s .z)))))))))) ?_
                          refine At.frt (.s (.s (.s (.s (.s (.s (.s (.s (.s (.s .z)))))))))) ?_
                          refine At.frt (.s (.s (.s (.s (.s (.s (.s (.s .z)))))))) ?_
                          refine At.frt (.s (.s (.s (.s (.s (.s (.s (.s .z)))))))) ?_
                          refine At.frt (.s (.s (.s (.s (.s (.s (.s (.s .z)))))))) ?_
                          refine At.frt (.s (.s (.s (.s (.s (.s (.s (.s (.s (.s .z)))))))))) ?_
                          refine At.frt (.s (.s (.s (.s (.s (.s (.s (.s (.s (.s .z)))))))))) ?_
                          exact At.of (J1580 (!t1603) hrun) ⟨rfl, rfl, rfl, rfl, trivial⟩
              · · rcases bite hrun with ⟨h1605, hrun⟩ | ⟨h1605, hrun⟩
                  · · refine At.know (t := 74) rfl (decide_eq_true h1605) ?_
                      refine At.run 8 rfl ?_
                      exact At.of (J1375 true hrun) ⟨rfl, rfl, rfl, rfl, trivial⟩
                  · · refine At.know (t := 74) rfl (decide_eq_false h1605) ?_
                      refine At.run 4 rfl ?_
                      refine At.y (Y.load rfl rfl (.s .z) rfl rfl rfl) rfl rfl rfl ?_
                      refine At.run 3 rfl ?_
                      exact At.of (J1375 (decide ((a0_0.length : Int) ≤ gt (gt a0_0 ((gt x903 (IntKind.i64.wrap ((x903.length : Int) - 1))).node)) ((gt x903 (IntKind.i64.wrap ((x903.length : Int) - 1))).step))) hrun) ⟨rfl, rfl, rfl, rfl, trivial⟩
      · · refine At.condF rfl (decide_eq_false h1144) ?_
          refine At.exit ?_
          refine At.the ?_
          refine At.the ?_
          exact fun a w e hs => J1143 (x895, x896, x897, x898, x903, x908, x913, x898.length, w901, w902, x903.length, w906, w907, x908.length, w911, w912) ⟨(bdn hrun ho1138), rfl, rfl, rfl⟩ a w (e.sub trivial) hs

noncomputable def cycles_parts_v2.l0b (a0 : List (List Int)) (a1_c0_0_c0_0 : List Int) (a1_c1_0 : Int) (x1119 : List cycles_stand) (x1124 : List Int) (x1129 : List (List Int)) (x1134 : List Bool) (x1135 : List Int) (x1136 : List Int) (x1137 : Int) (x1138 : Int) : Option (((List cycles_stand) × (List Int) × (List (List Int)) × (List Bool) × (List Int) × (List Int) × Int × Int) ⊕ (((List cycles_stand) × (List Int) × (List (List Int)) × (List Bool) × (List Int) × (List Int) × Int) ⊕ ((List (List Int))))) :=
  if x1138 < (a0.length : Int) then
    jn (
      if (0 : Int) ≤ x1138 ∧ x1138 < ((List.replicate (a0.length : Int).toNat (0 : Int)).length : Int) then
        jn (
          if gt x1136 x1138 = 0 then
            (cycles_Bad_2.f x1138 a1_c0_0_c0_0 a1_c1_0).bind fun t1821 =>
              some (.inl t1821)
          else
            some (.inl false)) (fun (x1797 : Bool) =>
          if x1797 = true then
            (cycles_walk_from_v2.f a0 a1_c0_0_c0_0 a1_c1_0 x1136 x1135 x1134 x1124 x1119 x1137 x1129 x1138).bind fun t1806 =>
              some (.inl (t1806.1, t1806.2.1, t1806.2.2.1, t1806.2.2.2.1, t1806.2.2.2.2.1, t1806.2.2.2.2.2.1, t1806.2.2.2.2.2.2))
          else
            some (.inl (x1136, x1135, x1134, x1124, x1119, x1129, x1137)))
      else none) (fun (s_ : (List Int) × (List Int) × (List Bool) × (List Int) × (List cycles_stand) × (List (List Int)) × Int) =>
      nx (s_.2.2.2.2.1, s_.2.2.2.1, s_.2.2.2.2.2.1, s_.2.2.1, s_.2.1, s_.1, s_.2.2.2.2.2.2, IntKind.i64.wrap (x1138 + 1)))
  else
    dn (.inl (x1119, x1124, x1129, x1134, x1135, x1136, x1137))
noncomputable def cycles_parts_v2.l0 (a0 : List (List Int)) (a1_c0_0_c0_0 : List Int) (a1_c1_0 : Int) (x1119 : List cycles_stand) (x1124 : List Int) (x1129 : List (List Int)) (x1134 : List Bool) (x1135 : List Int) (x1136 : List Int) (x1137 : Int) (x1138 : Int) : Option (((List cycles_stand) × (List Int) × (List (List Int)) × (List Bool) × (List Int) × (List Int) × Int) ⊕ ((List (List Int)))) := iter (fun t_ : (List cycles_stand) × (List Int) × (List (List Int)) × (List Bool) × (List Int) × (List Int) × Int × Int => cycles_parts_v2.l0b a0 a1_c0_0_c0_0 a1_c1_0 t_.1 t_.2.1 t_.2.2.1 t_.2.2.2.1 t_.2.2.2.2.1 t_.2.2.2.2.2.1 t_.2.2.2.2.2.2.1 t_.2.2.2.2.2.2.2) (x1119, x1124, x1129, x1134, x1135, x1136, x1137, x1138)
noncomputable def cycles_parts_v2.f (a0 : List (List Int)) (a1_c0_0_c0_0 : List Int) (a1_c1_0 : Int) : Option (List (List Int)) :=
  if (0 : Int) ≤ (a0.length : Int) ∧ (8 : Int) * (a0.length : Int) ≤ 281474976710656 then
    if (0 : Int) ≤ (a0.length : Int) ∧ (1 : Int) * (a0.length : Int) ≤ 281474976710656 then
      jn (cycles_parts_v2.l0 a0 a1_c0_0_c0_0 a1_c1_0 ([] : List cycles_stand) ([] : List Int) ([] : List (List Int)) (List.replicate (a0.length : Int).toNat (false : Bool)) (List.replicate (a0.length : Int).toNat (0 : Int)) (List.replicate (a0.length : Int).toNat (0 : Int)) 0 0) (fun (s_ : (List cycles_stand) × (List Int) × (List (List Int)) × (List Bool) × (List Int) × (List Int) × Int) =>
    (slices_SortFunc_int_int.f s_.2.2.1).bind fun t1369 =>
      some t1369)
    else none
  else none
theorem cycles_parts_v2.callee : Callee Go.Proofs.Try.prog 36 := ⟨_, Go.Proofs.Try.func36, by kernel_rfl, by kernel_rfl⟩
set_option maxRecDepth 100000 in
set_option maxHeartbeats 2000000 in
theorem cycles_parts_v2.spec (R : Res) (Fr : List HProp) (A0 : Option Addr) (n0 : Nat) (c0 : Nat) (b1_c0 : Nat) (b1_c0_0_c0 : Nat) (A1_c0_0_c0_0 : Option Addr) (n1_c0_0_c0_0 : Nat) (c1_c0_0_c0_0 : Nat) (b1_c1 : Nat) (a0 : List (List Int)) (a1_c0_0_c0_0 : List Int) (a1_c1_0 : Int) (hr0 : RdS ((Fl.int .i64).rep).slice R.heap A0 a0) (hn0 : a0.length = n0) (hc0 : n0 ≤ c0) (hr1_c0_0_c0_0 : RdS (Fl.int .i64).rep R.heap A1_c0_0_c0_0 a1_c0_0_c0_0) (hn1_c0_0_c0_0 : a1_c0_0_c0_0.length = n1_c0_0_c0_0) (hc1_c0_0_c0_0 : n1_c0_0_c0_0 ≤ c1_c0_0_c0_0) {r : (List (List Int))} (hrun : cycles_parts_v2.f a0 a1_c0_0_c0_0 a1_c1_0 = some r) :
    Spec Go.Proofs.Try.prog 36 [.slice A0 n0 c0, .func (.func 40) #[] #[.pointer (some ⟨b1_c0, 0, none⟩), .pointer (some ⟨b1_c1, 0, none⟩)]] R (pt b1_c0 (.cells [.func (.func 38) #[] #[.pointer (some ⟨b1_c0_0_c0, 0, none⟩)]].toArray 62) :: pt b1_c0_0_c0 (.cells [.slice A1_c0_0_c0_0 n1_c0_0_c0_0 c1_c0_0_c0_0].toArray 26) :: pt b1_c1 (.cells [.int .i64 a1_c1_0].toArray 3) :: Fr) (fun v l' => ∃ (w252 : Nat) (w254 : Option Addr) (w255 : Nat), v = .slice w254 w252 w255 ∧ rows (Fl.int .i64) 3 26 w254 w252 w255 r :: pt b1_c0 (.cells [.func (.func 38) #[] #[.pointer (some ⟨b1_c0_0_c0, 0, none⟩)]].toArray 62) :: pt b1_c0_0_c0 (.cells [.slice A1_c0_0_c0_0 n1_c0_0_c0_0 c1_c0_0_c0_0].toArray 26) :: pt b1_c1 (.cells [.int .i64 a1_c1_0].toArray 3) :: Fr = l' ∧ r.length = w252) := by
  subst hn0
  subst hn1_c0_0_c0_0
  refine Spec.of Go.Proofs.Try.func36 rfl rfl ?_
  unfold cycles_parts_v2.f at hrun
  have hrun := brun hrun
  refine At.seq ?_
  refine At.region ?_
  refine At.run 1 rfl ?_
  refine At.nil ?_
  refine At.thn ?_
  refine At.seq ?_
  refine At.region ?_
  refine At.alloc rfl rfl rfl (fun b278 => ?_)
  refine At.nil ?_
  refine At.thn ?_
  refine At.seq ?_
  refine At.held [pt b278 (.cells [.slice none 0 0].toArray 22), pt b1_c0 (.cells [.func (.func 38) #[] #[.pointer (some ⟨b1_c0_0_c0, 0, none⟩)]].toArray 62), pt b1_c0_0_c0 (.cells [.slice A1_c0_0_c0_0 a1_c0_0_c0_0.length c1_c0_0_c0_0].toArray 26), pt b1_c1 (.cells [.int .i64 a1_c1_0].toArray 3)] 14 rfl ?_
  refine At.H.pv 0 rfl (by kernel_rfl) (by kernel_rfl) (by kernel_rfl) rfl rfl rfl rfl (.c .z (.c .z (.c .z (.c .z .n)))) ?_
  refine At.H.pv 1 rfl (by kernel_rfl) (by kernel_rfl) (by kernel_rfl) rfl rfl rfl rfl (.c .z (.c .z (.c .z (.c .z .n)))) ?_
  refine At.H.pv 2 rfl (by kernel_rfl) (by kernel_rfl) (by kernel_rfl) rfl rfl rfl rfl (.c .z (.c .z (.c .z (.c .z .n)))) ?_
  refine At.H.pv 3 rfl (by kernel_rfl) (by kernel_rfl) (by kernel_rfl) rfl rfl rfl rfl (.c .z (.c .z (.c .z (.c .z .n)))) ?_
  refine At.H.pv 5 rfl (by kernel_rfl) (by kernel_rfl) (by kernel_rfl) rfl rfl rfl rfl (.c .z (.c .z (.c .z (.c .z .n)))) ?_
  refine At.H.pv 6 rfl (by kernel_rfl) (by kernel_rfl) (by kernel_rfl) rfl rfl rfl rfl (.c .z (.c .z (.c .z (.c .z .n)))) ?_
  refine At.H.pv 8 rfl (by kernel_rfl) (by kernel_rfl) (by kernel_rfl) rfl rfl rfl rfl (.c .z (.c .z (.c .z (.c .z .n)))) ?_
  refine At.H.pv 9 rfl (by kernel_rfl) (by kernel_rfl) (by kernel_rfl) rfl rfl rfl rfl (.c .z (.c .z (.c .z (.c .z .n)))) ?_
  obtain ⟨h487, hrun⟩ := bnone hrun
  obtain ⟨h488, hrun⟩ := bnone hrun
  refine At.H.joinK (X := Nat × (Option Addr) × Nat × (Option Addr) × Nat × (Option Addr) × Nat) (fun s_ => [(0, .slice A0 a0.length c0), (1, .func (.func 40) #[] #[.pointer (some ⟨b1_c0, 0, none⟩), .pointer (some ⟨b1_c1, 0, none⟩)]), (5, .pointer (some ⟨b278, 0, none⟩)), (6, .pointer (some ⟨s_.1, 0, none⟩))]) (fun s_ => pt s_.1 (.cells [.slice A0 a0.length c0, .func (.func 40) #[] #[.pointer (some ⟨b1_c0, 0, none⟩), .pointer (some ⟨b1_c1, 0, none⟩)], .slice s_.2.2.2.2.2.1 ((List.replicate (a0.length : Int).toNat (0 : Int)).length) s_.2.2.2.2.2.2, .slice s_.2.2.2.1 ((List.replicate (a0.length : Int).toNat (0 : Int)).length) s_.2.2.2.2.1, .slice s_.2.1 ((List.replicate (a0.length : Int).toNat (false : Bool)).length) s_.2.2.1, .slice none 0 0, .slice none 0 0, .int .i64 0, .nilFunc].toArray 86) :: row Fl.bool 4 s_.2.1 ((List.replicate (a0.length : Int).toNat (false : Bool)).length) s_.2.2.1 (List.replicate (a0.length : Int).toNat (false : Bool)) :: row (Fl.int .i64) 3 s_.2.2.2.1 ((List.replicate (a0.length : Int).toNat (0 : Int)).length) s_.2.2.2.2.1 (List.replicate (a0.length : Int).toNat (0 : Int)) :: row (Fl.int .i64) 3 s_.2.2.2.2.2.1 ((List.replicate (a0.length : Int).toNat (0 : Int)).length) s_.2.2.2.2.2.2 (List.replicate (a0.length : Int).toNat (0 : Int)) :: pt b278 (.cells [.slice none 0 0].toArray 22) :: pt b1_c0 (.cells [.func (.func 38) #[] #[.pointer (some ⟨b1_c0_0_c0, 0, none⟩)]].toArray 62) :: pt b1_c0_0_c0 (.cells [.slice A1_c0_0_c0_0 a1_c0_0_c0_0.length c1_c0_0_c0_0].toArray 26) :: pt b1_c1 (.cells [.int .i64 a1_c1_0].toArray 3) :: Fr) (fun s_ => True) ?_ (fun J486 => ?_)
  · rintro ⟨w479, w480, w481, w482, w483, w484, w485⟩ -
    · refine At.thn ?_
      refine At.seq ?_
      refine At.region ?_
      refine At.run 4 rfl ?_
      refine At.store rfl rfl rfl rfl .z rfl rfl rfl (.s (.s (.s (.s (.s (.s (.s (.s (.c .n))))))))) ?_
      refine At.nil ?_
      refine At.thn ?_
      refine At.seq ?_
      refine At.seq ?_
      refine At.region ?_
      refine At.run 3 rfl ?_
      refine At.nil ?_
      refine At.thn ?_
      refine At.block ?_
      obtain ⟨G1358, hl1359, hr1360, hrun⟩ := bjoin hrun
      obtain ⟨o1361, hlo1362, ho1363⟩ := bsome hrun
      clear hrun
      unfold cycles_parts_v2.l0 at hlo1362
      obtain ⟨m1364, hit1366⟩ := iter_some.1 hlo1362
      clear hlo1362
      refine At.nilRows (Fl.int .i64) 3 26 ?_
      refine At.nilRow (Fl.int .i64) 3 ?_
      refine At.nilRow cycles_stand.fl 99 ?_
      refine At.loopJ (X := (List cycles_stand) × (List Int) × (List (List Int)) × (List Bool) × (List Int) × (List Int) × Int × Int × Nat × (Option Addr) × Nat × Nat × (Option Addr) × Nat × Nat × (Option Addr) × Nat) (Y := (List cycles_stand) × (List Int) × (List (List Int)) × (List Bool) × (List Int) × (List Int) × Int × Nat × (Option Addr) × Nat × Nat × (Option Addr) × Nat × Nat × (Option Addr) × Nat) (e0 := 0) (fun s_ => [(1, .func (.func 40) #[] #[.pointer (some ⟨b1_c0, 0, none⟩), .pointer (some ⟨b1_c1, 0, none⟩)]), (5, .pointer (some ⟨b278, 0, none⟩)), (6, .pointer (some ⟨w479, 0, none⟩)), (26, .int .i64 (a0.length : Int)), (27, .int .i64 s_.2.2.2.2.2.2.2.1)]) (fun s_ => row cycles_stand.fl 99 s_.2.2.2.2.2.2.2.2.2.1 s_.2.2.2.2.2.2.2.2.1 s_.2.2.2.2.2.2.2.2.2.2.1 s_.1 :: row (Fl.int .i64) 3 s_.2.2.2.2.2.2.2.2.2.2.2.2.1 s_.2.2.2.2.2.2.2.2.2.2.2.1 s_.2.2.2.2.2.2.2.2.2.2.2.2.2.1 s_.2.1 :: rows (Fl.int .i64) 3 26 s_.2.2.2.2.2.2.2.2.2.2.2.2.2.2.2.1 s_.2.2.2.2.2.2.2.2.2.2.2.2.2.2.1 s_.2.2.2.2.2.2.2.2.2.2.2.2.2.2.2.2 s_.2.2.1 :: pt w479 (.cells [.slice A0 a0.length c0, .func (.func 40) #[] #[.pointer (some ⟨b1_c0, 0, none⟩), .pointer (some ⟨b1_c1, 0, none⟩)], .slice w484 ((List.replicate (a0.length : Int).toNat (0 : Int)).length) w485, .slice w482 ((List.replicate (a0.length : Int).toNat (0 : Int)).length) w483, .slice w480 ((List.replicate (a0.length : Int).toNat (false : Bool)).length) w481, .slice s_.2.2.2.2.2.2.2.2.2.2.2.2.1 s_.2.2.2.2.2.2.2.2.2.2.2.1 s_.2.2.2.2.2.2.2.2.2.2.2.2.2.1, .slice s_.2.2.2.2.2.2.2.2.2.1 s_.2.2.2.2.2.2.2.2.1 s_.2.2.2.2.2.2.2.2.2.2.1, .int .i64 s_.2.2.2.2.2.2.1, .func (.func 55) #[] #[.pointer (some ⟨b278, 0, none⟩)]].toArray 86) :: row Fl.bool 4 w480 ((List.replicate (a0.length : Int).toNat (false : Bool)).length) w481 s_.2.2.2.1 :: row (Fl.int .i64) 3 w482 ((List.replicate (a0.length : Int).toNat (0 : Int)).length) w483 s_.2.2.2.2.1 :: row (Fl.int .i64) 3 w484 ((List.replicate (a0.length : Int).toNat (0 : Int)).length) w485 s_.2.2.2.2.2.1 :: pt b278 (.cells [.slice s_.2.2.2.2.2.2.2.2.2.2.2.2.2.2.2.1 s_.2.2.2.2.2.2.2.2.2.2.2.2.2.2.1 s_.2.2.2.2.2.2.2.2.2.2.2.2.2.2.2.2].toArray 22) :: pt b1_c0 (.cells [.func (.func 38) #[] #[.pointer (some ⟨b1_c0_0_c0, 0, none⟩)]].toArray 62) :: pt b1_c0_0_c0 (.cells [.slice A1_c0_0_c0_0 a1_c0_0_c0_0.length c1_c0_0_c0_0].toArray 26) :: pt b1_c1 (.cells [.int .i64 a1_c1_0].toArray 3) :: Fr) (fun m_ => fun s_ => iterN (fun t_ : (List cycles_stand) × (List Int) × (List (List Int)) × (List Bool) × (List Int) × (List Int) × Int × Int => cycles_parts_v2.l0b a0 a1_c0_0_c0_0 a1_c1_0 t_.1 t_.2.1 t_.2.2.1 t_.2.2.2.1 t_.2.2.2.2.1 t_.2.2.2.2.2.1 t_.2.2.2.2.2.2.1 t_.2.2.2.2.2.2.2) m_ (s_.1, s_.2.1, s_.2.2.1, s_.2.2.2.1, s_.2.2.2.2.1, s_.2.2.2.2.2.1, s_.2.2.2.2.2.2.1, s_.2.2.2.2.2.2.2.1) = some o1361 ∧ s_.1.length = s_.2.2.2.2.2.2.2.2.1 ∧ s_.2.1.length = s_.2.2.2.2.2.2.2.2.2.2.2.1 ∧ s_.2.2.1.length = s_.2.2.2.2.2.2.2.2.2.2.2.2.2.2.1) m1364 (([] : List cycles_stand), ([] : List Int), ([] : List (List Int)), (List.replicate (a0.length : Int).toNat (false : Bool)), (List.replicate (a0.length : Int).toNat (0 : Int)), (List.replicate (a0.length : Int).toNat (0 : Int)), 0, 0, 0, none, 0, 0, none, 0, 0, none, 0) ⟨hit1366, rfl, rfl, rfl⟩ (fun s_ => [(5, .pointer (some ⟨b278, 0, none⟩))]) (fun s_ => row cycles_stand.fl 99 s_.2.2.2.2.2.2.2.2.1 s_.2.2.2.2.2.2.2.1 s_.2.2.2.2.2.2.2.2.2.1 s_.1 :: row (Fl.int .i64) 3 s_.2.2.2.2.2.2.2.2.2.2.2.1 s_.2.2.2.2.2.2.2.2.2.2.1 s_.2.2.2.2.2.2.2.2.2.2.2.2.1 s_.2.1 :: rows (Fl.int .i64) 3 26 s_.2.2.2.2.2.2.2.2.2.2.2.2.2.2.1 s_.2.2.2.2.2.2.2.2.2.2.2.2.2.1 s_.2.2.2.2.2.2.2.2.2.2.2.2.2.2.2 s_.2.2.1 :: pt w479 (.cells [.slice A0 a0.length c0, .func (.func 40) #[] #[.pointer (some ⟨b1_c0, 0, none⟩), .pointer (some ⟨b1_c1, 0, none⟩)], .slice w484 ((List.replicate (a0.length : Int).toNat (0 : Int)).length) w485, .slice w482 ((List.replicate (a0.length : Int).toNat (0 : Int)).length) w483, .slice w480 ((List.replicate (a0.length : Int).toNat (false : Bool)).length) w481, .slice s_.2.2.2.2.2.2.2.2.2.2.2.1 s_.2.2.2.2.2.2.2.2.2.2.1 s_.2.2.2.2.2.2.2.2.2.2.2.2.1, .slice s_.2.2.2.2.2.2.2.2.1 s_.2.2.2.2.2.2.2.1 s_.2.2.2.2.2.2.2.2.2.1, .int .i64 s_.2.2.2.2.2.2.1, .func (.func 55) #[] #[.pointer (some ⟨b278, 0, none⟩)]].toArray 86) :: row Fl.bool 4 w480 ((List.replicate (a0.length : Int).toNat (false : Bool)).length) w481 s_.2.2.2.1 :: row (Fl.int .i64) 3 w482 ((List.replicate (a0.length : Int).toNat (0 : Int)).length) w483 s_.2.2.2.2.1 :: row (Fl.int .i64) 3 w484 ((List.replicate (a0.length : Int).toNat (0 : Int)).length) w485 s_.2.2.2.2.2.1 :: pt b278 (.cells [.slice s_.2.2.2.2.2.2.2.2.2.2.2.2.2.2.1 s_.2.2.2.2.2.2.2.2.2.2.2.2.2.1 s_.2.2.2.2.2.2.2.2.2.2.2.2.2.2.2].toArray 22) :: pt b1_c0 (.cells [.func (.func 38) #[] #[.pointer (some ⟨b1_c0_0_c0, 0, none⟩)]].toArray 62) :: pt b1_c0_0_c0 (.cells [.slice A1_c0_0_c0_0 a1_c0_0_c0_0.length c1_c0_0_c0_0].toArray 26) :: pt b1_c1 (.cells [.int .i64 a1_c1_0].toArray 3) :: Fr) (fun s_ => G1358 (.inl (s_.1, s_.2.1, s_.2.2.1, s_.2.2.2.1, s_.2.2.2.2.1, s_.2.2.2.2.2.1, s_.2.2.2.2.2.2.1)) = some r ∧ s_.1.length = s_.2.2.2.2.2.2.2.1 ∧ s_.2.1.length = s_.2.2.2.2.2.2.2.2.2.2.1 ∧ s_.2.2.1.length = s_.2.2.2.2.2.2.2.2.2.2.2.2.2.1) (fun a w e hs => ⟨e.sub ⟨rfl, rfl, rfl, rfl, rfl, trivial⟩, hs⟩) ?_ (fun J1368 => ?_)
      · rintro ⟨x1339, x1344, x1349, x1354, x1355, x1356, x1357, w1340, w1342, w1343, w1345, w1347, w1348, w1350, w1352, w1353⟩ ⟨hrun, hn1341, hn1346, hn1351⟩
        obtain rfl : x1339.length = w1340 := hn1341
        obtain rfl : x1344.length = w1345 := hn1346
        obtain rfl : x1349.length = w1350 := hn1351
        have hrun := (hl1359 _).symm.trans hrun
        · refine At.ibx ?_
          refine At.thn ?_
          refine At.seq ?_
          refine At.region ?_
          refine At.y (Y.load rfl rfl (.s (.s (.s (.s (.s (.s (.s .z))))))) rfl rfl rfl) rfl rfl rfl ?_
          refine At.frt (.s (.s .z)) ?_
          obtain ⟨t1369, hc1370, hrun⟩ := bbind hrun
          refine At.call rfl slices_SortFunc_int_int.callee rfl rfl rfl (slices_SortFunc_int_int.spec _ _ w1352 x1349.length w1353 x1349 rfl hc1370) ?_
          rintro _ _ ⟨rfl, rfl⟩
          refine At.nil ?_
          refine At.thn ?_
          refine At.seq ?_
          refine At.region ?_
          refine At.y (Y.load rfl rfl (.s (.s (.s (.s (.s (.s (.s .z))))))) rfl rfl rfl) rfl rfl rfl ?_
          refine At.run 1 rfl ?_
          refine At.nil ?_
          refine At.thn ?_
          refine At.ret ?_
          refine At.rowsLen .z fun hn1371 _ => ?_
          refine At.drop (.s .z) ?_
          refine At.drop (.s .z) ?_
          refine At.drop (.s .z) ?_
          refine At.drop (.s .z) ?_
          refine At.drop (.s .z) ?_
          refine At.drop (.s .z) ?_
          refine At.drop (.s .z) ?_
          obtain rfl := (bret hrun).symm
          exact At.res (.inl rfl) rfl rfl ⟨x1349.length, w1352, w1353, rfl, rfl, hn1371⟩
      · clear hit1366 m1364
        rintro m1364 ⟨x1119, x1124, x1129, x1134, x1135, x1136, x1137, x1138, w1120, w1122, w1123, w1125, w1127, w1128, w1130, w1132, w1133⟩ ⟨hit1366, hn1121, hn1126, hn1131⟩
        obtain rfl : x1119.length = w1120 := hn1121
        obtain rfl : x1124.length = w1125 := hn1126
        obtain rfl : x1129.length = w1130 := hn1131
        obtain ⟨m1365, f_, hlt1367, hf_, hrun⟩ := bit hit1366
        clear hit1366
        have hrun : (cycles_parts_v2.l0b a0 a1_c0_0_c0_0 a1_c1_0 x1119 x1124 x1129 x1134 x1135 x1136 x1137 x1138).bind _ = some o1361 := hrun
        unfold cycles_parts_v2.l0b at hrun
        · refine At.seq ?_
          refine At.region ?_
          refine At.run 1 rfl ?_
          refine At.nil ?_
          refine At.thn ?_
          refine At.seq ?_
          rcases bite hrun with ⟨h1372, hrun⟩ | ⟨h1372, hrun⟩
          · · refine At.condT rfl (decide_eq_true h1372) ?_
              refine At.skip ?_
              refine At.thn ?_
              refine At.seq ?_
              obtain ⟨G1373, hl1374, hr1375, hrun⟩ := bjoin hrun
              refine At.join (X := (List Int) × (List Int) × (List Bool) × (List Int) × (List cycles_stand) × (List (List Int)) × Int × Nat × (Option Addr) × Nat × Nat × (Option Addr) × Nat × Nat × (Option Addr) × Nat) (fun s_ => [(1, .func (.func 40) #[] #[.pointer (some ⟨b1_c0, 0, none⟩), .pointer (some ⟨b1_c1, 0, none⟩)]), (5, .pointer (some ⟨b278, 0, none⟩)), (6, .pointer (some ⟨w479, 0, none⟩)), (26, .int .i64 (a0.length : Int)), (27, .int .i64 x1138)]) (fun s_ => pt w479 (.cells [.slice A0 a0.length c0, .func (.func 40) #[] #[.pointer (some ⟨b1_c0, 0, none⟩), .pointer (some ⟨b1_c1, 0, none⟩)], .slice w484 ((List.replicate (a0.length : Int).toNat (0 : Int)).length) w485, .slice w482 ((List.replicate (a0.length : Int).toNat (0 : Int)).length) w483, .slice w480 ((List.replicate (a0.length : Int).toNat (false : Bool)).length) w481, .slice s_.2.2.2.2.2.2.2.2.1 s_.2.2.2.2.2.2.2.1 s_.2.2.2.2.2.2.2.2.2.1, .slice s_.2.2.2.2.2.2.2.2.2.2.2.1 s_.2.2.2.2.2.2.2.2.2.2.1 s_.2.2.2.2.2.2.2.2.2.2.2.2.1, .int .i64 s_.2.2.2.2.2.2.1, .func (.func 55) #[] #[.pointer (some ⟨b278, 0, none⟩)]].toArray 86) :: pt b1_c0 (.cells [.func (.func 38) #[] #[.pointer (some ⟨b1_c0_0_c0, 0, none⟩)]].toArray 62) :: pt b1_c0_0_c0 (.cells [.slice A1_c0_0_c0_0 a1_c0_0_c0_0.length c1_c0_0_c0_0].toArray 26) :: pt b1_c1 (.cells [.int .i64 a1_c1_0].toArray 3) :: row (Fl.int .i64) 3 w484 ((List.replicate (a0.length : Int).toNat (0 : Int)).length) w485 s_.1 :: row (Fl.int .i64) 3 w482 ((List.replicate (a0.length : Int).toNat (0 : Int)).length) w483 s_.2.1 :: row Fl.bool 4 w480 ((List.replicate (a0.length : Int).toNat (false : Bool)).length) w481 s_.2.2.1 :: row (Fl.int .i64) 3 s_.2.2.2.2.2.2.2.2.1 s_.2.2.2.2.2.2.2.1 s_.2.2.2.2.2.2.2.2.2.1 s_.2.2.2.1 :: row cycles_stand.fl 99 s_.2.2.2.2.2.2.2.2.2.2.2.1 s_.2.2.2.2.2.2.2.2.2.2.1 s_.2.2.2.2.2.2.2.2.2.2.2.2.1 s_.2.2.2.2.1 :: pt b278 (.cells [.slice s_.2.2.2.2.2.2.2.2.2.2.2.2.2.2.1 s_.2.2.2.2.2.2.2.2.2.2.2.2.2.1 s_.2.2.2.2.2.2.2.2.2.2.2.2.2.2.2].toArray 22) :: rows (Fl.int .i64) 3 26 s_.2.2.2.2.2.2.2.2.2.2.2.2.2.2.1 s_.2.2.2.2.2.2.2.2.2.2.2.2.2.1 s_.2.2.2.2.2.2.2.2.2.2.2.2.2.2.2 s_.2.2.2.2.2.1 :: Fr) (fun s_ => G1373 (.inl (s_.1, s_.2.1, s_.2.2.1, s_.2.2.2.1, s_.2.2.2.2.1, s_.2.2.2.2.2.1, s_.2.2.2.2.2.2.1)) = some o1361 ∧ s_.2.2.2.1.length = s_.2.2.2.2.2.2.2.1 ∧ s_.2.2.2.2.1.length = s_.2.2.2.2.2.2.2.2.2.2.1 ∧ s_.2.2.2.2.2.1.length = s_.2.2.2.2.2.2.2.2.2.2.2.2.2.1) ?_ (fun J1376 => ?_)
              · rintro ⟨x1577, x1578, x1579, x1580, x1585, x1590, x1595, w1581, w1583, w1584, w1586, w1588, w1589, w1591, w1593, w1594⟩ ⟨hrun, hn1582, hn1587, hn1592⟩
                obtain rfl : x1580.length = w1581 := hn1582
                obtain rfl : x1585.length = w1586 := hn1587
                obtain rfl : x1590.length = w1591 := hn1592
                have hrun := (hl1374 _).symm.trans hrun
                · refine At.region ?_
                  refine At.run 2 rfl ?_
                  refine At.nil ?_
                  refine At.frt (.s (.s (.s .z))) ?_
                  refine At.frt (.s (.s (.s .z))) ?_
                  refine At.frt (.s (.s (.s .z))) ?_
                  refine At.frt (.s (.s (.s (.s (.s (.s (.s (.s (.s .z))))))))) ?_
                  refine At.frt (.s (.s (.s (.s (.s .z))))) ?_
                  refine At.frt (.s (.s (.s (.s (.s (.s .z)))))) ?_
                  refine At.frt (.s (.s (.s (.s (.s (.s (.s .z))))))) ?_
                  refine At.frt (.s (.s (.s (.s (.s (.s (.s .z))))))) ?_
                  refine At.frt (.s (.s (.s (.s (.s (.s (.s (.s (.s (.s .z)))))))))) ?_
                  refine At.frt (.s (.s (.s (.s (.s (.s (.s (.s (.s .z))))))))) ?_
                  refine At.frt (.s (.s (.s (.s (.s (.s (.s (.s (.s (.s .z)))))))))) ?_
                  have hrun := bnx hf_ hrun
                  exact fun a w e hs => ⟨m1365, (x1585, x1580, x1590, x1579, x1578, x1577, x1595, IntKind.i64.wrap (x1138 + 1), x1585.length, w1588, w1589, x1580.length, w1583, w1584, x1590.length, w1593, w1594), hlt1367, ⟨hrun, rfl, rfl, rfl⟩, e.sub ⟨rfl, rfl, rfl, rfl, rfl, trivial⟩, hs⟩
              · · refine At.block ?_
                  refine At.seq ?_
                  refine At.region ?_
                  refine At.run 2 rfl ?_
                  refine At.nil ?_
                  refine At.thn ?_
                  refine At.seq ?_
                  refine At.region ?_
                  refine At.run 3 rfl ?_
                  refine At.y (Y.load rfl rfl (.s (.s (.s .z))) rfl rfl rfl) rfl rfl rfl ?_
                  refine At.run 1 rfl ?_
                  obtain ⟨h1596, hrun⟩ := bnone hrun
                  refine At.y (Y.ix (.s (.s (.s (.s (.s (.s .z)))))) rfl rfl rfl rfl rfl rfl h1596.1 h1596.2) rfl rfl rfl ?_
                  refine At.y (Y.ld (.s (.s (.s (.s (.s (.s .z)))))) (q := 0) rfl rfl h1596.1 h1596.2 rfl rfl rfl) rfl rfl rfl ?_
                  refine At.run 2 rfl ?_
                  obtain ⟨G1798, hl1799, hr1800, hrun⟩ := bjoin hrun
                  refine At.joinO 4 (X := Bool) (fun x1797 => [(1, .func (.func 40) #[] #[.pointer (some ⟨b1_c0, 0, none⟩), .pointer (some ⟨b1_c1, 0, none⟩)]), (5, .pointer (some ⟨b278, 0, none⟩)), (6, .pointer (some ⟨w479, 0, none⟩)), (7, .int .i64 x1138), (26, .int .i64 (a0.length : Int)), (27, .int .i64 x1138), (42, .bool x1797)]) (fun x1797 => pt b1_c0 (.cells [.func (.func 38) #[] #[.pointer (some ⟨b1_c0_0_c0, 0, none⟩)]].toArray 62) :: pt b1_c0_0_c0 (.cells [.slice A1_c0_0_c0_0 a1_c0_0_c0_0.length c1_c0_0_c0_0].toArray 26) :: pt b1_c1 (.cells [.int .i64 a1_c1_0].toArray 3) :: row cycles_stand.fl 99 w1122 x1119.length w1123 x1119 :: row (Fl.int .i64) 3 w1127 x1124.length w1128 x1124 :: rows (Fl.int .i64) 3 26 w1132 x1129.length w1133 x1129 :: pt w479 (.cells [.slice A0 a0.length c0, .func (.func 40) #[] #[.pointer (some ⟨b1_c0, 0, none⟩), .pointer (some ⟨b1_c1, 0, none⟩)], .slice w484 ((List.replicate (a0.length : Int).toNat (0 : Int)).length) w485, .slice w482 ((List.replicate (a0.length : Int).toNat (0 : Int)).length) w483, .slice w480 ((List.replicate (a0.length : Int).toNat (false : Bool)).length) w481, .slice w1127 x1124.length w1128, .slice w1122 x1119.length w1123, .int .i64 x1137, .func (.func 55) #[] #[.pointer (some ⟨b278, 0, none⟩)]].toArray 86) :: row Fl.bool 4 w480 ((List.replicate (a0.length : Int).toNat (false : Bool)).length) w481 x1134 :: row (Fl.int .i64) 3 w482 ((List.replicate (a0.length : Int).toNat (0 : Int)).length) w483 x1135 :: row (Fl.int .i64) 3 w484 ((List.replicate (a0.length : Int).toNat (0 : Int)).length) w485 x1136 :: pt b278 (.cells [.slice w1132 x1129.length w1133].toArray 22) :: Fr) (fun x1797 => G1798 (.inl x1797) = some o1361) ?_ (fun J1801 => ?_)
                  · rintro x1797 hrun
                    have hrun := (hl1799 _).symm.trans hrun
                    · refine At.nil ?_
                      refine At.thn ?_
                      rcases bite hrun with ⟨h1802, hrun⟩ | ⟨h1802, hrun⟩
                      · · refine At.condT rfl h1802 ?_
                          refine At.region ?_
                          refine At.run 2 rfl ?_
                          refine At.rowLen (.s (.s (.s (.s (.s (.s (.s (.s (.s .z))))))))) fun hn1803 => ?_
                          refine At.rowLen (.s (.s (.s (.s (.s (.s (.s (.s .z)))))))) fun hn1804 => ?_
                          refine At.rowLen (.s (.s (.s (.s (.s (.s (.s .z))))))) fun hn1805 => ?_
                          refine At.frt (.s (.s (.s (.s (.s .z))))) ?_
                          refine At.frt (.s (.s (.s (.s (.s (.s (.s (.s (.s (.s .z)))))))))) ?_
                          refine At.frt (.s (.s (.s (.s (.s .z))))) ?_
                          refine At.frt (.s (.s (.s (.s (.s (.s .z)))))) ?_
                          refine At.frt (.s (.s (.s (.s (.s (.s (.s (.s .z)))))))) ?_
                          refine At.frt (.s (.s (.s (.s (.s (.s (.s (.s (.s .z))))))))) ?_
                          refine At.frt (.s (.s (.s (.s (.s (.s (.s (.s (.s (.s .z)))))))))) ?_
                          refine At.frt (.s (.s (.s (.s (.s (.s (.s (.s (.s .z))))))))) ?_
                          refine At.frt (.s (.s (.s (.s (.s (.s (.s (.s (.s .z))))))))) ?_
                          refine At.frt (.s (.s (.s (.s (.s (.s (.s (.s (.s .z))))))))) ?_
                          refine At.frt (.s (.s (.s (.s (.s (.s (.s (.s (.s (.s .z)))))))))) ?_
                          obtain ⟨t1806, hc1807, hrun⟩ := bbind hrun
                          refine At.call rfl cycles_walk_from_v2.callee rfl rfl rfl (cycles_walk_from_v2.spec _ _ w479 A0 a0.length c0 b1_c0 b1_c0_0_c0 A1_c0_0_c0_0 a1_c0_0_c0_0.length c1_c0_0_c0_0 b1_c1 w484 ((List.replicate (a0.length : Int).toNat (0 : Int)).length) w485 w482 ((List.replicate (a0.length : Int).toNat (0 : Int)).length) w483 w480 ((List.replicate (a0.length : Int).toNat (false : Bool)).length) w481 w1127 x1124.length w1128 w1122 x1119.length w1123 b278 w1132 x1129.length w1133 a0 a1_c0_0_c0_0 a1_c1_0 x1136 x1135 x1134 x1124 x1119 x1137 x1129 x1138 hr0 rfl hc0 hr1_c0_0_c0_0 rfl hc1_c0_0_c0_0 hn1803 hn1804 hn1805 rfl rfl rfl hc1807) ?_
                          rintro _ _ ⟨w1808, w1809, w1810, w1811, w1812, w1813, w1814, w1815, w1816, rfl, rfl, rfl, rfl, rfl⟩
                          refine At.nil ?_
                          refine At.ibn ?_
                          refine At.thn ?_
                          exact fun a w e hs => J1376 (t1806.1, t1806.2.1, t1806.2.2.1, t1806.2.2.2.1, t1806.2.2.2.2.1, t1806.2.2.2.2.2.1, t1806.2.2.2.2.2.2, t1806.2.2.2.1.length, w1809, w1810, t1806.2.2.2.2.1.length, w1812, w1813, t1806.2.2.2.2.2.1.length, w1815, w1816) ⟨hrun, rfl, rfl, rfl⟩ a w (e.sub ⟨rfl, rfl, rfl, rfl, rfl, trivial⟩) hs
                      · · refine At.condF rfl (bn h1802) ?_
                          refine At.skip ?_
                          refine At.ibn ?_
                          refine At.thn ?_
                          refine At.frt (.s (.s (.s (.s (.s .z))))) ?_
                          refine At.frt (.s (.s (.s (.s (.s (.s (.s (.s (.s (.s .z)))))))))) ?_
                          refine At.frt (.s (.s (.s (.s (.s .z))))) ?_
                          refine At.frt (.s (.s (.s (.s (.s (.s .z)))))) ?_
                          refine At.frt (.s (.s (.s (.s (.s (.s (.s (.s .z)))))))) ?_
                          refine At.frt (.s (.s (.s (.s (.s (.s (.s (.s (.s .z))))))))) ?_
                          refine At.frt (.s (.s (.s (.s (.s (.s (.s (.s (.s (.s .z)))))))))) ?_
                          refine At.frt (.s (.s (.s (.s (.s (.s (.s (.s (.s .z))))))))) ?_
                          refine At.frt (.s (.s (.s (.s (.s (.s (.s (.s (.s .z))))))))) ?_
                          refine At.frt (.s (.s (.s (.s (.s (.s (.s (.s (.s .z))))))))) ?_
                          refine At.frt (.s (.s (.s (.s (.s (.s (.s (.s (.s (.s .z)))))))))) ?_
                          exact fun a w e hs => J1376 (x1136, x1135, x1134, x1124, x1119, x1129, x1137, x1124.length, w1127, w1128, x1119.length, w1122, w1123, x1129.length, w1132, w1133) ⟨hrun, rfl, rfl, rfl⟩ a w (e.sub ⟨rfl, rfl, rfl, rfl, rfl, trivial⟩) hs
                  · · rcases bite hrun with ⟨h1820, hrun⟩ | ⟨h1820, hrun⟩
                      · · refine At.know (t := 38) rfl (decide_eq_true h1820) ?_
                          refine At.run 2 rfl ?_
                          refine At.frt (.s (.s (.s (.s (.s (.s (.s (.s (.s (.s .z)))))))))) ?_
                          refine At.frt (.s (.s (.s (.s (.s (.s (.s (.s (.s (.s .z)))))))))) ?_
                          refine At.frt (.s (.s (.s (.s (.s (.s (.s (.s (.s (.s .z)))))))))) ?_
                          obtain ⟨t1821, hc1822, hrun⟩ := bbind hrun
                          refine At.call rfl cycles_Bad_2.callee rfl rfl rfl (cycles_Bad_2.spec _ _ b1_c0 b1_c0_0_c0 A1_c0_0_c0_0 a1_c0_0_c0_0.length c1_c0_0_c0_0 b1_c1 x1138 a1_c0_0_c0_0 a1_c1_0 hr1_c0_0_c0_0 rfl hc1_c0_0_c0_0 hc1822) ?_
                          rintro _ _ ⟨rfl, rfl⟩
                          refine At.run 1 rfl ?_
                          exact At.of (J1801 t1821 hrun) ⟨rfl, rfl, rfl, rfl, rfl, rfl, rfl, trivial⟩
                      · · refine At.know (t := 38) rfl (decide_eq_false h1820) ?_
                          refine At.run 4 rfl ?_
                          refine At.frt (.s (.s (.s (.s (.s (.s (.s .z))))))) ?_
                          refine At.frt (.s (.s (.s (.s (.s (.s (.s .z))))))) ?_
                          refine At.frt (.s (.s (.s (.s (.s (.s (.s .z))))))) ?_
                          refine At.frt (.s (.s (.s (.s (.s (.s (.s .z))))))) ?_
                          refine At.frt (.s (.s (.s (.s (.s (.s (.s .z))))))) ?_
                          refine At.frt (.s (.s (.s (.s (.s (.s (.s .z))))))) ?_
                          refine At.frt (.s (.s (.s (.s (.s (.s (.s .z))))))) ?_
                          refine At.frt (.s (.s (.s (.s (.s (.s (.s .z))))))) ?_
                          refine At.frt (.s (.s (.s (.s (.s (.s (.s (.s (.s (.s .z)))))))))) ?_
                          refine At.frt (.s (.s (.s (.s (.s (.s (.s (.s (.s (.s .z)))))))))) ?_
                          refine At.frt (.s (.s (.s (.s (.s (.s (.s (.s (.s (.s .z)))))))))) ?_
                          exact At.of (J1801 false hrun) ⟨rfl, rfl, rfl, rfl, rfl, rfl, rfl, trivial⟩
          · · refine At.condF rfl (decide_eq_false h1372) ?_
              refine At.exit ?_
              refine At.the ?_
              refine At.the ?_
              exact fun a w e hs => J1368 (x1119, x1124, x1129, x1134, x1135, x1136, x1137, x1119.length, w1122, w1123, x1124.length, w1127, w1128, x1129.length, w1132, w1133) ⟨(bdn hrun ho1363), rfl, rfl, rfl⟩ a w (e.sub ⟨rfl, trivial⟩) hs
  · refine At.H.all [4, 7, 10] (by kernel_rfl) rfl (all_cons ?_ (all_cons ?_ (all_cons ?_ all_nil)))
    · · refine At.HO.op rfl ?_
        refine At.make (F := (Fl.int .i64)) (z := 0) rfl rfl rfl rfl rfl rfl rfl rfl rfl rfl h487.1 h487.2 (by decide) rfl (fun A489 c490 => ?_)
        refine At.HO.back (.c (.s .z) (.c (.s .z) (.c (.s .z) (.c (.s .z) .n)))) ?_
        refine At.H.all [7, 10] (by kernel_rfl) rfl (all_cons ?_ (all_cons ?_ all_nil))
        · · refine At.HO.op rfl ?_
            refine At.make (F := (Fl.int .i64)) (z := 0) rfl rfl rfl rfl rfl rfl rfl rfl rfl rfl h487.1 h487.2 (by decide) rfl (fun A492 c493 => ?_)
            refine At.HO.back (.c (.s (.s .z)) (.c (.s (.s .z)) (.c (.s (.s .z)) (.c (.s (.s .z)) .n)))) ?_
            refine At.H.all [10] (by kernel_rfl) rfl (all_cons ?_ all_nil)
            · · refine At.HO.op rfl ?_
                refine At.make (F := Fl.bool) (z := false) rfl rfl rfl rfl rfl rfl rfl rfl rfl rfl h488.1 h488.2 (by decide) rfl (fun A495 c496 => ?_)
                refine At.HO.back (.c (.s (.s (.s .z))) (.c (.s (.s (.s .z))) (.c (.s (.s (.s .z))) (.c (.s (.s (.s .z))) .n)))) ?_
                refine At.H.take 11 rfl (by kernel_rfl) (by kernel_rfl) (by kernel_rfl) (Y.build (is := [0, 1, 2, 3, 4]) (xo := [.tmp 8, .tmp 9, .tmp 12, .tmp 15, .tmp 18]) (vs := [.slice A0 a0.length c0, .func (.func 40) #[] #[.pointer (some ⟨b1_c0, 0, none⟩), .pointer (some ⟨b1_c1, 0, none⟩)], .slice A489 ((List.replicate (a0.length : Int).toNat (0 : Int)).length) c490, .slice A492 ((List.replicate (a0.length : Int).toNat (0 : Int)).length) c493, .slice A495 ((List.replicate (a0.length : Int).toNat (false : Bool)).length) c496]) (cs := [.slice A0 a0.length c0, .func (.func 40) #[] #[.pointer (some ⟨b1_c0, 0, none⟩), .pointer (some ⟨b1_c1, 0, none⟩)], .slice A489 ((List.replicate (a0.length : Int).toNat (0 : Int)).length) c490, .slice A492 ((List.replicate (a0.length : Int).toNat (0 : Int)).length) c493, .slice A495 ((List.replicate (a0.length : Int).toNat (false : Bool)).length) c496, .slice none 0 0, .slice none 0 0, .int .i64 0, .nilFunc]) rfl rfl rfl rfl rfl rfl) rfl rfl rfl (.c (.s (.s (.s .z))) (.c (.s (.s (.s .z))) (.c (.s (.s (.s .z))) (.c (.s (.s (.s .z))) .n)))) ?_
                refine At.H.all [12] (by kernel_rfl) rfl (all_cons ?_ all_nil)
                · · refine At.HO.op rfl ?_
                    refine At.box rfl rfl (cs := [.slice A0 a0.length c0, .func (.func 40) #[] #[.pointer (some ⟨b1_c0, 0, none⟩), .pointer (some ⟨b1_c1, 0, none⟩)], .slice A489 ((List.replicate (a0.length : Int).toNat (0 : Int)).length) c490, .slice A492 ((List.replicate (a0.length : Int).toNat (0 : Int)).length) c493, .slice A495 ((List.replicate (a0.length : Int).toNat (false : Bool)).length) c496, .slice none 0 0, .slice none 0 0, .int .i64 0, .nilFunc]) rfl rfl (fun b498 => ?_)
                    refine At.HO.back (.c (.s (.s (.s (.s .z)))) (.c (.s (.s (.s (.s .z)))) (.c (.s (.s (.s (.s .z)))) (.c (.s (.s (.s (.s .z)))) .n)))) ?_
                    refine At.H.pv 13 rfl (by kernel_rfl) (by kernel_rfl) (by kernel_rfl) rfl rfl rfl rfl (.c (.s (.s (.s (.s .z)))) (.c (.s (.s (.s (.s .z)))) (.c (.s (.s (.s (.s .z)))) (.c (.s (.s (.s (.s .z)))) .n)))) ?_
                    refine At.H.done (by kernel_rfl) ?_
                    exact At.of (J486 (b498, A495, c496, A492, c493, A489, c490) trivial) ⟨rfl, rfl, rfl, rfl, trivial⟩
        · · refine At.HO.op rfl ?_
            refine At.make (F := Fl.bool) (z := false) rfl rfl rfl rfl rfl rfl rfl rfl rfl rfl h488.1 h488.2 (by decide) rfl (fun A1823 c1824 => ?_)
            refine At.HO.back (.c (.s (.s .z)) (.c (.s (.s .z)) (.c (.s (.s .z)) (.c (.s (.s .z)) .n)))) ?_
            refine At.H.all [7] (by kernel_rfl) rfl (all_cons ?_ all_nil)
            · · refine At.HO.op rfl ?_
                refine At.make (F := (Fl.int .i64)) (z := 0) rfl rfl rfl rfl rfl rfl rfl rfl rfl rfl h487.1 h487.2 (by decide) rfl (fun A1826 c1827 => ?_)
                refine At.HO.back (.c (.s (.s (.s .z))) (.c (.s (.s (.s .z))) (.c (.s (.s (.s .z))) (.c (.s (.s (.s .z))) .n)))) ?_
                refine At.H.take 11 rfl (by kernel_rfl) (by kernel_rfl) (by kernel_rfl) (Y.build (is := [0, 1, 2, 3, 4]) (xo := [.tmp 8, .tmp 9, .tmp 12, .tmp 15, .tmp 18]) (vs := [.slice A0 a0.length c0, .func (.func 40) #[] #[.pointer (some ⟨b1_c0, 0, none⟩), .pointer (some ⟨b1_c1, 0, none⟩)], .slice A489 ((List.replicate (a0.length : Int).toNat (0 : Int)).length) c490, .slice A1826 ((List.replicate (a0.length : Int).toNat (0 : Int)).length) c1827, .slice A1823 ((List.replicate (a0.length : Int).toNat (false : Bool)).length) c1824]) (cs := [.slice A0 a0.length c0, .func (.func 40) #[] #[.pointer (some ⟨b1_c0, 0, none⟩), .pointer (some ⟨b1_c1, 0, none⟩)], .slice A489 ((List.replicate (a0.length : Int).toNat (0 : Int)).length) c490, .slice A1826 ((List.replicate (a0.length : Int).toNat (0 : Int)).length) c1827, .slice A1823 ((List.replicate (a0.length : Int).toNat (false : Bool)).length) c1824, .slice none 0 0, .slice none 0 0, .int .i64 0, .nilFunc]) rfl rfl rfl rfl rfl rfl) rfl rfl rfl (.c (.s (.s (.s .z))) (.c (.s (.s (.s .z))) (.c (.s (.s (.s .z))) (.c (.s (.s (.s .z))) .n)))) ?_
                refine At.H.all [12] (by kernel_rfl) rfl (all_cons ?_ all_nil)
                · · refine At.HO.op rfl ?_
                    refine At.box rfl rfl (cs := [.slice A0 a0.length c0, .func (.func 40) #[] #[.pointer (some ⟨b1_c0, 0, none⟩), .pointer (some ⟨b1_c1, 0, none⟩)], .slice A489 ((List.replicate (a0.length : Int).toNat (0 : Int)).length) c490, .slice A1826 ((List.replicate (a0.length : Int).toNat (0 : Int)).length) c1827, .slice A1823 ((List.replicate (a0.length : Int).toNat (false : Bool)).length) c1824, .slice none 0 0, .slice none 0 0, .int .i64 0, .nilFunc]) rfl rfl (fun b1829 => ?_)
                    refine At.HO.back (.c (.s (.s (.s (.s .z)))) (.c (.s (.s (.s (.s .z)))) (.c (.s (.s (.s (.s .z)))) (.c (.s (.s (.s (.s .z)))) .n)))) ?_
                    refine At.H.pv 13 rfl (by kernel_rfl) (by kernel_rfl) (by kernel_rfl) rfl rfl rfl rfl (.c (.s (.s (.s (.s .z)))) (.c (.s (.s (.s (.s .z)))) (.c (.s (.s (.s (.s .z)))) (.c (.s (.s (.s (.s .z)))) .n)))) ?_
                    refine At.H.done (by kernel_rfl) ?_
                    refine At.frt (.s (.s (.s (.s (.s (.s (.s .z))))))) ?_
                    refine At.frt (.s (.s (.s (.s (.s (.s (.s .z))))))) ?_
                    refine At.frt (.s (.s (.s (.s (.s (.s (.s .z))))))) ?_
                    refine At.frt (.s (.s (.s (.s (.s (.s (.s .z))))))) ?_
                    refine At.frt (.s (.s (.s (.s (.s (.s (.s .z))))))) ?_
                    refine At.frt (.s (.s (.s (.s (.s (.s .z)))))) ?_
                    refine At.frt (.s (.s (.s (.s (.s (.s (.s .z))))))) ?_
                    refine At.frt (.s (.s (.s (.s (.s (.s (.s .z))))))) ?_
                    exact At.of (J486 (b1829, A1823, c1824, A1826, c1827, A489, c490) trivial) ⟨rfl, rfl, rfl, rfl, trivial⟩
    · · refine At.HO.op rfl ?_
        refine At.make (F := (Fl.int .i64)) (z := 0) rfl rfl rfl rfl rfl rfl rfl rfl rfl rfl h487.1 h487.2 (by decide) rfl (fun A1830 c1831 => ?_)
        refine At.HO.back (.c (.s .z) (.c (.s .z) (.c (.s .z) (.c (.s .z) .n)))) ?_
        refine At.H.all [4, 10] (by kernel_rfl) rfl (all_cons ?_ (all_cons ?_ all_nil))
        · · refine At.HO.op rfl ?_
            refine At.make (F := (Fl.int .i64)) (z := 0) rfl rfl rfl rfl rfl rfl rfl rfl rfl rfl h487.1 h487.2 (by decide) rfl (fun A1833 c1834 => ?_)
            refine At.HO.back (.c (.s (.s .z)) (.c (.s (.s .z)) (.c (.s (.s .z)) (.c (.s (.s .z)) .n)))) ?_
            refine At.H.all [10] (by kernel_rfl) rfl (all_cons ?_ all_nil)
            · · refine At.HO.op rfl ?_
                refine At.make (F := Fl.bool) (z := false) rfl rfl rfl rfl rfl rfl rfl rfl rfl rfl h488.1 h488.2 (by decide) rfl (fun A1836 c1837 => ?_)
                refine At.HO.back (.c (.s (.s (.s .z))) (.c (.s (.s (.s .z))) (.c (.s (.s (.s .z))) (.c (.s (.s (.s .z))) .n)))) ?_
                refine At.H.take 11 rfl (by kernel_rfl) (by kernel_rfl) (by kernel_rfl) (Y.build (is := [0, 1, 2, 3, 4]) (xo := [.tmp 8, .tmp 9, .tmp 12, .tmp 15, .tmp 18]) (vs := [.slice A0 a0.length c0, .func (.func 40) #[] #[.pointer (some ⟨b1_c0, 0, none⟩), .pointer (some ⟨b1_c1, 0, none⟩)], .slice A1833 ((List.replicate (a0.length : Int).toNat (0 : Int)).length) c1834, .slice A1830 ((List.replicate (a0.length : Int).toNat (0 : Int)).length) c1831, .slice A1836 ((List.replicate (a0.length : Int).toNat (false : Bool)).length) c1837]) (cs := [.slice A0 a0.length c0, .func (.func 40) #[] #[.pointer (some ⟨b1_c0, 0, none⟩), .pointer (some ⟨b1_c1, 0, none⟩)], .slice A1833 ((List.replicate (a0.length : Int).toNat (0 : Int)).length) c1834, .slice A1830 ((List.replicate (a0.length : Int).toNat (0 : Int)).length) c1831, .slice A1836 ((List.replicate (a0.length : Int).toNat (false : Bool)).length) c1837, .slice none 0 0, .slice none 0 0, .int .i64 0, .nilFunc]) rfl rfl rfl rfl rfl rfl) rfl rfl rfl (.c (.s (.s (.s .z))) (.c (.s (.s (.s .z))) (.c (.s (.s (.s .z))) (.c (.s (.s (.s .z))) .n)))) ?_
                refine At.H.all [12] (by kernel_rfl) rfl (all_cons ?_ all_nil)
                · · refine At.HO.op rfl ?_
                    refine At.box rfl rfl (cs := [.slice A0 a0.length c0, .func (.func 40) #[] #[.pointer (some ⟨b1_c0, 0, none⟩), .pointer (some ⟨b1_c1, 0, none⟩)], .slice A1833 ((List.replicate (a0.length : Int).toNat (0 : Int)).length) c1834, .slice A1830 ((List.replicate (a0.length : Int).toNat (0 : Int)).length) c1831, .slice A1836 ((List.replicate (a0.length : Int).toNat (false : Bool)).length) c1837, .slice none 0 0, .slice none 0 0, .int .i64 0, .nilFunc]) rfl rfl (fun b1839 => ?_)
                    refine At.HO.back (.c (.s (.s (.s (.s .z)))) (.c (.s (.s (.s (.s .z)))) (.c (.s (.s (.s (.s .z)))) (.c (.s (.s (.s (.s .z)))) .n)))) ?_
                    refine At.H.pv 13 rfl (by kernel_rfl) (by kernel_rfl) (by kernel_rfl) rfl rfl rfl rfl (.c (.s (.s (.s (.s .z)))) (.c (.s (.s (.s (.s .z)))) (.c (.s (.s (.s (.s .z)))) (.c (.s (.s (.s (.s .z)))) .n)))) ?_
                    refine At.H.done (by kernel_rfl) ?_
                    refine At.frt (.s (.s (.s (.s (.s (.s (.s .z))))))) ?_
                    refine At.frt (.s (.s (.s (.s (.s (.s (.s .z))))))) ?_
                    refine At.frt (.s (.s (.s (.s (.s (.s (.s .z))))))) ?_
                    refine At.frt (.s (.s (.s (.s (.s (.s (.s .z))))))) ?_
                    refine At.frt (.s (.s (.s (.s (.s (.s .z)))))) ?_
                    refine At.frt (.s (.s (.s (.s (.s (.s (.s .z))))))) ?_
                    refine At.frt (.s (.s (.s (.s (.s (.s (.s .z))))))) ?_
                    refine At.frt (.s (.s (.s (.s (.s (.s (.s .z))))))) ?_
                    exact At.of (J486 (b1839, A1836, c1837, A1830, c1831, A1833, c1834) trivial) ⟨rfl, rfl, rfl, rfl, trivial⟩
        · · refine At.HO.op rfl ?_
            refine At.make (F := Fl.bool) (z := false) rfl rfl rfl rfl rfl rfl rfl rfl rfl rfl h488.1 h488.2 (by decide) rfl (fun A1840 c1841 => ?_)
            refine At.HO.back (.c (.s (.s .z)) (.c (.s (.s .z)) (.c (.s (.s .z)) (.c (.s (.s .z)) .n)))) ?_
            refine At.H.all [4] (by kernel_rfl) rfl (all_cons ?_ all_nil)
            · · refine At.HO.op rfl ?_
                refine At.make (F := (Fl.int .i64)) (z := 0) rfl rfl rfl rfl rfl rfl rfl rfl rfl rfl h487.1 h487.2 (by decide) rfl (fun A1843 c1844 => ?_)
                refine At.HO.back (.c (.s (.s (.s .z))) (.c (.s (.s (.s .z))) (.c (.s (.s (.s .z))) (.c (.s (.s (.s .z))) .n)))) ?_
                refine At.H.take 11 rfl (by kernel_rfl) (by kernel_rfl) (by kernel_rfl) (Y.build (is := [0, 1, 2, 3, 4]) (xo := [.tmp 8, .tmp 9, .tmp 12, .tmp 15, .tmp 18]) (vs := [.slice A0 a0.length c0, .func (.func 40) #[] #[.pointer (some ⟨b1_c0, 0, none⟩), .pointer (some ⟨b1_c1, 0, none⟩)], .slice A1843 ((List.replicate (a0.length : Int).toNat (0 : Int)).length) c1844, .slice A1830 ((List.replicate (a0.length : Int).toNat (0 : Int)).length) c1831, .slice A1840 ((List.replicate (a0.length : Int).toNat (false : Bool)).length) c1841]) (cs := [.slice A0 a0.length c0, .func (.func 40) #[] #[.pointer (some ⟨b1_c0, 0, none⟩), .pointer (some ⟨b1_c1, 0, none⟩)], .slice A1843 ((List.replicate (a0.length : Int).toNat (0 : Int)).length) c1844, .slice A1830 ((List.replicate (a0.length : Int).toNat (0 : Int)).length) c1831, .slice A1840 ((List.replicate (a0.length : Int).toNat (false : Bool)).length) c1841, .slice none 0 0, .slice none 0 0, .int .i64 0, .nilFunc]) rfl rfl rfl rfl rfl rfl) rfl rfl rfl (.c (.s (.s (.s .z))) (.c (.s (.s (.s .z))) (.c (.s (.s (.s .z))) (.c (.s (.s (.s .z))) .n)))) ?_
                refine At.H.all [12] (by kernel_rfl) rfl (all_cons ?_ all_nil)
                · · refine At.HO.op rfl ?_
                    refine At.box rfl rfl (cs := [.slice A0 a0.length c0, .func (.func 40) #[] #[.pointer (some ⟨b1_c0, 0, none⟩), .pointer (some ⟨b1_c1, 0, none⟩)], .slice A1843 ((List.replicate (a0.length : Int).toNat (0 : Int)).length) c1844, .slice A1830 ((List.replicate (a0.length : Int).toNat (0 : Int)).length) c1831, .slice A1840 ((List.replicate (a0.length : Int).toNat (false : Bool)).length) c1841, .slice none 0 0, .slice none 0 0, .int .i64 0, .nilFunc]) rfl rfl (fun b1846 => ?_)
                    refine At.HO.back (.c (.s (.s (.s (.s .z)))) (.c (.s (.s (.s (.s .z)))) (.c (.s (.s (.s (.s .z)))) (.c (.s (.s (.s (.s .z)))) .n)))) ?_
                    refine At.H.pv 13 rfl (by kernel_rfl) (by kernel_rfl) (by kernel_rfl) rfl rfl rfl rfl (.c (.s (.s (.s (.s .z)))) (.c (.s (.s (.s (.s .z)))) (.c (.s (.s (.s (.s .z)))) (.c (.s (.s (.s (.s .z)))) .n)))) ?_
                    refine At.H.done (by kernel_rfl) ?_
                    refine At.frt (.s (.s (.s (.s (.s (.s (.s .z))))))) ?_
                    refine At.frt (.s (.s (.s (.s (.s (.s (.s .z))))))) ?_
                    refine At.frt (.s (.s (.s (.s (.s (.s (.s .z))))))) ?_
                    refine At.frt (.s (.s (.s (.s (.s (.s (.s .z))))))) ?_
                    refine At.frt (.s (.s (.s (.s (.s .z))))) ?_
                    refine At.frt (.s (.s (.s (.s (.s (.s (.s .z))))))) ?_
                    refine At.frt (.s (.s (.s (.s (.s (.s (.s .z))))))) ?_
                    refine At.frt (.s (.s (.s (.s (.s (.s (.s .z))))))) ?_
                    exact At.of (J486 (b1846, A1840, c1841, A1830, c1831, A1843, c1844) trivial) ⟨rfl, rfl, rfl, rfl, trivial⟩
    · · refine At.HO.op rfl ?_
        refine At.make (F := Fl.bool) (z := false) rfl rfl rfl rfl rfl rfl rfl rfl rfl rfl h488.1 h488.2 (by decide) rfl (fun A1847 c1848 => ?_)
        refine At.HO.back (.c (.s .z) (.c (.s .z) (.c (.s .z) (.c (.s .z) .n)))) ?_
        refine At.H.all [4, 7] (by kernel_rfl) rfl (all_cons ?_ (all_cons ?_ all_nil))
        · · refine At.HO.op rfl ?_
            refine At.make (F := (Fl.int .i64)) (z := 0) rfl rfl rfl rfl rfl rfl rfl rfl rfl rfl h487.1 h487.2 (by decide) rfl (fun A1850 c1851 => ?_)
            refine At.HO.back (.c (.s (.s .z)) (.c (.s (.s .z)) (.c (.s (.s .z)) (.c (.s (.s .z)) .n)))) ?_
            refine At.H.all [7] (by kernel_rfl) rfl (all_cons ?_ all_nil)
            · · refine At.HO.op rfl ?_
                refine At.make (F := (Fl.int .i64)) (z := 0) rfl rfl rfl rfl rfl rfl rfl rfl rfl rfl h487.1 h487.2 (by decide) rfl (fun A1853 c1854 => ?_)
                refine At.HO.back (.c (.s (.s (.s .z))) (.c (.s (.s (.s .z))) (.c (.s (.s (.s .z))) (.c (.s (.s (.s .z))) .n)))) ?_
                refine At.H.take 11 rfl (by kernel_rfl) (by kernel_rfl) (by kernel_rfl) (Y.build (is := [0, 1, 2, 3, 4]) (xo := [.tmp 8, .tmp 9, .tmp 12, .tmp 15, .tmp 18]) (vs := [.slice A0 a0.length c0, .func (.func 40) #[] #[.pointer (some ⟨b1_c0, 0, none⟩), .pointer (some ⟨b1_c1, 0, none⟩)], .slice A1850 ((List.replicate (a0.length : Int).toNat (0 : Int)).length) c1851, .slice A1853 ((List.replicate (a0.length : Int).toNat (0 : Int)).length) c1854, .slice A1847 ((List.replicate (a0.length : Int).toNat (false : Bool)).length) c1848]) (cs := [.slice A0 a0.length c0, .func (.func 40) #[] #[.pointer (some ⟨b1_c0, 0, none⟩), .pointer (some ⟨b1_c1, 0, none⟩)], .slice A1850 ((List.replicate (a0.length : Int).toNat (0 : Int)).length) c1851, .slice A1853 ((List.replicate (a0.length : Int).toNat (0 : Int)).length) c1854, .slice A1847 ((List.replicate (a0.length : Int).toNat (false : Bool)).length) c1848, .slice none 0 0, .slice none 0 0, .int .i64 0, .nilFunc]) rfl rfl rfl rfl rfl rfl) rfl rfl rfl (.c (.s (.s (.s .z))) (.c (.s (.s (.s .z))) (.c (.s (.s (.s .z))) (.c (.s (.s (.s .z))) .n)))) ?_
                refine At.H.all [12] (by kernel_rfl) rfl (all_cons ?_ all_nil)
                · · refine At.HO.op rfl ?_
                    refine At.box rfl rfl (cs := [.slice A0 a0.length c0, .func (.func 40) #[] #[.pointer (some ⟨b1_c0, 0, none⟩), .pointer (some ⟨b1_c1, 0, none⟩)], .slice A1850 ((List.replicate (a0.length : Int).toNat (0 : Int)).length) c1851, .slice A1853 ((List.replicate (a0.length : Int).toNat (0 : Int)).length) c1854, .slice A1847 ((List.replicate (a0.length : Int).toNat (false : Bool)).length) c1848, .slice none 0 0, .slice none 0 0, .int .i64 0, .nilFunc]) rfl rfl (fun b1856 => ?_)
                    refine At.HO.back (.c (.s (.s (.s (.s .z)))) (.c (.s (.s (.s (.s .z)))) (.c (.s (.s (.s (.s .z)))) (.c (.s (.s (.s (.s .z)))) .n)))) ?_
                    refine At.H.pv 13 rfl (by kernel_rfl) (by kernel_rfl) (by kernel_rfl) rfl rfl rfl rfl (.c (.s (.s (.s (.s .z)))) (.c (.s (.s (.s (.s .z)))) (.c (.s (.s (.s (.s .z)))) (.c (.s (.s (.s (.s .z)))) .n)))) ?_
                    refine At.H.done (by kernel_rfl) ?_
                    refine At.frt (.s (.s (.s (.s (.s (.s (.s .z))))))) ?_
                    refine At.frt (.s (.s (.s (.s (.s (.s (.s .z))))))) ?_
                    refine At.frt (.s (.s (.s (.s (.s (.s (.s .z))))))) ?_
                    refine At.frt (.s (.s (.s (.s (.s (.s (.s .z))))))) ?_
                    refine At.frt (.s (.s (.s (.s (.s (.s .z)))))) ?_
                    refine At.frt (.s (.s (.s (.s (.s (.s .z)))))) ?_
                    refine At.frt (.s (.s (.s (.s (.s (.s (.s .z))))))) ?_
                    refine At.frt (.s (.s (.s (.s (.s (.s (.s .z))))))) ?_
                    exact At.of (J486 (b1856, A1847, c1848, A1853, c1854, A1850, c1851) trivial) ⟨rfl, rfl, rfl, rfl, trivial⟩
        · · refine At.HO.op rfl ?_
            refine At.make (F := (Fl.int .i64)) (z := 0) rfl rfl rfl rfl rfl rfl rfl rfl rfl rfl h487.1 h487.2 (by decide) rfl (fun A1857 c1858 => ?_)
            refine At.HO.back (.c (.s (.s .z)) (.c (.s (.s .z)) (.c (.s (.s .z)) (.c (.s (.s .z)) .n)))) ?_
            refine At.H.all [4] (by kernel_rfl) rfl (all_cons ?_ all_nil)
            · · refine At.HO.op rfl ?_
                refine At.make (F := (Fl.int .i64)) (z := 0) rfl rfl rfl rfl rfl rfl rfl rfl rfl rfl h487.1 h487.2 (by decide) rfl (fun A1860 c1861 => ?_)
                refine At.HO.back (.c (.s (.s (.s .z))) (.c (.s (.s (.s .z))) (.c (.s (.s (.s .z))) (.c (.s (.s (.s .z))) .n)))) ?_
                refine At.H.take 11 rfl (by kernel_rfl) (by kernel_rfl) (by kernel_rfl) (Y.build (is := [0, 1, 2, 3, 4]) (xo := [.tmp 8, .tmp 9, .tmp 12, .tmp 15, .tmp 18]) (vs := [.slice A0 a0.length c0, .func (.func 40) #[] #[.pointer (some ⟨b1_c0, 0, none⟩), .pointer (some ⟨b1_c1, 0, none⟩)], .slice A1860 ((List.replicate (a0.length : Int).toNat (0 : Int)).length) c1861, .slice A1857 ((List.replicate (a0.length : Int).toNat (0 : Int)).length) c1858, .slice A1847 ((List.replicate (a0.length : Int).toNat (false : Bool)).length) c1848]) (cs := [.slice A0 a0.length c0, .func (.func 40) #[] #[.pointer (some ⟨b1_c0, 0, none⟩), .pointer (some ⟨b1_c1, 0, none⟩)], .slice A1860 ((List.replicate (a0.length : Int).toNat (0 : Int)).length) c1861, .slice A1857 ((List.replicate (a0.length : Int).toNat (0 : Int)).length) c1858, .slice A1847 ((List.replicate (a0.length : Int).toNat (false : Bool)).length) c1848, .slice none 0 0, .slice none 0 0, .int .i64 0, .nilFunc]) rfl rfl rfl rfl rfl rfl) rfl rfl rfl (.c (.s (.s (.s .z))) (.c (.s (.s (.s .z))) (.c (.s (.s (.s .z))) (.c (.s (.s (.s .z))) .n)))) ?_
                refine At.H.all [12] (by kernel_rfl) rfl (all_cons ?_ all_nil)
                · · refine At.HO.op rfl ?_
                    refine At.box rfl rfl (cs := [.slice A0 a0.length c0, .func (.func 40) #[] #[.pointer (some ⟨b1_c0, 0, none⟩), .pointer (some ⟨b1_c1, 0, none⟩)], .slice A1860 ((List.replicate (a0.length : Int).toNat (0 : Int)).length) c1861, .slice A1857 ((List.replicate (a0.length : Int).toNat (0 : Int)).length) c1858, .slice A1847 ((List.replicate (a0.length : Int).toNat (false : Bool)).length) c1848, .slice none 0 0, .slice none 0 0, .int .i64 0, .nilFunc]) rfl rfl (fun b1863 => ?_)
                    refine At.HO.back (.c (.s (.s (.s (.s .z)))) (.c (.s (.s (.s (.s .z)))) (.c (.s (.s (.s (.s .z)))) (.c (.s (.s (.s (.s .z)))) .n)))) ?_
                    refine At.H.pv 13 rfl (by kernel_rfl) (by kernel_rfl) (by kernel_rfl) rfl rfl rfl rfl (.c (.s (.s (.s (.s .z)))) (.c (.s (.s (.s (.s .z)))) (.c (.s (.s (.s (.s .z)))) (.c (.s (.s (.s (.s .z)))) .n)))) ?_
                    refine At.H.done (by kernel_rfl) ?_
                    refine At.frt (.s (.s (.s (.s (.s (.s (.s .z))))))) ?_
                    refine At.frt (.s (.s (.s (.s (.s (.s (.s .z))))))) ?_
                    refine At.frt (.s (.s (.s (.s (.s (.s (.s .z))))))) ?_
                    refine At.frt (.s (.s (.s (.s (.s (.s (.s .z))))))) ?_
                    refine At.frt (.s (.s (.s (.s (.s .z))))) ?_
                    refine At.frt (.s (.s (.s (.s (.s (.s .z)))))) ?_
                    refine At.frt (.s (.s (.s (.s (.s (.s (.s .z))))))) ?_
                    refine At.frt (.s (.s (.s (.s (.s (.s (.s .z))))))) ?_
                    exact At.of (J486 (b1863, A1847, c1848, A1857, c1858, A1860, c1861) trivial) ⟨rfl, rfl, rfl, rfl, trivial⟩

noncomputable def cycles_Bad.l3b (a0 : List (List Int)) (a1 : List Int) (x1073 : List Int) (x1692 : Int) (t1908 : (List (List Int))) (x2518 : Int) (x3346 : Int) (x3347 : Int) : Option ((Int × Int) ⊕ ((Int) ⊕ ((Int × Int) ⊕ ((Int) ⊕ ((Int × Int) ⊕ ((Int) ⊕ (Int))))))) :=
  if x3347 < ((gt t1908 x2518).length : Int) then
    jn (
      if (0 : Int) ≤ x3347 ∧ x3347 < ((gt t1908 x2518).length : Int) then
        (cycles_Bad_1.f (gt (gt t1908 x2518) x3347) a1).bind fun t3767 =>
          jn (
            if t3767 = gt x1073 x1692 then
              jn (
                if 1 < ((gt t1908 x2518).length : Int) then
                  some (.inl (true, true))
                else
                  if (0 : Int) ≤ gt (gt t1908 x2518) x3347 ∧ gt (gt t1908 x2518) x3347 < (a0.length : Int) then
                    (slices_Contains_int_int.f (gt a0 (gt (gt t1908 x2518) x3347)) (gt (gt t1908 x2518) x3347)).bind fun t4602 =>
                      some (.inl (false, t4602))
                  else none) (fun (s_ : Bool × Bool) =>
                some (.inl s_.2))
            else
              some (.inl false)) (fun (x3969 : Bool) =>
            jn (
              if x3969 = true then
                jn (
                  if x3346 < 0 then
                    some (.inl (true, true))
                  else
                    some (.inl (false, decide (gt (gt t1908 x2518) x3347 < x3346)))) (fun (s_ : Bool × Bool) =>
                  some (.inl s_.2))
              else
                some (.inl false)) (fun (x4174 : Bool) =>
              if x4174 = true then
                some (.inl (gt (gt t1908 x2518) x3347))
              else
                some (.inl x3346)))
      else none) (fun (x3765 : Int) =>
      nx (x3765, IntKind.i64.wrap (x3347 + 1)))
  else
    dn (.inl x3346)
noncomputable def cycles_Bad.l3 (a0 : List (List Int)) (a1 : List Int) (x1073 : List Int) (x1692 : Int) (t1908 : (List (List Int))) (x2518 : Int) (x3346 : Int) (x3347 : Int) : Option ((Int) ⊕ ((Int × Int) ⊕ ((Int) ⊕ ((Int × Int) ⊕ ((Int) ⊕ (Int)))))) := iter (fun t_ : Int × Int => cycles_Bad.l3b a0 a1 x1073 x1692 t1908 x2518 t_.1 t_.2) (x3346, x3347)
noncomputable def cycles_Bad.l2b (a0 : List (List Int)) (a1 : List Int) (x1073 : List Int) (x1692 : Int) (t1908 : (List (List Int))) (x2517 : Int) (x2518 : Int) : Option ((Int × Int) ⊕ ((Int) ⊕ ((Int × Int) ⊕ ((Int) ⊕ (Int))))) :=
  if x2518 < (t1908.length : Int) then
    if (0 : Int) ≤ x2518 ∧ x2518 < (t1908.length : Int) then
      jn (cycles_Bad.l3 a0 a1 x1073 x1692 t1908 x2518 x2517 0) (fun (x3548 : Int) =>
        nx (x3548, IntKind.i64.wrap (x2518 + 1)))
    else none
  else
    dn (.inl x2517)
noncomputable def cycles_Bad.l2 (a0 : List (List Int)) (a1 : List Int) (x1073 : List Int) (x1692 : Int) (t1908 : (List (List Int))) (x2517 : Int) (x2518 : Int) : Option ((Int) ⊕ ((Int × Int) ⊕ ((Int) ⊕ (Int)))) := iter (fun t_ : Int × Int => cycles_Bad.l2b a0 a1 x1073 x1692 t1908 t_.1 t_.2) (x2517, x2518)
noncomputable def cycles_Bad.l1b (a0 : List (List Int)) (a1 : List Int) (x1073 : List Int) (x1691 : Int) (x1692 : Int) : Option ((Int × Int) ⊕ ((Int) ⊕ (Int))) :=
  if x1692 < (x1073.length : Int) then
    if (0 : Int) ≤ x1692 ∧ x1692 < (x1073.length : Int) then
      (cycles_parts_v2.f a0 a1 (gt x1073 x1692)).bind fun t1908 =>
        jn (cycles_Bad.l2 a0 a1 x1073 x1692 t1908 x1691 0) (fun (x2719 : Int) =>
          nx (x2719, IntKind.i64.wrap (x1692 + 1)))
    else none
  else
    dn (.inl x1691)
noncomputable def cycles_Bad.l1 (a0 : List (List Int)) (a1 : List Int) (x1073 : List Int) (x1691 : Int) (x1692 : Int) : Option ((Int) ⊕ (Int)) := iter (fun t_ : Int × Int => cycles_Bad.l1b a0 a1 x1073 t_.1 t_.2) (x1691, x1692)
noncomputable def cycles_Bad.l0b (a0 : List (List Int)) (a1 : List Int) (a2 : Int) (x867 : List Int) (x872 : Int) : Option (((List Int) × Int) ⊕ (((List Int)) ⊕ (Int))) :=
  if x872 < (a0.length : Int) then
    jn (
      (cycles_Bad_1.f x872 a1).bind fun t4814 =>
        jn (
          if band .i64 t4814 1 = band .i64 a2 1 then
            (slices_Contains_int_int.f x867 t4814).bind fun t5035 =>
              some (.inl (!t5035))
          else
            some (.inl false)) (fun (x5016 : Bool) =>
          if x5016 = true then
            if (x867.length + ([t4814] : List Int).length) * 8 ≤ 140737488355328 then
              some (.inl (x867 ++ ([t4814] : List Int)))
            else none
          else
            some (.inl x867))) (fun (x4809 : List Int) =>
      nx (x4809, IntKind.i64.wrap (x872 + 1)))
  else
    dn (.inl x867)
noncomputable def cycles_Bad.l0 (a0 : List (List Int)) (a1 : List Int) (a2 : Int) (x867 : List Int) (x872 : Int) : Option (((List Int)) ⊕ (Int)) := iter (fun t_ : (List Int) × Int => cycles_Bad.l0b a0 a1 a2 t_.1 t_.2) (x867, x872)
noncomputable def cycles_Bad.f (a0 : List (List Int)) (a1 : List Int) (a2 : Int) : Option Int :=
  jn (cycles_Bad.l0 a0 a1 a2 ([] : List Int) 0) (fun (x1073 : List Int) =>
    jn (cycles_Bad.l1 a0 a1 x1073 (-1) 0) (fun (x1893 : Int) =>
      some x1893))
theorem cycles_Bad.callee : Callee Go.Proofs.Try.prog 22 := ⟨_, Go.Proofs.Try.func22, by kernel_rfl, by kernel_rfl⟩
set_option maxRecDepth 100000 in
set_option maxHeartbeats 2000000 in
theorem cycles_Bad.spec (R : Res) (Fr : List HProp) (A0 : Option Addr) (n0 : Nat) (c0 : Nat) (A1 : Option Addr) (n1 : Nat) (c1 : Nat) (a0 : List (List Int)) (a1 : List Int) (a2 : Int) (hr0 : RdS ((Fl.int .i64).rep).slice R.heap A0 a0) (hn0 : a0.length = n0) (hc0 : n0 ≤ c0) (hr1 : RdS (Fl.int .i64).rep R.heap A1 a1) (hn1 : a1.length = n1) (hc1 : n1 ≤ c1) {r : Int} (hrun : cycles_Bad.f a0 a1 a2 = some r) :
    Spec Go.Proofs.Try.prog 22 [.slice A0 n0 c0, .slice A1 n1 c1, .int .i64 a2] R (Fr) (fun v l' => v = .int .i64 r ∧ Fr = l') := by
  subst hn0
  subst hn1
  refine Spec.of Go.Proofs.Try.func22 rfl rfl ?_
  unfold cycles_Bad.f at hrun
  have hrun := brun hrun
  refine At.seq ?_
  refine At.region ?_
  refine At.box rfl rfl (cs := [.slice A1 a1.length c1]) rfl rfl (fun b259 => ?_)
  refine At.run 1 rfl ?_
  refine At.nil ?_
  refine At.thn ?_
  refine At.seq ?_
  refine At.region ?_
  refine At.run 1 rfl ?_
  refine At.alloc rfl rfl rfl (fun b260 => ?_)
  refine At.store rfl rfl rfl rfl .z rfl rfl rfl (.c .n) ?_
  refine At.nil ?_
  refine At.thn ?_
  refine At.seq ?_
  refine At.region ?_
  refine At.run 1 rfl ?_
  refine At.nil ?_
  refine At.thn ?_
  refine At.seq ?_
  refine At.seq ?_
  refine At.region ?_
  refine At.run 3 rfl ?_
  refine At.nil ?_
  refine At.thn ?_
  refine At.block ?_
  obtain ⟨G1078, hl1079, hr1080, hrun⟩ := bjoin hrun
  obtain ⟨o1081, hlo1082, ho1083⟩ := bsome hrun
  clear hrun
  unfold cycles_Bad.l0 at hlo1082
  obtain ⟨m1084, hit1086⟩ := iter_some.1 hlo1082
  clear hlo1082
  refine At.nilRow (Fl.int .i64) 3 ?_
  refine At.loopJ (X := (List Int) × Int × Nat × (Option Addr) × Nat) (Y := (List Int) × Nat × (Option Addr) × Nat) (e0 := 0) (fun s_ => [(0, .slice A0 a0.length c0), (2, .int .i64 a2), (7, .pointer (some ⟨b260, 0, none⟩)), (8, .slice s_.2.2.2.1 s_.2.2.1 s_.2.2.2.2), (20, .int .i64 (a0.length : Int)), (21, .int .i64 s_.2.1)]) (fun s_ => row (Fl.int .i64) 3 s_.2.2.2.1 s_.2.2.1 s_.2.2.2.2 s_.1 :: pt b260 (.cells [.func (.func 38) #[] #[.pointer (some ⟨b259, 0, none⟩)]].toArray 62) :: pt b259 (.cells [.slice A1 a1.length c1].toArray 26) :: Fr) (fun m_ => fun s_ => iterN (fun t_ : (List Int) × Int => cycles_Bad.l0b a0 a1 a2 t_.1 t_.2) m_ (s_.1, s_.2.1) = some o1081 ∧ s_.1.length = s_.2.2.1) m1084 (([] : List Int), 0, 0, none, 0) ⟨hit1086, rfl⟩ (fun s_ => [(0, .slice A0 a0.length c0), (7, .pointer (some ⟨b260, 0, none⟩)), (8, .slice s_.2.2.1 s_.2.1 s_.2.2.2)]) (fun s_ => row (Fl.int .i64) 3 s_.2.2.1 s_.2.1 s_.2.2.2 s_.1 :: pt b260 (.cells [.func (.func 38) #[] #[.pointer (some ⟨b259, 0, none⟩)]].toArray 62) :: pt b259 (.cells [.slice A1 a1.length c1].toArray 26) :: Fr) (fun s_ => G1078 (.inl s_.1) = some r ∧ s_.1.length = s_.2.1) (fun a w e hs => ⟨e.sub ⟨rfl, rfl, rfl, rfl, rfl, rfl, trivial⟩, hs⟩) ?_ (fun J1088 => ?_)
  · rintro ⟨x1073, w1074, w1076, w1077⟩ ⟨hrun, hn1075⟩
    obtain rfl : x1073.length = w1074 := hn1075
    have hrun := (hl1079 _).symm.trans hrun
    · refine At.ibx ?_
      refine At.thn ?_
      refine At.seq ?_
      refine At.region ?_
      refine At.run 1 rfl ?_
      refine At.nil ?_
      refine At.thn ?_
      refine At.seq ?_
      refine At.seq ?_
      refine At.region ?_
      refine At.run 3 rfl ?_
      refine At.nil ?_
      refine At.thn ?_
      refine At.block ?_
      obtain ⟨G1894, hl1895, hr1896, hrun⟩ := bjoin hrun
      obtain ⟨o1897, hlo1898, ho1899⟩ := bsome hrun
      clear hrun
      unfold cycles_Bad.l1 at hlo1898
      obtain ⟨m1900, hit1902⟩ := iter_some.1 hlo1898
      clear hlo1898
      refine At.loopJ (X := Int × Int) (Y := Int) (e0 := 2) (fun s_ => [(0, .slice A0 a0.length c0), (7, .pointer (some ⟨b260, 0, none⟩)), (11, .int .i64 s_.1), (43, .slice w1076 x1073.length w1077), (44, .int .i64 (x1073.length : Int)), (45, .int .i64 s_.2)]) (fun s_ => row (Fl.int .i64) 3 w1076 x1073.length w1077 x1073 :: pt b260 (.cells [.func (.func 38) #[] #[.pointer (some ⟨b259, 0, none⟩)]].toArray 62) :: pt b259 (.cells [.slice A1 a1.length c1].toArray 26) :: Fr) (fun m_ => fun s_ => iterN (fun t_ : Int × Int => cycles_Bad.l1b a0 a1 x1073 t_.1 t_.2) m_ (s_.1, s_.2) = some o1897) m1900 ((-1), 0) hit1902 (fun x1893 => [(11, .int .i64 x1893)]) (fun x1893 => row (Fl.int .i64) 3 w1076 x1073.length w1077 x1073 :: pt b260 (.cells [.func (.func 38) #[] #[.pointer (some ⟨b259, 0, none⟩)]].toArray 62) :: pt b259 (.cells [.slice A1 a1.length c1].toArray 26) :: Fr) (fun x1893 => G1894 (.inl x1893) = some r) (fun a w e hs => ⟨e.sub ⟨rfl, rfl, rfl, rfl, rfl, rfl, trivial⟩, hs⟩) ?_ (fun J1904 => ?_)
      · rintro x1893 hrun
        have hrun := (hl1895 _).symm.trans hrun
        · refine At.ibx ?_
          refine At.thn ?_
          refine At.seq ?_
          refine At.region ?_
          refine At.run 2 rfl ?_
          refine At.nil ?_
          refine At.thn ?_
          refine At.ret ?_
          refine At.drop .z ?_
          refine At.drop .z ?_
          refine At.drop .z ?_
          obtain rfl := (bret hrun).symm
          exact At.res (.inl rfl) rfl rfl ⟨rfl, rfl⟩
      · clear hit1902 m1900
        rintro m1900 ⟨x1691, x1692⟩ hit1902
        obtain ⟨m1901, f_, hlt1903, hf_, hrun⟩ := bit hit1902
        clear hit1902
        have hrun : (cycles_Bad.l1b a0 a1 x1073 x1691 x1692).bind _ = some o1897 := hrun
        unfold cycles_Bad.l1b at hrun
        · refine At.seq ?_
          refine At.region ?_
          refine At.run 1 rfl ?_
          refine At.nil ?_
          refine At.thn ?_
          refine At.seq ?_
          rcases bite hrun with ⟨h1905, hrun⟩ | ⟨h1905, hrun⟩
          · · refine At.condT rfl (decide_eq_true h1905) ?_
              refine At.skip ?_
              refine At.thn ?_
              refine At.seq ?_
              refine At.block ?_
              refine At.seq ?_
              refine At.region ?_
              obtain ⟨h1906, hrun⟩ := bnone hrun
              refine At.y (Y.ix .z rfl rfl rfl rfl rfl rfl h1906.1 h1906.2) rfl rfl rfl ?_
              refine At.y (Y.ld .z (q := 0) rfl rfl h1906.1 h1906.2 rfl rfl rfl) rfl rfl rfl ?_
              refine At.alloc rfl rfl rfl (fun b1907 => ?_)
              refine At.store rfl rfl rfl rfl .z rfl rfl rfl (.c .n) ?_
              refine At.nil ?_
              refine At.thn ?_
              refine At.seq ?_
              refine At.region ?_
              refine At.run 2 rfl ?_
              refine At.frt (.s (.s (.s .z))) ?_
              refine At.frt (.s (.s (.s .z))) ?_
              obtain ⟨t1908, hc1909, hrun⟩ := bbind hrun
              refine At.call rfl cycles_parts_v2.callee rfl rfl rfl (cycles_parts_v2.spec _ _ A0 a0.length c0 b260 b259 A1 a1.length c1 b1907 a0 a1 (gt x1073 x1692) hr0 rfl hc0 hr1 rfl hc1 hc1909) ?_
              rintro _ _ ⟨w1910, w1911, w1912, rfl, rfl, rfl⟩
              refine At.run 2 rfl ?_
              refine At.nil ?_
              refine At.thn ?_
              refine At.block ?_
              obtain ⟨G2720, hl2721, hr2722, hrun⟩ := bjoin hrun
              obtain ⟨o2723, hlo2724, ho2725⟩ := bsome hrun
              clear hrun
              unfold cycles_Bad.l2 at hlo2724
              obtain ⟨m2726, hit2728⟩ := iter_some.1 hlo2724
              clear hlo2724
              refine At.loopJ (X := Int × Int) (Y := Int) (e0 := 4) (fun s_ => [(0, .slice A0 a0.length c0), (7, .pointer (some ⟨b260, 0, none⟩)), (11, .int .i64 s_.1), (13, .pointer (some ⟨b1907, 0, none⟩)), (43, .slice w1076 x1073.length w1077), (44, .int .i64 (x1073.length : Int)), (45, .int .i64 x1692), (51, .slice w1911 t1908.length w1912), (52, .int .i64 (t1908.length : Int)), (53, .int .i64 s_.2)]) (fun s_ => rows (Fl.int .i64) 3 26 w1911 t1908.length w1912 t1908 :: pt b260 (.cells [.func (.func 38) #[] #[.pointer (some ⟨b259, 0, none⟩)]].toArray 62) :: pt b259 (.cells [.slice A1 a1.length c1].toArray 26) :: pt b1907 (.cells [.int .i64 (gt x1073 x1692)].toArray 3) :: row (Fl.int .i64) 3 w1076 x1073.length w1077 x1073 :: Fr) (fun m_ => fun s_ => iterN (fun t_ : Int × Int => cycles_Bad.l2b a0 a1 x1073 x1692 t1908 t_.1 t_.2) m_ (s_.1, s_.2) = some o2723) m2726 (x1691, 0) hit2728 (fun x2719 => [(0, .slice A0 a0.length c0), (7, .pointer (some ⟨b260, 0, none⟩)), (11, .int .i64 x2719), (43, .slice w1076 x1073.length w1077), (44, .int .i64 (x1073.length : Int)), (45, .int .i64 x1692)]) (fun x2719 => rows (Fl.int .i64) 3 26 w1911 t1908.length w1912 t1908 :: pt b260 (.cells [.func (.func 38) #[] #[.pointer (some ⟨b259, 0, none⟩)]].toArray 62) :: pt b259 (.cells [.slice A1 a1.length c1].toArray 26) :: pt b1907 (.cells [.int .i64 (gt x1073 x1692)].toArray 3) :: row (Fl.int .i64) 3 w1076 x1073.length w1077 x1073 :: Fr) (fun x2719 => G2720 (.inl x2719) = some o1897) (fun a w e hs => ⟨e.sub ⟨rfl, rfl, rfl, rfl, rfl, rfl, rfl, rfl, rfl, rfl, trivial⟩, hs⟩) ?_ (fun J2730 => ?_)
              · rintro x2719 hrun
                have hrun := (hl2721 _).symm.trans hrun
                · refine At.ibx ?_
                  refine At.ibn ?_
                  refine At.thn ?_
                  refine At.region ?_
                  refine At.run 2 rfl ?_
                  refine At.nil ?_
                  refine At.drop .z ?_
                  refine At.drop (.s (.s .z)) ?_
                  refine At.frt (.s .z) ?_
                  refine At.frt (.s .z) ?_
                  refine At.frt (.s (.s .z)) ?_
                  have hrun := bnx hf_ hrun
                  exact fun a w e hs => ⟨m1901, (x2719, IntKind.i64.wrap (x1692 + 1)), hlt1903, hrun, e.sub ⟨rfl, rfl, rfl, rfl, rfl, rfl, trivial⟩, hs⟩
              · clear hit2728 m2726
                rintro m2726 ⟨x2517, x2518⟩ hit2728
                obtain ⟨m2727, f_, hlt2729, hf_, hrun⟩ := bit hit2728
                clear hit2728
                have hrun : (cycles_Bad.l2b a0 a1 x1073 x1692 t1908 x2517 x2518).bind _ = some o2723 := hrun
                unfold cycles_Bad.l2b at hrun
                · refine At.seq ?_
                  refine At.region ?_
                  refine At.run 1 rfl ?_
                  refine At.nil ?_
                  refine At.thn ?_
                  refine At.seq ?_
                  rcases bite hrun with ⟨h2731, hrun⟩ | ⟨h2731, hrun⟩
                  · · refine At.condT rfl (decide_eq_true h2731) ?_
                      refine At.skip ?_
                      refine At.thn ?_
                      refine At.seq ?_
                      refine At.block ?_
                      refine At.seq ?_
                      refine At.region ?_
                      refine At.freezeRows .z fun R2732 hr2733 hn2734 hc2735 hs2736 th2737 => ?_
                      obtain ⟨h2738, hrun⟩ := bnone hrun
                      refine At.y (Y.ixRd hr2733 hn2734 rfl rfl rfl rfl rfl rfl h2738.1 h2738.2) rfl rfl rfl ?_
                      obtain ⟨A2739, c2740, hc2741, hr2742, hy2743⟩ := RdS.rowAt (P := Go.Proofs.Try.prog) hr2733 (Sub.refl _) hn2734 h2738.1 h2738.2
                      refine At.y (hy2743 rfl rfl rfl rfl) rfl rfl rfl ?_
                      refine At.run 1 rfl ?_
                      refine At.nil ?_
                      refine At.thn ?_
                      refine At.seq ?_
                      refine At.region ?_
                      refine At.run 3 rfl ?_
                      refine At.nil ?_
                      refine At.thn ?_
                      refine At.block ?_
                      obtain ⟨G3549, hl3550, hr3551, hrun⟩ := bjoin hrun
                      obtain ⟨o3552, hlo3553, ho3554⟩ := bsome hrun
                      clear hrun
                      unfold cycles_Bad.l3 at hlo3553
                      obtain ⟨m3555, hit3557⟩ := iter_some.1 hlo3553
                      clear hlo3553
                      refine At.loopJ (X := Int × Int) (Y := Int) (e0 := 6) (fun s_ => [(0, .slice A0 a0.length c0), (7, .pointer (some ⟨b260, 0, none⟩)), (11, .int .i64 s_.1), (13, .pointer (some ⟨b1907, 0, none⟩)), (15, .slice A2739 ((gt t1908 x2518).length) c2740), (43, .slice w1076 x1073.length w1077), (44, .int .i64 (x1073.length : Int)), (45, .int .i64 x1692), (51, .slice w1911 t1908.length w1912), (52, .int .i64 (t1908.length : Int)), (53, .int .i64 x2518), (57, .slice A2739 ((gt t1908 x2518).length) c2740), (58, .int .i64 ((gt t1908 x2518).length : Int)), (59, .int .i64 s_.2)]) (fun s_ => pt b260 (.cells [.func (.func 38) #[] #[.pointer (some ⟨b259, 0, none⟩)]].toArray 62) :: pt b259 (.cells [.slice A1 a1.length c1].toArray 26) :: pt b1907 (.cells [.int .i64 (gt x1073 x1692)].toArray 3) :: row (Fl.int .i64) 3 w1076 x1073.length w1077 x1073 :: Fr) (fun m_ => fun s_ => iterN (fun t_ : Int × Int => cycles_Bad.l3b a0 a1 x1073 x1692 t1908 x2518 t_.1 t_.2) m_ (s_.1, s_.2) = some o3552) m3555 (x2517, 0) hit3557 (fun x3548 => [(0, .slice A0 a0.length c0), (7, .pointer (some ⟨b260, 0, none⟩)), (11, .int .i64 x3548), (13, .pointer (some ⟨b1907, 0, none⟩)), (43, .slice w1076 x1073.length w1077), (44, .int .i64 (x1073.length : Int)), (45, .int .i64 x1692), (51, .slice w1911 t1908.length w1912), (52, .int .i64 (t1908.length : Int)), (53, .int .i64 x2518)]) (fun x3548 => pt b260 (.cells [.func (.func 38) #[] #[.pointer (some ⟨b259, 0, none⟩)]].toArray 62) :: pt b259 (.cells [.slice A1 a1.length c1].toArray 26) :: pt b1907 (.cells [.int .i64 (gt x1073 x1692)].toArray 3) :: row (Fl.int .i64) 3 w1076 x1073.length w1077 x1073 :: Fr) (fun x3548 => G3549 (.inl x3548) = some o2723) (fun a w e hs => ⟨e.sub ⟨rfl, rfl, rfl, rfl, rfl, rfl, rfl, rfl, rfl, rfl, rfl, rfl, rfl, rfl, trivial⟩, hs⟩) ?_ (fun J3559 => ?_)
                      · rintro x3548 hrun
                        have hrun := (hl3550 _).symm.trans hrun
                        · refine At.ibx ?_
                          refine At.ibn ?_
                          refine At.thn ?_
                          refine At.region ?_
                          refine At.run 2 rfl ?_
                          refine At.nil ?_
                          refine At.thaw th2737 ?_
                          have hrun := bnx hf_ hrun
                          exact fun a w e hs => ⟨m2727, (x3548, IntKind.i64.wrap (x2518 + 1)), hlt2729, hrun, e.sub ⟨rfl, rfl, rfl, rfl, rfl, rfl, rfl, rfl, rfl, rfl, trivial⟩, hs⟩
                      · clear hit3557 m3555
                        rintro m3555 ⟨x3346, x3347⟩ hit3557
                        obtain ⟨m3556, f_, hlt3558, hf_, hrun⟩ := bit hit3557
                        clear hit3557
                        have hrun : (cycles_Bad.l3b a0 a1 x1073 x1692 t1908 x2518 x3346 x3347).bind _ = some o3552 := hrun
                        unfold cycles_Bad.l3b at hrun
                        · refine At.seq ?_
                          refine At.region ?_
                          refine At.run 1 rfl ?_
                          refine At.nil ?_
                          refine At.thn ?_
                          refine At.seq ?_
                          rcases bite hrun with ⟨h3560, hrun⟩ | ⟨h3560, hrun⟩
                          · · refine At.condT rfl (decide_eq_true h3560) ?_
                              refine At.skip ?_
                              refine At.thn ?_
                              refine At.seq ?_
                              obtain ⟨G3561, hl3562, hr3563, hrun⟩ := bjoin hrun
                              refine At.join (X := Int) (fun x3765 => [(0, .slice A0 a0.length c0), (7, .pointer (some ⟨b260, 0, none⟩)), (11, .int .i64 x3765), (13, .pointer (some ⟨b1907, 0, none⟩)), (15, .slice A2739 ((gt t1908 x2518).length) c2740), (43, .slice w1076 x1073.length w1077), (44, .int .i64 (x1073.length : Int)), (45, .int .i64 x1692), (51, .slice w1911 t1908.length w1912), (52, .int .i64 (t1908.length : Int)), (53, .int .i64 x2518), (57, .slice A2739 ((gt t1908 x2518).length) c2740), (58, .int .i64 ((gt t1908 x2518).length : Int)), (59, .int .i64 x3347)]) (fun x3765 => pt b260 (.cells [.func (.func 38) #[] #[.pointer (some ⟨b259, 0, none⟩)]].toArray 62) :: pt b259 (.cells [.slice A1 a1.length c1].toArray 26) :: pt b1907 (.cells [.int .i64 (gt x1073 x1692)].toArray 3) :: row (Fl.int .i64) 3 w1076 x1073.length w1077 x1073 :: Fr) (fun x3765 => G3561 (.inl x3765) = some o3552) ?_ (fun J3564 => ?_)
                              · rintro x3765 hrun
                                have hrun := (hl3562 _).symm.trans hrun
                                · refine At.region ?_
                                  refine At.run 2 rfl ?_
                                  refine At.nil ?_
                                  have hrun := bnx hf_ hrun
                                  exact fun a w e hs => ⟨m3556, (x3765, IntKind.i64.wrap (x3347 + 1)), hlt3558, hrun, e.sub ⟨rfl, rfl, rfl, rfl, rfl, rfl, rfl, rfl, rfl, rfl, rfl, rfl, rfl, rfl, trivial⟩, hs⟩
                              · · refine At.block ?_
                                  refine At.seq ?_
                                  refine At.region ?_
                                  obtain ⟨h3766, hrun⟩ := bnone hrun
                                  refine At.y (Y.ixRd hr2742 rfl rfl rfl rfl rfl rfl rfl h3766.1 h3766.2) rfl rfl rfl ?_
                                  refine At.y (Y.ldFl hr2742 rfl (q := 0) rfl rfl h3766.1 h3766.2 rfl rfl rfl) rfl rfl rfl ?_
                                  refine At.run 1 rfl ?_
                                  refine At.nil ?_
                                  refine At.thn ?_
                                  refine At.seq ?_
                                  refine At.quiet (by kernel_rfl) ?_
                                  refine At.Quiet.y (Y.load rfl rfl .z rfl rfl rfl) rfl rfl rfl ?_
                                  refine At.Quiet.run 1 rfl ?_
                                  obtain ⟨t3767, hc3768, hrun⟩ := bbind hrun
                                  refine At.Quiet.call rfl cycles_Bad_1.callee rfl rfl rfl (Spec.frt (.s .z) (cycles_Bad_1.spec _ _ b259 A1 a1.length c1 (gt (gt t1908 x2518) x3347) a1 (RdS.mono hs2736 hr1) rfl hc1 hc3768)) (fun _ _ h_ => ⟨h_.1, fun _ hs => h_.2 ▸ hs⟩) ?_
                                  refine At.Quiet.y (Y.load rfl rfl (.s (.s .z)) rfl rfl rfl) rfl rfl rfl ?_
                                  refine At.Quiet.run 2 rfl ?_
                                  obtain ⟨G3970, hl3971, hr3972, hrun⟩ := bjoin hrun
                                  refine At.Quiet.joinO 12 (X := Bool) (fun x3969 => [(0, .slice A0 a0.length c0), (7, .pointer (some ⟨b260, 0, none⟩)), (11, .int .i64 x3346), (13, .pointer (some ⟨b1907, 0, none⟩)), (15, .slice A2739 ((gt t1908 x2518).length) c2740), (17, .int .i64 (gt (gt t1908 x2518) x3347)), (43, .slice w1076 x1073.length w1077), (44, .int .i64 (x1073.length : Int)), (45, .int .i64 x1692), (51, .slice w1911 t1908.length w1912), (52, .int .i64 (t1908.length : Int)), (53, .int .i64 x2518), (57, .slice A2739 ((gt t1908 x2518).length) c2740), (58, .int .i64 ((gt t1908 x2518).length : Int)), (59, .int .i64 x3347), (80, .bool x3969)]) (fun x3969 => pt b260 (.cells [.func (.func 38) #[] #[.pointer (some ⟨b259, 0, none⟩)]].toArray 62) :: pt b259 (.cells [.slice A1 a1.length c1].toArray 26) :: pt b1907 (.cells [.int .i64 (gt x1073 x1692)].toArray 3) :: row (Fl.int .i64) 3 w1076 x1073.length w1077 x1073 :: Fr) (fun x3969 => G3970 (.inl x3969) = some o3552) ?_ (fun J3973 => ?_)
                                  · rintro x3969 hrun
                                    have hrun := (hl3971 _).symm.trans hrun
                                    · refine At.Quiet.run 1 rfl ?_
                                      obtain ⟨G4175, hl4176, hr4177, hrun⟩ := bjoin hrun
                                      refine At.Quiet.joinO 8 (X := Bool) (fun x4174 => [(0, .slice A0 a0.length c0), (7, .pointer (some ⟨b260, 0, none⟩)), (11, .int .i64 x3346), (13, .pointer (some ⟨b1907, 0, none⟩)), (15, .slice A2739 ((gt t1908 x2518).length) c2740), (17, .int .i64 (gt (gt t1908 x2518) x3347)), (43, .slice w1076 x1073.length w1077), (44, .int .i64 (x1073.length : Int)), (45, .int .i64 x1692), (51, .slice w1911 t1908.length w1912), (52, .int .i64 (t1908.length : Int)), (53, .int .i64 x2518), (57, .slice A2739 ((gt t1908 x2518).length) c2740), (58, .int .i64 ((gt t1908 x2518).length : Int)), (59, .int .i64 x3347), (89, .bool x4174)]) (fun x4174 => pt b260 (.cells [.func (.func 38) #[] #[.pointer (some ⟨b259, 0, none⟩)]].toArray 62) :: pt b259 (.cells [.slice A1 a1.length c1].toArray 26) :: pt b1907 (.cells [.int .i64 (gt x1073 x1692)].toArray 3) :: row (Fl.int .i64) 3 w1076 x1073.length w1077 x1073 :: Fr) (fun x4174 => G4175 (.inl x4174) = some o3552) ?_ (fun J4178 => ?_)
                                      · rintro x4174 hrun
                                        have hrun := (hl4176 _).symm.trans hrun
                                        · refine At.Quiet.nil ?_
                                          refine At.thn ?_
                                          rcases bite hrun with ⟨h4179, hrun⟩ | ⟨h4179, hrun⟩
                                          · · refine At.condT rfl h4179 ?_
                                              refine At.region ?_
                                              refine At.run 2 rfl ?_
                                              refine At.nil ?_
                                              refine At.ibn ?_
                                              refine At.thn ?_
                                              exact fun a w e hs => J3564 (gt (gt t1908 x2518) x3347) hrun a w (e.sub ⟨rfl, rfl, rfl, rfl, rfl, rfl, rfl, rfl, rfl, rfl, rfl, rfl, rfl, rfl, trivial⟩) hs
                                          · · refine At.condF rfl (bn h4179) ?_
                                              refine At.skip ?_
                                              refine At.ibn ?_
                                              refine At.thn ?_
                                              exact fun a w e hs => J3564 x3346 hrun a w (e.sub ⟨rfl, rfl, rfl, rfl, rfl, rfl, rfl, rfl, rfl, rfl, rfl, rfl, rfl, rfl, trivial⟩) hs
                                      · · rcases bite hrun with ⟨h4180, hrun⟩ | ⟨h4180, hrun⟩
                                          · · refine At.Quiet.know (t := 81) rfl h4180 ?_
                                              refine At.Quiet.run 3 rfl ?_
                                              obtain ⟨G4383, hl4384, hr4385, hrun⟩ := bjoin hrun
                                              refine At.Quiet.joinO 4 (X := Bool × Bool) (fun s_ => [(0, .slice A0 a0.length c0), (7, .pointer (some ⟨b260, 0, none⟩)), (11, .int .i64 x3346), (13, .pointer (some ⟨b1907, 0, none⟩)), (15, .slice A2739 ((gt t1908 x2518).length) c2740), (17, .int .i64 (gt (gt t1908 x2518) x3347)), (43, .slice w1076 x1073.length w1077), (44, .int .i64 (x1073.length : Int)), (45, .int .i64 x1692), (51, .slice w1911 t1908.length w1912), (52, .int .i64 (t1908.length : Int)), (53, .int .i64 x2518), (57, .slice A2739 ((gt t1908 x2518).length) c2740), (58, .int .i64 ((gt t1908 x2518).length : Int)), (59, .int .i64 x3347), (81, .bool true), (82, .int .i64 x3346), (83, .bool (decide (x3346 < 0))), (84, .bool s_.1), (88, .bool s_.2)]) (fun s_ => pt b260 (.cells [.func (.func 38) #[] #[.pointer (some ⟨b259, 0, none⟩)]].toArray 62) :: pt b259 (.cells [.slice A1 a1.length c1].toArray 26) :: pt b1907 (.cells [.int .i64 (gt x1073 x1692)].toArray 3) :: row (Fl.int .i64) 3 w1076 x1073.length w1077 x1073 :: Fr) (fun s_ => G4383 (.inl (s_.1, s_.2)) = some o3552) ?_ (fun J4386 => ?_)
                                              · rintro ⟨x4381, x4382⟩ hrun
                                                have hrun := (hl4384 _).symm.trans hrun
                                                · refine At.Quiet.run 1 rfl ?_
                                                  exact At.Quiet.of (J4178 x4382 hrun) ⟨rfl, rfl, rfl, rfl, rfl, rfl, rfl, rfl, rfl, rfl, rfl, rfl, rfl, rfl, rfl, rfl, trivial⟩
                                              · · rcases bite hrun with ⟨h4387, hrun⟩ | ⟨h4387, hrun⟩
                                                  · · refine At.Quiet.know (t := 84) rfl (decide_eq_true h4387) ?_
                                                      refine At.Quiet.run 4 rfl ?_
                                                      exact At.Quiet.of (J4386 (true, true) hrun) ⟨rfl, rfl, rfl, rfl, rfl, rfl, rfl, rfl, rfl, rfl, rfl, rfl, rfl, rfl, rfl, rfl, rfl, rfl, rfl, rfl, trivial⟩
                                                  · · refine At.Quiet.know (t := 84) rfl (decide_eq_false h4387) ?_
                                                      refine At.Quiet.run 4 rfl ?_
                                                      exact At.Quiet.of (J4386 (false, decide (gt (gt t1908 x2518) x3347 < x3346)) hrun) ⟨rfl, rfl, rfl, rfl, rfl, rfl, rfl, rfl, rfl, rfl, rfl, rfl, rfl, rfl, rfl, rfl, rfl, rfl, rfl, rfl, trivial⟩
                                          · · refine At.Quiet.know (t := 81) rfl (bn h4180) ?_
                                              refine At.Quiet.run 8 rfl ?_
                                              exact At.Quiet.of (J4178 false hrun) ⟨rfl, rfl, rfl, rfl, rfl, rfl, rfl, rfl, rfl, rfl, rfl, rfl, rfl, rfl, rfl, rfl, trivial⟩
                                  · · rcases bite hrun with ⟨h4388, hrun⟩ | ⟨h4388, hrun⟩
                                      · · refine At.Quiet.know (t := 68) rfl (decide_eq_true h4388) ?_
                                          refine At.Quiet.run 4 rfl ?_
                                          obtain ⟨G4591, hl4592, hr4593, hrun⟩ := bjoin hrun
                                          refine At.Quiet.joinO 7 (X := Bool × Bool) (fun s_ => [(0, .slice A0 a0.length c0), (7, .pointer (some ⟨b260, 0, none⟩)), (11, .int .i64 x3346), (13, .pointer (some ⟨b1907, 0, none⟩)), (15, .slice A2739 ((gt t1908 x2518).length) c2740), (17, .int .i64 (gt (gt t1908 x2518) x3347)), (43, .slice w1076 x1073.length w1077), (44, .int .i64 (x1073.length : Int)), (45, .int .i64 x1692), (51, .slice w1911 t1908.length w1912), (52, .int .i64 (t1908.length : Int)), (53, .int .i64 x2518), (57, .slice A2739 ((gt t1908 x2518).length) c2740), (58, .int .i64 ((gt t1908 x2518).length : Int)), (59, .int .i64 x3347), (68, .bool true), (69, .slice A2739 ((gt t1908 x2518).length) c2740), (70, .int .i64 ((gt t1908 x2518).length : Int)), (71, .bool (decide (1 < ((gt t1908 x2518).length : Int)))), (72, .bool s_.1), (79, .bool s_.2)]) (fun s_ => pt b260 (.cells [.func (.func 38) #[] #[.pointer (some ⟨b259, 0, none⟩)]].toArray 62) :: pt b259 (.cells [.slice A1 a1.length c1].toArray 26) :: pt b1907 (.cells [.int .i64 (gt x1073 x1692)].toArray 3) :: row (Fl.int .i64) 3 w1076 x1073.length w1077 x1073 :: Fr) (fun s_ => G4591 (.inl (s_.1, s_.2)) = some o3552) ?_ (fun J4594 => ?_)
                                          · rintro ⟨x4589, x4590⟩ hrun
                                            have hrun := (hl4592 _).symm.trans hrun
                                            · refine At.Quiet.run 1 rfl ?_
                                              exact At.Quiet.of (J3973 x4590 hrun) ⟨rfl, rfl, rfl, rfl, rfl, rfl, rfl, rfl, rfl, rfl, rfl, rfl, rfl, rfl, rfl, rfl, trivial⟩
                                          · · rcases bite hrun with ⟨h4595, hrun⟩ | ⟨h4595, hrun⟩
                                              · · refine At.Quiet.know (t := 72) rfl (decide_eq_true h4595) ?_
                                                  refine At.Quiet.run 7 rfl ?_
                                                  exact At.Quiet.of (J4594 (true, true) hrun) ⟨rfl, rfl, rfl, rfl, rfl, rfl, rfl, rfl, rfl, rfl, rfl, rfl, rfl, rfl, rfl, rfl, rfl, rfl, rfl, rfl, rfl, trivial⟩
                                              · · refine At.Quiet.know (t := 72) rfl (decide_eq_false h4595) ?_
                                                  refine At.Quiet.run 2 rfl ?_
                                                  obtain ⟨h4596, hrun⟩ := bnone hrun
                                                  refine At.Quiet.y (Y.ixRd (RdS.mono hs2736 hr0) rfl rfl rfl rfl rfl rfl rfl h4596.1 h4596.2) rfl rfl rfl ?_
                                                  obtain ⟨A4597, c4598, hc4599, hr4600, hy4601⟩ := RdS.rowAt (P := Go.Proofs.Try.prog) hr0 hs2736 rfl h4596.1 h4596.2
                                                  refine At.Quiet.y (hy4601 rfl rfl rfl rfl) rfl rfl rfl ?_
                                                  refine At.Quiet.run 1 rfl ?_
                                                  obtain ⟨t4602, hc4603, hrun⟩ := bbind hrun
                                                  refine At.Quiet.call rfl slices_Contains_int_int.callee rfl rfl rfl (slices_Contains_int_int.spec _ _ A4597 ((gt a0 (gt (gt t1908 x2518) x3347)).length) c4598 (gt a0 (gt (gt t1908 x2518) x3347)) (gt (gt t1908 x2518) x3347) (RdS.mono hs2736 hr4600) rfl hc4599 hc4603) (fun _ _ h_ => ⟨h_.1, fun _ hs => h_.2 ▸ hs⟩) ?_
                                                  refine At.Quiet.run 1 rfl ?_
                                                  exact At.Quiet.of (J4594 (false, t4602) hrun) ⟨rfl, rfl, rfl, rfl, rfl, rfl, rfl, rfl, rfl, rfl, rfl, rfl, rfl, rfl, rfl, rfl, rfl, rfl, rfl, rfl, rfl, trivial⟩
                                      · · refine At.Quiet.know (t := 68) rfl (decide_eq_false h4388) ?_
                                          refine At.Quiet.run 12 rfl ?_
                                          exact At.Quiet.of (J3973 false hrun) ⟨rfl, rfl, rfl, rfl, rfl, rfl, rfl, rfl, rfl, rfl, rfl, rfl, rfl, rfl, rfl, rfl, trivial⟩
                          · · refine At.condF rfl (decide_eq_false h3560) ?_
                              refine At.exit ?_
                              refine At.the ?_
                              refine At.the ?_
                              exact fun a w e hs => J3559 x3346 (bdn hrun ho3554) a w (e.sub ⟨rfl, rfl, rfl, rfl, rfl, rfl, rfl, rfl, rfl, rfl, trivial⟩) hs
                  · · refine At.condF rfl (decide_eq_false h2731) ?_
                      refine At.exit ?_
                      refine At.the ?_
                      refine At.the ?_
                      exact fun a w e hs => J2730 x2517 (bdn hrun ho2725) a w (e.sub ⟨rfl, rfl, rfl, rfl, rfl, rfl, trivial⟩) hs
          · · refine At.condF rfl (decide_eq_false h1905) ?_
              refine At.exit ?_
              refine At.the ?_
              refine At.the ?_
              exact fun a w e hs => J1904 x1691 (bdn hrun ho1899) a w (e.sub ⟨rfl, trivial⟩) hs
  · clear hit1086 m1084
    rintro m1084 ⟨x867, x872, w868, w870, w871⟩ ⟨hit1086, hn869⟩
    obtain rfl : x867.length = w868 := hn869
    obtain ⟨m1085, f_, hlt1087, hf_, hrun⟩ := bit hit1086
    clear hit1086
    have hrun : (cycles_Bad.l0b a0 a1 a2 x867 x872).bind _ = some o1081 := hrun
    unfold cycles_Bad.l0b at hrun
    · refine At.seq ?_
      refine At.region ?_
      refine At.run 1 rfl ?_
      refine At.nil ?_
      refine At.thn ?_
      refine At.seq ?_
      rcases bite hrun with ⟨h4604, hrun⟩ | ⟨h4604, hrun⟩
      · · refine At.condT rfl (decide_eq_true h4604) ?_
          refine At.skip ?_
          refine At.thn ?_
          refine At.seq ?_
          obtain ⟨G4605, hl4606, hr4607, hrun⟩ := bjoin hrun
          refine At.join (X := (List Int) × Nat × (Option Addr) × Nat) (fun s_ => [(0, .slice A0 a0.length c0), (2, .int .i64 a2), (7, .pointer (some ⟨b260, 0, none⟩)), (8, .slice s_.2.2.1 s_.2.1 s_.2.2.2), (20, .int .i64 (a0.length : Int)), (21, .int .i64 x872)]) (fun s_ => row (Fl.int .i64) 3 s_.2.2.1 s_.2.1 s_.2.2.2 s_.1 :: pt b259 (.cells [.slice A1 a1.length c1].toArray 26) :: pt b260 (.cells [.func (.func 38) #[] #[.pointer (some ⟨b259, 0, none⟩)]].toArray 62) :: Fr) (fun s_ => G4605 (.inl s_.1) = some o1081 ∧ s_.1.length = s_.2.1) ?_ (fun J4608 => ?_)
          · rintro ⟨x4809, w4810, w4812, w4813⟩ ⟨hrun, hn4811⟩
            obtain rfl : x4809.length = w4810 := hn4811
            have hrun := (hl4606 _).symm.trans hrun
            · refine At.region ?_
              refine At.run 2 rfl ?_
              refine At.nil ?_
              refine At.frt (.s .z) ?_
              refine At.frt (.s (.s .z)) ?_
              refine At.frt (.s (.s .z)) ?_
              have hrun := bnx hf_ hrun
              exact fun a w e hs => ⟨m1085, (x4809, IntKind.i64.wrap (x872 + 1), x4809.length, w4812, w4813), hlt1087, ⟨hrun, rfl⟩, e.sub ⟨rfl, rfl, rfl, rfl, rfl, rfl, trivial⟩, hs⟩
          · · refine At.block ?_
              refine At.seq ?_
              refine At.region ?_
              refine At.run 2 rfl ?_
              refine At.nil ?_
              refine At.thn ?_
              refine At.seq ?_
              refine At.region ?_
              refine At.y (Y.load rfl rfl (.s .z) rfl rfl rfl) rfl rfl rfl ?_
              refine At.run 1 rfl ?_
              refine At.frt (.s (.s .z)) ?_
              obtain ⟨t4814, hc4815, hrun⟩ := bbind hrun
              refine At.call rfl cycles_Bad_1.callee rfl rfl rfl (cycles_Bad_1.spec _ _ b259 A1 a1.length c1 x872 a1 hr1 rfl hc1 hc4815) ?_
              rintro _ _ ⟨rfl, rfl⟩
              refine At.run 1 rfl ?_
              refine At.nil ?_
              refine At.thn ?_
              refine At.seq ?_
              refine At.region ?_
              refine At.run 6 rfl ?_
              obtain ⟨G5017, hl5018, hr5019, hrun⟩ := bjoin hrun
              refine At.joinO 5 (X := Bool) (fun x5016 => [(0, .slice A0 a0.length c0), (2, .int .i64 a2), (7, .pointer (some ⟨b260, 0, none⟩)), (8, .slice w870 x867.length w871), (10, .int .i64 t4814), (20, .int .i64 (a0.length : Int)), (21, .int .i64 x872), (37, .bool x5016)]) (fun x5016 => row (Fl.int .i64) 3 w870 x867.length w871 x867 :: pt b259 (.cells [.slice A1 a1.length c1].toArray 26) :: pt b260 (.cells [.func (.func 38) #[] #[.pointer (some ⟨b259, 0, none⟩)]].toArray 62) :: Fr) (fun x5016 => G5017 (.inl x5016) = some o1081) ?_ (fun J5020 => ?_)
              · rintro x5016 hrun
                have hrun := (hl5018 _).symm.trans hrun
                · refine At.nil ?_
                  refine At.thn ?_
                  rcases bite hrun with ⟨h5021, hrun⟩ | ⟨h5021, hrun⟩
                  · · refine At.condT rfl h5021 ?_
                      refine At.region ?_
                      refine At.run 2 rfl ?_
                      refine At.lit rfl (xo := [.tmp 39]) (ys := ([t4814] : List Int)) (Fl.int .i64) rfl rfl rfl rfl rfl rfl rfl rfl rfl rfl rfl (fun A5022 c5023 => ?_)
                      obtain ⟨h5025, hrun⟩ := bnone hrun
                      refine At.append rfl (.s .z) (Src.own .z (by simp)) rfl rfl rfl rfl rfl rfl rfl rfl h5025 (by decide) rfl (fun A5026 c5027 => ?_)
                      refine At.drop (.s .z) ?_
                      refine At.run 1 rfl ?_
                      refine At.nil ?_
                      refine At.ibn ?_
                      refine At.thn ?_
                      exact fun a w e hs => J4608 ((x867 ++ ([t4814] : List Int)), (x867 ++ ([t4814] : List Int)).length, A5026, c5027) ⟨hrun, rfl⟩ a w (e.sub ⟨rfl, rfl, rfl, rfl, rfl, rfl, trivial⟩) hs
                  · · refine At.condF rfl (bn h5021) ?_
                      refine At.skip ?_
                      refine At.ibn ?_
                      refine At.thn ?_
                      exact fun a w e hs => J4608 (x867, x867.length, w870, w871) ⟨hrun, rfl⟩ a w (e.sub ⟨rfl, rfl, rfl, rfl, rfl, rfl, trivial⟩) hs
              · · rcases bite hrun with ⟨h5028, hrun⟩ | ⟨h5028, hrun⟩
                  · · refine At.know (t := 32) rfl (decide_eq_true h5028) ?_
                      refine At.run 2 rfl ?_
                      refine At.freeze (.s .z) fun R5029 hr5030 hn5031 hc5032 hs5033 th5034 => ?_
                      obtain ⟨t5035, hc5036, hrun⟩ := bbind hrun
                      refine At.call rfl slices_Contains_int_int.callee rfl rfl rfl (slices_Contains_int_int.spec _ _ w870 x867.length w871 x867 t4814 hr5030 hn5031 hc5032 hc5036) ?_
                      rintro _ _ ⟨rfl, rfl⟩
                      refine At.run 2 rfl ?_
                      refine At.thaw th5034 ?_
                      exact At.of (J5020 (!t5035) hrun) ⟨rfl, rfl, rfl, rfl, rfl, rfl, rfl, rfl, trivial⟩
                  · · refine At.know (t := 32) rfl (decide_eq_false h5028) ?_
                      refine At.run 5 rfl ?_
                      refine At.frt (.s (.s .z)) ?_
                      refine At.frt (.s .z) ?_
                      refine At.frt (.s (.s .z)) ?_
                      exact At.of (J5020 false hrun) ⟨rfl, rfl, rfl, rfl, rfl, rfl, rfl, rfl, trivial⟩
      · · refine At.condF rfl (decide_eq_false h4604) ?_
          refine At.exit ?_
          refine At.the ?_
          refine At.the ?_
          exact fun a w e hs => J1088 (x867, x867.length, w870, w871) ⟨(bdn hrun ho1083), rfl⟩ a w (e.sub ⟨rfl, rfl, rfl, trivial⟩) hs

noncomputable def bailifflaw15_shown.f  : Option Bool :=
  (cycles_Components.f ([([1] : List Int), ([0, 2] : List Int), ([2] : List Int), ([0] : List Int)] : List (List Int))).bind fun t280 =>
    jn (
      if (t280.length : Int) = 3 then
        if (0 : Int) ≤ 0 ∧ 0 < (t280.length : Int) then
          some (.inl (decide (((gt t280 0).length : Int) = 2)))
        else none
      else
        some (.inl false)) (fun (x487 : Bool) =>
      jn (
        if x487 = true then
          if (0 : Int) ≤ 2 ∧ 2 < (t280.length : Int) then
            if (0 : Int) ≤ 0 ∧ 0 < ((gt t280 2).length : Int) then
              some (.inl (decide (gt (gt t280 2) 0 = 3)))
            else none
          else none
        else
          some (.inl false)) (fun (x692 : Bool) =>
        jn (
          if x692 = true then
            (cycles_Bad.f ([([1] : List Int), ([0, 2] : List Int), ([2] : List Int), ([0] : List Int)] : List (List Int)) ([1, 2, 3, 7] : List Int) 0).bind fun t1129 =>
              some (.inl (decide (t1129 = 1)))
          else
            some (.inl false)) (fun (x897 : Bool) =>
          jn (
            if x897 = true then
              (cycles_Bad.f ([([1] : List Int), ([0, 2] : List Int), ([2] : List Int), ([0] : List Int)] : List (List Int)) ([1, 2, 3, 7] : List Int) 1).bind fun t1117 =>
                some (.inl (decide (t1117 = 2)))
            else
              some (.inl false)) (fun (x1102 : Bool) =>
            some x1102))))
theorem bailifflaw15_shown.callee : Callee Go.Proofs.Try.prog 15 := ⟨_, Go.Proofs.Try.func15, by kernel_rfl, by kernel_rfl⟩
set_option maxRecDepth 100000 in
set_option maxHeartbeats 2000000 in
theorem bailifflaw15_shown.spec (R : Res) (Fr : List HProp)    {r : Bool} (hrun : bailifflaw15_shown.f  = some r) :
    Spec Go.Proofs.Try.prog 15 [] R (Fr) (fun v l' => v = .bool r ∧ Fr = l') := by
  refine Spec.of Go.Proofs.Try.func15 rfl rfl ?_
  unfold bailifflaw15_shown.f at hrun
  have hrun := brun hrun
  refine At.seq ?_
  refine At.region ?_
  refine At.run 1 rfl ?_
  refine At.nil ?_
  refine At.thn ?_
  refine At.seq ?_
  refine At.region ?_
  refine At.lit rfl (xo := [.const (.int .i64 1)]) (ys := ([1] : List Int)) (Fl.int .i64) rfl rfl rfl rfl rfl rfl rfl rfl rfl rfl rfl (fun A259 c260 => ?_)
  refine At.lit rfl (xo := [.const (.int .i64 0), .const (.int .i64 2)]) (ys := ([0, 2] : List Int)) (Fl.int .i64) rfl rfl rfl rfl rfl rfl rfl rfl rfl rfl rfl (fun A262 c263 => ?_)
  refine At.lit rfl (xo := [.const (.int .i64 2)]) (ys := ([2] : List Int)) (Fl.int .i64) rfl rfl rfl rfl rfl rfl rfl rfl rfl rfl rfl (fun A265 c266 => ?_)
  refine At.lit rfl (xo := [.const (.int .i64 0)]) (ys := ([0] : List Int)) (Fl.int .i64) rfl rfl rfl rfl rfl rfl rfl rfl rfl rfl rfl (fun A268 c269 => ?_)
  refine At.litV rfl (xo := [.tmp 3, .tmp 4, .tmp 5, .tmp 6]) (vs := [.slice A259 (([1] : List Int).length) c260, .slice A262 (([0, 2] : List Int).length) c263, .slice A265 (([2] : List Int).length) c266, .slice A268 (([0] : List Int).length) c269]) rfl rfl rfl rfl rfl rfl rfl rfl rfl rfl rfl (fun A271 c272 => ?_)
  refine At.run 1 rfl ?_
  refine At.nil ?_
  refine At.thn ?_
  refine At.seq ?_
  refine At.region ?_
  refine At.run 1 rfl ?_
  refine At.frt (.s .z) ?_
  refine At.frt (.s (.s .z)) ?_
  refine At.frt (.s (.s (.s .z))) ?_
  refine At.frt (.s (.s (.s (.s .z)))) ?_
  refine At.frt (.s (.s (.s (.s .z)))) ?_
  refine At.packRows [(A259, c260), (A262, c263), (A265, c266), (A268, c269)] ([([1] : List Int), ([0, 2] : List Int), ([2] : List Int), ([0] : List Int)] : List (List Int)) (Fl.int .i64) 3 rfl ?_
  refine At.freezeRows .z fun R274 hr275 hn276 hc277 hs278 th279 => ?_
  obtain ⟨t280, hc281, hrun⟩ := bbind hrun
  refine At.call rfl cycles_Components.callee rfl rfl rfl (cycles_Components.spec _ _ A271 (([([1] : List Int), ([0, 2] : List Int), ([2] : List Int), ([0] : List Int)] : List (List Int)).length) c272 ([([1] : List Int), ([0, 2] : List Int), ([2] : List Int), ([0] : List Int)] : List (List Int)) hr275 hn276 hc277 hc281) ?_
  rintro _ _ ⟨w282, w283, w284, rfl, rfl, rfl⟩
  refine At.run 1 rfl ?_
  refine At.nil ?_
  refine At.thn ?_
  refine At.seq ?_
  refine At.region ?_
  refine At.run 4 rfl ?_
  obtain ⟨G488, hl489, hr490, hrun⟩ := bjoin hrun
  refine At.joinO 6 (X := Bool) (fun x487 => [(1, .slice A271 (([([1] : List Int), ([0, 2] : List Int), ([2] : List Int), ([0] : List Int)] : List (List Int)).length) c272), (2, .slice w283 t280.length w284), (19, .bool x487)]) (fun x487 => rows (Fl.int .i64) 3 26 w283 t280.length w284 t280 :: Fr) (fun x487 => G488 (.inl x487) = some r) ?_ (fun J491 => ?_)
  · rintro x487 hrun
    have hrun := (hl489 _).symm.trans hrun
    · refine At.run 1 rfl ?_
      obtain ⟨G693, hl694, hr695, hrun⟩ := bjoin hrun
      refine At.joinO 7 (X := Bool) (fun x692 => [(1, .slice A271 (([([1] : List Int), ([0, 2] : List Int), ([2] : List Int), ([0] : List Int)] : List (List Int)).length) c272), (27, .bool x692)]) (fun x692 => rows (Fl.int .i64) 3 26 w283 t280.length w284 t280 :: Fr) (fun x692 => G693 (.inl x692) = some r) ?_ (fun J696 => ?_)
      · rintro x692 hrun
        have hrun := (hl694 _).symm.trans hrun
        · refine At.run 1 rfl ?_
          obtain ⟨G898, hl899, hr900, hrun⟩ := bjoin hrun
          refine At.joinO 5 (X := Bool) (fun x897 => [(1, .slice A271 (([([1] : List Int), ([0, 2] : List Int), ([2] : List Int), ([0] : List Int)] : List (List Int)).length) c272), (33, .bool x897)]) (fun x897 => rows (Fl.int .i64) 3 26 w283 t280.length w284 t280 :: Fr) (fun x897 => G898 (.inl x897) = some r) ?_ (fun J901 => ?_)
          · rintro x897 hrun
            have hrun := (hl899 _).symm.trans hrun
            · refine At.run 1 rfl ?_
              obtain ⟨G1103, hl1104, hr1105, hrun⟩ := bjoin hrun
              refine At.joinO 5 (X := Bool) (fun x1102 => [(39, .bool x1102)]) (fun x1102 => rows (Fl.int .i64) 3 26 w283 t280.length w284 t280 :: Fr) (fun x1102 => G1103 (.inl x1102) = some r) ?_ (fun J1106 => ?_)
              · rintro x1102 hrun
                have hrun := (hl1104 _).symm.trans hrun
                · refine At.run 1 rfl ?_
                  refine At.nil ?_
                  refine At.thn ?_
                  refine At.ret ?_
                  refine At.thaw th279 ?_
                  refine At.drop .z ?_
                  refine At.drop .z ?_
                  obtain rfl := (bret hrun).symm
                  exact At.res (.inl rfl) rfl rfl ⟨rfl, rfl⟩
              · · rcases bite hrun with ⟨h1107, hrun⟩ | ⟨h1107, hrun⟩
                  · · refine At.know (t := 34) rfl h1107 ?_
                      refine At.run 1 rfl ?_
                      refine At.lit rfl (xo := [.const (.int .i64 1), .const (.int .i64 2), .const (.int .i64 3), .const (.int .i64 7)]) (ys := ([1, 2, 3, 7] : List Int)) (Fl.int .i64) rfl rfl rfl rfl rfl rfl rfl rfl rfl rfl rfl (fun A1108 c1109 => ?_)
                      refine At.freeze .z fun R1111 hr1112 hn1113 hc1114 hs1115 th1116 => ?_
                      obtain ⟨t1117, hc1118, hrun⟩ := bbind hrun
                      refine At.call rfl cycles_Bad.callee rfl rfl rfl (cycles_Bad.spec _ _ A271 (([([1] : List Int), ([0, 2] : List Int), ([2] : List Int), ([0] : List Int)] : List (List Int)).length) c272 A1108 (([1, 2, 3, 7] : List Int).length) c1109 ([([1] : List Int), ([0, 2] : List Int), ([2] : List Int), ([0] : List Int)] : List (List Int)) ([1, 2, 3, 7] : List Int) 1 (RdS.mono hs1115 hr275) hn276 hc277 hr1112 hn1113 hc1114 hc1118) ?_
                      rintro _ _ ⟨rfl, rfl⟩
                      refine At.run 2 rfl ?_
                      refine At.thaw th1116 ?_
                      refine At.drop .z ?_
                      exact At.of (J1106 (decide (t1117 = 2)) hrun) ⟨rfl, trivial⟩
                  · · refine At.know (t := 34) rfl (bn h1107) ?_
                      refine At.run 5 rfl ?_
                      exact At.of (J1106 false hrun) ⟨rfl, trivial⟩
          · · rcases bite hrun with ⟨h1119, hrun⟩ | ⟨h1119, hrun⟩
              · · refine At.know (t := 28) rfl h1119 ?_
                  refine At.run 1 rfl ?_
                  refine At.lit rfl (xo := [.const (.int .i64 1), .const (.int .i64 2), .const (.int .i64 3), .const (.int .i64 7)]) (ys := ([1, 2, 3, 7] : List Int)) (Fl.int .i64) rfl rfl rfl rfl rfl rfl rfl rfl rfl rfl rfl (fun A1120 c1121 => ?_)
                  refine At.freeze .z fun R1123 hr1124 hn1125 hc1126 hs1127 th1128 => ?_
                  obtain ⟨t1129, hc1130, hrun⟩ := bbind hrun
                  refine At.call rfl cycles_Bad.callee rfl rfl rfl (cycles_Bad.spec _ _ A271 (([([1] : List Int), ([0, 2] : List Int), ([2] : List Int), ([0] : List Int)] : List (List Int)).length) c272 A1120 (([1, 2, 3, 7] : List Int).length) c1121 ([([1] : List Int), ([0, 2] : List Int), ([2] : List Int), ([0] : List Int)] : List (List Int)) ([1, 2, 3, 7] : List Int) 0 (RdS.mono hs1127 hr275) hn276 hc277 hr1124 hn1125 hc1126 hc1130) ?_
                  rintro _ _ ⟨rfl, rfl⟩
                  refine At.run 2 rfl ?_
                  refine At.thaw th1128 ?_
                  refine At.drop .z ?_
                  exact At.of (J901 (decide (t1129 = 1)) hrun) ⟨rfl, rfl, trivial⟩
              · · refine At.know (t := 28) rfl (bn h1119) ?_
                  refine At.run 5 rfl ?_
                  exact At.of (J901 false hrun) ⟨rfl, rfl, trivial⟩
      · · rcases bite hrun with ⟨h1131, hrun⟩ | ⟨h1131, hrun⟩
          · · refine At.know (t := 20) rfl h1131 ?_
              refine At.run 1 rfl ?_
              refine At.freezeRows .z fun R1132 hr1133 hn1134 hc1135 hs1136 th1137 => ?_
              obtain ⟨h1138, hrun⟩ := bnone hrun
              refine At.y (Y.ixRd hr1133 hn1134 rfl rfl rfl rfl rfl rfl h1138.1 h1138.2) rfl rfl rfl ?_
              obtain ⟨A1139, c1140, hc1141, hr1142, hy1143⟩ := RdS.rowAt (P := Go.Proofs.Try.prog) hr1133 (Sub.refl _) hn1134 h1138.1 h1138.2
              refine At.y (hy1143 rfl rfl rfl rfl) rfl rfl rfl ?_
              obtain ⟨h1144, hrun⟩ := bnone hrun
              refine At.y (Y.ixRd hr1142 rfl rfl rfl rfl rfl rfl rfl h1144.1 h1144.2) rfl rfl rfl ?_
              refine At.y (Y.ldFl hr1142 rfl (q := 0) rfl rfl h1144.1 h1144.2 rfl rfl rfl) rfl rfl rfl ?_
              refine At.run 2 rfl ?_
              refine At.thaw th1137 ?_
              exact At.of (J696 (decide (gt (gt t280 2) 0 = 3)) hrun) ⟨rfl, rfl, trivial⟩
          · · refine At.know (t := 20) rfl (bn h1131) ?_
              refine At.run 7 rfl ?_
              exact At.of (J696 false hrun) ⟨rfl, rfl, trivial⟩
  · · rcases bite hrun with ⟨h1145, hrun⟩ | ⟨h1145, hrun⟩
      · · refine At.know (t := 13) rfl (decide_eq_true h1145) ?_
          refine At.run 1 rfl ?_
          refine At.freezeRows .z fun R1146 hr1147 hn1148 hc1149 hs1150 th1151 => ?_
          obtain ⟨h1152, hrun⟩ := bnone hrun
          refine At.y (Y.ixRd hr1147 hn1148 rfl rfl rfl rfl rfl rfl h1152.1 h1152.2) rfl rfl rfl ?_
          obtain ⟨A1153, c1154, hc1155, hr1156, hy1157⟩ := RdS.rowAt (P := Go.Proofs.Try.prog) hr1147 (Sub.refl _) hn1148 h1152.1 h1152.2
          refine At.y (hy1157 rfl rfl rfl rfl) rfl rfl rfl ?_
          refine At.run 3 rfl ?_
          refine At.thaw th1151 ?_
          exact At.of (J491 (decide (((gt t280 0).length : Int) = 2)) hrun) ⟨rfl, rfl, rfl, trivial⟩
      · · refine At.know (t := 13) rfl (decide_eq_false h1145) ?_
          refine At.run 6 rfl ?_
          exact At.of (J491 false hrun) ⟨rfl, rfl, rfl, trivial⟩

noncomputable def bailifflaw15_cut.f (a0 : List (List Int)) : Option (List (List Int)) :=
  if 50 < (a0.length : Int) then
    if (0 : Int) ≤ 50 ∧ 50 ≤ (a0.length : Int) then
      some (a0.take (50 : Int).toNat)
    else none
  else
    some a0
theorem bailifflaw15_cut.callee : Callee Go.Proofs.Try.prog 16 := ⟨_, Go.Proofs.Try.func16, by kernel_rfl, by kernel_rfl⟩
set_option maxRecDepth 100000 in
set_option maxHeartbeats 2000000 in
theorem bailifflaw15_cut.spec (R : Res) (Fr : List HProp) (A0 : Option Addr) (n0 : Nat) (c0 : Nat) (a0 : List (List Int)) (hr0 : RdS ((Fl.int .i64).rep).slice R.heap A0 a0) (hn0 : a0.length = n0) (hc0 : n0 ≤ c0) {r : (List (List Int))} (hrun : bailifflaw15_cut.f a0 = some r) :
    Spec Go.Proofs.Try.prog 16 [.slice A0 n0 c0] R (Fr) (fun v l' => ∃ (w251 : Option Addr) (w252 : Nat) (w253 : Nat), v = .slice w251 w252 w253 ∧ Fr = l' ∧ RdS ((Fl.int .i64).rep).slice R.heap w251 r ∧ r.length = w252 ∧ w252 ≤ w253) := by
  subst hn0
  refine Spec.of Go.Proofs.Try.func16 rfl rfl ?_
  unfold bailifflaw15_cut.f at hrun
  have hrun := brun hrun
  refine At.seq ?_
  refine At.region ?_
  refine At.run 1 rfl ?_
  refine At.nil ?_
  refine At.thn ?_
  refine At.seq ?_
  refine At.seq ?_
  refine At.region ?_
  refine At.run 3 rfl ?_
  refine At.nil ?_
  refine At.thn ?_
  rcases bite hrun with ⟨h258, hrun⟩ | ⟨h258, hrun⟩
  · · refine At.condT rfl (decide_eq_true h258) ?_
      refine At.seq ?_
      refine At.region ?_
      refine At.run 1 rfl ?_
      obtain ⟨h259, hrun⟩ := bnone hrun
      have hc260 : (a0.take (50 : Int).toNat).length ≤ c0 := Nat.le_trans (List.length_take_le' _ _) (by have h1_ := (show a0.length = a0.length from rfl); have h2_ := hc0; omega)
      refine At.y (Y.slTo rfl rfl rfl rfl rfl rfl hc0 h259.1 h259.2) rfl rfl rfl ?_
      refine At.run 1 rfl ?_
      refine At.nil ?_
      refine At.thn ?_
      refine At.ret ?_
      refine At.thr ?_
      obtain rfl := (bret hrun).symm
      exact At.res (.inl rfl) rfl rfl ⟨A0, (a0.take (50 : Int).toNat).length, c0, rfl, rfl, (RdS.take hr0 _), rfl, hc260⟩
  · · refine At.condF rfl (decide_eq_false h258) ?_
      refine At.skip ?_
      refine At.thn ?_
      refine At.seq ?_
      refine At.region ?_
      refine At.run 2 rfl ?_
      refine At.nil ?_
      refine At.thn ?_
      refine At.ret ?_
      obtain rfl := (bret hrun).symm
      exact At.res (.inl rfl) rfl rfl ⟨A0, a0.length, c0, rfl, rfl, hr0, rfl, hc0⟩

end Go.Bw
