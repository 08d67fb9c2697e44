/- Walks: what the functions of the program compute, told by plain functions, and that the calls come to them. Conditions: none. -/
import Derived.Test.YtmkidaijgdgcjaaBwTyx
import Derived.Test.YtmkidaijgdgcjaaProg
import Derived.Test.YtmkidaijgdgcjaaBwLay
import Derived.Test.YtmkidaijgdgcjaaBwSortI
import Derived.Test.YtmkidaijgdgcjaaBwSortF
import Derived.Deep.QuietTactic
set_option linter.unusedVariables false
set_option linter.unusedSimpArgs false
set_option linter.unusedSectionVars false
namespace Go.Bw
open Go Go.RowKit Go.Proofs
structure cycles_stand where
  node : Int
  step : Int
deriving Inhabited
def cycles_stand.fl : Fl cycles_stand := ⟨2, fun x => [.int .i64 x.node, .int .i64 x.step], fun _ => rfl, fun x u hu => by simp at hu; rcases hu with rfl | rfl <;> rfl, by decide⟩
noncomputable def cycles_Components_1.f (a0 : Int) : Option Bool :=
  some true
theorem cycles_Components_1.callee : Callee Go.Proofs.Try.prog 37 := ⟨_, Go.Proofs.Try.func37, by kernel_rfl, by kernel_rfl⟩
set_option maxRecDepth 100000 in
set_option maxHeartbeats 2000000 in
theorem cycles_Components_1.spec (R : Res) (Fr : List HProp)  (a0 : Int)  {r : Bool} (hrun : cycles_Components_1.f a0 = some r) :
    Spec Go.Proofs.Try.prog 37 [.int .i64 a0] R (Fr) (fun v l' => v = .bool r ∧ Fr = l') := by
  refine Spec.of Go.Proofs.Try.func37 rfl rfl ?_
  unfold cycles_Components_1.f at hrun
  have hrun := brun hrun
  refine At.seq ?_
  refine At.region ?_
  refine At.run 1 rfl ?_
  refine At.nil ?_
  refine At.thn ?_
  refine At.seq ?_
  refine At.region ?_
  refine At.run 1 rfl ?_
  refine At.nil ?_
  refine At.thn ?_
  refine At.ret ?_
  obtain rfl := (bret hrun).symm
  exact At.res (.inl rfl) rfl rfl ⟨rfl, rfl⟩

noncomputable def cycles_walk_meet.f (a0_0 : List (List Int)) (a0_2 : List Int) (a0_3 : List Int) (a0_4 : List Bool) (a0_5 : List Int) (a0_6 : List cycles_stand) (a0_7 : Int) (a0_8_c0_0 : List (List Int)) (a1 : Int) : Option ((List cycles_stand) × (List Int) × (List Bool) × (List Int) × (List Int) × Int) :=
  if (0 : Int) ≤ a1 ∧ a1 < (a0_2.length : Int) then
    if (0 : Int) ≤ a1 ∧ a1 < (a0_3.length : Int) then
      if (0 : Int) ≤ a1 ∧ a1 < (a0_4.length : Int) then
        if (a0_5.length + ([a1] : List Int).length) * 8 ≤ 140737488355328 then
          if (a0_6.length + ([(⟨a1, 0⟩ : cycles_stand)] : List cycles_stand).length) * 16 ≤ 140737488355328 then
            some ((a0_6 ++ ([(⟨a1, 0⟩ : cycles_stand)] : List cycles_stand)), (a0_5 ++ ([a1] : List Int)), (st a0_4 a1 true), (st a0_3 a1 (IntKind.i64.wrap (a0_7 + 1))), (st a0_2 a1 (IntKind.i64.wrap (a0_7 + 1))), IntKind.i64.wrap (a0_7 + 1))
          else none
        else none
      else none
    else none
  else none
theorem cycles_walk_meet.callee : Callee Go.Proofs.Try.prog 68 := ⟨_, Go.Proofs.Try.func68, by kernel_rfl, by kernel_rfl⟩
set_option maxRecDepth 100000 in
set_option maxHeartbeats 2000000 in
theorem cycles_walk_meet.spec (R : Res) (Fr : List HProp) (b0 : Nat) (A0_0 : Option Addr) (n0_0 : Nat) (c0_0 : Nat) (A0_2 : Option Addr) (n0_2 : Nat) (c0_2 : Nat) (A0_3 : Option Addr) (n0_3 : Nat) (c0_3 : Nat) (A0_4 : Option Addr) (n0_4 : Nat) (c0_4 : Nat) (A0_5 : Option Addr) (n0_5 : Nat) (c0_5 : Nat) (A0_6 : Option Addr) (n0_6 : Nat) (c0_6 : Nat) (b0_8_c0 : Nat) (A0_8_c0_0 : Option Addr) (n0_8_c0_0 : Nat) (c0_8_c0_0 : Nat) (a0_0 : List (List Int)) (a0_2 : List Int) (a0_3 : List Int) (a0_4 : List Bool) (a0_5 : List Int) (a0_6 : List cycles_stand) (a0_7 : Int) (a0_8_c0_0 : List (List Int)) (a1 : Int) (hr0_0 : RdS ((Fl.int .i64).rep).slice R.heap A0_0 a0_0) (hn0_0 : a0_0.length = n0_0) (hc0_0 : n0_0 ≤ c0_0) (hn0_2 : a0_2.length = n0_2) (hn0_3 : a0_3.length = n0_3) (hn0_4 : a0_4.length = n0_4) (hn0_5 : a0_5.length = n0_5) (hn0_6 : a0_6.length = n0_6) (hn0_8_c0_0 : a0_8_c0_0.length = n0_8_c0_0) {r : (List cycles_stand) × (List Int) × (List Bool) × (List Int) × (List Int) × Int} (hrun : cycles_walk_meet.f a0_0 a0_2 a0_3 a0_4 a0_5 a0_6 a0_7 a0_8_c0_0 a1 = some r) :
    Spec Go.Proofs.Try.prog 68 [.pointer (some ⟨b0, 0, none⟩), .int .i64 a1] R (pt b0 (.cells [.slice A0_0 n0_0 c0_0, .func (.func 37) #[] #[], .slice A0_2 n0_2 c0_2, .slice A0_3 n0_3 c0_3, .slice A0_4 n0_4 c0_4, .slice A0_5 n0_5 c0_5, .slice A0_6 n0_6 c0_6, .int .i64 a0_7, .func (.func 55) #[] #[.pointer (some ⟨b0_8_c0, 0, none⟩)]].toArray 86) :: row (Fl.int .i64) 3 A0_2 n0_2 c0_2 a0_2 :: row (Fl.int .i64) 3 A0_3 n0_3 c0_3 a0_3 :: row Fl.bool 4 A0_4 n0_4 c0_4 a0_4 :: row (Fl.int .i64) 3 A0_5 n0_5 c0_5 a0_5 :: row cycles_stand.fl 99 A0_6 n0_6 c0_6 a0_6 :: pt b0_8_c0 (.cells [.slice A0_8_c0_0 n0_8_c0_0 c0_8_c0_0].toArray 22) :: rows (Fl.int .i64) 3 26 A0_8_c0_0 n0_8_c0_0 c0_8_c0_0 a0_8_c0_0 :: Fr) (fun v l' => ∃ (w252 : Option Addr) (w253 : Nat) (w255 : Option Addr) (w256 : Nat), v = .tuple #[] ∧ pt b0 (.cells [.slice A0_0 n0_0 c0_0, .func (.func 37) #[] #[], .slice A0_2 n0_2 c0_2, .slice A0_3 n0_3 c0_3, .slice A0_4 n0_4 c0_4, .slice w255 ((a0_5 ++ ([a1] : List Int)).length) w256, .slice w252 ((a0_6 ++ ([(⟨a1, 0⟩ : cycles_stand)] : List cycles_stand)).length) w253, .int .i64 r.2.2.2.2.2, .func (.func 55) #[] #[.pointer (some ⟨b0_8_c0, 0, none⟩)]].toArray 86) :: row (Fl.int .i64) 3 A0_2 n0_2 c0_2 r.2.2.2.2.1 :: row (Fl.int .i64) 3 A0_3 n0_3 c0_3 r.2.2.2.1 :: row Fl.bool 4 A0_4 n0_4 c0_4 r.2.2.1 :: row (Fl.int .i64) 3 w255 ((a0_5 ++ ([a1] : List Int)).length) w256 r.2.1 :: row cycles_stand.fl 99 w252 ((a0_6 ++ ([(⟨a1, 0⟩ : cycles_stand)] : List cycles_stand)).length) w253 r.1 :: pt b0_8_c0 (.cells [.slice A0_8_c0_0 n0_8_c0_0 c0_8_c0_0].toArray 22) :: rows (Fl.int .i64) 3 26 A0_8_c0_0 n0_8_c0_0 c0_8_c0_0 a0_8_c0_0 :: Fr = l') := by
  subst hn0_0
  subst hn0_2
  subst hn0_3
  subst hn0_4
  subst hn0_5
  subst hn0_6
  subst hn0_8_c0_0
  refine Spec.of Go.Proofs.Try.func68 rfl rfl ?_
  unfold cycles_walk_meet.f at hrun
  have hrun := brun hrun
  refine At.seq ?_
  refine At.region ?_
  refine At.run 3 rfl ?_
  refine At.y (Y.load rfl rfl .z rfl rfl rfl) rfl rfl rfl ?_
  refine At.run 3 rfl ?_
  refine At.store rfl rfl rfl rfl .z rfl rfl rfl (.s (.s (.s (.s (.s (.s (.s (.c .n)))))))) ?_
  refine At.nil ?_
  refine At.thn ?_
  refine At.seq ?_
  refine At.held [pt b0 (.cells [.slice A0_0 a0_0.length c0_0, .func (.func 37) #[] #[], .slice A0_2 a0_2.length c0_2, .slice A0_3 a0_3.length c0_3, .slice A0_4 a0_4.length c0_4, .slice A0_5 a0_5.length c0_5, .slice A0_6 a0_6.length c0_6, .int .i64 (IntKind.i64.wrap (a0_7 + 1)), .func (.func 55) #[] #[.pointer (some ⟨b0_8_c0, 0, none⟩)]].toArray 86), row (Fl.int .i64) 3 A0_5 a0_5.length c0_5 a0_5, row cycles_stand.fl 99 A0_6 a0_6.length c0_6 a0_6, pt b0_8_c0 (.cells [.slice A0_8_c0_0 a0_8_c0_0.length c0_8_c0_0].toArray 22), rows (Fl.int .i64) 3 26 A0_8_c0_0 a0_8_c0_0.length c0_8_c0_0 a0_8_c0_0] 29 rfl ?_
  refine At.H.pv 0 rfl (by kernel_rfl) (by kernel_rfl) (by kernel_rfl) rfl rfl rfl rfl (.c .z (.c (.s (.s (.s .z))) (.c (.s (.s (.s .z))) (.c (.s (.s (.s .z))) (.c (.s (.s (.s .z))) .n))))) ?_
  refine At.H.pv 1 rfl (by kernel_rfl) (by kernel_rfl) (by kernel_rfl) rfl rfl rfl rfl (.c .z (.c (.s (.s (.s .z))) (.c (.s (.s (.s .z))) (.c (.s (.s (.s .z))) (.c (.s (.s (.s .z))) .n))))) ?_
  refine At.H.pv 2 rfl (by kernel_rfl) (by kernel_rfl) (by kernel_rfl) rfl rfl rfl rfl (.c .z (.c (.s (.s (.s .z))) (.c (.s (.s (.s .z))) (.c (.s (.s (.s .z))) (.c (.s (.s (.s .z))) .n))))) ?_
  refine At.H.take 3 rfl (by kernel_rfl) (by kernel_rfl) (by kernel_rfl) (Y.load rfl rfl .z rfl rfl rfl) rfl rfl rfl (.c .z (.c (.s (.s (.s .z))) (.c (.s (.s (.s .z))) (.c (.s (.s (.s .z))) (.c (.s (.s (.s .z))) .n))))) ?_
  refine At.H.pv 4 rfl (by kernel_rfl) (by kernel_rfl) (by kernel_rfl) rfl rfl rfl rfl (.c .z (.c (.s (.s (.s .z))) (.c (.s (.s (.s .z))) (.c (.s (.s (.s .z))) (.c (.s (.s (.s .z))) .n))))) ?_
  refine At.H.pv 5 rfl (by kernel_rfl) (by kernel_rfl) (by kernel_rfl) rfl rfl rfl rfl (.c .z (.c (.s (.s (.s .z))) (.c (.s (.s (.s .z))) (.c (.s (.s (.s .z))) (.c (.s (.s (.s .z))) .n))))) ?_
  refine At.H.pv 6 rfl (by kernel_rfl) (by kernel_rfl) (by kernel_rfl) rfl rfl rfl rfl (.c .z (.c (.s (.s (.s .z))) (.c (.s (.s (.s .z))) (.c (.s (.s (.s .z))) (.c (.s (.s (.s .z))) .n))))) ?_
  refine At.H.pv 7 rfl (by kernel_rfl) (by kernel_rfl) (by kernel_rfl) rfl rfl rfl rfl (.c .z (.c (.s (.s (.s .z))) (.c (.s (.s (.s .z))) (.c (.s (.s (.s .z))) (.c (.s (.s (.s .z))) .n))))) ?_
  refine At.H.take 8 rfl (by kernel_rfl) (by kernel_rfl) (by kernel_rfl) (Y.load rfl rfl .z rfl rfl rfl) rfl rfl rfl (.c .z (.c (.s (.s (.s .z))) (.c (.s (.s (.s .z))) (.c (.s (.s (.s .z))) (.c (.s (.s (.s .z))) .n))))) ?_
  refine At.H.pv 9 rfl (by kernel_rfl) (by kernel_rfl) (by kernel_rfl) rfl rfl rfl rfl (.c .z (.c (.s (.s (.s .z))) (.c (.s (.s (.s .z))) (.c (.s (.s (.s .z))) (.c (.s (.s (.s .z))) .n))))) ?_
  refine At.H.pv 10 rfl (by kernel_rfl) (by kernel_rfl) (by kernel_rfl) rfl rfl rfl rfl (.c .z (.c (.s (.s (.s .z))) (.c (.s (.s (.s .z))) (.c (.s (.s (.s .z))) (.c (.s (.s (.s .z))) .n))))) ?_
  refine At.H.pv 11 rfl (by kernel_rfl) (by kernel_rfl) (by kernel_rfl) rfl rfl rfl rfl (.c .z (.c (.s (.s (.s .z))) (.c (.s (.s (.s .z))) (.c (.s (.s (.s .z))) (.c (.s (.s (.s .z))) .n))))) ?_
  refine At.H.pv 12 rfl (by kernel_rfl) (by kernel_rfl) (by kernel_rfl) rfl rfl rfl rfl (.c .z (.c (.s (.s (.s .z))) (.c (.s (.s (.s .z))) (.c (.s (.s (.s .z))) (.c (.s (.s (.s .z))) .n))))) ?_
  refine At.H.take 13 rfl (by kernel_rfl) (by kernel_rfl) (by kernel_rfl) (Y.load rfl rfl .z rfl rfl rfl) rfl rfl rfl (.c .z (.c (.s (.s (.s .z))) (.c (.s (.s (.s .z))) (.c (.s (.s (.s .z))) (.c (.s (.s (.s .z))) .n))))) ?_
  refine At.H.pv 14 rfl (by kernel_rfl) (by kernel_rfl) (by kernel_rfl) rfl rfl rfl rfl (.c .z (.c (.s (.s (.s .z))) (.c (.s (.s (.s .z))) (.c (.s (.s (.s .z))) (.c (.s (.s (.s .z))) .n))))) ?_
  refine At.H.pv 15 rfl (by kernel_rfl) (by kernel_rfl) (by kernel_rfl) rfl rfl rfl rfl (.c .z (.c (.s (.s (.s .z))) (.c (.s (.s (.s .z))) (.c (.s (.s (.s .z))) (.c (.s (.s (.s .z))) .n))))) ?_
  refine At.H.pv 16 rfl (by kernel_rfl) (by kernel_rfl) (by kernel_rfl) rfl rfl rfl rfl (.c .z (.c (.s (.s (.s .z))) (.c (.s (.s (.s .z))) (.c (.s (.s (.s .z))) (.c (.s (.s (.s .z))) .n))))) ?_
  refine At.H.pv 17 rfl (by kernel_rfl) (by kernel_rfl) (by kernel_rfl) rfl rfl rfl rfl (.c .z (.c (.s (.s (.s .z))) (.c (.s (.s (.s .z))) (.c (.s (.s (.s .z))) (.c (.s (.s (.s .z))) .n))))) ?_
  refine At.H.take 18 rfl (by kernel_rfl) (by kernel_rfl) (by kernel_rfl) (Y.load rfl rfl .z rfl rfl rfl) rfl rfl rfl (.c .z (.c (.s (.s (.s .z))) (.c (.s (.s (.s .z))) (.c (.s (.s (.s .z))) (.c (.s (.s (.s .z))) .n))))) ?_
  refine At.H.pv 19 rfl (by kernel_rfl) (by kernel_rfl) (by kernel_rfl) rfl rfl rfl rfl (.c .z (.c (.s (.s (.s .z))) (.c (.s (.s (.s .z))) (.c (.s (.s (.s .z))) (.c (.s (.s (.s .z))) .n))))) ?_
  refine At.H.pv 20 rfl (by kernel_rfl) (by kernel_rfl) (by kernel_rfl) rfl rfl rfl rfl (.c .z (.c (.s (.s (.s .z))) (.c (.s (.s (.s .z))) (.c (.s (.s (.s .z))) (.c (.s (.s (.s .z))) .n))))) ?_
  refine At.H.pv 21 rfl (by kernel_rfl) (by kernel_rfl) (by kernel_rfl) rfl rfl rfl rfl (.c .z (.c (.s (.s (.s .z))) (.c (.s (.s (.s .z))) (.c (.s (.s (.s .z))) (.c (.s (.s (.s .z))) .n))))) ?_
  refine At.H.take 22 rfl (by kernel_rfl) (by kernel_rfl) (by kernel_rfl) (Y.load rfl rfl .z rfl rfl rfl) rfl rfl rfl (.c .z (.c (.s (.s (.s .z))) (.c (.s (.s (.s .z))) (.c (.s (.s (.s .z))) (.c (.s (.s (.s .z))) .n))))) ?_
  refine At.H.all [23] (by kernel_rfl) rfl (all_cons ?_ all_nil)
  · · refine At.HO.op rfl ?_
      obtain ⟨h262, hrun⟩ := bnone hrun
      refine At.y (Y.ix (.s .z) rfl rfl rfl rfl rfl rfl h262.1 h262.2) rfl rfl rfl ?_
      refine At.HO.back (.c .z (.c (.s (.s (.s .z))) (.c (.s (.s (.s .z))) (.c (.s (.s (.s .z))) (.c (.s (.s (.s .z))) .n))))) ?_
      refine At.H.all [24] (by kernel_rfl) rfl (all_cons ?_ all_nil)
      · · refine At.HO.op rfl ?_
          refine At.st rfl (.s .z) (q := 0) (z := (IntKind.i64.wrap (a0_7 + 1))) rfl rfl rfl h262.1 h262.2 rfl rfl (.c .n) ?_
          refine At.HO.back (.c (.s .z) (.c (.s (.s (.s .z))) (.c (.s (.s (.s .z))) (.c (.s (.s (.s .z))) (.c (.s (.s (.s .z))) .n))))) ?_
          refine At.H.all [25] (by kernel_rfl) rfl (all_cons ?_ all_nil)
          · · refine At.HO.op rfl ?_
              obtain ⟨h264, hrun⟩ := bnone hrun
              refine At.y (Y.ix (.s (.s .z)) rfl rfl rfl rfl rfl rfl h264.1 h264.2) rfl rfl rfl ?_
              refine At.HO.back (.c (.s .z) (.c (.s (.s (.s .z))) (.c (.s (.s (.s .z))) (.c (.s (.s (.s .z))) (.c (.s (.s (.s .z))) .n))))) ?_
              refine At.H.all [26] (by kernel_rfl) rfl (all_cons ?_ all_nil)
              · · refine At.HO.op rfl ?_
                  refine At.st rfl (.s (.s .z)) (q := 0) (z := (IntKind.i64.wrap (a0_7 + 1))) rfl rfl rfl h264.1 h264.2 rfl rfl (.c .n) ?_
                  refine At.HO.back (.c (.s (.s .z)) (.c (.s (.s (.s .z))) (.c (.s (.s (.s .z))) (.c (.s (.s (.s .z))) (.c (.s (.s (.s .z))) .n))))) ?_
                  refine At.H.all [27] (by kernel_rfl) rfl (all_cons ?_ all_nil)
                  · · refine At.HO.op rfl ?_
                      obtain ⟨h266, hrun⟩ := bnone hrun
                      refine At.y (Y.ix (.s (.s (.s .z))) rfl rfl rfl rfl rfl rfl h266.1 h266.2) rfl rfl rfl ?_
                      refine At.HO.back (.c (.s (.s .z)) (.c (.s (.s (.s .z))) (.c (.s (.s (.s .z))) (.c (.s (.s (.s .z))) (.c (.s (.s (.s .z))) .n))))) ?_
                      refine At.H.all [28] (by kernel_rfl) rfl (all_cons ?_ all_nil)
                      · · refine At.HO.op rfl ?_
                          refine At.st rfl (.s (.s (.s .z))) (q := 0) (z := true) rfl rfl rfl h266.1 h266.2 rfl rfl (.c .n) ?_
                          refine At.HO.back (.c (.s (.s (.s .z))) (.c (.s (.s (.s .z))) (.c (.s (.s (.s .z))) (.c (.s (.s (.s .z))) (.c (.s (.s (.s .z))) .n))))) ?_
                          refine At.H.done (by kernel_rfl) ?_
                          refine At.thn ?_
                          refine At.seq ?_
                          refine At.region ?_
                          refine At.run 4 rfl ?_
                          refine At.y (Y.load rfl rfl (.s (.s (.s .z))) rfl rfl rfl) rfl rfl rfl ?_
                          refine At.run 1 rfl ?_
                          refine At.lit rfl (xo := [.tmp 42]) (ys := ([a1] : List Int)) (Fl.int .i64) rfl rfl rfl rfl rfl rfl rfl rfl rfl rfl rfl (fun A267 c268 => ?_)
                          obtain ⟨h270, hrun⟩ := bnone hrun
                          refine At.append rfl (.s (.s (.s (.s (.s .z))))) (Src.own .z (by simp)) rfl rfl rfl rfl rfl rfl rfl rfl h270 (by decide) rfl (fun A271 c272 => ?_)
                          refine At.drop (.s .z) ?_
                          refine At.run 2 rfl ?_
                          refine At.store rfl rfl rfl rfl (.s (.s (.s (.s .z)))) rfl rfl rfl (.s (.s (.s (.s (.s (.c .n)))))) ?_
                          refine At.nil ?_
                          refine At.thn ?_
                          refine At.region ?_
                          refine At.run 4 rfl ?_
                          refine At.y (Y.load rfl rfl .z rfl rfl rfl) rfl rfl rfl ?_
                          refine At.run 1 rfl ?_
                          refine At.y (Y.build (is := [0]) (xo := [.tmp 52]) (vs := [.int .i64 a1]) (cs := [.int .i64 a1, .int .i64 0]) rfl rfl rfl rfl rfl rfl) rfl rfl rfl ?_
                          refine At.lit rfl (xo := [.tmp 53]) (ys := ([(⟨a1, 0⟩ : cycles_stand)] : List cycles_stand)) cycles_stand.fl rfl rfl rfl rfl rfl rfl rfl rfl rfl rfl rfl (fun A273 c274 => ?_)
                          obtain ⟨h276, hrun⟩ := bnone hrun
                          refine At.append rfl (.s (.s (.s (.s (.s (.s .z)))))) (Src.own .z (by simp)) rfl rfl rfl rfl rfl rfl rfl rfl h276 (by decide) rfl (fun A277 c278 => ?_)
                          refine At.drop (.s .z) ?_
                          refine At.run 2 rfl ?_
                          refine At.store rfl rfl rfl rfl (.s .z) rfl rfl rfl (.s (.s (.s (.s (.s (.s (.c .n))))))) ?_
                          refine At.nil ?_
                          refine At.frt (.s (.s (.s (.s (.s (.s (.s .z))))))) ?_
                          refine At.frt (.s (.s (.s (.s (.s (.s (.s .z))))))) ?_
                          refine At.frt (.s (.s (.s .z))) ?_
                          refine At.frt (.s (.s (.s (.s .z)))) ?_
                          refine At.frt (.s (.s (.s (.s (.s .z))))) ?_
                          refine At.frt (.s (.s (.s (.s (.s (.s .z)))))) ?_
                          refine At.frt (.s (.s (.s (.s (.s (.s (.s .z))))))) ?_
                          refine At.frt (.s (.s (.s (.s (.s (.s (.s .z))))))) ?_
                          obtain rfl := (bret hrun).symm
                          exact At.res (.inr rfl) rfl rfl ⟨A277, c278, A271, c272, rfl, rfl⟩

noncomputable def slices_Index_int_int.l0b (a0 : List Int) (a1 : Int) (x853 : Int) : Option ((Int) ⊕ ((Unit) ⊕ (Int))) :=
  if x853 < (a0.length : Int) then
    if (0 : Int) ≤ x853 ∧ x853 < (a0.length : Int) then
      if a1 = gt a0 x853 then
        upL (some x853)
      else
        nx (IntKind.i64.wrap (x853 + 1))
    else none
  else
    dn (.inl ())
noncomputable def slices_Index_int_int.l0 (a0 : List Int) (a1 : Int) (x853 : Int) : Option ((Unit) ⊕ (Int)) := iter (fun t_ : Int => slices_Index_int_int.l0b a0 a1 t_) x853
noncomputable def slices_Index_int_int.f (a0 : List Int) (a1 : Int) : Option Int :=
  jn (slices_Index_int_int.l0 a0 a1 0) (fun (_ : Unit) =>
    some (-1))
theorem slices_Index_int_int.callee : Callee Go.Proofs.Try.prog 59 := ⟨_, Go.Proofs.Try.func59, by kernel_rfl, by kernel_rfl⟩
set_option maxRecDepth 100000 in
set_option maxHeartbeats 2000000 in
theorem slices_Index_int_int.spec (R : Res) (Fr : List HProp) (A0 : Option Addr) (n0 : Nat) (c0 : Nat) (a0 : List Int) (a1 : Int) (hr0 : RdS (Fl.int .i64).rep R.heap A0 a0) (hn0 : a0.length = n0) (hc0 : n0 ≤ c0) {r : Int} (hrun : slices_Index_int_int.f a0 a1 = some r) :
    Spec Go.Proofs.Try.prog 59 [.slice A0 n0 c0, .int .i64 a1] R (Fr) (fun v l' => v = .int .i64 r ∧ Fr = l') := by
  subst hn0
  refine Spec.of Go.Proofs.Try.func59 rfl rfl ?_
  unfold slices_Index_int_int.f at hrun
  have hrun := brun hrun
  refine At.seq ?_
  refine At.region ?_
  refine At.run 1 rfl ?_
  refine At.nil ?_
  refine At.thn ?_
  refine At.seq ?_
  refine At.seq ?_
  refine At.region ?_
  refine At.run 3 rfl ?_
  refine At.nil ?_
  refine At.thn ?_
  refine At.block ?_
  obtain ⟨G1054, hl1055, hr1056, hrun⟩ := bjoin hrun
  obtain ⟨o1057, hlo1058, ho1059⟩ := bsome hrun
  clear hrun
  unfold slices_Index_int_int.l0 at hlo1058
  obtain ⟨m1060, hit1062⟩ := iter_some.1 hlo1058
  clear hlo1058
  refine At.loopJ (X := Int) (Y := Unit) (e0 := 0) (fun x853 => [(0, .slice A0 a0.length c0), (1, .int .i64 a1), (7, .int .i64 (a0.length : Int)), (8, .int .i64 x853)]) (fun x853 => Fr) (fun m_ => fun x853 => iterN (fun t_ : Int => slices_Index_int_int.l0b a0 a1 t_) m_ x853 = some o1057) m1060 0 hit1062 (fun _ => []) (fun _ => Fr) (fun _ => G1054 (.inl ()) = some r) (fun a w e hs => ⟨e.sub ⟨rfl, rfl, rfl, rfl, trivial⟩, hs⟩) ?_ (fun J1064 => ?_)
  · rintro _ hrun
    have hrun := (hl1055 _).symm.trans hrun
    · refine At.ibx ?_
      refine At.thn ?_
      refine At.seq ?_
      refine At.region ?_
      refine At.run 1 rfl ?_
      refine At.nil ?_
      refine At.thn ?_
      refine At.ret ?_
      obtain rfl := (bret hrun).symm
      exact At.res (.inl rfl) rfl rfl ⟨rfl, rfl⟩
  · clear hit1062 m1060
    rintro m1060 x853 hit1062
    obtain ⟨m1061, f_, hlt1063, hf_, hrun⟩ := bit hit1062
    clear hit1062
    have hrun : (slices_Index_int_int.l0b a0 a1 x853).bind _ = some o1057 := hrun
    unfold slices_Index_int_int.l0b at hrun
    · refine At.seq ?_
      refine At.region ?_
      refine At.run 1 rfl ?_
      refine At.nil ?_
      refine At.thn ?_
      refine At.seq ?_
      rcases bite hrun with ⟨h1065, hrun⟩ | ⟨h1065, hrun⟩
      · · refine At.condT rfl (decide_eq_true h1065) ?_
          refine At.skip ?_
          refine At.thn ?_
          refine At.seq ?_
          refine At.block ?_
          refine At.seq ?_
          refine At.region ?_
          refine At.run 2 rfl ?_
          refine At.nil ?_
          refine At.thn ?_
          refine At.seq ?_
          refine At.region ?_
          refine At.run 3 rfl ?_
          obtain ⟨h1066, hrun⟩ := bnone hrun
          refine At.y (Y.ixRd hr0 rfl rfl rfl rfl rfl rfl rfl h1066.1 h1066.2) rfl rfl rfl ?_
          refine At.y (Y.ldFl hr0 rfl (q := 0) rfl rfl h1066.1 h1066.2 rfl rfl rfl) rfl rfl rfl ?_
          refine At.run 1 rfl ?_
          refine At.nil ?_
          refine At.thn ?_
          rcases bite hrun with ⟨h1067, hrun⟩ | ⟨h1067, hrun⟩
          · · refine At.condT rfl (decide_eq_true h1067) ?_
              refine At.seq ?_
              refine At.region ?_
              refine At.run 2 rfl ?_
              refine At.nil ?_
              refine At.thn ?_
              refine At.ret ?_
              refine At.ibr ?_
              refine At.thr ?_
              have hrun := bupL hr1056 ho1059 hrun
              refine At.thr ?_
              refine At.ibr ?_
              refine At.thr ?_
              obtain rfl := (bret hrun).symm
              exact At.res (.inl rfl) rfl rfl ⟨rfl, rfl⟩
          · · refine At.condF rfl (decide_eq_false h1067) ?_
              refine At.skip ?_
              refine At.ibn ?_
              refine At.thn ?_
              refine At.region ?_
              refine At.run 2 rfl ?_
              refine At.nil ?_
              have hrun := bnx hf_ hrun
              exact fun a w e hs => ⟨m1061, (IntKind.i64.wrap (x853 + 1)), hlt1063, hrun, e.sub ⟨rfl, rfl, rfl, rfl, trivial⟩, hs⟩
      · · refine At.condF rfl (decide_eq_false h1065) ?_
          refine At.exit ?_
          refine At.the ?_
          refine At.the ?_
          exact fun a w e hs => J1064 () (bdn hrun ho1059) a w (e.sub trivial) hs

noncomputable def slices_Clone_int_int.f (a0 : List Int) : Option (List Int) :=
  if (0 + a0.length) * 8 ≤ 140737488355328 then some a0 else none
theorem slices_Clone_int_int.callee : Callee Go.Proofs.Try.prog 67 := ⟨_, Go.Proofs.Try.func67, by kernel_rfl, by kernel_rfl⟩
set_option maxRecDepth 100000 in
theorem slices_Clone_int_int.spec (R : Res) (Fr : List HProp) (A0 : Option Addr) (n0 : Nat) (c0 : Nat) (a0 : List Int) (hr0 : RdS ((Fl.int .i64).rep) R.heap A0 a0) (hn0 : a0.length = n0) (hc0 : n0 ≤ c0) {r : List Int} (hrun : slices_Clone_int_int.f a0 = some r) :
    Spec Go.Proofs.Try.prog 67 [.slice A0 n0 c0] R (Fr) (fun v l' => ∃ (w1 : Option Addr) (w2 : Nat), v = .slice w1 r.length w2 ∧ row (Fl.int .i64) 3 w1 r.length w2 r :: Fr = l') := by
  subst hn0
  refine Spec.of Go.Proofs.Try.func67 rfl rfl ?_
  unfold slices_Clone_int_int.f at hrun
  have hrun := brun hrun
  obtain ⟨hb, hrun⟩ := bnone hrun
  obtain rfl := (bret hrun).symm
  refine At.seq ?_
  refine At.region ?_
  refine At.run 1 rfl ?_
  refine At.nil ?_
  refine At.thn ?_
  refine At.seq ?_
  refine At.seq ?_
  refine At.region ?_
  refine At.run 1 rfl ?_
  refine At.y (Y.eqNil rfl rfl rfl rfl) rfl rfl rfl ?_
  refine At.nil ?_
  refine At.thn ?_
  cases A0 with
  | none =>
    have ha : a0 = [] := RdS.isNil hr0
    subst ha
    refine At.condT rfl rfl ?_
    refine At.seq ?_
    refine At.region ?_
    refine At.run 1 rfl ?_
    refine At.nil ?_
    refine At.thn ?_
    refine At.ret ?_
    refine At.thr ?_
    refine At.nilRow (Fl.int .i64) 3 ?_
    exact At.res (.inl rfl) rfl rfl ⟨_, _, rfl, rfl⟩
  | some ad =>
    refine At.condF rfl rfl ?_
    refine At.skip ?_
    refine At.thn ?_
    refine At.seq ?_
    refine At.region ?_
    refine At.lit rfl (xo := []) (ys := ([] : List Int)) (Fl.int .i64) rfl rfl rfl rfl rfl rfl rfl rfl rfl rfl rfl (fun B cb => ?_)
    refine At.run 1 rfl ?_
    refine At.appendAll rfl .z (SrcE.rd hr0) rfl rfl rfl rfl rfl rfl rfl rfl rfl hb (by decide) rfl (fun A c => ?_)
    refine At.run 1 rfl ?_
    refine At.nil ?_
    refine At.thn ?_
    refine At.ret ?_
    exact At.res (.inl rfl) rfl rfl ⟨_, _, rfl, rfl⟩

noncomputable def slices_Sort_int_int.f (a0 : List Int) : Option (List Int) := if a0.length < 4611686018427387904 then some (a0.mergeSort fun x y => decide (x ≤ y)) else none
theorem slices_Sort_int_int.callee : Callee Go.Proofs.Try.prog 74 := ⟨_, Go.Proofs.Try.func74, by kernel_rfl, by kernel_rfl⟩
theorem slices_Sort_int_int.spec (R : Res) (Fr : List HProp) (A0 : Option Addr) (n0 : Nat) (c0 : Nat) (a0 : List Int) (hn0 : a0.length = n0) {r : List Int} (hrun : slices_Sort_int_int.f a0 = some r) :
    Spec Go.Proofs.Try.prog 74 [.slice A0 n0 c0] R (row (Fl.int .i64) 3 A0 n0 c0 a0 :: Fr) (fun v l' => v = .tuple #[] ∧ row (Fl.int .i64) 3 A0 n0 c0 r :: Fr = l') := by
  unfold slices_Sort_int_int.f at hrun
  split at hrun
  · rename_i hb
    cases hrun
    exact sort_int_spec Go.Proofs.Try.sort74 R Fr hb
  · cases hrun

noncomputable def cycles_parts_1.f (a0 : List Int) (a1_0 : List (List Int)) : Option (List (List Int)) :=
  if (a1_0.length + 1) * 24 ≤ 140737488355328 then
    some (a1_0 ++ [a0])
  else none
theorem cycles_parts_1.callee : Callee Go.Proofs.Try.prog 55 := ⟨_, Go.Proofs.Try.func55, by kernel_rfl, by kernel_rfl⟩
set_option maxRecDepth 100000 in
set_option maxHeartbeats 2000000 in
theorem cycles_parts_1.spec (R : Res) (Fr : List HProp) (A0 : Option Addr) (n0 : Nat) (c0 : Nat) (b1 : Nat) (A1_0 : Option Addr) (n1_0 : Nat) (c1_0 : Nat) (a0 : List Int) (a1_0 : List (List Int)) (hn0 : a0.length = n0) (hn1_0 : a1_0.length = n1_0) {r : (List (List Int))} (hrun : cycles_parts_1.f a0 a1_0 = some r) :
    Spec Go.Proofs.Try.prog 55 [.slice A0 n0 c0, .pointer (some ⟨b1, 0, none⟩)] R (row (Fl.int .i64) 3 A0 n0 c0 a0 :: pt b1 (.cells [.slice A1_0 n1_0 c1_0].toArray 22) :: rows (Fl.int .i64) 3 26 A1_0 n1_0 c1_0 a1_0 :: Fr) (fun v l' => ∃ (w252 : Option Addr) (w253 : Nat), v = .tuple #[] ∧ pt b1 (.cells [.slice w252 ((a1_0 ++ [a0]).length) w253].toArray 22) :: rows (Fl.int .i64) 3 26 w252 ((a1_0 ++ [a0]).length) w253 r :: Fr = l') := by
  subst hn0
  subst hn1_0
  refine Spec.of Go.Proofs.Try.func55 rfl rfl ?_
  unfold cycles_parts_1.f at hrun
  have hrun := brun hrun
  refine At.region ?_
  refine At.y (Y.load rfl rfl (.s .z) rfl rfl rfl) rfl rfl rfl ?_
  refine At.run 1 rfl ?_
  refine At.litV rfl (xo := [.tmp 4]) (vs := [.slice A0 a0.length c0]) rfl rfl rfl rfl rfl rfl rfl rfl rfl rfl rfl (fun A254 c255 => ?_)
  obtain ⟨h257, hrun⟩ := bnone hrun
  refine At.appendRow rfl (.s (.s (.s .z))) .z .z rfl rfl rfl rfl rfl rfl rfl rfl h257 (by decide) rfl (fun A258 c259 => ?_)
  refine At.store rfl rfl rfl rfl (.s .z) rfl rfl rfl (.c .n) ?_
  refine At.nil ?_
  obtain rfl := (bret hrun).symm
  exact At.res (.inr rfl) rfl rfl ⟨A258, c259, rfl, rfl⟩

noncomputable def cycles_walk_leave.l0b (a0_4 : List Bool) (t484 : List Int) (x1091 : List Bool) (x1092 : Int) : Option (((List Bool) × Int) ⊕ (((List Bool)) ⊕ ((List Int) × (List cycles_stand) × (List Bool) × (List Int) × (List (List Int))))) :=
  if x1092 < (t484.length : Int) then
    if (0 : Int) ≤ x1092 ∧ x1092 < (t484.length : Int) then
      if (0 : Int) ≤ gt t484 x1092 ∧ gt t484 x1092 < (a0_4.length : Int) then
        nx ((st x1091 (gt t484 x1092) false), IntKind.i64.wrap (x1092 + 1))
      else none
    else none
  else
    dn (.inl x1091)
noncomputable def cycles_walk_leave.l0 (a0_4 : List Bool) (t484 : List Int) (x1091 : List Bool) (x1092 : Int) : Option (((List Bool)) ⊕ ((List Int) × (List cycles_stand) × (List Bool) × (List Int) × (List (List Int)))) := iter (fun t_ : (List Bool) × Int => cycles_walk_leave.l0b a0_4 t484 t_.1 t_.2) (x1091, x1092)
noncomputable def cycles_walk_leave.l1b (a0_4 : List Bool) (t1332 : List Int) (x1939 : List Bool) (x1940 : Int) : Option (((List Bool) × Int) ⊕ (((List Bool)) ⊕ ((List Int) × (List cycles_stand) × (List Bool) × (List Int) × (List (List Int))))) :=
  if x1940 < (t1332.length : Int) then
    if (0 : Int) ≤ x1940 ∧ x1940 < (t1332.length : Int) then
      if (0 : Int) ≤ gt t1332 x1940 ∧ gt t1332 x1940 < (a0_4.length : Int) then
        nx ((st x1939 (gt t1332 x1940) false), IntKind.i64.wrap (x1940 + 1))
      else none
    else none
  else
    dn (.inl x1939)
noncomputable def cycles_walk_leave.l1 (a0_4 : List Bool) (t1332 : List Int) (x1939 : List Bool) (x1940 : Int) : Option (((List Bool)) ⊕ ((List Int) × (List cycles_stand) × (List Bool) × (List Int) × (List (List Int)))) := iter (fun t_ : (List Bool) × Int => cycles_walk_leave.l1b a0_4 t1332 t_.1 t_.2) (x1939, x1940)
noncomputable def cycles_walk_leave.f (a0_0 : List (List Int)) (a0_2 : List Int) (a0_3 : List Int) (a0_4 : List Bool) (a0_5 : List Int) (a0_6 : List cycles_stand) (a0_7 : Int) (a0_8_c0_0 : List (List Int)) (a1 : Int) : Option ((List Int) × (List cycles_stand) × (List Bool) × (List Int) × (List (List Int))) :=
  if (0 : Int) ≤ IntKind.i64.wrap ((a0_6.length : Int) - 1) ∧ IntKind.i64.wrap ((a0_6.length : Int) - 1) ≤ (a0_6.length : Int) then
    if 0 < ((a0_6.take (IntKind.i64.wrap ((a0_6.length : Int) - 1)).toNat).length : Int) then
    if (0 : Int) ≤ IntKind.i64.wrap (((a0_6.take (IntKind.i64.wrap ((a0_6.length : Int) - 1)).toNat).length : Int) - 1) ∧ IntKind.i64.wrap (((a0_6.take (IntKind.i64.wrap ((a0_6.length : Int) - 1)).toNat).length : Int) - 1) < ((a0_6.take (IntKind.i64.wrap ((a0_6.length : Int) - 1)).toNat).length : Int) then
      if (0 : Int) ≤ (gt (a0_6.take (IntKind.i64.wrap ((a0_6.length : Int) - 1)).toNat) (IntKind.i64.wrap (((a0_6.take (IntKind.i64.wrap ((a0_6.length : Int) - 1)).toNat).length : Int) - 1))).node ∧ (gt (a0_6.take (IntKind.i64.wrap ((a0_6.length : Int) - 1)).toNat) (IntKind.i64.wrap (((a0_6.take (IntKind.i64.wrap ((a0_6.length : Int) - 1)).toNat).length : Int) - 1))).node < (a0_3.length : Int) then
        if (0 : Int) ≤ a1 ∧ a1 < (a0_3.length : Int) then
          if (0 : Int) ≤ a1 ∧ a1 < (a0_2.length : Int) then
            if gt (st a0_3 ((gt (a0_6.take (IntKind.i64.wrap ((a0_6.length : Int) - 1)).toNat) (IntKind.i64.wrap (((a0_6.take (IntKind.i64.wrap ((a0_6.length : Int) - 1)).toNat).length : Int) - 1))).node) (if gt a0_3 a1 < gt a0_3 ((gt (a0_6.take (IntKind.i64.wrap ((a0_6.length : Int) - 1)).toNat) (IntKind.i64.wrap (((a0_6.take (IntKind.i64.wrap ((a0_6.length : Int) - 1)).toNat).length : Int) - 1))).node) then gt a0_3 a1 else gt a0_3 ((gt (a0_6.take (IntKind.i64.wrap ((a0_6.length : Int) - 1)).toNat) (IntKind.i64.wrap (((a0_6.take (IntKind.i64.wrap ((a0_6.length : Int) - 1)).toNat).length : Int) - 1))).node))) a1 < gt a0_2 a1 then
              some ((st a0_3 ((gt (a0_6.take (IntKind.i64.wrap ((a0_6.length : Int) - 1)).toNat) (IntKind.i64.wrap (((a0_6.take (IntKind.i64.wrap ((a0_6.length : Int) - 1)).toNat).length : Int) - 1))).node) (if gt a0_3 a1 < gt a0_3 ((gt (a0_6.take (IntKind.i64.wrap ((a0_6.length : Int) - 1)).toNat) (IntKind.i64.wrap (((a0_6.take (IntKind.i64.wrap ((a0_6.length : Int) - 1)).toNat).length : Int) - 1))).node) then gt a0_3 a1 else gt a0_3 ((gt (a0_6.take (IntKind.i64.wrap ((a0_6.length : Int) - 1)).toNat) (IntKind.i64.wrap (((a0_6.take (IntKind.i64.wrap ((a0_6.length : Int) - 1)).toNat).length : Int) - 1))).node))), (a0_6.take (IntKind.i64.wrap ((a0_6.length : Int) - 1)).toNat), a0_4, a0_5, a0_8_c0_0)
            else
              (slices_Index_int_int.f a0_5 a1).bind fun t477 =>
                if (0 : Int) ≤ t477 ∧ t477 ≤ (a0_5.length : Int) then
                  (slices_Clone_int_int.f (a0_5.drop t477.toNat)).bind fun t484 =>
                    jn (cycles_walk_leave.l0 a0_4 t484 a0_4 0) (fun (x1293 : List Bool) =>
                      (slices_Sort_int_int.f t484).bind fun t1305 =>
                        (cycles_parts_1.f t1305 a0_8_c0_0).bind fun t1308 =>
                          some ((st a0_3 ((gt (a0_6.take (IntKind.i64.wrap ((a0_6.length : Int) - 1)).toNat) (IntKind.i64.wrap (((a0_6.take (IntKind.i64.wrap ((a0_6.length : Int) - 1)).toNat).length : Int) - 1))).node) (if gt a0_3 a1 < gt a0_3 ((gt (a0_6.take (IntKind.i64.wrap ((a0_6.length : Int) - 1)).toNat) (IntKind.i64.wrap (((a0_6.take (IntKind.i64.wrap ((a0_6.length : Int) - 1)).toNat).length : Int) - 1))).node) then gt a0_3 a1 else gt a0_3 ((gt (a0_6.take (IntKind.i64.wrap ((a0_6.length : Int) - 1)).toNat) (IntKind.i64.wrap (((a0_6.take (IntKind.i64.wrap ((a0_6.length : Int) - 1)).toNat).length : Int) - 1))).node))), (a0_6.take (IntKind.i64.wrap ((a0_6.length : Int) - 1)).toNat), x1293, (a0_5.take t477.toNat), t1308))
                else none
          else none
        else none
      else none
    else none
  else
    if (0 : Int) ≤ a1 ∧ a1 < (a0_3.length : Int) then
      if (0 : Int) ≤ a1 ∧ a1 < (a0_2.length : Int) then
        if gt a0_3 a1 < gt a0_2 a1 then
          some (a0_3, (a0_6.take (IntKind.i64.wrap ((a0_6.length : Int) - 1)).toNat), a0_4, a0_5, a0_8_c0_0)
        else
          (slices_Index_int_int.f a0_5 a1).bind fun t1325 =>
            if (0 : Int) ≤ t1325 ∧ t1325 ≤ (a0_5.length : Int) then
              (slices_Clone_int_int.f (a0_5.drop t1325.toNat)).bind fun t1332 =>
                jn (cycles_walk_leave.l1 a0_4 t1332 a0_4 0) (fun (x2141 : List Bool) =>
                  (slices_Sort_int_int.f t1332).bind fun t2153 =>
                    (cycles_parts_1.f t2153 a0_8_c0_0).bind fun t2156 =>
                      some (a0_3, (a0_6.take (IntKind.i64.wrap ((a0_6.length : Int) - 1)).toNat), x2141, (a0_5.take t1325.toNat), t2156))
            else none
      else none
    else none
  else none
theorem cycles_walk_leave.callee : Callee Go.Proofs.Try.prog 69 := ⟨_, Go.Proofs.Try.func69, by kernel_rfl, by kernel_rfl⟩
set_option maxRecDepth 100000 in
set_option maxHeartbeats 2000000 in
theorem cycles_walk_leave.spec (R : Res) (Fr : List HProp) (b0 : Nat) (A0_0 : Option Addr) (n0_0 : Nat) (c0_0 : Nat) (A0_2 : Option Addr) (n0_2 : Nat) (c0_2 : Nat) (A0_3 : Option Addr) (n0_3 : Nat) (c0_3 : Nat) (A0_4 : Option Addr) (n0_4 : Nat) (c0_4 : Nat) (A0_5 : Option Addr) (n0_5 : Nat) (c0_5 : Nat) (A0_6 : Option Addr) (n0_6 : Nat) (c0_6 : Nat) (b0_8_c0 : Nat) (A0_8_c0_0 : Option Addr) (n0_8_c0_0 : Nat) (c0_8_c0_0 : Nat) (a0_0 : List (List Int)) (a0_2 : List Int) (a0_3 : List Int) (a0_4 : List Bool) (a0_5 : List Int) (a0_6 : List cycles_stand) (a0_7 : Int) (a0_8_c0_0 : List (List Int)) (a1 : Int) (hr0_0 : RdS ((Fl.int .i64).rep).slice R.heap A0_0 a0_0) (hn0_0 : a0_0.length = n0_0) (hc0_0 : n0_0 ≤ c0_0) (hn0_2 : a0_2.length = n0_2) (hn0_3 : a0_3.length = n0_3) (hn0_4 : a0_4.length = n0_4) (hn0_5 : a0_5.length = n0_5) (hn0_6 : a0_6.length = n0_6) (hn0_8_c0_0 : a0_8_c0_0.length = n0_8_c0_0) {r : (List Int) × (List cycles_stand) × (List Bool) × (List Int) × (List (List Int))} (hrun : cycles_walk_leave.f a0_0 a0_2 a0_3 a0_4 a0_5 a0_6 a0_7 a0_8_c0_0 a1 = some r) :
    Spec Go.Proofs.Try.prog 69 [.pointer (some ⟨b0, 0, none⟩), .int .i64 a1] R (pt b0 (.cells [.slice A0_0 n0_0 c0_0, .func (.func 37) #[] #[], .slice A0_2 n0_2 c0_2, .slice A0_3 n0_3 c0_3, .slice A0_4 n0_4 c0_4, .slice A0_5 n0_5 c0_5, .slice A0_6 n0_6 c0_6, .int .i64 a0_7, .func (.func 55) #[] #[.pointer (some ⟨b0_8_c0, 0, none⟩)]].toArray 86) :: row (Fl.int .i64) 3 A0_2 n0_2 c0_2 a0_2 :: row (Fl.int .i64) 3 A0_3 n0_3 c0_3 a0_3 :: row Fl.bool 4 A0_4 n0_4 c0_4 a0_4 :: row (Fl.int .i64) 3 A0_5 n0_5 c0_5 a0_5 :: row cycles_stand.fl 99 A0_6 n0_6 c0_6 a0_6 :: pt b0_8_c0 (.cells [.slice A0_8_c0_0 n0_8_c0_0 c0_8_c0_0].toArray 22) :: rows (Fl.int .i64) 3 26 A0_8_c0_0 n0_8_c0_0 c0_8_c0_0 a0_8_c0_0 :: Fr) (fun v l' => ∃ (w255 : Nat) (w258 : Nat) (w260 : Option Addr) (w261 : Nat), v = .tuple #[] ∧ pt b0 (.cells [.slice A0_0 n0_0 c0_0, .func (.func 37) #[] #[], .slice A0_2 n0_2 c0_2, .slice A0_3 n0_3 c0_3, .slice A0_4 n0_4 c0_4, .slice A0_5 w255 c0_5, .slice A0_6 ((a0_6.take (IntKind.i64.wrap ((n0_6 : Int) - 1)).toNat).length) c0_6, .int .i64 a0_7, .func (.func 55) #[] #[.pointer (some ⟨b0_8_c0, 0, none⟩)]].toArray 86) :: row (Fl.int .i64) 3 A0_2 n0_2 c0_2 a0_2 :: row (Fl.int .i64) 3 A0_3 n0_3 c0_3 r.1 :: row Fl.bool 4 A0_4 n0_4 c0_4 r.2.2.1 :: row (Fl.int .i64) 3 A0_5 w255 c0_5 r.2.2.2.1 :: row cycles_stand.fl 99 A0_6 ((a0_6.take (IntKind.i64.wrap ((n0_6 : Int) - 1)).toNat).length) c0_6 r.2.1 :: pt b0_8_c0 (.cells [.slice w260 w258 w261].toArray 22) :: rows (Fl.int .i64) 3 26 w260 w258 w261 r.2.2.2.2 :: Fr = l' ∧ r.2.2.2.1.length = w255 ∧ r.2.2.2.2.length = w258) := by
  subst hn0_0
  subst hn0_2
  subst hn0_3
  subst hn0_4
  subst hn0_5
  subst hn0_6
  subst hn0_8_c0_0
  refine Spec.of Go.Proofs.Try.func69 rfl rfl ?_
  unfold cycles_walk_leave.f at hrun
  have hrun := brun hrun
  refine At.seq ?_
  refine At.held [row (Fl.int .i64) 3 A0_2 a0_2.length c0_2 a0_2, row (Fl.int .i64) 3 A0_3 a0_3.length c0_3 a0_3, row Fl.bool 4 A0_4 a0_4.length c0_4 a0_4, row (Fl.int .i64) 3 A0_5 a0_5.length c0_5 a0_5, pt b0_8_c0 (.cells [.slice A0_8_c0_0 a0_8_c0_0.length c0_8_c0_0].toArray 22), rows (Fl.int .i64) 3 26 A0_8_c0_0 a0_8_c0_0.length c0_8_c0_0 a0_8_c0_0] 15 rfl ?_
  refine At.H.pv 0 rfl (by kernel_rfl) (by kernel_rfl) (by kernel_rfl) rfl rfl rfl rfl (.c (.s .z) (.c (.s .z) (.c (.s .z) (.c (.s .z) (.c (.s (.s .z)) (.c (.s (.s .z)) .n)))))) ?_
  refine At.H.pv 1 rfl (by kernel_rfl) (by kernel_rfl) (by kernel_rfl) rfl rfl rfl rfl (.c (.s .z) (.c (.s .z) (.c (.s .z) (.c (.s .z) (.c (.s (.s .z)) (.c (.s (.s .z)) .n)))))) ?_
  refine At.H.pv 2 rfl (by kernel_rfl) (by kernel_rfl) (by kernel_rfl) rfl rfl rfl rfl (.c (.s .z) (.c (.s .z) (.c (.s .z) (.c (.s .z) (.c (.s (.s .z)) (.c (.s (.s .z)) .n)))))) ?_
  refine At.H.pv 3 rfl (by kernel_rfl) (by kernel_rfl) (by kernel_rfl) rfl rfl rfl rfl (.c (.s .z) (.c (.s .z) (.c (.s .z) (.c (.s .z) (.c (.s (.s .z)) (.c (.s (.s .z)) .n)))))) ?_
  refine At.H.pv 5 rfl (by kernel_rfl) (by kernel_rfl) (by kernel_rfl) rfl rfl rfl rfl (.c (.s .z) (.c (.s .z) (.c (.s .z) (.c (.s .z) (.c (.s (.s .z)) (.c (.s (.s .z)) .n)))))) ?_
  refine At.H.pv 6 rfl (by kernel_rfl) (by kernel_rfl) (by kernel_rfl) rfl rfl rfl rfl (.c (.s .z) (.c (.s .z) (.c (.s .z) (.c (.s .z) (.c (.s (.s .z)) (.c (.s (.s .z)) .n)))))) ?_
  refine At.H.pv 7 rfl (by kernel_rfl) (by kernel_rfl) (by kernel_rfl) rfl rfl rfl rfl (.c (.s .z) (.c (.s .z) (.c (.s .z) (.c (.s .z) (.c (.s (.s .z)) (.c (.s (.s .z)) .n)))))) ?_
  obtain ⟨h464, hrun⟩ := bnone hrun
  refine At.H.joinK (X := Unit) (fun _ => [(0, .pointer (some ⟨b0, 0, none⟩)), (1, .int .i64 a1)]) (fun _ => pt b0 (.cells [.slice A0_0 a0_0.length c0_0, .func (.func 37) #[] #[], .slice A0_2 a0_2.length c0_2, .slice A0_3 a0_3.length c0_3, .slice A0_4 a0_4.length c0_4, .slice A0_5 a0_5.length c0_5, .slice A0_6 ((a0_6.take (IntKind.i64.wrap ((a0_6.length : Int) - 1)).toNat).length) c0_6, .int .i64 a0_7, .func (.func 55) #[] #[.pointer (some ⟨b0_8_c0, 0, none⟩)]].toArray 86) :: row cycles_stand.fl 99 A0_6 ((a0_6.take (IntKind.i64.wrap ((a0_6.length : Int) - 1)).toNat).length) c0_6 (a0_6.take (IntKind.i64.wrap ((a0_6.length : Int) - 1)).toNat) :: row (Fl.int .i64) 3 A0_2 a0_2.length c0_2 a0_2 :: row (Fl.int .i64) 3 A0_3 a0_3.length c0_3 a0_3 :: row Fl.bool 4 A0_4 a0_4.length c0_4 a0_4 :: row (Fl.int .i64) 3 A0_5 a0_5.length c0_5 a0_5 :: pt b0_8_c0 (.cells [.slice A0_8_c0_0 a0_8_c0_0.length c0_8_c0_0].toArray 22) :: rows (Fl.int .i64) 3 26 A0_8_c0_0 a0_8_c0_0.length c0_8_c0_0 a0_8_c0_0 :: Fr) (fun _ => True) ?_ (fun J463 => ?_)
  · rintro _ -
    · refine At.thn ?_
      refine At.seq ?_
      refine At.seq ?_
      refine At.region ?_
      refine At.run 3 rfl ?_
      refine At.y (Y.load rfl rfl .z rfl rfl rfl) rfl rfl rfl ?_
      refine At.run 2 rfl ?_
      refine At.nil ?_
      refine At.thn ?_
      rcases bite hrun with ⟨h465, hrun⟩ | ⟨h465, hrun⟩
      · · refine At.condT rfl (decide_eq_true h465) ?_
          refine At.seq ?_
          refine At.quiet (by kernel_rfl) ?_
          refine At.Quiet.run 3 rfl ?_
          refine At.Quiet.y (Y.load rfl rfl .z rfl rfl rfl) rfl rfl rfl ?_
          refine At.Quiet.run 3 rfl ?_
          refine At.Quiet.y (Y.load rfl rfl .z rfl rfl rfl) rfl rfl rfl ?_
          refine At.Quiet.run 2 rfl ?_
          obtain ⟨h466, hrun⟩ := bnone hrun
          refine At.Quiet.y (Y.ix (.s .z) rfl rfl rfl rfl rfl rfl h466.1 h466.2) rfl rfl rfl ?_
          refine At.Quiet.y (Y.faOwn (.s .z) h466.1 h466.2 rfl rfl rfl rfl rfl rfl) rfl rfl rfl ?_
          refine At.Quiet.y (Y.ld (.s .z) (q := 0) rfl rfl h466.1 h466.2 rfl rfl rfl) rfl rfl rfl ?_
          refine At.Quiet.run 1 rfl ?_
          refine At.Quiet.nil ?_
          refine At.thn ?_
          refine At.still 21 (by kernel_rfl) ?_
          refine At.Still.run 3 rfl ?_
          refine At.Still.y (Y.load rfl rfl .z rfl rfl rfl) rfl rfl rfl ?_
          refine At.Still.run 4 rfl ?_
          refine At.Still.y (Y.load rfl rfl .z rfl rfl rfl) rfl rfl rfl ?_
          refine At.Still.run 1 rfl ?_
          obtain ⟨h467, hrun⟩ := bnone hrun
          refine At.Still.y (Y.ix (.s (.s (.s .z))) rfl rfl rfl rfl rfl rfl h467.1 h467.2) rfl rfl rfl ?_
          refine At.Still.y (Y.ld (.s (.s (.s .z))) (q := 0) rfl rfl h467.1 h467.2 rfl rfl rfl) rfl rfl rfl ?_
          refine At.Still.run 3 rfl ?_
          refine At.Still.y (Y.load rfl rfl .z rfl rfl rfl) rfl rfl rfl ?_
          refine At.Still.run 1 rfl ?_
          obtain ⟨h468, hrun⟩ := bnone hrun
          refine At.Still.y (Y.ix (.s (.s (.s .z))) rfl rfl rfl rfl rfl rfl h468.1 h468.2) rfl rfl rfl ?_
          refine At.Still.y (Y.ld (.s (.s (.s .z))) (q := 0) rfl rfl h468.1 h468.2 rfl rfl rfl) rfl rfl rfl ?_
          refine At.Still.run 1 rfl ?_
          refine At.Still.y (Y.ix (.s (.s (.s .z))) rfl rfl rfl rfl rfl rfl h467.1 h467.2) rfl rfl rfl ?_
          refine At.Still.nil ?_
          refine At.st rfl (.s (.s (.s .z))) (q := 0) (z := (if gt a0_3 a1 < gt a0_3 ((gt (a0_6.take (IntKind.i64.wrap ((a0_6.length : Int) - 1)).toNat) (IntKind.i64.wrap (((a0_6.take (IntKind.i64.wrap ((a0_6.length : Int) - 1)).toNat).length : Int) - 1))).node) then gt a0_3 a1 else gt a0_3 ((gt (a0_6.take (IntKind.i64.wrap ((a0_6.length : Int) - 1)).toNat) (IntKind.i64.wrap (((a0_6.take (IntKind.i64.wrap ((a0_6.length : Int) - 1)).toNat).length : Int) - 1))).node))) rfl rfl rfl h467.1 h467.2 rfl rfl (.c .n) ?_
          refine At.nil ?_
          refine At.thn ?_
          refine At.seq ?_
          refine At.seq ?_
          refine At.quiet (by kernel_rfl) ?_
          refine At.Quiet.run 3 rfl ?_
          refine At.Quiet.y (Y.load rfl rfl (.s .z) rfl rfl rfl) rfl rfl rfl ?_
          refine At.Quiet.run 1 rfl ?_
          refine At.Quiet.y (Y.ix .z rfl rfl rfl rfl rfl rfl h468.1 h468.2) rfl rfl rfl ?_
          refine At.Quiet.y (Y.ld .z (q := 0) rfl rfl h468.1 h468.2 rfl rfl rfl) rfl rfl rfl ?_
          refine At.Quiet.run 3 rfl ?_
          refine At.Quiet.y (Y.load rfl rfl (.s .z) rfl rfl rfl) rfl rfl rfl ?_
          refine At.Quiet.run 1 rfl ?_
          obtain ⟨h469, hrun⟩ := bnone hrun
          refine At.Quiet.y (Y.ix (.s (.s (.s .z))) rfl rfl rfl rfl rfl rfl h469.1 h469.2) rfl rfl rfl ?_
          refine At.Quiet.y (Y.ld (.s (.s (.s .z))) (q := 0) rfl rfl h469.1 h469.2 rfl rfl rfl) rfl rfl rfl ?_
          refine At.Quiet.run 1 rfl ?_
          refine At.Quiet.nil ?_
          refine At.thn ?_
          rcases bite hrun with ⟨h470, hrun⟩ | ⟨h470, hrun⟩
          · · refine At.condT rfl (decide_eq_true h470) ?_
              refine At.ret ?_
              refine At.thr ?_
              refine At.frt (.s (.s (.s (.s (.s (.s (.s .z))))))) ?_
              refine At.frt (.s (.s (.s (.s (.s (.s (.s .z))))))) ?_
              refine At.frt (.s (.s (.s (.s .z)))) ?_
              refine At.frt (.s (.s (.s (.s (.s (.s (.s .z))))))) ?_
              refine At.frt (.s (.s (.s (.s (.s (.s (.s .z))))))) ?_
              refine At.frt (.s (.s (.s (.s (.s .z))))) ?_
              refine At.frt (.s (.s (.s (.s (.s (.s (.s .z))))))) ?_
              refine At.frt (.s (.s (.s (.s (.s (.s (.s .z))))))) ?_
              obtain rfl := (bret hrun).symm
              exact At.res (.inl rfl) rfl rfl ⟨a0_5.length, a0_8_c0_0.length, A0_8_c0_0, c0_8_c0_0, rfl, rfl, rfl, rfl⟩
          · · refine At.condF rfl (decide_eq_false h470) ?_
              refine At.skip ?_
              refine At.thn ?_
              refine At.seq ?_
              refine At.region ?_
              refine At.run 3 rfl ?_
              refine At.y (Y.load rfl rfl (.s .z) rfl rfl rfl) rfl rfl rfl ?_
              refine At.run 1 rfl ?_
              refine At.freeze (.s (.s (.s (.s (.s .z))))) fun R471 hr472 hn473 hc474 hs475 th476 => ?_
              obtain ⟨t477, hc478, hrun⟩ := bbind hrun
              refine At.call rfl slices_Index_int_int.callee rfl rfl rfl (slices_Index_int_int.spec _ _ A0_5 a0_5.length c0_5 a0_5 a1 hr472 hn473 hc474 hc478) ?_
              rintro _ _ ⟨rfl, rfl⟩
              refine At.run 1 rfl ?_
              refine At.nil ?_
              refine At.thn ?_
              refine At.seq ?_
              refine At.region ?_
              refine At.run 3 rfl ?_
              refine At.y (Y.load rfl rfl (.s .z) rfl rfl rfl) rfl rfl rfl ?_
              refine At.run 1 rfl ?_
              obtain ⟨h479, hrun⟩ := bnone hrun
              obtain ⟨A480, hr481, hc482, hy483⟩ := Y.slFromAt (P := Go.Proofs.Try.prog) (R := R471) hn473 hr472 hc474 h479.1 h479.2
              refine At.y (hy483 rfl rfl rfl rfl rfl rfl) rfl rfl rfl ?_
              obtain ⟨t484, hc485, hrun⟩ := bbind hrun
              refine At.call rfl slices_Clone_int_int.callee rfl rfl rfl (slices_Clone_int_int.spec _ _ A480 ((a0_5.drop t477.toNat).length) (c0_5 - t477.toNat) (a0_5.drop t477.toNat) hr481 rfl hc482 hc485) ?_
              rintro _ _ ⟨w486, w487, rfl, rfl⟩
              refine At.run 1 rfl ?_
              refine At.nil ?_
              refine At.thn ?_
              refine At.seq ?_
              refine At.region ?_
              refine At.run 4 rfl ?_
              refine At.y (Y.load rfl rfl (.s (.s .z)) rfl rfl rfl) rfl rfl rfl ?_
              refine At.run 1 rfl ?_
              refine At.thaw th476 ?_
              refine At.cut rfl .z rfl rfl rfl rfl rfl h479.1 h479.2 rfl ?_
              refine At.run 2 rfl ?_
              refine At.store rfl rfl rfl rfl (.s (.s (.s .z))) rfl rfl rfl (.s (.s (.s (.s (.s (.c .n)))))) ?_
              refine At.nil ?_
              refine At.thn ?_
              refine At.seq ?_
              refine At.seq ?_
              refine At.region ?_
              refine At.run 3 rfl ?_
              refine At.nil ?_
              refine At.thn ?_
              refine At.block ?_
              obtain ⟨G1294, hl1295, hr1296, hrun⟩ := bjoin hrun
              obtain ⟨o1297, hlo1298, ho1299⟩ := bsome hrun
              clear hrun
              unfold cycles_walk_leave.l0 at hlo1298
              obtain ⟨m1300, hit1302⟩ := iter_some.1 hlo1298
              clear hlo1298
              refine At.loopJ (X := (List Bool) × Int) (Y := (List Bool)) (e0 := 0) (fun s_ => [(0, .pointer (some ⟨b0, 0, none⟩)), (6, .slice w486 t484.length w487), (100, .slice w486 t484.length w487), (101, .int .i64 (t484.length : Int)), (102, .int .i64 s_.2)]) (fun s_ => pt b0 (.cells [.slice A0_0 a0_0.length c0_0, .func (.func 37) #[] #[], .slice A0_2 a0_2.length c0_2, .slice A0_3 a0_3.length c0_3, .slice A0_4 a0_4.length c0_4, .slice A0_5 ((a0_5.take t477.toNat).length) c0_5, .slice A0_6 ((a0_6.take (IntKind.i64.wrap ((a0_6.length : Int) - 1)).toNat).length) c0_6, .int .i64 a0_7, .func (.func 55) #[] #[.pointer (some ⟨b0_8_c0, 0, none⟩)]].toArray 86) :: row (Fl.int .i64) 3 A0_5 ((a0_5.take t477.toNat).length) c0_5 (a0_5.take t477.toNat) :: row (Fl.int .i64) 3 w486 t484.length w487 t484 :: row (Fl.int .i64) 3 A0_3 a0_3.length c0_3 (st a0_3 ((gt (a0_6.take (IntKind.i64.wrap ((a0_6.length : Int) - 1)).toNat) (IntKind.i64.wrap (((a0_6.take (IntKind.i64.wrap ((a0_6.length : Int) - 1)).toNat).length : Int) - 1))).node) (if gt a0_3 a1 < gt a0_3 ((gt (a0_6.take (IntKind.i64.wrap ((a0_6.length : Int) - 1)).toNat) (IntKind.i64.wrap (((a0_6.take (IntKind.i64.wrap ((a0_6.length : Int) - 1)).toNat).length : Int) - 1))).node) then gt a0_3 a1 else gt a0_3 ((gt (a0_6.take (IntKind.i64.wrap ((a0_6.length : Int) - 1)).toNat) (IntKind.i64.wrap (((a0_6.take (IntKind.i64.wrap ((a0_6.length : Int) - 1)).toNat).length : Int) - 1))).node))) :: row cycles_stand.fl 99 A0_6 ((a0_6.take (IntKind.i64.wrap ((a0_6.length : Int) - 1)).toNat).length) c0_6 (a0_6.take (IntKind.i64.wrap ((a0_6.length : Int) - 1)).toNat) :: row (Fl.int .i64) 3 A0_2 a0_2.length c0_2 a0_2 :: row Fl.bool 4 A0_4 a0_4.length c0_4 s_.1 :: pt b0_8_c0 (.cells [.slice A0_8_c0_0 a0_8_c0_0.length c0_8_c0_0].toArray 22) :: rows (Fl.int .i64) 3 26 A0_8_c0_0 a0_8_c0_0.length c0_8_c0_0 a0_8_c0_0 :: Fr) (fun m_ => fun s_ => iterN (fun t_ : (List Bool) × Int => cycles_walk_leave.l0b a0_4 t484 t_.1 t_.2) m_ (s_.1, s_.2) = some o1297) m1300 (a0_4, 0) hit1302 (fun x1293 => [(0, .pointer (some ⟨b0, 0, none⟩)), (6, .slice w486 t484.length w487)]) (fun x1293 => pt b0 (.cells [.slice A0_0 a0_0.length c0_0, .func (.func 37) #[] #[], .slice A0_2 a0_2.length c0_2, .slice A0_3 a0_3.length c0_3, .slice A0_4 a0_4.length c0_4, .slice A0_5 ((a0_5.take t477.toNat).length) c0_5, .slice A0_6 ((a0_6.take (IntKind.i64.wrap ((a0_6.length : Int) - 1)).toNat).length) c0_6, .int .i64 a0_7, .func (.func 55) #[] #[.pointer (some ⟨b0_8_c0, 0, none⟩)]].toArray 86) :: row (Fl.int .i64) 3 A0_5 ((a0_5.take t477.toNat).length) c0_5 (a0_5.take t477.toNat) :: row (Fl.int .i64) 3 w486 t484.length w487 t484 :: row (Fl.int .i64) 3 A0_3 a0_3.length c0_3 (st a0_3 ((gt (a0_6.take (IntKind.i64.wrap ((a0_6.length : Int) - 1)).toNat) (IntKind.i64.wrap (((a0_6.take (IntKind.i64.wrap ((a0_6.length : Int) - 1)).toNat).length : Int) - 1))).node) (if gt a0_3 a1 < gt a0_3 ((gt (a0_6.take (IntKind.i64.wrap ((a0_6.length : Int) - 1)).toNat) (IntKind.i64.wrap (((a0_6.take (IntKind.i64.wrap ((a0_6.length : Int) - 1)).toNat).length : Int) - 1))).node) then gt a0_3 a1 else gt a0_3 ((gt (a0_6.take (IntKind.i64.wrap ((a0_6.length : Int) - 1)).toNat) (IntKind.i64.wrap (((a0_6.take (IntKind.i64.wrap ((a0_6.length : Int) - 1)).toNat).length : Int) - 1))).node))) :: row cycles_stand.fl 99 A0_6 ((a0_6.take (IntKind.i64.wrap ((a0_6.length : Int) - 1)).toNat).length) c0_6 (a0_6.take (IntKind.i64.wrap ((a0_6.length : Int) - 1)).toNat) :: row (Fl.int .i64) 3 A0_2 a0_2.length c0_2 a0_2 :: row Fl.bool 4 A0_4 a0_4.length c0_4 x1293 :: pt b0_8_c0 (.cells [.slice A0_8_c0_0 a0_8_c0_0.length c0_8_c0_0].toArray 22) :: rows (Fl.int .i64) 3 26 A0_8_c0_0 a0_8_c0_0.length c0_8_c0_0 a0_8_c0_0 :: Fr) (fun x1293 => G1294 (.inl x1293) = some r) (fun a w e hs => ⟨e.sub ⟨rfl, rfl, rfl, rfl, rfl, trivial⟩, hs⟩) ?_ (fun J1304 => ?_)
              · rintro x1293 hrun
                have hrun := (hl1295 _).symm.trans hrun
                · refine At.ibx ?_
                  refine At.thn ?_
                  refine At.seq ?_
                  refine At.region ?_
                  refine At.run 1 rfl ?_
                  refine At.frt (.s (.s .z)) ?_
                  obtain ⟨t1305, hc1306, hrun⟩ := bbind hrun
                  refine At.call rfl slices_Sort_int_int.callee rfl rfl rfl (slices_Sort_int_int.spec _ _ w486 t484.length w487 t484 rfl hc1306) ?_
                  rintro _ _ ⟨rfl, rfl⟩
                  refine At.nil ?_
                  refine At.thn ?_
                  refine At.region ?_
                  refine At.run 3 rfl ?_
                  refine At.y (Y.load rfl rfl (.s .z) rfl rfl rfl) rfl rfl rfl ?_
                  refine At.run 1 rfl ?_
                  refine At.rowLen .z fun hn1307 => ?_
                  refine At.frt (.s (.s (.s (.s (.s (.s (.s (.s .z)))))))) ?_
                  refine At.frt (.s (.s (.s (.s (.s (.s (.s (.s .z)))))))) ?_
                  refine At.frt (.s (.s .z)) ?_
                  obtain ⟨t1308, hc1309, hrun⟩ := bbind hrun
                  refine At.call rfl cycles_parts_1.callee rfl rfl rfl (cycles_parts_1.spec _ _ w486 t484.length w487 b0_8_c0 A0_8_c0_0 a0_8_c0_0.length c0_8_c0_0 t1305 a0_8_c0_0 hn1307 rfl hc1309) ?_
                  rintro _ _ ⟨w1310, w1311, rfl, rfl⟩
                  refine At.nil ?_
                  refine At.rowsLen (.s .z) fun hn1312 _ => ?_
                  refine At.frt (.s .z) ?_
                  refine At.frt (.s .z) ?_
                  refine At.frt (.s (.s (.s (.s (.s .z))))) ?_
                  refine At.frt (.s (.s (.s (.s .z)))) ?_
                  refine At.frt (.s (.s (.s (.s (.s (.s (.s .z))))))) ?_
                  refine At.frt (.s (.s (.s (.s (.s (.s .z)))))) ?_
                  refine At.frt (.s (.s (.s (.s (.s (.s (.s .z))))))) ?_
                  refine At.frt (.s (.s (.s (.s (.s (.s (.s .z))))))) ?_
                  obtain rfl := (bret hrun).symm
                  exact At.res (.inr rfl) rfl rfl ⟨(a0_5.take t477.toNat).length, (a0_8_c0_0 ++ [t1305]).length, w1310, w1311, rfl, rfl, rfl, hn1312⟩
              · clear hit1302 m1300
                rintro m1300 ⟨x1091, x1092⟩ hit1302
                obtain ⟨m1301, f_, hlt1303, hf_, hrun⟩ := bit hit1302
                clear hit1302
                have hrun : (cycles_walk_leave.l0b a0_4 t484 x1091 x1092).bind _ = some o1297 := hrun
                unfold cycles_walk_leave.l0b at hrun
                · refine At.seq ?_
                  refine At.region ?_
                  refine At.run 1 rfl ?_
                  refine At.nil ?_
                  refine At.thn ?_
                  refine At.seq ?_
                  rcases bite hrun with ⟨h1313, hrun⟩ | ⟨h1313, hrun⟩
                  · · refine At.condT rfl (decide_eq_true h1313) ?_
                      refine At.skip ?_
                      refine At.thn ?_
                      refine At.seq ?_
                      refine At.block ?_
                      refine At.seq ?_
                      refine At.region ?_
                      obtain ⟨h1314, hrun⟩ := bnone hrun
                      refine At.y (Y.ix (.s (.s .z)) rfl rfl rfl rfl rfl rfl h1314.1 h1314.2) rfl rfl rfl ?_
                      refine At.y (Y.ld (.s (.s .z)) (q := 0) rfl rfl h1314.1 h1314.2 rfl rfl rfl) rfl rfl rfl ?_
                      refine At.run 1 rfl ?_
                      refine At.nil ?_
                      refine At.thn ?_
                      refine At.region ?_
                      refine At.run 3 rfl ?_
                      refine At.y (Y.load rfl rfl .z rfl rfl rfl) rfl rfl rfl ?_
                      refine At.run 1 rfl ?_
                      obtain ⟨h1315, hrun⟩ := bnone hrun
                      refine At.y (Y.ix (.s (.s (.s (.s (.s (.s .z)))))) rfl rfl rfl rfl rfl rfl h1315.1 h1315.2) rfl rfl rfl ?_
                      refine At.st rfl (.s (.s (.s (.s (.s (.s .z)))))) (q := 0) (z := false) rfl rfl rfl h1315.1 h1315.2 rfl rfl (.c .n) ?_
                      refine At.nil ?_
                      refine At.ibn ?_
                      refine At.thn ?_
                      refine At.region ?_
                      refine At.run 2 rfl ?_
                      refine At.nil ?_
                      refine At.frt (.s (.s (.s (.s (.s (.s (.s (.s .z)))))))) ?_
                      refine At.frt (.s (.s (.s (.s (.s (.s (.s (.s .z)))))))) ?_
                      refine At.frt (.s (.s .z)) ?_
                      refine At.frt (.s (.s (.s (.s (.s (.s (.s (.s .z)))))))) ?_
                      refine At.frt (.s (.s (.s (.s (.s (.s (.s (.s .z)))))))) ?_
                      refine At.frt (.s (.s (.s (.s (.s (.s (.s (.s .z)))))))) ?_
                      refine At.frt (.s (.s (.s (.s (.s (.s (.s (.s .z)))))))) ?_
                      refine At.frt (.s (.s (.s (.s (.s (.s (.s (.s .z)))))))) ?_
                      refine At.frt (.s (.s (.s (.s (.s (.s (.s (.s .z)))))))) ?_
                      have hrun := bnx hf_ hrun
                      exact fun a w e hs => ⟨m1301, ((st x1091 (gt t484 x1092) false), IntKind.i64.wrap (x1092 + 1)), hlt1303, hrun, e.sub ⟨rfl, rfl, rfl, rfl, rfl, trivial⟩, hs⟩
                  · · refine At.condF rfl (decide_eq_false h1313) ?_
                      refine At.exit ?_
                      refine At.the ?_
                      refine At.the ?_
                      exact fun a w e hs => J1304 x1091 (bdn hrun ho1299) a w (e.sub ⟨rfl, rfl, trivial⟩) hs
      · · refine At.condF rfl (decide_eq_false h465) ?_
          refine At.skip ?_
          refine At.thn ?_
          refine At.seq ?_
          refine At.seq ?_
          refine At.quiet (by kernel_rfl) ?_
          refine At.Quiet.run 3 rfl ?_
          refine At.Quiet.y (Y.load rfl rfl .z rfl rfl rfl) rfl rfl rfl ?_
          refine At.Quiet.run 1 rfl ?_
          obtain ⟨h1316, hrun⟩ := bnone hrun
          refine At.Quiet.y (Y.ix (.s (.s (.s .z))) rfl rfl rfl rfl rfl rfl h1316.1 h1316.2) rfl rfl rfl ?_
          refine At.Quiet.y (Y.ld (.s (.s (.s .z))) (q := 0) rfl rfl h1316.1 h1316.2 rfl rfl rfl) rfl rfl rfl ?_
          refine At.Quiet.run 3 rfl ?_
          refine At.Quiet.y (Y.load rfl rfl .z rfl rfl rfl) rfl rfl rfl ?_
          refine At.Quiet.run 1 rfl ?_
          obtain ⟨h1317, hrun⟩ := bnone hrun
          refine At.Quiet.y (Y.ix (.s (.s .z)) rfl rfl rfl rfl rfl rfl h1317.1 h1317.2) rfl rfl rfl ?_
          refine At.Quiet.y (Y.ld (.s (.s .z)) (q := 0) rfl rfl h1317.1 h1317.2 rfl rfl rfl) rfl rfl rfl ?_
          refine At.Quiet.run 1 rfl ?_
          refine At.Quiet.nil ?_
          refine At.thn ?_
          rcases bite hrun with ⟨h1318, hrun⟩ | ⟨h1318, hrun⟩
          · · refine At.condT rfl (decide_eq_true h1318) ?_
              refine At.ret ?_
              refine At.thr ?_
              refine At.frt (.s (.s (.s (.s (.s (.s (.s .z))))))) ?_
              refine At.frt (.s (.s (.s (.s (.s (.s (.s .z))))))) ?_
              refine At.frt (.s (.s (.s .z))) ?_
              refine At.frt (.s (.s (.s (.s (.s (.s (.s .z))))))) ?_
              refine At.frt (.s (.s (.s (.s (.s (.s (.s .z))))))) ?_
              refine At.frt (.s (.s (.s (.s (.s (.s (.s .z))))))) ?_
              refine At.frt (.s (.s (.s (.s (.s (.s (.s .z))))))) ?_
              refine At.frt (.s (.s (.s (.s (.s (.s (.s .z))))))) ?_
              obtain rfl := (bret hrun).symm
              exact At.res (.inl rfl) rfl rfl ⟨a0_5.length, a0_8_c0_0.length, A0_8_c0_0, c0_8_c0_0, rfl, rfl, rfl, rfl⟩
          · · refine At.condF rfl (decide_eq_false h1318) ?_
              refine At.skip ?_
              refine At.thn ?_
              refine At.seq ?_
              refine At.region ?_
              refine At.run 3 rfl ?_
              refine At.y (Y.load rfl rfl .z rfl rfl rfl) rfl rfl rfl ?_
              refine At.run 1 rfl ?_
              refine At.freeze (.s (.s (.s (.s (.s .z))))) fun R1319 hr1320 hn1321 hc1322 hs1323 th1324 => ?_
              obtain ⟨t1325, hc1326, hrun⟩ := bbind hrun
              refine At.call rfl slices_Index_int_int.callee rfl rfl rfl (slices_Index_int_int.spec _ _ A0_5 a0_5.length c0_5 a0_5 a1 hr1320 hn1321 hc1322 hc1326) ?_
              rintro _ _ ⟨rfl, rfl⟩
              refine At.run 1 rfl ?_
              refine At.nil ?_
              refine At.thn ?_
              refine At.seq ?_
              refine At.region ?_
              refine At.run 3 rfl ?_
              refine At.y (Y.load rfl rfl .z rfl rfl rfl) rfl rfl rfl ?_
              refine At.run 1 rfl ?_
              obtain ⟨h1327, hrun⟩ := bnone hrun
              obtain ⟨A1328, hr1329, hc1330, hy1331⟩ := Y.slFromAt (P := Go.Proofs.Try.prog) (R := R1319) hn1321 hr1320 hc1322 h1327.1 h1327.2
              refine At.y (hy1331 rfl rfl rfl rfl rfl rfl) rfl rfl rfl ?_
              obtain ⟨t1332, hc1333, hrun⟩ := bbind hrun
              refine At.call rfl slices_Clone_int_int.callee rfl rfl rfl (slices_Clone_int_int.spec _ _ A1328 ((a0_5.drop t1325.toNat).length) (c0_5 - t1325.toNat) (a0_5.drop t1325.toNat) hr1329 rfl hc1330 hc1333) ?_
              rintro _ _ ⟨w1334, w1335, rfl, rfl⟩
              refine At.run 1 rfl ?_
              refine At.nil ?_
              refine At.thn ?_
              refine At.seq ?_
              refine At.region ?_
              refine At.run 4 rfl ?_
              refine At.y (Y.load rfl rfl (.s .z) rfl rfl rfl) rfl rfl rfl ?_
              refine At.run 1 rfl ?_
              refine At.thaw th1324 ?_
              refine At.cut rfl .z rfl rfl rfl rfl rfl h1327.1 h1327.2 rfl ?_
              refine At.run 2 rfl ?_
              refine At.store rfl rfl rfl rfl (.s (.s .z)) rfl rfl rfl (.s (.s (.s (.s (.s (.c .n)))))) ?_
              refine At.nil ?_
              refine At.thn ?_
              refine At.seq ?_
              refine At.seq ?_
              refine At.region ?_
              refine At.run 3 rfl ?_
              refine At.nil ?_
              refine At.thn ?_
              refine At.block ?_
              obtain ⟨G2142, hl2143, hr2144, hrun⟩ := bjoin hrun
              obtain ⟨o2145, hlo2146, ho2147⟩ := bsome hrun
              clear hrun
              unfold cycles_walk_leave.l1 at hlo2146
              obtain ⟨m2148, hit2150⟩ := iter_some.1 hlo2146
              clear hlo2146
              refine At.loopJ (X := (List Bool) × Int) (Y := (List Bool)) (e0 := 0) (fun s_ => [(0, .pointer (some ⟨b0, 0, none⟩)), (6, .slice w1334 t1332.length w1335), (100, .slice w1334 t1332.length w1335), (101, .int .i64 (t1332.length : Int)), (102, .int .i64 s_.2)]) (fun s_ => pt b0 (.cells [.slice A0_0 a0_0.length c0_0, .func (.func 37) #[] #[], .slice A0_2 a0_2.length c0_2, .slice A0_3 a0_3.length c0_3, .slice A0_4 a0_4.length c0_4, .slice A0_5 ((a0_5.take t1325.toNat).length) c0_5, .slice A0_6 ((a0_6.take (IntKind.i64.wrap ((a0_6.length : Int) - 1)).toNat).length) c0_6, .int .i64 a0_7, .func (.func 55) #[] #[.pointer (some ⟨b0_8_c0, 0, none⟩)]].toArray 86) :: row (Fl.int .i64) 3 A0_5 ((a0_5.take t1325.toNat).length) c0_5 (a0_5.take t1325.toNat) :: row (Fl.int .i64) 3 w1334 t1332.length w1335 t1332 :: row cycles_stand.fl 99 A0_6 ((a0_6.take (IntKind.i64.wrap ((a0_6.length : Int) - 1)).toNat).length) c0_6 (a0_6.take (IntKind.i64.wrap ((a0_6.length : Int) - 1)).toNat) :: row (Fl.int .i64) 3 A0_2 a0_2.length c0_2 a0_2 :: row (Fl.int .i64) 3 A0_3 a0_3.length c0_3 a0_3 :: row Fl.bool 4 A0_4 a0_4.length c0_4 s_.1 :: pt b0_8_c0 (.cells [.slice A0_8_c0_0 a0_8_c0_0.length c0_8_c0_0].toArray 22) :: rows (Fl.int .i64) 3 26 A0_8_c0_0 a0_8_c0_0.length c0_8_c0_0 a0_8_c0_0 :: Fr) (fun m_ => fun s_ => iterN (fun t_ : (List Bool) × Int => cycles_walk_leave.l1b a0_4 t1332 t_.1 t_.2) m_ (s_.1, s_.2) = some o2145) m2148 (a0_4, 0) hit2150 (fun x2141 => [(0, .pointer (some ⟨b0, 0, none⟩)), (6, .slice w1334 t1332.length w1335)]) (fun x2141 => pt b0 (.cells [.slice A0_0 a0_0.length c0_0, .func (.func 37) #[] #[], .slice A0_2 a0_2.length c0_2, .slice A0_3 a0_3.length c0_3, .slice A0_4 a0_4.length c0_4, .slice A0_5 ((a0_5.take t1325.toNat).length) c0_5, .slice A0_6 ((a0_6.take (IntKind.i64.wrap ((a0_6.length : Int) - 1)).toNat).length) c0_6, .int .i64 a0_7, .func (.func 55) #[] #[.pointer (some ⟨b0_8_c0, 0, none⟩)]].toArray 86) :: row (Fl.int .i64) 3 A0_5 ((a0_5.take t1325.toNat).length) c0_5 (a0_5.take t1325.toNat) :: row (Fl.int .i64) 3 w1334 t1332.length w1335 t1332 :: row cycles_stand.fl 99 A0_6 ((a0_6.take (IntKind.i64.wrap ((a0_6.length : Int) - 1)).toNat).length) c0_6 (a0_6.take (IntKind.i64.wrap ((a0_6.length : Int) - 1)).toNat) :: row (Fl.int .i64) 3 A0_2 a0_2.length c0_2 a0_2 :: row (Fl.int .i64) 3 A0_3 a0_3.length c0_3 a0_3 :: row Fl.bool 4 A0_4 a0_4.length c0_4 x2141 :: pt b0_8_c0 (.cells [.slice A0_8_c0_0 a0_8_c0_0.length c0_8_c0_0].toArray 22) :: rows (Fl.int .i64) 3 26 A0_8_c0_0 a0_8_c0_0.length c0_8_c0_0 a0_8_c0_0 :: Fr) (fun x2141 => G2142 (.inl x2141) = some r) (fun a w e hs => ⟨e.sub ⟨rfl, rfl, rfl, rfl, rfl, trivial⟩, hs⟩) ?_ (fun J2152 => ?_)
              · rintro x2141 hrun
                have hrun := (hl2143 _).symm.trans hrun
                · refine At.ibx ?_
                  refine At.thn ?_
                  refine At.seq ?_
                  refine At.region ?_
                  refine At.run 1 rfl ?_
                  refine At.frt (.s (.s .z)) ?_
                  obtain ⟨t2153, hc2154, hrun⟩ := bbind hrun
                  refine At.call rfl slices_Sort_int_int.callee rfl rfl rfl (slices_Sort_int_int.spec _ _ w1334 t1332.length w1335 t1332 rfl hc2154) ?_
                  rintro _ _ ⟨rfl, rfl⟩
                  refine At.nil ?_
                  refine At.thn ?_
                  refine At.region ?_
                  refine At.run 3 rfl ?_
                  refine At.y (Y.load rfl rfl (.s .z) rfl rfl rfl) rfl rfl rfl ?_
                  refine At.run 1 rfl ?_
                  refine At.rowLen .z fun hn2155 => ?_
                  refine At.frt (.s (.s (.s (.s (.s (.s (.s (.s .z)))))))) ?_
                  refine At.frt (.s (.s (.s (.s (.s (.s (.s (.s .z)))))))) ?_
                  refine At.frt (.s (.s .z)) ?_
                  obtain ⟨t2156, hc2157, hrun⟩ := bbind hrun
                  refine At.call rfl cycles_parts_1.callee rfl rfl rfl (cycles_parts_1.spec _ _ w1334 t1332.length w1335 b0_8_c0 A0_8_c0_0 a0_8_c0_0.length c0_8_c0_0 t2153 a0_8_c0_0 hn2155 rfl hc2157) ?_
                  rintro _ _ ⟨w2158, w2159, rfl, rfl⟩
                  refine At.nil ?_
                  refine At.rowsLen (.s .z) fun hn2160 _ => ?_
                  refine At.frt (.s .z) ?_
                  refine At.frt (.s .z) ?_
                  refine At.frt (.s (.s (.s (.s .z)))) ?_
                  refine At.frt (.s (.s (.s (.s .z)))) ?_
                  refine At.frt (.s (.s (.s (.s (.s (.s (.s .z))))))) ?_
                  refine At.frt (.s (.s (.s (.s (.s (.s (.s .z))))))) ?_
                  refine At.frt (.s (.s (.s (.s (.s (.s (.s .z))))))) ?_
                  refine At.frt (.s (.s (.s (.s (.s (.s (.s .z))))))) ?_
                  obtain rfl := (bret hrun).symm
                  exact At.res (.inr rfl) rfl rfl ⟨(a0_5.take t1325.toNat).length, (a0_8_c0_0 ++ [t2153]).length, w2158, w2159, rfl, rfl, rfl, hn2160⟩
              · clear hit2150 m2148
                rintro m2148 ⟨x1939, x1940⟩ hit2150
                obtain ⟨m2149, f_, hlt2151, hf_, hrun⟩ := bit hit2150
                clear hit2150
                have hrun : (cycles_walk_leave.l1b a0_4 t1332 x1939 x1940).bind _ = some o2145 := hrun
                unfold cycles_walk_leave.l1b at hrun
                · refine At.seq ?_
                  refine At.region ?_
                  refine At.run 1 rfl ?_
                  refine At.nil ?_
                  refine At.thn ?_
                  refine At.seq ?_
                  rcases bite hrun with ⟨h2161, hrun⟩ | ⟨h2161, hrun⟩
                  · · refine At.condT rfl (decide_eq_true h2161) ?_
                      refine At.skip ?_
                      refine At.thn ?_
                      refine At.seq ?_
                      refine At.block ?_
                      refine At.seq ?_
                      refine At.region ?_
                      obtain ⟨h2162, hrun⟩ := bnone hrun
                      refine At.y (Y.ix (.s (.s .z)) rfl rfl rfl rfl rfl rfl h2162.1 h2162.2) rfl rfl rfl ?_
                      refine At.y (Y.ld (.s (.s .z)) (q := 0) rfl rfl h2162.1 h2162.2 rfl rfl rfl) rfl rfl rfl ?_
                      refine At.run 1 rfl ?_
                      refine At.nil ?_
                      refine At.thn ?_
                      refine At.region ?_
                      refine At.run 3 rfl ?_
                      refine At.y (Y.load rfl rfl .z rfl rfl rfl) rfl rfl rfl ?_
                      refine At.run 1 rfl ?_
                      obtain ⟨h2163, hrun⟩ := bnone hrun
                      refine At.y (Y.ix (.s (.s (.s (.s (.s (.s .z)))))) rfl rfl rfl rfl rfl rfl h2163.1 h2163.2) rfl rfl rfl ?_
                      refine At.st rfl (.s (.s (.s (.s (.s (.s .z)))))) (q := 0) (z := false) rfl rfl rfl h2163.1 h2163.2 rfl rfl (.c .n) ?_
                      refine At.nil ?_
                      refine At.ibn ?_
                      refine At.thn ?_
                      refine At.region ?_
                      refine At.run 2 rfl ?_
                      refine At.nil ?_
                      refine At.frt (.s (.s (.s (.s (.s (.s (.s (.s .z)))))))) ?_
                      refine At.frt (.s (.s (.s (.s (.s (.s (.s (.s .z)))))))) ?_
                      refine At.frt (.s (.s .z)) ?_
                      refine At.frt (.s (.s (.s (.s (.s (.s (.s (.s .z)))))))) ?_
                      refine At.frt (.s (.s (.s (.s (.s (.s (.s (.s .z)))))))) ?_
                      refine At.frt (.s (.s (.s (.s (.s (.s (.s (.s .z)))))))) ?_
                      refine At.frt (.s (.s (.s (.s (.s (.s (.s (.s .z)))))))) ?_
                      refine At.frt (.s (.s (.s (.s (.s (.s (.s (.s .z)))))))) ?_
                      refine At.frt (.s (.s (.s (.s (.s (.s (.s (.s .z)))))))) ?_
                      have hrun := bnx hf_ hrun
                      exact fun a w e hs => ⟨m2149, ((st x1939 (gt t1332 x1940) false), IntKind.i64.wrap (x1940 + 1)), hlt2151, hrun, e.sub ⟨rfl, rfl, rfl, rfl, rfl, trivial⟩, hs⟩
                  · · refine At.condF rfl (decide_eq_false h2161) ?_
                      refine At.exit ?_
                      refine At.the ?_
                      refine At.the ?_
                      exact fun a w e hs => J2152 x1939 (bdn hrun ho2147) a w (e.sub ⟨rfl, rfl, trivial⟩) hs
  · refine At.H.all [4, 8] (by kernel_rfl) rfl (all_cons ?_ (all_cons ?_ all_nil))
    · · refine At.HO.op rfl ?_
        refine At.y (Y.load rfl rfl .z rfl rfl rfl) rfl rfl rfl ?_
        refine At.HO.back (.c (.s .z) (.c (.s .z) (.c (.s .z) (.c (.s .z) (.c (.s (.s .z)) (.c (.s (.s .z)) .n)))))) ?_
        refine At.H.all [8] (by kernel_rfl) rfl (all_cons ?_ all_nil)
        · · refine At.HO.op rfl ?_
            refine At.y (Y.load rfl rfl .z rfl rfl rfl) rfl rfl rfl ?_
            refine At.HO.back (.c (.s .z) (.c (.s .z) (.c (.s .z) (.c (.s .z) (.c (.s (.s .z)) (.c (.s (.s .z)) .n)))))) ?_
            refine At.H.pv 9 rfl (by kernel_rfl) (by kernel_rfl) (by kernel_rfl) rfl rfl rfl rfl (.c (.s .z) (.c (.s .z) (.c (.s .z) (.c (.s .z) (.c (.s (.s .z)) (.c (.s (.s .z)) .n)))))) ?_
            refine At.H.pv 10 rfl (by kernel_rfl) (by kernel_rfl) (by kernel_rfl) rfl rfl rfl rfl (.c (.s .z) (.c (.s .z) (.c (.s .z) (.c (.s .z) (.c (.s (.s .z)) (.c (.s (.s .z)) .n)))))) ?_
            refine At.H.all [11] (by kernel_rfl) rfl (all_cons ?_ all_nil)
            · · refine At.HO.op rfl ?_
                refine At.cut rfl (.s (.s (.s (.s (.s .z))))) rfl rfl rfl rfl rfl h464.1 h464.2 rfl ?_
                refine At.HO.back (.c (.s (.s .z)) (.c (.s (.s .z)) (.c (.s (.s .z)) (.c (.s (.s .z)) (.c (.s (.s .z)) (.c (.s (.s .z)) .n)))))) ?_
                refine At.H.pv 12 rfl (by kernel_rfl) (by kernel_rfl) (by kernel_rfl) rfl rfl rfl rfl (.c (.s (.s .z)) (.c (.s (.s .z)) (.c (.s (.s .z)) (.c (.s (.s .z)) (.c (.s (.s .z)) (.c (.s (.s .z)) .n)))))) ?_
                refine At.H.pv 13 rfl (by kernel_rfl) (by kernel_rfl) (by kernel_rfl) rfl rfl rfl rfl (.c (.s (.s .z)) (.c (.s (.s .z)) (.c (.s (.s .z)) (.c (.s (.s .z)) (.c (.s (.s .z)) (.c (.s (.s .z)) .n)))))) ?_
                refine At.H.all [14] (by kernel_rfl) rfl (all_cons ?_ all_nil)
                · · refine At.HO.op rfl ?_
                    refine At.store rfl rfl rfl rfl (.s .z) rfl rfl rfl (.s (.s (.s (.s (.s (.s (.c .n))))))) ?_
                    refine At.HO.back (.c (.s (.s .z)) (.c (.s (.s .z)) (.c (.s (.s .z)) (.c (.s (.s .z)) (.c (.s (.s .z)) (.c (.s (.s .z)) .n)))))) ?_
                    refine At.H.done (by kernel_rfl) ?_
                    exact At.of (J463 () trivial) ⟨rfl, rfl, trivial⟩
    · · refine At.HO.op rfl ?_
        refine At.y (Y.load rfl rfl .z rfl rfl rfl) rfl rfl rfl ?_
        refine At.HO.back (.c (.s .z) (.c (.s .z) (.c (.s .z) (.c (.s .z) (.c (.s (.s .z)) (.c (.s (.s .z)) .n)))))) ?_
        refine At.H.pv 9 rfl (by kernel_rfl) (by kernel_rfl) (by kernel_rfl) rfl rfl rfl rfl (.c (.s .z) (.c (.s .z) (.c (.s .z) (.c (.s .z) (.c (.s (.s .z)) (.c (.s (.s .z)) .n)))))) ?_
        refine At.H.pv 10 rfl (by kernel_rfl) (by kernel_rfl) (by kernel_rfl) rfl rfl rfl rfl (.c (.s .z) (.c (.s .z) (.c (.s .z) (.c (.s .z) (.c (.s (.s .z)) (.c (.s (.s .z)) .n)))))) ?_
        refine At.H.all [4] (by kernel_rfl) rfl (all_cons ?_ all_nil)
        · · refine At.HO.op rfl ?_
            refine At.y (Y.load rfl rfl .z rfl rfl rfl) rfl rfl rfl ?_
            refine At.HO.back (.c (.s .z) (.c (.s .z) (.c (.s .z) (.c (.s .z) (.c (.s (.s .z)) (.c (.s (.s .z)) .n)))))) ?_
            refine At.H.all [11] (by kernel_rfl) rfl (all_cons ?_ all_nil)
            · · refine At.HO.op rfl ?_
                refine At.cut rfl (.s (.s (.s (.s (.s .z))))) rfl rfl rfl rfl rfl h464.1 h464.2 rfl ?_
                refine At.HO.back (.c (.s (.s .z)) (.c (.s (.s .z)) (.c (.s (.s .z)) (.c (.s (.s .z)) (.c (.s (.s .z)) (.c (.s (.s .z)) .n)))))) ?_
                refine At.H.pv 12 rfl (by kernel_rfl) (by kernel_rfl) (by kernel_rfl) rfl rfl rfl rfl (.c (.s (.s .z)) (.c (.s (.s .z)) (.c (.s (.s .z)) (.c (.s (.s .z)) (.c (.s (.s .z)) (.c (.s (.s .z)) .n)))))) ?_
                refine At.H.pv 13 rfl (by kernel_rfl) (by kernel_rfl) (by kernel_rfl) rfl rfl rfl rfl (.c (.s (.s .z)) (.c (.s (.s .z)) (.c (.s (.s .z)) (.c (.s (.s .z)) (.c (.s (.s .z)) (.c (.s (.s .z)) .n)))))) ?_
                refine At.H.all [14] (by kernel_rfl) rfl (all_cons ?_ all_nil)
                · · refine At.HO.op rfl ?_
                    refine At.store rfl rfl rfl rfl (.s .z) rfl rfl rfl (.s (.s (.s (.s (.s (.s (.c .n))))))) ?_
                    refine At.HO.back (.c (.s (.s .z)) (.c (.s (.s .z)) (.c (.s (.s .z)) (.c (.s (.s .z)) (.c (.s (.s .z)) (.c (.s (.s .z)) .n)))))) ?_
                    refine At.H.done (by kernel_rfl) ?_
                    exact At.of (J463 () trivial) ⟨rfl, rfl, trivial⟩

noncomputable def cycles_walk_from.l0b (a0_0 : List (List Int)) (a0_2 : List Int) (a0_3 : List Int) (a0_4 : List Bool) (x895 : List Int) (x896 : List Int) (x897 : List Bool) (x898 : List Int) (x903 : List cycles_stand) (x908 : List (List Int)) (x913 : Int) : Option (((List Int) × (List Int) × (List Bool) × (List Int) × (List cycles_stand) × (List (List Int)) × Int) ⊕ (((List Int) × (List Int) × (List Bool) × (List Int) × (List cycles_stand) × (List (List Int)) × Int) ⊕ ((List Int) × (List Int) × (List Bool) × (List Int) × (List cycles_stand) × (List (List Int)) × Int))) :=
  if 0 < (x903.length : Int) then
    if (0 : Int) ≤ IntKind.i64.wrap ((x903.length : Int) - 1) ∧ IntKind.i64.wrap ((x903.length : Int) - 1) < (x903.length : Int) then
      if (0 : Int) ≤ (gt x903 (IntKind.i64.wrap ((x903.length : Int) - 1))).node ∧ (gt x903 (IntKind.i64.wrap ((x903.length : Int) - 1))).node < (a0_0.length : Int) then
        if (gt x903 (IntKind.i64.wrap ((x903.length : Int) - 1))).step = ((gt a0_0 ((gt x903 (IntKind.i64.wrap ((x903.length : Int) - 1))).node)).length : Int) then
          (cycles_walk_leave.f a0_0 x895 x896 x897 x898 x903 x913 x908 ((gt x903 (IntKind.i64.wrap ((x903.length : Int) - 1))).node)).bind fun t1156 =>
            nx (x895, t1156.1, t1156.2.2.1, t1156.2.2.2.1, t1156.2.1, t1156.2.2.2.2, x913)
        else
          if (0 : Int) ≤ (gt x903 (IntKind.i64.wrap ((x903.length : Int) - 1))).step ∧ (gt x903 (IntKind.i64.wrap ((x903.length : Int) - 1))).step < ((gt a0_0 ((gt x903 (IntKind.i64.wrap ((x903.length : Int) - 1))).node)).length : Int) then
            jn (
              if gt (gt a0_0 ((gt x903 (IntKind.i64.wrap ((x903.length : Int) - 1))).node)) ((gt x903 (IntKind.i64.wrap ((x903.length : Int) - 1))).step) < 0 then
                some (.inl true)
              else
                some (.inl (decide ((a0_0.length : Int) ≤ gt (gt a0_0 ((gt x903 (IntKind.i64.wrap ((x903.length : Int) - 1))).node)) ((gt x903 (IntKind.i64.wrap ((x903.length : Int) - 1))).step))))) (fun (x1371 : Bool) =>
              jn (
                if x1371 = true then
                  some (.inl true)
                else
                  (cycles_Components_1.f (gt (gt a0_0 ((gt x903 (IntKind.i64.wrap ((x903.length : Int) - 1))).node)) ((gt x903 (IntKind.i64.wrap ((x903.length : Int) - 1))).step))).bind fun t1603 =>
                    some (.inl (!t1603))) (fun (x1576 : Bool) =>
                if x1576 = true then
                  nx (x895, x896, x897, x898, (st x903 (IntKind.i64.wrap ((x903.length : Int) - 1)) ({ gt x903 (IntKind.i64.wrap ((x903.length : Int) - 1)) with step := IntKind.i64.wrap ((gt x903 (IntKind.i64.wrap ((x903.length : Int) - 1))).step + 1) })), x908, x913)
                else
                  if (0 : Int) ≤ gt (gt a0_0 ((gt x903 (IntKind.i64.wrap ((x903.length : Int) - 1))).node)) ((gt x903 (IntKind.i64.wrap ((x903.length : Int) - 1))).step) ∧ gt (gt a0_0 ((gt x903 (IntKind.i64.wrap ((x903.length : Int) - 1))).node)) ((gt x903 (IntKind.i64.wrap ((x903.length : Int) - 1))).step) < (a0_2.length : Int) then
                    if gt x895 (gt (gt a0_0 ((gt x903 (IntKind.i64.wrap ((x903.length : Int) - 1))).node)) ((gt x903 (IntKind.i64.wrap ((x903.length : Int) - 1))).step)) = 0 then
                      (cycles_walk_meet.f a0_0 x895 x896 x897 x898 (st x903 (IntKind.i64.wrap ((x903.length : Int) - 1)) ({ gt x903 (IntKind.i64.wrap ((x903.length : Int) - 1)) with step := IntKind.i64.wrap ((gt x903 (IntKind.i64.wrap ((x903.length : Int) - 1))).step + 1) })) x913 x908 (gt (gt a0_0 ((gt x903 (IntKind.i64.wrap ((x903.length : Int) - 1))).node)) ((gt x903 (IntKind.i64.wrap ((x903.length : Int) - 1))).step))).bind fun t1589 =>
                        nx (t1589.2.2.2.2.1, t1589.2.2.2.1, t1589.2.2.1, t1589.2.1, t1589.1, x908, t1589.2.2.2.2.2)
                    else
                      if (0 : Int) ≤ gt (gt a0_0 ((gt x903 (IntKind.i64.wrap ((x903.length : Int) - 1))).node)) ((gt x903 (IntKind.i64.wrap ((x903.length : Int) - 1))).step) ∧ gt (gt a0_0 ((gt x903 (IntKind.i64.wrap ((x903.length : Int) - 1))).node)) ((gt x903 (IntKind.i64.wrap ((x903.length : Int) - 1))).step) < (a0_4.length : Int) then
                        if gt x897 (gt (gt a0_0 ((gt x903 (IntKind.i64.wrap ((x903.length : Int) - 1))).node)) ((gt x903 (IntKind.i64.wrap ((x903.length : Int) - 1))).step)) = true then
                          if (0 : Int) ≤ (gt (st x903 (IntKind.i64.wrap ((x903.length : Int) - 1)) ({ gt x903 (IntKind.i64.wrap ((x903.length : Int) - 1)) with step := IntKind.i64.wrap ((gt x903 (IntKind.i64.wrap ((x903.length : Int) - 1))).step + 1) })) (IntKind.i64.wrap ((x903.length : Int) - 1))).node ∧ (gt (st x903 (IntKind.i64.wrap ((x903.length : Int) - 1)) ({ gt x903 (IntKind.i64.wrap ((x903.length : Int) - 1)) with step := IntKind.i64.wrap ((gt x903 (IntKind.i64.wrap ((x903.length : Int) - 1))).step + 1) })) (IntKind.i64.wrap ((x903.length : Int) - 1))).node < (a0_3.length : Int) then
                            nx (x895, (st x896 ((gt (st x903 (IntKind.i64.wrap ((x903.length : Int) - 1)) ({ gt x903 (IntKind.i64.wrap ((x903.length : Int) - 1)) with step := IntKind.i64.wrap ((gt x903 (IntKind.i64.wrap ((x903.length : Int) - 1))).step + 1) })) (IntKind.i64.wrap ((x903.length : Int) - 1))).node) (if gt x895 (gt (gt a0_0 ((gt x903 (IntKind.i64.wrap ((x903.length : Int) - 1))).node)) ((gt x903 (IntKind.i64.wrap ((x903.length : Int) - 1))).step)) < gt x896 ((gt (st x903 (IntKind.i64.wrap ((x903.length : Int) - 1)) ({ gt x903 (IntKind.i64.wrap ((x903.length : Int) - 1)) with step := IntKind.i64.wrap ((gt x903 (IntKind.i64.wrap ((x903.length : Int) - 1))).step + 1) })) (IntKind.i64.wrap ((x903.length : Int) - 1))).node) then gt x895 (gt (gt a0_0 ((gt x903 (IntKind.i64.wrap ((x903.length : Int) - 1))).node)) ((gt x903 (IntKind.i64.wrap ((x903.length : Int) - 1))).step)) else gt x896 ((gt (st x903 (IntKind.i64.wrap ((x903.length : Int) - 1)) ({ gt x903 (IntKind.i64.wrap ((x903.length : Int) - 1)) with step := IntKind.i64.wrap ((gt x903 (IntKind.i64.wrap ((x903.length : Int) - 1))).step + 1) })) (IntKind.i64.wrap ((x903.length : Int) - 1))).node))), x897, x898, (st x903 (IntKind.i64.wrap ((x903.length : Int) - 1)) ({ gt x903 (IntKind.i64.wrap ((x903.length : Int) - 1)) with step := IntKind.i64.wrap ((gt x903 (IntKind.i64.wrap ((x903.length : Int) - 1))).step + 1) })), x908, x913)
                          else none
                        else
                          nx (x895, x896, x897, x898, (st x903 (IntKind.i64.wrap ((x903.length : Int) - 1)) ({ gt x903 (IntKind.i64.wrap ((x903.length : Int) - 1)) with step := IntKind.i64.wrap ((gt x903 (IntKind.i64.wrap ((x903.length : Int) - 1))).step + 1) })), x908, x913)
                      else none
                  else none))
          else none
      else none
    else none
  else
    dn (.inl (x895, x896, x897, x898, x903, x908, x913))
noncomputable def cycles_walk_from.l0 (a0_0 : List (List Int)) (a0_2 : List Int) (a0_3 : List Int) (a0_4 : List Bool) (x895 : List Int) (x896 : List Int) (x897 : List Bool) (x898 : List Int) (x903 : List cycles_stand) (x908 : List (List Int)) (x913 : Int) : Option (((List Int) × (List Int) × (List Bool) × (List Int) × (List cycles_stand) × (List (List Int)) × Int) ⊕ ((List Int) × (List Int) × (List Bool) × (List Int) × (List cycles_stand) × (List (List Int)) × Int)) := iter (fun t_ : (List Int) × (List Int) × (List Bool) × (List Int) × (List cycles_stand) × (List (List Int)) × Int => cycles_walk_from.l0b a0_0 a0_2 a0_3 a0_4 t_.1 t_.2.1 t_.2.2.1 t_.2.2.2.1 t_.2.2.2.2.1 t_.2.2.2.2.2.1 t_.2.2.2.2.2.2) (x895, x896, x897, x898, x903, x908, x913)
noncomputable def cycles_walk_from.f (a0_0 : List (List Int)) (a0_2 : List Int) (a0_3 : List Int) (a0_4 : List Bool) (a0_5 : List Int) (a0_6 : List cycles_stand) (a0_7 : Int) (a0_8_c0_0 : List (List Int)) (a1 : Int) : Option ((List Int) × (List Int) × (List Bool) × (List Int) × (List cycles_stand) × (List (List Int)) × Int) :=
  (cycles_walk_meet.f a0_0 a0_2 a0_3 a0_4 a0_5 a0_6 a0_7 a0_8_c0_0 a1).bind fun t270 =>
    jn (cycles_walk_from.l0 a0_0 a0_2 a0_3 a0_4 t270.2.2.2.2.1 t270.2.2.2.1 t270.2.2.1 t270.2.1 t270.1 a0_8_c0_0 t270.2.2.2.2.2) (fun (s_ : (List Int) × (List Int) × (List Bool) × (List Int) × (List cycles_stand) × (List (List Int)) × Int) =>
      some (s_.1, s_.2.1, s_.2.2.1, s_.2.2.2.1, s_.2.2.2.2.1, s_.2.2.2.2.2.1, s_.2.2.2.2.2.2))
theorem cycles_walk_from.callee : Callee Go.Proofs.Try.prog 56 := ⟨_, Go.Proofs.Try.func56, by kernel_rfl, by kernel_rfl⟩
set_option maxRecDepth 100000 in
set_option maxHeartbeats 2000000 in
theorem cycles_walk_from.spec (R : Res) (Fr : List HProp) (b0 : Nat) (A0_0 : Option Addr) (n0_0 : Nat) (c0_0 : Nat) (A0_2 : Option Addr) (n0_2 : Nat) (c0_2 : Nat) (A0_3 : Option Addr) (n0_3 : Nat) (c0_3 : Nat) (A0_4 : Option Addr) (n0_4 : Nat) (c0_4 : Nat) (A0_5 : Option Addr) (n0_5 : Nat) (c0_5 : Nat) (A0_6 : Option Addr) (n0_6 : Nat) (c0_6 : Nat) (b0_8_c0 : Nat) (A0_8_c0_0 : Option Addr) (n0_8_c0_0 : Nat) (c0_8_c0_0 : Nat) (a0_0 : List (List Int)) (a0_2 : List Int) (a0_3 : List Int) (a0_4 : List Bool) (a0_5 : List Int) (a0_6 : List cycles_stand) (a0_7 : Int) (a0_8_c0_0 : List (List Int)) (a1 : Int) (hr0_0 : RdS ((Fl.int .i64).rep).slice R.heap A0_0 a0_0) (hn0_0 : a0_0.length = n0_0) (hc0_0 : n0_0 ≤ c0_0) (hn0_2 : a0_2.length = n0_2) (hn0_3 : a0_3.length = n0_3) (hn0_4 : a0_4.length = n0_4) (hn0_5 : a0_5.length = n0_5) (hn0_6 : a0_6.length = n0_6) (hn0_8_c0_0 : a0_8_c0_0.length = n0_8_c0_0) {r : (List Int) × (List Int) × (List Bool) × (List Int) × (List cycles_stand) × (List (List Int)) × Int} (hrun : cycles_walk_from.f a0_0 a0_2 a0_3 a0_4 a0_5 a0_6 a0_7 a0_8_c0_0 a1 = some r) :
    Spec Go.Proofs.Try.prog 56 [.pointer (some ⟨b0, 0, none⟩), .int .i64 a1] R (pt b0 (.cells [.slice A0_0 n0_0 c0_0, .func (.func 37) #[] #[], .slice A0_2 n0_2 c0_2, .slice A0_3 n0_3 c0_3, .slice A0_4 n0_4 c0_4, .slice A0_5 n0_5 c0_5, .slice A0_6 n0_6 c0_6, .int .i64 a0_7, .func (.func 55) #[] #[.pointer (some ⟨b0_8_c0, 0, none⟩)]].toArray 86) :: row (Fl.int .i64) 3 A0_2 n0_2 c0_2 a0_2 :: row (Fl.int .i64) 3 A0_3 n0_3 c0_3 a0_3 :: row Fl.bool 4 A0_4 n0_4 c0_4 a0_4 :: row (Fl.int .i64) 3 A0_5 n0_5 c0_5 a0_5 :: row cycles_stand.fl 99 A0_6 n0_6 c0_6 a0_6 :: pt b0_8_c0 (.cells [.slice A0_8_c0_0 n0_8_c0_0 c0_8_c0_0].toArray 22) :: rows (Fl.int .i64) 3 26 A0_8_c0_0 n0_8_c0_0 c0_8_c0_0 a0_8_c0_0 :: Fr) (fun v l' => ∃ (w255 : Nat) (w257 : Option Addr) (w258 : Nat) (w260 : Nat) (w262 : Option Addr) (w263 : Nat) (w265 : Nat) (w267 : Option Addr) (w268 : Nat), v = .tuple #[] ∧ pt b0 (.cells [.slice A0_0 n0_0 c0_0, .func (.func 37) #[] #[], .slice A0_2 n0_2 c0_2, .slice A0_3 n0_3 c0_3, .slice A0_4 n0_4 c0_4, .slice w257 w255 w258, .slice w262 w260 w263, .int .i64 r.2.2.2.2.2.2, .func (.func 55) #[] #[.pointer (some ⟨b0_8_c0, 0, none⟩)]].toArray 86) :: row (Fl.int .i64) 3 A0_2 n0_2 c0_2 r.1 :: row (Fl.int .i64) 3 A0_3 n0_3 c0_3 r.2.1 :: row Fl.bool 4 A0_4 n0_4 c0_4 r.2.2.1 :: row (Fl.int .i64) 3 w257 w255 w258 r.2.2.2.1 :: row cycles_stand.fl 99 w262 w260 w263 r.2.2.2.2.1 :: pt b0_8_c0 (.cells [.slice w267 w265 w268].toArray 22) :: rows (Fl.int .i64) 3 26 w267 w265 w268 r.2.2.2.2.2.1 :: Fr = l' ∧ r.2.2.2.1.length = w255 ∧ r.2.2.2.2.1.length = w260 ∧ r.2.2.2.2.2.1.length = w265) := by
  subst hn0_0
  subst hn0_2
  subst hn0_3
  subst hn0_4
  subst hn0_5
  subst hn0_6
  subst hn0_8_c0_0
  refine Spec.of Go.Proofs.Try.func56 rfl rfl ?_
  unfold cycles_walk_from.f at hrun
  have hrun := brun hrun
  refine At.seq ?_
  refine At.region ?_
  refine At.run 2 rfl ?_
  obtain ⟨t270, hc271, hrun⟩ := bbind hrun
  refine At.call rfl cycles_walk_meet.callee rfl rfl rfl (cycles_walk_meet.spec _ _ b0 A0_0 a0_0.length c0_0 A0_2 a0_2.length c0_2 A0_3 a0_3.length c0_3 A0_4 a0_4.length c0_4 A0_5 a0_5.length c0_5 A0_6 a0_6.length c0_6 b0_8_c0 A0_8_c0_0 a0_8_c0_0.length c0_8_c0_0 a0_0 a0_2 a0_3 a0_4 a0_5 a0_6 a0_7 a0_8_c0_0 a1 hr0_0 rfl hc0_0 rfl rfl rfl rfl rfl rfl hc271) ?_
  rintro _ _ ⟨w272, w273, w274, w275, rfl, rfl⟩
  refine At.nil ?_
  refine At.thn ?_
  refine At.block ?_
  obtain ⟨G1133, hl1134, hr1135, hrun⟩ := bjoin hrun
  obtain ⟨o1136, hlo1137, ho1138⟩ := bsome hrun
  clear hrun
  unfold cycles_walk_from.l0 at hlo1137
  obtain ⟨m1139, hit1141⟩ := iter_some.1 hlo1137
  clear hlo1137
  refine At.rowLen (.s (.s (.s (.s .z)))) fun hn1606 => ?_
  refine At.rowLen (.s (.s (.s (.s (.s .z))))) fun hn1607 => ?_
  refine At.loopJ (X := (List Int) × (List Int) × (List Bool) × (List Int) × (List cycles_stand) × (List (List Int)) × Int × Nat × (Option Addr) × Nat × Nat × (Option Addr) × Nat × Nat × (Option Addr) × Nat) (Y := (List Int) × (List Int) × (List Bool) × (List Int) × (List cycles_stand) × (List (List Int)) × Int × Nat × (Option Addr) × Nat × Nat × (Option Addr) × Nat × Nat × (Option Addr) × Nat) (e0 := 0) (fun s_ => [(0, .pointer (some ⟨b0, 0, none⟩))]) (fun s_ => pt b0 (.cells [.slice A0_0 a0_0.length c0_0, .func (.func 37) #[] #[], .slice A0_2 a0_2.length c0_2, .slice A0_3 a0_3.length c0_3, .slice A0_4 a0_4.length c0_4, .slice s_.2.2.2.2.2.2.2.2.1 s_.2.2.2.2.2.2.2.1 s_.2.2.2.2.2.2.2.2.2.1, .slice s_.2.2.2.2.2.2.2.2.2.2.2.1 s_.2.2.2.2.2.2.2.2.2.2.1 s_.2.2.2.2.2.2.2.2.2.2.2.2.1, .int .i64 s_.2.2.2.2.2.2.1, .func (.func 55) #[] #[.pointer (some ⟨b0_8_c0, 0, none⟩)]].toArray 86) :: row (Fl.int .i64) 3 A0_2 a0_2.length c0_2 s_.1 :: row (Fl.int .i64) 3 A0_3 a0_3.length c0_3 s_.2.1 :: row Fl.bool 4 A0_4 a0_4.length c0_4 s_.2.2.1 :: row (Fl.int .i64) 3 s_.2.2.2.2.2.2.2.2.1 s_.2.2.2.2.2.2.2.1 s_.2.2.2.2.2.2.2.2.2.1 s_.2.2.2.1 :: row cycles_stand.fl 99 s_.2.2.2.2.2.2.2.2.2.2.2.1 s_.2.2.2.2.2.2.2.2.2.2.1 s_.2.2.2.2.2.2.2.2.2.2.2.2.1 s_.2.2.2.2.1 :: pt b0_8_c0 (.cells [.slice s_.2.2.2.2.2.2.2.2.2.2.2.2.2.2.1 s_.2.2.2.2.2.2.2.2.2.2.2.2.2.1 s_.2.2.2.2.2.2.2.2.2.2.2.2.2.2.2].toArray 22) :: rows (Fl.int .i64) 3 26 s_.2.2.2.2.2.2.2.2.2.2.2.2.2.2.1 s_.2.2.2.2.2.2.2.2.2.2.2.2.2.1 s_.2.2.2.2.2.2.2.2.2.2.2.2.2.2.2 s_.2.2.2.2.2.1 :: Fr) (fun m_ => fun s_ => iterN (fun t_ : (List Int) × (List Int) × (List Bool) × (List Int) × (List cycles_stand) × (List (List Int)) × Int => cycles_walk_from.l0b a0_0 a0_2 a0_3 a0_4 t_.1 t_.2.1 t_.2.2.1 t_.2.2.2.1 t_.2.2.2.2.1 t_.2.2.2.2.2.1 t_.2.2.2.2.2.2) m_ (s_.1, s_.2.1, s_.2.2.1, s_.2.2.2.1, s_.2.2.2.2.1, s_.2.2.2.2.2.1, s_.2.2.2.2.2.2.1) = some o1136 ∧ s_.2.2.2.1.length = s_.2.2.2.2.2.2.2.1 ∧ s_.2.2.2.2.1.length = s_.2.2.2.2.2.2.2.2.2.2.1 ∧ s_.2.2.2.2.2.1.length = s_.2.2.2.2.2.2.2.2.2.2.2.2.2.1) m1139 (t270.2.2.2.2.1, t270.2.2.2.1, t270.2.2.1, t270.2.1, t270.1, a0_8_c0_0, t270.2.2.2.2.2, (a0_5 ++ ([a1] : List Int)).length, w274, w275, (a0_6 ++ ([(⟨a1, 0⟩ : cycles_stand)] : List cycles_stand)).length, w272, w273, a0_8_c0_0.length, A0_8_c0_0, c0_8_c0_0) ⟨hit1141, hn1606, hn1607, rfl⟩ (fun s_ => []) (fun s_ => pt b0 (.cells [.slice A0_0 a0_0.length c0_0, .func (.func 37) #[] #[], .slice A0_2 a0_2.length c0_2, .slice A0_3 a0_3.length c0_3, .slice A0_4 a0_4.length c0_4, .slice s_.2.2.2.2.2.2.2.2.1 s_.2.2.2.2.2.2.2.1 s_.2.2.2.2.2.2.2.2.2.1, .slice s_.2.2.2.2.2.2.2.2.2.2.2.1 s_.2.2.2.2.2.2.2.2.2.2.1 s_.2.2.2.2.2.2.2.2.2.2.2.2.1, .int .i64 s_.2.2.2.2.2.2.1, .func (.func 55) #[] #[.pointer (some ⟨b0_8_c0, 0, none⟩)]].toArray 86) :: row (Fl.int .i64) 3 A0_2 a0_2.length c0_2 s_.1 :: row (Fl.int .i64) 3 A0_3 a0_3.length c0_3 s_.2.1 :: row Fl.bool 4 A0_4 a0_4.length c0_4 s_.2.2.1 :: row (Fl.int .i64) 3 s_.2.2.2.2.2.2.2.2.1 s_.2.2.2.2.2.2.2.1 s_.2.2.2.2.2.2.2.2.2.1 s_.2.2.2.1 :: row cycles_stand.fl 99 s_.2.2.2.2.2.2.2.2.2.2.2.1 s_.2.2.2.2.2.2.2.2.2.2.1 s_.2.2.2.2.2.2.2.2.2.2.2.2.1 s_.2.2.2.2.1 :: pt b0_8_c0 (.cells [.slice s_.2.2.2.2.2.2.2.2.2.2.2.2.2.2.1 s_.2.2.2.2.2.2.2.2.2.2.2.2.2.1 s_.2.2.2.2.2.2.2.2.2.2.2.2.2.2.2].toArray 22) :: rows (Fl.int .i64) 3 26 s_.2.2.2.2.2.2.2.2.2.2.2.2.2.2.1 s_.2.2.2.2.2.2.2.2.2.2.2.2.2.1 s_.2.2.2.2.2.2.2.2.2.2.2.2.2.2.2 s_.2.2.2.2.2.1 :: Fr) (fun s_ => G1133 (.inl (s_.1, s_.2.1, s_.2.2.1, s_.2.2.2.1, s_.2.2.2.2.1, s_.2.2.2.2.2.1, s_.2.2.2.2.2.2.1)) = some r ∧ s_.2.2.2.1.length = s_.2.2.2.2.2.2.2.1 ∧ s_.2.2.2.2.1.length = s_.2.2.2.2.2.2.2.2.2.2.1 ∧ s_.2.2.2.2.2.1.length = s_.2.2.2.2.2.2.2.2.2.2.2.2.2.1) (fun a w e hs => ⟨e.sub ⟨rfl, trivial⟩, hs⟩) ?_ (fun J1143 => ?_)
  · rintro ⟨x1114, x1115, x1116, x1117, x1122, x1127, x1132, w1118, w1120, w1121, w1123, w1125, w1126, w1128, w1130, w1131⟩ ⟨hrun, hn1119, hn1124, hn1129⟩
    obtain rfl : x1117.length = w1118 := hn1119
    obtain rfl : x1122.length = w1123 := hn1124
    obtain rfl : x1127.length = w1128 := hn1129
    have hrun := (hl1134 _).symm.trans hrun
    · refine At.ibx ?_
      obtain rfl := (bret hrun).symm
      exact At.res (.inr rfl) rfl rfl ⟨x1117.length, w1120, w1121, x1122.length, w1125, w1126, x1127.length, w1130, w1131, rfl, rfl, rfl, rfl, rfl⟩
  · clear hit1141 m1139
    rintro m1139 ⟨x895, x896, x897, x898, x903, x908, x913, w899, w901, w902, w904, w906, w907, w909, w911, w912⟩ ⟨hit1141, hn900, hn905, hn910⟩
    obtain rfl : x898.length = w899 := hn900
    obtain rfl : x903.length = w904 := hn905
    obtain rfl : x908.length = w909 := hn910
    obtain ⟨m1140, f_, hlt1142, hf_, hrun⟩ := bit hit1141
    clear hit1141
    have hrun : (cycles_walk_from.l0b a0_0 a0_2 a0_3 a0_4 x895 x896 x897 x898 x903 x908 x913).bind _ = some o1136 := hrun
    unfold cycles_walk_from.l0b at hrun
    · refine At.seq ?_
      refine At.seq ?_
      refine At.region ?_
      refine At.run 3 rfl ?_
      refine At.y (Y.load rfl rfl .z rfl rfl rfl) rfl rfl rfl ?_
      refine At.run 2 rfl ?_
      refine At.nil ?_
      refine At.thn ?_
      rcases bite hrun with ⟨h1144, hrun⟩ | ⟨h1144, hrun⟩
      · · refine At.condT rfl (decide_eq_true h1144) ?_
          refine At.skip ?_
          refine At.thn ?_
          refine At.block ?_
          refine At.seq ?_
          refine At.quiet (by kernel_rfl) ?_
          refine At.Quiet.run 3 rfl ?_
          refine At.Quiet.y (Y.load rfl rfl .z rfl rfl rfl) rfl rfl rfl ?_
          refine At.Quiet.run 3 rfl ?_
          refine At.Quiet.y (Y.load rfl rfl .z rfl rfl rfl) rfl rfl rfl ?_
          refine At.Quiet.run 2 rfl ?_
          obtain ⟨h1145, hrun⟩ := bnone hrun
          refine At.Quiet.y (Y.ix (.s (.s (.s (.s (.s .z))))) rfl rfl rfl rfl rfl rfl h1145.1 h1145.2) rfl rfl rfl ?_
          refine At.Quiet.run 1 rfl ?_
          refine At.Quiet.nil ?_
          refine At.thn ?_
          refine At.seq ?_
          refine At.seq ?_
          refine At.quiet (by kernel_rfl) ?_
          refine At.Quiet.run 1 rfl ?_
          refine At.Quiet.y (Y.ncOwn (.s (.s (.s (.s (.s .z))))) h1145.1 h1145.2 rfl) rfl rfl rfl ?_
          refine At.Quiet.y (Y.faOwn (.s (.s (.s (.s (.s .z))))) h1145.1 h1145.2 rfl rfl rfl rfl rfl rfl) rfl rfl rfl ?_
          refine At.Quiet.y (Y.ld (.s (.s (.s (.s (.s .z))))) (q := 1) rfl rfl h1145.1 h1145.2 rfl rfl rfl) rfl rfl rfl ?_
          refine At.Quiet.run 3 rfl ?_
          refine At.Quiet.y (Y.load rfl rfl .z rfl rfl rfl) rfl rfl rfl ?_
          refine At.Quiet.run 1 rfl ?_
          refine At.Quiet.y (Y.ncOwn (.s (.s (.s (.s (.s .z))))) h1145.1 h1145.2 rfl) rfl rfl rfl ?_
          refine At.Quiet.y (Y.faOwn (.s (.s (.s (.s (.s .z))))) h1145.1 h1145.2 rfl rfl rfl rfl rfl rfl) rfl rfl rfl ?_
          refine At.Quiet.y (Y.ld (.s (.s (.s (.s (.s .z))))) (q := 0) rfl rfl h1145.1 h1145.2 rfl rfl rfl) rfl rfl rfl ?_
          obtain ⟨h1146, hrun⟩ := bnone hrun
          refine At.Quiet.y (Y.ixRd hr0_0 rfl rfl rfl rfl rfl rfl rfl h1146.1 h1146.2) rfl rfl rfl ?_
          obtain ⟨A1147, c1148, hc1149, hr1150, hy1151⟩ := RdS.rowAt (P := Go.Proofs.Try.prog) hr0_0 (Sub.refl _) rfl h1146.1 h1146.2
          refine At.Quiet.y (hy1151 rfl rfl rfl rfl) rfl rfl rfl ?_
          refine At.Quiet.run 2 rfl ?_
          refine At.Quiet.nil ?_
          refine At.thn ?_
          rcases bite hrun with ⟨h1152, hrun⟩ | ⟨h1152, hrun⟩
          · · refine At.condT rfl (decide_eq_true h1152) ?_
              refine At.seq ?_
              refine At.region ?_
              refine At.run 2 rfl ?_
              refine At.y (Y.ncOwn (.s (.s (.s (.s (.s .z))))) h1145.1 h1145.2 rfl) rfl rfl rfl ?_
              refine At.y (Y.faOwn (.s (.s (.s (.s (.s .z))))) h1145.1 h1145.2 rfl rfl rfl rfl rfl rfl) rfl rfl rfl ?_
              refine At.y (Y.ld (.s (.s (.s (.s (.s .z))))) (q := 0) rfl rfl h1145.1 h1145.2 rfl rfl rfl) rfl rfl rfl ?_
              refine At.rowLen (.s .z) fun hn1153 => ?_
              refine At.rowLen (.s (.s .z)) fun hn1154 => ?_
              refine At.rowLen (.s (.s (.s .z))) fun hn1155 => ?_
              obtain ⟨t1156, hc1157, hrun⟩ := bbind hrun
              refine At.call rfl cycles_walk_leave.callee rfl rfl rfl (cycles_walk_leave.spec _ _ b0 A0_0 a0_0.length c0_0 A0_2 a0_2.length c0_2 A0_3 a0_3.length c0_3 A0_4 a0_4.length c0_4 w901 x898.length w902 w906 x903.length w907 b0_8_c0 w911 x908.length w912 a0_0 x895 x896 x897 x898 x903 x913 x908 ((gt x903 (IntKind.i64.wrap ((x903.length : Int) - 1))).node) hr0_0 rfl hc0_0 hn1153 hn1154 hn1155 rfl rfl rfl hc1157) ?_
              rintro _ _ ⟨w1158, w1159, w1160, w1161, rfl, rfl, rfl, rfl⟩
              refine At.nil ?_
              refine At.thn ?_
              refine At.exit ?_
              refine At.the ?_
              refine At.ibx ?_
              refine At.rowLen (.s (.s (.s (.s (.s .z))))) fun hn1164 => ?_
              have hrun := bnx hf_ hrun
              exact fun a w e hs => ⟨m1140, (x895, t1156.1, t1156.2.2.1, t1156.2.2.2.1, t1156.2.1, t1156.2.2.2.2, x913, t1156.2.2.2.1.length, w901, w902, (x903.take (IntKind.i64.wrap ((x903.length : Int) - 1)).toNat).length, w906, w907, t1156.2.2.2.2.length, w1160, w1161), hlt1142, ⟨hrun, rfl, hn1164, rfl⟩, e.sub ⟨rfl, trivial⟩, hs⟩
          · · refine At.condF rfl (decide_eq_false h1152) ?_
              refine At.skip ?_
              refine At.thn ?_
              refine At.seq ?_
              refine At.quiet (by kernel_rfl) ?_
              refine At.Quiet.run 3 rfl ?_
              refine At.Quiet.y (Y.load rfl rfl .z rfl rfl rfl) rfl rfl rfl ?_
              refine At.Quiet.run 1 rfl ?_
              refine At.Quiet.y (Y.ncOwn (.s (.s (.s (.s (.s .z))))) h1145.1 h1145.2 rfl) rfl rfl rfl ?_
              refine At.Quiet.y (Y.faOwn (.s (.s (.s (.s (.s .z))))) h1145.1 h1145.2 rfl rfl rfl rfl rfl rfl) rfl rfl rfl ?_
              refine At.Quiet.y (Y.ld (.s (.s (.s (.s (.s .z))))) (q := 0) rfl rfl h1145.1 h1145.2 rfl rfl rfl) rfl rfl rfl ?_
              refine At.Quiet.y (Y.ixRd hr0_0 rfl rfl rfl rfl rfl rfl rfl h1146.1 h1146.2) rfl rfl rfl ?_
              obtain ⟨A1165, c1166, hc1167, hr1168, hy1169⟩ := RdS.rowAt (P := Go.Proofs.Try.prog) hr0_0 (Sub.refl _) rfl h1146.1 h1146.2
              refine At.Quiet.y (hy1169 rfl rfl rfl rfl) rfl rfl rfl ?_
              refine At.Quiet.run 1 rfl ?_
              refine At.Quiet.y (Y.ncOwn (.s (.s (.s (.s (.s .z))))) h1145.1 h1145.2 rfl) rfl rfl rfl ?_
              refine At.Quiet.y (Y.faOwn (.s (.s (.s (.s (.s .z))))) h1145.1 h1145.2 rfl rfl rfl rfl rfl rfl) rfl rfl rfl ?_
              refine At.Quiet.y (Y.ld (.s (.s (.s (.s (.s .z))))) (q := 1) rfl rfl h1145.1 h1145.2 rfl rfl rfl) rfl rfl rfl ?_
              obtain ⟨h1170, hrun⟩ := bnone hrun
              refine At.Quiet.y (Y.ixRd hr1168 rfl rfl rfl rfl rfl rfl rfl h1170.1 h1170.2) rfl rfl rfl ?_
              refine At.Quiet.y (Y.ldFl hr1168 rfl (q := 0) rfl rfl h1170.1 h1170.2 rfl rfl rfl) rfl rfl rfl ?_
              refine At.Quiet.run 1 rfl ?_
              refine At.Quiet.nil ?_
              refine At.thn ?_
              refine At.seq ?_
              refine At.region ?_
              refine At.run 1 rfl ?_
              refine At.y (Y.ncOwn (.s (.s (.s (.s (.s .z))))) h1145.1 h1145.2 rfl) rfl rfl rfl ?_
              refine At.y (Y.faOwn (.s (.s (.s (.s (.s .z))))) h1145.1 h1145.2 rfl rfl rfl rfl rfl rfl) rfl rfl rfl ?_
              refine At.y (Y.ld (.s (.s (.s (.s (.s .z))))) (q := 1) rfl rfl h1145.1 h1145.2 rfl rfl rfl) rfl rfl rfl ?_
              refine At.run 1 rfl ?_
              refine At.y (Y.ncOwn (.s (.s (.s (.s (.s .z))))) h1145.1 h1145.2 rfl) rfl rfl rfl ?_
              refine At.y (Y.faOwn (.s (.s (.s (.s (.s .z))))) h1145.1 h1145.2 rfl rfl rfl rfl rfl rfl) rfl rfl rfl ?_
              refine At.st rfl (.s (.s (.s (.s (.s .z))))) (q := 1) (z := { gt x903 (IntKind.i64.wrap ((x903.length : Int) - 1)) with step := IntKind.i64.wrap ((gt x903 (IntKind.i64.wrap ((x903.length : Int) - 1))).step + 1) }) rfl rfl rfl h1145.1 h1145.2 rfl rfl (.s (.c .n)) ?_
              refine At.nil ?_
              refine At.thn ?_
              refine At.block ?_
              refine At.seq ?_
              refine At.region ?_
              refine At.run 3 rfl ?_
              obtain ⟨G1372, hl1373, hr1374, hrun⟩ := bjoin hrun
              refine At.joinO 8 (X := Bool) (fun x1371 => [(0, .pointer (some ⟨b0, 0, none⟩)), (4, elp w906 ((IntKind.i64.wrap ((x903.length : Int) - 1)).toNat * cycles_stand.fl.sz)), (5, .int .i64 (gt (gt a0_0 ((gt x903 (IntKind.i64.wrap ((x903.length : Int) - 1))).node)) ((gt x903 (IntKind.i64.wrap ((x903.length : Int) - 1))).step))), (82, .bool x1371)]) (fun x1371 => row cycles_stand.fl 99 w906 x903.length w907 (st x903 (IntKind.i64.wrap ((x903.length : Int) - 1)) ({ gt x903 (IntKind.i64.wrap ((x903.length : Int) - 1)) with step := IntKind.i64.wrap ((gt x903 (IntKind.i64.wrap ((x903.length : Int) - 1))).step + 1) })) :: pt b0 (.cells [.slice A0_0 a0_0.length c0_0, .func (.func 37) #[] #[], .slice A0_2 a0_2.length c0_2, .slice A0_3 a0_3.length c0_3, .slice A0_4 a0_4.length c0_4, .slice w901 x898.length w902, .slice w906 x903.length w907, .int .i64 x913, .func (.func 55) #[] #[.pointer (some ⟨b0_8_c0, 0, none⟩)]].toArray 86) :: row (Fl.int .i64) 3 A0_2 a0_2.length c0_2 x895 :: row (Fl.int .i64) 3 A0_3 a0_3.length c0_3 x896 :: row Fl.bool 4 A0_4 a0_4.length c0_4 x897 :: row (Fl.int .i64) 3 w901 x898.length w902 x898 :: pt b0_8_c0 (.cells [.slice w911 x908.length w912].toArray 22) :: rows (Fl.int .i64) 3 26 w911 x908.length w912 x908 :: Fr) (fun x1371 => G1372 (.inl x1371) = some o1136) ?_ (fun J1375 => ?_)
              · rintro x1371 hrun
                have hrun := (hl1373 _).symm.trans hrun
                · refine At.run 1 rfl ?_
                  obtain ⟨G1577, hl1578, hr1579, hrun⟩ := bjoin hrun
                  refine At.joinO 8 (X := Bool) (fun x1576 => [(0, .pointer (some ⟨b0, 0, none⟩)), (4, elp w906 ((IntKind.i64.wrap ((x903.length : Int) - 1)).toNat * cycles_stand.fl.sz)), (5, .int .i64 (gt (gt a0_0 ((gt x903 (IntKind.i64.wrap ((x903.length : Int) - 1))).node)) ((gt x903 (IntKind.i64.wrap ((x903.length : Int) - 1))).step))), (91, .bool x1576)]) (fun x1576 => row cycles_stand.fl 99 w906 x903.length w907 (st x903 (IntKind.i64.wrap ((x903.length : Int) - 1)) ({ gt x903 (IntKind.i64.wrap ((x903.length : Int) - 1)) with step := IntKind.i64.wrap ((gt x903 (IntKind.i64.wrap ((x903.length : Int) - 1))).step + 1) })) :: pt b0 (.cells [.slice A0_0 a0_0.length c0_0, .func (.func 37) #[] #[], .slice A0_2 a0_2.length c0_2, .slice A0_3 a0_3.length c0_3, .slice A0_4 a0_4.length c0_4, .slice w901 x898.length w902, .slice w906 x903.length w907, .int .i64 x913, .func (.func 55) #[] #[.pointer (some ⟨b0_8_c0, 0, none⟩)]].toArray 86) :: row (Fl.int .i64) 3 A0_2 a0_2.length c0_2 x895 :: row (Fl.int .i64) 3 A0_3 a0_3.length c0_3 x896 :: row Fl.bool 4 A0_4 a0_4.length c0_4 x897 :: row (Fl.int .i64) 3 w901 x898.length w902 x898 :: pt b0_8_c0 (.cells [.slice w911 x908.length w912].toArray 22) :: rows (Fl.int .i64) 3 26 w911 x908.length w912 x908 :: Fr) (fun x1576 => G1577 (.inl x1576) = some o1136) ?_ (fun J1580 => ?_)
                  · rintro x1576 hrun
                    have hrun := (hl1578 _).symm.trans hrun
                    · refine At.run 1 rfl ?_
                      refine At.nil ?_
                      refine At.thn ?_
                      rcases bite hrun with ⟨h1581, hrun⟩ | ⟨h1581, hrun⟩
                      · · refine At.condT rfl h1581 ?_
                          refine At.skip ?_
                          refine At.ibn ?_
                          refine At.ibn ?_
                          refine At.rowLen .z fun hn1582 => ?_
                          refine At.frt (.s (.s (.s (.s (.s (.s (.s .z))))))) ?_
                          refine At.frt (.s (.s (.s (.s (.s (.s (.s .z))))))) ?_
                          refine At.frt (.s (.s .z)) ?_
                          refine At.frt (.s (.s (.s (.s (.s (.s (.s .z))))))) ?_
                          refine At.frt (.s (.s (.s (.s (.s (.s (.s .z))))))) ?_
                          refine At.frt (.s (.s (.s (.s (.s (.s (.s .z))))))) ?_
                          refine At.frt (.s (.s (.s (.s (.s (.s (.s .z))))))) ?_
                          refine At.frt (.s (.s (.s (.s (.s (.s (.s .z))))))) ?_
                          have hrun := bnx hf_ hrun
                          exact fun a w e hs => ⟨m1140, (x895, x896, x897, x898, (st x903 (IntKind.i64.wrap ((x903.length : Int) - 1)) ({ gt x903 (IntKind.i64.wrap ((x903.length : Int) - 1)) with step := IntKind.i64.wrap ((gt x903 (IntKind.i64.wrap ((x903.length : Int) - 1))).step + 1) })), x908, x913, x898.length, w901, w902, x903.length, w906, w907, x908.length, w911, w912), hlt1142, ⟨hrun, rfl, hn1582, rfl⟩, e.sub ⟨rfl, trivial⟩, hs⟩
                      · · refine At.condF rfl (bn h1581) ?_
                          refine At.seq ?_
                          refine At.region ?_
                          refine At.run 3 rfl ?_
                          refine At.y (Y.load rfl rfl (.s .z) rfl rfl rfl) rfl rfl rfl ?_
                          refine At.run 1 rfl ?_
                          obtain ⟨h1583, hrun⟩ := bnone hrun
                          refine At.y (Y.ix (.s (.s .z)) rfl rfl rfl rfl rfl rfl h1583.1 h1583.2) rfl rfl rfl ?_
                          refine At.y (Y.ld (.s (.s .z)) (q := 0) rfl rfl h1583.1 h1583.2 rfl rfl rfl) rfl rfl rfl ?_
                          refine At.run 2 rfl ?_
                          refine At.nil ?_
                          refine At.thn ?_
                          rcases bite hrun with ⟨h1584, hrun⟩ | ⟨h1584, hrun⟩
                          · · refine At.condT rfl (decide_eq_true h1584) ?_
                              refine At.region ?_
                              refine At.run 2 rfl ?_
                              refine At.rowLen (.s (.s .z)) fun hn1585 => ?_
                              refine At.rowLen (.s (.s (.s .z))) fun hn1586 => ?_
                              refine At.rowLen (.s (.s (.s (.s .z)))) fun hn1587 => ?_
                              refine At.rowLen .z fun hn1588 => ?_
                              refine At.frt (.s (.s (.s (.s (.s (.s (.s .z))))))) ?_
                              refine At.frt (.s (.s (.s (.s (.s (.s (.s .z))))))) ?_
                              refine At.frt (.s (.s .z)) ?_
                              refine At.frt (.s (.s (.s (.s (.s (.s (.s .z))))))) ?_
                              refine At.frt (.s (.s (.s (.s (.s (.s (.s .z))))))) ?_
                              refine At.frt (.s (.s (.s (.s (.s (.s (.s .z))))))) ?_
                              refine At.frt (.s (.s (.s (.s (.s (.s (.s .z))))))) ?_
                              refine At.frt (.s (.s (.s (.s (.s (.s (.s .z))))))) ?_
                              obtain ⟨t1589, hc1590, hrun⟩ := bbind hrun
                              refine At.call rfl cycles_walk_meet.callee rfl rfl rfl (cycles_walk_meet.spec _ _ b0 A0_0 a0_0.length c0_0 A0_2 a0_2.length c0_2 A0_3 a0_3.length c0_3 A0_4 a0_4.length c0_4 w901 x898.length w902 w906 x903.length w907 b0_8_c0 w911 x908.length w912 a0_0 x895 x896 x897 x898 (st x903 (IntKind.i64.wrap ((x903.length : Int) - 1)) ({ gt x903 (IntKind.i64.wrap ((x903.length : Int) - 1)) with step := IntKind.i64.wrap ((gt x903 (IntKind.i64.wrap ((x903.length : Int) - 1))).step + 1) })) x913 x908 (gt (gt a0_0 ((gt x903 (IntKind.i64.wrap ((x903.length : Int) - 1))).node)) ((gt x903 (IntKind.i64.wrap ((x903.length : Int) - 1))).step)) hr0_0 rfl hc0_0 hn1585 hn1586 hn1587 rfl hn1588 rfl hc1590) ?_
                              rintro _ _ ⟨w1591, w1592, w1593, w1594, rfl, rfl⟩
                              refine At.nil ?_
                              refine At.ibn ?_
                              refine At.ibn ?_
                              refine At.rowLen (.s (.s (.s (.s .z)))) fun hn1595 => ?_
                              refine At.rowLen (.s (.s (.s (.s (.s .z))))) fun hn1596 => ?_
                              have hrun := bnx hf_ hrun
                              exact fun a w e hs => ⟨m1140, (t1589.2.2.2.2.1, t1589.2.2.2.1, t1589.2.2.1, t1589.2.1, t1589.1, x908, t1589.2.2.2.2.2, (x898 ++ ([(gt (gt a0_0 ((gt x903 (IntKind.i64.wrap ((x903.length : Int) - 1))).node)) ((gt x903 (IntKind.i64.wrap ((x903.length : Int) - 1))).step))] : List Int)).length, w1593, w1594, ((st x903 (IntKind.i64.wrap ((x903.length : Int) - 1)) ({ gt x903 (IntKind.i64.wrap ((x903.length : Int) - 1)) with step := IntKind.i64.wrap ((gt x903 (IntKind.i64.wrap ((x903.length : Int) - 1))).step + 1) })) ++ ([(⟨(gt (gt a0_0 ((gt x903 (IntKind.i64.wrap ((x903.length : Int) - 1))).node)) ((gt x903 (IntKind.i64.wrap ((x903.length : Int) - 1))).step)), 0⟩ : cycles_stand)] : List cycles_stand)).length, w1591, w1592, x908.length, w911, w912), hlt1142, ⟨hrun, hn1595, hn1596, rfl⟩, e.sub ⟨rfl, trivial⟩, hs⟩
                          · · refine At.condF rfl (decide_eq_false h1584) ?_
                              refine At.seq ?_
                              refine At.region ?_
                              refine At.run 3 rfl ?_
                              refine At.y (Y.load rfl rfl (.s .z) rfl rfl rfl) rfl rfl rfl ?_
                              refine At.run 1 rfl ?_
                              obtain ⟨h1597, hrun⟩ := bnone hrun
                              refine At.y (Y.ix (.s (.s (.s (.s .z)))) rfl rfl rfl rfl rfl rfl h1597.1 h1597.2) rfl rfl rfl ?_
                              refine At.y (Y.ld (.s (.s (.s (.s .z)))) (q := 0) rfl rfl h1597.1 h1597.2 rfl rfl rfl) rfl rfl rfl ?_
                              refine At.run 1 rfl ?_
                              refine At.nil ?_
                              refine At.thn ?_
                              rcases bite hrun with ⟨h1598, hrun⟩ | ⟨h1598, hrun⟩
                              · · refine At.condT rfl h1598 ?_
                                  refine At.still 27 (by kernel_rfl) ?_
                                  refine At.Still.run 3 rfl ?_
                                  refine At.Still.y (Y.load rfl rfl (.s .z) rfl rfl rfl) rfl rfl rfl ?_
                                  refine At.Still.run 1 rfl ?_
                                  refine At.Still.y (Y.ncOwn .z h1145.1 h1145.2 rfl) rfl rfl rfl ?_
                                  refine At.Still.y (Y.faOwn .z h1145.1 h1145.2 rfl rfl rfl rfl rfl rfl) rfl rfl rfl ?_
                                  refine At.Still.y (Y.ld .z (q := 0) rfl rfl h1145.1 h1145.2 rfl rfl rfl) rfl rfl rfl ?_
                                  refine At.Still.run 3 rfl ?_
                                  refine At.Still.y (Y.load rfl rfl (.s .z) rfl rfl rfl) rfl rfl rfl ?_
                                  refine At.Still.run 1 rfl ?_
                                  refine At.Still.y (Y.ncOwn .z h1145.1 h1145.2 rfl) rfl rfl rfl ?_
                                  refine At.Still.y (Y.faOwn .z h1145.1 h1145.2 rfl rfl rfl rfl rfl rfl) rfl rfl rfl ?_
                                  refine At.Still.y (Y.ld .z (q := 0) rfl rfl h1145.1 h1145.2 rfl rfl rfl) rfl rfl rfl ?_
                                  obtain ⟨h1599, hrun⟩ := bnone hrun
                                  refine At.Still.y (Y.ix (.s (.s (.s .z))) rfl rfl rfl rfl rfl rfl h1599.1 h1599.2) rfl rfl rfl ?_
                                  refine At.Still.y (Y.ld (.s (.s (.s .z))) (q := 0) rfl rfl h1599.1 h1599.2 rfl rfl rfl) rfl rfl rfl ?_
                                  refine At.Still.run 3 rfl ?_
                                  refine At.Still.y (Y.load rfl rfl (.s .z) rfl rfl rfl) rfl rfl rfl ?_
                                  refine At.Still.run 1 rfl ?_
                                  refine At.Still.y (Y.ix (.s (.s .z)) rfl rfl rfl rfl rfl rfl h1583.1 h1583.2) rfl rfl rfl ?_
                                  refine At.Still.y (Y.ld (.s (.s .z)) (q := 0) rfl rfl h1583.1 h1583.2 rfl rfl rfl) rfl rfl rfl ?_
                                  refine At.Still.run 1 rfl ?_
                                  refine At.Still.y (Y.ix (.s (.s (.s .z))) rfl rfl rfl rfl rfl rfl h1599.1 h1599.2) rfl rfl rfl ?_
                                  refine At.Still.nil ?_
                                  refine At.st rfl (.s (.s (.s .z))) (q := 0) (z := (if gt x895 (gt (gt a0_0 ((gt x903 (IntKind.i64.wrap ((x903.length : Int) - 1))).node)) ((gt x903 (IntKind.i64.wrap ((x903.length : Int) - 1))).step)) < gt x896 ((gt (st x903 (IntKind.i64.wrap ((x903.length : Int) - 1)) ({ gt x903 (IntKind.i64.wrap ((x903.length : Int) - 1)) with step := IntKind.i64.wrap ((gt x903 (IntKind.i64.wrap ((x903.length : Int) - 1))).step + 1) })) (IntKind.i64.wrap ((x903.length : Int) - 1))).node) then gt x895 (gt (gt a0_0 ((gt x903 (IntKind.i64.wrap ((x903.length : Int) - 1))).node)) ((gt x903 (IntKind.i64.wrap ((x903.length : Int) - 1))).step)) else gt x896 ((gt (st x903 (IntKind.i64.wrap ((x903.length : Int) - 1)) ({ gt x903 (IntKind.i64.wrap ((x903.length : Int) - 1)) with step := IntKind.i64.wrap ((gt x903 (IntKind.i64.wrap ((x903.length : Int) - 1))).step + 1) })) (IntKind.i64.wrap ((x903.length : Int) - 1))).node))) rfl rfl rfl h1599.1 h1599.2 rfl rfl (.c .n) ?_
                                  refine At.nil ?_
                                  refine At.ibn ?_
                                  refine At.ibn ?_
                                  refine At.rowLen (.s .z) fun hn1600 => ?_
                                  refine At.frt (.s (.s (.s (.s (.s (.s (.s .z))))))) ?_
                                  refine At.frt (.s (.s (.s (.s (.s (.s (.s .z))))))) ?_
                                  refine At.frt (.s (.s (.s .z))) ?_
                                  refine At.frt (.s (.s (.s (.s (.s (.s (.s .z))))))) ?_
                                  refine At.frt (.s (.s (.s (.s (.s (.s (.s .z))))))) ?_
                                  refine At.frt (.s (.s (.s (.s (.s .z))))) ?_
                                  refine At.frt (.s (.s (.s (.s (.s (.s (.s .z))))))) ?_
                                  refine At.frt (.s (.s (.s (.s (.s (.s (.s .z))))))) ?_
                                  have hrun := bnx hf_ hrun
                                  exact fun a w e hs => ⟨m1140, (x895, (st x896 ((gt (st x903 (IntKind.i64.wrap ((x903.length : Int) - 1)) ({ gt x903 (IntKind.i64.wrap ((x903.length : Int) - 1)) with step := IntKind.i64.wrap ((gt x903 (IntKind.i64.wrap ((x903.length : Int) - 1))).step + 1) })) (IntKind.i64.wrap ((x903.length : Int) - 1))).node) (if gt x895 (gt (gt a0_0 ((gt x903 (IntKind.i64.wrap ((x903.length : Int) - 1))).node)) ((gt x903 (IntKind.i64.wrap ((x903.length : Int) - 1))).step)) < gt x896 ((gt (st x903 (IntKind.i64.wrap ((x903.length : Int) - 1)) ({ gt x903 (IntKind.i64.wrap ((x903.length : Int) - 1)) with step := IntKind.i64.wrap ((gt x903 (IntKind.i64.wrap ((x903.length : Int) - 1))).step + 1) })) (IntKind.i64.wrap ((x903.length : Int) - 1))).node) then gt x895 (gt (gt a0_0 ((gt x903 (IntKind.i64.wrap ((x903.length : Int) - 1))).node)) ((gt x903 (IntKind.i64.wrap ((x903.length : Int) - 1))).step)) else gt x896 ((gt (st x903 (IntKind.i64.wrap ((x903.length : Int) - 1)) ({ gt x903 (IntKind.i64.wrap ((x903.length : Int) - 1)) with step := IntKind.i64.wrap ((gt x903 (IntKind.i64.wrap ((x903.length : Int) - 1))).step + 1) })) (IntKind.i64.wrap ((x903.length : Int) - 1))).node))), x897, x898, (st x903 (IntKind.i64.wrap ((x903.length : Int) - 1)) ({ gt x903 (IntKind.i64.wrap ((x903.length : Int) - 1)) with step := IntKind.i64.wrap ((gt x903 (IntKind.i64.wrap ((x903.length : Int) - 1))).step + 1) })), x908, x913, x898.length, w901, w902, x903.length, w906, w907, x908.length, w911, w912), hlt1142, ⟨hrun, rfl, hn1600, rfl⟩, e.sub ⟨rfl, trivial⟩, hs⟩
                              · · refine At.condF rfl (bn h1598) ?_
                                  refine At.skip ?_
                                  refine At.ibn ?_
                                  refine At.ibn ?_
                                  refine At.rowLen .z fun hn1601 => ?_
                                  refine At.frt (.s (.s (.s (.s (.s (.s (.s .z))))))) ?_
                                  refine At.frt (.s (.s (.s (.s (.s (.s (.s .z))))))) ?_
                                  refine At.frt (.s (.s .z)) ?_
                                  refine At.frt (.s (.s (.s (.s (.s (.s (.s .z))))))) ?_
                                  refine At.frt (.s (.s (.s (.s (.s (.s (.s .z))))))) ?_
                                  refine At.frt (.s (.s (.s (.s (.s (.s (.s .z))))))) ?_
                                  refine At.frt (.s (.s (.s (.s (.s (.s (.s .z))))))) ?_
                                  refine At.frt (.s (.s (.s (.s (.s (.s (.s .z))))))) ?_
                                  have hrun := bnx hf_ hrun
                                  exact fun a w e hs => ⟨m1140, (x895, x896, x897, x898, (st x903 (IntKind.i64.wrap ((x903.length : Int) - 1)) ({ gt x903 (IntKind.i64.wrap ((x903.length : Int) - 1)) with step := IntKind.i64.wrap ((gt x903 (IntKind.i64.wrap ((x903.length : Int) - 1))).step + 1) })), x908, x913, x898.length, w901, w902, x903.length, w906, w907, x908.length, w911, w912), hlt1142, ⟨hrun, rfl, hn1601, rfl⟩, e.sub ⟨rfl, trivial⟩, hs⟩
                  · · rcases bite hrun with ⟨h1602, hrun⟩ | ⟨h1602, hrun⟩
                      · · refine At.know (t := 83) rfl h1602 ?_
                          refine At.run 8 rfl ?_
                          exact At.of (J1580 true hrun) ⟨rfl, rfl, rfl, rfl, trivial⟩
                      · · refine At.know (t := 83) rfl (bn h1602) ?_
                          refine At.run 3 rfl ?_
                          refine At.y (Y.load rfl rfl (.s .z) rfl rfl rfl) rfl rfl rfl ?_
                          refine At.run 1 rfl ?_
                          obtain ⟨t1603, hc1604, hrun⟩ := bbind hrun
                          refine At.call rfl cycles_Components_1.callee rfl rfl rfl (cycles_Components_1.spec _ _  (gt (gt a0_0 ((gt x903 (IntKind.i64.wrap ((x903.length : Int) - 1))).node)) ((gt x903 (IntKind.i64.wrap ((x903.length : Int) - 1))).step))  hc1604) ?_
                          rintro _ _ ⟨rfl, rfl⟩
                          refine At.run 2 rfl ?_
                          exact At.of (J1580 (!t1603) hrun) ⟨rfl, rfl, rfl, rfl, trivial⟩
              · · rcases bite hrun with ⟨h1605, hrun⟩ | ⟨h1605, hrun⟩
                  · · refine At.know (t := 74) rfl (decide_eq_true h1605) ?_
                      refine At.run 8 rfl ?_
                      exact At.of (J1375 true hrun) ⟨rfl, rfl, rfl, rfl, trivial⟩
                  · · refine At.know (t := 74) rfl (decide_eq_false h1605) ?_
                      refine At.run 4 rfl ?_
                      refine At.y (Y.load rfl rfl (.s .z) rfl rfl rfl) rfl rfl rfl ?_
                      refine At.run 3 rfl ?_
                      exact At.of (J1375 (decide ((a0_0.length : Int) ≤ gt (gt a0_0 ((gt x903 (IntKind.i64.wrap ((x903.length : Int) - 1))).node)) ((gt x903 (IntKind.i64.wrap ((x903.length : Int) - 1))).step))) hrun) ⟨rfl, rfl, rfl, rfl, trivial⟩
      · · refine At.condF rfl (decide_eq_false h1144) ?_
          refine At.exit ?_
          refine At.the ?_
          refine At.the ?_
          exact fun a w e hs => J1143 (x895, x896, x897, x898, x903, x908, x913, x898.length, w901, w902, x903.length, w906, w907, x908.length, w911, w912) ⟨(bdn hrun ho1138), rfl, rfl, rfl⟩ a w (e.sub trivial) hs

noncomputable def slices_SortFunc_int_int.f (a0 : List (List Int)) : Option (List (List Int)) :=
  if (∀ x ∈ a0, x ≠ [] ∧ 0 ≤ gt x 0 ∧ gt x 0 ≤ 4611686018427387904) ∧ (a0.map fun x => gt x 0).Nodup ∧ a0.length < 4611686018427387904 then some (byHead a0) else none
theorem slices_SortFunc_int_int.callee : Callee Go.Proofs.Try.prog 57 := ⟨_, Go.Proofs.Try.func57, by kernel_rfl, by kernel_rfl⟩
set_option maxHeartbeats 1000000 in
set_option maxRecDepth 100000 in
theorem slices_SortFunc_int_int.cmpw (W : World) (n c k b : Nat) (x y : Int) (hn : 0 < n) (hk : 0 < k) (g o g' o' : Nat) (hx : W.cell? ⟨g, o, none⟩ = some (.int .i64 x)) (hy : W.cell? ⟨g', o', none⟩ = some (.int .i64 y)) :
    Calls Go.Proofs.Try.prog 58 #[.slice (some ⟨g, o, none⟩) n c, .slice (some ⟨g', o', none⟩) k b] W fun e w' => e = .returned (.int .i64 (IntKind.i64.wrap (x - y))) ∧ ∃ q, w' = W.drewN q := by
  go_enter Go.Proofs.Try.func58, (rfl : Go.Proofs.Try.f58.ntmps = 12)
  go_wp2
  go_quiet (fail)
  go_wp2
  refine bodyPost_ret (results_tmp rfl _ _ _) (by rfl) ?_
  exact ⟨by simp [Array.getD_eq_getD_getElem?, Array.getElem?_append, Array.getElem?_setIfInBounds], nq, rfl⟩
theorem slices_SortFunc_int_int.spec (R : Res) (Fr : List HProp) (A0 : Option Addr) (n0 : Nat) (c0 : Nat) (a0 : List (List Int)) (hn0 : a0.length = n0) {r : List (List Int)} (hrun : slices_SortFunc_int_int.f a0 = some r) :
    Spec Go.Proofs.Try.prog 57 [.slice A0 n0 c0, .func (.func 58) #[] #[]] R (rows (Fl.int .i64) 3 26 A0 n0 c0 a0 :: Fr) (fun v l' => v = .tuple #[] ∧ rows (Fl.int .i64) 3 26 A0 n0 c0 r :: Fr = l') := by
  unfold slices_SortFunc_int_int.f at hrun
  split at hrun
  · rename_i hb
    cases hrun
    refine sortf_spec Go.Proofs.Try.sort57 { Go.Proofs.Try.sort57 with } 58 (enters_of Go.Proofs.Try.func58 (by kernel_rfl) rfl) ?_ R Fr hb.1 hb.2.1 hb.2.2
    rintro W A B n c k b x y hn hk ⟨g, o, rfl, hx⟩ ⟨g', o', rfl, hy⟩ h1 h2 h3 h4
    refine (slices_SortFunc_int_int.cmpw W n c k b x y hn hk g o g' o' hx hy).mono fun e w' ⟨he, hq⟩ => ⟨?_, hq⟩
    rw [he, show IntKind.i64.wrap (x - y) = x - y from by simp [IntKind.wrap, IntKind.bits, IntKind.signed]; omega]
  · cases hrun

noncomputable def cycles_parts.l0b (a0 : List (List Int)) (x1119 : List cycles_stand) (x1124 : List Int) (x1129 : List (List Int)) (x1134 : List Bool) (x1135 : List Int) (x1136 : List Int) (x1137 : Int) (x1138 : Int) : Option (((List cycles_stand) × (List Int) × (List (List Int)) × (List Bool) × (List Int) × (List Int) × Int × Int) ⊕ (((List cycles_stand) × (List Int) × (List (List Int)) × (List Bool) × (List Int) × (List Int) × Int) ⊕ ((List (List Int))))) :=
  if x1138 < (a0.length : Int) then
    jn (
      if (0 : Int) ≤ x1138 ∧ x1138 < ((List.replicate (a0.length : Int).toNat (0 : Int)).length : Int) then
        jn (
          if gt x1136 x1138 = 0 then
            (cycles_Components_1.f x1138).bind fun t1821 =>
              some (.inl t1821)
          else
            some (.inl false)) (fun (x1797 : Bool) =>
          if x1797 = true then
            (cycles_walk_from.f a0 x1136 x1135 x1134 x1124 x1119 x1137 x1129 x1138).bind fun t1806 =>
              some (.inl (t1806.1, t1806.2.1, t1806.2.2.1, t1806.2.2.2.1, t1806.2.2.2.2.1, t1806.2.2.2.2.2.1, t1806.2.2.2.2.2.2))
          else
            some (.inl (x1136, x1135, x1134, x1124, x1119, x1129, x1137)))
      else none) (fun (s_ : (List Int) × (List Int) × (List Bool) × (List Int) × (List cycles_stand) × (List (List Int)) × Int) =>
      nx (s_.2.2.2.2.1, s_.2.2.2.1, s_.2.2.2.2.2.1, s_.2.2.1, s_.2.1, s_.1, s_.2.2.2.2.2.2, IntKind.i64.wrap (x1138 + 1)))
  else
    dn (.inl (x1119, x1124, x1129, x1134, x1135, x1136, x1137))
noncomputable def cycles_parts.l0 (a0 : List (List Int)) (x1119 : List cycles_stand) (x1124 : List Int) (x1129 : List (List Int)) (x1134 : List Bool) (x1135 : List Int) (x1136 : List Int) (x1137 : Int) (x1138 : Int) : Option (((List cycles_stand) × (List Int) × (List (List Int)) × (List Bool) × (List Int) × (List Int) × Int) ⊕ ((List (List Int)))) := iter (fun t_ : (List cycles_stand) × (List Int) × (List (List Int)) × (List Bool) × (List Int) × (List Int) × Int × Int => cycles_parts.l0b a0 t_.1 t_.2.1 t_.2.2.1 t_.2.2.2.1 t_.2.2.2.2.1 t_.2.2.2.2.2.1 t_.2.2.2.2.2.2.1 t_.2.2.2.2.2.2.2) (x1119, x1124, x1129, x1134, x1135, x1136, x1137, x1138)
noncomputable def cycles_parts.f (a0 : List (List Int)) : Option (List (List Int)) :=
  if (0 : Int) ≤ (a0.length : Int) ∧ (8 : Int) * (a0.length : Int) ≤ 281474976710656 then
    if (0 : Int) ≤ (a0.length : Int) ∧ (1 : Int) * (a0.length : Int) ≤ 281474976710656 then
      jn (cycles_parts.l0 a0 ([] : List cycles_stand) ([] : List Int) ([] : List (List Int)) (List.replicate (a0.length : Int).toNat (false : Bool)) (List.replicate (a0.length : Int).toNat (0 : Int)) (List.replicate (a0.length : Int).toNat (0 : Int)) 0 0) (fun (s_ : (List cycles_stand) × (List Int) × (List (List Int)) × (List Bool) × (List Int) × (List Int) × Int) =>
    (slices_SortFunc_int_int.f s_.2.2.1).bind fun t1369 =>
      some t1369)
    else none
  else none
theorem cycles_parts.callee : Callee Go.Proofs.Try.prog 36 := ⟨_, Go.Proofs.Try.func36, by kernel_rfl, by kernel_rfl⟩
set_option maxRecDepth 100000 in
set_option maxHeartbeats 2000000 in
theorem cycles_parts.spec (R : Res) (Fr : List HProp) (A0 : Option Addr) (n0 : Nat) (c0 : Nat) (a0 : List (List Int)) (hr0 : RdS ((Fl.int .i64).rep).slice R.heap A0 a0) (hn0 : a0.length = n0) (hc0 : n0 ≤ c0) {r : (List (List Int))} (hrun : cycles_parts.f a0 = some r) :
    Spec Go.Proofs.Try.prog 36 [.slice A0 n0 c0, .func (.func 37) #[] #[]] R (Fr) (fun v l' => ∃ (w252 : Nat) (w254 : Option Addr) (w255 : Nat), v = .slice w254 w252 w255 ∧ rows (Fl.int .i64) 3 26 w254 w252 w255 r :: Fr = l' ∧ r.length = w252) := by
  subst hn0
  refine Spec.of Go.Proofs.Try.func36 rfl rfl ?_
  unfold cycles_parts.f at hrun
  have hrun := brun hrun
  refine At.seq ?_
  refine At.region ?_
  refine At.run 1 rfl ?_
  refine At.nil ?_
  refine At.thn ?_
  refine At.seq ?_
  refine At.region ?_
  refine At.alloc rfl rfl rfl (fun b278 => ?_)
  refine At.nil ?_
  refine At.thn ?_
  refine At.seq ?_
  refine At.held [pt b278 (.cells [.slice none 0 0].toArray 22)] 14 rfl ?_
  refine At.H.pv 0 rfl (by kernel_rfl) (by kernel_rfl) (by kernel_rfl) rfl rfl rfl rfl (.c .z .n) ?_
  refine At.H.pv 1 rfl (by kernel_rfl) (by kernel_rfl) (by kernel_rfl) rfl rfl rfl rfl (.c .z .n) ?_
  refine At.H.pv 2 rfl (by kernel_rfl) (by kernel_rfl) (by kernel_rfl) rfl rfl rfl rfl (.c .z .n) ?_
  refine At.H.pv 3 rfl (by kernel_rfl) (by kernel_rfl) (by kernel_rfl) rfl rfl rfl rfl (.c .z .n) ?_
  refine At.H.pv 5 rfl (by kernel_rfl) (by kernel_rfl) (by kernel_rfl) rfl rfl rfl rfl (.c .z .n) ?_
  refine At.H.pv 6 rfl (by kernel_rfl) (by kernel_rfl) (by kernel_rfl) rfl rfl rfl rfl (.c .z .n) ?_
  refine At.H.pv 8 rfl (by kernel_rfl) (by kernel_rfl) (by kernel_rfl) rfl rfl rfl rfl (.c .z .n) ?_
  refine At.H.pv 9 rfl (by kernel_rfl) (by kernel_rfl) (by kernel_rfl) rfl rfl rfl rfl (.c .z .n) ?_
  obtain ⟨h487, hrun⟩ := bnone hrun
  obtain ⟨h488, hrun⟩ := bnone hrun
  refine At.H.joinK (X := Nat × (Option Addr) × Nat × (Option Addr) × Nat × (Option Addr) × Nat) (fun s_ => [(0, .slice A0 a0.length c0), (1, .func (.func 37) #[] #[]), (5, .pointer (some ⟨b278, 0, none⟩)), (6, .pointer (some ⟨s_.1, 0, none⟩))]) (fun s_ => pt s_.1 (.cells [.slice A0 a0.length c0, .func (.func 37) #[] #[], .slice s_.2.2.2.2.2.1 ((List.replicate (a0.length : Int).toNat (0 : Int)).length) s_.2.2.2.2.2.2, .slice s_.2.2.2.1 ((List.replicate (a0.length : Int).toNat (0 : Int)).length) s_.2.2.2.2.1, .slice s_.2.1 ((List.replicate (a0.length : Int).toNat (false : Bool)).length) s_.2.2.1, .slice none 0 0, .slice none 0 0, .int .i64 0, .nilFunc].toArray 86) :: row Fl.bool 4 s_.2.1 ((List.replicate (a0.length : Int).toNat (false : Bool)).length) s_.2.2.1 (List.replicate (a0.length : Int).toNat (false : Bool)) :: row (Fl.int .i64) 3 s_.2.2.2.1 ((List.replicate (a0.length : Int).toNat (0 : Int)).length) s_.2.2.2.2.1 (List.replicate (a0.length : Int).toNat (0 : Int)) :: row (Fl.int .i64) 3 s_.2.2.2.2.2.1 ((List.replicate (a0.length : Int).toNat (0 : Int)).length) s_.2.2.2.2.2.2 (List.replicate (a0.length : Int).toNat (0 : Int)) :: pt b278 (.cells [.slice none 0 0].toArray 22) :: Fr) (fun s_ => True) ?_ (fun J486 => ?_)
  · rintro ⟨w479, w480, w481, w482, w483, w484, w485⟩ -
    · refine At.thn ?_
      refine At.seq ?_
      refine At.region ?_
      refine At.run 4 rfl ?_
      refine At.store rfl rfl rfl rfl .z rfl rfl rfl (.s (.s (.s (.s (.s (.s (.s (.s (.c .n))))))))) ?_
      refine At.nil ?_
      refine At.thn ?_
      refine At.seq ?_
      refine At.seq ?_
      refine At.region ?_
      refine At.run 3 rfl ?_
      refine At.nil ?_
      refine At.thn ?_
      refine At.block ?_
      obtain ⟨G1358, hl1359, hr1360, hrun⟩ := bjoin hrun
      obtain ⟨o1361, hlo1362, ho1363⟩ := bsome hrun
      clear hrun
      unfold cycles_parts.l0 at hlo1362
      obtain ⟨m1364, hit1366⟩ := iter_some.1 hlo1362
      clear hlo1362
      refine At.nilRows (Fl.int .i64) 3 26 ?_
      refine At.nilRow (Fl.int .i64) 3 ?_
      refine At.nilRow cycles_stand.fl 99 ?_
      refine At.loopJ (X := (List cycles_stand) × (List Int) × (List (List Int)) × (List Bool) × (List Int) × (List Int) × Int × Int × Nat × (Option Addr) × Nat × Nat × (Option Addr) × Nat × Nat × (Option Addr) × Nat) (Y := (List cycles_stand) × (List Int) × (List (List Int)) × (List Bool) × (List Int) × (List Int) × Int × Nat × (Option Addr) × Nat × Nat × (Option Addr) × Nat × Nat × (Option Addr) × Nat) (e0 := 0) (fun s_ => [(1, .func (.func 37) #[] #[]), (5, .pointer (some ⟨b278, 0, none⟩)), (6, .pointer (some ⟨w479, 0, none⟩)), (26, .int .i64 (a0.length : Int)), (27, .int .i64 s_.2.2.2.2.2.2.2.1)]) (fun s_ => row cycles_stand.fl 99 s_.2.2.2.2.2.2.2.2.2.1 s_.2.2.2.2.2.2.2.2.1 s_.2.2.2.2.2.2.2.2.2.2.1 s_.1 :: row (Fl.int .i64) 3 s_.2.2.2.2.2.2.2.2.2.2.2.2.1 s_.2.2.2.2.2.2.2.2.2.2.2.1 s_.2.2.2.2.2.2.2.2.2.2.2.2.2.1 s_.2.1 :: rows (Fl.int .i64) 3 26 s_.2.2.2.2.2.2.2.2.2.2.2.2.2.2.2.1 s_.2.2.2.2.2.2.2.2.2.2.2.2.2.2.1 s_.2.2.2.2.2.2.2.2.2.2.2.2.2.2.2.2 s_.2.2.1 :: pt w479 (.cells [.slice A0 a0.length c0, .func (.func 37) #[] #[], .slice w484 ((List.replicate (a0.length : Int).toNat (0 : Int)).length) w485, .slice w482 ((List.replicate (a0.length : Int).toNat (0 : Int)).length) w483, .slice w480 ((List.replicate (a0.length : Int).toNat (false : Bool)).length) w481, .slice s_.2.2.2.2.2.2.2.2.2.2.2.2.1 s_.2.2.2.2.2.2.2.2.2.2.2.1 s_.2.2.2.2.2.2.2.2.2.2.2.2.2.1, .slice s_.2.2.2.2.2.2.2.2.2.1 s_.2.2.2.2.2.2.2.2.1 s_.2.2.2.2.2.2.2.2.2.2.1, .int .i64 s_.2.2.2.2.2.2.1, .func (.func 55) #[] #[.pointer (some ⟨b278, 0, none⟩)]].toArray 86) :: row Fl.bool 4 w480 ((List.replicate (a0.length : Int).toNat (false : Bool)).length) w481 s_.2.2.2.1 :: row (Fl.int .i64) 3 w482 ((List.replicate (a0.length : Int).toNat (0 : Int)).length) w483 s_.2.2.2.2.1 :: row (Fl.int .i64) 3 w484 ((List.replicate (a0.length : Int).toNat (0 : Int)).length) w485 s_.2.2.2.2.2.1 :: pt b278 (.cells [.slice s_.2.2.2.2.2.2.2.2.2.2.2.2.2.2.2.1 s_.2.2.2.2.2.2.2.2.2.2.2.2.2.2.1 s_.2.2.2.2.2.2.2.2.2.2.2.2.2.2.2.2].toArray 22) :: Fr) (fun m_ => fun s_ => iterN (fun t_ : (List cycles_stand) × (List Int) × (List (List Int)) × (List Bool) × (List Int) × (List Int) × Int × Int => cycles_parts.l0b a0 t_.1 t_.2.1 t_.2.2.1 t_.2.2.2.1 t_.2.2.2.2.1 t_.2.2.2.2.2.1 t_.2.2.2.2.2.2.1 t_.2.2.2.2.2.2.2) m_ (s_.1, s_.2.1, s_.2.2.1, s_.2.2.2.1, s_.2.2.2.2.1, s_.2.2.2.2.2.1, s_.2.2.2.2.2.2.1, s_.2.2.2.2.2.2.2.1) = some o1361 ∧ s_.1.length = s_.2.2.2.2.2.2.2.2.1 ∧ s_.2.1.length = s_.2.2.2.2.2.2.2.2.2.2.2.1 ∧ s_.2.2.1.length = s_.2.2.2.2.2.2.2.2.2.2.2.2.2.2.1) m1364 (([] : List cycles_stand), ([] : List Int), ([] : List (List Int)), (List.replicate (a0.length : Int).toNat (false : Bool)), (List.replicate (a0.length : Int).toNat (0 : Int)), (List.replicate (a0.length : Int).toNat (0 : Int)), 0, 0, 0, none, 0, 0, none, 0, 0, none, 0) ⟨hit1366, rfl, rfl, rfl⟩ (fun s_ => [(5, .pointer (some ⟨b278, 0, none⟩))]) (fun s_ => row cycles_stand.fl 99 s_.2.2.2.2.2.2.2.2.1 s_.2.2.2.2.2.2.2.1 s_.2.2.2.2.2.2.2.2.2.1 s_.1 :: row (Fl.int .i64) 3 s_.2.2.2.2.2.2.2.2.2.2.2.1 s_.2.2.2.2.2.2.2.2.2.2.1 s_.2.2.2.2.2.2.2.2.2.2.2.2.1 s_.2.1 :: rows (Fl.int .i64) 3 26 s_.2.2.2.2.2.2.2.2.2.2.2.2.2.2.1 s_.2.2.2.2.2.2.2.2.2.2.2.2.2.1 s_.2.2.2.2.2.2.2.2.2.2.2.2.2.2.2 s_.2.2.1 :: pt w479 (.cells [.slice A0 a0.length c0, .func (.func 37) #[] #[], .slice w484 ((List.replicate (a0.length : Int).toNat (0 : Int)).length) w485, .slice w482 ((List.replicate (a0.length : Int).toNat (0 : Int)).length) w483, .slice w480 ((List.replicate (a0.length : Int).toNat (false : Bool)).length) w481, .slice s_.2.2.2.2.2.2.2.2.2.2.2.1 s_.2.2.2.2.2.2.2.2.2.2.1 s_.2.2.2.2.2.2.2.2.2.2.2.2.1, .slice s_.2.2.2.2.2.2.2.2.1 s_.2.2.2.2.2.2.2.1 s_.2.2.2.2.2.2.2.2.2.1, .int .i64 s_.2.2.2.2.2.2.1, .func (.func 55) #[] #[.pointer (some ⟨b278, 0, none⟩)]].toArray 86) :: row Fl.bool 4 w480 ((List.replicate (a0.length : Int).toNat (false : Bool)).length) w481 s_.2.2.2.1 :: row (Fl.int .i64) 3 w482 ((List.replicate (a0.length : Int).toNat (0 : Int)).length) w483 s_.2.2.2.2.1 :: row (Fl.int .i64) 3 w484 ((List.replicate (a0.length : Int).toNat (0 : Int)).length) w485 s_.2.2.2.2.2.1 :: pt b278 (.cells [.slice s_.2.2.2.2.2.2.2.2.2.2.2.2.2.2.1 s_.2.2.2.2.2.2.2.2.2.2.2.2.2.1 s_.2.2.2.2.2.2.2.2.2.2.2.2.2.2.2].toArray 22) :: Fr) (fun s_ => G1358 (.inl (s_.1, s_.2.1, s_.2.2.1, s_.2.2.2.1, s_.2.2.2.2.1, s_.2.2.2.2.2.1, s_.2.2.2.2.2.2.1)) = some r ∧ s_.1.length = s_.2.2.2.2.2.2.2.1 ∧ s_.2.1.length = s_.2.2.2.2.2.2.2.2.2.2.1 ∧ s_.2.2.1.length = s_.2.2.2.2.2.2.2.2.2.2.2.2.2.1) (fun a w e hs => ⟨e.sub ⟨rfl, rfl, rfl, rfl, rfl, trivial⟩, hs⟩) ?_ (fun J1368 => ?_)
      · rintro ⟨x1339, x1344, x1349, x1354, x1355, x1356, x1357, w1340, w1342, w1343, w1345, w1347, w1348, w1350, w1352, w1353⟩ ⟨hrun, hn1341, hn1346, hn1351⟩
        obtain rfl : x1339.length = w1340 := hn1341
        obtain rfl : x1344.length = w1345 := hn1346
        obtain rfl : x1349.length = w1350 := hn1351
        have hrun := (hl1359 _).symm.trans hrun
        · refine At.ibx ?_
          refine At.thn ?_
          refine At.seq ?_
          refine At.region ?_
          refine At.y (Y.load rfl rfl (.s (.s (.s (.s (.s (.s (.s .z))))))) rfl rfl rfl) rfl rfl rfl ?_
          refine At.frt (.s (.s .z)) ?_
          obtain ⟨t1369, hc1370, hrun⟩ := bbind hrun
          refine At.call rfl slices_SortFunc_int_int.callee rfl rfl rfl (slices_SortFunc_int_int.spec _ _ w1352 x1349.length w1353 x1349 rfl hc1370) ?_
          rintro _ _ ⟨rfl, rfl⟩
          refine At.nil ?_
          refine At.thn ?_
          refine At.seq ?_
          refine At.region ?_
          refine At.y (Y.load rfl rfl (.s (.s (.s (.s (.s (.s (.s .z))))))) rfl rfl rfl) rfl rfl rfl ?_
          refine At.run 1 rfl ?_
          refine At.nil ?_
          refine At.thn ?_
          refine At.ret ?_
          refine At.rowsLen .z fun hn1371 _ => ?_
          refine At.drop (.s .z) ?_
          refine At.drop (.s .z) ?_
          refine At.drop (.s .z) ?_
          refine At.drop (.s .z) ?_
          refine At.drop (.s .z) ?_
          refine At.drop (.s .z) ?_
          refine At.drop (.s .z) ?_
          obtain rfl := (bret hrun).symm
          exact At.res (.inl rfl) rfl rfl ⟨x1349.length, w1352, w1353, rfl, rfl, hn1371⟩
      · clear hit1366 m1364
        rintro m1364 ⟨x1119, x1124, x1129, x1134, x1135, x1136, x1137, x1138, w1120, w1122, w1123, w1125, w1127, w1128, w1130, w1132, w1133⟩ ⟨hit1366, hn1121, hn1126, hn1131⟩
        obtain rfl : x1119.length = w1120 := hn1121
        obtain rfl : x1124.length = w1125 := hn1126
        obtain rfl : x1129.length = w1130 := hn1131
        obtain ⟨m1365, f_, hlt1367, hf_, hrun⟩ := bit hit1366
        clear hit1366
        have hrun : (cycles_parts.l0b a0 x1119 x1124 x1129 x1134 x1135 x1136 x1137 x1138).bind _ = some o1361 := hrun
        unfold cycles_parts.l0b at hrun
        · refine At.seq ?_
          refine At.region ?_
          refine At.run 1 rfl ?_
          refine At.nil ?_
          refine At.thn ?_
          refine At.seq ?_
          rcases bite hrun with ⟨h1372, hrun⟩ | ⟨h1372, hrun⟩
          · · refine At.condT rfl (decide_eq_true h1372) ?_
              refine At.skip ?_
              refine At.thn ?_
              refine At.seq ?_
              obtain ⟨G1373, hl1374, hr1375, hrun⟩ := bjoin hrun
              refine At.join (X := (List Int) × (List Int) × (List Bool) × (List Int) × (List cycles_stand) × (List (List Int)) × Int × Nat × (Option Addr) × Nat × Nat × (Option Addr) × Nat × Nat × (Option Addr) × Nat) (fun s_ => [(1, .func (.func 37) #[] #[]), (5, .pointer (some ⟨b278, 0, none⟩)), (6, .pointer (some ⟨w479, 0, none⟩)), (26, .int .i64 (a0.length : Int)), (27, .int .i64 x1138)]) (fun s_ => pt w479 (.cells [.slice A0 a0.length c0, .func (.func 37) #[] #[], .slice w484 ((List.replicate (a0.length : Int).toNat (0 : Int)).length) w485, .slice w482 ((List.replicate (a0.length : Int).toNat (0 : Int)).length) w483, .slice w480 ((List.replicate (a0.length : Int).toNat (false : Bool)).length) w481, .slice s_.2.2.2.2.2.2.2.2.1 s_.2.2.2.2.2.2.2.1 s_.2.2.2.2.2.2.2.2.2.1, .slice s_.2.2.2.2.2.2.2.2.2.2.2.1 s_.2.2.2.2.2.2.2.2.2.2.1 s_.2.2.2.2.2.2.2.2.2.2.2.2.1, .int .i64 s_.2.2.2.2.2.2.1, .func (.func 55) #[] #[.pointer (some ⟨b278, 0, none⟩)]].toArray 86) :: row (Fl.int .i64) 3 w484 ((List.replicate (a0.length : Int).toNat (0 : Int)).length) w485 s_.1 :: row (Fl.int .i64) 3 w482 ((List.replicate (a0.length : Int).toNat (0 : Int)).length) w483 s_.2.1 :: row Fl.bool 4 w480 ((List.replicate (a0.length : Int).toNat (false : Bool)).length) w481 s_.2.2.1 :: row (Fl.int .i64) 3 s_.2.2.2.2.2.2.2.2.1 s_.2.2.2.2.2.2.2.1 s_.2.2.2.2.2.2.2.2.2.1 s_.2.2.2.1 :: row cycles_stand.fl 99 s_.2.2.2.2.2.2.2.2.2.2.2.1 s_.2.2.2.2.2.2.2.2.2.2.1 s_.2.2.2.2.2.2.2.2.2.2.2.2.1 s_.2.2.2.2.1 :: pt b278 (.cells [.slice s_.2.2.2.2.2.2.2.2.2.2.2.2.2.2.1 s_.2.2.2.2.2.2.2.2.2.2.2.2.2.1 s_.2.2.2.2.2.2.2.2.2.2.2.2.2.2.2].toArray 22) :: rows (Fl.int .i64) 3 26 s_.2.2.2.2.2.2.2.2.2.2.2.2.2.2.1 s_.2.2.2.2.2.2.2.2.2.2.2.2.2.1 s_.2.2.2.2.2.2.2.2.2.2.2.2.2.2.2 s_.2.2.2.2.2.1 :: Fr) (fun s_ => G1373 (.inl (s_.1, s_.2.1, s_.2.2.1, s_.2.2.2.1, s_.2.2.2.2.1, s_.2.2.2.2.2.1, s_.2.2.2.2.2.2.1)) = some o1361 ∧ s_.2.2.2.1.length = s_.2.2.2.2.2.2.2.1 ∧ s_.2.2.2.2.1.length = s_.2.2.2.2.2.2.2.2.2.2.1 ∧ s_.2.2.2.2.2.1.length = s_.2.2.2.2.2.2.2.2.2.2.2.2.2.1) ?_ (fun J1376 => ?_)
              · rintro ⟨x1577, x1578, x1579, x1580, x1585, x1590, x1595, w1581, w1583, w1584, w1586, w1588, w1589, w1591, w1593, w1594⟩ ⟨hrun, hn1582, hn1587, hn1592⟩
                obtain rfl : x1580.length = w1581 := hn1582
                obtain rfl : x1585.length = w1586 := hn1587
                obtain rfl : x1590.length = w1591 := hn1592
                have hrun := (hl1374 _).symm.trans hrun
                · refine At.region ?_
                  refine At.run 2 rfl ?_
                  refine At.nil ?_
                  refine At.frt (.s (.s (.s (.s (.s (.s .z)))))) ?_
                  refine At.frt (.s (.s .z)) ?_
                  refine At.frt (.s (.s (.s .z))) ?_
                  refine At.frt (.s (.s (.s (.s .z)))) ?_
                  refine At.frt (.s (.s (.s (.s .z)))) ?_
                  refine At.frt (.s (.s (.s (.s (.s (.s (.s .z))))))) ?_
                  refine At.frt (.s (.s (.s (.s (.s (.s .z)))))) ?_
                  refine At.frt (.s (.s (.s (.s (.s (.s (.s .z))))))) ?_
                  have hrun := bnx hf_ hrun
                  exact fun a w e hs => ⟨m1365, (x1585, x1580, x1590, x1579, x1578, x1577, x1595, IntKind.i64.wrap (x1138 + 1), x1585.length, w1588, w1589, x1580.length, w1583, w1584, x1590.length, w1593, w1594), hlt1367, ⟨hrun, rfl, rfl, rfl⟩, e.sub ⟨rfl, rfl, rfl, rfl, rfl, trivial⟩, hs⟩
              · · refine At.block ?_
                  refine At.seq ?_
                  refine At.region ?_
                  refine At.run 2 rfl ?_
                  refine At.nil ?_
                  refine At.thn ?_
                  refine At.seq ?_
                  refine At.region ?_
                  refine At.run 3 rfl ?_
                  refine At.y (Y.load rfl rfl (.s (.s (.s .z))) rfl rfl rfl) rfl rfl rfl ?_
                  refine At.run 1 rfl ?_
                  obtain ⟨h1596, hrun⟩ := bnone hrun
                  refine At.y (Y.ix (.s (.s (.s (.s (.s (.s .z)))))) rfl rfl rfl rfl rfl rfl h1596.1 h1596.2) rfl rfl rfl ?_
                  refine At.y (Y.ld (.s (.s (.s (.s (.s (.s .z)))))) (q := 0) rfl rfl h1596.1 h1596.2 rfl rfl rfl) rfl rfl rfl ?_
                  refine At.run 2 rfl ?_
                  obtain ⟨G1798, hl1799, hr1800, hrun⟩ := bjoin hrun
                  refine At.joinO 4 (X := Bool) (fun x1797 => [(1, .func (.func 37) #[] #[]), (5, .pointer (some ⟨b278, 0, none⟩)), (6, .pointer (some ⟨w479, 0, none⟩)), (7, .int .i64 x1138), (26, .int .i64 (a0.length : Int)), (27, .int .i64 x1138), (42, .bool x1797)]) (fun x1797 => row cycles_stand.fl 99 w1122 x1119.length w1123 x1119 :: row (Fl.int .i64) 3 w1127 x1124.length w1128 x1124 :: rows (Fl.int .i64) 3 26 w1132 x1129.length w1133 x1129 :: pt w479 (.cells [.slice A0 a0.length c0, .func (.func 37) #[] #[], .slice w484 ((List.replicate (a0.length : Int).toNat (0 : Int)).length) w485, .slice w482 ((List.replicate (a0.length : Int).toNat (0 : Int)).length) w483, .slice w480 ((List.replicate (a0.length : Int).toNat (false : Bool)).length) w481, .slice w1127 x1124.length w1128, .slice w1122 x1119.length w1123, .int .i64 x1137, .func (.func 55) #[] #[.pointer (some ⟨b278, 0, none⟩)]].toArray 86) :: row Fl.bool 4 w480 ((List.replicate (a0.length : Int).toNat (false : Bool)).length) w481 x1134 :: row (Fl.int .i64) 3 w482 ((List.replicate (a0.length : Int).toNat (0 : Int)).length) w483 x1135 :: row (Fl.int .i64) 3 w484 ((List.replicate (a0.length : Int).toNat (0 : Int)).length) w485 x1136 :: pt b278 (.cells [.slice w1132 x1129.length w1133].toArray 22) :: Fr) (fun x1797 => G1798 (.inl x1797) = some o1361) ?_ (fun J1801 => ?_)
                  · rintro x1797 hrun
                    have hrun := (hl1799 _).symm.trans hrun
                    · refine At.nil ?_
                      refine At.thn ?_
                      rcases bite hrun with ⟨h1802, hrun⟩ | ⟨h1802, hrun⟩
                      · · refine At.condT rfl h1802 ?_
                          refine At.region ?_
                          refine At.run 2 rfl ?_
                          refine At.rowLen (.s (.s (.s (.s (.s (.s .z)))))) fun hn1803 => ?_
                          refine At.rowLen (.s (.s (.s (.s (.s .z))))) fun hn1804 => ?_
                          refine At.rowLen (.s (.s (.s (.s .z)))) fun hn1805 => ?_
                          refine At.frt (.s (.s .z)) ?_
                          refine At.frt (.s (.s (.s (.s (.s (.s (.s .z))))))) ?_
                          refine At.frt (.s (.s .z)) ?_
                          refine At.frt (.s (.s (.s .z))) ?_
                          refine At.frt (.s (.s (.s (.s (.s .z))))) ?_
                          refine At.frt (.s (.s (.s (.s (.s (.s .z)))))) ?_
                          refine At.frt (.s (.s (.s (.s (.s (.s (.s .z))))))) ?_
                          refine At.frt (.s (.s (.s (.s (.s (.s (.s .z))))))) ?_
                          obtain ⟨t1806, hc1807, hrun⟩ := bbind hrun
                          refine At.call rfl cycles_walk_from.callee rfl rfl rfl (cycles_walk_from.spec _ _ w479 A0 a0.length c0 w484 ((List.replicate (a0.length : Int).toNat (0 : Int)).length) w485 w482 ((List.replicate (a0.length : Int).toNat (0 : Int)).length) w483 w480 ((List.replicate (a0.length : Int).toNat (false : Bool)).length) w481 w1127 x1124.length w1128 w1122 x1119.length w1123 b278 w1132 x1129.length w1133 a0 x1136 x1135 x1134 x1124 x1119 x1137 x1129 x1138 hr0 rfl hc0 hn1803 hn1804 hn1805 rfl rfl rfl hc1807) ?_
                          rintro _ _ ⟨w1808, w1809, w1810, w1811, w1812, w1813, w1814, w1815, w1816, rfl, rfl, rfl, rfl, rfl⟩
                          refine At.nil ?_
                          refine At.ibn ?_
                          refine At.thn ?_
                          exact fun a w e hs => J1376 (t1806.1, t1806.2.1, t1806.2.2.1, t1806.2.2.2.1, t1806.2.2.2.2.1, t1806.2.2.2.2.2.1, t1806.2.2.2.2.2.2, t1806.2.2.2.1.length, w1809, w1810, t1806.2.2.2.2.1.length, w1812, w1813, t1806.2.2.2.2.2.1.length, w1815, w1816) ⟨hrun, rfl, rfl, rfl⟩ a w (e.sub ⟨rfl, rfl, rfl, rfl, rfl, trivial⟩) hs
                      · · refine At.condF rfl (bn h1802) ?_
                          refine At.skip ?_
                          refine At.ibn ?_
                          refine At.thn ?_
                          refine At.frt (.s (.s .z)) ?_
                          refine At.frt (.s (.s (.s (.s (.s (.s (.s .z))))))) ?_
                          refine At.frt (.s (.s .z)) ?_
                          refine At.frt (.s (.s (.s .z))) ?_
                          refine At.frt (.s (.s (.s (.s (.s .z))))) ?_
                          refine At.frt (.s (.s (.s (.s (.s (.s .z)))))) ?_
                          refine At.frt (.s (.s (.s (.s (.s (.s (.s .z))))))) ?_
                          refine At.frt (.s (.s (.s (.s (.s (.s (.s .z))))))) ?_
                          exact fun a w e hs => J1376 (x1136, x1135, x1134, x1124, x1119, x1129, x1137, x1124.length, w1127, w1128, x1119.length, w1122, w1123, x1129.length, w1132, w1133) ⟨hrun, rfl, rfl, rfl⟩ a w (e.sub ⟨rfl, rfl, rfl, rfl, rfl, trivial⟩) hs
                  · · rcases bite hrun with ⟨h1820, hrun⟩ | ⟨h1820, hrun⟩
                      · · refine At.know (t := 38) rfl (decide_eq_true h1820) ?_
                          refine At.run 2 rfl ?_
                          obtain ⟨t1821, hc1822, hrun⟩ := bbind hrun
                          refine At.call rfl cycles_Components_1.callee rfl rfl rfl (cycles_Components_1.spec _ _  x1138  hc1822) ?_
                          rintro _ _ ⟨rfl, rfl⟩
                          refine At.run 1 rfl ?_
                          exact At.of (J1801 t1821 hrun) ⟨rfl, rfl, rfl, rfl, rfl, rfl, rfl, trivial⟩
                      · · refine At.know (t := 38) rfl (decide_eq_false h1820) ?_
                          refine At.run 4 rfl ?_
                          exact At.of (J1801 false hrun) ⟨rfl, rfl, rfl, rfl, rfl, rfl, rfl, trivial⟩
          · · refine At.condF rfl (decide_eq_false h1372) ?_
              refine At.exit ?_
              refine At.the ?_
              refine At.the ?_
              exact fun a w e hs => J1368 (x1119, x1124, x1129, x1134, x1135, x1136, x1137, x1119.length, w1122, w1123, x1124.length, w1127, w1128, x1129.length, w1132, w1133) ⟨(bdn hrun ho1363), rfl, rfl, rfl⟩ a w (e.sub ⟨rfl, trivial⟩) hs
  · refine At.H.all [4, 7, 10] (by kernel_rfl) rfl (all_cons ?_ (all_cons ?_ (all_cons ?_ all_nil)))
    · · refine At.HO.op rfl ?_
        refine At.make (F := (Fl.int .i64)) (z := 0) rfl rfl rfl rfl rfl rfl rfl rfl rfl rfl h487.1 h487.2 (by decide) rfl (fun A489 c490 => ?_)
        refine At.HO.back (.c (.s .z) .n) ?_
        refine At.H.all [7, 10] (by kernel_rfl) rfl (all_cons ?_ (all_cons ?_ all_nil))
        · · refine At.HO.op rfl ?_
            refine At.make (F := (Fl.int .i64)) (z := 0) rfl rfl rfl rfl rfl rfl rfl rfl rfl rfl h487.1 h487.2 (by decide) rfl (fun A492 c493 => ?_)
            refine At.HO.back (.c (.s (.s .z)) .n) ?_
            refine At.H.all [10] (by kernel_rfl) rfl (all_cons ?_ all_nil)
            · · refine At.HO.op rfl ?_
                refine At.make (F := Fl.bool) (z := false) rfl rfl rfl rfl rfl rfl rfl rfl rfl rfl h488.1 h488.2 (by decide) rfl (fun A495 c496 => ?_)
                refine At.HO.back (.c (.s (.s (.s .z))) .n) ?_
                refine At.H.take 11 rfl (by kernel_rfl) (by kernel_rfl) (by kernel_rfl) (Y.build (is := [0, 1, 2, 3, 4]) (xo := [.tmp 8, .tmp 9, .tmp 12, .tmp 15, .tmp 18]) (vs := [.slice A0 a0.length c0, .func (.func 37) #[] #[], .slice A489 ((List.replicate (a0.length : Int).toNat (0 : Int)).length) c490, .slice A492 ((List.replicate (a0.length : Int).toNat (0 : Int)).length) c493, .slice A495 ((List.replicate (a0.length : Int).toNat (false : Bool)).length) c496]) (cs := [.slice A0 a0.length c0, .func (.func 37) #[] #[], .slice A489 ((List.replicate (a0.length : Int).toNat (0 : Int)).length) c490, .slice A492 ((List.replicate (a0.length : Int).toNat (0 : Int)).length) c493, .slice A495 ((List.replicate (a0.length : Int).toNat (false : Bool)).length) c496, .slice none 0 0, .slice none 0 0, .int .i64 0, .nilFunc]) rfl rfl rfl rfl rfl rfl) rfl rfl rfl (.c (.s (.s (.s .z))) .n) ?_
                refine At.H.all [12] (by kernel_rfl) rfl (all_cons ?_ all_nil)
                · · refine At.HO.op rfl ?_
                    refine At.box rfl rfl (cs := [.slice A0 a0.length c0, .func (.func 37) #[] #[], .slice A489 ((List.replicate (a0.length : Int).toNat (0 : Int)).length) c490, .slice A492 ((List.replicate (a0.length : Int).toNat (0 : Int)).length) c493, .slice A495 ((List.replicate (a0.length : Int).toNat (false : Bool)).length) c496, .slice none 0 0, .slice none 0 0, .int .i64 0, .nilFunc]) rfl rfl (fun b498 => ?_)
                    refine At.HO.back (.c (.s (.s (.s (.s .z)))) .n) ?_
                    refine At.H.pv 13 rfl (by kernel_rfl) (by kernel_rfl) (by kernel_rfl) rfl rfl rfl rfl (.c (.s (.s (.s (.s .z)))) .n) ?_
                    refine At.H.done (by kernel_rfl) ?_
                    exact At.of (J486 (b498, A495, c496, A492, c493, A489, c490) trivial) ⟨rfl, rfl, rfl, rfl, trivial⟩
        · · refine At.HO.op rfl ?_
            refine At.make (F := Fl.bool) (z := false) rfl rfl rfl rfl rfl rfl rfl rfl rfl rfl h488.1 h488.2 (by decide) rfl (fun A1823 c1824 => ?_)
            refine At.HO.back (.c (.s (.s .z)) .n) ?_
            refine At.H.all [7] (by kernel_rfl) rfl (all_cons ?_ all_nil)
            · · refine At.HO.op rfl ?_
                refine At.make (F := (Fl.int .i64)) (z := 0) rfl rfl rfl rfl rfl rfl rfl rfl rfl rfl h487.1 h487.2 (by decide) rfl (fun A1826 c1827 => ?_)
                refine At.HO.back (.c (.s (.s (.s .z))) .n) ?_
                refine At.H.take 11 rfl (by kernel_rfl) (by kernel_rfl) (by kernel_rfl) (Y.build (is := [0, 1, 2, 3, 4]) (xo := [.tmp 8, .tmp 9, .tmp 12, .tmp 15, .tmp 18]) (vs := [.slice A0 a0.length c0, .func (.func 37) #[] #[], .slice A489 ((List.replicate (a0.length : Int).toNat (0 : Int)).length) c490, .slice A1826 ((List.replicate (a0.length : Int).toNat (0 : Int)).length) c1827, .slice A1823 ((List.replicate (a0.length : Int).toNat (false : Bool)).length) c1824]) (cs := [.slice A0 a0.length c0, .func (.func 37) #[] #[], .slice A489 ((List.replicate (a0.length : Int).toNat (0 : Int)).length) c490, .slice A1826 ((List.replicate (a0.length : Int).toNat (0 : Int)).length) c1827, .slice A1823 ((List.replicate (a0.length : Int).toNat (false : Bool)).length) c1824, .slice none 0 0, .slice none 0 0, .int .i64 0, .nilFunc]) rfl rfl rfl rfl rfl rfl) rfl rfl rfl (.c (.s (.s (.s .z))) .n) ?_
                refine At.H.all [12] (by kernel_rfl) rfl (all_cons ?_ all_nil)
                · · refine At.HO.op rfl ?_
                    refine At.box rfl rfl (cs := [.slice A0 a0.length c0, .func (.func 37) #[] #[], .slice A489 ((List.replicate (a0.length : Int).toNat (0 : Int)).length) c490, .slice A1826 ((List.replicate (a0.length : Int).toNat (0 : Int)).length) c1827, .slice A1823 ((List.replicate (a0.length : Int).toNat (false : Bool)).length) c1824, .slice none 0 0, .slice none 0 0, .int .i64 0, .nilFunc]) rfl rfl (fun b1829 => ?_)
                    refine At.HO.back (.c (.s (.s (.s (.s .z)))) .n) ?_
                    refine At.H.pv 13 rfl (by kernel_rfl) (by kernel_rfl) (by kernel_rfl) rfl rfl rfl rfl (.c (.s (.s (.s (.s .z)))) .n) ?_
                    refine At.H.done (by kernel_rfl) ?_
                    refine At.frt (.s (.s (.s (.s .z)))) ?_
                    refine At.frt (.s (.s (.s (.s .z)))) ?_
                    refine At.frt (.s (.s (.s .z))) ?_
                    refine At.frt (.s (.s (.s (.s .z)))) ?_
                    refine At.frt (.s (.s (.s (.s .z)))) ?_
                    exact At.of (J486 (b1829, A1823, c1824, A1826, c1827, A489, c490) trivial) ⟨rfl, rfl, rfl, rfl, trivial⟩
    · · refine At.HO.op rfl ?_
        refine At.make (F := (Fl.int .i64)) (z := 0) rfl rfl rfl rfl rfl rfl rfl rfl rfl rfl h487.1 h487.2 (by decide) rfl (fun A1830 c1831 => ?_)
        refine At.HO.back (.c (.s .z) .n) ?_
        refine At.H.all [4, 10] (by kernel_rfl) rfl (all_cons ?_ (all_cons ?_ all_nil))
        · · refine At.HO.op rfl ?_
            refine At.make (F := (Fl.int .i64)) (z := 0) rfl rfl rfl rfl rfl rfl rfl rfl rfl rfl h487.1 h487.2 (by decide) rfl (fun A1833 c1834 => ?_)
            refine At.HO.back (.c (.s (.s .z)) .n) ?_
            refine At.H.all [10] (by kernel_rfl) rfl (all_cons ?_ all_nil)
            · · refine At.HO.op rfl ?_
                refine At.make (F := Fl.bool) (z := false) rfl rfl rfl rfl rfl rfl rfl rfl rfl rfl h488.1 h488.2 (by decide) rfl (fun A1836 c1837 => ?_)
                refine At.HO.back (.c (.s (.s (.s .z))) .n) ?_
                refine At.H.take 11 rfl (by kernel_rfl) (by kernel_rfl) (by kernel_rfl) (Y.build (is := [0, 1, 2, 3, 4]) (xo := [.tmp 8, .tmp 9, .tmp 12, .tmp 15, .tmp 18]) (vs := [.slice A0 a0.length c0, .func (.func 37) #[] #[], .slice A1833 ((List.replicate (a0.length : Int).toNat (0 : Int)).length) c1834, .slice A1830 ((List.replicate (a0.length : Int).toNat (0 : Int)).length) c1831, .slice A1836 ((List.replicate (a0.length : Int).toNat (false : Bool)).length) c1837]) (cs := [.slice A0 a0.length c0, .func (.func 37) #[] #[], .slice A1833 ((List.replicate (a0.length : Int).toNat (0 : Int)).length) c1834, .slice A1830 ((List.replicate (a0.length : Int).toNat (0 : Int)).length) c1831, .slice A1836 ((List.replicate (a0.length : Int).toNat (false : Bool)).length) c1837, .slice none 0 0, .slice none 0 0, .int .i64 0, .nilFunc]) rfl rfl rfl rfl rfl rfl) rfl rfl rfl (.c (.s (.s (.s .z))) .n) ?_
                refine At.H.all [12] (by kernel_rfl) rfl (all_cons ?_ all_nil)
                · · refine At.HO.op rfl ?_
                    refine At.box rfl rfl (cs := [.slice A0 a0.length c0, .func (.func 37) #[] #[], .slice A1833 ((List.replicate (a0.length : Int).toNat (0 : Int)).length) c1834, .slice A1830 ((List.replicate (a0.length : Int).toNat (0 : Int)).length) c1831, .slice A1836 ((List.replicate (a0.length : Int).toNat (false : Bool)).length) c1837, .slice none 0 0, .slice none 0 0, .int .i64 0, .nilFunc]) rfl rfl (fun b1839 => ?_)
                    refine At.HO.back (.c (.s (.s (.s (.s .z)))) .n) ?_
                    refine At.H.pv 13 rfl (by kernel_rfl) (by kernel_rfl) (by kernel_rfl) rfl rfl rfl rfl (.c (.s (.s (.s (.s .z)))) .n) ?_
                    refine At.H.done (by kernel_rfl) ?_
                    refine At.frt (.s (.s (.s (.s .z)))) ?_
                    refine At.frt (.s (.s (.s .z))) ?_
                    refine At.frt (.s (.s (.s (.s .z)))) ?_
                    refine At.frt (.s (.s (.s (.s .z)))) ?_
                    refine At.frt (.s (.s (.s (.s .z)))) ?_
                    exact At.of (J486 (b1839, A1836, c1837, A1830, c1831, A1833, c1834) trivial) ⟨rfl, rfl, rfl, rfl, trivial⟩
        · · refine At.HO.op rfl ?_
            refine At.make (F := Fl.bool) (z := false) rfl rfl rfl rfl rfl rfl rfl rfl rfl rfl h488.1 h488.2 (by decide) rfl (fun A1840 c1841 => ?_)
            refine At.HO.back (.c (.s (.s .z)) .n) ?_
            refine At.H.all [4] (by kernel_rfl) rfl (all_cons ?_ all_nil)
            · · refine At.HO.op rfl ?_
                refine At.make (F := (Fl.int .i64)) (z := 0) rfl rfl rfl rfl rfl rfl rfl rfl rfl rfl h487.1 h487.2 (by decide) rfl (fun A1843 c1844 => ?_)
                refine At.HO.back (.c (.s (.s (.s .z))) .n) ?_
                refine At.H.take 11 rfl (by kernel_rfl) (by kernel_rfl) (by kernel_rfl) (Y.build (is := [0, 1, 2, 3, 4]) (xo := [.tmp 8, .tmp 9, .tmp 12, .tmp 15, .tmp 18]) (vs := [.slice A0 a0.length c0, .func (.func 37) #[] #[], .slice A1843 ((List.replicate (a0.length : Int).toNat (0 : Int)).length) c1844, .slice A1830 ((List.replicate (a0.length : Int).toNat (0 : Int)).length) c1831, .slice A1840 ((List.replicate (a0.length : Int).toNat (false : Bool)).length) c1841]) (cs := [.slice A0 a0.length c0, .func (.func 37) #[] #[], .slice A1843 ((List.replicate (a0.length : Int).toNat (0 : Int)).length) c1844, .slice A1830 ((List.replicate (a0.length : Int).toNat (0 : Int)).length) c1831, .slice A1840 ((List.replicate (a0.length : Int).toNat (false : Bool)).length) c1841, .slice none 0 0, .slice none 0 0, .int .i64 0, .nilFunc]) rfl rfl rfl rfl rfl rfl) rfl rfl rfl (.c (.s (.s (.s .z))) .n) ?_
                refine At.H.all [12] (by kernel_rfl) rfl (all_cons ?_ all_nil)
                · · refine At.HO.op rfl ?_
                    refine At.box rfl rfl (cs := [.slice A0 a0.length c0, .func (.func 37) #[] #[], .slice A1843 ((List.replicate (a0.length : Int).toNat (0 : Int)).length) c1844, .slice A1830 ((List.replicate (a0.length : Int).toNat (0 : Int)).length) c1831, .slice A1840 ((List.replicate (a0.length : Int).toNat (false : Bool)).length) c1841, .slice none 0 0, .slice none 0 0, .int .i64 0, .nilFunc]) rfl rfl (fun b1846 => ?_)
                    refine At.HO.back (.c (.s (.s (.s (.s .z)))) .n) ?_
                    refine At.H.pv 13 rfl (by kernel_rfl) (by kernel_rfl) (by kernel_rfl) rfl rfl rfl rfl (.c (.s (.s (.s (.s .z)))) .n) ?_
                    refine At.H.done (by kernel_rfl) ?_
                    refine At.frt (.s (.s (.s (.s .z)))) ?_
                    refine At.frt (.s (.s .z)) ?_
                    refine At.frt (.s (.s (.s (.s .z)))) ?_
                    refine At.frt (.s (.s (.s (.s .z)))) ?_
                    refine At.frt (.s (.s (.s (.s .z)))) ?_
                    exact At.of (J486 (b1846, A1840, c1841, A1830, c1831, A1843, c1844) trivial) ⟨rfl, rfl, rfl, rfl, trivial⟩
    · · refine At.HO.op rfl ?_
        refine At.make (F := Fl.bool) (z := false) rfl rfl rfl rfl rfl rfl rfl rfl rfl rfl h488.1 h488.2 (by decide) rfl (fun A1847 c1848 => ?_)
        refine At.HO.back (.c (.s .z) .n) ?_
        refine At.H.all [4, 7] (by kernel_rfl) rfl (all_cons ?_ (all_cons ?_ all_nil))
        · · refine At.HO.op rfl ?_
            refine At.make (F := (Fl.int .i64)) (z := 0) rfl rfl rfl rfl rfl rfl rfl rfl rfl rfl h487.1 h487.2 (by decide) rfl (fun A1850 c1851 => ?_)
            refine At.HO.back (.c (.s (.s .z)) .n) ?_
            refine At.H.all [7] (by kernel_rfl) rfl (all_cons ?_ all_nil)
            · · refine At.HO.op rfl ?_
                refine At.make (F := (Fl.int .i64)) (z := 0) rfl rfl rfl rfl rfl rfl rfl rfl rfl rfl h487.1 h487.2 (by decide) rfl (fun A1853 c1854 => ?_)
                refine At.HO.back (.c (.s (.s (.s .z))) .n) ?_
                refine At.H.take 11 rfl (by kernel_rfl) (by kernel_rfl) (by kernel_rfl) (Y.build (is := [0, 1, 2, 3, 4]) (xo := [.tmp 8, .tmp 9, .tmp 12, .tmp 15, .tmp 18]) (vs := [.slice A0 a0.length c0, .func (.func 37) #[] #[], .slice A1850 ((List.replicate (a0.length : Int).toNat (0 : Int)).length) c1851, .slice A1853 ((List.replicate (a0.length : Int).toNat (0 : Int)).length) c1854, .slice A1847 ((List.replicate (a0.length : Int).toNat (false : Bool)).length) c1848]) (cs := [.slice A0 a0.length c0, .func (.func 37) #[] #[], .slice A1850 ((List.replicate (a0.length : Int).toNat (0 : Int)).length) c1851, .slice A1853 ((List.replicate (a0.length : Int).toNat (0 : Int)).length) c1854, .slice A1847 ((List.replicate (a0.length : Int).toNat (false : Bool)).length) c1848, .slice none 0 0, .slice none 0 0, .int .i64 0, .nilFunc]) rfl rfl rfl rfl rfl rfl) rfl rfl rfl (.c (.s (.s (.s .z))) .n) ?_
                refine At.H.all [12] (by kernel_rfl) rfl (all_cons ?_ all_nil)
                · · refine At.HO.op rfl ?_
                    refine At.box rfl rfl (cs := [.slice A0 a0.length c0, .func (.func 37) #[] #[], .slice A1850 ((List.replicate (a0.length : Int).toNat (0 : Int)).length) c1851, .slice A1853 ((List.replicate (a0.length : Int).toNat (0 : Int)).length) c1854, .slice A1847 ((List.replicate (a0.length : Int).toNat (false : Bool)).length) c1848, .slice none 0 0, .slice none 0 0, .int .i64 0, .nilFunc]) rfl rfl (fun b1856 => ?_)
                    refine At.HO.back (.c (.s (.s (.s (.s .z)))) .n) ?_
                    refine At.H.pv 13 rfl (by kernel_rfl) (by kernel_rfl) (by kernel_rfl) rfl rfl rfl rfl (.c (.s (.s (.s (.s .z)))) .n) ?_
                    refine At.H.done (by kernel_rfl) ?_
                    refine At.frt (.s (.s (.s (.s .z)))) ?_
                    refine At.frt (.s (.s (.s .z))) ?_
                    refine At.frt (.s (.s (.s .z))) ?_
                    refine At.frt (.s (.s (.s (.s .z)))) ?_
                    refine At.frt (.s (.s (.s (.s .z)))) ?_
                    exact At.of (J486 (b1856, A1847, c1848, A1853, c1854, A1850, c1851) trivial) ⟨rfl, rfl, rfl, rfl, trivial⟩
        · · refine At.HO.op rfl ?_
            refine At.make (F := (Fl.int .i64)) (z := 0) rfl rfl rfl rfl rfl rfl rfl rfl rfl rfl h487.1 h487.2 (by decide) rfl (fun A1857 c1858 => ?_)
            refine At.HO.back (.c (.s (.s .z)) .n) ?_
            refine At.H.all [4] (by kernel_rfl) rfl (all_cons ?_ all_nil)
            · · refine At.HO.op rfl ?_
                refine At.make (F := (Fl.int .i64)) (z := 0) rfl rfl rfl rfl rfl rfl rfl rfl rfl rfl h487.1 h487.2 (by decide) rfl (fun A1860 c1861 => ?_)
                refine At.HO.back (.c (.s (.s (.s .z))) .n) ?_
                refine At.H.take 11 rfl (by kernel_rfl) (by kernel_rfl) (by kernel_rfl) (Y.build (is := [0, 1, 2, 3, 4]) (xo := [.tmp 8, .tmp 9, .tmp 12, .tmp 15, .tmp 18]) (vs := [.slice A0 a0.length c0, .func (.func 37) #[] #[], .slice A1860 ((List.replicate (a0.length : Int).toNat (0 : Int)).length) c1861, .slice A1857 ((List.replicate (a0.length : Int).toNat (0 : Int)).length) c1858, .slice A1847 ((List.replicate (a0.length : Int).toNat (false : Bool)).length) c1848]) (cs := [.slice A0 a0.length c0, .func (.func 37) #[] #[], .slice A1860 ((List.replicate (a0.length : Int).toNat (0 : Int)).length) c1861, .slice A1857 ((List.replicate (a0.length : Int).toNat (0 : Int)).length) c1858, .slice A1847 ((List.replicate (a0.length : Int).toNat (false : Bool)).length) c1848, .slice none 0 0, .slice none 0 0, .int .i64 0, .nilFunc]) rfl rfl rfl rfl rfl rfl) rfl rfl rfl (.c (.s (.s (.s .z))) .n) ?_
                refine At.H.all [12] (by kernel_rfl) rfl (all_cons ?_ all_nil)
                · · refine At.HO.op rfl ?_
                    refine At.box rfl rfl (cs := [.slice A0 a0.length c0, .func (.func 37) #[] #[], .slice A1860 ((List.replicate (a0.length : Int).toNat (0 : Int)).length) c1861, .slice A1857 ((List.replicate (a0.length : Int).toNat (0 : Int)).length) c1858, .slice A1847 ((List.replicate (a0.length : Int).toNat (false : Bool)).length) c1848, .slice none 0 0, .slice none 0 0, .int .i64 0, .nilFunc]) rfl rfl (fun b1863 => ?_)
                    refine At.HO.back (.c (.s (.s (.s (.s .z)))) .n) ?_
                    refine At.H.pv 13 rfl (by kernel_rfl) (by kernel_rfl) (by kernel_rfl) rfl rfl rfl rfl (.c (.s (.s (.s (.s .z)))) .n) ?_
                    refine At.H.done (by kernel_rfl) ?_
                    refine At.frt (.s (.s (.s (.s .z)))) ?_
                    refine At.frt (.s (.s .z)) ?_
                    refine At.frt (.s (.s (.s .z))) ?_
                    refine At.frt (.s (.s (.s (.s .z)))) ?_
                    refine At.frt (.s (.s (.s (.s .z)))) ?_
                    exact At.of (J486 (b1863, A1847, c1848, A1857, c1858, A1860, c1861) trivial) ⟨rfl, rfl, rfl, rfl, trivial⟩

noncomputable def cycles_Components.f (a0 : List (List Int)) : Option (List (List Int)) :=
  (cycles_parts.f a0).bind fun t256 =>
    some t256
theorem cycles_Components.callee : Callee Go.Proofs.Try.prog 19 := ⟨_, Go.Proofs.Try.func19, by kernel_rfl, by kernel_rfl⟩
set_option maxRecDepth 100000 in
set_option maxHeartbeats 2000000 in
theorem cycles_Components.spec (R : Res) (Fr : List HProp) (A0 : Option Addr) (n0 : Nat) (c0 : Nat) (a0 : List (List Int)) (hr0 : RdS ((Fl.int .i64).rep).slice R.heap A0 a0) (hn0 : a0.length = n0) (hc0 : n0 ≤ c0) {r : (List (List Int))} (hrun : cycles_Components.f a0 = some r) :
    Spec Go.Proofs.Try.prog 19 [.slice A0 n0 c0] R (Fr) (fun v l' => ∃ (w252 : Nat) (w254 : Option Addr) (w255 : Nat), v = .slice w254 w252 w255 ∧ rows (Fl.int .i64) 3 26 w254 w252 w255 r :: Fr = l' ∧ r.length = w252) := by
  subst hn0
  refine Spec.of Go.Proofs.Try.func19 rfl rfl ?_
  unfold cycles_Components.f at hrun
  have hrun := brun hrun
  refine At.seq ?_
  refine At.region ?_
  refine At.run 1 rfl ?_
  refine At.nil ?_
  refine At.thn ?_
  refine At.seq ?_
  refine At.region ?_
  refine At.run 1 rfl ?_
  obtain ⟨t256, hc257, hrun⟩ := bbind hrun
  refine At.call rfl cycles_parts.callee rfl rfl rfl (cycles_parts.spec _ _ A0 a0.length c0 a0 hr0 rfl hc0 hc257) ?_
  rintro _ _ ⟨w258, w259, w260, rfl, rfl, rfl⟩
  refine At.run 1 rfl ?_
  refine At.nil ?_
  refine At.thn ?_
  refine At.ret ?_
  obtain rfl := (bret hrun).symm
  exact At.res (.inl rfl) rfl rfl ⟨t256.length, w259, w260, rfl, rfl, rfl⟩

noncomputable def cycles_Bad_1.f (a0 : Int) (a1_0 : List Int) : Option Int :=
  if a0 < (a1_0.length : Int) then
    if (0 : Int) ≤ a0 ∧ a0 < (a1_0.length : Int) then
      some (gt a1_0 a0)
    else none
  else
    some 0
theorem cycles_Bad_1.callee : Callee Go.Proofs.Try.prog 38 := ⟨_, Go.Proofs.Try.func38, by kernel_rfl, by kernel_rfl⟩
set_option maxRecDepth 100000 in
set_option maxHeartbeats 2000000 in
theorem cycles_Bad_1.spec (R : Res) (Fr : List HProp) (b1 : Nat) (A1_0 : Option Addr) (n1_0 : Nat) (c1_0 : Nat) (a0 : Int) (a1_0 : List Int) (hr1_0 : RdS (Fl.int .i64).rep R.heap A1_0 a1_0) (hn1_0 : a1_0.length = n1_0) (hc1_0 : n1_0 ≤ c1_0) {r : Int} (hrun : cycles_Bad_1.f a0 a1_0 = some r) :
    Spec Go.Proofs.Try.prog 38 [.int .i64 a0, .pointer (some ⟨b1, 0, none⟩)] R (pt b1 (.cells [.slice A1_0 n1_0 c1_0].toArray 26) :: Fr) (fun v l' => v = .int .i64 r ∧ pt b1 (.cells [.slice A1_0 n1_0 c1_0].toArray 26) :: Fr = l') := by
  subst hn1_0
  refine Spec.of Go.Proofs.Try.func38 rfl rfl ?_
  unfold cycles_Bad_1.f at hrun
  have hrun := brun hrun
  refine At.seq ?_
  refine At.region ?_
  refine At.run 1 rfl ?_
  refine At.nil ?_
  refine At.thn ?_
  refine At.seq ?_
  refine At.seq ?_
  refine At.region ?_
  refine At.run 1 rfl ?_
  refine At.y (Y.load rfl rfl .z rfl rfl rfl) rfl rfl rfl ?_
  refine At.run 2 rfl ?_
  refine At.nil ?_
  refine At.thn ?_
  rcases bite hrun with ⟨h252, hrun⟩ | ⟨h252, hrun⟩
  · · refine At.condT rfl (decide_eq_true h252) ?_
      refine At.seq ?_
      refine At.region ?_
      refine At.y (Y.load rfl rfl .z rfl rfl rfl) rfl rfl rfl ?_
      refine At.run 1 rfl ?_
      obtain ⟨h253, hrun⟩ := bnone hrun
      refine At.y (Y.ixRd hr1_0 rfl rfl rfl rfl rfl rfl rfl h253.1 h253.2) rfl rfl rfl ?_
      refine At.y (Y.ldFl hr1_0 rfl (q := 0) rfl rfl h253.1 h253.2 rfl rfl rfl) rfl rfl rfl ?_
      refine At.run 1 rfl ?_
      refine At.nil ?_
      refine At.thn ?_
      refine At.ret ?_
      refine At.thr ?_
      obtain rfl := (bret hrun).symm
      exact At.res (.inl rfl) rfl rfl ⟨rfl, rfl⟩
  · · refine At.condF rfl (decide_eq_false h252) ?_
      refine At.skip ?_
      refine At.thn ?_
      refine At.seq ?_
      refine At.region ?_
      refine At.run 1 rfl ?_
      refine At.nil ?_
      refine At.thn ?_
      refine At.ret ?_
      obtain rfl := (bret hrun).symm
      exact At.res (.inl rfl) rfl rfl ⟨rfl, rfl⟩

noncomputable def slices_Contains_int_int.f (a0 : List Int) (a1 : Int) : Option Bool :=
  (slices_Index_int_int.f a0 a1).bind fun t252 =>
    some (decide (0 ≤ t252))
theorem slices_Contains_int_int.callee : Callee Go.Proofs.Try.prog 39 := ⟨_, Go.Proofs.Try.func39, by kernel_rfl, by kernel_rfl⟩
set_option maxRecDepth 100000 in
set_option maxHeartbeats 2000000 in
theorem slices_Contains_int_int.spec (R : Res) (Fr : List HProp) (A0 : Option Addr) (n0 : Nat) (c0 : Nat) (a0 : List Int) (a1 : Int) (hr0 : RdS (Fl.int .i64).rep R.heap A0 a0) (hn0 : a0.length = n0) (hc0 : n0 ≤ c0) {r : Bool} (hrun : slices_Contains_int_int.f a0 a1 = some r) :
    Spec Go.Proofs.Try.prog 39 [.slice A0 n0 c0, .int .i64 a1] R (Fr) (fun v l' => v = .bool r ∧ Fr = l') := by
  subst hn0
  refine Spec.of Go.Proofs.Try.func39 rfl rfl ?_
  unfold slices_Contains_int_int.f at hrun
  have hrun := brun hrun
  refine At.seq ?_
  refine At.region ?_
  refine At.run 1 rfl ?_
  refine At.nil ?_
  refine At.thn ?_
  refine At.seq ?_
  refine At.region ?_
  refine At.run 2 rfl ?_
  obtain ⟨t252, hc253, hrun⟩ := bbind hrun
  refine At.call rfl slices_Index_int_int.callee rfl rfl rfl (slices_Index_int_int.spec _ _ A0 a0.length c0 a0 a1 hr0 rfl hc0 hc253) ?_
  rintro _ _ ⟨rfl, rfl⟩
  refine At.run 2 rfl ?_
  refine At.nil ?_
  refine At.thn ?_
  refine At.ret ?_
  obtain rfl := (bret hrun).symm
  exact At.res (.inl rfl) rfl rfl ⟨rfl, rfl⟩

noncomputable def cycles_Bad_2.f (a0 : Int) (a1_0_c0_0 : List Int) (a2_0 : Int) : Option Bool :=
  (cycles_Bad_1.f a0 a1_0_c0_0).bind fun t252 =>
    some (decide (t252 ≤ a2_0))
theorem cycles_Bad_2.callee : Callee Go.Proofs.Try.prog 40 := ⟨_, Go.Proofs.Try.func40, by kernel_rfl, by kernel_rfl⟩
set_option maxRecDepth 100000 in
set_option maxHeartbeats 2000000 in
theorem cycles_Bad_2.spec (R : Res) (Fr : List HProp) (b1 : Nat) (b1_0_c0 : Nat) (A1_0_c0_0 : Option Addr) (n1_0_c0_0 : Nat) (c1_0_c0_0 : Nat) (b2 : Nat) (a0 : Int) (a1_0_c0_0 : List Int) (a2_0 : Int) (hr1_0_c0_0 : RdS (Fl.int .i64).rep R.heap A1_0_c0_0 a1_0_c0_0) (hn1_0_c0_0 : a1_0_c0_0.length = n1_0_c0_0) (hc1_0_c0_0 : n1_0_c0_0 ≤ c1_0_c0_0) {r : Bool} (hrun : cycles_Bad_2.f a0 a1_0_c0_0 a2_0 = some r) :
    Spec Go.Proofs.Try.prog 40 [.int .i64 a0, .pointer (some ⟨b1, 0, none⟩), .pointer (some ⟨b2, 0, none⟩)] R (pt b1 (.cells [.func (.func 38) #[] #[.pointer (some ⟨b1_0_c0, 0, none⟩)]].toArray 62) :: pt b1_0_c0 (.cells [.slice A1_0_c0_0 n1_0_c0_0 c1_0_c0_0].toArray 26) :: pt b2 (.cells [.int .i64 a2_0].toArray 3) :: Fr) (fun v l' => v = .bool r ∧ pt b1 (.cells [.func (.func 38) #[] #[.pointer (some ⟨b1_0_c0, 0, none⟩)]].toArray 62) :: pt b1_0_c0 (.cells [.slice A1_0_c0_0 n1_0_c0_0 c1_0_c0_0].toArray 26) :: pt b2 (.cells [.int .i64 a2_0].toArray 3) :: Fr = l') := by
  subst hn1_0_c0_0
  refine Spec.of Go.Proofs.Try.func40 rfl rfl ?_
  unfold cycles_Bad_2.f at hrun
  have hrun := brun hrun
  refine At.seq ?_
  refine At.region ?_
  refine At.run 1 rfl ?_
  refine At.nil ?_
  refine At.thn ?_
  refine At.seq ?_
  refine At.quiet (by kernel_rfl) ?_
  refine At.Quiet.y (Y.load rfl rfl .z rfl rfl rfl) rfl rfl rfl ?_
  refine At.Quiet.run 1 rfl ?_
  obtain ⟨t252, hc253, hrun⟩ := bbind hrun
  refine At.Quiet.call rfl cycles_Bad_1.callee rfl rfl rfl (Spec.frt (.s .z) (cycles_Bad_1.spec _ _ b1_0_c0 A1_0_c0_0 a1_0_c0_0.length c1_0_c0_0 a0 a1_0_c0_0 hr1_0_c0_0 rfl hc1_0_c0_0 hc253)) (fun _ _ h_ => ⟨h_.1, fun _ hs => h_.2 ▸ hs⟩) ?_
  refine At.Quiet.y (Y.load rfl rfl (.s (.s .z)) rfl rfl rfl) rfl rfl rfl ?_
  refine At.Quiet.run 2 rfl ?_
  refine At.Quiet.nil ?_
  refine At.thn ?_
  refine At.ret ?_
  obtain rfl := (bret hrun).symm
  exact At.res (.inl rfl) rfl rfl ⟨rfl, rfl⟩

noncomputable def cycles_walk_meet_v2.f (a0_0 : List (List Int)) (a0_1_c0_0_c0_0 : List Int) (a0_1_c1_0 : Int) (a0_2 : List Int) (a0_3 : List Int) (a0_4 : List Bool) (a0_5 : List Int) (a0_6 : List cycles_stand) (a0_7 : Int) (a0_8_c0_0 : List (List Int)) (a1 : Int) : Option ((List cycles_stand) × (List Int) × (List Bool) × (List Int) × (List Int) × Int) :=
  if (0 : Int) ≤ a1 ∧ a1 < (a0_2.length : Int) then
    if (0 : Int) ≤ a1 ∧ a1 < (a0_3.length : Int) then
      if (0 : Int) ≤ a1 ∧ a1 < (a0_4.length : Int) then
        if (a0_5.length + ([a1] : List Int).length) * 8 ≤ 140737488355328 then
          if (a0_6.length + ([(⟨a1, 0⟩ : cycles_stand)] : List cycles_stand).length) * 16 ≤ 140737488355328 then
            some ((a0_6 ++ ([(⟨a1, 0⟩ : cycles_stand)] : List cycles_stand)), (a0_5 ++ ([a1] : List Int)), (st a0_4 a1 true), (st a0_3 a1 (IntKind.i64.wrap (a0_7 + 1))), (st a0_2 a1 (IntKind.i64.wrap (a0_7 + 1))), IntKind.i64.wrap (a0_7 + 1))
          else none
        else none
      else none
    else none
  else none
theorem cycles_walk_meet_v2.callee : Callee Go.Proofs.Try.prog 68 := ⟨_, Go.Proofs.Try.func68, by kernel_rfl, by kernel_rfl⟩
set_option maxRecDepth 100000 in
set_option maxHeartbeats 2000000 in
theorem cycles_walk_meet_v2.spec (R : Res) (Fr : List HProp) (b0 : Nat) (A0_0 : Option Addr) (n0_0 : Nat) (c0_0 : Nat) (b0_1_c0 : Nat) (b0_1_c0_0_c0 : Nat) (A0_1_c0_0_c0_0 : Option Addr) (n0_1_c0_0_c0_0 : Nat) (c0_1_c0_0_c0_0 : Nat) (b0_1_c1 : Nat) (A0_2 : Option Addr) (n0_2 : Nat) (c0_2 : Nat) (A0_3 : Option Addr) (n0_3 : Nat) (c0_3 : Nat) (A0_4 : Option Addr) (n0_4 : Nat) (c0_4 : Nat) (A0_5 : Option Addr) (n0_5 : Nat) (c0_5 : Nat) (A0_6 : Option Addr) (n0_6 : Nat) (c0_6 : Nat) (b0_8_c0 : Nat) (A0_8_c0_0 : Option Addr) (n0_8_c0_0 : Nat) (c0_8_c0_0 : Nat) (a0_0 : List (List Int)) (a0_1_c0_0_c0_0 : List Int) (a0_1_c1_0 : Int) (a0_2 : List Int) (a0_3 : List Int) (a0_4 : List Bool) (a0_5 : List Int) (a0_6 : List cycles_stand) (a0_7 : Int) (a0_8_c0_0 : List (List Int)) (a1 : Int) (hr0_0 : RdS ((Fl.int .i64).rep).slice R.heap A0_0 a0_0) (hn0_0 : a0_0.length = n0_0) (hc0_0 : n0_0 ≤ c0_0) (hr0_1_c0_0_c0_0 : RdS (Fl.int .i64).rep R.heap A0_1_c0_0_c0_0 a0_1_c0_0_c0_0) (hn0_1_c0_0_c0_0 : a0_1_c0_0_c0_0.length = n0_1_c0_0_c0_0) (hc0_1_c0_0_c0_0 : n0_1_c0_0_c0_0 ≤ c0_1_c0_0_c0_0) (hn0_2 : a0_2.length = n0_2) (hn0_3 : a0_3.length = n0_3) (hn0_4 : a0_4.length = n0_4) (hn0_5 : a0_5.length = n0_5) (hn0_6 : a0_6.length = n0_6) (hn0_8_c0_0 : a0_8_c0_0.length = n0_8_c0_0) {r : (List cycles_stand) × (List Int) × (List Bool) × (List Int) × (List Int) × Int} (hrun : cycles_walk_meet_v2.f a0_0 a0_1_c0_0_c0_0 a0_1_c1_0 a0_2 a0_3 a0_4 a0_5 a0_6 a0_7 a0_8_c0_0 a1 = some r) :
    Spec Go.Proofs.Try.prog 68 [.pointer (some ⟨b0, 0, none⟩), .int .i64 a1] R (pt b0 (.cells [.slice A0_0 n0_0 c0_0, .func (.func 40) #[] #[.pointer (some ⟨b0_1_c0, 0, none⟩), .pointer (some ⟨b0_1_c1, 0, none⟩)], .slice A0_2 n0_2 c0_2, .slice A0_3 n0_3 c0_3, .slice A0_4 n0_4 c0_4, .slice A0_5 n0_5 c0_5, .slice A0_6 n0_6 c0_6, .int .i64 a0_7, .func (.func 55) #[] #[.pointer (some ⟨b0_8_c0, 0, none⟩)]].toArray 86) :: pt b0_1_c0 (.cells [.func (.func 38) #[] #[.pointer (some ⟨b0_1_c0_0_c0, 0, none⟩)]].toArray 62) :: pt b0_1_c0_0_c0 (.cells [.slice A0_1_c0_0_c0_0 n0_1_c0_0_c0_0 c0_1_c0_0_c0_0].toArray 26) :: pt b0_1_c1 (.cells [.int .i64 a0_1_c1_0].toArray 3) :: row (Fl.int .i64) 3 A0_2 n0_2 c0_2 a0_2 :: row (Fl.int .i64) 3 A0_3 n0_3 c0_3 a0_3 :: row Fl.bool 4 A0_4 n0_4 c0_4 a0_4 :: row (Fl.int .i64) 3 A0_5 n0_5 c0_5 a0_5 :: row cycles_stand.fl 99 A0_6 n0_6 c0_6 a0_6 :: pt b0_8_c0 (.cells [.slice A0_8_c0_0 n0_8_c0_0 c0_8_c0_0].toArray 22) :: rows (Fl.int .i64) 3 26 A0_8_c0_0 n0_8_c0_0 c0_8_c0_0 a0_8_c0_0 :: Fr) (fun v l' => ∃ (w252 : Option Addr) (w253 : Nat) (w255 : Option Addr) (w256 : Nat), v = .tuple #[] ∧ pt b0 (.cells [.slice A0_0 n0_0 c0_0, .func (.func 40) #[] #[.pointer (some ⟨b0_1_c0, 0, none⟩), .pointer (some ⟨b0_1_c1, 0, none⟩)], .slice A0_2 n0_2 c0_2, .slice A0_3 n0_3 c0_3, .slice A0_4 n0_4 c0_4, .slice w255 ((a0_5 ++ ([a1] : List Int)).length) w256, .slice w252 ((a0_6 ++ ([(⟨a1, 0⟩ : cycles_stand)] : List cycles_stand)).length) w253, .int .i64 r.2.2.2.2.2, .func (.func 55) #[] #[.pointer (some ⟨b0_8_c0, 0, none⟩)]].toArray 86) :: pt b0_1_c0 (.cells [.func (.func 38) #[] #[.pointer (some ⟨b0_1_c0_0_c0, 0, none⟩)]].toArray 62) :: pt b0_1_c0_0_c0 (.cells [.slice A0_1_c0_0_c0_0 n0_1_c0_0_c0_0 c0_1_c0_0_c0_0].toArray 26) :: pt b0_1_c1 (.cells [.int .i64 a0_1_c1_0].toArray 3) :: row (Fl.int .i64) 3 A0_2 n0_2 c0_2 r.2.2.2.2.1 :: row (Fl.int .i64) 3 A0_3 n0_3 c0_3 r.2.2.2.1 :: row Fl.bool 4 A0_4 n0_4 c0_4 r.2.2.1 :: row (Fl.int .i64) 3 w255 ((a0_5 ++ ([a1] : List Int)).length) w256 r.2.1 :: row cycles_stand.fl 99 w252 ((a0_6 ++ ([(⟨a1, 0⟩ : cycles_stand)] : List cycles_stand)).length) w253 r.1 :: pt b0_8_c0 (.cells [.slice A0_8_c0_0 n0_8_c0_0 c0_8_c0_0].toArray 22) :: rows (Fl.int .i64) 3 26 A0_8_c0_0 n0_8_c0_0 c0_8_c0_0 a0_8_c0_0 :: Fr = l') := by
  subst hn0_0
  subst hn0_1_c0_0_c0_0
  subst hn0_2
  subst hn0_3
  subst hn0_4
  subst hn0_5
  subst hn0_6
  subst hn0_8_c0_0
  refine Spec.of Go.Proofs.Try.func68 rfl rfl ?_
  unfold cycles_walk_meet_v2.f at hrun
  have hrun := brun hrun
  refine At.seq ?_
  refine At.region ?_
  refine At.run 3 rfl ?_
  refine At.y (Y.load rfl rfl .z rfl rfl rfl) rfl rfl rfl ?_
  refine At.run 3 rfl ?_
  refine At.store rfl rfl rfl rfl .z rfl rfl rfl (.s (.s (.s (.s (.s (.s (.s (.c .n)))))))) ?_
  refine At.nil ?_
  refine At.thn ?_
  refine At.seq ?_
  refine At.held [pt b0 (.cells [.slice A0_0 a0_0.length c0_0, .func (.func 40) #[] #[.pointer (some ⟨b0_1_c0, 0, none⟩), .pointer (some ⟨b0_1_c1, 0, none⟩)], .slice A0_2 a0_2.length c0_2, .slice A0_3 a0_3.length c0_3, .slice A0_4 a0_4.length c0_4, .slice A0_5 a0_5.length c0_5, .slice A0_6 a0_6.length c0_6, .int .i64 (IntKind.i64.wrap (a0_7 + 1)), .func (.func 55) #[] #[.pointer (some ⟨b0_8_c0, 0, none⟩)]].toArray 86), pt b0_1_c0 (.cells [.func (.func 38) #[] #[.pointer (some ⟨b0_1_c0_0_c0, 0, none⟩)]].toArray 62), pt b0_1_c0_0_c0 (.cells [.slice A0_1_c0_0_c0_0 a0_1_c0_0_c0_0.length c0_1_c0_0_c0_0].toArray 26), pt b0_1_c1 (.cells [.int .i64 a0_1_c1_0].toArray 3), row (Fl.int .i64) 3 A0_5 a0_5.length c0_5 a0_5, row cycles_stand.fl 99 A0_6 a0_6.length c0_6 a0_6, pt b0_8_c0 (.cells [.slice A0_8_c0_0 a0_8_c0_0.length c0_8_c0_0].toArray 22), rows (Fl.int .i64) 3 26 A0_8_c0_0 a0_8_c0_0.length c0_8_c0_0 a0_8_c0_0] 29 rfl ?_
  refine At.H.pv 0 rfl (by kernel_rfl) (by kernel_rfl) (by kernel_rfl) rfl rfl rfl rfl (.c .z (.c .z (.c .z (.c .z (.c (.s (.s (.s .z))) (.c (.s (.s (.s .z))) (.c (.s (.s (.s .z))) (.c (.s (.s (.s .z))) .n)))))))) ?_
  refine At.H.pv 1 rfl (by kernel_rfl) (by kernel_rfl) (by kernel_rfl) rfl rfl rfl rfl (.c .z (.c .z (.c .z (.c .z (.c (.s (.s (.s .z))) (.c (.s (.s (.s .z))) (.c (.s (.s (.s .z))) (.c (.s (.s (.s .z))) .n)))))))) ?_
  refine At.H.pv 2 rfl (by kernel_rfl) (by kernel_rfl) (by kernel_rfl) rfl rfl rfl rfl (.c .z (.c .z (.c .z (.c .z (.c (.s (.s (.s .z))) (.c (.s (.s (.s .z))) (.c (.s (.s (.s .z))) (.c (.s (.s (.s .z))) .n)))))))) ?_
  refine At.H.take 3 rfl (by kernel_rfl) (by kernel_rfl) (by kernel_rfl) (Y.load rfl rfl .z rfl rfl rfl) rfl rfl rfl (.c .z (.c .z (.c .z (.c .z (.c (.s (.s (.s .z))) (.c (.s (.s (.s .z))) (.c (.s (.s (.s .z))) (.c (.s (.s (.s .z))) .n)))))))) ?_
  refine At.H.pv 4 rfl (by kernel_rfl) (by kernel_rfl) (by kernel_rfl) rfl rfl rfl rfl (.c .z (.c .z (.c .z (.c .z (.c (.s (.s (.s .z))) (.c (.s (.s (.s .z))) (.c (.s (.s (.s .z))) (.c (.s (.s (.s .z))) .n)))))))) ?_
  refine At.H.pv 5 rfl (by kernel_rfl) (by kernel_rfl) (by kernel_rfl) rfl rfl rfl rfl (.c .z (.c .z (.c .z (.c .z (.c (.s (.s (.s .z))) (.c (.s (.s (.s .z))) (.c (.s (.s (.s .z))) (.c (.s (.s (.s .z))) .n)))))))) ?_
  refine At.H.pv 6 rfl (by kernel_rfl) (by kernel_rfl) (by kernel_rfl) rfl rfl rfl rfl (.c .z (.c .z (.c .z (.c .z (.c (.s (.s (.s .z))) (.c (.s (.s (.s .z))) (.c (.s (.s (.s .z))) (.c (.s (.s (.s .z))) .n)))))))) ?_
  refine At.H.pv 7 rfl (by kernel_rfl) (by kernel_rfl) (by kernel_rfl) rfl rfl rfl rfl (.c .z (.c .z (.c .z (.c .z (.c (.s (.s (.s .z))) (.c (.s (.s (.s .z))) (.c (.s (.s (.s .z))) (.c (.s (.s (.s .z))) .n)))))))) ?_
  refine At.H.take 8 rfl (by kernel_rfl) (by kernel_rfl) (by kernel_rfl) (Y.load rfl rfl .z rfl rfl rfl) rfl rfl rfl (.c .z (.c .z (.c .z (.c .z (.c (.s (.s (.s .z))) (.c (.s (.s (.s .z))) (.c (.s (.s (.s .z))) (.c (.s (.s (.s .z))) .n)))))))) ?_
  refine At.H.pv 9 rfl (by kernel_rfl) (by kernel_rfl) (by kernel_rfl) rfl rfl rfl rfl (.c .z (.c .z (.c .z (.c .z (.c (.s (.s (.s .z))) (.c (.s (.s (.s .z))) (.c (.s (.s (.s .z))) (.c (.s (.s (.s .z))) .n)))))))) ?_
  refine At.H.pv 10 rfl (by kernel_rfl) (by kernel_rfl) (by kernel_rfl) rfl rfl rfl rfl (.c .z (.c .z (.c .z (.c .z (.c (.s (.s (.s .z))) (.c (.s (.s (.s .z))) (.c (.s (.s (.s .z))) (.c (.s (.s (.s .z))) .n)))))))) ?_
  refine At.H.pv 11 rfl (by kernel_rfl) (by kernel_rfl) (by kernel_rfl) rfl rfl rfl rfl (.c .z (.c .z (.c .z (.c .z (.c (.s (.s (.s .z))) (.c (.s (.s (.s .z))) (.c (.s (.s (.s .z))) (.c (.s (.s (.s .z))) .n)))))))) ?_
  refine At.H.pv 12 rfl (by kernel_rfl) (by kernel_rfl) (by kernel_rfl) rfl rfl rfl rfl (.c .z (.c .z (.c .z (.c .z (.c (.s (.s (.s .z))) (.c (.s (.s (.s .z))) (.c (.s (.s (.s .z))) (.c (.s (.s (.s .z))) .n)))))))) ?_
  refine At.H.take 13 rfl (by kernel_rfl) (by kernel_rfl) (by kernel_rfl) (Y.load rfl rfl .z rfl rfl rfl) rfl rfl rfl (.c .z (.c .z (.c .z (.c .z (.c (.s (.s (.s .z))) (.c (.s (.s (.s .z))) (.c (.s (.s (.s .z))) (.c (.s (.s (.s .z))) .n)))))))) ?_
  refine At.H.pv 14 rfl (by kernel_rfl) (by kernel_rfl) (by kernel_rfl) rfl rfl rfl rfl (.c .z (.c .z (.c .z (.c .z (.c (.s (.s (.s .z))) (.c (.s (.s (.s .z))) (.c (.s (.s (.s .z))) (.c (.s (.s (.s .z))) .n)))))))) ?_
  refine At.H.pv 15 rfl (by kernel_rfl) (by kernel_rfl) (by kernel_rfl) rfl rfl rfl rfl (.c .z (.c .z (.c .z (.c .z (.c (.s (.s (.s .z))) (.c (.s (.s (.s .z))) (.c (.s (.s (.s .z))) (.c (.s (.s (.s .z))) .n)))))))) ?_
  refine At.H.pv 16 rfl (by kernel_rfl) (by kernel_rfl) (by kernel_rfl) rfl rfl rfl rfl (.c .z (.c .z (.c .z (.c .z (.c (.s (.s (.s .z))) (.c (.s (.s (.s .z))) (.c (.s (.s (.s .z))) (.c (.s (.s (.s .z))) .n)))))))) ?_
  refine At.H.pv 17 rfl (by kernel_rfl) (by kernel_rfl) (by kernel_rfl) rfl rfl rfl rfl (.c .z (.c .z (.c .z (.c .z (.c (.s (.s (.s .z))) (.c (.s (.s (.s .z))) (.c (.s (.s (.s .z))) (.c (.s (.s (.s .z))) .n)))))))) ?_
  refine At.H.take 18 rfl (by kernel_rfl) (by kernel_rfl) (by kernel_rfl) (Y.load rfl rfl .z rfl rfl rfl) rfl rfl rfl (.c .z (.c .z (.c .z (.c .z (.c (.s (.s (.s .z))) (.c (.s (.s (.s .z))) (.c (.s (.s (.s .z))) (.c (.s (.s (.s .z))) .n)))))))) ?_
  refine At.H.pv 19 rfl (by kernel_rfl) (by kernel_rfl) (by kernel_rfl) rfl rfl rfl rfl (.c .z (.c .z (.c .z (.c .z (.c (.s (.s (.s .z))) (.c (.s (.s (.s .z))) (.c (.s (.s (.s .z))) (.c (.s (.s (.s .z))) .n)))))))) ?_
  refine At.H.pv 20 rfl (by kernel_rfl) (by kernel_rfl) (by kernel_rfl) rfl rfl rfl rfl (.c .z (.c .z (.c .z (.c .z (.c (.s (.s (.s .z))) (.c (.s (.s (.s .z))) (.c (.s (.s (.s .z))) (.c (.s (.s (.s .z))) .n)))))))) ?_
  refine At.H.pv 21 rfl (by kernel_rfl) (by kernel_rfl) (by kernel_rfl) rfl rfl rfl rfl (.c .z (.c .z (.c .z (.c .z (.c (.s (.s (.s .z))) (.c (.s (.s (.s .z))) (.c (.s (.s (.s .z))) (.c (.s (.s (.s .z))) .n)))))))) ?_
  refine At.H.take 22 rfl (by kernel_rfl) (by kernel_rfl) (by kernel_rfl) (Y.load rfl rfl .z rfl rfl rfl) rfl rfl rfl (.c .z (.c .z (.c .z (.c .z (.c (.s (.s (.s .z))) (.c (.s (.s (.s .z))) (.c (.s (.s (.s .z))) (.c (.s (.s (.s .z))) .n)))))))) ?_
  refine At.H.all [23] (by kernel_rfl) rfl (all_cons ?_ all_nil)
  · · refine At.HO.op rfl ?_
      obtain ⟨h262, hrun⟩ := bnone hrun
      refine At.y (Y.ix (.s (.s (.s (.s .z)))) rfl rfl rfl rfl rfl rfl h262.1 h262.2) rfl rfl rfl ?_
      refine At.HO.back (.c .z (.c .z (.c .z (.c .z (.c (.s (.s (.s .z))) (.c (.s (.s (.s .z))) (.c (.s (.s (.s .z))) (.c (.s (.s (.s .z))) .n)))))))) ?_
      refine At.H.all [24] (by kernel_rfl) rfl (all_cons ?_ all_nil)
      · · refine At.HO.op rfl ?_
          refine At.st rfl (.s (.s (.s (.s .z)))) (q := 0) (z := (IntKind.i64.wrap (a0_7 + 1))) rfl rfl rfl h262.1 h262.2 rfl rfl (.c .n) ?_
          refine At.HO.back (.c (.s .z) (.c (.s .z) (.c (.s .z) (.c (.s .z) (.c (.s (.s (.s .z))) (.c (.s (.s (.s .z))) (.c (.s (.s (.s .z))) (.c (.s (.s (.s .z))) .n)))))))) ?_
          refine At.H.all [25] (by kernel_rfl) rfl (all_cons ?_ all_nil)
          · · refine At.HO.op rfl ?_
              obtain ⟨h264, hrun⟩ := bnone hrun
              refine At.y (Y.ix (.s (.s (.s (.s (.s .z))))) rfl rfl rfl rfl rfl rfl h264.1 h264.2) rfl rfl rfl ?_
              refine At.HO.back (.c (.s .z) (.c (.s .z) (.c (.s .z) (.c (.s .z) (.c (.s (.s (.s .z))) (.c (.s (.s (.s .z))) (.c (.s (.s (.s .z))) (.c (.s (.s (.s .z))) .n)))))))) ?_
              refine At.H.all [26] (by kernel_rfl) rfl (all_cons ?_ all_nil)
              · · refine At.HO.op rfl ?_
                  refine At.st rfl (.s (.s (.s (.s (.s .z))))) (q := 0) (z := (IntKind.i64.wrap (a0_7 + 1))) rfl rfl rfl h264.1 h264.2 rfl rfl (.c .n) ?_
                  refine At.HO.back (.c (.s (.s .z)) (.c (.s (.s .z)) (.c (.s (.s .z)) (.c (.s (.s .z)) (.c (.s (.s (.s .z))) (.c (.s (.s (.s .z))) (.c (.s (.s (.s .z))) (.c (.s (.s (.s .z))) .n)))))))) ?_
                  refine At.H.all [27] (by kernel_rfl) rfl (all_cons ?_ all_nil)
                  · · refine At.HO.op rfl ?_
                      obtain ⟨h266, hrun⟩ := bnone hrun
                      refine At.y (Y.ix (.s (.s (.s (.s (.s (.s .z)))))) rfl rfl rfl rfl rfl rfl h266.1 h266.2) rfl rfl rfl ?_
                      refine At.HO.back (.c (.s (.s .z)) (.c (.s (.s .z)) (.c (.s (.s .z)) (.c (.s (.s .z)) (.c (.s (.s (.s .z))) (.c (.s (.s (.s .z))) (.c (.s (.s (.s .z))) (.c (.s (.s (.s .z))) .n)))))))) ?_
                      refine At.H.all [28] (by kernel_rfl) rfl (all_cons ?_ all_nil)
                      · · refine At.HO.op rfl ?_
                          refine At.st rfl (.s (.s (.s (.s (.s (.s .z)))))) (q := 0) (z := true) rfl rfl rfl h266.1 h266.2 rfl rfl (.c .n) ?_
                          refine At.HO.back (.c (.s (.s (.s .z))) (.c (.s (.s (.s .z))) (.c (.s (.s (.s .z))) (.c (.s (.s (.s .z))) (.c (.s (.s (.s .z))) (.c (.s (.s (.s .z))) (.c (.s (.s (.s .z))) (.c (.s (.s (.s .z))) .n)))))))) ?_
                          refine At.H.done (by kernel_rfl) ?_
                          refine At.thn ?_
                          refine At.seq ?_
                          refine At.region ?_
                          refine At.run 4 rfl ?_
                          refine At.y (Y.load rfl rfl (.s (.s (.s .z))) rfl rfl rfl) rfl rfl rfl ?_
                          refine At.run 1 rfl ?_
                          refine At.lit rfl (xo := [.tmp 42]) (ys := ([a1] : List Int)) (Fl.int .i64) rfl rfl rfl rfl rfl rfl rfl rfl rfl rfl rfl (fun A267 c268 => ?_)
                          obtain ⟨h270, hrun⟩ := bnone hrun
                          refine At.append rfl (.s (.s (.s (.s (.s (.s (.s (.s .z)))))))) (Src.own .z (by simp)) rfl rfl rfl rfl rfl rfl rfl rfl h270 (by decide) rfl (fun A271 c272 => ?_)
                          refine At.drop (.s .z) ?_
                          refine At.run 2 rfl ?_
                          refine At.store rfl rfl rfl rfl (.s (.s (.s (.s .z)))) rfl rfl rfl (.s (.s (.s (.s (.s (.c .n)))))) ?_
                          refine At.nil ?_
                          refine At.thn ?_
                          refine At.region ?_
                          refine At.run 4 rfl ?_
                          refine At.y (Y.load rfl rfl .z rfl rfl rfl) rfl rfl rfl ?_
                          refine At.run 1 rfl ?_
                          refine At.y (Y.build (is := [0]) (xo := [.tmp 52]) (vs := [.int .i64 a1]) (cs := [.int .i64 a1, .int .i64 0]) rfl rfl rfl rfl rfl rfl) rfl rfl rfl ?_
                          refine At.lit rfl (xo := [.tmp 53]) (ys := ([(⟨a1, 0⟩ : cycles_stand)] : List cycles_stand)) cycles_stand.fl rfl rfl rfl rfl rfl rfl rfl rfl rfl rfl rfl (fun A273 c274 => ?_)
                          obtain ⟨h276, hrun⟩ := bnone hrun
                          refine At.append rfl (.s (.s (.s (.s (.s (.s (.s (.s (.s .z))))))))) (Src.own .z (by simp)) rfl rfl rfl rfl rfl rfl rfl rfl h276 (by decide) rfl (fun A277 c278 => ?_)
                          refine At.drop (.s .z) ?_
                          refine At.run 2 rfl ?_
                          refine At.store rfl rfl rfl rfl (.s .z) rfl rfl rfl (.s (.s (.s (.s (.s (.s (.c .n))))))) ?_
                          refine At.nil ?_
                          refine At.frt (.s (.s (.s (.s (.s (.s (.s (.s (.s (.s .z)))))))))) ?_
                          refine At.frt (.s (.s (.s (.s (.s (.s (.s (.s (.s (.s .z)))))))))) ?_
                          refine At.frt (.s (.s (.s .z))) ?_
                          refine At.frt (.s (.s (.s (.s .z)))) ?_
                          refine At.frt (.s (.s (.s (.s (.s .z))))) ?_
                          refine At.frt (.s (.s (.s (.s (.s (.s .z)))))) ?_
                          refine At.frt (.s (.s (.s (.s (.s (.s (.s .z))))))) ?_
                          refine At.frt (.s (.s (.s (.s (.s (.s (.s (.s (.s (.s .z)))))))))) ?_
                          refine At.frt (.s (.s (.s (.s (.s (.s (.s (.s (.s (.s .z)))))))))) ?_
                          refine At.frt (.s (.s (.s (.s (.s (.s (.s (.s (.s (.s .z)))))))))) ?_
                          refine At.frt (.s (.s (.s (.s (.s (.s (.s (.s (.s (.s .z)))))))))) ?_
                          obtain rfl := (bret hrun).symm
                          exact At.res (.inr rfl) rfl rfl ⟨A277, c278, A271, c272, rfl, rfl⟩

noncomputable def cycles_walk_leave_v2.l0b (a0_4 : List Bool) (t484 : List Int) (x1091 : List Bool) (x1092 : Int) : Option (((List Bool) × Int) ⊕ (((List Bool)) ⊕ ((List Int) × (List cycles_stand) × (List Bool) × (List Int) × (List (List Int))))) :=
  if x1092 < (t484.length : Int) then
    if (0 : Int) ≤ x1092 ∧ x1092 < (t484.length : Int) then
      if (0 : Int) ≤ gt t484 x1092 ∧ gt t484 x1092 < (a0_4.length : Int) then
        nx ((st x1091 (gt t484 x1092) false), IntKind.i64.wrap (x1092 + 1))
      else none
    else none
  else
    dn (.inl x1091)
noncomputable def cycles_walk_leave_v2.l0 (a0_4 : List Bool) (t484 : List Int) (x1091 : List Bool) (x1092 : Int) : Option (((List Bool)) ⊕ ((List Int) × (List cycles_stand) × (List Bool) × (List Int) × (List (List Int)))) := iter (fun t_ : (List Bool) × Int => cycles_walk_leave_v2.l0b a0_4 t484 t_.1 t_.2) (x1091, x1092)
noncomputable def cycles_walk_leave_v2.l1b (a0_4 : List Bool) (t1332 : List Int) (x1939 : List Bool) (x1940 : Int) : Option (((List Bool) × Int) ⊕ (((List Bool)) ⊕ ((List Int) × (List cycles_stand) × (List Bool) × (List Int) × (List (List Int))))) :=
  if x1940 < (t1332.length : Int) then
    if (0 : Int) ≤ x1940 ∧ x1940 < (t1332.length : Int) then
      if (0 : Int) ≤ gt t1332 x1940 ∧ gt t1332 x1940 < (a0_4.length : Int) then
        nx ((st x1939 (gt t1332 x1940) false), IntKind.i64.wrap (x1940 + 1))
      else none
    else none
  else
    dn (.inl x1939)
noncomputable def cycles_walk_leave_v2.l1 (a0_4 : List Bool) (t1332 : List Int) (x1939 : List Bool) (x1940 : Int) : Option (((List Bool)) ⊕ ((List Int) × (List cycles_stand) × (List Bool) × (List Int) × (List (List Int)))) := iter (fun t_ : (List Bool) × Int => cycles_walk_leave_v2.l1b a0_4 t1332 t_.1 t_.2) (x1939, x1940)
noncomputable def cycles_walk_leave_v2.f (a0_0 : List (List Int)) (a0_1_c0_0_c0_0 : List Int) (a0_1_c1_0 : Int) (a0_2 : List Int) (a0_3 : List Int) (a0_4 : List Bool) (a0_5 : List Int) (a0_6 : List cycles_stand) (a0_7 : Int) (a0_8_c0_0 : List (List Int)) (a1 : Int) : Option ((List Int) × (List cycles_stand) × (List Bool) × (List Int) × (List (List Int))) :=
  if (0 : Int) ≤ IntKind.i64.wrap ((a0_6.length : Int) - 1) ∧ IntKind.i64.wrap ((a0_6.length : Int) - 1) ≤ (a0_6.length : Int) then
    if 0 < ((a0_6.take (IntKind.i64.wrap ((a0_6.length : Int) - 1)).toNat).length : Int) then
    if (0 : Int) ≤ IntKind.i64.wrap (((a0_6.take (IntKind.i64.wrap ((a0_6.length : Int) - 1)).toNat).length : Int) - 1) ∧ IntKind.i64.wrap (((a0_6.take (IntKind.i64.wrap ((a0_6.length : Int) - 1)).toNat).length : Int) - 1) < ((a0_6.take (IntKind.i64.wrap ((a0_6.length : Int) - 1)).toNat).length : Int) then
      if (0 : Int) ≤ (gt (a0_6.take (IntKind.i64.wrap ((a0_6.length : Int) - 1)).toNat) (IntKind.i64.wrap (((a0_6.take (IntKind.i64.wrap ((a0_6.length : Int) - 1)).toNat).length : Int) - 1))).node ∧ (gt (a0_6.take (IntKind.i64.wrap ((a0_6.length : Int) - 1)).toNat) (IntKind.i64.wrap (((a0_6.take (IntKind.i64.wrap ((a0_6.length : Int) - 1)).toNat).length : Int) - 1))).node < (a0_3.length : Int) then
        if (0 : Int) ≤ a1 ∧ a1 < (a0_3.length : Int) then
          if (0 : Int) ≤ a1 ∧ a1 < (a0_2.length : Int) then
            if gt (st a0_3 ((gt (a0_6.take (IntKind.i64.wrap ((a0_6.length : Int) - 1)).toNat) (IntKind.i64.wrap (((a0_6.take (IntKind.i64.wrap ((a0_6.length : Int) - 1)).toNat).length : Int) - 1))).node) (if gt a0_3 a1 < gt a0_3 ((gt (a0_6.take (IntKind.i64.wrap ((a0_6.length : Int) - 1)).toNat) (IntKind.i64.wrap (((a0_6.take (IntKind.i64.wrap ((a0_6.length : Int) - 1)).toNat).length : Int) - 1))).node) then gt a0_3 a1 else gt a0_3 ((gt (a0_6.take (IntKind.i64.wrap ((a0_6.length : Int) - 1)).toNat) (IntKind.i64.wrap (((a0_6.take (IntKind.i64.wrap ((a0_6.length : Int) - 1)).toNat).length : Int) - 1))).node))) a1 < gt a0_2 a1 then
              some ((st a0_3 ((gt (a0_6.take (IntKind.i64.wrap ((a0_6.length : Int) - 1)).toNat) (IntKind.i64.wrap (((a0_6.take (IntKind.i64.wrap ((a0_6.length : Int) - 1)).toNat).length : Int) - 1))).node) (if gt a0_3 a1 < gt a0_3 ((gt (a0_6.take (IntKind.i64.wrap ((a0_6.length : Int) - 1)).toNat) (IntKind.i64.wrap (((a0_6.take (IntKind.i64.wrap ((a0_6.length : Int) - 1)).toNat).length : Int) - 1))).node) then gt a0_3 a1 else gt a0_3 ((gt (a0_6.take (IntKind.i64.wrap ((a0_6.length : Int) - 1)).toNat) (IntKind.i64.wrap (((a0_6.take (IntKind.i64.wrap ((a0_6.length : Int) - 1)).toNat).length : Int) - 1))).node))), (a0_6.take (IntKind.i64.wrap ((a0_6.length : Int) - 1)).toNat), a0_4, a0_5, a0_8_c0_0)
            else
              (slices_Index_int_int.f a0_5 a1).bind fun t477 =>
                if (0 : Int) ≤ t477 ∧ t477 ≤ (a0_5.length : Int) then
                  (slices_Clone_int_int.f (a0_5.drop t477.toNat)).bind fun t484 =>
                    jn (cycles_walk_leave_v2.l0 a0_4 t484 a0_4 0) (fun (x1293 : List Bool) =>
                      (slices_Sort_int_int.f t484).bind fun t1305 =>
                        (cycles_parts_1.f t1305 a0_8_c0_0).bind fun t1308 =>
                          some ((st a0_3 ((gt (a0_6.take (IntKind.i64.wrap ((a0_6.length : Int) - 1)).toNat) (IntKind.i64.wrap (((a0_6.take (IntKind.i64.wrap ((a0_6.length : Int) - 1)).toNat).length : Int) - 1))).node) (if gt a0_3 a1 < gt a0_3 ((gt (a0_6.take (IntKind.i64.wrap ((a0_6.length : Int) - 1)).toNat) (IntKind.i64.wrap (((a0_6.take (IntKind.i64.wrap ((a0_6.length : Int) - 1)).toNat).length : Int) - 1))).node) then gt a0_3 a1 else gt a0_3 ((gt (a0_6.take (IntKind.i64.wrap ((a0_6.length : Int) - 1)).toNat) (IntKind.i64.wrap (((a0_6.take (IntKind.i64.wrap ((a0_6.length : Int) - 1)).toNat).length : Int) - 1))).node))), (a0_6.take (IntKind.i64.wrap ((a0_6.length : Int) - 1)).toNat), x1293, (a0_5.take t477.toNat), t1308))
                else none
          else none
        else none
      else none
    else none
  else
    if (0 : Int) ≤ a1 ∧ a1 < (a0_3.length : Int) then
      if (0 : Int) ≤ a1 ∧ a1 < (a0_2.length : Int) then
        if gt a0_3 a1 < gt a0_2 a1 then
          some (a0_3, (a0_6.take (IntKind.i64.wrap ((a0_6.length : Int) - 1)).toNat), a0_4, a0_5, a0_8_c0_0)
        else
          (slices_Index_int_int.f a0_5 a1).bind fun t1325 =>
            if (0 : Int) ≤ t1325 ∧ t1325 ≤ (a0_5.length : Int) then
              (slices_Clone_int_int.f (a0_5.drop t1325.toNat)).bind fun t1332 =>
                jn (cycles_walk_leave_v2.l1 a0_4 t1332 a0_4 0) (fun (x2141 : List Bool) =>
                  (slices_Sort_int_int.f t1332).bind fun t2153 =>
                    (cycles_parts_1.f t2153 a0_8_c0_0).bind fun t2156 =>
                      some (a0_3, (a0_6.take (IntKind.i64.wrap ((a0_6.length : Int) - 1)).toNat), x2141, (a0_5.take t1325.toNat), t2156))
            else none
      else none
    else none
  else none
theorem cycles_walk_leave_v2.callee : Callee Go.Proofs.Try.prog 69 := ⟨_, Go.Proofs.Try.func69, by kernel_rfl, by kernel_rfl⟩
set_option maxRecDepth 100000 in
set_option maxHeartbeats 2000000 in
theorem cycles_walk_leave_v2.spec (R : Res) (Fr : List HProp) (b0 : Nat) (A0_0 : Option Addr) (n0_0 : Nat) (c0_0 : Nat) (b0_1_c0 : Nat) (b0_1_c0_0_c0 : Nat) (A0_1_c0_0_c0_0 : Option Addr) (n0_1_c0_0_c0_0 : Nat) (c0_1_c0_0_c0_0 : Nat) (b0_1_c1 : Nat) (A0_2 : Option Addr) (n0_2 : Nat) (c0_2 : Nat) (A0_3 : Option Addr) (n0_3 : Nat) (c0_3 : Nat) (A0_4 : Option Addr) (n0_4 : Nat) (c0_4 : Nat) (A0_5 : Option Addr) (n0_5 : Nat) (c0_5 : Nat) (A0_6 : Option Addr) (n0_6 : Nat) (c0_6 : Nat) (b0_8_c0 : Nat) (A0_8_c0_0 : Option Addr) (n0_8_c0_0 : Nat) (c0_8_c0_0 : Nat) (a0_0 : List (List Int)) (a0_1_c0_0_c0_0 : List Int) (a0_1_c1_0 : Int) (a0_2 : List Int) (a0_3 : List Int) (a0_4 : List Bool) (a0_5 : List Int) (a0_6 : List cycles_stand) (a0_7 : Int) (a0_8_c0_0 : List (List Int)) (a1 : Int) (hr0_0 : RdS ((Fl.int .i64).rep).slice R.heap A0_0 a0_0) (hn0_0 : a0_0.length = n0_0) (hc0_0 : n0_0 ≤ c0_0) (hr0_1_c0_0_c0_0 : RdS (Fl.int .i64).rep R.heap A0_1_c0_0_c0_0 a0_1_c0_0_c0_0) (hn0_1_c0_0_c0_0 : a0_1_c0_0_c0_0.length = n0_1_c0_0_c0_0) (hc0_1_c0_0_c0_0 : n0_1_c0_0_c0_0 ≤ c0_1_c0_0_c0_0) (hn0_2 : a0_2.length = n0_2) (hn0_3 : a0_3.length = n0_3) (hn0_4 : a0_4.length = n0_4) (hn0_5 : a0_5.length = n0_5) (hn0_6 : a0_6.length = n0_6) (hn0_8_c0_0 : a0_8_c0_0.length = n0_8_c0_0) {r : (List Int) × (List cycles_stand) × (List Bool) × (List Int) × (List (List Int))} (hrun : cycles_walk_leave_v2.f a0_0 a0_1_c0_0_c0_0 a0_1_c1_0 a0_2 a0_3 a0_4 a0_5 a0_6 a0_7 a0_8_c0_0 a1 = some r) :
    Spec Go.Proofs.Try.prog 69 [.pointer (some ⟨b0, 0, none⟩), .int .i64 a1] R (pt b0 (.cells [.slice A0_0 n0_0 c0_0, .func (.func 40) #[] #[.pointer (some ⟨b0_1_c0, 0, none⟩), .pointer (some ⟨b0_1_c1, 0, none⟩)], .slice A0_2 n0_2 c0_2, .slice A0_3 n0_3 c0_3, .slice A0_4 n0_4 c0_4, .slice A0_5 n0_5 c0_5, .slice A0_6 n0_6 c0_6, .int .i64 a0_7, .func (.func 55) #[] #[.pointer (some ⟨b0_8_c0, 0, none⟩)]].toArray 86) :: pt b0_1_c0 (.cells [.func (.func 38) #[] #[.pointer (some ⟨b0_1_c0_0_c0, 0, none⟩)]].toArray 62) :: pt b0_1_c0_0_c0 (.cells [.slice A0_1_c0_0_c0_0 n0_1_c0_0_c0_0 c0_1_c0_0_c0_0].toArray 26) :: pt b0_1_c1 (.cells [.int .i64 a0_1_c1_0].toArray 3) :: row (Fl.int .i64) 3 A0_2 n0_2 c0_2 a0_2 :: row (Fl.int .i64) 3 A0_3 n0_3 c0_3 a0_3 :: row Fl.bool 4 A0_4 n0_4 c0_4 a0_4 :: row (Fl.int .i64) 3 A0_5 n0_5 c0_5 a0_5 :: row cycles_stand.fl 99 A0_6 n0_6 c0_6 a0_6 :: pt b0_8_c0 (.cells [.slice A0_8_c0_0 n0_8_c0_0 c0_8_c0_0].toArray 22) :: rows (Fl.int .i64) 3 26 A0_8_c0_0 n0_8_c0_0 c0_8_c0_0 a0_8_c0_0 :: Fr) (fun v l' => ∃ (w255 : Nat) (w258 : Nat) (w260 : Option Addr) (w261 : Nat), v = .tuple #[] ∧ pt b0 (.cells [.slice A0_0 n0_0 c0_0, .func (.func 40) #[] #[.pointer (some ⟨b0_1_c0, 0, none⟩), .pointer (some ⟨b0_1_c1, 0, none⟩)], .slice A0_2 n0_2 c0_2, .slice A0_3 n0_3 c0_3, .slice A0_4 n0_4 c0_4, .slice A0_5 w255 c0_5, .slice A0_6 ((a0_6.take (IntKind.i64.wrap ((n0_6 : Int) - 1)).toNat).length) c0_6, .int .i64 a0_7, .func (.func 55) #[] #[.pointer (some ⟨b0_8_c0, 0, none⟩)]].toArray 86) :: pt b0_1_c0 (.cells [.func (.func 38) #[] #[.pointer (some ⟨b0_1_c0_0_c0, 0, none⟩)]].toArray 62) :: pt b0_1_c0_0_c0 (.cells [.slice A0_1_c0_0_c0_0 n0_1_c0_0_c0_0 c0_1_c0_0_c0_0].toArray 26) :: pt b0_1_c1 (.cells [.int .i64 a0_1_c1_0].toArray 3) :: row (Fl.int .i64) 3 A0_2 n0_2 c0_2 a0_2 :: row (Fl.int .i64) 3 A0_3 n0_3 c0_3 r.1 :: row Fl.bool 4 A0_4 n0_4 c0_4 r.2.2.1 :: row (Fl.int .i64) 3 A0_5 w255 c0_5 r.2.2.2.1 :: row cycles_stand.fl 99 A0_6 ((a0_6.take (IntKind.i64.wrap ((n0_6 : Int) - 1)).toNat).length) c0_6 r.2.1 :: pt b0_8_c0 (.cells [.slice w260 w258 w261].toArray 22) :: rows (Fl.int .i64) 3 26 w260 w258 w261 r.2.2.2.2 :: Fr = l' ∧ r.2.2.2.1.length = w255 ∧ r.2.2.2.2.length = w258) := by
  subst hn0_0
  subst hn0_1_c0_0_c0_0
  subst hn0_2
  subst hn0_3
  subst hn0_4
  subst hn0_5
  subst hn0_6
  subst hn0_8_c0_0
  refine Spec.of Go.Proofs.Try.func69 rfl rfl ?_
  unfold cycles_walk_leave_v2.f at hrun
  have hrun := brun hrun
  refine At.seq ?_
  refine At.held [pt b0_1_c0 (.cells [.func (.func 38) #[] #[.pointer (some ⟨b0_1_c0_0_c0, 0, none⟩)]].toArray 62), pt b0_1_c0_0_c0 (.cells [.slice A0_1_c0_0_c0_0 a0_1_c0_0_c0_0.length c0_1_c0_0_c0_0].toArray 26), pt b0_1_c1 (.cells [.int .i64 a0_1_c1_0].toArray 3), row (Fl.int .i64) 3 A0_2 a0_2.length c0_2 a0_2, row (Fl.int .i64) 3 A0_3 a0_3.length c0_3 a0_3, row Fl.bool 4 A0_4 a0_4.length c0_4 a0_4, row (Fl.int .i64) 3 A0_5 a0_5.length c0_5 a0_5, pt b0_8_c0 (.cells [.slice A0_8_c0_0 a0_8_c0_0.length c0_8_c0_0].toArray 22), rows (Fl.int .i64) 3 26 A0_8_c0_0 a0_8_c0_0.length c0_8_c0_0 a0_8_c0_0] 15 rfl ?_
  refine At.H.pv 0 rfl (by kernel_rfl) (by kernel_rfl) (by kernel_rfl) rfl rfl rfl rfl (.c (.s .z) (.c (.s .z) (.c (.s .z) (.c (.s .z) (.c (.s .z) (.c (.s .z) (.c (.s .z) (.c (.s (.s .z)) (.c (.s (.s .z)) .n))))))))) ?_
  refine At.H.pv 1 rfl (by kernel_rfl) (by kernel_rfl) (by kernel_rfl) rfl rfl rfl rfl (.c (.s .z) (.c (.s .z) (.c (.s .z) (.c (.s .z) (.c (.s .z) (.c (.s .z) (.c (.s .z) (.c (.s (.s .z)) (.c (.s (.s .z)) .n))))))))) ?_
  refine At.H.pv 2 rfl (by kernel_rfl) (by kernel_rfl) (by kernel_rfl) rfl rfl rfl rfl (.c (.s .z) (.c (.s .z) (.c (.s .z) (.c (.s .z) (.c (.s .z) (.c (.s .z) (.c (.s .z) (.c (.s (.s .z)) (.c (.s (.s .z)) .n))))))))) ?_
  refine At.H.pv 3 rfl (by kernel_rfl) (by kernel_rfl) (by kernel_rfl) rfl rfl rfl rfl (.c (.s .z) (.c (.s .z) (.c (.s .z) (.c (.s .z) (.c (.s .z) (.c (.s .z) (.c (.s .z) (.c (.s (.s .z)) (.c (.s (.s .z)) .n))))))))) ?_
  refine At.H.pv 5 rfl (by kernel_rfl) (by kernel_rfl) (by kernel_rfl) rfl rfl rfl rfl (.c (.s .z) (.c (.s .z) (.c (.s .z) (.c (.s .z) (.c (.s .z) (.c (.s .z) (.c (.s .z) (.c (.s (.s .z)) (.c (.s (.s .z)) .n))))))))) ?_
  refine At.H.pv 6 rfl (by kernel_rfl) (by kernel_rfl) (by kernel_rfl) rfl rfl rfl rfl (.c (.s .z) (.c (.s .z) (.c (.s .z) (.c (.s .z) (.c (.s .z) (.c (.s .z) (.c (.s .z) (.c (.s (.s .z)) (.c (.s (.s .z)) .n))))))))) ?_
  refine At.H.pv 7 rfl (by kernel_rfl) (by kernel_rfl) (by kernel_rfl) rfl rfl rfl rfl (.c (.s .z) (.c (.s .z) (.c (.s .z) (.c (.s .z) (.c (.s .z) (.c (.s .z) (.c (.s .z) (.c (.s (.s .z)) (.c (.s (.s .z)) .n))))))))) ?_
  obtain ⟨h464, hrun⟩ := bnone hrun
  refine At.H.joinK (X := Unit) (fun _ => [(0, .pointer (some ⟨b0, 0, none⟩)), (1, .int .i64 a1)]) (fun _ => pt b0 (.cells [.slice A0_0 a0_0.length c0_0, .func (.func 40) #[] #[.pointer (some ⟨b0_1_c0, 0, none⟩), .pointer (some ⟨b0_1_c1, 0, none⟩)], .slice A0_2 a0_2.length c0_2, .slice A0_3 a0_3.length c0_3, .slice A0_4 a0_4.length c0_4, .slice A0_5 a0_5.length c0_5, .slice A0_6 ((a0_6.take (IntKind.i64.wrap ((a0_6.length : Int) - 1)).toNat).length) c0_6, .int .i64 a0_7, .func (.func 55) #[] #[.pointer (some ⟨b0_8_c0, 0, none⟩)]].toArray 86) :: row cycles_stand.fl 99 A0_6 ((a0_6.take (IntKind.i64.wrap ((a0_6.length : Int) - 1)).toNat).length) c0_6 (a0_6.take (IntKind.i64.wrap ((a0_6.length : Int) - 1)).toNat) :: pt b0_1_c0 (.cells [.func (.func 38) #[] #[.pointer (some ⟨b0_1_c0_0_c0, 0, none⟩)]].toArray 62) :: pt b0_1_c0_0_c0 (.cells [.slice A0_1_c0_0_c0_0 a0_1_c0_0_c0_0.length c0_1_c0_0_c0_0].toArray 26) :: pt b0_1_c1 (.cells [.int .i64 a0_1_c1_0].toArray 3) :: row (Fl.int .i64) 3 A0_2 a0_2.length c0_2 a0_2 :: row (Fl.int .i64) 3 A0_3 a0_3.length c0_3 a0_3 :: row Fl.bool 4 A0_4 a0_4.length c0_4 a0_4 :: row (Fl.int .i64) 3 A0_5 a0_5.length c0_5 a0_5 :: pt b0_8_c0 (.cells [.slice A0_8_c0_0 a0_8_c0_0.length c0_8_c0_0].toArray 22) :: rows (Fl.int .i64) 3 26 A0_8_c0_0 a0_8_c0_0.length c0_8_c0_0 a0_8_c0_0 :: Fr) (fun _ => True) ?_ (fun J463 => ?_)
  · rintro _ -
    · refine At.thn ?_
      refine At.seq ?_
      refine At.seq ?_
      refine At.region ?_
      refine At.run 3 rfl ?_
      refine At.y (Y.load rfl rfl .z rfl rfl rfl) rfl rfl rfl ?_
      refine At.run 2 rfl ?_
      refine At.nil ?_
      refine At.thn ?_
      rcases bite hrun with ⟨h465, hrun⟩ | ⟨h465, hrun⟩
      · · refine At.condT rfl (decide_eq_true h465) ?_
          refine At.seq ?_
          refine At.quiet (by kernel_rfl) ?_
          refine At.Quiet.run 3 rfl ?_
          refine At.Quiet.y (Y.load rfl rfl .z rfl rfl rfl) rfl rfl rfl ?_
          refine At.Quiet.run 3 rfl ?_
          refine At.Quiet.y (Y.load rfl rfl .z rfl rfl rfl) rfl rfl rfl ?_
          refine At.Quiet.run 2 rfl ?_
          obtain ⟨h466, hrun⟩ := bnone hrun
          refine At.Quiet.y (Y.ix (.s .z) rfl rfl rfl rfl rfl rfl h466.1 h466.2) rfl rfl rfl ?_
          refine At.Quiet.y (Y.faOwn (.s .z) h466.1 h466.2 rfl rfl rfl rfl rfl rfl) rfl rfl rfl ?_
          refine At.Quiet.y (Y.ld (.s .z) (q := 0) rfl rfl h466.1 h466.2 rfl rfl rfl) rfl rfl rfl ?_
          refine At.Quiet.run 1 rfl ?_
          refine At.Quiet.nil ?_
          refine At.thn ?_
          refine At.still 21 (by kernel_rfl) ?_
          refine At.Still.run 3 rfl ?_
          refine At.Still.y (Y.load rfl rfl .z rfl rfl rfl) rfl rfl rfl ?_
          refine At.Still.run 4 rfl ?_
          refine At.Still.y (Y.load rfl rfl .z rfl rfl rfl) rfl rfl rfl ?_
          refine At.Still.run 1 rfl ?_
          obtain ⟨h467, hrun⟩ := bnone hrun
          refine At.Still.y (Y.ix (.s (.s (.s (.s (.s (.s .z)))))) rfl rfl rfl rfl rfl rfl h467.1 h467.2) rfl rfl rfl ?_
          refine At.Still.y (Y.ld (.s (.s (.s (.s (.s (.s .z)))))) (q := 0) rfl rfl h467.1 h467.2 rfl rfl rfl) rfl rfl rfl ?_
          refine At.Still.run 3 rfl ?_
          refine At.Still.y (Y.load rfl rfl .z rfl rfl rfl) rfl rfl rfl ?_
          refine At.Still.run 1 rfl ?_
          obtain ⟨h468, hrun⟩ := bnone hrun
          refine At.Still.y (Y.ix (.s (.s (.s (.s (.s (.s .z)))))) rfl rfl rfl rfl rfl rfl h468.1 h468.2) rfl rfl rfl ?_
          refine At.Still.y (Y.ld (.s (.s (.s (.s (.s (.s .z)))))) (q := 0) rfl rfl h468.1 h468.2 rfl rfl rfl) rfl rfl rfl ?_
          refine At.Still.run 1 rfl ?_
          refine At.Still.y (Y.ix (.s (.s (.s (.s (.s (.s .z)))))) rfl rfl rfl rfl rfl rfl h467.1 h467.2) rfl rfl rfl ?_
          refine At.Still.nil ?_
          refine At.st rfl (.s (.s (.s (.s (.s (.s .z)))))) (q := 0) (z := (if gt a0_3 a1 < gt a0_3 ((gt (a0_6.take (IntKind.i64.wrap ((a0_6.length : Int) - 1)).toNat) (IntKind.i64.wrap (((a0_6.take (IntKind.i64.wrap ((a0_6.length : Int) - 1)).toNat).length : Int) - 1))).node) then gt a0_3 a1 else gt a0_3 ((gt (a0_6.take (IntKind.i64.wrap ((a0_6.length : Int) - 1)).toNat) (IntKind.i64.wrap (((a0_6.take (IntKind.i64.wrap ((a0_6.length : Int) - 1)).toNat).length : Int) - 1))).node))) rfl rfl rfl h467.1 h467.2 rfl rfl (.c .n) ?_
          refine At.nil ?_
          refine At.thn ?_
          refine At.seq ?_
          refine At.seq ?_
          refine At.quiet (by kernel_rfl) ?_
          refine At.Quiet.run 3 rfl ?_
          refine At.Quiet.y (Y.load rfl rfl (.s .z) rfl rfl rfl) rfl rfl rfl ?_
          refine At.Quiet.run 1 rfl ?_
          refine At.Quiet.y (Y.ix .z rfl rfl rfl rfl rfl rfl h468.1 h468.2) rfl rfl rfl ?_
          refine At.Quiet.y (Y.ld .z (q := 0) rfl rfl h468.1 h468.2 rfl rfl rfl) rfl rfl rfl ?_
          refine At.Quiet.run 3 rfl ?_
          refine At.Quiet.y (Y.load rfl rfl (.s .z) rfl rfl rfl) rfl rfl rfl ?_
          refine At.Quiet.run 1 rfl ?_
          obtain ⟨h469, hrun⟩ := bnone hrun
          refine At.Quiet.y (Y.ix (.s (.s (.s (.s (.s (.s .z)))))) rfl rfl rfl rfl rfl rfl h469.1 h469.2) rfl rfl rfl ?_
          refine At.Quiet.y (Y.ld (.s (.s (.s (.s (.s (.s .z)))))) (q := 0) rfl rfl h469.1 h469.2 rfl rfl rfl) rfl rfl rfl ?_
          refine At.Quiet.run 1 rfl ?_
          refine At.Quiet.nil ?_
          refine At.thn ?_
          rcases bite hrun with ⟨h470, hrun⟩ | ⟨h470, hrun⟩
          · · refine At.condT rfl (decide_eq_true h470) ?_
              refine At.ret ?_
              refine At.thr ?_
              refine At.frt (.s (.s (.s (.s (.s (.s (.s (.s (.s (.s .z)))))))))) ?_
              refine At.frt (.s (.s (.s (.s (.s (.s (.s (.s (.s (.s .z)))))))))) ?_
              refine At.frt (.s (.s (.s (.s .z)))) ?_
              refine At.frt (.s (.s (.s (.s (.s (.s (.s (.s (.s (.s .z)))))))))) ?_
              refine At.frt (.s (.s (.s (.s (.s (.s (.s (.s (.s (.s .z)))))))))) ?_
              refine At.frt (.s (.s (.s (.s (.s .z))))) ?_
              refine At.frt (.s (.s (.s (.s (.s (.s (.s (.s (.s (.s .z)))))))))) ?_
              refine At.frt (.s (.s (.s (.s (.s (.s (.s (.s (.s (.s .z)))))))))) ?_
              refine At.frt (.s (.s (.s (.s (.s (.s (.s (.s (.s (.s .z)))))))))) ?_
              refine At.frt (.s (.s (.s (.s (.s (.s (.s (.s (.s (.s .z)))))))))) ?_
              refine At.frt (.s (.s (.s (.s (.s (.s (.s (.s (.s (.s .z)))))))))) ?_
              obtain rfl := (bret hrun).symm
              exact At.res (.inl rfl) rfl rfl ⟨a0_5.length, a0_8_c0_0.length, A0_8_c0_0, c0_8_c0_0, rfl, rfl, rfl, rfl⟩
          · · refine At.condF rfl (decide_eq_false h470) ?_
              refine At.skip ?_
              refine At.thn ?_
              refine At.seq ?_
              refine At.region ?_
              refine At.run 3 rfl ?_
              refine At.y (Y.load rfl rfl (.s .z) rfl rfl rfl) rfl rfl rfl ?_
              refine At.run 1 rfl ?_
              refine At.freeze (.s (.s (.s (.s (.s (.s (.s (.s .z)))))))) fun R471 hr472 hn473 hc474 hs475 th476 => ?_
              obtain ⟨t477, hc478, hrun⟩ := bbind hrun
              refine At.call rfl slices_Index_int_int.callee rfl rfl rfl (slices_Index_int_int.spec _ _ A0_5 a0_5.length c0_5 a0_5 a1 hr472 hn473 hc474 hc478) ?_
              rintro _ _ ⟨rfl, rfl⟩
              refine At.run 1 rfl ?_
              refine At.nil ?_
              refine At.thn ?_
              refine At.seq ?_
              refine At.region ?_
              refine At.run 3 rfl ?_
              refine At.y (Y.load rfl rfl (.s .z) rfl rfl rfl) rfl rfl rfl ?_
              refine At.run 1 rfl ?_
              obtain ⟨h479, hrun⟩ := bnone hrun
              obtain ⟨A480, hr481, hc482, hy483⟩ := Y.slFromAt (P := Go.Proofs.Try.prog) (R := R471) hn473 hr472 hc474 h479.1 h479.2
              refine At.y (hy483 rfl rfl rfl rfl rfl rfl) rfl rfl rfl ?_
              obtain ⟨t484, hc485, hrun⟩ := bbind hrun
              refine At.call rfl slices_Clone_int_int.callee rfl rfl rfl (slices_Clone_int_int.spec _ _ A480 ((a0_5.drop t477.toNat).length) (c0_5 - t477.toNat) (a0_5.drop t477.toNat) hr481 rfl hc482 hc485) ?_
              rintro _ _ ⟨w486, w487, rfl, rfl⟩
              refine At.run 1 rfl ?_
              refine At.nil ?_
              refine At.thn ?_
              refine At.seq ?_
              refine At.region ?_
              refine At.run 4 rfl ?_
              refine At.y (Y.load rfl rfl (.s (.s .z)) rfl rfl rfl) rfl rfl rfl ?_
              refine At.run 1 rfl ?_
              refine At.thaw th476 ?_
              refine At.cut rfl .z rfl rfl rfl rfl rfl h479.1 h479.2 rfl ?_
              refine At.run 2 rfl ?_
              refine At.store rfl rfl rfl rfl (.s (.s (.s .z))) rfl rfl rfl (.s (.s (.s (.s (.s (.c .n)))))) ?_
              refine At.nil ?_
              refine At.thn ?_
              refine At.seq ?_
              refine At.seq ?_
              refine At.region ?_
              refine At.run 3 rfl ?_
              refine At.nil ?_
              refine At.thn ?_
              refine At.block ?_
              obtain ⟨G1294, hl1295, hr1296, hrun⟩ := bjoin hrun
              obtain ⟨o1297, hlo1298, ho1299⟩ := bsome hrun
              clear hrun
              unfold cycles_walk_leave_v2.l0 at hlo1298
              obtain ⟨m1300, hit1302⟩ := iter_some.1 hlo1298
              clear hlo1298
              refine At.loopJ (X := (List Bool) × Int) (Y := (List Bool)) (e0 := 0) (fun s_ => [(0, .pointer (some ⟨b0, 0, none⟩)), (6, .slice w486 t484.length w487), (100, .slice w486 t484.length w487), (101, .int .i64 (t484.length : Int)), (102, .int .i64 s_.2)]) (fun s_ => pt b0 (.cells [.slice A0_0 a0_0.length c0_0, .func (.func 40) #[] #[.pointer (some ⟨b0_1_c0, 0, none⟩), .pointer (some ⟨b0_1_c1, 0, none⟩)], .slice A0_2 a0_2.length c0_2, .slice A0_3 a0_3.length c0_3, .slice A0_4 a0_4.length c0_4, .slice A0_5 ((a0_5.take t477.toNat).length) c0_5, .slice A0_6 ((a0_6.take (IntKind.i64.wrap ((a0_6.length : Int) - 1)).toNat).length) c0_6, .int .i64 a0_7, .func (.func 55) #[] #[.pointer (some ⟨b0_8_c0, 0, none⟩)]].toArray 86) :: row (Fl.int .i64) 3 A0_5 ((a0_5.take t477.toNat).length) c0_5 (a0_5.take t477.toNat) :: row (Fl.int .i64) 3 w486 t484.length w487 t484 :: row (Fl.int .i64) 3 A0_3 a0_3.length c0_3 (st a0_3 ((gt (a0_6.take (IntKind.i64.wrap ((a0_6.length : Int) - 1)).toNat) (IntKind.i64.wrap (((a0_6.take (IntKind.i64.wrap ((a0_6.length : Int) - 1)).toNat).length : Int) - 1))).node) (if gt a0_3 a1 < gt a0_3 ((gt (a0_6.take (IntKind.i64.wrap ((a0_6.length : Int) - 1)).toNat) (IntKind.i64.wrap (((a0_6.take (IntKind.i64.wrap ((a0_6.length : Int) - 1)).toNat).length : Int) - 1))).node) then gt a0_3 a1 else gt a0_3 ((gt (a0_6.take (IntKind.i64.wrap ((a0_6.length : Int) - 1)).toNat) (IntKind.i64.wrap (((a0_6.take (IntKind.i64.wrap ((a0_6.length : Int) - 1)).toNat).length : Int) - 1))).node))) :: row cycles_stand.fl 99 A0_6 ((a0_6.take (IntKind.i64.wrap ((a0_6.length : Int) - 1)).toNat).length) c0_6 (a0_6.take (IntKind.i64.wrap ((a0_6.length : Int) - 1)).toNat) :: pt b0_1_c0 (.cells [.func (.func 38) #[] #[.pointer (some ⟨b0_1_c0_0_c0, 0, none⟩)]].toArray 62) :: pt b0_1_c0_0_c0 (.cells [.slice A0_1_c0_0_c0_0 a0_1_c0_0_c0_0.length c0_1_c0_0_c0_0].toArray 26) :: pt b0_1_c1 (.cells [.int .i64 a0_1_c1_0].toArray 3) :: row (Fl.int .i64) 3 A0_2 a0_2.length c0_2 a0_2 :: row Fl.bool 4 A0_4 a0_4.length c0_4 s_.1 :: pt b0_8_c0 (.cells [.slice A0_8_c0_0 a0_8_c0_0.length c0_8_c0_0].toArray 22) :: rows (Fl.int .i64) 3 26 A0_8_c0_0 a0_8_c0_0.length c0_8_c0_0 a0_8_c0_0 :: Fr) (fun m_ => fun s_ => iterN (fun t_ : (List Bool) × Int => cycles_walk_leave_v2.l0b a0_4 t484 t_.1 t_.2) m_ (s_.1, s_.2) = some o1297) m1300 (a0_4, 0) hit1302 (fun x1293 => [(0, .pointer (some ⟨b0, 0, none⟩)), (6, .slice w486 t484.length w487)]) (fun x1293 => pt b0 (.cells [.slice A0_0 a0_0.length c0_0, .func (.func 40) #[] #[.pointer (some ⟨b0_1_c0, 0, none⟩), .pointer (some ⟨b0_1_c1, 0, none⟩)], .slice A0_2 a0_2.length c0_2, .slice A0_3 a0_3.length c0_3, .slice A0_4 a0_4.length c0_4, .slice A0_5 ((a0_5.take t477.toNat).length) c0_5, .slice A0_6 ((a0_6.take (IntKind.i64.wrap ((a0_6.length : Int) - 1)).toNat).length) c0_6, .int .i64 a0_7, .func (.func 55) #[] #[.pointer (some ⟨b0_8_c0, 0, none⟩)]].toArray 86) :: row (Fl.int .i64) 3 A0_5 ((a0_5.take t477.toNat).length) c0_5 (a0_5.take t477.toNat) :: row (Fl.int .i64) 3 w486 t484.length w487 t484 :: row (Fl.int .i64) 3 A0_3 a0_3.length c0_3 (st a0_3 ((gt (a0_6.take (IntKind.i64.wrap ((a0_6.length : Int) - 1)).toNat) (IntKind.i64.wrap (((a0_6.take (IntKind.i64.wrap ((a0_6.length : Int) - 1)).toNat).length : Int) - 1))).node) (if gt a0_3 a1 < gt a0_3 ((gt (a0_6.take (IntKind.i64.wrap ((a0_6.length : Int) - 1)).toNat) (IntKind.i64.wrap (((a0_6.take (IntKind.i64.wrap ((a0_6.length : Int) - 1)).toNat).length : Int) - 1))).node) then gt a0_3 a1 else gt a0_3 ((gt (a0_6.take (IntKind.i64.wrap ((a0_6.length : Int) - 1)).toNat) (IntKind.i64.wrap (((a0_6.take (IntKind.i64.wrap ((a0_6.length : Int) - 1)).toNat).length : Int) - 1))).node))) :: row cycles_stand.fl 99 A0_6 ((a0_6.take (IntKind.i64.wrap ((a0_6.length : Int) - 1)).toNat).length) c0_6 (a0_6.take (IntKind.i64.wrap ((a0_6.length : Int) - 1)).toNat) :: pt b0_1_c0 (.cells [.func (.func 38) #[] #[.pointer (some ⟨b0_1_c0_0_c0, 0, none⟩)]].toArray 62) :: pt b0_1_c0_0_c0 (.cells [.slice A0_1_c0_0_c0_0 a0_1_c0_0_c0_0.length c0_1_c0_0_c0_0].toArray 26) :: pt b0_1_c1 (.cells [.int .i64 a0_1_c1_0].toArray 3) :: row (Fl.int .i64) 3 A0_2 a0_2.length c0_2 a0_2 :: row Fl.bool 4 A0_4 a0_4.length c0_4 x1293 :: pt b0_8_c0 (.cells [.slice A0_8_c0_0 a0_8_c0_0.length c0_8_c0_0].toArray 22) :: rows (Fl.int .i64) 3 26 A0_8_c0_0 a0_8_c0_0.length c0_8_c0_0 a0_8_c0_0 :: Fr) (fun x1293 => G1294 (.inl x1293) = some r) (fun a w e hs => ⟨e.sub ⟨rfl, rfl, rfl, rfl, rfl, trivial⟩, hs⟩) ?_ (fun J1304 => ?_)
              · rintro x1293 hrun
                have hrun := (hl1295 _).symm.trans hrun
                · refine At.ibx ?_
                  refine At.thn ?_
                  refine At.seq ?_
                  refine At.region ?_
                  refine At.run 1 rfl ?_
                  refine At.frt (.s (.s .z)) ?_
                  obtain ⟨t1305, hc1306, hrun⟩ := bbind hrun
                  refine At.call rfl slices_Sort_int_int.callee rfl rfl rfl (slices_Sort_int_int.spec _ _ w486 t484.length w487 t484 rfl hc1306) ?_
                  rintro _ _ ⟨rfl, rfl⟩
                  refine At.nil ?_
                  refine At.thn ?_
                  refine At.region ?_
                  refine At.run 3 rfl ?_
                  refine At.y (Y.load rfl rfl (.s .z) rfl rfl rfl) rfl rfl rfl ?_
                  refine At.run 1 rfl ?_
                  refine At.rowLen .z fun hn1307 => ?_
                  refine At.frt (.s (.s (.s (.s (.s (.s (.s (.s (.s (.s (.s .z))))))))))) ?_
                  refine At.frt (.s (.s (.s (.s (.s (.s (.s (.s (.s (.s (.s .z))))))))))) ?_
                  refine At.frt (.s (.s .z)) ?_
                  obtain ⟨t1308, hc1309, hrun⟩ := bbind hrun
                  refine At.call rfl cycles_parts_1.callee rfl rfl rfl (cycles_parts_1.spec _ _ w486 t484.length w487 b0_8_c0 A0_8_c0_0 a0_8_c0_0.length c0_8_c0_0 t1305 a0_8_c0_0 hn1307 rfl hc1309) ?_
                  rintro _ _ ⟨w1310, w1311, rfl, rfl⟩
                  refine At.nil ?_
                  refine At.rowsLen (.s .z) fun hn1312 _ => ?_
                  refine At.frt (.s .z) ?_
                  refine At.frt (.s .z) ?_
                  refine At.frt (.s (.s (.s (.s (.s .z))))) ?_
                  refine At.frt (.s (.s (.s (.s .z)))) ?_
                  refine At.frt (.s (.s (.s (.s (.s (.s (.s (.s (.s (.s .z)))))))))) ?_
                  refine At.frt (.s (.s (.s (.s (.s (.s .z)))))) ?_
                  refine At.frt (.s (.s (.s (.s (.s (.s (.s (.s (.s (.s .z)))))))))) ?_
                  refine At.frt (.s (.s (.s (.s (.s (.s (.s (.s (.s (.s .z)))))))))) ?_
                  refine At.frt (.s (.s (.s (.s (.s (.s (.s (.s (.s (.s .z)))))))))) ?_
                  refine At.frt (.s (.s (.s (.s (.s (.s (.s (.s (.s (.s .z)))))))))) ?_
                  refine At.frt (.s (.s (.s (.s (.s (.s (.s (.s (.s (.s .z)))))))))) ?_
                  obtain rfl := (bret hrun).symm
                  exact At.res (.inr rfl) rfl rfl ⟨(a0_5.take t477.toNat).length, (a0_8_c0_0 ++ [t1305]).length, w1310, w1311, rfl, rfl, rfl, hn1312⟩
              · clear hit1302 m1300
                rintro m1300 ⟨x1091, x1092⟩ hit1302
                obtain ⟨m1301, f_, hlt1303, hf_, hrun⟩ := bit hit1302
                clear hit1302
                have hrun : (cycles_walk_leave_v2.l0b a0_4 t484 x1091 x1092).bind _ = some o1297 := hrun
                unfold cycles_walk_leave_v2.l0b at hrun
                · refine At.seq ?_
                  refine At.region ?_
                  refine At.run 1 rfl ?_
                  refine At.nil ?_
                  refine At.thn ?_
                  refine At.seq ?_
                  rcases bite hrun with ⟨h1313, hrun⟩ | ⟨h1313, hrun⟩
                  · · refine At.condT rfl (decide_eq_true h1313) ?_
                      refine At.skip ?_
                      refine At.thn ?_
                      refine At.seq ?_
                      refine At.block ?_
                      refine At.seq ?_
                      refine At.region ?_
                      obtain ⟨h1314, hrun⟩ := bnone hrun
                      refine At.y (Y.ix (.s (.s .z)) rfl rfl rfl rfl rfl rfl h1314.1 h1314.2) rfl rfl rfl ?_
                      refine At.y (Y.ld (.s (.s .z)) (q := 0) rfl rfl h1314.1 h1314.2 rfl rfl rfl) rfl rfl rfl ?_
                      refine At.run 1 rfl ?_
                      refine At.nil ?_
                      refine At.thn ?_
                      refine At.region ?_
                      refine At.run 3 rfl ?_
                      refine At.y (Y.load rfl rfl .z rfl rfl rfl) rfl rfl rfl ?_
                      refine At.run 1 rfl ?_
                      obtain ⟨h1315, hrun⟩ := bnone hrun
                      refine At.y (Y.ix (.s (.s (.s (.s (.s (.s (.s (.s (.s .z))))))))) rfl rfl rfl rfl rfl rfl h1315.1 h1315.2) rfl rfl rfl ?_
                      refine At.st rfl (.s (.s (.s (.s (.s (.s (.s (.s (.s .z))))))))) (q := 0) (z := false) rfl rfl rfl h1315.1 h1315.2 rfl rfl (.c .n) ?_
                      refine At.nil ?_
                      refine At.ibn ?_
                      refine At.thn ?_
                      refine At.region ?_
                      refine At.run 2 rfl ?_
                      refine At.nil ?_
                      refine At.frt (.s (.s (.s (.s (.s (.s (.s (.s (.s (.s (.s .z))))))))))) ?_
                      refine At.frt (.s (.s (.s (.s (.s (.s (.s (.s (.s (.s (.s .z))))))))))) ?_
                      refine At.frt (.s (.s .z)) ?_
                      refine At.frt (.s (.s (.s (.s (.s (.s (.s (.s (.s (.s (.s .z))))))))))) ?_
                      refine At.frt (.s (.s (.s (.s (.s (.s (.s (.s (.s (.s (.s .z))))))))))) ?_
                      refine At.frt (.s (.s (.s (.s (.s (.s (.s (.s (.s (.s (.s .z))))))))))) ?_
                      refine At.frt (.s (.s (.s (.s (.s (.s (.s (.s (.s (.s (.s .z))))))))))) ?_
                      refine At.frt (.s (.s (.s (.s (.s (.s (.s (.s (.s (.s (.s .z))))))))))) ?_
                      refine At.frt (.s (.s (.s (.s (.s (.s (.s (.s (.s (.s (.s .z))))))))))) ?_
                      refine At.frt (.s (.s (.s (.s (.s (.s (.s (.s (.s (.s (.s .z))))))))))) ?_
                      refine At.frt (.s (.s (.s (.s (.s (.s (.s (.s (.s (.s (.s .z))))))))))) ?_
                      refine At.frt (.s (.s (.s (.s (.s (.s (.s (.s (.s (.s (.s .z))))))))))) ?_
                      have hrun := bnx hf_ hrun
                      exact fun a w e hs => ⟨m1301, ((st x1091 (gt t484 x1092) false), IntKind.i64.wrap (x1092 + 1)), hlt1303, hrun, e.sub ⟨rfl, rfl, rfl, rfl, rfl, trivial⟩, hs⟩
                  · · refine At.condF rfl (decide_eq_false h1313) ?_
                      refine At.exit ?_
                      refine At.the ?_
                      refine At.the ?_
                      exact fun a w e hs => J1304 x1091 (bdn hrun ho1299) a w (e.sub ⟨rfl, rfl, trivial⟩) hs
      · · refine At.condF rfl (decide_eq_false h465) ?_
          refine At.skip ?_
          refine At.thn ?_
          refine At.seq ?_
          refine At.seq ?_
          refine At.quiet (by kernel_rfl) ?_
          refine At.Quiet.run 3 rfl ?_
          refine At.Quiet.y (Y.load rfl rfl .z rfl rfl rfl) rfl rfl rfl ?_
          refine At.Quiet.run 1 rfl ?_
          obtain ⟨h1316, hrun⟩ := bnone hrun
          refine At.Quiet.y (Y.ix (.s (.s (.s (.s (.s (.s .z)))))) rfl rfl rfl rfl rfl rfl h1316.1 h1316.2) rfl rfl rfl ?_
          refine At.Quiet.y (Y.ld (.s (.s (.s (.s (.s (.s .z)))))) (q := 0) rfl rfl h1316.1 h1316.2 rfl rfl rfl) rfl rfl rfl ?_
          refine At.Quiet.run 3 rfl ?_
          refine At.Quiet.y (Y.load rfl rfl .z rfl rfl rfl) rfl rfl rfl ?_
          refine At.Quiet.run 1 rfl ?_
          obtain ⟨h1317, hrun⟩ := bnone hrun
          refine At.Quiet.y (Y.ix (.s (.s (.s (.s (.s .z))))) rfl rfl rfl rfl rfl rfl h1317.1 h1317.2) rfl rfl rfl ?_
          refine At.Quiet.y (Y.ld (.s (.s (.s (.s (.s .z))))) (q := 0) rfl rfl h1317.1 h1317.2 rfl rfl rfl) rfl rfl rfl ?_
          refine At.Quiet.run 1 rfl ?_
          refine At.Quiet.nil ?_
          refine At.thn ?_
          rcases bite hrun with ⟨h1318, hrun⟩ | ⟨h1318, hrun⟩
          · · refine At.condT rfl (decide_eq_true h1318) ?_
              refine At.ret ?_
              refine At.thr ?_
              refine At.frt (.s (.s (.s (.s (.s (.s (.s (.s (.s (.s .z)))))))))) ?_
              refine At.frt (.s (.s (.s (.s (.s (.s (.s (.s (.s (.s .z)))))))))) ?_
              refine At.frt (.s (.s (.s .z))) ?_
              refine At.frt (.s (.s (.s (.s (.s (.s (.s (.s (.s (.s .z)))))))))) ?_
              refine At.frt (.s (.s (.s (.s (.s (.s (.s (.s (.s (.s .z)))))))))) ?_
              refine At.frt (.s (.s (.s (.s (.s (.s (.s (.s (.s (.s .z)))))))))) ?_
              refine At.frt (.s (.s (.s (.s (.s (.s (.s (.s (.s (.s .z)))))))))) ?_
              refine At.frt (.s (.s (.s (.s (.s (.s (.s (.s (.s (.s .z)))))))))) ?_
              refine At.frt (.s (.s (.s (.s (.s (.s (.s (.s (.s (.s .z)))))))))) ?_
              refine At.frt (.s (.s (.s (.s (.s (.s (.s (.s (.s (.s .z)))))))))) ?_
              refine At.frt (.s (.s (.s (.s (.s (.s (.s (.s (.s (.s .z)))))))))) ?_
              obtain rfl := (bret hrun).symm
              exact At.res (.inl rfl) rfl rfl ⟨a0_5.length, a0_8_c0_0.length, A0_8_c0_0, c0_8_c0_0, rfl, rfl, rfl, rfl⟩
          · · refine At.condF rfl (decide_eq_false h1318) ?_
              refine At.skip ?_
              refine At.thn ?_
              refine At.seq ?_
              refine At.region ?_
              refine At.run 3 rfl ?_
              refine At.y (Y.load rfl rfl .z rfl rfl rfl) rfl rfl rfl ?_
              refine At.run 1 rfl ?_
              refine At.freeze (.s (.s (.s (.s (.s (.s (.s (.s .z)))))))) fun R1319 hr1320 hn1321 hc1322 hs1323 th1324 => ?_
              obtain ⟨t1325, hc1326, hrun⟩ := bbind hrun
              refine At.call rfl slices_Index_int_int.callee rfl rfl rfl (slices_Index_int_int.spec _ _ A0_5 a0_5.length c0_5 a0_5 a1 hr1320 hn1321 hc1322 hc1326) ?_
              rintro _ _ ⟨rfl, rfl⟩
              refine At.run 1 rfl ?_
              refine At.nil ?_
              refine At.thn ?_
              refine At.seq ?_
              refine At.region ?_
              refine At.run 3 rfl ?_
              refine At.y (Y.load rfl rfl .z rfl rfl rfl) rfl rfl rfl ?_
              refine At.run 1 rfl ?_
              obtain ⟨h1327, hrun⟩ := bnone hrun
              obtain ⟨A1328, hr1329, hc1330, hy1331⟩ := Y.slFromAt (P := Go.Proofs.Try.prog) (R := R1319) hn1321 hr1320 hc1322 h1327.1 h1327.2
              refine At.y (hy1331 rfl rfl rfl rfl rfl rfl) rfl rfl rfl ?_
              obtain ⟨t1332, hc1333, hrun⟩ := bbind hrun
              refine At.call rfl slices_Clone_int_int.callee rfl rfl rfl (slices_Clone_int_int.spec _ _ A1328 ((a0_5.drop t1325.toNat).length) (c0_5 - t1325.toNat) (a0_5.drop t1325.toNat) hr1329 rfl hc1330 hc1333) ?_
              rintro _ _ ⟨w1334, w1335, rfl, rfl⟩
              refine At.run 1 rfl ?_
              refine At.nil ?_
              refine At.thn ?_
              refine At.seq ?_
              refine At.region ?_
              refine At.run 4 rfl ?_
              refine At.y (Y.load rfl rfl (.s .z) rfl rfl rfl) rfl rfl rfl ?_
              refine At.run 1 rfl ?_
              refine At.thaw th1324 ?_
              refine At.cut rfl .z rfl rfl rfl rfl rfl h1327.1 h1327.2 rfl ?_
              refine At.run 2 rfl ?_
              refine At.store rfl rfl rfl rfl (.s (.s .z)) rfl rfl rfl (.s (.s (.s (.s (.s (.c .n)))))) ?_
              refine At.nil ?_
              refine At.thn ?_
              refine At.seq ?_
              refine At.seq ?_
              refine At.region ?_
              refine At.run 3 rfl ?_
              refine At.nil ?_
              refine At.thn ?_
              refine At.block ?_
              obtain ⟨G2142, hl2143, hr2144, hrun⟩ := bjoin hrun
              obtain ⟨o2145, hlo2146, ho2147⟩ := bsome hrun
              clear hrun
              unfold cycles_walk_leave_v2.l1 at hlo2146
              obtain ⟨m2148, hit2150⟩ := iter_some.1 hlo2146
              clear hlo2146
              refine At.loopJ (X := (List Bool) × Int) (Y := (List Bool)) (e0 := 0) (fun s_ => [(0, .pointer (some ⟨b0, 0, none⟩)), (6, .slice w1334 t1332.length w1335), (100, .slice w1334 t1332.length w1335), (101, .int .i64 (t1332.length : Int)), (102, .int .i64 s_.2)]) (fun s_ => pt b0 (.cells [.slice A0_0 a0_0.length c0_0, .func (.func 40) #[] #[.pointer (some ⟨b0_1_c0, 0, none⟩), .pointer (some ⟨b0_1_c1, 0, none⟩)], .slice A0_2 a0_2.length c0_2, .slice A0_3 a0_3.length c0_3, .slice A0_4 a0_4.length c0_4, .slice A0_5 ((a0_5.take t1325.toNat).length) c0_5, .slice A0_6 ((a0_6.take (IntKind.i64.wrap ((a0_6.length : Int) - 1)).toNat).length) c0_6, .int .i64 a0_7, .func (.func 55) #[] #[.pointer (some ⟨b0_8_c0, 0, none⟩)]].toArray 86) :: row (Fl.int .i64) 3 A0_5 ((a0_5.take t1325.toNat).length) c0_5 (a0_5.take t1325.toNat) :: row (Fl.int .i64) 3 w1334 t1332.length w1335 t1332 :: row cycles_stand.fl 99 A0_6 ((a0_6.take (IntKind.i64.wrap ((a0_6.length : Int) - 1)).toNat).length) c0_6 (a0_6.take (IntKind.i64.wrap ((a0_6.length : Int) - 1)).toNat) :: pt b0_1_c0 (.cells [.func (.func 38) #[] #[.pointer (some ⟨b0_1_c0_0_c0, 0, none⟩)]].toArray 62) :: pt b0_1_c0_0_c0 (.cells [.slice A0_1_c0_0_c0_0 a0_1_c0_0_c0_0.length c0_1_c0_0_c0_0].toArray 26) :: pt b0_1_c1 (.cells [.int .i64 a0_1_c1_0].toArray 3) :: row (Fl.int .i64) 3 A0_2 a0_2.length c0_2 a0_2 :: row (Fl.int .i64) 3 A0_3 a0_3.length c0_3 a0_3 :: row Fl.bool 4 A0_4 a0_4.length c0_4 s_.1 :: pt b0_8_c0 (.cells [.slice A0_8_c0_0 a0_8_c0_0.length c0_8_c0_0].toArray 22) :: rows (Fl.int .i64) 3 26 A0_8_c0_0 a0_8_c0_0.length c0_8_c0_0 a0_8_c0_0 :: Fr) (fun m_ => fun s_ => iterN (fun t_ : (List Bool) × Int => cycles_walk_leave_v2.l1b a0_4 t1332 t_.1 t_.2) m_ (s_.1, s_.2) = some o2145) m2148 (a0_4, 0) hit2150 (fun x2141 => [(0, .pointer (some ⟨b0, 0, none⟩)), (6, .slice w1334 t1332.length w1335)]) (fun x2141 => pt b0 (.cells [.slice A0_0 a0_0.length c0_0, .func (.func 40) #[] #[.pointer (some ⟨b0_1_c0, 0, none⟩), .pointer (some ⟨b0_1_c1, 0, none⟩)], .slice A0_2 a0_2.length c0_2, .slice A0_3 a0_3.length c0_3, .slice A0_4 a0_4.length c0_4, .slice A0_5 ((a0_5.take t1325.toNat).length) c0_5, .slice A0_6 ((a0_6.take (IntKind.i64.wrap ((a0_6.length : Int) - 1)).toNat).length) c0_6, .int .i64 a0_7, .func (.func 55) #[] #[.pointer (some ⟨b0_8_c0, 0, none⟩)]].toArray 86) :: row (Fl.int .i64) 3 A0_5 ((a0_5.take t1325.toNat).length) c0_5 (a0_5.take t1325.toNat) :: row (Fl.int .i64) 3 w1334 t1332.length w1335 t1332 :: row cycles_stand.fl 99 A0_6 ((a0_6.take (IntKind.i64.wrap ((a0_6.length : Int) - 1)).toNat).length) c0_6 (a0_6.take (IntKind.i64.wrap ((a0_6.length : Int) - 1)).toNat) :: pt b0_1_c0 (.cells [.func (.func 38) #[] #[.pointer (some ⟨b0_1_c0_0_c0, 0, none⟩)]].toArray 62) :: pt b0_1_c0_0_c0 (.cells [.slice A0_1_c0_0_c0_0 a0_1_c0_0_c0_0.length c0_1_c0_0_c0_0].toArray 26) :: pt b0_1_c1 (.cells [.int .i64 a0_1_c1_0].toArray 3) :: row (Fl.int .i64) 3 A0_2 a0_2.length c0_2 a0_2 :: row (Fl.int .i64) 3 A0_3 a0_3.length c0_3 a0_3 :: row Fl.bool 4 A0_4 a0_4.length c0_4 x2141 :: pt b0_8_c0 (.cells [.slice A0_8_c0_0 a0_8_c0_0.length c0_8_c0_0].toArray 22) :: rows (Fl.int .i64) 3 26 A0_8_c0_0 a0_8_c0_0.length c0_8_c0_0 a0_8_c0_0 :: Fr) (fun x2141 => G2142 (.inl x2141) = some r) (fun a w e hs => ⟨e.sub ⟨rfl, rfl, rfl, rfl, rfl, trivial⟩, hs⟩) ?_ (fun J2152 => ?_)
              · rintro x2141 hrun
                have hrun := (hl2143 _).symm.trans hrun
                · refine At.ibx ?_
                  refine At.thn ?_
                  refine At.seq ?_
                  refine At.region ?_
                  refine At.run 1 rfl ?_
                  refine At.frt (.s (.s .z)) ?_
                  obtain ⟨t2153, hc2154, hrun⟩ := bbind hrun
                  refine At.call rfl slices_Sort_int_int.callee rfl rfl rfl (slices_Sort_int_int.spec _ _ w1334 t1332.length w1335 t1332 rfl hc2154) ?_
                  rintro _ _ ⟨rfl, rfl⟩
                  refine At.nil ?_
                  refine At.thn ?_
                  refine At.region ?_
                  refine At.run 3 rfl ?_
                  refine At.y (Y.load rfl rfl (.s .z) rfl rfl rfl) rfl rfl rfl ?_
                  refine At.run 1 rfl ?_
                  refine At.rowLen .z fun hn2155 => ?_
                  refine At.frt (.s (.s (.s (.s (.s (.s (.s (.s (.s (.s (.s .z))))))))))) ?_
                  refine At.frt (.s (.s (.s (.s (.s (.s (.s (.s (.s (.s (.s .z))))))))))) ?_
                  refine At.frt (.s (.s .z)) ?_
                  obtain ⟨t2156, hc2157, hrun⟩ := bbind hrun
                  refine At.call rfl cycles_parts_1.callee rfl rfl rfl (cycles_parts_1.spec _ _ w1334 t1332.length w1335 b0_8_c0 A0_8_c0_0 a0_8_c0_0.length c0_8_c0_0 t2153 a0_8_c0_0 hn2155 rfl hc2157) ?_
                  rintro _ _ ⟨w2158, w2159, rfl, rfl⟩
                  refine At.nil ?_
                  refine At.rowsLen (.s .z) fun hn2160 _ => ?_
                  refine At.frt (.s .z) ?_
                  refine At.frt (.s .z) ?_
                  refine At.frt (.s (.s (.s (.s .z)))) ?_
                  refine At.frt (.s (.s (.s (.s .z)))) ?_
                  refine At.frt (.s (.s (.s (.s (.s (.s (.s (.s (.s (.s .z)))))))))) ?_
                  refine At.frt (.s (.s (.s (.s (.s (.s (.s (.s (.s (.s .z)))))))))) ?_
                  refine At.frt (.s (.s (.s (.s (.s (.s (.s (.s (.s (.s .z)))))))))) ?_
                  refine At.frt (.s (.s (.s (.s (.s (.s (.s (.s (.s (.s .z)))))))))) ?_
                  refine At.frt (.s (.s (.s (.s (.s (.s (.s (.s (.s (.s .z)))))))))) ?_
                  refine At.frt (.s (.s (.s (.s (.s (.s (.s (.s (.s (.s .z)))))))))) ?_
                  refine At.frt (.s (.s (.s (.s (.s (.s (.s (.s (.s (.s .z)))))))))) ?_
                  obtain rfl := (bret hrun).symm
                  exact At.res (.inr rfl) rfl rfl ⟨(a0_5.take t1325.toNat).length, (a0_8_c0_0 ++ [t2153]).length, w2158, w2159, rfl, rfl, rfl, hn2160⟩
              · clear hit2150 m2148
                rintro m2148 ⟨x1939, x1940⟩ hit2150
                obtain ⟨m2149, f_, hlt2151, hf_, hrun⟩ := bit hit2150
                clear hit2150
                have hrun : (cycles_walk_leave_v2.l1b a0_4 t1332 x1939 x1940).bind _ = some o2145 := hrun
                unfold cycles_walk_leave_v2.l1b at hrun
                · refine At.seq ?_
                  refine At.region ?_
                  refine At.run 1 rfl ?_
                  refine At.nil ?_
                  refine At.thn ?_
                  refine At.seq ?_
                  rcases bite hrun with ⟨h2161, hrun⟩ | ⟨h2161, hrun⟩
                  · · refine At.condT rfl (decide_eq_true h2161) ?_
                      refine At.skip ?_
                      refine At.thn ?_
                      refine At.seq ?_
                      refine At.block ?_
                      refine At.seq ?_
                      refine At.region ?_
                      obtain ⟨h2162, hrun⟩ := bnone hrun
                      refine At.y (Y.ix (.s (.s .z)) rfl rfl rfl rfl rfl rfl h2162.1 h2162.2) rfl rfl rfl ?_
                      refine At.y (Y.ld (.s (.s .z)) (q := 0) rfl rfl h2162.1 h2162.2 rfl rfl rfl) rfl rfl rfl ?_
                      refine At.run 1 rfl ?_
                      refine At.nil ?_
                      refine At.thn ?_
                      refine At.region ?_
                      refine At.run 3 rfl ?_
                      refine At.y (Y.load rfl rfl .z rfl rfl rfl) rfl rfl rfl ?_
                      refine At.run 1 rfl ?_
                      obtain ⟨h2163, hrun⟩ := bnone hrun
                      refine At.y (Y.ix (.s (.s (.s (.s (.s (.s (.s (.s (.s .z))))))))) rfl rfl rfl rfl rfl rfl h2163.1 h2163.2) rfl rfl rfl ?_
                      refine At.st rfl (.s (.s (.s (.s (.s (.s (.s (.s (.s .z))))))))) (q := 0) (z := false) rfl rfl rfl h2163.1 h2163.2 rfl rfl (.c .n) ?_
                      refine At.nil ?_
                      refine At.ibn ?_
                      refine At.thn ?_
                      refine At.region ?_
                      refine At.run 2 rfl ?_
                      refine At.nil ?_
                      refine At.frt (.s (.s (.s (.s (.s (.s (.s (.s (.s (.s (.s .z))))))))))) ?_
                      refine At.frt (.s (.s (.s (.s (.s (.s (.s (.s (.s (.s (.s .z))))))))))) ?_
                      refine At.frt (.s (.s .z)) ?_
                      refine At.frt (.s (.s (.s (.s (.s (.s (.s (.s (.s (.s (.s .z))))))))))) ?_
                      refine At.frt (.s (.s (.s (.s (.s (.s (.s (.s (.s (.s (.s .z))))))))))) ?_
                      refine At.frt (.s (.s (.s (.s (.s (.s (.s (.s (.s (.s (.s .z))))))))))) ?_
                      refine At.frt (.s (.s (.s (.s (.s (.s (.s (.s (.s (.s (.s .z))))))))))) ?_
                      refine At.frt (.s (.s (.s (.s (.s (.s (.s (.s (.s (.s (.s .z))))))))))) ?_
                      refine At.frt (.s (.s (.s (.s (.s (.s (.s (.s (.s (.s (.s .z))))))))))) ?_
                      refine At.frt (.s (.s (.s (.s (.s (.s (.s (.s (.s (.s (.s .z))))))))))) ?_
                      refine At.frt (.s (.s (.s (.s (.s (.s (.s (.s (.s (.s (.s .z))))))))))) ?_
                      refine At.frt (.s (.s (.s (.s (.s (.s (.s (.s (.s (.s (.s .z))))))))))) ?_
                      have hrun := bnx hf_ hrun
                      exact fun a w e hs => ⟨m2149, ((st x1939 (gt t1332 x1940) false), IntKind.i64.wrap (x1940 + 1)), hlt2151, hrun, e.sub ⟨rfl, rfl, rfl, rfl, rfl, trivial⟩, hs⟩
                  · · refine At.condF rfl (decide_eq_false h2161) ?_
                      refine At.exit ?_
                      refine At.the ?_
                      refine At.the ?_
                      exact fun a w e hs => J2152 x1939 (bdn hrun ho2147) a w (e.sub ⟨rfl, rfl, trivial⟩) hs
  · refine At.H.all [4, 8] (by kernel_rfl) rfl (all_cons ?_ (all_cons ?_ all_nil))
    · · refine At.HO.op rfl ?_
        refine At.y (Y.load rfl rfl .z rfl rfl rfl) rfl rfl rfl ?_
        refine At.HO.back (.c (.s .z) (.c (.s .z) (.c (.s .z) (.c (.s .z) (.c (.s .z) (.c (.s .z) (.c (.s .z) (.c (.s (.s .z)) (.c (.s (.s .z)) .n))))))))) ?_
        refine At.H.all [8] (by kernel_rfl) rfl (all_cons ?_ all_nil)
        · · refine At.HO.op rfl ?_
            refine At.y (Y.load rfl rfl .z rfl rfl rfl) rfl rfl rfl ?_
            refine At.HO.back (.c (.s .z) (.c (.s .z) (.c (.s .z) (.c (.s .z) (.c (.s .z) (.c (.s .z) (.c (.s .z) (.c (.s (.s .z)) (.c (.s (.s .z)) .n))))))))) ?_
            refine At.H.pv 9 rfl (by kernel_rfl) (by kernel_rfl) (by kernel_rfl) rfl rfl rfl rfl (.c (.s .z) (.c (.s .z) (.c (.s .z) (.c (.s .z) (.c (.s .z) (.c (.s .z) (.c (.s .z) (.c (.s (.s .z)) (.c (.s (.s .z)) .n))))))))) ?_
            refine At.H.pv 10 rfl (by kernel_rfl) (by kernel_rfl) (by kernel_rfl) rfl rfl rfl rfl (.c (.s .z) (.c (.s .z) (.c (.s .z) (.c (.s .z) (.c (.s .z) (.c (.s .z) (.c (.s .z) (.c (.s (.s .z)) (.c (.s (.s .z)) .n))))))))) ?_
            refine At.H.all [11] (by kernel_rfl) rfl (all_cons ?_ all_nil)
            · · refine At.HO.op rfl ?_
                refine At.cut rfl (.s (.s (.s (.s (.s (.s (.s (.s .z)))))))) rfl rfl rfl rfl rfl h464.1 h464.2 rfl ?_
                refine At.HO.back (.c (.s (.s .z)) (.c (.s (.s .z)) (.c (.s (.s .z)) (.c (.s (.s .z)) (.c (.s (.s .z)) (.c (.s (.s .z)) (.c (.s (.s .z)) (.c (.s (.s .z)) (.c (.s (.s .z)) .n))))))))) ?_
                refine At.H.pv 12 rfl (by kernel_rfl) (by kernel_rfl) (by kernel_rfl) rfl rfl rfl rfl (.c (.s (.s .z)) (.c (.s (.s .z)) (.c (.s (.s .z)) (.c (.s (.s .z)) (.c (.s (.s .z)) (.c (.s (.s .z)) (.c (.s (.s .z)) (.c (.s (.s .z)) (.c (.s (.s .z)) .n))))))))) ?_
                refine At.H.pv 13 rfl (by kernel_rfl) (by kernel_rfl) (by kernel_rfl) rfl rfl rfl rfl (.c (.s (.s .z)) (.c (.s (.s .z)) (.c (.s (.s .z)) (.c (.s (.s .z)) (.c (.s (.s .z)) (.c (.s (.s .z)) (.c (.s (.s .z)) (.c (.s (.s .z)) (.c (.s (.s .z)) .n))))))))) ?_
                refine At.H.all [14] (by kernel_rfl) rfl (all_cons ?_ all_nil)
                · · refine At.HO.op rfl ?_
                    refine At.store rfl rfl rfl rfl (.s .z) rfl rfl rfl (.s (.s (.s (.s (.s (.s (.c .n))))))) ?_
                    refine At.HO.back (.c (.s (.s .z)) (.c (.s (.s .z)) (.c (.s (.s .z)) (.c (.s (.s .z)) (.c (.s (.s .z)) (.c (.s (.s .z)) (.c (.s (.s .z)) (.c (.s (.s .z)) (.c (.s (.s .z)) .n))))))))) ?_
                    refine At.H.done (by kernel_rfl) ?_
                    exact At.of (J463 () trivial) ⟨rfl, rfl, trivial⟩
    · · refine At.HO.op rfl ?_
        refine At.y (Y.load rfl rfl .z rfl rfl rfl) rfl rfl rfl ?_
        refine At.HO.back (.c (.s .z) (.c (.s .z) (.c (.s .z) (.c (.s .z) (.c (.s .z) (.c (.s .z) (.c (.s .z) (.c (.s (.s .z)) (.c (.s (.s .z)) .n))))))))) ?_
        refine At.H.pv 9 rfl (by kernel_rfl) (by kernel_rfl) (by kernel_rfl) rfl rfl rfl rfl (.c (.s .z) (.c (.s .z) (.c (.s .z) (.c (.s .z) (.c (.s .z) (.c (.s .z) (.c (.s .z) (.c (.s (.s .z)) (.c (.s (.s .z)) .n))))))))) ?_
        refine At.H.pv 10 rfl (by kernel_rfl) (by kernel_rfl) (by kernel_rfl) rfl rfl rfl rfl (.c (.s .z) (.c (.s .z) (.c (.s .z) (.c (.s .z) (.c (.s .z) (.c (.s .z) (.c (.s .z) (.c (.s (.s .z)) (.c (.s (.s .z)) .n))))))))) ?_
        refine At.H.all [4] (by kernel_rfl) rfl (all_cons ?_ all_nil)
        · · refine At.HO.op rfl ?_
            refine At.y (Y.load rfl rfl .z rfl rfl rfl) rfl rfl rfl ?_
            refine At.HO.back (.c (.s .z) (.c (.s .z) (.c (.s .z) (.c (.s .z) (.c (.s .z) (.c (.s .z) (.c (.s .z) (.c (.s (.s .z)) (.c (.s (.s .z)) .n))))))))) ?_
            refine At.H.all [11] (by kernel_rfl) rfl (all_cons ?_ all_nil)
            · · refine At.HO.op rfl ?_
                refine At.cut rfl (.s (.s (.s (.s (.s (.s (.s (.s .z)))))))) rfl rfl rfl rfl rfl h464.1 h464.2 rfl ?_
                refine At.HO.back (.c (.s (.s .z)) (.c (.s (.s .z)) (.c (.s (.s .z)) (.c (.s (.s .z)) (.c (.s (.s .z)) (.c (.s (.s .z)) (.c (.s (.s .z)) (.c (.s (.s .z)) (.c (.s (.s .z)) .n))))))))) ?_
                refine At.H.pv 12 rfl (by kernel_rfl) (by kernel_rfl) (by kernel_rfl) rfl rfl rfl rfl (.c (.s (.s .z)) (.c (.s (.s .z)) (.c (.s (.s .z)) (.c (.s (.s .z)) (.c (.s (.s .z)) (.c (.s (.s .z)) (.c (.s (.s .z)) (.c (.s (.s .z)) (.c (.s (.s .z)) .n))))))))) ?_
                refine At.H.pv 13 rfl (by kernel_rfl) (by kernel_rfl) (by kernel_rfl) rfl rfl rfl rfl (.c (.s (.s .z)) (.c (.s (.s .z)) (.c (.s (.s .z)) (.c (.s (.s .z)) (.c (.s (.s .z)) (.c (.s (.s .z)) (.c (.s (.s .z)) (.c (.s (.s .z)) (.c (.s (.s .z)) .n))))))))) ?_
                refine At.H.all [14] (by kernel_rfl) rfl (all_cons ?_ all_nil)
                · · refine At.HO.op rfl ?_
                    refine At.store rfl rfl rfl rfl (.s .z) rfl rfl rfl (.s (.s (.s (.s (.s (.s (.c .n))))))) ?_
                    refine At.HO.back (.c (.s (.s .z)) (.c (.s (.s .z)) (.c (.s (.s .z)) (.c (.s (.s .z)) (.c (.s (.s .z)) (.c (.s (.s .z)) (.c (.s (.s .z)) (.c (.s (.s .z)) (.c (.s (.s .z)) .n))))))))) ?_
                    refine At.H.done (by kernel_rfl) ?_
                    exact At.of (J463 () trivial) ⟨rfl, rfl, trivial⟩

end Go.Bw
