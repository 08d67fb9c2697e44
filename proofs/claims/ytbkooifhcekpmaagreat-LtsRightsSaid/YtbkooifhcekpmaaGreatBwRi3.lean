/- Walks: what the functions of the program compute, told by plain functions, and that the calls come to them. Conditions: none. -/
import Derived.Test.YtbkooifhcekpmaaGreatBwTyx
import Derived.Test.YtbkooifhcekpmaaGreatProg
import Derived.Test.YtbkooifhcekpmaaGreatBwRi3A
import Derived.Test.YtbkooifhcekpmaaGreatBwStr
import Derived.Test.YtbkooifhcekpmaaGreatBwAgg
set_option linter.unusedVariables false
set_option linter.unusedSimpArgs false
set_option linter.unusedSectionVars false
namespace Go.Bw
open Go Go.RowKit
noncomputable def bailiffref03_Same.l3b (a0_3 : List api_Prop) (a1_3 : List api_Prop) (x3099 : Int) (x4137 : Int) : Option ((Int) ⊕ ((Unit) ⊕ ((Int) ⊕ ((Unit) ⊕ (Bool))))) :=
 if x4137 < ((gt a0_3 x3099).States.length : Int) then
 if (0 : Int) ≤ x4137 ∧ x4137 < ((gt a0_3 x3099).States.length : Int) then
 if (0 : Int) ≤ x4137 ∧ x4137 < ((gt a1_3 x3099).States.length : Int) then
 if gt ((gt a0_3 x3099).States) x4137 = gt ((gt a1_3 x3099).States) x4137 then
 nx (IntKind.i64.wrap (x4137 + 1))
 else
 upL (upL (some false))
 else none
 else none
 else
 dn (.inl ())
noncomputable def bailiffref03_Same.l3 (a0_3 : List api_Prop) (a1_3 : List api_Prop) (x3099 : Int) (x4137 : Int) : Option ((Unit) ⊕ ((Int) ⊕ ((Unit) ⊕ (Bool)))) := iter (fun t_ : Int => bailiffref03_Same.l3b a0_3 a1_3 x3099 t_) x4137
noncomputable def bailiffref03_Same.l2b (a0_3 : List api_Prop) (a1_3 : List api_Prop) (x3099 : Int) : Option ((Int) ⊕ ((Unit) ⊕ (Bool))) :=
 if x3099 < (a0_3.length : Int) then
 if (0 : Int) ≤ x3099 ∧ x3099 < (a0_3.length : Int) then
 if (0 : Int) ≤ x3099 ∧ x3099 < (a1_3.length : Int) then
 jn (
 if bseq ((gt a0_3 x3099).Name) ((gt a1_3 x3099).Name) = true then
 some (.inl (!(decide (((gt a0_3 x3099).States.length : Int) = ((gt a1_3 x3099).States.length : Int)))))
 else
 some (.inl true)) (fun (x3530 : Bool) =>
 if x3530 = true then
 upL (some false)
 else
 jn (bailiffref03_Same.l3 a0_3 a1_3 x3099 0) (fun (_ : Unit) =>
 nx (IntKind.i64.wrap (x3099 + 1))))
 else none
 else none
 else
 dn (.inl ())
noncomputable def bailiffref03_Same.l2 (a0_3 : List api_Prop) (a1_3 : List api_Prop) (x3099 : Int) : Option ((Unit) ⊕ (Bool)) := iter (fun t_ : Int => bailiffref03_Same.l2b a0_3 a1_3 t_) x3099
noncomputable def bailiffref03_Same.l1b (a0_2 : List api_Edge) (a1_2 : List api_Edge) (x2286 : Int) : Option ((Int) ⊕ ((Unit) ⊕ (Bool))) :=
 if x2286 < (a0_2.length : Int) then
 if (0 : Int) ≤ x2286 ∧ x2286 < (a0_2.length : Int) then
 if (0 : Int) ≤ x2286 ∧ x2286 < (a1_2.length : Int) then
 if (decide ((gt a0_2 x2286).From = (gt a1_2 x2286).From) && (decide ((gt a0_2 x2286).Action = (gt a1_2 x2286).Action) && (decide ((gt a0_2 x2286).To = (gt a1_2 x2286).To) && true))) = true then
 nx (IntKind.i64.wrap (x2286 + 1))
 else
 upL (some false)
 else none
 else none
 else
 dn (.inl ())
noncomputable def bailiffref03_Same.l1 (a0_2 : List api_Edge) (a1_2 : List api_Edge) (x2286 : Int) : Option ((Unit) ⊕ (Bool)) := iter (fun t_ : Int => bailiffref03_Same.l1b a0_2 a1_2 t_) x2286
noncomputable def bailiffref03_Same.l0b (a0_1 : List Bs) (a1_1 : List Bs) (x1473 : Int) : Option ((Int) ⊕ ((Unit) ⊕ (Bool))) :=
 if x1473 < (a0_1.length : Int) then
 if (0 : Int) ≤ x1473 ∧ x1473 < (a0_1.length : Int) then
 if (0 : Int) ≤ x1473 ∧ x1473 < (a1_1.length : Int) then
 if bseq (gt a0_1 x1473) (gt a1_1 x1473) = true then
 nx (IntKind.i64.wrap (x1473 + 1))
 else
 upL (some false)
 else none
 else none
 else
 dn (.inl ())
noncomputable def bailiffref03_Same.l0 (a0_1 : List Bs) (a1_1 : List Bs) (x1473 : Int) : Option ((Unit) ⊕ (Bool)) := iter (fun t_ : Int => bailiffref03_Same.l0b a0_1 a1_1 t_) x1473
noncomputable def bailiffref03_Same.f (a0_0 : Int) (a0_1 : List Bs) (a0_2 : List api_Edge) (a0_3 : List api_Prop) (a1_0 : Int) (a1_1 : List Bs) (a1_2 : List api_Edge) (a1_3 : List api_Prop) : Option Bool :=
 jn (
 if a0_0 = a1_0 then
 some (.inl (!(decide ((a0_1.length : Int) = (a1_1.length : Int)))))
 else
 some (.inl true)) (fun (x456 : Bool) =>
 jn (
 if x456 = true then
 some (.inl true)
 else
 some (.inl (!(decide ((a0_2.length : Int) = (a1_2.length : Int)))))) (fun (x661 : Bool) =>
 jn (
 if x661 = true then
 some (.inl true)
 else
 some (.inl (!(decide ((a0_3.length : Int) = (a1_3.length : Int)))))) (fun (x866 : Bool) =>
 if x866 = true then
 some false
 else
 jn (bailiffref03_Same.l0 a0_1 a1_1 0) (fun (_ : Unit) =>
 jn (bailiffref03_Same.l1 a0_2 a1_2 0) (fun (_ : Unit) =>
 jn (bailiffref03_Same.l2 a0_3 a1_3 0) (fun (_ : Unit) =>
 some true))))))
theorem bailiffref03_Same.callee : Callee Go.Proofs.Tryz.prog 34 := ⟨_, Go.Proofs.Tryz.func34, by kernel_rfl, by kernel_rfl⟩
set_option maxRecDepth 100000 in
set_option maxHeartbeats 2000000 in
theorem bailiffref03_Same.spec (R : Res) (Fr : List HProp) (A0_1 : Option Addr) (n0_1 : Nat) (c0_1 : Nat) (A0_2 : Option Addr) (n0_2 : Nat) (c0_2 : Nat) (A0_3 : Option Addr) (n0_3 : Nat) (c0_3 : Nat) (A1_1 : Option Addr) (n1_1 : Nat) (c1_1 : Nat) (A1_2 : Option Addr) (n1_2 : Nat) (c1_2 : Nat) (A1_3 : Option Addr) (n1_3 : Nat) (c1_3 : Nat) (a0_0 : Int) (a0_1 : List Bs) (a0_2 : List api_Edge) (a0_3 : List api_Prop) (a1_0 : Int) (a1_1 : List Bs) (a1_2 : List api_Edge) (a1_3 : List api_Prop) (hr0_1 : RdS Fl.bs.rep R.heap A0_1 a0_1) (hn0_1 : a0_1.length = n0_1) (hc0_1 : n0_1 ≤ c0_1) (hr0_2 : RdS api_Edge.fl.rep R.heap A0_2 a0_2) (hn0_2 : a0_2.length = n0_2) (hc0_2 : n0_2 ≤ c0_2) (hr0_3 : RdS api_Prop.rep R.heap A0_3 a0_3) (hn0_3 : a0_3.length = n0_3) (hc0_3 : n0_3 ≤ c0_3) (hr1_1 : RdS Fl.bs.rep R.heap A1_1 a1_1) (hn1_1 : a1_1.length = n1_1) (hc1_1 : n1_1 ≤ c1_1) (hr1_2 : RdS api_Edge.fl.rep R.heap A1_2 a1_2) (hn1_2 : a1_2.length = n1_2) (hc1_2 : n1_2 ≤ c1_2) (hr1_3 : RdS api_Prop.rep R.heap A1_3 a1_3) (hn1_3 : a1_3.length = n1_3) (hc1_3 : n1_3 ≤ c1_3) {r : Bool} (hrun : bailiffref03_Same.f a0_0 a0_1 a0_2 a0_3 a1_0 a1_1 a1_2 a1_3 = some r) :
    Spec Go.Proofs.Tryz.prog 34 [.agg #[.int .i64 a0_0, .slice A0_1 n0_1 c0_1, .slice A0_2 n0_2 c0_2, .slice A0_3 n0_3 c0_3], .agg #[.int .i64 a1_0, .slice A1_1 n1_1 c1_1, .slice A1_2 n1_2 c1_2, .slice A1_3 n1_3 c1_3]] R (Fr) (fun v l' => v = .bool r ∧ Fr = l') := by
  subst hn0_1; subst hn0_2; subst hn0_3; subst hn1_1; subst hn1_2; subst hn1_3; refine Spec.of Go.Proofs.Tryz.func34 rfl rfl ?_; unfold bailiffref03_Same.f at hrun; have hrun := brun hrun; refine At.seq ?_; refine At.region ?_; refine At.box rfl rfl (cs := [.int .i64 a0_0, .slice A0_1 a0_1.length c0_1, .slice A0_2 a0_2.length c0_2, .slice A0_3 a0_3.length c0_3]) rfl rfl (fun b254 => ?_); refine At.box rfl rfl (cs := [.int .i64 a1_0, .slice A1_1 a1_1.length c1_1, .slice A1_2 a1_2.length c1_2, .slice A1_3 a1_3.length c1_3]) rfl rfl (fun b255 => ?_); refine At.run 1 rfl ?_; refine At.nil ?_; refine At.thn ?_; refine At.seq ?_; refine At.seq ?_; refine At.region ?_; refine At.run 1 rfl ?_; refine At.y (Y.load rfl rfl (.s .z) rfl rfl rfl) rfl rfl rfl ?_; refine At.run 1 rfl ?_; refine At.y (Y.load rfl rfl .z rfl rfl rfl) rfl rfl rfl ?_; refine At.run 2 rfl ?_; obtain ⟨G457, hl458, hr459, hrun⟩ := bjoin hrun; refine At.joinO 8 (X := Bool) (fun x456 => [(2, .pointer (some ⟨b254, 0, none⟩)), (3, .pointer (some ⟨b255, 0, none⟩)), (24, .bool x456)]) (fun x456 => pt b255 (.cells [.int .i64 a1_0, .slice A1_1 a1_1.length c1_1, .slice A1_2 a1_2.length c1_2, .slice A1_3 a1_3.length c1_3].toArray 26) :: pt b254 (.cells [.int .i64 a0_0, .slice A0_1 a0_1.length c0_1, .slice A0_2 a0_2.length c0_2, .slice A0_3 a0_3.length c0_3].toArray 26) :: Fr) (fun x456 => G457 (.inl x456) = some r) ?_ (fun J460 => ?_)
  · rintro x456 hrun; have hrun := (hl458 _).symm.trans hrun
    · refine At.run 1 rfl ?_; obtain ⟨G662, hl663, hr664, hrun⟩ := bjoin hrun; refine At.joinO 8 (X := Bool) (fun x661 => [(2, .pointer (some ⟨b254, 0, none⟩)), (3, .pointer (some ⟨b255, 0, none⟩)), (33, .bool x661)]) (fun x661 => pt b255 (.cells [.int .i64 a1_0, .slice A1_1 a1_1.length c1_1, .slice A1_2 a1_2.length c1_2, .slice A1_3 a1_3.length c1_3].toArray 26) :: pt b254 (.cells [.int .i64 a0_0, .slice A0_1 a0_1.length c0_1, .slice A0_2 a0_2.length c0_2, .slice A0_3 a0_3.length c0_3].toArray 26) :: Fr) (fun x661 => G662 (.inl x661) = some r) ?_ (fun J665 => ?_)
      · rintro x661 hrun; have hrun := (hl663 _).symm.trans hrun
        · refine At.run 1 rfl ?_; obtain ⟨G867, hl868, hr869, hrun⟩ := bjoin hrun; refine At.joinO 8 (X := Bool) (fun x866 => [(2, .pointer (some ⟨b254, 0, none⟩)), (3, .pointer (some ⟨b255, 0, none⟩)), (42, .bool x866)]) (fun x866 => pt b255 (.cells [.int .i64 a1_0, .slice A1_1 a1_1.length c1_1, .slice A1_2 a1_2.length c1_2, .slice A1_3 a1_3.length c1_3].toArray 26) :: pt b254 (.cells [.int .i64 a0_0, .slice A0_1 a0_1.length c0_1, .slice A0_2 a0_2.length c0_2, .slice A0_3 a0_3.length c0_3].toArray 26) :: Fr) (fun x866 => G867 (.inl x866) = some r) ?_ (fun J870 => ?_)
          · rintro x866 hrun; have hrun := (hl868 _).symm.trans hrun
            · refine At.nil ?_; refine At.thn ?_; rcases bite hrun with ⟨h871, hrun⟩ | ⟨h871, hrun⟩
              · · refine At.condT rfl h871 ?_
                  refine At.seq ?_; refine At.region ?_; refine At.run 1 rfl ?_; refine At.nil ?_; refine At.thn ?_; refine At.ret ?_; refine At.thr ?_; refine At.drop .z ?_; refine At.drop .z ?_; obtain rfl := (bret hrun).symm; exact At.res (.inl rfl) rfl rfl ⟨rfl, rfl⟩
              · · refine At.condF rfl (bn h871) ?_
                  refine At.skip ?_; refine At.thn ?_; refine At.seq ?_; refine At.seq ?_; refine At.region ?_; refine At.run 1 rfl ?_; refine At.nil ?_; refine At.thn ?_; refine At.block ?_; obtain ⟨G1674, hl1675, hr1676, hrun⟩ := bjoin hrun; obtain ⟨o1677, hlo1678, ho1679⟩ := bsome hrun; clear hrun; unfold bailiffref03_Same.l0 at hlo1678; obtain ⟨m1680, hit1682⟩ := iter_some.1 hlo1678; clear hlo1678; refine At.loopJ (X := Int) (Y := Unit) (e0 := 0) (fun x1473 => [(2, .pointer (some ⟨b254, 0, none⟩)), (3, .pointer (some ⟨b255, 0, none⟩)), (5, .int .i64 x1473)]) (fun x1473 => pt b255 (.cells [.int .i64 a1_0, .slice A1_1 a1_1.length c1_1, .slice A1_2 a1_2.length c1_2, .slice A1_3 a1_3.length c1_3].toArray 26) :: pt b254 (.cells [.int .i64 a0_0, .slice A0_1 a0_1.length c0_1, .slice A0_2 a0_2.length c0_2, .slice A0_3 a0_3.length c0_3].toArray 26) :: Fr) (fun m_ => fun x1473 => iterN (fun t_ : Int => bailiffref03_Same.l0b a0_1 a1_1 t_) m_ x1473 = some o1677) m1680 0 hit1682 (fun _ => [(2, .pointer (some ⟨b254, 0, none⟩)), (3, .pointer (some ⟨b255, 0, none⟩))]) (fun _ => pt b255 (.cells [.int .i64 a1_0, .slice A1_1 a1_1.length c1_1, .slice A1_2 a1_2.length c1_2, .slice A1_3 a1_3.length c1_3].toArray 26) :: pt b254 (.cells [.int .i64 a0_0, .slice A0_1 a0_1.length c0_1, .slice A0_2 a0_2.length c0_2, .slice A0_3 a0_3.length c0_3].toArray 26) :: Fr) (fun _ => G1674 (.inl ()) = some r) (fun a w e hs => ⟨e.sub ⟨rfl, rfl, rfl, trivial⟩, (by exact hs)⟩) ?_ (fun J1684 => ?_)
                  · rintro _ hrun; have hrun := (hl1675 _).symm.trans hrun
                    · refine At.ibx ?_; refine At.thn ?_; refine At.seq ?_; refine At.seq ?_; refine At.region ?_; refine At.run 1 rfl ?_; refine At.nil ?_; refine At.thn ?_; refine At.block ?_; obtain ⟨G2487, hl2488, hr2489, hrun⟩ := bjoin hrun; obtain ⟨o2490, hlo2491, ho2492⟩ := bsome hrun; clear hrun; unfold bailiffref03_Same.l1 at hlo2491; obtain ⟨m2493, hit2495⟩ := iter_some.1 hlo2491; clear hlo2491; refine At.loopJ (X := Int) (Y := Unit) (e0 := 2) (fun x2286 => [(2, .pointer (some ⟨b254, 0, none⟩)), (3, .pointer (some ⟨b255, 0, none⟩)), (6, .int .i64 x2286)]) (fun x2286 => pt b255 (.cells [.int .i64 a1_0, .slice A1_1 a1_1.length c1_1, .slice A1_2 a1_2.length c1_2, .slice A1_3 a1_3.length c1_3].toArray 26) :: pt b254 (.cells [.int .i64 a0_0, .slice A0_1 a0_1.length c0_1, .slice A0_2 a0_2.length c0_2, .slice A0_3 a0_3.length c0_3].toArray 26) :: Fr) (fun m_ => fun x2286 => iterN (fun t_ : Int => bailiffref03_Same.l1b a0_2 a1_2 t_) m_ x2286 = some o2490) m2493 0 hit2495 (fun _ => [(2, .pointer (some ⟨b254, 0, none⟩)), (3, .pointer (some ⟨b255, 0, none⟩))]) (fun _ => pt b255 (.cells [.int .i64 a1_0, .slice A1_1 a1_1.length c1_1, .slice A1_2 a1_2.length c1_2, .slice A1_3 a1_3.length c1_3].toArray 26) :: pt b254 (.cells [.int .i64 a0_0, .slice A0_1 a0_1.length c0_1, .slice A0_2 a0_2.length c0_2, .slice A0_3 a0_3.length c0_3].toArray 26) :: Fr) (fun _ => G2487 (.inl ()) = some r) (fun a w e hs => ⟨e.sub ⟨rfl, rfl, rfl, trivial⟩, (by exact hs)⟩) ?_ (fun J2497 => ?_)
                      · rintro _ hrun; have hrun := (hl2488 _).symm.trans hrun
                        · refine At.ibx ?_; refine At.thn ?_; refine At.seq ?_; refine At.seq ?_; refine At.region ?_; refine At.run 1 rfl ?_; refine At.nil ?_; refine At.thn ?_; refine At.block ?_; obtain ⟨G3300, hl3301, hr3302, hrun⟩ := bjoin hrun; obtain ⟨o3303, hlo3304, ho3305⟩ := bsome hrun; clear hrun; unfold bailiffref03_Same.l2 at hlo3304; obtain ⟨m3306, hit3308⟩ := iter_some.1 hlo3304; clear hlo3304; refine At.loopJ (X := Int) (Y := Unit) (e0 := 4) (fun x3099 => [(2, .pointer (some ⟨b254, 0, none⟩)), (3, .pointer (some ⟨b255, 0, none⟩)), (7, .int .i64 x3099)]) (fun x3099 => pt b255 (.cells [.int .i64 a1_0, .slice A1_1 a1_1.length c1_1, .slice A1_2 a1_2.length c1_2, .slice A1_3 a1_3.length c1_3].toArray 26) :: pt b254 (.cells [.int .i64 a0_0, .slice A0_1 a0_1.length c0_1, .slice A0_2 a0_2.length c0_2, .slice A0_3 a0_3.length c0_3].toArray 26) :: Fr) (fun m_ => fun x3099 => iterN (fun t_ : Int => bailiffref03_Same.l2b a0_3 a1_3 t_) m_ x3099 = some o3303) m3306 0 hit3308 (fun _ => []) (fun _ => pt b255 (.cells [.int .i64 a1_0, .slice A1_1 a1_1.length c1_1, .slice A1_2 a1_2.length c1_2, .slice A1_3 a1_3.length c1_3].toArray 26) :: pt b254 (.cells [.int .i64 a0_0, .slice A0_1 a0_1.length c0_1, .slice A0_2 a0_2.length c0_2, .slice A0_3 a0_3.length c0_3].toArray 26) :: Fr) (fun _ => G3300 (.inl ()) = some r) (fun a w e hs => ⟨e.sub ⟨rfl, rfl, rfl, trivial⟩, (by exact hs)⟩) ?_ (fun J3310 => ?_)
                          · rintro _ hrun; have hrun := (hl3301 _).symm.trans hrun
                            · refine At.ibx ?_; refine At.thn ?_; refine At.seq ?_; refine At.region ?_; refine At.run 1 rfl ?_; refine At.nil ?_; refine At.thn ?_; refine At.ret ?_; refine At.drop .z ?_; refine At.drop .z ?_; obtain rfl := (bret hrun).symm; exact At.res (.inl rfl) rfl rfl ⟨rfl, rfl⟩
                          · clear hit3308 m3306; rintro m3306 x3099 hit3308; obtain ⟨m3307, f_, hlt3309, hf_, hrun⟩ := bit hit3308; clear hit3308; have hrun : (bailiffref03_Same.l2b a0_3 a1_3 x3099).bind _ = some o3303 := hrun; unfold bailiffref03_Same.l2b at hrun
                            · refine At.seq ?_; refine At.seq ?_; refine At.region ?_; refine At.run 2 rfl ?_; refine At.y (Y.load rfl rfl (.s .z) rfl rfl rfl) rfl rfl rfl ?_; refine At.run 2 rfl ?_; refine At.nil ?_; refine At.thn ?_; rcases bite hrun with ⟨h3311, hrun⟩ | ⟨h3311, hrun⟩
                              · · refine At.condT rfl (decide_eq_true h3311) ?_
                                  refine At.skip ?_; refine At.thn ?_; refine At.seq ?_; refine At.block ?_; refine At.seq ?_; refine At.region ?_; refine At.run 1 rfl ?_; refine At.y (Y.load rfl rfl (.s .z) rfl rfl rfl) rfl rfl rfl ?_; refine At.run 1 rfl ?_; obtain ⟨h3312, hrun⟩ := bnone hrun; refine At.y (Y.ixRd hr0_3 rfl rfl rfl rfl rfl rfl rfl h3312.1 h3312.2) rfl rfl rfl ?_; obtain ⟨cs3313, hK3314, hy3315⟩ := RdS.whole (P := Go.Proofs.Tryz.prog) hr0_3 (Sub.refl _) rfl h3312.1 h3312.2; obtain ⟨_, _, rfl, rfl, ⟨A3316, c3317, rfl, hc3318, hr3319⟩⟩ := hK3314; refine At.y (hy3315 rfl rfl rfl rfl) rfl rfl rfl ?_; refine At.alloc rfl rfl rfl (fun b3320 => ?_); refine At.store rfl rfl rfl rfl .z rfl rfl rfl (.c (.c .n)) ?_; refine At.nil ?_; refine At.thn ?_; refine At.seq ?_; refine At.region ?_; refine At.run 1 rfl ?_; refine At.y (Y.load rfl rfl (.s .z) rfl rfl rfl) rfl rfl rfl ?_; refine At.run 1 rfl ?_; obtain ⟨h3321, hrun⟩ := bnone hrun; refine At.y (Y.ixRd hr1_3 rfl rfl rfl rfl rfl rfl rfl h3321.1 h3321.2) rfl rfl rfl ?_; obtain ⟨cs3322, hK3323, hy3324⟩ := RdS.whole (P := Go.Proofs.Tryz.prog) hr1_3 (Sub.refl _) rfl h3321.1 h3321.2; obtain ⟨_, _, rfl, rfl, ⟨A3325, c3326, rfl, hc3327, hr3328⟩⟩ := hK3323; refine At.y (hy3324 rfl rfl rfl rfl) rfl rfl rfl ?_; refine At.alloc rfl rfl rfl (fun b3329 => ?_); refine At.store rfl rfl rfl rfl .z rfl rfl rfl (.c (.c .n)) ?_; refine At.nil ?_; refine At.thn ?_; refine At.seq ?_; refine At.seq ?_; refine At.region ?_; refine At.run 1 rfl ?_; refine At.y (Y.load rfl rfl (.s .z) rfl rfl rfl) rfl rfl rfl ?_; refine At.run 1 rfl ?_; refine At.y (Y.load rfl rfl .z rfl rfl rfl) rfl rfl rfl ?_; refine At.run 2 rfl ?_; obtain ⟨G3531, hl3532, hr3533, hrun⟩ := bjoin hrun; refine At.joinO 8 (X := Bool) (fun x3530 => [(2, .pointer (some ⟨b254, 0, none⟩)), (3, .pointer (some ⟨b255, 0, none⟩)), (7, .int .i64 x3099), (8, .pointer (some ⟨b3320, 0, none⟩)), (9, .pointer (some ⟨b3329, 0, none⟩)), (109, .bool x3530)]) (fun x3530 => pt b3329 (.cells [.string ⟨((gt a1_3 x3099).Name).toArray⟩, .slice A3325 ((gt a1_3 x3099).States.length) c3326].toArray 57) :: pt b3320 (.cells [.string ⟨((gt a0_3 x3099).Name).toArray⟩, .slice A3316 ((gt a0_3 x3099).States.length) c3317].toArray 57) :: pt b255 (.cells [.int .i64 a1_0, .slice A1_1 a1_1.length c1_1, .slice A1_2 a1_2.length c1_2, .slice A1_3 a1_3.length c1_3].toArray 26) :: pt b254 (.cells [.int .i64 a0_0, .slice A0_1 a0_1.length c0_1, .slice A0_2 a0_2.length c0_2, .slice A0_3 a0_3.length c0_3].toArray 26) :: Fr) (fun x3530 => G3531 (.inl x3530) = some o3303) ?_ (fun J3534 => ?_)
                                  · rintro x3530 hrun; have hrun := (hl3532 _).symm.trans hrun
                                    · refine At.nil ?_; refine At.thn ?_; rcases bite hrun with ⟨h3535, hrun⟩ | ⟨h3535, hrun⟩
                                      · · refine At.condT rfl h3535 ?_
                                          refine At.seq ?_; refine At.region ?_; refine At.run 1 rfl ?_; refine At.nil ?_; refine At.thn ?_; refine At.ret ?_; refine At.thr ?_; refine At.ibr ?_; refine At.thr ?_; have hrun := bupL hr3302 ho3305 hrun; refine At.thr ?_; refine At.ibr ?_; refine At.thr ?_; refine At.drop .z ?_; refine At.drop .z ?_; refine At.drop .z ?_; refine At.drop .z ?_; obtain rfl := (bret hrun).symm; exact At.res (.inl rfl) rfl rfl ⟨rfl, rfl⟩
                                      · · refine At.condF rfl (bn h3535) ?_
                                          refine At.skip ?_; refine At.thn ?_; refine At.seq ?_; refine At.region ?_; refine At.run 1 rfl ?_; refine At.nil ?_; refine At.thn ?_; refine At.block ?_; obtain ⟨G4338, hl4339, hr4340, hrun⟩ := bjoin hrun; obtain ⟨o4341, hlo4342, ho4343⟩ := bsome hrun; clear hrun; unfold bailiffref03_Same.l3 at hlo4342; obtain ⟨m4344, hit4346⟩ := iter_some.1 hlo4342; clear hlo4342; refine At.loopJ (X := Int) (Y := Unit) (e0 := 6) (fun x4137 => [(2, .pointer (some ⟨b254, 0, none⟩)), (3, .pointer (some ⟨b255, 0, none⟩)), (7, .int .i64 x3099), (8, .pointer (some ⟨b3320, 0, none⟩)), (9, .pointer (some ⟨b3329, 0, none⟩)), (10, .int .i64 x4137)]) (fun x4137 => pt b3329 (.cells [.string ⟨((gt a1_3 x3099).Name).toArray⟩, .slice A3325 ((gt a1_3 x3099).States.length) c3326].toArray 57) :: pt b3320 (.cells [.string ⟨((gt a0_3 x3099).Name).toArray⟩, .slice A3316 ((gt a0_3 x3099).States.length) c3317].toArray 57) :: pt b255 (.cells [.int .i64 a1_0, .slice A1_1 a1_1.length c1_1, .slice A1_2 a1_2.length c1_2, .slice A1_3 a1_3.length c1_3].toArray 26) :: pt b254 (.cells [.int .i64 a0_0, .slice A0_1 a0_1.length c0_1, .slice A0_2 a0_2.length c0_2, .slice A0_3 a0_3.length c0_3].toArray 26) :: Fr) (fun m_ => fun x4137 => iterN (fun t_ : Int => bailiffref03_Same.l3b a0_3 a1_3 x3099 t_) m_ x4137 = some o4341) m4344 0 hit4346 (fun _ => [(2, .pointer (some ⟨b254, 0, none⟩)), (3, .pointer (some ⟨b255, 0, none⟩)), (7, .int .i64 x3099)]) (fun _ => pt b3329 (.cells [.string ⟨((gt a1_3 x3099).Name).toArray⟩, .slice A3325 ((gt a1_3 x3099).States.length) c3326].toArray 57) :: pt b3320 (.cells [.string ⟨((gt a0_3 x3099).Name).toArray⟩, .slice A3316 ((gt a0_3 x3099).States.length) c3317].toArray 57) :: pt b255 (.cells [.int .i64 a1_0, .slice A1_1 a1_1.length c1_1, .slice A1_2 a1_2.length c1_2, .slice A1_3 a1_3.length c1_3].toArray 26) :: pt b254 (.cells [.int .i64 a0_0, .slice A0_1 a0_1.length c0_1, .slice A0_2 a0_2.length c0_2, .slice A0_3 a0_3.length c0_3].toArray 26) :: Fr) (fun _ => G4338 (.inl ()) = some o3303) (fun a w e hs => ⟨e.sub ⟨rfl, rfl, rfl, rfl, rfl, rfl, trivial⟩, (by exact hs)⟩) ?_ (fun J4348 => ?_)
                                          · rintro _ hrun; have hrun := (hl4339 _).symm.trans hrun
                                            · refine At.ibx ?_; refine At.ibn ?_; refine At.thn ?_; refine At.region ?_; refine At.run 3 rfl ?_; refine At.nil ?_; refine At.drop .z ?_; refine At.drop .z ?_; have hrun := bnx hf_ hrun; exact fun a w e hs => ⟨m3307, (IntKind.i64.wrap (x3099 + 1)), hlt3309, hrun, e.sub ⟨rfl, rfl, rfl, trivial⟩, hs⟩
                                          · clear hit4346 m4344; rintro m4344 x4137 hit4346; obtain ⟨m4345, f_, hlt4347, hf_, hrun⟩ := bit hit4346; clear hit4346; have hrun : (bailiffref03_Same.l3b a0_3 a1_3 x3099 x4137).bind _ = some o4341 := hrun; unfold bailiffref03_Same.l3b at hrun
                                            · refine At.seq ?_; refine At.seq ?_; refine At.region ?_; refine At.run 2 rfl ?_; refine At.y (Y.load rfl rfl (.s .z) rfl rfl rfl) rfl rfl rfl ?_; refine At.run 2 rfl ?_; refine At.nil ?_; refine At.thn ?_; rcases bite hrun with ⟨h4349, hrun⟩ | ⟨h4349, hrun⟩
                                              · · refine At.condT rfl (decide_eq_true h4349) ?_
                                                  refine At.skip ?_; refine At.thn ?_; refine At.seq ?_; refine At.block ?_; refine At.seq ?_; refine At.quiet (by kernel_rfl) ?_; refine At.Quiet.run 1 rfl ?_; refine At.Quiet.y (Y.load rfl rfl (.s .z) rfl rfl rfl) rfl rfl rfl ?_; refine At.Quiet.run 1 rfl ?_; obtain ⟨h4350, hrun⟩ := bnone hrun; refine At.Quiet.y (Y.ixRd hr3319 rfl rfl rfl rfl rfl rfl rfl h4350.1 h4350.2) rfl rfl rfl ?_; refine At.Quiet.y (Y.ldFl hr3319 rfl (q := 0) rfl rfl h4350.1 h4350.2 rfl rfl rfl) rfl rfl rfl ?_; refine At.Quiet.run 1 rfl ?_; refine At.Quiet.y (Y.load rfl rfl .z rfl rfl rfl) rfl rfl rfl ?_; refine At.Quiet.run 1 rfl ?_; obtain ⟨h4351, hrun⟩ := bnone hrun; refine At.Quiet.y (Y.ixRd hr3328 rfl rfl rfl rfl rfl rfl rfl h4351.1 h4351.2) rfl rfl rfl ?_; refine At.Quiet.y (Y.ldFl hr3328 rfl (q := 0) rfl rfl h4351.1 h4351.2 rfl rfl rfl) rfl rfl rfl ?_; refine At.Quiet.run 1 rfl ?_; refine At.Quiet.nil ?_; refine At.thn ?_; rcases bite hrun with ⟨h4352, hrun⟩ | ⟨h4352, hrun⟩
                                                  · · refine At.condF rfl (nf (decide_eq_true h4352)) ?_
                                                      refine At.skip ?_; refine At.ibn ?_; refine At.thn ?_; refine At.region ?_; refine At.run 3 rfl ?_; refine At.nil ?_; have hrun := bnx hf_ hrun; exact fun a w e hs => ⟨m4345, (IntKind.i64.wrap (x4137 + 1)), hlt4347, hrun, e.sub ⟨rfl, rfl, rfl, rfl, rfl, rfl, trivial⟩, hs⟩
                                                  · · refine At.condT rfl (nt (decide_eq_false h4352)) ?_
                                                      refine At.seq ?_; refine At.region ?_; refine At.run 1 rfl ?_; refine At.nil ?_; refine At.thn ?_; refine At.ret ?_; refine At.ibr ?_; refine At.thr ?_; have hrun := bupL hr4340 ho4343 hrun; refine At.thr ?_; refine At.ibr ?_; refine At.ibr ?_; refine At.thr ?_; have hrun := bupL hr3302 ho3305 hrun; refine At.thr ?_; refine At.ibr ?_; refine At.thr ?_; refine At.drop .z ?_; refine At.drop .z ?_; refine At.drop .z ?_; refine At.drop .z ?_; obtain rfl := (bret hrun).symm; exact At.res (.inl rfl) rfl rfl ⟨rfl, rfl⟩
                                              · · refine At.condF rfl (decide_eq_false h4349) ?_
                                                  refine At.exit ?_; refine At.the ?_; refine At.the ?_; exact fun a w e hs => J4348 () (bdn hrun ho4343) a w (e.sub ⟨rfl, rfl, rfl, trivial⟩) hs
                                  · · rcases bite hrun with ⟨h4353, hrun⟩ | ⟨h4353, hrun⟩
                                      · · refine At.know (t := 101) rfl (nf h4353) ?_
                                          refine At.run 1 rfl ?_; refine At.y (Y.load rfl rfl (.s .z) rfl rfl rfl) rfl rfl rfl ?_; refine At.run 2 rfl ?_; refine At.y (Y.load rfl rfl .z rfl rfl rfl) rfl rfl rfl ?_; refine At.run 3 rfl ?_; exact At.of (J3534 (!(decide (((gt a0_3 x3099).States.length : Int) = ((gt a1_3 x3099).States.length : Int)))) hrun) ⟨rfl, rfl, rfl, rfl, rfl, rfl, trivial⟩
                                      · · refine At.know (t := 101) rfl (nt (bn h4353)) ?_
                                          refine At.run 8 rfl ?_; exact At.of (J3534 true hrun) ⟨rfl, rfl, rfl, rfl, rfl, rfl, trivial⟩
                              · · refine At.condF rfl (decide_eq_false h3311) ?_
                                  refine At.exit ?_; refine At.the ?_; refine At.the ?_; exact fun a w e hs => J3310 () (bdn hrun ho3305) a w (e.sub trivial) hs
                      · clear hit2495 m2493; rintro m2493 x2286 hit2495; obtain ⟨m2494, f_, hlt2496, hf_, hrun⟩ := bit hit2495; clear hit2495; have hrun : (bailiffref03_Same.l1b a0_2 a1_2 x2286).bind _ = some o2490 := hrun; unfold bailiffref03_Same.l1b at hrun
                        · refine At.seq ?_; refine At.seq ?_; refine At.region ?_; refine At.run 2 rfl ?_; refine At.y (Y.load rfl rfl (.s .z) rfl rfl rfl) rfl rfl rfl ?_; refine At.run 2 rfl ?_; refine At.nil ?_; refine At.thn ?_; rcases bite hrun with ⟨h4354, hrun⟩ | ⟨h4354, hrun⟩
                          · · refine At.condT rfl (decide_eq_true h4354) ?_
                              refine At.skip ?_; refine At.thn ?_; refine At.seq ?_; refine At.block ?_; refine At.seq ?_; refine At.quiet (by kernel_rfl) ?_; refine At.Quiet.run 1 rfl ?_; refine At.Quiet.y (Y.load rfl rfl (.s .z) rfl rfl rfl) rfl rfl rfl ?_; refine At.Quiet.run 1 rfl ?_; obtain ⟨h4355, hrun⟩ := bnone hrun; refine At.Quiet.y (Y.ixRd hr0_2 rfl rfl rfl rfl rfl rfl rfl h4355.1 h4355.2) rfl rfl rfl ?_; refine At.Quiet.y (Y.ldFl hr0_2 rfl (q := 0) rfl rfl h4355.1 h4355.2 rfl rfl rfl) rfl rfl rfl ?_; refine At.Quiet.run 1 rfl ?_; refine At.Quiet.y (Y.load rfl rfl .z rfl rfl rfl) rfl rfl rfl ?_; refine At.Quiet.run 1 rfl ?_; obtain ⟨h4356, hrun⟩ := bnone hrun; refine At.Quiet.y (Y.ixRd hr1_2 rfl rfl rfl rfl rfl rfl rfl h4356.1 h4356.2) rfl rfl rfl ?_; refine At.Quiet.y (Y.ldFl hr1_2 rfl (q := 0) rfl rfl h4356.1 h4356.2 rfl rfl rfl) rfl rfl rfl ?_; refine At.Quiet.y (Y.neSt (xs := [.int .i64 ((gt a0_2 x2286).From), .int .i64 ((gt a0_2 x2286).Action), .int .i64 ((gt a0_2 x2286).To)]) (ys := [.int .i64 ((gt a1_2 x2286).From), .int .i64 ((gt a1_2 x2286).Action), .int .i64 ((gt a1_2 x2286).To)]) rfl rfl rfl rfl (by kernel_rfl) (by kernel_rfl) (by kernel_rfl) rfl) rfl rfl rfl ?_; refine At.Quiet.nil ?_; refine At.thn ?_; rcases bite hrun with ⟨h4357, hrun⟩ | ⟨h4357, hrun⟩
                              · · refine At.condF rfl (nf h4357) ?_
                                  refine At.skip ?_; refine At.ibn ?_; refine At.thn ?_; refine At.region ?_; refine At.run 3 rfl ?_; refine At.nil ?_; have hrun := bnx hf_ hrun; exact fun a w e hs => ⟨m2494, (IntKind.i64.wrap (x2286 + 1)), hlt2496, hrun, e.sub ⟨rfl, rfl, rfl, trivial⟩, hs⟩
                              · · refine At.condT rfl (nt (bn h4357)) ?_
                                  refine At.seq ?_; refine At.region ?_; refine At.run 1 rfl ?_; refine At.nil ?_; refine At.thn ?_; refine At.ret ?_; refine At.ibr ?_; refine At.thr ?_; have hrun := bupL hr2489 ho2492 hrun; refine At.thr ?_; refine At.ibr ?_; refine At.thr ?_; refine At.drop .z ?_; refine At.drop .z ?_; obtain rfl := (bret hrun).symm; exact At.res (.inl rfl) rfl rfl ⟨rfl, rfl⟩
                          · · refine At.condF rfl (decide_eq_false h4354) ?_
                              refine At.exit ?_; refine At.the ?_; refine At.the ?_; exact fun a w e hs => J2497 () (bdn hrun ho2492) a w (e.sub ⟨rfl, rfl, trivial⟩) hs
                  · clear hit1682 m1680; rintro m1680 x1473 hit1682; obtain ⟨m1681, f_, hlt1683, hf_, hrun⟩ := bit hit1682; clear hit1682; have hrun : (bailiffref03_Same.l0b a0_1 a1_1 x1473).bind _ = some o1677 := hrun; unfold bailiffref03_Same.l0b at hrun
                    · refine At.seq ?_; refine At.seq ?_; refine At.region ?_; refine At.run 2 rfl ?_; refine At.y (Y.load rfl rfl (.s .z) rfl rfl rfl) rfl rfl rfl ?_; refine At.run 2 rfl ?_; refine At.nil ?_; refine At.thn ?_; rcases bite hrun with ⟨h4358, hrun⟩ | ⟨h4358, hrun⟩
                      · · refine At.condT rfl (decide_eq_true h4358) ?_
                          refine At.skip ?_; refine At.thn ?_; refine At.seq ?_; refine At.block ?_; refine At.seq ?_; refine At.quiet (by kernel_rfl) ?_; refine At.Quiet.run 1 rfl ?_; refine At.Quiet.y (Y.load rfl rfl (.s .z) rfl rfl rfl) rfl rfl rfl ?_; refine At.Quiet.run 1 rfl ?_; obtain ⟨h4359, hrun⟩ := bnone hrun; refine At.Quiet.y (Y.ixRd hr0_1 rfl rfl rfl rfl rfl rfl rfl h4359.1 h4359.2) rfl rfl rfl ?_; refine At.Quiet.y (Y.ldFl hr0_1 rfl (q := 0) rfl rfl h4359.1 h4359.2 rfl rfl rfl) rfl rfl rfl ?_; refine At.Quiet.run 1 rfl ?_; refine At.Quiet.y (Y.load rfl rfl .z rfl rfl rfl) rfl rfl rfl ?_; refine At.Quiet.run 1 rfl ?_; obtain ⟨h4360, hrun⟩ := bnone hrun; refine At.Quiet.y (Y.ixRd hr1_1 rfl rfl rfl rfl rfl rfl rfl h4360.1 h4360.2) rfl rfl rfl ?_; refine At.Quiet.y (Y.ldFl hr1_1 rfl (q := 0) rfl rfl h4360.1 h4360.2 rfl rfl rfl) rfl rfl rfl ?_; refine At.Quiet.run 1 rfl ?_; refine At.Quiet.nil ?_; refine At.thn ?_; rcases bite hrun with ⟨h4361, hrun⟩ | ⟨h4361, hrun⟩
                          · · refine At.condF rfl (nf h4361) ?_
                              refine At.skip ?_; refine At.ibn ?_; refine At.thn ?_; refine At.region ?_; refine At.run 3 rfl ?_; refine At.nil ?_; have hrun := bnx hf_ hrun; exact fun a w e hs => ⟨m1681, (IntKind.i64.wrap (x1473 + 1)), hlt1683, hrun, e.sub ⟨rfl, rfl, rfl, trivial⟩, hs⟩
                          · · refine At.condT rfl (nt (bn h4361)) ?_
                              refine At.seq ?_; refine At.region ?_; refine At.run 1 rfl ?_; refine At.nil ?_; refine At.thn ?_; refine At.ret ?_; refine At.ibr ?_; refine At.thr ?_; have hrun := bupL hr1676 ho1679 hrun; refine At.thr ?_; refine At.ibr ?_; refine At.thr ?_; refine At.drop .z ?_; refine At.drop .z ?_; obtain rfl := (bret hrun).symm; exact At.res (.inl rfl) rfl rfl ⟨rfl, rfl⟩
                      · · refine At.condF rfl (decide_eq_false h4358) ?_
                          refine At.exit ?_; refine At.the ?_; refine At.the ?_; exact fun a w e hs => J1684 () (bdn hrun ho1679) a w (e.sub ⟨rfl, rfl, trivial⟩) hs
          · · rcases bite hrun with ⟨h4362, hrun⟩ | ⟨h4362, hrun⟩
              · · refine At.know (t := 34) rfl h4362 ?_
                  refine At.run 8 rfl ?_; exact At.of (J870 true hrun) ⟨rfl, rfl, rfl, trivial⟩
              · · refine At.know (t := 34) rfl (bn h4362) ?_
                  refine At.run 1 rfl ?_; refine At.y (Y.load rfl rfl (.s .z) rfl rfl rfl) rfl rfl rfl ?_; refine At.run 2 rfl ?_; refine At.y (Y.load rfl rfl .z rfl rfl rfl) rfl rfl rfl ?_; refine At.run 3 rfl ?_; exact At.of (J870 (!(decide ((a0_3.length : Int) = (a1_3.length : Int)))) hrun) ⟨rfl, rfl, rfl, trivial⟩
      · · rcases bite hrun with ⟨h4363, hrun⟩ | ⟨h4363, hrun⟩
          · · refine At.know (t := 25) rfl h4363 ?_
              refine At.run 8 rfl ?_; exact At.of (J665 true hrun) ⟨rfl, rfl, rfl, trivial⟩
          · · refine At.know (t := 25) rfl (bn h4363) ?_
              refine At.run 1 rfl ?_; refine At.y (Y.load rfl rfl (.s .z) rfl rfl rfl) rfl rfl rfl ?_; refine At.run 2 rfl ?_; refine At.y (Y.load rfl rfl .z rfl rfl rfl) rfl rfl rfl ?_; refine At.run 3 rfl ?_; exact At.of (J665 (!(decide ((a0_2.length : Int) = (a1_2.length : Int)))) hrun) ⟨rfl, rfl, rfl, trivial⟩
  · · rcases bite hrun with ⟨h4364, hrun⟩ | ⟨h4364, hrun⟩
      · · refine At.know (t := 16) rfl (nf (decide_eq_true h4364)) ?_
          refine At.run 1 rfl ?_; refine At.y (Y.load rfl rfl (.s .z) rfl rfl rfl) rfl rfl rfl ?_; refine At.run 2 rfl ?_; refine At.y (Y.load rfl rfl .z rfl rfl rfl) rfl rfl rfl ?_; refine At.run 3 rfl ?_; exact At.of (J460 (!(decide ((a0_1.length : Int) = (a1_1.length : Int)))) hrun) ⟨rfl, rfl, rfl, trivial⟩
      · · refine At.know (t := 16) rfl (nt (decide_eq_false h4364)) ?_
          refine At.run 8 rfl ?_; exact At.of (J460 true hrun) ⟨rfl, rfl, rfl, trivial⟩

end Go.Bw
