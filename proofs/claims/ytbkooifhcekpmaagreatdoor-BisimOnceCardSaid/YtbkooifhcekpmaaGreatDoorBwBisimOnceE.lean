/- BisimOnce, part 5: walks and plain laws. Conditions: none. -/
import Derived.Test.YtbkooifhcekpmaaGreatDoorProg
import Derived.Deep.QuietTactic
import Derived.Test.YtbkooifhcekpmaaGreatDoorBwBisimOnceD
set_option linter.unusedVariables false
set_option linter.unusedSimpArgs false
set_option linter.unusedSectionVars false
set_option maxRecDepth 100000
set_option maxHeartbeats 2000000
namespace Go.Bw
open Go Go.RowKit Go.Proofs
noncomputable def Q91.f (a0_0 : List Q5) (a0_1 : Option Q4) (a0_2 : Int) (a0_3 : List Bs) (a0_4 : List Q0) (a0_5 : List Q1) (a0_6 : List Q3) (a0_7 : List (Bs × Bool)) (a1_0 : Int) (a1_1 : Int) (a1_2 : Bs) (a1_3 : Int) : Option ((List Q3) × (List (Bs × Bool)) × (Option Q4) × (List Q5)) :=
 if 200 ≤ (a0_6.length : Int) then
 (Q13.f a0_0 a0_1 a0_2 a0_3 a0_4 a0_5 a0_6 a0_7 a1_0 a1_1 a1_2 a1_3 10).bind fun t269 =>
 (Q44.f a0_0 t269 a0_2 a0_3 a0_4 a0_5 a0_6 a0_7).bind fun t273 =>
 (Q59.f t273.2.1 t273.1 a0_2 a0_3 a0_4 a0_5 a0_6 a0_7).bind fun t284 =>
 jn (
 if ((mget a0_7 t284.2.2.2.2.1).getD false) = true then
 some (.inl false)
 else
 some (.inl (decide (8 ≤ (a0_7.length : Int))))) (fun (x495 : Bool) =>
 if x495 = true then
 (Q13.f t284.2.1 t284.1 a0_2 a0_3 a0_4 a0_5 a0_6 a0_7 t284.2.2.1 t284.2.2.2.1 t284.2.2.2.2.1 t284.2.2.2.2.2 10).bind fun t501 =>
 (Q44.f t284.2.1 t501 a0_2 a0_3 a0_4 a0_5 a0_6 a0_7).bind fun t505 =>
 jn (
 if t505.1.isNone = true then
 (Q56.f a0_6 t273.2.2.1 t284.2.2.2.2.1 t505.2.2.1).bind fun t1168 =>
 some (.inl t1168)
 else
 some (.inl false)) (fun (x723 : Bool) =>
 if x723 = true then
 (Q13.f t505.2.1 t505.1 a0_2 a0_3 a0_4 a0_5 a0_6 a0_7 t505.2.2.2.1 t505.2.2.2.2.1 t505.2.2.2.2.2.1 t505.2.2.2.2.2.2 9).bind fun t729 =>
 (Q21.f t505.2.1 t729 a0_2 a0_3 a0_4 a0_5 a0_6 a0_7).bind fun t733 =>
 if (a0_6.length + ([(⟨t273.2.2.1, t284.2.2.2.2.1, t505.2.2.1⟩ : Q3)] : List Q3).length) * 32 ≤ 140737488355328 then
 some ((a0_6 ++ ([(⟨t273.2.2.1, t284.2.2.2.2.1, t505.2.2.1⟩ : Q3)] : List Q3)), (mset a0_7 t284.2.2.2.2.1 true), t733, t505.2.1)
 else none
 else
 (Q21.f t505.2.1 t505.1 a0_2 a0_3 a0_4 a0_5 a0_6 a0_7).bind fun t950 =>
 if (a0_6.length + ([(⟨t273.2.2.1, t284.2.2.2.2.1, t505.2.2.1⟩ : Q3)] : List Q3).length) * 32 ≤ 140737488355328 then
 some ((a0_6 ++ ([(⟨t273.2.2.1, t284.2.2.2.2.1, t505.2.2.1⟩ : Q3)] : List Q3)), (mset a0_7 t284.2.2.2.2.1 true), t950, t505.2.1)
 else none)
 else
 (Q44.f t284.2.1 t284.1 a0_2 a0_3 a0_4 a0_5 a0_6 a0_7).bind fun t1170 =>
 jn (
 if t1170.1.isNone = true then
 (Q56.f a0_6 t273.2.2.1 t284.2.2.2.2.1 t1170.2.2.1).bind fun t1833 =>
 some (.inl t1833)
 else
 some (.inl false)) (fun (x1388 : Bool) =>
 if x1388 = true then
 (Q13.f t1170.2.1 t1170.1 a0_2 a0_3 a0_4 a0_5 a0_6 a0_7 t1170.2.2.2.1 t1170.2.2.2.2.1 t1170.2.2.2.2.2.1 t1170.2.2.2.2.2.2 9).bind fun t1394 =>
 (Q21.f t1170.2.1 t1394 a0_2 a0_3 a0_4 a0_5 a0_6 a0_7).bind fun t1398 =>
 if (a0_6.length + ([(⟨t273.2.2.1, t284.2.2.2.2.1, t1170.2.2.1⟩ : Q3)] : List Q3).length) * 32 ≤ 140737488355328 then
 some ((a0_6 ++ ([(⟨t273.2.2.1, t284.2.2.2.2.1, t1170.2.2.1⟩ : Q3)] : List Q3)), (mset a0_7 t284.2.2.2.2.1 true), t1398, t1170.2.1)
 else none
 else
 (Q21.f t1170.2.1 t1170.1 a0_2 a0_3 a0_4 a0_5 a0_6 a0_7).bind fun t1615 =>
 if (a0_6.length + ([(⟨t273.2.2.1, t284.2.2.2.2.1, t1170.2.2.1⟩ : Q3)] : List Q3).length) * 32 ≤ 140737488355328 then
 some ((a0_6 ++ ([(⟨t273.2.2.1, t284.2.2.2.2.1, t1170.2.2.1⟩ : Q3)] : List Q3)), (mset a0_7 t284.2.2.2.2.1 true), t1615, t1170.2.1)
 else none))
 else
 (Q44.f a0_0 a0_1 a0_2 a0_3 a0_4 a0_5 a0_6 a0_7).bind fun t1836 =>
 (Q59.f t1836.2.1 t1836.1 a0_2 a0_3 a0_4 a0_5 a0_6 a0_7).bind fun t1847 =>
 jn (
 if ((mget a0_7 t1847.2.2.2.2.1).getD false) = true then
 some (.inl false)
 else
 some (.inl (decide (8 ≤ (a0_7.length : Int))))) (fun (x2058 : Bool) =>
 if x2058 = true then
 (Q13.f t1847.2.1 t1847.1 a0_2 a0_3 a0_4 a0_5 a0_6 a0_7 t1847.2.2.1 t1847.2.2.2.1 t1847.2.2.2.2.1 t1847.2.2.2.2.2 10).bind fun t2064 =>
 (Q44.f t1847.2.1 t2064 a0_2 a0_3 a0_4 a0_5 a0_6 a0_7).bind fun t2068 =>
 jn (
 if t2068.1.isNone = true then
 (Q56.f a0_6 t1836.2.2.1 t1847.2.2.2.2.1 t2068.2.2.1).bind fun t2731 =>
 some (.inl t2731)
 else
 some (.inl false)) (fun (x2286 : Bool) =>
 if x2286 = true then
 (Q13.f t2068.2.1 t2068.1 a0_2 a0_3 a0_4 a0_5 a0_6 a0_7 t2068.2.2.2.1 t2068.2.2.2.2.1 t2068.2.2.2.2.2.1 t2068.2.2.2.2.2.2 9).bind fun t2292 =>
 (Q21.f t2068.2.1 t2292 a0_2 a0_3 a0_4 a0_5 a0_6 a0_7).bind fun t2296 =>
 if (a0_6.length + ([(⟨t1836.2.2.1, t1847.2.2.2.2.1, t2068.2.2.1⟩ : Q3)] : List Q3).length) * 32 ≤ 140737488355328 then
 some ((a0_6 ++ ([(⟨t1836.2.2.1, t1847.2.2.2.2.1, t2068.2.2.1⟩ : Q3)] : List Q3)), (mset a0_7 t1847.2.2.2.2.1 true), t2296, t2068.2.1)
 else none
 else
 (Q21.f t2068.2.1 t2068.1 a0_2 a0_3 a0_4 a0_5 a0_6 a0_7).bind fun t2513 =>
 if (a0_6.length + ([(⟨t1836.2.2.1, t1847.2.2.2.2.1, t2068.2.2.1⟩ : Q3)] : List Q3).length) * 32 ≤ 140737488355328 then
 some ((a0_6 ++ ([(⟨t1836.2.2.1, t1847.2.2.2.2.1, t2068.2.2.1⟩ : Q3)] : List Q3)), (mset a0_7 t1847.2.2.2.2.1 true), t2513, t2068.2.1)
 else none)
 else
 (Q44.f t1847.2.1 t1847.1 a0_2 a0_3 a0_4 a0_5 a0_6 a0_7).bind fun t2733 =>
 jn (
 if t2733.1.isNone = true then
 (Q56.f a0_6 t1836.2.2.1 t1847.2.2.2.2.1 t2733.2.2.1).bind fun t3396 =>
 some (.inl t3396)
 else
 some (.inl false)) (fun (x2951 : Bool) =>
 if x2951 = true then
 (Q13.f t2733.2.1 t2733.1 a0_2 a0_3 a0_4 a0_5 a0_6 a0_7 t2733.2.2.2.1 t2733.2.2.2.2.1 t2733.2.2.2.2.2.1 t2733.2.2.2.2.2.2 9).bind fun t2957 =>
 (Q21.f t2733.2.1 t2957 a0_2 a0_3 a0_4 a0_5 a0_6 a0_7).bind fun t2961 =>
 if (a0_6.length + ([(⟨t1836.2.2.1, t1847.2.2.2.2.1, t2733.2.2.1⟩ : Q3)] : List Q3).length) * 32 ≤ 140737488355328 then
 some ((a0_6 ++ ([(⟨t1836.2.2.1, t1847.2.2.2.2.1, t2733.2.2.1⟩ : Q3)] : List Q3)), (mset a0_7 t1847.2.2.2.2.1 true), t2961, t2733.2.1)
 else none
 else
 (Q21.f t2733.2.1 t2733.1 a0_2 a0_3 a0_4 a0_5 a0_6 a0_7).bind fun t3178 =>
 if (a0_6.length + ([(⟨t1836.2.2.1, t1847.2.2.2.2.1, t2733.2.2.1⟩ : Q3)] : List Q3).length) * 32 ≤ 140737488355328 then
 some ((a0_6 ++ ([(⟨t1836.2.2.1, t1847.2.2.2.2.1, t2733.2.2.1⟩ : Q3)] : List Q3)), (mset a0_7 t1847.2.2.2.2.1 true), t3178, t2733.2.1)
 else none))
theorem Q91.callee : Callee Tryz.prog 73 := ⟨_, Tryz.func73, by kernel_rfl, by kernel_rfl⟩
theorem Q91.spec (R : Res) (Fr : List HProp) (b0 : Nat) (A0_0 : Option Addr) (n0_0 : Nat) (c0_0 : Nat) (p0_1 : Option Nat) (A0_3 : Option Addr) (n0_3 : Nat) (c0_3 : Nat) (A0_4 : Option Addr) (n0_4 : Nat) (c0_4 : Nat) (A0_5 : Option Addr) (n0_5 : Nat) (c0_5 : Nat) (A0_6 : Option Addr) (n0_6 : Nat) (c0_6 : Nat) (b0_7 : Nat) (a0_0 : List Q5) (a0_1 : Option Q4) (a0_2 : Int) (a0_3 : List Bs) (a0_4 : List Q0) (a0_5 : List Q1) (a0_6 : List Q3) (a0_7 : List (Bs × Bool)) (a1_0 : Int) (a1_1 : Int) (a1_2 : Bs) (a1_3 : Int) (hr0_0 : RdS Q5.fl.rep R.heap A0_0 a0_0) (hn0_0 : a0_0.length = n0_0) (hc0_0 : n0_0 ≤ c0_0) (hn0_3 : a0_3.length = n0_3) (hn0_4 : a0_4.length = n0_4) (hn0_5 : a0_5.length = n0_5) (hn0_6 : a0_6.length = n0_6) {r : (List Q3) × (List (Bs × Bool)) × (Option Q4) × (List Q5)} (j : Q91.f a0_0 a0_1 a0_2 a0_3 a0_4 a0_5 a0_6 a0_7 a1_0 a1_1 a1_2 a1_3 = some r) :
 Spec Tryz.prog 73 [.pointer (some ⟨b0, 0, none⟩), .agg #[.int .i64 a1_0, .int .i64 a1_1, .string ⟨(a1_2).toArray⟩, .int .i64 a1_3]] R (pt b0 (.cells [.slice A0_0 n0_0 c0_0, optp p0_1, .int .i64 a0_2, .slice A0_3 n0_3 c0_3, .slice A0_4 n0_4 c0_4, .slice A0_5 n0_5 c0_5, .slice A0_6 n0_6 c0_6, .map (some b0_7)].toArray 114) :: optb (Ow.fl Q4.fl) 58 p0_1 a0_1 :: row Fl.bs 9 A0_3 n0_3 c0_3 a0_3 :: row Q0.fl 35 A0_4 n0_4 c0_4 a0_4 :: grow Q1.ow 37 A0_5 n0_5 c0_5 a0_5 :: row Q3.fl 148 A0_6 n0_6 c0_6 a0_6 :: mapo Fl.bs.ov Fl.bool.ov b0_7 a0_7 :: Fr) (fun v l' => ∃ (w252 : Nat) (w254 : Option Addr) (w255 : Nat) (w257 : Option Nat) (w260 : Option Addr) (w261 : Nat) (w262 : Nat), v = .tuple #[] ∧ optb (Ow.fl Q4.fl) 58 w257 r.2.2.1 :: pt b0 (.cells [.slice w260 w261 w262, optp w257, .int .i64 a0_2, .slice A0_3 n0_3 c0_3, .slice A0_4 n0_4 c0_4, .slice A0_5 n0_5 c0_5, .slice w254 w252 w255, .map (some b0_7)].toArray 114) :: row Fl.bs 9 A0_3 n0_3 c0_3 a0_3 :: row Q0.fl 35 A0_4 n0_4 c0_4 a0_4 :: grow Q1.ow 37 A0_5 n0_5 c0_5 a0_5 :: row Q3.fl 148 w254 w252 w255 r.1 :: mapo Fl.bs.ov Fl.bool.ov b0_7 r.2.1 :: Fr = l' ∧ r.1.length = w252 ∧ RdS Q5.fl.rep R.heap w260 r.2.2.2 ∧ r.2.2.2.length = w261 ∧ w261 ≤ w262) := by
 subst hn0_0; subst hn0_3; subst hn0_4; subst hn0_5; subst hn0_6; refine Spec.of Tryz.func73 rfl rfl ?_; unfold Q91.f at j; have j := brun j; refine At.seq (At.region ?_); refine At.box rfl rfl (cs := [.int .i64 a1_0, .int .i64 a1_1, .string ⟨(a1_2).toArray⟩, .int .i64 a1_3]) rfl rfl (fun b267 => ?_); refine At.nil (At.thn (At.seq (At.seq (At.region (At.run 3 rfl (At.y (Y.load rfl rfl (.s .z) rfl rfl rfl) rfl rfl rfl (At.run 2 rfl ?_))))))); refine At.nil (At.thn ?_); rcases bite j with ⟨h268, j⟩ | ⟨h268, j⟩
 ··refine At.condT rfl (decide_eq_true h268) ?_
   refine At.region (At.run 1 rfl (At.y (Y.load rfl rfl .z rfl rfl rfl) rfl rfl rfl (At.f7 (At.f7 (At.f7 (At.f7 (At.f7 ?_))))))); refine At.f7 (At.f7 ?_); obtain ⟨t269, hc270, j⟩ := bbind j; refine At.call rfl Q13.callee rfl rfl rfl (Q13.spec _ _ b0 A0_0 a0_0.length c0_0 p0_1 A0_3 a0_3.length c0_3 A0_4 a0_4.length c0_4 A0_5 a0_5.length c0_5 A0_6 a0_6.length c0_6 b0_7 a0_0 a0_1 a0_2 a0_3 a0_4 a0_5 a0_6 a0_7 a1_0 a1_1 a1_2 a1_3 10 hr0_0 rfl hc0_0 rfl rfl rfl rfl hc270) ?_; rintro _ _ ⟨w271, rfl, rfl⟩; refine At.nil (At.thn (At.seq (At.region (At.run 1 rfl (At.f6 (At.f6 (At.f6 ?_))))))); refine At.f6 (At.f6 (At.f5 (At.f6 ?_))); obtain ⟨t273, hc274, j⟩ := bbind j; refine At.call rfl Q44.callee rfl rfl rfl (Q44.spec _ _ b0 A0_0 a0_0.length c0_0 w271 A0_3 a0_3.length c0_3 A0_4 a0_4.length c0_4 A0_5 a0_5.length c0_5 A0_6 a0_6.length c0_6 b0_7 a0_0 t269 a0_2 a0_3 a0_4 a0_5 a0_6 a0_7 hr0_0 rfl hc0_0 rfl rfl rfl rfl hc274) ?_; rintro _ _ ⟨w275, w276, w277, w278, rfl, rfl, hr279, rfl, hc281⟩; refine At.run 3 rfl ?_; refine At.alloc rfl rfl rfl (fun b283 => ?_); refine At.store rfl rfl rfl rfl .z rfl rfl rfl (.c (.c (.c (.c .n)))) ?_; refine At.run 1 rfl (At.nil (At.thn (At.seq (At.region (At.run 1 rfl (At.f7 (At.f7 ?_))))))); refine At.f7 (At.f7 (At.f7 (At.f6 (At.f7 ?_)))); obtain ⟨t284, hc285, j⟩ := bbind j; refine At.call rfl Q59.callee rfl rfl rfl (Q59.spec _ _ b0 w276 t273.2.1.length w278 w275 A0_3 a0_3.length c0_3 A0_4 a0_4.length c0_4 A0_5 a0_5.length c0_5 A0_6 a0_6.length c0_6 b0_7 t273.2.1 t273.1 a0_2 a0_3 a0_4 a0_5 a0_6 a0_7 hr279 rfl hc281 rfl rfl rfl rfl hc285) ?_; rintro _ _ ⟨w286, w287, w288, w289, rfl, rfl, hr290, rfl, hc292⟩; refine At.alloc rfl rfl rfl (fun b294 => ?_); refine At.store rfl rfl rfl rfl .z rfl rfl rfl (.c (.c (.c (.c .n)))) ?_; refine At.nil (At.thn (At.seq (At.seq ?_))); refine At.quiet (by kernel_rfl) ?_; refine At.Quiet.run 3 rfl ?_; refine At.Quiet.y (Y.load rfl rfl (.s (.s .z)) rfl rfl rfl) rfl rfl rfl ?_; refine At.Quiet.run 1 rfl ?_; refine At.Quiet.y (Y.load rfl rfl .z rfl rfl rfl) rfl rfl rfl ?_; refine At.Quiet.y (Y.lookup (k := t284.2.2.2.2.1) (z := false) (.s (.s (.s (.s (.s (.s (.s .z))))))) rfl rfl (KeyOk.str rfl rfl) (by kernel_rfl) rfl rfl rfl) rfl rfl rfl ?_; refine At.Quiet.run 2 rfl ?_; obtain ⟨G496, hl497, hr498, j⟩ := bjoin j; refine At.Quiet.joinO 7 (X := Bool) (fun x495 => [(0, .pointer (some ⟨b0, 0, none⟩)), (5, .int .i64 t273.2.2.1), (6, .pointer (some ⟨b294, 0, none⟩)), (41, .bool x495)]) (fun x495 => pt b294 (.cells [.int .i64 t284.2.2.1, .int .i64 t284.2.2.2.1, .string ⟨(t284.2.2.2.2.1).toArray⟩, .int .i64 t284.2.2.2.2.2].toArray 116) :: optb (Ow.fl Q4.fl) 58 w286 t284.1 :: pt b0 (.cells [.slice w287 t284.2.1.length w289, optp w286, .int .i64 a0_2, .slice A0_3 a0_3.length c0_3, .slice A0_4 a0_4.length c0_4, .slice A0_5 a0_5.length c0_5, .slice A0_6 a0_6.length c0_6, .map (some b0_7)].toArray 114) :: row Fl.bs 9 A0_3 a0_3.length c0_3 a0_3 :: row Q0.fl 35 A0_4 a0_4.length c0_4 a0_4 :: grow Q1.ow 37 A0_5 a0_5.length c0_5 a0_5 :: row Q3.fl 148 A0_6 a0_6.length c0_6 a0_6 :: mapo Fl.bs.ov Fl.bool.ov b0_7 a0_7 :: pt b283 (.cells [.int .i64 t273.2.2.2.1, .int .i64 t273.2.2.2.2.1, .string ⟨(t273.2.2.2.2.2.1).toArray⟩, .int .i64 t273.2.2.2.2.2.2].toArray 116) :: pt b267 (.cells [.int .i64 a1_0, .int .i64 a1_1, .string ⟨(a1_2).toArray⟩, .int .i64 a1_3].toArray 116) :: Fr) (fun x495 => G496 (.inl x495) = some r) ?_ (fun J499 => ?_)
   ·rintro x495 j; have j := (hl497 _).symm.trans j
    ·refine At.Quiet.nil (At.thn ?_); rcases bite j with ⟨h500, j⟩ | ⟨h500, j⟩
     ··refine At.condT rfl h500 ?_
       refine At.region (At.run 1 rfl (At.y (Y.load rfl rfl .z rfl rfl rfl) rfl rfl rfl (At.f7 (At.f7 (At.f7 (At.f7 (At.f7 ?_))))))); refine At.f6 (At.f7 ?_); obtain ⟨t501, hc502, j⟩ := bbind j; refine At.call rfl Q13.callee rfl rfl rfl (Q13.spec _ _ b0 w287 t284.2.1.length w289 w286 A0_3 a0_3.length c0_3 A0_4 a0_4.length c0_4 A0_5 a0_5.length c0_5 A0_6 a0_6.length c0_6 b0_7 t284.2.1 t284.1 a0_2 a0_3 a0_4 a0_5 a0_6 a0_7 t284.2.2.1 t284.2.2.2.1 t284.2.2.2.2.1 t284.2.2.2.2.2 10 hr290 rfl hc292 rfl rfl rfl rfl hc502) ?_; rintro _ _ ⟨w503, rfl, rfl⟩; refine At.nil (At.thn (At.seq (At.region (At.run 1 rfl (At.f6 (At.f6 (At.f6 ?_))))))); refine At.f6 (At.f6 (At.f5 (At.f6 ?_))); obtain ⟨t505, hc506, j⟩ := bbind j; refine At.call rfl Q44.callee rfl rfl rfl (Q44.spec _ _ b0 w287 t284.2.1.length w289 w503 A0_3 a0_3.length c0_3 A0_4 a0_4.length c0_4 A0_5 a0_5.length c0_5 A0_6 a0_6.length c0_6 b0_7 t284.2.1 t501 a0_2 a0_3 a0_4 a0_5 a0_6 a0_7 hr290 rfl hc292 rfl rfl rfl rfl hc506) ?_; rintro _ _ ⟨w507, w508, w509, w510, rfl, rfl, hr511, rfl, hc513⟩; refine At.run 3 rfl ?_; refine At.alloc rfl rfl rfl (fun b515 => ?_); refine At.store rfl rfl rfl rfl .z rfl rfl rfl (.c (.c (.c (.c .n)))) ?_; refine At.run 1 rfl (At.nil (At.thn (At.seq (At.region (At.run 2 rfl ?_))))); refine At.y (Y.load rfl rfl (.s (.s (.s (.s (.s (.s (.s (.s .z)))))))) rfl rfl rfl) rfl rfl rfl ?_; refine At.run 1 rfl ?_; refine At.y (Y.build (is := [0, 1, 2]) (xo := [.tmp 50, .tmp 52, .tmp 53]) (vs := [.int .i64 t273.2.2.1, .string ⟨(t284.2.2.2.2.1).toArray⟩, .int .i64 t505.2.2.1]) (cs := [.int .i64 t273.2.2.1, .string ⟨(t284.2.2.2.2.1).toArray⟩, .int .i64 t505.2.2.1]) rfl rfl rfl rfl rfl rfl) rfl rfl rfl ?_; refine At.alloc rfl rfl rfl (fun b516 => ?_); refine At.store rfl rfl rfl rfl .z rfl rfl rfl (.c (.c (.c .n))) ?_; refine At.nil (At.thn (At.seq (At.seq ?_))); refine At.freeze (.s (.s (.s (.s (.s (.s (.s .z))))))) fun R517 hr518 hn519 hc520 hs521 th522 => ?_; refine At.quiet (by kernel_rfl) ?_; refine At.Quiet.run 3 rfl ?_; refine At.Quiet.y (Y.load rfl rfl (.s (.s (.s .z))) rfl rfl rfl) rfl rfl rfl ?_; refine At.Quiet.y (Y.eqOpt (.s (.s .z)) rfl rfl rfl rfl) rfl rfl rfl ?_; refine At.Quiet.run 1 rfl ?_; obtain ⟨G724, hl725, hr726, j⟩ := bjoin j; refine At.Quiet.joinO 7 (X := Bool) (fun x723 => [(0, .pointer (some ⟨b0, 0, none⟩)), (6, .pointer (some ⟨b294, 0, none⟩)), (7, .pointer (some ⟨b515, 0, none⟩)), (9, .pointer (some ⟨b516, 0, none⟩)), (67, .bool x723)]) (fun x723 => pt b516 (.cells [.int .i64 t273.2.2.1, .string ⟨(t284.2.2.2.2.1).toArray⟩, .int .i64 t505.2.2.1].toArray 148) :: pt b515 (.cells [.int .i64 t505.2.2.2.1, .int .i64 t505.2.2.2.2.1, .string ⟨(t505.2.2.2.2.2.1).toArray⟩, .int .i64 t505.2.2.2.2.2.2].toArray 116) :: optb (Ow.fl Q4.fl) 58 w507 t505.1 :: pt b0 (.cells [.slice w508 t505.2.1.length w510, optp w507, .int .i64 a0_2, .slice A0_3 a0_3.length c0_3, .slice A0_4 a0_4.length c0_4, .slice A0_5 a0_5.length c0_5, .slice A0_6 a0_6.length c0_6, .map (some b0_7)].toArray 114) :: row Fl.bs 9 A0_3 a0_3.length c0_3 a0_3 :: row Q0.fl 35 A0_4 a0_4.length c0_4 a0_4 :: grow Q1.ow 37 A0_5 a0_5.length c0_5 a0_5 :: mapo Fl.bs.ov Fl.bool.ov b0_7 a0_7 :: pt b294 (.cells [.int .i64 t284.2.2.1, .int .i64 t284.2.2.2.1, .string ⟨(t284.2.2.2.2.1).toArray⟩, .int .i64 t284.2.2.2.2.2].toArray 116) :: pt b283 (.cells [.int .i64 t273.2.2.2.1, .int .i64 t273.2.2.2.2.1, .string ⟨(t273.2.2.2.2.2.1).toArray⟩, .int .i64 t273.2.2.2.2.2.2].toArray 116) :: pt b267 (.cells [.int .i64 a1_0, .int .i64 a1_1, .string ⟨(a1_2).toArray⟩, .int .i64 a1_3].toArray 116) :: Fr) (fun x723 => G724 (.inl x723) = some r) ?_ (fun J727 => ?_)
       ·rintro x723 j; have j := (hl725 _).symm.trans j
        ·refine At.Quiet.nil (At.thn ?_); rcases bite j with ⟨h728, j⟩ | ⟨h728, j⟩
         ··refine At.condT rfl h728 ?_
           refine At.region (At.run 1 rfl (At.y (Y.load rfl rfl (.s .z) rfl rfl rfl) rfl rfl rfl ?_)); refine At.thaw th522 ?_; refine At.f8 (At.f1 (At.f8 (At.f8 (At.f8 (At.f7 (At.f8 ?_)))))); obtain ⟨t729, hc730, j⟩ := bbind j; refine At.call rfl Q13.callee rfl rfl rfl (Q13.spec _ _ b0 w508 t505.2.1.length w510 w507 A0_3 a0_3.length c0_3 A0_4 a0_4.length c0_4 A0_5 a0_5.length c0_5 A0_6 a0_6.length c0_6 b0_7 t505.2.1 t505.1 a0_2 a0_3 a0_4 a0_5 a0_6 a0_7 t505.2.2.2.1 t505.2.2.2.2.1 t505.2.2.2.2.2.1 t505.2.2.2.2.2.2 9 hr511 rfl hc513 rfl rfl rfl rfl hc730) ?_; rintro _ _ ⟨w731, rfl, rfl⟩; refine At.nil (At.thn (At.seq (At.region (At.run 1 rfl (At.f6 (At.f6 (At.f6 ?_))))))); refine At.f6 (At.f6 (At.f5 (At.f6 ?_))); obtain ⟨t733, hc734, j⟩ := bbind j; refine At.call rfl Q21.callee rfl rfl rfl (Q21.spec _ _ b0 w508 t505.2.1.length w510 w731 A0_3 a0_3.length c0_3 A0_4 a0_4.length c0_4 A0_5 a0_5.length c0_5 A0_6 a0_6.length c0_6 b0_7 t505.2.1 t729 a0_2 a0_3 a0_4 a0_5 a0_6 a0_7 hr511 rfl hc513 rfl rfl rfl rfl hc734) ?_; rintro _ _ ⟨w735, rfl, rfl⟩; refine At.nil (At.thn (At.seq ?_)); refine At.still 6 (by kernel_rfl) ?_; refine At.Still.run 3 rfl ?_; refine At.Still.y (Y.load rfl rfl .z rfl rfl rfl) rfl rfl rfl ?_; refine At.Still.run 1 rfl ?_; refine At.Still.y (Y.load rfl rfl (.s (.s (.s (.s (.s (.s (.s (.s (.s .z))))))))) rfl rfl rfl) rfl rfl rfl ?_; refine At.Still.nil ?_; refine At.mapUpdate (k := t284.2.2.2.2.1) (v := true) rfl (.s (.s (.s (.s (.s (.s .z)))))) rfl rfl (KeyOk.str rfl rfl) rfl rfl rfl rfl rfl ?_; refine At.nil (At.thn ?_); refine At.held [mapo Fl.bs.ov Fl.bool.ov b0_7 (mset a0_7 t284.2.2.2.2.1 true), optb (Ow.fl Q4.fl) 58 w735 t733, row Fl.bs 9 A0_3 a0_3.length c0_3 a0_3, row Q0.fl 35 A0_4 a0_4.length c0_4 a0_4, grow Q1.ow 37 A0_5 a0_5.length c0_5 a0_5, pt b516 (.cells [.int .i64 t273.2.2.1, .string ⟨(t284.2.2.2.2.1).toArray⟩, .int .i64 t505.2.2.1].toArray 148), pt b515 (.cells [.int .i64 t505.2.2.2.1, .int .i64 t505.2.2.2.2.1, .string ⟨(t505.2.2.2.2.2.1).toArray⟩, .int .i64 t505.2.2.2.2.2.2].toArray 116), pt b294 (.cells [.int .i64 t284.2.2.1, .int .i64 t284.2.2.2.1, .string ⟨(t284.2.2.2.2.1).toArray⟩, .int .i64 t284.2.2.2.2.2].toArray 116), pt b283 (.cells [.int .i64 t273.2.2.2.1, .int .i64 t273.2.2.2.2.1, .string ⟨(t273.2.2.2.2.2.1).toArray⟩, .int .i64 t273.2.2.2.2.2.2].toArray 116), pt b267 (.cells [.int .i64 a1_0, .int .i64 a1_1, .string ⟨(a1_2).toArray⟩, .int .i64 a1_3].toArray 116)] 11 rfl ?_; refine At.H.pw 0 rfl rfl rfl rfl rfl (.c .z (.c (.s .z) (.c (.s .z) (.c (.s .z) (.c (.s .z) (.c (.s (.s .z)) (.c (.s (.s .z)) (.c (.s (.s .z)) (.c (.s (.s .z)) (.c (.s (.s .z)) .n)))))))))) ?_; refine At.H.pw 1 rfl rfl rfl rfl rfl (.c .z (.c (.s .z) (.c (.s .z) (.c (.s .z) (.c (.s .z) (.c (.s (.s .z)) (.c (.s (.s .z)) (.c (.s (.s .z)) (.c (.s (.s .z)) (.c (.s (.s .z)) .n)))))))))) ?_; refine At.H.pw 2 rfl rfl rfl rfl rfl (.c .z (.c (.s .z) (.c (.s .z) (.c (.s .z) (.c (.s .z) (.c (.s (.s .z)) (.c (.s (.s .z)) (.c (.s (.s .z)) (.c (.s (.s .z)) (.c (.s (.s .z)) .n)))))))))) ?_; refine At.H.pw 3 rfl rfl rfl rfl rfl (.c .z (.c (.s .z) (.c (.s .z) (.c (.s .z) (.c (.s .z) (.c (.s (.s .z)) (.c (.s (.s .z)) (.c (.s (.s .z)) (.c (.s (.s .z)) (.c (.s (.s .z)) .n)))))))))) ?_; refine At.H.tw 5 rfl (Y.load rfl rfl (.s (.s (.s (.s (.s .z))))) rfl rfl rfl) rfl rfl rfl (.c .z (.c (.s .z) (.c (.s .z) (.c (.s .z) (.c (.s .z) (.c (.s (.s .z)) (.c (.s (.s .z)) (.c (.s (.s .z)) (.c (.s (.s .z)) (.c (.s (.s .z)) .n)))))))))) ?_; obtain ⟨h939, j⟩ := bnone j; refine At.H.joinK (X := (Option Addr) × Nat) (fun s_ => []) (fun s_ => pt b0 (.cells [.slice w508 t505.2.1.length w510, optp w735, .int .i64 a0_2, .slice A0_3 a0_3.length c0_3, .slice A0_4 a0_4.length c0_4, .slice A0_5 a0_5.length c0_5, .slice s_.1 ((a0_6 ++ ([(⟨t273.2.2.1, t284.2.2.2.2.1, t505.2.2.1⟩ : Q3)] : List Q3)).length) s_.2, .map (some b0_7)].toArray 114) :: row Q3.fl 148 s_.1 ((a0_6 ++ ([(⟨t273.2.2.1, t284.2.2.2.2.1, t505.2.2.1⟩ : Q3)] : List Q3)).length) s_.2 (a0_6 ++ ([(⟨t273.2.2.1, t284.2.2.2.2.1, t505.2.2.1⟩ : Q3)] : List Q3)) :: mapo Fl.bs.ov Fl.bool.ov b0_7 (mset a0_7 t284.2.2.2.2.1 true) :: optb (Ow.fl Q4.fl) 58 w735 t733 :: row Fl.bs 9 A0_3 a0_3.length c0_3 a0_3 :: row Q0.fl 35 A0_4 a0_4.length c0_4 a0_4 :: grow Q1.ow 37 A0_5 a0_5.length c0_5 a0_5 :: pt b516 (.cells [.int .i64 t273.2.2.1, .string ⟨(t284.2.2.2.2.1).toArray⟩, .int .i64 t505.2.2.1].toArray 148) :: pt b515 (.cells [.int .i64 t505.2.2.2.1, .int .i64 t505.2.2.2.2.1, .string ⟨(t505.2.2.2.2.2.1).toArray⟩, .int .i64 t505.2.2.2.2.2.2].toArray 116) :: pt b294 (.cells [.int .i64 t284.2.2.1, .int .i64 t284.2.2.2.1, .string ⟨(t284.2.2.2.2.1).toArray⟩, .int .i64 t284.2.2.2.2.2].toArray 116) :: pt b283 (.cells [.int .i64 t273.2.2.2.1, .int .i64 t273.2.2.2.2.1, .string ⟨(t273.2.2.2.2.2.1).toArray⟩, .int .i64 t273.2.2.2.2.2.2].toArray 116) :: pt b267 (.cells [.int .i64 a1_0, .int .i64 a1_1, .string ⟨(a1_2).toArray⟩, .int .i64 a1_3].toArray 116) :: Fr) (fun s_ => True) ?_ (fun J938 => ?_)
           ·rintro ⟨w936, w937⟩ -
            ·refine At.drop (.s (.s (.s (.s (.s (.s (.s .z))))))) (At.drop (.s (.s (.s (.s (.s (.s (.s .z))))))) (At.drop (.s (.s (.s (.s (.s (.s (.s .z))))))) (At.drop (.s (.s (.s (.s (.s (.s (.s .z))))))) (At.drop (.s (.s (.s (.s (.s (.s (.s .z))))))) (At.f2 (At.f2 (At.f6 ?_))))))); refine At.f6 (At.f6 (At.f5 (At.f6 ?_))); cases bret j; exact At.res (.inr rfl) rfl rfl ⟨(a0_6 ++ ([(⟨t273.2.2.1, t284.2.2.2.2.1, t505.2.2.1⟩ : Q3)] : List Q3)).length, w936, w937, w735, w508, t505.2.1.length, w510, rfl, rfl, rfl, hr511, rfl, hc513⟩
           ·refine At.H.al [4, 6] (Q7 ?_ (Q7 ?_ Q8))
            ··refine At.HO.op rfl ?_
              refine At.y (Y.load rfl rfl (.s .z) rfl rfl rfl) rfl rfl rfl ?_; refine At.HO.back (.c .z (.c (.s .z) (.c (.s .z) (.c (.s .z) (.c (.s .z) (.c (.s (.s .z)) (.c (.s (.s .z)) (.c (.s (.s .z)) (.c (.s (.s .z)) (.c (.s (.s .z)) .n)))))))))) ?_; refine At.H.al [6] (Q7 ?_ Q8)
              ··refine At.HO.op rfl ?_
                refine At.lit rfl (xo := [.tmp 84]) (ys := ([(⟨t273.2.2.1, t284.2.2.2.2.1, t505.2.2.1⟩ : Q3)] : List Q3)) Q3.fl rfl rfl rfl rfl rfl rfl rfl rfl rfl rfl rfl (fun A940 c941 => ?_); refine At.HO.back (.c (.s .z) (.c (.s (.s .z)) (.c (.s (.s .z)) (.c (.s (.s .z)) (.c (.s (.s .z)) (.c (.s (.s (.s .z))) (.c (.s (.s (.s .z))) (.c (.s (.s (.s .z))) (.c (.s (.s (.s .z))) (.c (.s (.s (.s .z))) .n)))))))))) ?_; refine At.H.al [7] (Q7 ?_ Q8)
                ··refine At.HO.op rfl ?_
                  refine At.append rfl (.s (.s (.s (.s (.s (.s (.s .z))))))) (Src.own .z (by simp)) rfl rfl rfl rfl rfl rfl rfl rfl h939 (by decide) rfl (fun A943 c944 => ?_); refine At.drop (.s .z) ?_; refine At.HO.back (.c (.s .z) (.c (.s (.s .z)) (.c (.s (.s .z)) (.c (.s (.s .z)) (.c (.s (.s .z)) (.c (.s (.s .z)) (.c (.s (.s .z)) (.c (.s (.s .z)) (.c (.s (.s .z)) (.c (.s (.s .z)) .n)))))))))) ?_; refine At.H.pw 8 rfl rfl rfl rfl rfl (.c (.s .z) (.c (.s (.s .z)) (.c (.s (.s .z)) (.c (.s (.s .z)) (.c (.s (.s .z)) (.c (.s (.s .z)) (.c (.s (.s .z)) (.c (.s (.s .z)) (.c (.s (.s .z)) (.c (.s (.s .z)) .n)))))))))) ?_; refine At.H.pw 9 rfl rfl rfl rfl rfl (.c (.s .z) (.c (.s (.s .z)) (.c (.s (.s .z)) (.c (.s (.s .z)) (.c (.s (.s .z)) (.c (.s (.s .z)) (.c (.s (.s .z)) (.c (.s (.s .z)) (.c (.s (.s .z)) (.c (.s (.s .z)) .n)))))))))) ?_; refine At.H.al [10] (Q7 ?_ Q8)
                  ··refine At.HO.op rfl ?_
                    refine At.store rfl rfl rfl rfl (.s (.s .z)) rfl rfl rfl (.s (.s (.s (.s (.s (.s (.c .n))))))) ?_; refine At.HO.back (.c (.s (.s .z)) (.c (.s (.s .z)) (.c (.s (.s .z)) (.c (.s (.s .z)) (.c (.s (.s .z)) (.c (.s (.s .z)) (.c (.s (.s .z)) (.c (.s (.s .z)) (.c (.s (.s .z)) (.c (.s (.s .z)) .n)))))))))) ?_; refine At.H.done (by kernel_rfl) ?_; exact At.of (J938 (A943, c944) trivial) trivial
            ··refine At.HO.op rfl ?_
              refine At.lit rfl (xo := [.tmp 84]) (ys := ([(⟨t273.2.2.1, t284.2.2.2.2.1, t505.2.2.1⟩ : Q3)] : List Q3)) Q3.fl rfl rfl rfl rfl rfl rfl rfl rfl rfl rfl rfl (fun A945 c946 => ?_); refine At.HO.back (.c (.s .z) (.c (.s (.s .z)) (.c (.s (.s .z)) (.c (.s (.s .z)) (.c (.s (.s .z)) (.c (.s (.s (.s .z))) (.c (.s (.s (.s .z))) (.c (.s (.s (.s .z))) (.c (.s (.s (.s .z))) (.c (.s (.s (.s .z))) .n)))))))))) ?_; refine At.H.al [4] (Q7 ?_ Q8)
              ··refine At.HO.op rfl ?_
                refine At.y (Y.load rfl rfl (.s (.s .z)) rfl rfl rfl) rfl rfl rfl ?_; refine At.HO.back (.c (.s .z) (.c (.s (.s .z)) (.c (.s (.s .z)) (.c (.s (.s .z)) (.c (.s (.s .z)) (.c (.s (.s (.s .z))) (.c (.s (.s (.s .z))) (.c (.s (.s (.s .z))) (.c (.s (.s (.s .z))) (.c (.s (.s (.s .z))) .n)))))))))) ?_; refine At.H.al [7] (Q7 ?_ Q8)
                ··refine At.HO.op rfl ?_
                  refine At.append rfl (.s (.s (.s (.s (.s (.s (.s .z))))))) (Src.own .z (by simp)) rfl rfl rfl rfl rfl rfl rfl rfl h939 (by decide) rfl (fun A948 c949 => ?_); refine At.drop (.s .z) ?_; refine At.HO.back (.c (.s .z) (.c (.s (.s .z)) (.c (.s (.s .z)) (.c (.s (.s .z)) (.c (.s (.s .z)) (.c (.s (.s .z)) (.c (.s (.s .z)) (.c (.s (.s .z)) (.c (.s (.s .z)) (.c (.s (.s .z)) .n)))))))))) ?_; refine At.H.pw 8 rfl rfl rfl rfl rfl (.c (.s .z) (.c (.s (.s .z)) (.c (.s (.s .z)) (.c (.s (.s .z)) (.c (.s (.s .z)) (.c (.s (.s .z)) (.c (.s (.s .z)) (.c (.s (.s .z)) (.c (.s (.s .z)) (.c (.s (.s .z)) .n)))))))))) ?_; refine At.H.pw 9 rfl rfl rfl rfl rfl (.c (.s .z) (.c (.s (.s .z)) (.c (.s (.s .z)) (.c (.s (.s .z)) (.c (.s (.s .z)) (.c (.s (.s .z)) (.c (.s (.s .z)) (.c (.s (.s .z)) (.c (.s (.s .z)) (.c (.s (.s .z)) .n)))))))))) ?_; refine At.H.al [10] (Q7 ?_ Q8)
                  ··refine At.HO.op rfl ?_
                    refine At.store rfl rfl rfl rfl (.s (.s .z)) rfl rfl rfl (.s (.s (.s (.s (.s (.s (.c .n))))))) ?_; refine At.HO.back (.c (.s (.s .z)) (.c (.s (.s .z)) (.c (.s (.s .z)) (.c (.s (.s .z)) (.c (.s (.s .z)) (.c (.s (.s .z)) (.c (.s (.s .z)) (.c (.s (.s .z)) (.c (.s (.s .z)) (.c (.s (.s .z)) .n)))))))))) ?_; refine At.H.done (by kernel_rfl) ?_; exact At.of (J938 (A948, c949) trivial) trivial
         ··refine At.condF rfl (bn h728) ?_
           refine At.skip (At.thn (At.seq (At.region (At.run 1 rfl ?_)))); refine At.thaw th522 ?_; refine At.f8 (At.f1 (At.f8 (At.f8 (At.f8 (At.f7 (At.f8 ?_)))))); obtain ⟨t950, hc951, j⟩ := bbind j; refine At.call rfl Q21.callee rfl rfl rfl (Q21.spec _ _ b0 w508 t505.2.1.length w510 w507 A0_3 a0_3.length c0_3 A0_4 a0_4.length c0_4 A0_5 a0_5.length c0_5 A0_6 a0_6.length c0_6 b0_7 t505.2.1 t505.1 a0_2 a0_3 a0_4 a0_5 a0_6 a0_7 hr511 rfl hc513 rfl rfl rfl rfl hc951) ?_; rintro _ _ ⟨w952, rfl, rfl⟩; refine At.nil (At.thn (At.seq ?_)); refine At.still 6 (by kernel_rfl) ?_; refine At.Still.run 3 rfl ?_; refine At.Still.y (Y.load rfl rfl .z rfl rfl rfl) rfl rfl rfl ?_; refine At.Still.run 1 rfl ?_; refine At.Still.y (Y.load rfl rfl (.s (.s (.s (.s (.s (.s (.s (.s (.s .z))))))))) rfl rfl rfl) rfl rfl rfl ?_; refine At.Still.nil ?_; refine At.mapUpdate (k := t284.2.2.2.2.1) (v := true) rfl (.s (.s (.s (.s (.s (.s .z)))))) rfl rfl (KeyOk.str rfl rfl) rfl rfl rfl rfl rfl ?_; refine At.nil (At.thn ?_); refine At.held [mapo Fl.bs.ov Fl.bool.ov b0_7 (mset a0_7 t284.2.2.2.2.1 true), optb (Ow.fl Q4.fl) 58 w952 t950, row Fl.bs 9 A0_3 a0_3.length c0_3 a0_3, row Q0.fl 35 A0_4 a0_4.length c0_4 a0_4, grow Q1.ow 37 A0_5 a0_5.length c0_5 a0_5, pt b516 (.cells [.int .i64 t273.2.2.1, .string ⟨(t284.2.2.2.2.1).toArray⟩, .int .i64 t505.2.2.1].toArray 148), pt b515 (.cells [.int .i64 t505.2.2.2.1, .int .i64 t505.2.2.2.2.1, .string ⟨(t505.2.2.2.2.2.1).toArray⟩, .int .i64 t505.2.2.2.2.2.2].toArray 116), pt b294 (.cells [.int .i64 t284.2.2.1, .int .i64 t284.2.2.2.1, .string ⟨(t284.2.2.2.2.1).toArray⟩, .int .i64 t284.2.2.2.2.2].toArray 116), pt b283 (.cells [.int .i64 t273.2.2.2.1, .int .i64 t273.2.2.2.2.1, .string ⟨(t273.2.2.2.2.2.1).toArray⟩, .int .i64 t273.2.2.2.2.2.2].toArray 116), pt b267 (.cells [.int .i64 a1_0, .int .i64 a1_1, .string ⟨(a1_2).toArray⟩, .int .i64 a1_3].toArray 116)] 11 rfl ?_; refine At.H.pw 0 rfl rfl rfl rfl rfl (.c .z (.c (.s .z) (.c (.s .z) (.c (.s .z) (.c (.s .z) (.c (.s (.s .z)) (.c (.s (.s .z)) (.c (.s (.s .z)) (.c (.s (.s .z)) (.c (.s (.s .z)) .n)))))))))) ?_; refine At.H.pw 1 rfl rfl rfl rfl rfl (.c .z (.c (.s .z) (.c (.s .z) (.c (.s .z) (.c (.s .z) (.c (.s (.s .z)) (.c (.s (.s .z)) (.c (.s (.s .z)) (.c (.s (.s .z)) (.c (.s (.s .z)) .n)))))))))) ?_; refine At.H.pw 2 rfl rfl rfl rfl rfl (.c .z (.c (.s .z) (.c (.s .z) (.c (.s .z) (.c (.s .z) (.c (.s (.s .z)) (.c (.s (.s .z)) (.c (.s (.s .z)) (.c (.s (.s .z)) (.c (.s (.s .z)) .n)))))))))) ?_; refine At.H.pw 3 rfl rfl rfl rfl rfl (.c .z (.c (.s .z) (.c (.s .z) (.c (.s .z) (.c (.s .z) (.c (.s (.s .z)) (.c (.s (.s .z)) (.c (.s (.s .z)) (.c (.s (.s .z)) (.c (.s (.s .z)) .n)))))))))) ?_; refine At.H.tw 5 rfl (Y.load rfl rfl (.s (.s (.s (.s (.s .z))))) rfl rfl rfl) rfl rfl rfl (.c .z (.c (.s .z) (.c (.s .z) (.c (.s .z) (.c (.s .z) (.c (.s (.s .z)) (.c (.s (.s .z)) (.c (.s (.s .z)) (.c (.s (.s .z)) (.c (.s (.s .z)) .n)))))))))) ?_; obtain ⟨h1156, j⟩ := bnone j; refine At.H.joinK (X := (Option Addr) × Nat) (fun s_ => []) (fun s_ => pt b0 (.cells [.slice w508 t505.2.1.length w510, optp w952, .int .i64 a0_2, .slice A0_3 a0_3.length c0_3, .slice A0_4 a0_4.length c0_4, .slice A0_5 a0_5.length c0_5, .slice s_.1 ((a0_6 ++ ([(⟨t273.2.2.1, t284.2.2.2.2.1, t505.2.2.1⟩ : Q3)] : List Q3)).length) s_.2, .map (some b0_7)].toArray 114) :: row Q3.fl 148 s_.1 ((a0_6 ++ ([(⟨t273.2.2.1, t284.2.2.2.2.1, t505.2.2.1⟩ : Q3)] : List Q3)).length) s_.2 (a0_6 ++ ([(⟨t273.2.2.1, t284.2.2.2.2.1, t505.2.2.1⟩ : Q3)] : List Q3)) :: mapo Fl.bs.ov Fl.bool.ov b0_7 (mset a0_7 t284.2.2.2.2.1 true) :: optb (Ow.fl Q4.fl) 58 w952 t950 :: row Fl.bs 9 A0_3 a0_3.length c0_3 a0_3 :: row Q0.fl 35 A0_4 a0_4.length c0_4 a0_4 :: grow Q1.ow 37 A0_5 a0_5.length c0_5 a0_5 :: pt b516 (.cells [.int .i64 t273.2.2.1, .string ⟨(t284.2.2.2.2.1).toArray⟩, .int .i64 t505.2.2.1].toArray 148) :: pt b515 (.cells [.int .i64 t505.2.2.2.1, .int .i64 t505.2.2.2.2.1, .string ⟨(t505.2.2.2.2.2.1).toArray⟩, .int .i64 t505.2.2.2.2.2.2].toArray 116) :: pt b294 (.cells [.int .i64 t284.2.2.1, .int .i64 t284.2.2.2.1, .string ⟨(t284.2.2.2.2.1).toArray⟩, .int .i64 t284.2.2.2.2.2].toArray 116) :: pt b283 (.cells [.int .i64 t273.2.2.2.1, .int .i64 t273.2.2.2.2.1, .string ⟨(t273.2.2.2.2.2.1).toArray⟩, .int .i64 t273.2.2.2.2.2.2].toArray 116) :: pt b267 (.cells [.int .i64 a1_0, .int .i64 a1_1, .string ⟨(a1_2).toArray⟩, .int .i64 a1_3].toArray 116) :: Fr) (fun s_ => True) ?_ (fun J1155 => ?_)
           ·rintro ⟨w1153, w1154⟩ -
            ·refine At.drop (.s (.s (.s (.s (.s (.s (.s .z))))))) (At.drop (.s (.s (.s (.s (.s (.s (.s .z))))))) (At.drop (.s (.s (.s (.s (.s (.s (.s .z))))))) (At.drop (.s (.s (.s (.s (.s (.s (.s .z))))))) (At.drop (.s (.s (.s (.s (.s (.s (.s .z))))))) (At.f2 (At.f2 (At.f6 ?_))))))); refine At.f6 (At.f6 (At.f5 (At.f6 ?_))); cases bret j; exact At.res (.inr rfl) rfl rfl ⟨(a0_6 ++ ([(⟨t273.2.2.1, t284.2.2.2.2.1, t505.2.2.1⟩ : Q3)] : List Q3)).length, w1153, w1154, w952, w508, t505.2.1.length, w510, rfl, rfl, rfl, hr511, rfl, hc513⟩
           ·refine At.H.al [4, 6] (Q7 ?_ (Q7 ?_ Q8))
            ··refine At.HO.op rfl ?_
              refine At.y (Y.load rfl rfl (.s .z) rfl rfl rfl) rfl rfl rfl ?_; refine At.HO.back (.c .z (.c (.s .z) (.c (.s .z) (.c (.s .z) (.c (.s .z) (.c (.s (.s .z)) (.c (.s (.s .z)) (.c (.s (.s .z)) (.c (.s (.s .z)) (.c (.s (.s .z)) .n)))))))))) ?_; refine At.H.al [6] (Q7 ?_ Q8)
              ··refine At.HO.op rfl ?_
                refine At.lit rfl (xo := [.tmp 84]) (ys := ([(⟨t273.2.2.1, t284.2.2.2.2.1, t505.2.2.1⟩ : Q3)] : List Q3)) Q3.fl rfl rfl rfl rfl rfl rfl rfl rfl rfl rfl rfl (fun A1157 c1158 => ?_); refine At.HO.back (.c (.s .z) (.c (.s (.s .z)) (.c (.s (.s .z)) (.c (.s (.s .z)) (.c (.s (.s .z)) (.c (.s (.s (.s .z))) (.c (.s (.s (.s .z))) (.c (.s (.s (.s .z))) (.c (.s (.s (.s .z))) (.c (.s (.s (.s .z))) .n)))))))))) ?_; refine At.H.al [7] (Q7 ?_ Q8)
                ··refine At.HO.op rfl ?_
                  refine At.append rfl (.s (.s (.s (.s (.s (.s (.s .z))))))) (Src.own .z (by simp)) rfl rfl rfl rfl rfl rfl rfl rfl h1156 (by decide) rfl (fun A1160 c1161 => ?_); refine At.drop (.s .z) ?_; refine At.HO.back (.c (.s .z) (.c (.s (.s .z)) (.c (.s (.s .z)) (.c (.s (.s .z)) (.c (.s (.s .z)) (.c (.s (.s .z)) (.c (.s (.s .z)) (.c (.s (.s .z)) (.c (.s (.s .z)) (.c (.s (.s .z)) .n)))))))))) ?_; refine At.H.pw 8 rfl rfl rfl rfl rfl (.c (.s .z) (.c (.s (.s .z)) (.c (.s (.s .z)) (.c (.s (.s .z)) (.c (.s (.s .z)) (.c (.s (.s .z)) (.c (.s (.s .z)) (.c (.s (.s .z)) (.c (.s (.s .z)) (.c (.s (.s .z)) .n)))))))))) ?_; refine At.H.pw 9 rfl rfl rfl rfl rfl (.c (.s .z) (.c (.s (.s .z)) (.c (.s (.s .z)) (.c (.s (.s .z)) (.c (.s (.s .z)) (.c (.s (.s .z)) (.c (.s (.s .z)) (.c (.s (.s .z)) (.c (.s (.s .z)) (.c (.s (.s .z)) .n)))))))))) ?_; refine At.H.al [10] (Q7 ?_ Q8)
                  ··refine At.HO.op rfl ?_
                    refine At.store rfl rfl rfl rfl (.s (.s .z)) rfl rfl rfl (.s (.s (.s (.s (.s (.s (.c .n))))))) ?_; refine At.HO.back (.c (.s (.s .z)) (.c (.s (.s .z)) (.c (.s (.s .z)) (.c (.s (.s .z)) (.c (.s (.s .z)) (.c (.s (.s .z)) (.c (.s (.s .z)) (.c (.s (.s .z)) (.c (.s (.s .z)) (.c (.s (.s .z)) .n)))))))))) ?_; refine At.H.done (by kernel_rfl) ?_; exact At.of (J1155 (A1160, c1161) trivial) trivial
            ··refine At.HO.op rfl ?_
              refine At.lit rfl (xo := [.tmp 84]) (ys := ([(⟨t273.2.2.1, t284.2.2.2.2.1, t505.2.2.1⟩ : Q3)] : List Q3)) Q3.fl rfl rfl rfl rfl rfl rfl rfl rfl rfl rfl rfl (fun A1162 c1163 => ?_); refine At.HO.back (.c (.s .z) (.c (.s (.s .z)) (.c (.s (.s .z)) (.c (.s (.s .z)) (.c (.s (.s .z)) (.c (.s (.s (.s .z))) (.c (.s (.s (.s .z))) (.c (.s (.s (.s .z))) (.c (.s (.s (.s .z))) (.c (.s (.s (.s .z))) .n)))))))))) ?_; refine At.H.al [4] (Q7 ?_ Q8)
              ··refine At.HO.op rfl ?_
                refine At.y (Y.load rfl rfl (.s (.s .z)) rfl rfl rfl) rfl rfl rfl ?_; refine At.HO.back (.c (.s .z) (.c (.s (.s .z)) (.c (.s (.s .z)) (.c (.s (.s .z)) (.c (.s (.s .z)) (.c (.s (.s (.s .z))) (.c (.s (.s (.s .z))) (.c (.s (.s (.s .z))) (.c (.s (.s (.s .z))) (.c (.s (.s (.s .z))) .n)))))))))) ?_; refine At.H.al [7] (Q7 ?_ Q8)
                ··refine At.HO.op rfl ?_
                  refine At.append rfl (.s (.s (.s (.s (.s (.s (.s .z))))))) (Src.own .z (by simp)) rfl rfl rfl rfl rfl rfl rfl rfl h1156 (by decide) rfl (fun A1165 c1166 => ?_); refine At.drop (.s .z) ?_; refine At.HO.back (.c (.s .z) (.c (.s (.s .z)) (.c (.s (.s .z)) (.c (.s (.s .z)) (.c (.s (.s .z)) (.c (.s (.s .z)) (.c (.s (.s .z)) (.c (.s (.s .z)) (.c (.s (.s .z)) (.c (.s (.s .z)) .n)))))))))) ?_; refine At.H.pw 8 rfl rfl rfl rfl rfl (.c (.s .z) (.c (.s (.s .z)) (.c (.s (.s .z)) (.c (.s (.s .z)) (.c (.s (.s .z)) (.c (.s (.s .z)) (.c (.s (.s .z)) (.c (.s (.s .z)) (.c (.s (.s .z)) (.c (.s (.s .z)) .n)))))))))) ?_; refine At.H.pw 9 rfl rfl rfl rfl rfl (.c (.s .z) (.c (.s (.s .z)) (.c (.s (.s .z)) (.c (.s (.s .z)) (.c (.s (.s .z)) (.c (.s (.s .z)) (.c (.s (.s .z)) (.c (.s (.s .z)) (.c (.s (.s .z)) (.c (.s (.s .z)) .n)))))))))) ?_; refine At.H.al [10] (Q7 ?_ Q8)
                  ··refine At.HO.op rfl ?_
                    refine At.store rfl rfl rfl rfl (.s (.s .z)) rfl rfl rfl (.s (.s (.s (.s (.s (.s (.c .n))))))) ?_; refine At.HO.back (.c (.s (.s .z)) (.c (.s (.s .z)) (.c (.s (.s .z)) (.c (.s (.s .z)) (.c (.s (.s .z)) (.c (.s (.s .z)) (.c (.s (.s .z)) (.c (.s (.s .z)) (.c (.s (.s .z)) (.c (.s (.s .z)) .n)))))))))) ?_; refine At.H.done (by kernel_rfl) ?_; exact At.of (J1155 (A1165, c1166) trivial) trivial
       ··rcases bite j with ⟨h1167, j⟩ | ⟨h1167, j⟩
         ··refine At.Quiet.know (t := 60) rfl h1167 ?_
           refine At.Quiet.run 3 rfl ?_; refine At.Quiet.y (Y.load rfl rfl (.s (.s (.s .z))) rfl rfl rfl) rfl rfl rfl ?_; refine At.Quiet.y (Y.load rfl rfl .z rfl rfl rfl) rfl rfl rfl ?_; obtain ⟨t1168, hc1169, j⟩ := bbind j; refine At.Quiet.call rfl Q56.callee rfl rfl rfl (Q56.spec _ _ A0_6 a0_6.length c0_6 a0_6 t273.2.2.1 t284.2.2.2.2.1 t505.2.2.1 hr518 hn519 hc520 hc1169) (fun _ _ h_ => ⟨h_.1, fun _ hs => h_.2 ▸ hs⟩) ?_; refine At.Quiet.run 1 rfl ?_; exact At.Quiet.of (J727 t1168 j) ⟨rfl, rfl, rfl, rfl, rfl, trivial⟩
         ··refine At.Quiet.know (t := 60) rfl (bn h1167) ?_
           refine At.Quiet.run 7 rfl ?_; exact At.Quiet.of (J727 false j) ⟨rfl, rfl, rfl, rfl, rfl, trivial⟩
     ··refine At.condF rfl (bn h500) ?_
       refine At.skip (At.thn (At.seq (At.region (At.run 1 rfl (At.f7 (At.f7 (At.f7 ?_))))))); refine At.f7 (At.f7 (At.f6 (At.f7 ?_))); obtain ⟨t1170, hc1171, j⟩ := bbind j; refine At.call rfl Q44.callee rfl rfl rfl (Q44.spec _ _ b0 w287 t284.2.1.length w289 w286 A0_3 a0_3.length c0_3 A0_4 a0_4.length c0_4 A0_5 a0_5.length c0_5 A0_6 a0_6.length c0_6 b0_7 t284.2.1 t284.1 a0_2 a0_3 a0_4 a0_5 a0_6 a0_7 hr290 rfl hc292 rfl rfl rfl rfl hc1171) ?_; rintro _ _ ⟨w1172, w1173, w1174, w1175, rfl, rfl, hr1176, rfl, hc1178⟩; refine At.run 3 rfl ?_; refine At.alloc rfl rfl rfl (fun b1180 => ?_); refine At.store rfl rfl rfl rfl .z rfl rfl rfl (.c (.c (.c (.c .n)))) ?_; refine At.run 1 rfl (At.nil (At.thn (At.seq (At.region (At.run 2 rfl ?_))))); refine At.y (Y.load rfl rfl (.s (.s (.s (.s (.s (.s (.s (.s .z)))))))) rfl rfl rfl) rfl rfl rfl ?_; refine At.run 1 rfl ?_; refine At.y (Y.build (is := [0, 1, 2]) (xo := [.tmp 50, .tmp 52, .tmp 53]) (vs := [.int .i64 t273.2.2.1, .string ⟨(t284.2.2.2.2.1).toArray⟩, .int .i64 t1170.2.2.1]) (cs := [.int .i64 t273.2.2.1, .string ⟨(t284.2.2.2.2.1).toArray⟩, .int .i64 t1170.2.2.1]) rfl rfl rfl rfl rfl rfl) rfl rfl rfl ?_; refine At.alloc rfl rfl rfl (fun b1181 => ?_); refine At.store rfl rfl rfl rfl .z rfl rfl rfl (.c (.c (.c .n))) ?_; refine At.nil (At.thn (At.seq (At.seq ?_))); refine At.freeze (.s (.s (.s (.s (.s (.s (.s .z))))))) fun R1182 hr1183 hn1184 hc1185 hs1186 th1187 => ?_; refine At.quiet (by kernel_rfl) ?_; refine At.Quiet.run 3 rfl ?_; refine At.Quiet.y (Y.load rfl rfl (.s (.s (.s .z))) rfl rfl rfl) rfl rfl rfl ?_; refine At.Quiet.y (Y.eqOpt (.s (.s .z)) rfl rfl rfl rfl) rfl rfl rfl ?_; refine At.Quiet.run 1 rfl ?_; obtain ⟨G1389, hl1390, hr1391, j⟩ := bjoin j; refine At.Quiet.joinO 7 (X := Bool) (fun x1388 => [(0, .pointer (some ⟨b0, 0, none⟩)), (6, .pointer (some ⟨b294, 0, none⟩)), (7, .pointer (some ⟨b1180, 0, none⟩)), (9, .pointer (some ⟨b1181, 0, none⟩)), (67, .bool x1388)]) (fun x1388 => pt b1181 (.cells [.int .i64 t273.2.2.1, .string ⟨(t284.2.2.2.2.1).toArray⟩, .int .i64 t1170.2.2.1].toArray 148) :: pt b1180 (.cells [.int .i64 t1170.2.2.2.1, .int .i64 t1170.2.2.2.2.1, .string ⟨(t1170.2.2.2.2.2.1).toArray⟩, .int .i64 t1170.2.2.2.2.2.2].toArray 116) :: optb (Ow.fl Q4.fl) 58 w1172 t1170.1 :: pt b0 (.cells [.slice w1173 t1170.2.1.length w1175, optp w1172, .int .i64 a0_2, .slice A0_3 a0_3.length c0_3, .slice A0_4 a0_4.length c0_4, .slice A0_5 a0_5.length c0_5, .slice A0_6 a0_6.length c0_6, .map (some b0_7)].toArray 114) :: row Fl.bs 9 A0_3 a0_3.length c0_3 a0_3 :: row Q0.fl 35 A0_4 a0_4.length c0_4 a0_4 :: grow Q1.ow 37 A0_5 a0_5.length c0_5 a0_5 :: mapo Fl.bs.ov Fl.bool.ov b0_7 a0_7 :: pt b294 (.cells [.int .i64 t284.2.2.1, .int .i64 t284.2.2.2.1, .string ⟨(t284.2.2.2.2.1).toArray⟩, .int .i64 t284.2.2.2.2.2].toArray 116) :: pt b283 (.cells [.int .i64 t273.2.2.2.1, .int .i64 t273.2.2.2.2.1, .string ⟨(t273.2.2.2.2.2.1).toArray⟩, .int .i64 t273.2.2.2.2.2.2].toArray 116) :: pt b267 (.cells [.int .i64 a1_0, .int .i64 a1_1, .string ⟨(a1_2).toArray⟩, .int .i64 a1_3].toArray 116) :: Fr) (fun x1388 => G1389 (.inl x1388) = some r) ?_ (fun J1392 => ?_)
       ·rintro x1388 j; have j := (hl1390 _).symm.trans j
        ·refine At.Quiet.nil (At.thn ?_); rcases bite j with ⟨h1393, j⟩ | ⟨h1393, j⟩
         ··refine At.condT rfl h1393 ?_
           refine At.region (At.run 1 rfl (At.y (Y.load rfl rfl (.s .z) rfl rfl rfl) rfl rfl rfl ?_)); refine At.thaw th1187 ?_; refine At.f8 (At.f1 (At.f8 (At.f8 (At.f8 (At.f7 (At.f8 ?_)))))); obtain ⟨t1394, hc1395, j⟩ := bbind j; refine At.call rfl Q13.callee rfl rfl rfl (Q13.spec _ _ b0 w1173 t1170.2.1.length w1175 w1172 A0_3 a0_3.length c0_3 A0_4 a0_4.length c0_4 A0_5 a0_5.length c0_5 A0_6 a0_6.length c0_6 b0_7 t1170.2.1 t1170.1 a0_2 a0_3 a0_4 a0_5 a0_6 a0_7 t1170.2.2.2.1 t1170.2.2.2.2.1 t1170.2.2.2.2.2.1 t1170.2.2.2.2.2.2 9 hr1176 rfl hc1178 rfl rfl rfl rfl hc1395) ?_; rintro _ _ ⟨w1396, rfl, rfl⟩; refine At.nil (At.thn (At.seq (At.region (At.run 1 rfl (At.f6 (At.f6 (At.f6 ?_))))))); refine At.f6 (At.f6 (At.f5 (At.f6 ?_))); obtain ⟨t1398, hc1399, j⟩ := bbind j; refine At.call rfl Q21.callee rfl rfl rfl (Q21.spec _ _ b0 w1173 t1170.2.1.length w1175 w1396 A0_3 a0_3.length c0_3 A0_4 a0_4.length c0_4 A0_5 a0_5.length c0_5 A0_6 a0_6.length c0_6 b0_7 t1170.2.1 t1394 a0_2 a0_3 a0_4 a0_5 a0_6 a0_7 hr1176 rfl hc1178 rfl rfl rfl rfl hc1399) ?_; rintro _ _ ⟨w1400, rfl, rfl⟩; refine At.nil (At.thn (At.seq ?_)); refine At.still 6 (by kernel_rfl) ?_; refine At.Still.run 3 rfl ?_; refine At.Still.y (Y.load rfl rfl .z rfl rfl rfl) rfl rfl rfl ?_; refine At.Still.run 1 rfl ?_; refine At.Still.y (Y.load rfl rfl (.s (.s (.s (.s (.s (.s (.s (.s (.s .z))))))))) rfl rfl rfl) rfl rfl rfl ?_; refine At.Still.nil ?_; refine At.mapUpdate (k := t284.2.2.2.2.1) (v := true) rfl (.s (.s (.s (.s (.s (.s .z)))))) rfl rfl (KeyOk.str rfl rfl) rfl rfl rfl rfl rfl ?_; refine At.nil (At.thn ?_); refine At.held [mapo Fl.bs.ov Fl.bool.ov b0_7 (mset a0_7 t284.2.2.2.2.1 true), optb (Ow.fl Q4.fl) 58 w1400 t1398, row Fl.bs 9 A0_3 a0_3.length c0_3 a0_3, row Q0.fl 35 A0_4 a0_4.length c0_4 a0_4, grow Q1.ow 37 A0_5 a0_5.length c0_5 a0_5, pt b1181 (.cells [.int .i64 t273.2.2.1, .string ⟨(t284.2.2.2.2.1).toArray⟩, .int .i64 t1170.2.2.1].toArray 148), pt b1180 (.cells [.int .i64 t1170.2.2.2.1, .int .i64 t1170.2.2.2.2.1, .string ⟨(t1170.2.2.2.2.2.1).toArray⟩, .int .i64 t1170.2.2.2.2.2.2].toArray 116), pt b294 (.cells [.int .i64 t284.2.2.1, .int .i64 t284.2.2.2.1, .string ⟨(t284.2.2.2.2.1).toArray⟩, .int .i64 t284.2.2.2.2.2].toArray 116), pt b283 (.cells [.int .i64 t273.2.2.2.1, .int .i64 t273.2.2.2.2.1, .string ⟨(t273.2.2.2.2.2.1).toArray⟩, .int .i64 t273.2.2.2.2.2.2].toArray 116), pt b267 (.cells [.int .i64 a1_0, .int .i64 a1_1, .string ⟨(a1_2).toArray⟩, .int .i64 a1_3].toArray 116)] 11 rfl ?_; refine At.H.pw 0 rfl rfl rfl rfl rfl (.c .z (.c (.s .z) (.c (.s .z) (.c (.s .z) (.c (.s .z) (.c (.s (.s .z)) (.c (.s (.s .z)) (.c (.s (.s .z)) (.c (.s (.s .z)) (.c (.s (.s .z)) .n)))))))))) ?_; refine At.H.pw 1 rfl rfl rfl rfl rfl (.c .z (.c (.s .z) (.c (.s .z) (.c (.s .z) (.c (.s .z) (.c (.s (.s .z)) (.c (.s (.s .z)) (.c (.s (.s .z)) (.c (.s (.s .z)) (.c (.s (.s .z)) .n)))))))))) ?_; refine At.H.pw 2 rfl rfl rfl rfl rfl (.c .z (.c (.s .z) (.c (.s .z) (.c (.s .z) (.c (.s .z) (.c (.s (.s .z)) (.c (.s (.s .z)) (.c (.s (.s .z)) (.c (.s (.s .z)) (.c (.s (.s .z)) .n)))))))))) ?_; refine At.H.pw 3 rfl rfl rfl rfl rfl (.c .z (.c (.s .z) (.c (.s .z) (.c (.s .z) (.c (.s .z) (.c (.s (.s .z)) (.c (.s (.s .z)) (.c (.s (.s .z)) (.c (.s (.s .z)) (.c (.s (.s .z)) .n)))))))))) ?_; refine At.H.tw 5 rfl (Y.load rfl rfl (.s (.s (.s (.s (.s .z))))) rfl rfl rfl) rfl rfl rfl (.c .z (.c (.s .z) (.c (.s .z) (.c (.s .z) (.c (.s .z) (.c (.s (.s .z)) (.c (.s (.s .z)) (.c (.s (.s .z)) (.c (.s (.s .z)) (.c (.s (.s .z)) .n)))))))))) ?_; obtain ⟨h1604, j⟩ := bnone j; refine At.H.joinK (X := (Option Addr) × Nat) (fun s_ => []) (fun s_ => pt b0 (.cells [.slice w1173 t1170.2.1.length w1175, optp w1400, .int .i64 a0_2, .slice A0_3 a0_3.length c0_3, .slice A0_4 a0_4.length c0_4, .slice A0_5 a0_5.length c0_5, .slice s_.1 ((a0_6 ++ ([(⟨t273.2.2.1, t284.2.2.2.2.1, t1170.2.2.1⟩ : Q3)] : List Q3)).length) s_.2, .map (some b0_7)].toArray 114) :: row Q3.fl 148 s_.1 ((a0_6 ++ ([(⟨t273.2.2.1, t284.2.2.2.2.1, t1170.2.2.1⟩ : Q3)] : List Q3)).length) s_.2 (a0_6 ++ ([(⟨t273.2.2.1, t284.2.2.2.2.1, t1170.2.2.1⟩ : Q3)] : List Q3)) :: mapo Fl.bs.ov Fl.bool.ov b0_7 (mset a0_7 t284.2.2.2.2.1 true) :: optb (Ow.fl Q4.fl) 58 w1400 t1398 :: row Fl.bs 9 A0_3 a0_3.length c0_3 a0_3 :: row Q0.fl 35 A0_4 a0_4.length c0_4 a0_4 :: grow Q1.ow 37 A0_5 a0_5.length c0_5 a0_5 :: pt b1181 (.cells [.int .i64 t273.2.2.1, .string ⟨(t284.2.2.2.2.1).toArray⟩, .int .i64 t1170.2.2.1].toArray 148) :: pt b1180 (.cells [.int .i64 t1170.2.2.2.1, .int .i64 t1170.2.2.2.2.1, .string ⟨(t1170.2.2.2.2.2.1).toArray⟩, .int .i64 t1170.2.2.2.2.2.2].toArray 116) :: pt b294 (.cells [.int .i64 t284.2.2.1, .int .i64 t284.2.2.2.1, .string ⟨(t284.2.2.2.2.1).toArray⟩, .int .i64 t284.2.2.2.2.2].toArray 116) :: pt b283 (.cells [.int .i64 t273.2.2.2.1, .int .i64 t273.2.2.2.2.1, .string ⟨(t273.2.2.2.2.2.1).toArray⟩, .int .i64 t273.2.2.2.2.2.2].toArray 116) :: pt b267 (.cells [.int .i64 a1_0, .int .i64 a1_1, .string ⟨(a1_2).toArray⟩, .int .i64 a1_3].toArray 116) :: Fr) (fun s_ => True) ?_ (fun J1603 => ?_)
           ·rintro ⟨w1601, w1602⟩ -
            ·refine At.drop (.s (.s (.s (.s (.s (.s (.s .z))))))) (At.drop (.s (.s (.s (.s (.s (.s (.s .z))))))) (At.drop (.s (.s (.s (.s (.s (.s (.s .z))))))) (At.drop (.s (.s (.s (.s (.s (.s (.s .z))))))) (At.drop (.s (.s (.s (.s (.s (.s (.s .z))))))) (At.f2 (At.f2 (At.f6 ?_))))))); refine At.f6 (At.f6 (At.f5 (At.f6 ?_))); cases bret j; exact At.res (.inr rfl) rfl rfl ⟨(a0_6 ++ ([(⟨t273.2.2.1, t284.2.2.2.2.1, t1170.2.2.1⟩ : Q3)] : List Q3)).length, w1601, w1602, w1400, w1173, t1170.2.1.length, w1175, rfl, rfl, rfl, hr1176, rfl, hc1178⟩
           ·refine At.H.al [4, 6] (Q7 ?_ (Q7 ?_ Q8))
            ··refine At.HO.op rfl ?_
              refine At.y (Y.load rfl rfl (.s .z) rfl rfl rfl) rfl rfl rfl ?_; refine At.HO.back (.c .z (.c (.s .z) (.c (.s .z) (.c (.s .z) (.c (.s .z) (.c (.s (.s .z)) (.c (.s (.s .z)) (.c (.s (.s .z)) (.c (.s (.s .z)) (.c (.s (.s .z)) .n)))))))))) ?_; refine At.H.al [6] (Q7 ?_ Q8)
              ··refine At.HO.op rfl ?_
                refine At.lit rfl (xo := [.tmp 84]) (ys := ([(⟨t273.2.2.1, t284.2.2.2.2.1, t1170.2.2.1⟩ : Q3)] : List Q3)) Q3.fl rfl rfl rfl rfl rfl rfl rfl rfl rfl rfl rfl (fun A1605 c1606 => ?_); refine At.HO.back (.c (.s .z) (.c (.s (.s .z)) (.c (.s (.s .z)) (.c (.s (.s .z)) (.c (.s (.s .z)) (.c (.s (.s (.s .z))) (.c (.s (.s (.s .z))) (.c (.s (.s (.s .z))) (.c (.s (.s (.s .z))) (.c (.s (.s (.s .z))) .n)))))))))) ?_; refine At.H.al [7] (Q7 ?_ Q8)
                ··refine At.HO.op rfl ?_
                  refine At.append rfl (.s (.s (.s (.s (.s (.s (.s .z))))))) (Src.own .z (by simp)) rfl rfl rfl rfl rfl rfl rfl rfl h1604 (by decide) rfl (fun A1608 c1609 => ?_); refine At.drop (.s .z) ?_; refine At.HO.back (.c (.s .z) (.c (.s (.s .z)) (.c (.s (.s .z)) (.c (.s (.s .z)) (.c (.s (.s .z)) (.c (.s (.s .z)) (.c (.s (.s .z)) (.c (.s (.s .z)) (.c (.s (.s .z)) (.c (.s (.s .z)) .n)))))))))) ?_; refine At.H.pw 8 rfl rfl rfl rfl rfl (.c (.s .z) (.c (.s (.s .z)) (.c (.s (.s .z)) (.c (.s (.s .z)) (.c (.s (.s .z)) (.c (.s (.s .z)) (.c (.s (.s .z)) (.c (.s (.s .z)) (.c (.s (.s .z)) (.c (.s (.s .z)) .n)))))))))) ?_; refine At.H.pw 9 rfl rfl rfl rfl rfl (.c (.s .z) (.c (.s (.s .z)) (.c (.s (.s .z)) (.c (.s (.s .z)) (.c (.s (.s .z)) (.c (.s (.s .z)) (.c (.s (.s .z)) (.c (.s (.s .z)) (.c (.s (.s .z)) (.c (.s (.s .z)) .n)))))))))) ?_; refine At.H.al [10] (Q7 ?_ Q8)
                  ··refine At.HO.op rfl ?_
                    refine At.store rfl rfl rfl rfl (.s (.s .z)) rfl rfl rfl (.s (.s (.s (.s (.s (.s (.c .n))))))) ?_; refine At.HO.back (.c (.s (.s .z)) (.c (.s (.s .z)) (.c (.s (.s .z)) (.c (.s (.s .z)) (.c (.s (.s .z)) (.c (.s (.s .z)) (.c (.s (.s .z)) (.c (.s (.s .z)) (.c (.s (.s .z)) (.c (.s (.s .z)) .n)))))))))) ?_; refine At.H.done (by kernel_rfl) ?_; exact At.of (J1603 (A1608, c1609) trivial) trivial
            ··refine At.HO.op rfl ?_
              refine At.lit rfl (xo := [.tmp 84]) (ys := ([(⟨t273.2.2.1, t284.2.2.2.2.1, t1170.2.2.1⟩ : Q3)] : List Q3)) Q3.fl rfl rfl rfl rfl rfl rfl rfl rfl rfl rfl rfl (fun A1610 c1611 => ?_); refine At.HO.back (.c (.s .z) (.c (.s (.s .z)) (.c (.s (.s .z)) (.c (.s (.s .z)) (.c (.s (.s .z)) (.c (.s (.s (.s .z))) (.c (.s (.s (.s .z))) (.c (.s (.s (.s .z))) (.c (.s (.s (.s .z))) (.c (.s (.s (.s .z))) .n)))))))))) ?_; refine At.H.al [4] (Q7 ?_ Q8)
              ··refine At.HO.op rfl ?_
                refine At.y (Y.load rfl rfl (.s (.s .z)) rfl rfl rfl) rfl rfl rfl ?_; refine At.HO.back (.c (.s .z) (.c (.s (.s .z)) (.c (.s (.s .z)) (.c (.s (.s .z)) (.c (.s (.s .z)) (.c (.s (.s (.s .z))) (.c (.s (.s (.s .z))) (.c (.s (.s (.s .z))) (.c (.s (.s (.s .z))) (.c (.s (.s (.s .z))) .n)))))))))) ?_; refine At.H.al [7] (Q7 ?_ Q8)
                ··refine At.HO.op rfl ?_
                  refine At.append rfl (.s (.s (.s (.s (.s (.s (.s .z))))))) (Src.own .z (by simp)) rfl rfl rfl rfl rfl rfl rfl rfl h1604 (by decide) rfl (fun A1613 c1614 => ?_); refine At.drop (.s .z) ?_; refine At.HO.back (.c (.s .z) (.c (.s (.s .z)) (.c (.s (.s .z)) (.c (.s (.s .z)) (.c (.s (.s .z)) (.c (.s (.s .z)) (.c (.s (.s .z)) (.c (.s (.s .z)) (.c (.s (.s .z)) (.c (.s (.s .z)) .n)))))))))) ?_; refine At.H.pw 8 rfl rfl rfl rfl rfl (.c (.s .z) (.c (.s (.s .z)) (.c (.s (.s .z)) (.c (.s (.s .z)) (.c (.s (.s .z)) (.c (.s (.s .z)) (.c (.s (.s .z)) (.c (.s (.s .z)) (.c (.s (.s .z)) (.c (.s (.s .z)) .n)))))))))) ?_; refine At.H.pw 9 rfl rfl rfl rfl rfl (.c (.s .z) (.c (.s (.s .z)) (.c (.s (.s .z)) (.c (.s (.s .z)) (.c (.s (.s .z)) (.c (.s (.s .z)) (.c (.s (.s .z)) (.c (.s (.s .z)) (.c (.s (.s .z)) (.c (.s (.s .z)) .n)))))))))) ?_; refine At.H.al [10] (Q7 ?_ Q8)
                  ··refine At.HO.op rfl ?_
                    refine At.store rfl rfl rfl rfl (.s (.s .z)) rfl rfl rfl (.s (.s (.s (.s (.s (.s (.c .n))))))) ?_; refine At.HO.back (.c (.s (.s .z)) (.c (.s (.s .z)) (.c (.s (.s .z)) (.c (.s (.s .z)) (.c (.s (.s .z)) (.c (.s (.s .z)) (.c (.s (.s .z)) (.c (.s (.s .z)) (.c (.s (.s .z)) (.c (.s (.s .z)) .n)))))))))) ?_; refine At.H.done (by kernel_rfl) ?_; exact At.of (J1603 (A1613, c1614) trivial) trivial
         ··refine At.condF rfl (bn h1393) ?_
           refine At.skip (At.thn (At.seq (At.region (At.run 1 rfl ?_)))); refine At.thaw th1187 ?_; refine At.f8 (At.f1 (At.f8 (At.f8 (At.f8 (At.f7 (At.f8 ?_)))))); obtain ⟨t1615, hc1616, j⟩ := bbind j; refine At.call rfl Q21.callee rfl rfl rfl (Q21.spec _ _ b0 w1173 t1170.2.1.length w1175 w1172 A0_3 a0_3.length c0_3 A0_4 a0_4.length c0_4 A0_5 a0_5.length c0_5 A0_6 a0_6.length c0_6 b0_7 t1170.2.1 t1170.1 a0_2 a0_3 a0_4 a0_5 a0_6 a0_7 hr1176 rfl hc1178 rfl rfl rfl rfl hc1616) ?_; rintro _ _ ⟨w1617, rfl, rfl⟩; refine At.nil (At.thn (At.seq ?_)); refine At.still 6 (by kernel_rfl) ?_; refine At.Still.run 3 rfl ?_; refine At.Still.y (Y.load rfl rfl .z rfl rfl rfl) rfl rfl rfl ?_; refine At.Still.run 1 rfl ?_; refine At.Still.y (Y.load rfl rfl (.s (.s (.s (.s (.s (.s (.s (.s (.s .z))))))))) rfl rfl rfl) rfl rfl rfl ?_; refine At.Still.nil ?_; refine At.mapUpdate (k := t284.2.2.2.2.1) (v := true) rfl (.s (.s (.s (.s (.s (.s .z)))))) rfl rfl (KeyOk.str rfl rfl) rfl rfl rfl rfl rfl ?_; refine At.nil (At.thn ?_); refine At.held [mapo Fl.bs.ov Fl.bool.ov b0_7 (mset a0_7 t284.2.2.2.2.1 true), optb (Ow.fl Q4.fl) 58 w1617 t1615, row Fl.bs 9 A0_3 a0_3.length c0_3 a0_3, row Q0.fl 35 A0_4 a0_4.length c0_4 a0_4, grow Q1.ow 37 A0_5 a0_5.length c0_5 a0_5, pt b1181 (.cells [.int .i64 t273.2.2.1, .string ⟨(t284.2.2.2.2.1).toArray⟩, .int .i64 t1170.2.2.1].toArray 148), pt b1180 (.cells [.int .i64 t1170.2.2.2.1, .int .i64 t1170.2.2.2.2.1, .string ⟨(t1170.2.2.2.2.2.1).toArray⟩, .int .i64 t1170.2.2.2.2.2.2].toArray 116), pt b294 (.cells [.int .i64 t284.2.2.1, .int .i64 t284.2.2.2.1, .string ⟨(t284.2.2.2.2.1).toArray⟩, .int .i64 t284.2.2.2.2.2].toArray 116), pt b283 (.cells [.int .i64 t273.2.2.2.1, .int .i64 t273.2.2.2.2.1, .string ⟨(t273.2.2.2.2.2.1).toArray⟩, .int .i64 t273.2.2.2.2.2.2].toArray 116), pt b267 (.cells [.int .i64 a1_0, .int .i64 a1_1, .string ⟨(a1_2).toArray⟩, .int .i64 a1_3].toArray 116)] 11 rfl ?_; refine At.H.pw 0 rfl rfl rfl rfl rfl (.c .z (.c (.s .z) (.c (.s .z) (.c (.s .z) (.c (.s .z) (.c (.s (.s .z)) (.c (.s (.s .z)) (.c (.s (.s .z)) (.c (.s (.s .z)) (.c (.s (.s .z)) .n)))))))))) ?_; refine At.H.pw 1 rfl rfl rfl rfl rfl (.c .z (.c (.s .z) (.c (.s .z) (.c (.s .z) (.c (.s .z) (.c (.s (.s .z)) (.c (.s (.s .z)) (.c (.s (.s .z)) (.c (.s (.s .z)) (.c (.s (.s .z)) .n)))))))))) ?_; refine At.H.pw 2 rfl rfl rfl rfl rfl (.c .z (.c (.s .z) (.c (.s .z) (.c (.s .z) (.c (.s .z) (.c (.s (.s .z)) (.c (.s (.s .z)) (.c (.s (.s .z)) (.c (.s (.s .z)) (.c (.s (.s .z)) .n)))))))))) ?_; refine At.H.pw 3 rfl rfl rfl rfl rfl (.c .z (.c (.s .z) (.c (.s .z) (.c (.s .z) (.c (.s .z) (.c (.s (.s .z)) (.c (.s (.s .z)) (.c (.s (.s .z)) (.c (.s (.s .z)) (.c (.s (.s .z)) .n)))))))))) ?_; refine At.H.tw 5 rfl (Y.load rfl rfl (.s (.s (.s (.s (.s .z))))) rfl rfl rfl) rfl rfl rfl (.c .z (.c (.s .z) (.c (.s .z) (.c (.s .z) (.c (.s .z) (.c (.s (.s .z)) (.c (.s (.s .z)) (.c (.s (.s .z)) (.c (.s (.s .z)) (.c (.s (.s .z)) .n)))))))))) ?_; obtain ⟨h1821, j⟩ := bnone j; refine At.H.joinK (X := (Option Addr) × Nat) (fun s_ => []) (fun s_ => pt b0 (.cells [.slice w1173 t1170.2.1.length w1175, optp w1617, .int .i64 a0_2, .slice A0_3 a0_3.length c0_3, .slice A0_4 a0_4.length c0_4, .slice A0_5 a0_5.length c0_5, .slice s_.1 ((a0_6 ++ ([(⟨t273.2.2.1, t284.2.2.2.2.1, t1170.2.2.1⟩ : Q3)] : List Q3)).length) s_.2, .map (some b0_7)].toArray 114) :: row Q3.fl 148 s_.1 ((a0_6 ++ ([(⟨t273.2.2.1, t284.2.2.2.2.1, t1170.2.2.1⟩ : Q3)] : List Q3)).length) s_.2 (a0_6 ++ ([(⟨t273.2.2.1, t284.2.2.2.2.1, t1170.2.2.1⟩ : Q3)] : List Q3)) :: mapo Fl.bs.ov Fl.bool.ov b0_7 (mset a0_7 t284.2.2.2.2.1 true) :: optb (Ow.fl Q4.fl) 58 w1617 t1615 :: row Fl.bs 9 A0_3 a0_3.length c0_3 a0_3 :: row Q0.fl 35 A0_4 a0_4.length c0_4 a0_4 :: grow Q1.ow 37 A0_5 a0_5.length c0_5 a0_5 :: pt b1181 (.cells [.int .i64 t273.2.2.1, .string ⟨(t284.2.2.2.2.1).toArray⟩, .int .i64 t1170.2.2.1].toArray 148) :: pt b1180 (.cells [.int .i64 t1170.2.2.2.1, .int .i64 t1170.2.2.2.2.1, .string ⟨(t1170.2.2.2.2.2.1).toArray⟩, .int .i64 t1170.2.2.2.2.2.2].toArray 116) :: pt b294 (.cells [.int .i64 t284.2.2.1, .int .i64 t284.2.2.2.1, .string ⟨(t284.2.2.2.2.1).toArray⟩, .int .i64 t284.2.2.2.2.2].toArray 116) :: pt b283 (.cells [.int .i64 t273.2.2.2.1, .int .i64 t273.2.2.2.2.1, .string ⟨(t273.2.2.2.2.2.1).toArray⟩, .int .i64 t273.2.2.2.2.2.2].toArray 116) :: pt b267 (.cells [.int .i64 a1_0, .int .i64 a1_1, .string ⟨(a1_2).toArray⟩, .int .i64 a1_3].toArray 116) :: Fr) (fun s_ => True) ?_ (fun J1820 => ?_)
           ·rintro ⟨w1818, w1819⟩ -
            ·refine At.drop (.s (.s (.s (.s (.s (.s (.s .z))))))) (At.drop (.s (.s (.s (.s (.s (.s (.s .z))))))) (At.drop (.s (.s (.s (.s (.s (.s (.s .z))))))) (At.drop (.s (.s (.s (.s (.s (.s (.s .z))))))) (At.drop (.s (.s (.s (.s (.s (.s (.s .z))))))) (At.f2 (At.f2 (At.f6 ?_))))))); refine At.f6 (At.f6 (At.f5 (At.f6 ?_))); cases bret j; exact At.res (.inr rfl) rfl rfl ⟨(a0_6 ++ ([(⟨t273.2.2.1, t284.2.2.2.2.1, t1170.2.2.1⟩ : Q3)] : List Q3)).length, w1818, w1819, w1617, w1173, t1170.2.1.length, w1175, rfl, rfl, rfl, hr1176, rfl, hc1178⟩
           ·refine At.H.al [4, 6] (Q7 ?_ (Q7 ?_ Q8))
            ··refine At.HO.op rfl ?_
              refine At.y (Y.load rfl rfl (.s .z) rfl rfl rfl) rfl rfl rfl ?_; refine At.HO.back (.c .z (.c (.s .z) (.c (.s .z) (.c (.s .z) (.c (.s .z) (.c (.s (.s .z)) (.c (.s (.s .z)) (.c (.s (.s .z)) (.c (.s (.s .z)) (.c (.s (.s .z)) .n)))))))))) ?_; refine At.H.al [6] (Q7 ?_ Q8)
              ··refine At.HO.op rfl ?_
                refine At.lit rfl (xo := [.tmp 84]) (ys := ([(⟨t273.2.2.1, t284.2.2.2.2.1, t1170.2.2.1⟩ : Q3)] : List Q3)) Q3.fl rfl rfl rfl rfl rfl rfl rfl rfl rfl rfl rfl (fun A1822 c1823 => ?_); refine At.HO.back (.c (.s .z) (.c (.s (.s .z)) (.c (.s (.s .z)) (.c (.s (.s .z)) (.c (.s (.s .z)) (.c (.s (.s (.s .z))) (.c (.s (.s (.s .z))) (.c (.s (.s (.s .z))) (.c (.s (.s (.s .z))) (.c (.s (.s (.s .z))) .n)))))))))) ?_; refine At.H.al [7] (Q7 ?_ Q8)
                ··refine At.HO.op rfl ?_
                  refine At.append rfl (.s (.s (.s (.s (.s (.s (.s .z))))))) (Src.own .z (by simp)) rfl rfl rfl rfl rfl rfl rfl rfl h1821 (by decide) rfl (fun A1825 c1826 => ?_); refine At.drop (.s .z) ?_; refine At.HO.back (.c (.s .z) (.c (.s (.s .z)) (.c (.s (.s .z)) (.c (.s (.s .z)) (.c (.s (.s .z)) (.c (.s (.s .z)) (.c (.s (.s .z)) (.c (.s (.s .z)) (.c (.s (.s .z)) (.c (.s (.s .z)) .n)))))))))) ?_; refine At.H.pw 8 rfl rfl rfl rfl rfl (.c (.s .z) (.c (.s (.s .z)) (.c (.s (.s .z)) (.c (.s (.s .z)) (.c (.s (.s .z)) (.c (.s (.s .z)) (.c (.s (.s .z)) (.c (.s (.s .z)) (.c (.s (.s .z)) (.c (.s (.s .z)) .n)))))))))) ?_; refine At.H.pw 9 rfl rfl rfl rfl rfl (.c (.s .z) (.c (.s (.s .z)) (.c (.s (.s .z)) (.c (.s (.s .z)) (.c (.s (.s .z)) (.c (.s (.s .z)) (.c (.s (.s .z)) (.c (.s (.s .z)) (.c (.s (.s .z)) (.c (.s (.s .z)) .n)))))))))) ?_; refine At.H.al [10] (Q7 ?_ Q8)
                  ··refine At.HO.op rfl ?_
                    refine At.store rfl rfl rfl rfl (.s (.s .z)) rfl rfl rfl (.s (.s (.s (.s (.s (.s (.c .n))))))) ?_; refine At.HO.back (.c (.s (.s .z)) (.c (.s (.s .z)) (.c (.s (.s .z)) (.c (.s (.s .z)) (.c (.s (.s .z)) (.c (.s (.s .z)) (.c (.s (.s .z)) (.c (.s (.s .z)) (.c (.s (.s .z)) (.c (.s (.s .z)) .n)))))))))) ?_; refine At.H.done (by kernel_rfl) ?_; exact At.of (J1820 (A1825, c1826) trivial) trivial
            ··refine At.HO.op rfl ?_
              refine At.lit rfl (xo := [.tmp 84]) (ys := ([(⟨t273.2.2.1, t284.2.2.2.2.1, t1170.2.2.1⟩ : Q3)] : List Q3)) Q3.fl rfl rfl rfl rfl rfl rfl rfl rfl rfl rfl rfl (fun A1827 c1828 => ?_); refine At.HO.back (.c (.s .z) (.c (.s (.s .z)) (.c (.s (.s .z)) (.c (.s (.s .z)) (.c (.s (.s .z)) (.c (.s (.s (.s .z))) (.c (.s (.s (.s .z))) (.c (.s (.s (.s .z))) (.c (.s (.s (.s .z))) (.c (.s (.s (.s .z))) .n)))))))))) ?_; refine At.H.al [4] (Q7 ?_ Q8)
              ··refine At.HO.op rfl ?_
                refine At.y (Y.load rfl rfl (.s (.s .z)) rfl rfl rfl) rfl rfl rfl ?_; refine At.HO.back (.c (.s .z) (.c (.s (.s .z)) (.c (.s (.s .z)) (.c (.s (.s .z)) (.c (.s (.s .z)) (.c (.s (.s (.s .z))) (.c (.s (.s (.s .z))) (.c (.s (.s (.s .z))) (.c (.s (.s (.s .z))) (.c (.s (.s (.s .z))) .n)))))))))) ?_; refine At.H.al [7] (Q7 ?_ Q8)
                ··refine At.HO.op rfl ?_
                  refine At.append rfl (.s (.s (.s (.s (.s (.s (.s .z))))))) (Src.own .z (by simp)) rfl rfl rfl rfl rfl rfl rfl rfl h1821 (by decide) rfl (fun A1830 c1831 => ?_); refine At.drop (.s .z) ?_; refine At.HO.back (.c (.s .z) (.c (.s (.s .z)) (.c (.s (.s .z)) (.c (.s (.s .z)) (.c (.s (.s .z)) (.c (.s (.s .z)) (.c (.s (.s .z)) (.c (.s (.s .z)) (.c (.s (.s .z)) (.c (.s (.s .z)) .n)))))))))) ?_; refine At.H.pw 8 rfl rfl rfl rfl rfl (.c (.s .z) (.c (.s (.s .z)) (.c (.s (.s .z)) (.c (.s (.s .z)) (.c (.s (.s .z)) (.c (.s (.s .z)) (.c (.s (.s .z)) (.c (.s (.s .z)) (.c (.s (.s .z)) (.c (.s (.s .z)) .n)))))))))) ?_; refine At.H.pw 9 rfl rfl rfl rfl rfl (.c (.s .z) (.c (.s (.s .z)) (.c (.s (.s .z)) (.c (.s (.s .z)) (.c (.s (.s .z)) (.c (.s (.s .z)) (.c (.s (.s .z)) (.c (.s (.s .z)) (.c (.s (.s .z)) (.c (.s (.s .z)) .n)))))))))) ?_; refine At.H.al [10] (Q7 ?_ Q8)
                  ··refine At.HO.op rfl ?_
                    refine At.store rfl rfl rfl rfl (.s (.s .z)) rfl rfl rfl (.s (.s (.s (.s (.s (.s (.c .n))))))) ?_; refine At.HO.back (.c (.s (.s .z)) (.c (.s (.s .z)) (.c (.s (.s .z)) (.c (.s (.s .z)) (.c (.s (.s .z)) (.c (.s (.s .z)) (.c (.s (.s .z)) (.c (.s (.s .z)) (.c (.s (.s .z)) (.c (.s (.s .z)) .n)))))))))) ?_; refine At.H.done (by kernel_rfl) ?_; exact At.of (J1820 (A1830, c1831) trivial) trivial
       ··rcases bite j with ⟨h1832, j⟩ | ⟨h1832, j⟩
         ··refine At.Quiet.know (t := 60) rfl h1832 ?_
           refine At.Quiet.run 3 rfl ?_; refine At.Quiet.y (Y.load rfl rfl (.s (.s (.s .z))) rfl rfl rfl) rfl rfl rfl ?_; refine At.Quiet.y (Y.load rfl rfl .z rfl rfl rfl) rfl rfl rfl ?_; obtain ⟨t1833, hc1834, j⟩ := bbind j; refine At.Quiet.call rfl Q56.callee rfl rfl rfl (Q56.spec _ _ A0_6 a0_6.length c0_6 a0_6 t273.2.2.1 t284.2.2.2.2.1 t1170.2.2.1 hr1183 hn1184 hc1185 hc1834) (fun _ _ h_ => ⟨h_.1, fun _ hs => h_.2 ▸ hs⟩) ?_; refine At.Quiet.run 1 rfl ?_; exact At.Quiet.of (J1392 t1833 j) ⟨rfl, rfl, rfl, rfl, rfl, trivial⟩
         ··refine At.Quiet.know (t := 60) rfl (bn h1832) ?_
           refine At.Quiet.run 7 rfl ?_; exact At.Quiet.of (J1392 false j) ⟨rfl, rfl, rfl, rfl, rfl, trivial⟩
   ··rcases bite j with ⟨h1835, j⟩ | ⟨h1835, j⟩
     ··refine At.Quiet.know (t := 34) rfl (nf h1835) ?_
       refine At.Quiet.run 7 rfl ?_; exact At.Quiet.of (J499 false j) ⟨rfl, rfl, rfl, rfl, trivial⟩
     ··refine At.Quiet.know (t := 34) rfl (nt (bn h1835)) ?_
       refine At.Quiet.run 3 rfl ?_; refine At.Quiet.y (Y.load rfl rfl (.s (.s .z)) rfl rfl rfl) rfl rfl rfl ?_; refine At.Quiet.y (Y.lenMap (.s (.s (.s (.s (.s (.s (.s .z))))))) rfl rfl rfl) rfl rfl rfl ?_; refine At.Quiet.run 2 rfl ?_; exact At.Quiet.of (J499 (decide (8 ≤ (a0_7.length : Int))) j) ⟨rfl, rfl, rfl, rfl, trivial⟩
 ··refine At.condF rfl (decide_eq_false h268) ?_
   refine At.skip (At.thn (At.seq (At.region (At.run 1 rfl (At.f7 (At.f7 (At.f7 ?_))))))); refine At.f7 (At.f7 (At.f7 (At.f7 ?_))); obtain ⟨t1836, hc1837, j⟩ := bbind j; refine At.call rfl Q44.callee rfl rfl rfl (Q44.spec _ _ b0 A0_0 a0_0.length c0_0 p0_1 A0_3 a0_3.length c0_3 A0_4 a0_4.length c0_4 A0_5 a0_5.length c0_5 A0_6 a0_6.length c0_6 b0_7 a0_0 a0_1 a0_2 a0_3 a0_4 a0_5 a0_6 a0_7 hr0_0 rfl hc0_0 rfl rfl rfl rfl hc1837) ?_; rintro _ _ ⟨w1838, w1839, w1840, w1841, rfl, rfl, hr1842, rfl, hc1844⟩; refine At.run 3 rfl ?_; refine At.alloc rfl rfl rfl (fun b1846 => ?_); refine At.store rfl rfl rfl rfl .z rfl rfl rfl (.c (.c (.c (.c .n)))) ?_; refine At.run 1 rfl (At.nil (At.thn (At.seq (At.region (At.run 1 rfl (At.f7 (At.f7 ?_))))))); refine At.f7 (At.f7 (At.f7 (At.f6 (At.f7 ?_)))); obtain ⟨t1847, hc1848, j⟩ := bbind j; refine At.call rfl Q59.callee rfl rfl rfl (Q59.spec _ _ b0 w1839 t1836.2.1.length w1841 w1838 A0_3 a0_3.length c0_3 A0_4 a0_4.length c0_4 A0_5 a0_5.length c0_5 A0_6 a0_6.length c0_6 b0_7 t1836.2.1 t1836.1 a0_2 a0_3 a0_4 a0_5 a0_6 a0_7 hr1842 rfl hc1844 rfl rfl rfl rfl hc1848) ?_; rintro _ _ ⟨w1849, w1850, w1851, w1852, rfl, rfl, hr1853, rfl, hc1855⟩; refine At.alloc rfl rfl rfl (fun b1857 => ?_); refine At.store rfl rfl rfl rfl .z rfl rfl rfl (.c (.c (.c (.c .n)))) ?_; refine At.nil (At.thn (At.seq (At.seq ?_))); refine At.quiet (by kernel_rfl) ?_; refine At.Quiet.run 3 rfl ?_; refine At.Quiet.y (Y.load rfl rfl (.s (.s .z)) rfl rfl rfl) rfl rfl rfl ?_; refine At.Quiet.run 1 rfl ?_; refine At.Quiet.y (Y.load rfl rfl .z rfl rfl rfl) rfl rfl rfl ?_; refine At.Quiet.y (Y.lookup (k := t1847.2.2.2.2.1) (z := false) (.s (.s (.s (.s (.s (.s (.s .z))))))) rfl rfl (KeyOk.str rfl rfl) (by kernel_rfl) rfl rfl rfl) rfl rfl rfl ?_; refine At.Quiet.run 2 rfl ?_; obtain ⟨G2059, hl2060, hr2061, j⟩ := bjoin j; refine At.Quiet.joinO 7 (X := Bool) (fun x2058 => [(0, .pointer (some ⟨b0, 0, none⟩)), (5, .int .i64 t1836.2.2.1), (6, .pointer (some ⟨b1857, 0, none⟩)), (41, .bool x2058)]) (fun x2058 => pt b1857 (.cells [.int .i64 t1847.2.2.1, .int .i64 t1847.2.2.2.1, .string ⟨(t1847.2.2.2.2.1).toArray⟩, .int .i64 t1847.2.2.2.2.2].toArray 116) :: optb (Ow.fl Q4.fl) 58 w1849 t1847.1 :: pt b0 (.cells [.slice w1850 t1847.2.1.length w1852, optp w1849, .int .i64 a0_2, .slice A0_3 a0_3.length c0_3, .slice A0_4 a0_4.length c0_4, .slice A0_5 a0_5.length c0_5, .slice A0_6 a0_6.length c0_6, .map (some b0_7)].toArray 114) :: row Fl.bs 9 A0_3 a0_3.length c0_3 a0_3 :: row Q0.fl 35 A0_4 a0_4.length c0_4 a0_4 :: grow Q1.ow 37 A0_5 a0_5.length c0_5 a0_5 :: row Q3.fl 148 A0_6 a0_6.length c0_6 a0_6 :: mapo Fl.bs.ov Fl.bool.ov b0_7 a0_7 :: pt b1846 (.cells [.int .i64 t1836.2.2.2.1, .int .i64 t1836.2.2.2.2.1, .string ⟨(t1836.2.2.2.2.2.1).toArray⟩, .int .i64 t1836.2.2.2.2.2.2].toArray 116) :: pt b267 (.cells [.int .i64 a1_0, .int .i64 a1_1, .string ⟨(a1_2).toArray⟩, .int .i64 a1_3].toArray 116) :: Fr) (fun x2058 => G2059 (.inl x2058) = some r) ?_ (fun J2062 => ?_)
   ·rintro x2058 j; have j := (hl2060 _).symm.trans j
    ·refine At.Quiet.nil (At.thn ?_); rcases bite j with ⟨h2063, j⟩ | ⟨h2063, j⟩
     ··refine At.condT rfl h2063 ?_
       refine At.region (At.run 1 rfl (At.y (Y.load rfl rfl .z rfl rfl rfl) rfl rfl rfl (At.f7 (At.f7 (At.f7 (At.f7 (At.f7 ?_))))))); refine At.f6 (At.f7 ?_); obtain ⟨t2064, hc2065, j⟩ := bbind j; refine At.call rfl Q13.callee rfl rfl rfl (Q13.spec _ _ b0 w1850 t1847.2.1.length w1852 w1849 A0_3 a0_3.length c0_3 A0_4 a0_4.length c0_4 A0_5 a0_5.length c0_5 A0_6 a0_6.length c0_6 b0_7 t1847.2.1 t1847.1 a0_2 a0_3 a0_4 a0_5 a0_6 a0_7 t1847.2.2.1 t1847.2.2.2.1 t1847.2.2.2.2.1 t1847.2.2.2.2.2 10 hr1853 rfl hc1855 rfl rfl rfl rfl hc2065) ?_; rintro _ _ ⟨w2066, rfl, rfl⟩; refine At.nil (At.thn (At.seq (At.region (At.run 1 rfl (At.f6 (At.f6 (At.f6 ?_))))))); refine At.f6 (At.f6 (At.f5 (At.f6 ?_))); obtain ⟨t2068, hc2069, j⟩ := bbind j; refine At.call rfl Q44.callee rfl rfl rfl (Q44.spec _ _ b0 w1850 t1847.2.1.length w1852 w2066 A0_3 a0_3.length c0_3 A0_4 a0_4.length c0_4 A0_5 a0_5.length c0_5 A0_6 a0_6.length c0_6 b0_7 t1847.2.1 t2064 a0_2 a0_3 a0_4 a0_5 a0_6 a0_7 hr1853 rfl hc1855 rfl rfl rfl rfl hc2069) ?_; rintro _ _ ⟨w2070, w2071, w2072, w2073, rfl, rfl, hr2074, rfl, hc2076⟩; refine At.run 3 rfl ?_; refine At.alloc rfl rfl rfl (fun b2078 => ?_); refine At.store rfl rfl rfl rfl .z rfl rfl rfl (.c (.c (.c (.c .n)))) ?_; refine At.run 1 rfl (At.nil (At.thn (At.seq (At.region (At.run 2 rfl ?_))))); refine At.y (Y.load rfl rfl (.s (.s (.s (.s (.s (.s (.s (.s .z)))))))) rfl rfl rfl) rfl rfl rfl ?_; refine At.run 1 rfl ?_; refine At.y (Y.build (is := [0, 1, 2]) (xo := [.tmp 50, .tmp 52, .tmp 53]) (vs := [.int .i64 t1836.2.2.1, .string ⟨(t1847.2.2.2.2.1).toArray⟩, .int .i64 t2068.2.2.1]) (cs := [.int .i64 t1836.2.2.1, .string ⟨(t1847.2.2.2.2.1).toArray⟩, .int .i64 t2068.2.2.1]) rfl rfl rfl rfl rfl rfl) rfl rfl rfl ?_; refine At.alloc rfl rfl rfl (fun b2079 => ?_); refine At.store rfl rfl rfl rfl .z rfl rfl rfl (.c (.c (.c .n))) ?_; refine At.nil (At.thn (At.seq (At.seq ?_))); refine At.freeze (.s (.s (.s (.s (.s (.s (.s .z))))))) fun R2080 hr2081 hn2082 hc2083 hs2084 th2085 => ?_; refine At.quiet (by kernel_rfl) ?_; refine At.Quiet.run 3 rfl ?_; refine At.Quiet.y (Y.load rfl rfl (.s (.s (.s .z))) rfl rfl rfl) rfl rfl rfl ?_; refine At.Quiet.y (Y.eqOpt (.s (.s .z)) rfl rfl rfl rfl) rfl rfl rfl ?_; refine At.Quiet.run 1 rfl ?_; obtain ⟨G2287, hl2288, hr2289, j⟩ := bjoin j; refine At.Quiet.joinO 7 (X := Bool) (fun x2286 => [(0, .pointer (some ⟨b0, 0, none⟩)), (6, .pointer (some ⟨b1857, 0, none⟩)), (7, .pointer (some ⟨b2078, 0, none⟩)), (9, .pointer (some ⟨b2079, 0, none⟩)), (67, .bool x2286)]) (fun x2286 => pt b2079 (.cells [.int .i64 t1836.2.2.1, .string ⟨(t1847.2.2.2.2.1).toArray⟩, .int .i64 t2068.2.2.1].toArray 148) :: pt b2078 (.cells [.int .i64 t2068.2.2.2.1, .int .i64 t2068.2.2.2.2.1, .string ⟨(t2068.2.2.2.2.2.1).toArray⟩, .int .i64 t2068.2.2.2.2.2.2].toArray 116) :: optb (Ow.fl Q4.fl) 58 w2070 t2068.1 :: pt b0 (.cells [.slice w2071 t2068.2.1.length w2073, optp w2070, .int .i64 a0_2, .slice A0_3 a0_3.length c0_3, .slice A0_4 a0_4.length c0_4, .slice A0_5 a0_5.length c0_5, .slice A0_6 a0_6.length c0_6, .map (some b0_7)].toArray 114) :: row Fl.bs 9 A0_3 a0_3.length c0_3 a0_3 :: row Q0.fl 35 A0_4 a0_4.length c0_4 a0_4 :: grow Q1.ow 37 A0_5 a0_5.length c0_5 a0_5 :: mapo Fl.bs.ov Fl.bool.ov b0_7 a0_7 :: pt b1857 (.cells [.int .i64 t1847.2.2.1, .int .i64 t1847.2.2.2.1, .string ⟨(t1847.2.2.2.2.1).toArray⟩, .int .i64 t1847.2.2.2.2.2].toArray 116) :: pt b1846 (.cells [.int .i64 t1836.2.2.2.1, .int .i64 t1836.2.2.2.2.1, .string ⟨(t1836.2.2.2.2.2.1).toArray⟩, .int .i64 t1836.2.2.2.2.2.2].toArray 116) :: pt b267 (.cells [.int .i64 a1_0, .int .i64 a1_1, .string ⟨(a1_2).toArray⟩, .int .i64 a1_3].toArray 116) :: Fr) (fun x2286 => G2287 (.inl x2286) = some r) ?_ (fun J2290 => ?_)
       ·rintro x2286 j; have j := (hl2288 _).symm.trans j
        ·refine At.Quiet.nil (At.thn ?_); rcases bite j with ⟨h2291, j⟩ | ⟨h2291, j⟩
         ··refine At.condT rfl h2291 ?_
           refine At.region (At.run 1 rfl (At.y (Y.load rfl rfl (.s .z) rfl rfl rfl) rfl rfl rfl ?_)); refine At.thaw th2085 ?_; refine At.f8 (At.f1 (At.f8 (At.f8 (At.f8 (At.f7 (At.f8 ?_)))))); obtain ⟨t2292, hc2293, j⟩ := bbind j; refine At.call rfl Q13.callee rfl rfl rfl (Q13.spec _ _ b0 w2071 t2068.2.1.length w2073 w2070 A0_3 a0_3.length c0_3 A0_4 a0_4.length c0_4 A0_5 a0_5.length c0_5 A0_6 a0_6.length c0_6 b0_7 t2068.2.1 t2068.1 a0_2 a0_3 a0_4 a0_5 a0_6 a0_7 t2068.2.2.2.1 t2068.2.2.2.2.1 t2068.2.2.2.2.2.1 t2068.2.2.2.2.2.2 9 hr2074 rfl hc2076 rfl rfl rfl rfl hc2293) ?_; rintro _ _ ⟨w2294, rfl, rfl⟩; refine At.nil (At.thn (At.seq (At.region (At.run 1 rfl (At.f6 (At.f6 (At.f6 ?_))))))); refine At.f6 (At.f6 (At.f5 (At.f6 ?_))); obtain ⟨t2296, hc2297, j⟩ := bbind j; refine At.call rfl Q21.callee rfl rfl rfl (Q21.spec _ _ b0 w2071 t2068.2.1.length w2073 w2294 A0_3 a0_3.length c0_3 A0_4 a0_4.length c0_4 A0_5 a0_5.length c0_5 A0_6 a0_6.length c0_6 b0_7 t2068.2.1 t2292 a0_2 a0_3 a0_4 a0_5 a0_6 a0_7 hr2074 rfl hc2076 rfl rfl rfl rfl hc2297) ?_; rintro _ _ ⟨w2298, rfl, rfl⟩; refine At.nil (At.thn (At.seq ?_)); refine At.still 6 (by kernel_rfl) ?_; refine At.Still.run 3 rfl ?_; refine At.Still.y (Y.load rfl rfl .z rfl rfl rfl) rfl rfl rfl ?_; refine At.Still.run 1 rfl ?_; refine At.Still.y (Y.load rfl rfl (.s (.s (.s (.s (.s (.s (.s (.s (.s .z))))))))) rfl rfl rfl) rfl rfl rfl ?_; refine At.Still.nil ?_; refine At.mapUpdate (k := t1847.2.2.2.2.1) (v := true) rfl (.s (.s (.s (.s (.s (.s .z)))))) rfl rfl (KeyOk.str rfl rfl) rfl rfl rfl rfl rfl ?_; refine At.nil (At.thn ?_); refine At.held [mapo Fl.bs.ov Fl.bool.ov b0_7 (mset a0_7 t1847.2.2.2.2.1 true), optb (Ow.fl Q4.fl) 58 w2298 t2296, row Fl.bs 9 A0_3 a0_3.length c0_3 a0_3, row Q0.fl 35 A0_4 a0_4.length c0_4 a0_4, grow Q1.ow 37 A0_5 a0_5.length c0_5 a0_5, pt b2079 (.cells [.int .i64 t1836.2.2.1, .string ⟨(t1847.2.2.2.2.1).toArray⟩, .int .i64 t2068.2.2.1].toArray 148), pt b2078 (.cells [.int .i64 t2068.2.2.2.1, .int .i64 t2068.2.2.2.2.1, .string ⟨(t2068.2.2.2.2.2.1).toArray⟩, .int .i64 t2068.2.2.2.2.2.2].toArray 116), pt b1857 (.cells [.int .i64 t1847.2.2.1, .int .i64 t1847.2.2.2.1, .string ⟨(t1847.2.2.2.2.1).toArray⟩, .int .i64 t1847.2.2.2.2.2].toArray 116), pt b1846 (.cells [.int .i64 t1836.2.2.2.1, .int .i64 t1836.2.2.2.2.1, .string ⟨(t1836.2.2.2.2.2.1).toArray⟩, .int .i64 t1836.2.2.2.2.2.2].toArray 116), pt b267 (.cells [.int .i64 a1_0, .int .i64 a1_1, .string ⟨(a1_2).toArray⟩, .int .i64 a1_3].toArray 116)] 11 rfl ?_; refine At.H.pw 0 rfl rfl rfl rfl rfl (.c .z (.c (.s .z) (.c (.s .z) (.c (.s .z) (.c (.s .z) (.c (.s (.s .z)) (.c (.s (.s .z)) (.c (.s (.s .z)) (.c (.s (.s .z)) (.c (.s (.s .z)) .n)))))))))) ?_; refine At.H.pw 1 rfl rfl rfl rfl rfl (.c .z (.c (.s .z) (.c (.s .z) (.c (.s .z) (.c (.s .z) (.c (.s (.s .z)) (.c (.s (.s .z)) (.c (.s (.s .z)) (.c (.s (.s .z)) (.c (.s (.s .z)) .n)))))))))) ?_; refine At.H.pw 2 rfl rfl rfl rfl rfl (.c .z (.c (.s .z) (.c (.s .z) (.c (.s .z) (.c (.s .z) (.c (.s (.s .z)) (.c (.s (.s .z)) (.c (.s (.s .z)) (.c (.s (.s .z)) (.c (.s (.s .z)) .n)))))))))) ?_; refine At.H.pw 3 rfl rfl rfl rfl rfl (.c .z (.c (.s .z) (.c (.s .z) (.c (.s .z) (.c (.s .z) (.c (.s (.s .z)) (.c (.s (.s .z)) (.c (.s (.s .z)) (.c (.s (.s .z)) (.c (.s (.s .z)) .n)))))))))) ?_; refine At.H.tw 5 rfl (Y.load rfl rfl (.s (.s (.s (.s (.s .z))))) rfl rfl rfl) rfl rfl rfl (.c .z (.c (.s .z) (.c (.s .z) (.c (.s .z) (.c (.s .z) (.c (.s (.s .z)) (.c (.s (.s .z)) (.c (.s (.s .z)) (.c (.s (.s .z)) (.c (.s (.s .z)) .n)))))))))) ?_; obtain ⟨h2502, j⟩ := bnone j; refine At.H.joinK (X := (Option Addr) × Nat) (fun s_ => []) (fun s_ => pt b0 (.cells [.slice w2071 t2068.2.1.length w2073, optp w2298, .int .i64 a0_2, .slice A0_3 a0_3.length c0_3, .slice A0_4 a0_4.length c0_4, .slice A0_5 a0_5.length c0_5, .slice s_.1 ((a0_6 ++ ([(⟨t1836.2.2.1, t1847.2.2.2.2.1, t2068.2.2.1⟩ : Q3)] : List Q3)).length) s_.2, .map (some b0_7)].toArray 114) :: row Q3.fl 148 s_.1 ((a0_6 ++ ([(⟨t1836.2.2.1, t1847.2.2.2.2.1, t2068.2.2.1⟩ : Q3)] : List Q3)).length) s_.2 (a0_6 ++ ([(⟨t1836.2.2.1, t1847.2.2.2.2.1, t2068.2.2.1⟩ : Q3)] : List Q3)) :: mapo Fl.bs.ov Fl.bool.ov b0_7 (mset a0_7 t1847.2.2.2.2.1 true) :: optb (Ow.fl Q4.fl) 58 w2298 t2296 :: row Fl.bs 9 A0_3 a0_3.length c0_3 a0_3 :: row Q0.fl 35 A0_4 a0_4.length c0_4 a0_4 :: grow Q1.ow 37 A0_5 a0_5.length c0_5 a0_5 :: pt b2079 (.cells [.int .i64 t1836.2.2.1, .string ⟨(t1847.2.2.2.2.1).toArray⟩, .int .i64 t2068.2.2.1].toArray 148) :: pt b2078 (.cells [.int .i64 t2068.2.2.2.1, .int .i64 t2068.2.2.2.2.1, .string ⟨(t2068.2.2.2.2.2.1).toArray⟩, .int .i64 t2068.2.2.2.2.2.2].toArray 116) :: pt b1857 (.cells [.int .i64 t1847.2.2.1, .int .i64 t1847.2.2.2.1, .string ⟨(t1847.2.2.2.2.1).toArray⟩, .int .i64 t1847.2.2.2.2.2].toArray 116) :: pt b1846 (.cells [.int .i64 t1836.2.2.2.1, .int .i64 t1836.2.2.2.2.1, .string ⟨(t1836.2.2.2.2.2.1).toArray⟩, .int .i64 t1836.2.2.2.2.2.2].toArray 116) :: pt b267 (.cells [.int .i64 a1_0, .int .i64 a1_1, .string ⟨(a1_2).toArray⟩, .int .i64 a1_3].toArray 116) :: Fr) (fun s_ => True) ?_ (fun J2501 => ?_)
           ·rintro ⟨w2499, w2500⟩ -
            ·refine At.drop (.s (.s (.s (.s (.s (.s (.s .z))))))) (At.drop (.s (.s (.s (.s (.s (.s (.s .z))))))) (At.drop (.s (.s (.s (.s (.s (.s (.s .z))))))) (At.drop (.s (.s (.s (.s (.s (.s (.s .z))))))) (At.drop (.s (.s (.s (.s (.s (.s (.s .z))))))) (At.f2 (At.f2 (At.f6 ?_))))))); refine At.f6 (At.f6 (At.f5 (At.f6 ?_))); cases bret j; exact At.res (.inr rfl) rfl rfl ⟨(a0_6 ++ ([(⟨t1836.2.2.1, t1847.2.2.2.2.1, t2068.2.2.1⟩ : Q3)] : List Q3)).length, w2499, w2500, w2298, w2071, t2068.2.1.length, w2073, rfl, rfl, rfl, hr2074, rfl, hc2076⟩
           ·refine At.H.al [4, 6] (Q7 ?_ (Q7 ?_ Q8))
            ··refine At.HO.op rfl ?_
              refine At.y (Y.load rfl rfl (.s .z) rfl rfl rfl) rfl rfl rfl ?_; refine At.HO.back (.c .z (.c (.s .z) (.c (.s .z) (.c (.s .z) (.c (.s .z) (.c (.s (.s .z)) (.c (.s (.s .z)) (.c (.s (.s .z)) (.c (.s (.s .z)) (.c (.s (.s .z)) .n)))))))))) ?_; refine At.H.al [6] (Q7 ?_ Q8)
              ··refine At.HO.op rfl ?_
                refine At.lit rfl (xo := [.tmp 84]) (ys := ([(⟨t1836.2.2.1, t1847.2.2.2.2.1, t2068.2.2.1⟩ : Q3)] : List Q3)) Q3.fl rfl rfl rfl rfl rfl rfl rfl rfl rfl rfl rfl (fun A2503 c2504 => ?_); refine At.HO.back (.c (.s .z) (.c (.s (.s .z)) (.c (.s (.s .z)) (.c (.s (.s .z)) (.c (.s (.s .z)) (.c (.s (.s (.s .z))) (.c (.s (.s (.s .z))) (.c (.s (.s (.s .z))) (.c (.s (.s (.s .z))) (.c (.s (.s (.s .z))) .n)))))))))) ?_; refine At.H.al [7] (Q7 ?_ Q8)
                ··refine At.HO.op rfl ?_
                  refine At.append rfl (.s (.s (.s (.s (.s (.s (.s .z))))))) (Src.own .z (by simp)) rfl rfl rfl rfl rfl rfl rfl rfl h2502 (by decide) rfl (fun A2506 c2507 => ?_); refine At.drop (.s .z) ?_; refine At.HO.back (.c (.s .z) (.c (.s (.s .z)) (.c (.s (.s .z)) (.c (.s (.s .z)) (.c (.s (.s .z)) (.c (.s (.s .z)) (.c (.s (.s .z)) (.c (.s (.s .z)) (.c (.s (.s .z)) (.c (.s (.s .z)) .n)))))))))) ?_; refine At.H.pw 8 rfl rfl rfl rfl rfl (.c (.s .z) (.c (.s (.s .z)) (.c (.s (.s .z)) (.c (.s (.s .z)) (.c (.s (.s .z)) (.c (.s (.s .z)) (.c (.s (.s .z)) (.c (.s (.s .z)) (.c (.s (.s .z)) (.c (.s (.s .z)) .n)))))))))) ?_; refine At.H.pw 9 rfl rfl rfl rfl rfl (.c (.s .z) (.c (.s (.s .z)) (.c (.s (.s .z)) (.c (.s (.s .z)) (.c (.s (.s .z)) (.c (.s (.s .z)) (.c (.s (.s .z)) (.c (.s (.s .z)) (.c (.s (.s .z)) (.c (.s (.s .z)) .n)))))))))) ?_; refine At.H.al [10] (Q7 ?_ Q8)
                  ··refine At.HO.op rfl ?_
                    refine At.store rfl rfl rfl rfl (.s (.s .z)) rfl rfl rfl (.s (.s (.s (.s (.s (.s (.c .n))))))) ?_; refine At.HO.back (.c (.s (.s .z)) (.c (.s (.s .z)) (.c (.s (.s .z)) (.c (.s (.s .z)) (.c (.s (.s .z)) (.c (.s (.s .z)) (.c (.s (.s .z)) (.c (.s (.s .z)) (.c (.s (.s .z)) (.c (.s (.s .z)) .n)))))))))) ?_; refine At.H.done (by kernel_rfl) ?_; exact At.of (J2501 (A2506, c2507) trivial) trivial
            ··refine At.HO.op rfl ?_
              refine At.lit rfl (xo := [.tmp 84]) (ys := ([(⟨t1836.2.2.1, t1847.2.2.2.2.1, t2068.2.2.1⟩ : Q3)] : List Q3)) Q3.fl rfl rfl rfl rfl rfl rfl rfl rfl rfl rfl rfl (fun A2508 c2509 => ?_); refine At.HO.back (.c (.s .z) (.c (.s (.s .z)) (.c (.s (.s .z)) (.c (.s (.s .z)) (.c (.s (.s .z)) (.c (.s (.s (.s .z))) (.c (.s (.s (.s .z))) (.c (.s (.s (.s .z))) (.c (.s (.s (.s .z))) (.c (.s (.s (.s .z))) .n)))))))))) ?_; refine At.H.al [4] (Q7 ?_ Q8)
              ··refine At.HO.op rfl ?_
                refine At.y (Y.load rfl rfl (.s (.s .z)) rfl rfl rfl) rfl rfl rfl ?_; refine At.HO.back (.c (.s .z) (.c (.s (.s .z)) (.c (.s (.s .z)) (.c (.s (.s .z)) (.c (.s (.s .z)) (.c (.s (.s (.s .z))) (.c (.s (.s (.s .z))) (.c (.s (.s (.s .z))) (.c (.s (.s (.s .z))) (.c (.s (.s (.s .z))) .n)))))))))) ?_; refine At.H.al [7] (Q7 ?_ Q8)
                ··refine At.HO.op rfl ?_
                  refine At.append rfl (.s (.s (.s (.s (.s (.s (.s .z))))))) (Src.own .z (by simp)) rfl rfl rfl rfl rfl rfl rfl rfl h2502 (by decide) rfl (fun A2511 c2512 => ?_); refine At.drop (.s .z) ?_; refine At.HO.back (.c (.s .z) (.c (.s (.s .z)) (.c (.s (.s .z)) (.c (.s (.s .z)) (.c (.s (.s .z)) (.c (.s (.s .z)) (.c (.s (.s .z)) (.c (.s (.s .z)) (.c (.s (.s .z)) (.c (.s (.s .z)) .n)))))))))) ?_; refine At.H.pw 8 rfl rfl rfl rfl rfl (.c (.s .z) (.c (.s (.s .z)) (.c (.s (.s .z)) (.c (.s (.s .z)) (.c (.s (.s .z)) (.c (.s (.s .z)) (.c (.s (.s .z)) (.c (.s (.s .z)) (.c (.s (.s .z)) (.c (.s (.s .z)) .n)))))))))) ?_; refine At.H.pw 9 rfl rfl rfl rfl rfl (.c (.s .z) (.c (.s (.s .z)) (.c (.s (.s .z)) (.c (.s (.s .z)) (.c (.s (.s .z)) (.c (.s (.s .z)) (.c (.s (.s .z)) (.c (.s (.s .z)) (.c (.s (.s .z)) (.c (.s (.s .z)) .n)))))))))) ?_; refine At.H.al [10] (Q7 ?_ Q8)
                  ··refine At.HO.op rfl ?_
                    refine At.store rfl rfl rfl rfl (.s (.s .z)) rfl rfl rfl (.s (.s (.s (.s (.s (.s (.c .n))))))) ?_; refine At.HO.back (.c (.s (.s .z)) (.c (.s (.s .z)) (.c (.s (.s .z)) (.c (.s (.s .z)) (.c (.s (.s .z)) (.c (.s (.s .z)) (.c (.s (.s .z)) (.c (.s (.s .z)) (.c (.s (.s .z)) (.c (.s (.s .z)) .n)))))))))) ?_; refine At.H.done (by kernel_rfl) ?_; exact At.of (J2501 (A2511, c2512) trivial) trivial
         ··refine At.condF rfl (bn h2291) ?_
           refine At.skip (At.thn (At.seq (At.region (At.run 1 rfl ?_)))); refine At.thaw th2085 ?_; refine At.f8 (At.f1 (At.f8 (At.f8 (At.f8 (At.f7 (At.f8 ?_)))))); obtain ⟨t2513, hc2514, j⟩ := bbind j; refine At.call rfl Q21.callee rfl rfl rfl (Q21.spec _ _ b0 w2071 t2068.2.1.length w2073 w2070 A0_3 a0_3.length c0_3 A0_4 a0_4.length c0_4 A0_5 a0_5.length c0_5 A0_6 a0_6.length c0_6 b0_7 t2068.2.1 t2068.1 a0_2 a0_3 a0_4 a0_5 a0_6 a0_7 hr2074 rfl hc2076 rfl rfl rfl rfl hc2514) ?_; rintro _ _ ⟨w2515, rfl, rfl⟩; refine At.nil (At.thn (At.seq ?_)); refine At.still 6 (by kernel_rfl) ?_; refine At.Still.run 3 rfl ?_; refine At.Still.y (Y.load rfl rfl .z rfl rfl rfl) rfl rfl rfl ?_; refine At.Still.run 1 rfl ?_; refine At.Still.y (Y.load rfl rfl (.s (.s (.s (.s (.s (.s (.s (.s (.s .z))))))))) rfl rfl rfl) rfl rfl rfl ?_; refine At.Still.nil ?_; refine At.mapUpdate (k := t1847.2.2.2.2.1) (v := true) rfl (.s (.s (.s (.s (.s (.s .z)))))) rfl rfl (KeyOk.str rfl rfl) rfl rfl rfl rfl rfl ?_; refine At.nil (At.thn ?_); refine At.held [mapo Fl.bs.ov Fl.bool.ov b0_7 (mset a0_7 t1847.2.2.2.2.1 true), optb (Ow.fl Q4.fl) 58 w2515 t2513, row Fl.bs 9 A0_3 a0_3.length c0_3 a0_3, row Q0.fl 35 A0_4 a0_4.length c0_4 a0_4, grow Q1.ow 37 A0_5 a0_5.length c0_5 a0_5, pt b2079 (.cells [.int .i64 t1836.2.2.1, .string ⟨(t1847.2.2.2.2.1).toArray⟩, .int .i64 t2068.2.2.1].toArray 148), pt b2078 (.cells [.int .i64 t2068.2.2.2.1, .int .i64 t2068.2.2.2.2.1, .string ⟨(t2068.2.2.2.2.2.1).toArray⟩, .int .i64 t2068.2.2.2.2.2.2].toArray 116), pt b1857 (.cells [.int .i64 t1847.2.2.1, .int .i64 t1847.2.2.2.1, .string ⟨(t1847.2.2.2.2.1).toArray⟩, .int .i64 t1847.2.2.2.2.2].toArray 116), pt b1846 (.cells [.int .i64 t1836.2.2.2.1, .int .i64 t1836.2.2.2.2.1, .string ⟨(t1836.2.2.2.2.2.1).toArray⟩, .int .i64 t1836.2.2.2.2.2.2].toArray 116), pt b267 (.cells [.int .i64 a1_0, .int .i64 a1_1, .string ⟨(a1_2).toArray⟩, .int .i64 a1_3].toArray 116)] 11 rfl ?_; refine At.H.pw 0 rfl rfl rfl rfl rfl (.c .z (.c (.s .z) (.c (.s .z) (.c (.s .z) (.c (.s .z) (.c (.s (.s .z)) (.c (.s (.s .z)) (.c (.s (.s .z)) (.c (.s (.s .z)) (.c (.s (.s .z)) .n)))))))))) ?_; refine At.H.pw 1 rfl rfl rfl rfl rfl (.c .z (.c (.s .z) (.c (.s .z) (.c (.s .z) (.c (.s .z) (.c (.s (.s .z)) (.c (.s (.s .z)) (.c (.s (.s .z)) (.c (.s (.s .z)) (.c (.s (.s .z)) .n)))))))))) ?_; refine At.H.pw 2 rfl rfl rfl rfl rfl (.c .z (.c (.s .z) (.c (.s .z) (.c (.s .z) (.c (.s .z) (.c (.s (.s .z)) (.c (.s (.s .z)) (.c (.s (.s .z)) (.c (.s (.s .z)) (.c (.s (.s .z)) .n)))))))))) ?_; refine At.H.pw 3 rfl rfl rfl rfl rfl (.c .z (.c (.s .z) (.c (.s .z) (.c (.s .z) (.c (.s .z) (.c (.s (.s .z)) (.c (.s (.s .z)) (.c (.s (.s .z)) (.c (.s (.s .z)) (.c (.s (.s .z)) .n)))))))))) ?_; refine At.H.tw 5 rfl (Y.load rfl rfl (.s (.s (.s (.s (.s .z))))) rfl rfl rfl) rfl rfl rfl (.c .z (.c (.s .z) (.c (.s .z) (.c (.s .z) (.c (.s .z) (.c (.s (.s .z)) (.c (.s (.s .z)) (.c (.s (.s .z)) (.c (.s (.s .z)) (.c (.s (.s .z)) .n)))))))))) ?_; obtain ⟨h2719, j⟩ := bnone j; refine At.H.joinK (X := (Option Addr) × Nat) (fun s_ => []) (fun s_ => pt b0 (.cells [.slice w2071 t2068.2.1.length w2073, optp w2515, .int .i64 a0_2, .slice A0_3 a0_3.length c0_3, .slice A0_4 a0_4.length c0_4, .slice A0_5 a0_5.length c0_5, .slice s_.1 ((a0_6 ++ ([(⟨t1836.2.2.1, t1847.2.2.2.2.1, t2068.2.2.1⟩ : Q3)] : List Q3)).length) s_.2, .map (some b0_7)].toArray 114) :: row Q3.fl 148 s_.1 ((a0_6 ++ ([(⟨t1836.2.2.1, t1847.2.2.2.2.1, t2068.2.2.1⟩ : Q3)] : List Q3)).length) s_.2 (a0_6 ++ ([(⟨t1836.2.2.1, t1847.2.2.2.2.1, t2068.2.2.1⟩ : Q3)] : List Q3)) :: mapo Fl.bs.ov Fl.bool.ov b0_7 (mset a0_7 t1847.2.2.2.2.1 true) :: optb (Ow.fl Q4.fl) 58 w2515 t2513 :: row Fl.bs 9 A0_3 a0_3.length c0_3 a0_3 :: row Q0.fl 35 A0_4 a0_4.length c0_4 a0_4 :: grow Q1.ow 37 A0_5 a0_5.length c0_5 a0_5 :: pt b2079 (.cells [.int .i64 t1836.2.2.1, .string ⟨(t1847.2.2.2.2.1).toArray⟩, .int .i64 t2068.2.2.1].toArray 148) :: pt b2078 (.cells [.int .i64 t2068.2.2.2.1, .int .i64 t2068.2.2.2.2.1, .string ⟨(t2068.2.2.2.2.2.1).toArray⟩, .int .i64 t2068.2.2.2.2.2.2].toArray 116) :: pt b1857 (.cells [.int .i64 t1847.2.2.1, .int .i64 t1847.2.2.2.1, .string ⟨(t1847.2.2.2.2.1).toArray⟩, .int .i64 t1847.2.2.2.2.2].toArray 116) :: pt b1846 (.cells [.int .i64 t1836.2.2.2.1, .int .i64 t1836.2.2.2.2.1, .string ⟨(t1836.2.2.2.2.2.1).toArray⟩, .int .i64 t1836.2.2.2.2.2.2].toArray 116) :: pt b267 (.cells [.int .i64 a1_0, .int .i64 a1_1, .string ⟨(a1_2).toArray⟩, .int .i64 a1_3].toArray 116) :: Fr) (fun s_ => True) ?_ (fun J2718 => ?_)
           ·rintro ⟨w2716, w2717⟩ -
            ·refine At.drop (.s (.s (.s (.s (.s (.s (.s .z))))))) (At.drop (.s (.s (.s (.s (.s (.s (.s .z))))))) (At.drop (.s (.s (.s (.s (.s (.s (.s .z))))))) (At.drop (.s (.s (.s (.s (.s (.s (.s .z))))))) (At.drop (.s (.s (.s (.s (.s (.s (.s .z))))))) (At.f2 (At.f2 (At.f6 ?_))))))); refine At.f6 (At.f6 (At.f5 (At.f6 ?_))); cases bret j; exact At.res (.inr rfl) rfl rfl ⟨(a0_6 ++ ([(⟨t1836.2.2.1, t1847.2.2.2.2.1, t2068.2.2.1⟩ : Q3)] : List Q3)).length, w2716, w2717, w2515, w2071, t2068.2.1.length, w2073, rfl, rfl, rfl, hr2074, rfl, hc2076⟩
           ·refine At.H.al [4, 6] (Q7 ?_ (Q7 ?_ Q8))
            ··refine At.HO.op rfl ?_
              refine At.y (Y.load rfl rfl (.s .z) rfl rfl rfl) rfl rfl rfl ?_; refine At.HO.back (.c .z (.c (.s .z) (.c (.s .z) (.c (.s .z) (.c (.s .z) (.c (.s (.s .z)) (.c (.s (.s .z)) (.c (.s (.s .z)) (.c (.s (.s .z)) (.c (.s (.s .z)) .n)))))))))) ?_; refine At.H.al [6] (Q7 ?_ Q8)
              ··refine At.HO.op rfl ?_
                refine At.lit rfl (xo := [.tmp 84]) (ys := ([(⟨t1836.2.2.1, t1847.2.2.2.2.1, t2068.2.2.1⟩ : Q3)] : List Q3)) Q3.fl rfl rfl rfl rfl rfl rfl rfl rfl rfl rfl rfl (fun A2720 c2721 => ?_); refine At.HO.back (.c (.s .z) (.c (.s (.s .z)) (.c (.s (.s .z)) (.c (.s (.s .z)) (.c (.s (.s .z)) (.c (.s (.s (.s .z))) (.c (.s (.s (.s .z))) (.c (.s (.s (.s .z))) (.c (.s (.s (.s .z))) (.c (.s (.s (.s .z))) .n)))))))))) ?_; refine At.H.al [7] (Q7 ?_ Q8)
                ··refine At.HO.op rfl ?_
                  refine At.append rfl (.s (.s (.s (.s (.s (.s (.s .z))))))) (Src.own .z (by simp)) rfl rfl rfl rfl rfl rfl rfl rfl h2719 (by decide) rfl (fun A2723 c2724 => ?_); refine At.drop (.s .z) ?_; refine At.HO.back (.c (.s .z) (.c (.s (.s .z)) (.c (.s (.s .z)) (.c (.s (.s .z)) (.c (.s (.s .z)) (.c (.s (.s .z)) (.c (.s (.s .z)) (.c (.s (.s .z)) (.c (.s (.s .z)) (.c (.s (.s .z)) .n)))))))))) ?_; refine At.H.pw 8 rfl rfl rfl rfl rfl (.c (.s .z) (.c (.s (.s .z)) (.c (.s (.s .z)) (.c (.s (.s .z)) (.c (.s (.s .z)) (.c (.s (.s .z)) (.c (.s (.s .z)) (.c (.s (.s .z)) (.c (.s (.s .z)) (.c (.s (.s .z)) .n)))))))))) ?_; refine At.H.pw 9 rfl rfl rfl rfl rfl (.c (.s .z) (.c (.s (.s .z)) (.c (.s (.s .z)) (.c (.s (.s .z)) (.c (.s (.s .z)) (.c (.s (.s .z)) (.c (.s (.s .z)) (.c (.s (.s .z)) (.c (.s (.s .z)) (.c (.s (.s .z)) .n)))))))))) ?_; refine At.H.al [10] (Q7 ?_ Q8)
                  ··refine At.HO.op rfl ?_
                    refine At.store rfl rfl rfl rfl (.s (.s .z)) rfl rfl rfl (.s (.s (.s (.s (.s (.s (.c .n))))))) ?_; refine At.HO.back (.c (.s (.s .z)) (.c (.s (.s .z)) (.c (.s (.s .z)) (.c (.s (.s .z)) (.c (.s (.s .z)) (.c (.s (.s .z)) (.c (.s (.s .z)) (.c (.s (.s .z)) (.c (.s (.s .z)) (.c (.s (.s .z)) .n)))))))))) ?_; refine At.H.done (by kernel_rfl) ?_; exact At.of (J2718 (A2723, c2724) trivial) trivial
            ··refine At.HO.op rfl ?_
              refine At.lit rfl (xo := [.tmp 84]) (ys := ([(⟨t1836.2.2.1, t1847.2.2.2.2.1, t2068.2.2.1⟩ : Q3)] : List Q3)) Q3.fl rfl rfl rfl rfl rfl rfl rfl rfl rfl rfl rfl (fun A2725 c2726 => ?_); refine At.HO.back (.c (.s .z) (.c (.s (.s .z)) (.c (.s (.s .z)) (.c (.s (.s .z)) (.c (.s (.s .z)) (.c (.s (.s (.s .z))) (.c (.s (.s (.s .z))) (.c (.s (.s (.s .z))) (.c (.s (.s (.s .z))) (.c (.s (.s (.s .z))) .n)))))))))) ?_; refine At.H.al [4] (Q7 ?_ Q8)
              ··refine At.HO.op rfl ?_
                refine At.y (Y.load rfl rfl (.s (.s .z)) rfl rfl rfl) rfl rfl rfl ?_; refine At.HO.back (.c (.s .z) (.c (.s (.s .z)) (.c (.s (.s .z)) (.c (.s (.s .z)) (.c (.s (.s .z)) (.c (.s (.s (.s .z))) (.c (.s (.s (.s .z))) (.c (.s (.s (.s .z))) (.c (.s (.s (.s .z))) (.c (.s (.s (.s .z))) .n)))))))))) ?_; refine At.H.al [7] (Q7 ?_ Q8)
                ··refine At.HO.op rfl ?_
                  refine At.append rfl (.s (.s (.s (.s (.s (.s (.s .z))))))) (Src.own .z (by simp)) rfl rfl rfl rfl rfl rfl rfl rfl h2719 (by decide) rfl (fun A2728 c2729 => ?_); refine At.drop (.s .z) ?_; refine At.HO.back (.c (.s .z) (.c (.s (.s .z)) (.c (.s (.s .z)) (.c (.s (.s .z)) (.c (.s (.s .z)) (.c (.s (.s .z)) (.c (.s (.s .z)) (.c (.s (.s .z)) (.c (.s (.s .z)) (.c (.s (.s .z)) .n)))))))))) ?_; refine At.H.pw 8 rfl rfl rfl rfl rfl (.c (.s .z) (.c (.s (.s .z)) (.c (.s (.s .z)) (.c (.s (.s .z)) (.c (.s (.s .z)) (.c (.s (.s .z)) (.c (.s (.s .z)) (.c (.s (.s .z)) (.c (.s (.s .z)) (.c (.s (.s .z)) .n)))))))))) ?_; refine At.H.pw 9 rfl rfl rfl rfl rfl (.c (.s .z) (.c (.s (.s .z)) (.c (.s (.s .z)) (.c (.s (.s .z)) (.c (.s (.s .z)) (.c (.s (.s .z)) (.c (.s (.s .z)) (.c (.s (.s .z)) (.c (.s (.s .z)) (.c (.s (.s .z)) .n)))))))))) ?_; refine At.H.al [10] (Q7 ?_ Q8)
                  ··refine At.HO.op rfl ?_
                    refine At.store rfl rfl rfl rfl (.s (.s .z)) rfl rfl rfl (.s (.s (.s (.s (.s (.s (.c .n))))))) ?_; refine At.HO.back (.c (.s (.s .z)) (.c (.s (.s .z)) (.c (.s (.s .z)) (.c (.s (.s .z)) (.c (.s (.s .z)) (.c (.s (.s .z)) (.c (.s (.s .z)) (.c (.s (.s .z)) (.c (.s (.s .z)) (.c (.s (.s .z)) .n)))))))))) ?_; refine At.H.done (by kernel_rfl) ?_; exact At.of (J2718 (A2728, c2729) trivial) trivial
       ··rcases bite j with ⟨h2730, j⟩ | ⟨h2730, j⟩
         ··refine At.Quiet.know (t := 60) rfl h2730 ?_
           refine At.Quiet.run 3 rfl ?_; refine At.Quiet.y (Y.load rfl rfl (.s (.s (.s .z))) rfl rfl rfl) rfl rfl rfl ?_; refine At.Quiet.y (Y.load rfl rfl .z rfl rfl rfl) rfl rfl rfl ?_; obtain ⟨t2731, hc2732, j⟩ := bbind j; refine At.Quiet.call rfl Q56.callee rfl rfl rfl (Q56.spec _ _ A0_6 a0_6.length c0_6 a0_6 t1836.2.2.1 t1847.2.2.2.2.1 t2068.2.2.1 hr2081 hn2082 hc2083 hc2732) (fun _ _ h_ => ⟨h_.1, fun _ hs => h_.2 ▸ hs⟩) ?_; refine At.Quiet.run 1 rfl ?_; exact At.Quiet.of (J2290 t2731 j) ⟨rfl, rfl, rfl, rfl, rfl, trivial⟩
         ··refine At.Quiet.know (t := 60) rfl (bn h2730) ?_
           refine At.Quiet.run 7 rfl ?_; exact At.Quiet.of (J2290 false j) ⟨rfl, rfl, rfl, rfl, rfl, trivial⟩
     ··refine At.condF rfl (bn h2063) ?_
       refine At.skip (At.thn (At.seq (At.region (At.run 1 rfl (At.f7 (At.f7 (At.f7 ?_))))))); refine At.f7 (At.f7 (At.f6 (At.f7 ?_))); obtain ⟨t2733, hc2734, j⟩ := bbind j; refine At.call rfl Q44.callee rfl rfl rfl (Q44.spec _ _ b0 w1850 t1847.2.1.length w1852 w1849 A0_3 a0_3.length c0_3 A0_4 a0_4.length c0_4 A0_5 a0_5.length c0_5 A0_6 a0_6.length c0_6 b0_7 t1847.2.1 t1847.1 a0_2 a0_3 a0_4 a0_5 a0_6 a0_7 hr1853 rfl hc1855 rfl rfl rfl rfl hc2734) ?_; rintro _ _ ⟨w2735, w2736, w2737, w2738, rfl, rfl, hr2739, rfl, hc2741⟩; refine At.run 3 rfl ?_; refine At.alloc rfl rfl rfl (fun b2743 => ?_); refine At.store rfl rfl rfl rfl .z rfl rfl rfl (.c (.c (.c (.c .n)))) ?_; refine At.run 1 rfl (At.nil (At.thn (At.seq (At.region (At.run 2 rfl ?_))))); refine At.y (Y.load rfl rfl (.s (.s (.s (.s (.s (.s (.s (.s .z)))))))) rfl rfl rfl) rfl rfl rfl ?_; refine At.run 1 rfl ?_; refine At.y (Y.build (is := [0, 1, 2]) (xo := [.tmp 50, .tmp 52, .tmp 53]) (vs := [.int .i64 t1836.2.2.1, .string ⟨(t1847.2.2.2.2.1).toArray⟩, .int .i64 t2733.2.2.1]) (cs := [.int .i64 t1836.2.2.1, .string ⟨(t1847.2.2.2.2.1).toArray⟩, .int .i64 t2733.2.2.1]) rfl rfl rfl rfl rfl rfl) rfl rfl rfl ?_; refine At.alloc rfl rfl rfl (fun b2744 => ?_); refine At.store rfl rfl rfl rfl .z rfl rfl rfl (.c (.c (.c .n))) ?_; refine At.nil (At.thn (At.seq (At.seq ?_))); refine At.freeze (.s (.s (.s (.s (.s (.s (.s .z))))))) fun R2745 hr2746 hn2747 hc2748 hs2749 th2750 => ?_; refine At.quiet (by kernel_rfl) ?_; refine At.Quiet.run 3 rfl ?_; refine At.Quiet.y (Y.load rfl rfl (.s (.s (.s .z))) rfl rfl rfl) rfl rfl rfl ?_; refine At.Quiet.y (Y.eqOpt (.s (.s .z)) rfl rfl rfl rfl) rfl rfl rfl ?_; refine At.Quiet.run 1 rfl ?_; obtain ⟨G2952, hl2953, hr2954, j⟩ := bjoin j; refine At.Quiet.joinO 7 (X := Bool) (fun x2951 => [(0, .pointer (some ⟨b0, 0, none⟩)), (6, .pointer (some ⟨b1857, 0, none⟩)), (7, .pointer (some ⟨b2743, 0, none⟩)), (9, .pointer (some ⟨b2744, 0, none⟩)), (67, .bool x2951)]) (fun x2951 => pt b2744 (.cells [.int .i64 t1836.2.2.1, .string ⟨(t1847.2.2.2.2.1).toArray⟩, .int .i64 t2733.2.2.1].toArray 148) :: pt b2743 (.cells [.int .i64 t2733.2.2.2.1, .int .i64 t2733.2.2.2.2.1, .string ⟨(t2733.2.2.2.2.2.1).toArray⟩, .int .i64 t2733.2.2.2.2.2.2].toArray 116) :: optb (Ow.fl Q4.fl) 58 w2735 t2733.1 :: pt b0 (.cells [.slice w2736 t2733.2.1.length w2738, optp w2735, .int .i64 a0_2, .slice A0_3 a0_3.length c0_3, .slice A0_4 a0_4.length c0_4, .slice A0_5 a0_5.length c0_5, .slice A0_6 a0_6.length c0_6, .map (some b0_7)].toArray 114) :: row Fl.bs 9 A0_3 a0_3.length c0_3 a0_3 :: row Q0.fl 35 A0_4 a0_4.length c0_4 a0_4 :: grow Q1.ow 37 A0_5 a0_5.length c0_5 a0_5 :: mapo Fl.bs.ov Fl.bool.ov b0_7 a0_7 :: pt b1857 (.cells [.int .i64 t1847.2.2.1, .int .i64 t1847.2.2.2.1, .string ⟨(t1847.2.2.2.2.1).toArray⟩, .int .i64 t1847.2.2.2.2.2].toArray 116) :: pt b1846 (.cells [.int .i64 t1836.2.2.2.1, .int .i64 t1836.2.2.2.2.1, .string ⟨(t1836.2.2.2.2.2.1).toArray⟩, .int .i64 t1836.2.2.2.2.2.2].toArray 116) :: pt b267 (.cells [.int .i64 a1_0, .int .i64 a1_1, .string ⟨(a1_2).toArray⟩, .int .i64 a1_3].toArray 116) :: Fr) (fun x2951 => G2952 (.inl x2951) = some r) ?_ (fun J2955 => ?_)
       ·rintro x2951 j; have j := (hl2953 _).symm.trans j
        ·refine At.Quiet.nil (At.thn ?_); rcases bite j with ⟨h2956, j⟩ | ⟨h2956, j⟩
         ··refine At.condT rfl h2956 ?_
           refine At.region (At.run 1 rfl (At.y (Y.load rfl rfl (.s .z) rfl rfl rfl) rfl rfl rfl ?_)); refine At.thaw th2750 ?_; refine At.f8 (At.f1 (At.f8 (At.f8 (At.f8 (At.f7 (At.f8 ?_)))))); obtain ⟨t2957, hc2958, j⟩ := bbind j; refine At.call rfl Q13.callee rfl rfl rfl (Q13.spec _ _ b0 w2736 t2733.2.1.length w2738 w2735 A0_3 a0_3.length c0_3 A0_4 a0_4.length c0_4 A0_5 a0_5.length c0_5 A0_6 a0_6.length c0_6 b0_7 t2733.2.1 t2733.1 a0_2 a0_3 a0_4 a0_5 a0_6 a0_7 t2733.2.2.2.1 t2733.2.2.2.2.1 t2733.2.2.2.2.2.1 t2733.2.2.2.2.2.2 9 hr2739 rfl hc2741 rfl rfl rfl rfl hc2958) ?_; rintro _ _ ⟨w2959, rfl, rfl⟩; refine At.nil (At.thn (At.seq (At.region (At.run 1 rfl (At.f6 (At.f6 (At.f6 ?_))))))); refine At.f6 (At.f6 (At.f5 (At.f6 ?_))); obtain ⟨t2961, hc2962, j⟩ := bbind j; refine At.call rfl Q21.callee rfl rfl rfl (Q21.spec _ _ b0 w2736 t2733.2.1.length w2738 w2959 A0_3 a0_3.length c0_3 A0_4 a0_4.length c0_4 A0_5 a0_5.length c0_5 A0_6 a0_6.length c0_6 b0_7 t2733.2.1 t2957 a0_2 a0_3 a0_4 a0_5 a0_6 a0_7 hr2739 rfl hc2741 rfl rfl rfl rfl hc2962) ?_; rintro _ _ ⟨w2963, rfl, rfl⟩; refine At.nil (At.thn (At.seq ?_)); refine At.still 6 (by kernel_rfl) ?_; refine At.Still.run 3 rfl ?_; refine At.Still.y (Y.load rfl rfl .z rfl rfl rfl) rfl rfl rfl ?_; refine At.Still.run 1 rfl ?_; refine At.Still.y (Y.load rfl rfl (.s (.s (.s (.s (.s (.s (.s (.s (.s .z))))))))) rfl rfl rfl) rfl rfl rfl ?_; refine At.Still.nil ?_; refine At.mapUpdate (k := t1847.2.2.2.2.1) (v := true) rfl (.s (.s (.s (.s (.s (.s .z)))))) rfl rfl (KeyOk.str rfl rfl) rfl rfl rfl rfl rfl ?_; refine At.nil (At.thn ?_); refine At.held [mapo Fl.bs.ov Fl.bool.ov b0_7 (mset a0_7 t1847.2.2.2.2.1 true), optb (Ow.fl Q4.fl) 58 w2963 t2961, row Fl.bs 9 A0_3 a0_3.length c0_3 a0_3, row Q0.fl 35 A0_4 a0_4.length c0_4 a0_4, grow Q1.ow 37 A0_5 a0_5.length c0_5 a0_5, pt b2744 (.cells [.int .i64 t1836.2.2.1, .string ⟨(t1847.2.2.2.2.1).toArray⟩, .int .i64 t2733.2.2.1].toArray 148), pt b2743 (.cells [.int .i64 t2733.2.2.2.1, .int .i64 t2733.2.2.2.2.1, .string ⟨(t2733.2.2.2.2.2.1).toArray⟩, .int .i64 t2733.2.2.2.2.2.2].toArray 116), pt b1857 (.cells [.int .i64 t1847.2.2.1, .int .i64 t1847.2.2.2.1, .string ⟨(t1847.2.2.2.2.1).toArray⟩, .int .i64 t1847.2.2.2.2.2].toArray 116), pt b1846 (.cells [.int .i64 t1836.2.2.2.1, .int .i64 t1836.2.2.2.2.1, .string ⟨(t1836.2.2.2.2.2.1).toArray⟩, .int .i64 t1836.2.2.2.2.2.2].toArray 116), pt b267 (.cells [.int .i64 a1_0, .int .i64 a1_1, .string ⟨(a1_2).toArray⟩, .int .i64 a1_3].toArray 116)] 11 rfl ?_; refine At.H.pw 0 rfl rfl rfl rfl rfl (.c .z (.c (.s .z) (.c (.s .z) (.c (.s .z) (.c (.s .z) (.c (.s (.s .z)) (.c (.s (.s .z)) (.c (.s (.s .z)) (.c (.s (.s .z)) (.c (.s (.s .z)) .n)))))))))) ?_; refine At.H.pw 1 rfl rfl rfl rfl rfl (.c .z (.c (.s .z) (.c (.s .z) (.c (.s .z) (.c (.s .z) (.c (.s (.s .z)) (.c (.s (.s .z)) (.c (.s (.s .z)) (.c (.s (.s .z)) (.c (.s (.s .z)) .n)))))))))) ?_; refine At.H.pw 2 rfl rfl rfl rfl rfl (.c .z (.c (.s .z) (.c (.s .z) (.c (.s .z) (.c (.s .z) (.c (.s (.s .z)) (.c (.s (.s .z)) (.c (.s (.s .z)) (.c (.s (.s .z)) (.c (.s (.s .z)) .n)))))))))) ?_; refine At.H.pw 3 rfl rfl rfl rfl rfl (.c .z (.c (.s .z) (.c (.s .z) (.c (.s .z) (.c (.s .z) (.c (.s (.s .z)) (.c (.s (.s .z)) (.c (.s (.s .z)) (.c (.s (.s .z)) (.c (.s (.s .z)) .n)))))))))) ?_; refine At.H.tw 5 rfl (Y.load rfl rfl (.s (.s (.s (.s (.s .z))))) rfl rfl rfl) rfl rfl rfl (.c .z (.c (.s .z) (.c (.s .z) (.c (.s .z) (.c (.s .z) (.c (.s (.s .z)) (.c (.s (.s .z)) (.c (.s (.s .z)) (.c (.s (.s .z)) (.c (.s (.s .z)) .n)))))))))) ?_; obtain ⟨h3167, j⟩ := bnone j; refine At.H.joinK (X := (Option Addr) × Nat) (fun s_ => []) (fun s_ => pt b0 (.cells [.slice w2736 t2733.2.1.length w2738, optp w2963, .int .i64 a0_2, .slice A0_3 a0_3.length c0_3, .slice A0_4 a0_4.length c0_4, .slice A0_5 a0_5.length c0_5, .slice s_.1 ((a0_6 ++ ([(⟨t1836.2.2.1, t1847.2.2.2.2.1, t2733.2.2.1⟩ : Q3)] : List Q3)).length) s_.2, .map (some b0_7)].toArray 114) :: row Q3.fl 148 s_.1 ((a0_6 ++ ([(⟨t1836.2.2.1, t1847.2.2.2.2.1, t2733.2.2.1⟩ : Q3)] : List Q3)).length) s_.2 (a0_6 ++ ([(⟨t1836.2.2.1, t1847.2.2.2.2.1, t2733.2.2.1⟩ : Q3)] : List Q3)) :: mapo Fl.bs.ov Fl.bool.ov b0_7 (mset a0_7 t1847.2.2.2.2.1 true) :: optb (Ow.fl Q4.fl) 58 w2963 t2961 :: row Fl.bs 9 A0_3 a0_3.length c0_3 a0_3 :: row Q0.fl 35 A0_4 a0_4.length c0_4 a0_4 :: grow Q1.ow 37 A0_5 a0_5.length c0_5 a0_5 :: pt b2744 (.cells [.int .i64 t1836.2.2.1, .string ⟨(t1847.2.2.2.2.1).toArray⟩, .int .i64 t2733.2.2.1].toArray 148) :: pt b2743 (.cells [.int .i64 t2733.2.2.2.1, .int .i64 t2733.2.2.2.2.1, .string ⟨(t2733.2.2.2.2.2.1).toArray⟩, .int .i64 t2733.2.2.2.2.2.2].toArray 116) :: pt b1857 (.cells [.int .i64 t1847.2.2.1, .int .i64 t1847.2.2.2.1, .string ⟨(t1847.2.2.2.2.1).toArray⟩, .int .i64 t1847.2.2.2.2.2].toArray 116) :: pt b1846 (.cells [.int .i64 t1836.2.2.2.1, .int .i64 t1836.2.2.2.2.1, .string ⟨(t1836.2.2.2.2.2.1).toArray⟩, .int .i64 t1836.2.2.2.2.2.2].toArray 116) :: pt b267 (.cells [.int .i64 a1_0, .int .i64 a1_1, .string ⟨(a1_2).toArray⟩, .int .i64 a1_3].toArray 116) :: Fr) (fun s_ => True) ?_ (fun J3166 => ?_)
           ·rintro ⟨w3164, w3165⟩ -
            ·refine At.drop (.s (.s (.s (.s (.s (.s (.s .z))))))) (At.drop (.s (.s (.s (.s (.s (.s (.s .z))))))) (At.drop (.s (.s (.s (.s (.s (.s (.s .z))))))) (At.drop (.s (.s (.s (.s (.s (.s (.s .z))))))) (At.drop (.s (.s (.s (.s (.s (.s (.s .z))))))) (At.f2 (At.f2 (At.f6 ?_))))))); refine At.f6 (At.f6 (At.f5 (At.f6 ?_))); cases bret j; exact At.res (.inr rfl) rfl rfl ⟨(a0_6 ++ ([(⟨t1836.2.2.1, t1847.2.2.2.2.1, t2733.2.2.1⟩ : Q3)] : List Q3)).length, w3164, w3165, w2963, w2736, t2733.2.1.length, w2738, rfl, rfl, rfl, hr2739, rfl, hc2741⟩
           ·refine At.H.al [4, 6] (Q7 ?_ (Q7 ?_ Q8))
            ··refine At.HO.op rfl ?_
              refine At.y (Y.load rfl rfl (.s .z) rfl rfl rfl) rfl rfl rfl ?_; refine At.HO.back (.c .z (.c (.s .z) (.c (.s .z) (.c (.s .z) (.c (.s .z) (.c (.s (.s .z)) (.c (.s (.s .z)) (.c (.s (.s .z)) (.c (.s (.s .z)) (.c (.s (.s .z)) .n)))))))))) ?_; refine At.H.al [6] (Q7 ?_ Q8)
              ··refine At.HO.op rfl ?_
                refine At.lit rfl (xo := [.tmp 84]) (ys := ([(⟨t1836.2.2.1, t1847.2.2.2.2.1, t2733.2.2.1⟩ : Q3)] : List Q3)) Q3.fl rfl rfl rfl rfl rfl rfl rfl rfl rfl rfl rfl (fun A3168 c3169 => ?_); refine At.HO.back (.c (.s .z) (.c (.s (.s .z)) (.c (.s (.s .z)) (.c (.s (.s .z)) (.c (.s (.s .z)) (.c (.s (.s (.s .z))) (.c (.s (.s (.s .z))) (.c (.s (.s (.s .z))) (.c (.s (.s (.s .z))) (.c (.s (.s (.s .z))) .n)))))))))) ?_; refine At.H.al [7] (Q7 ?_ Q8)
                ··refine At.HO.op rfl ?_
                  refine At.append rfl (.s (.s (.s (.s (.s (.s (.s .z))))))) (Src.own .z (by simp)) rfl rfl rfl rfl rfl rfl rfl rfl h3167 (by decide) rfl (fun A3171 c3172 => ?_); refine At.drop (.s .z) ?_; refine At.HO.back (.c (.s .z) (.c (.s (.s .z)) (.c (.s (.s .z)) (.c (.s (.s .z)) (.c (.s (.s .z)) (.c (.s (.s .z)) (.c (.s (.s .z)) (.c (.s (.s .z)) (.c (.s (.s .z)) (.c (.s (.s .z)) .n)))))))))) ?_; refine At.H.pw 8 rfl rfl rfl rfl rfl (.c (.s .z) (.c (.s (.s .z)) (.c (.s (.s .z)) (.c (.s (.s .z)) (.c (.s (.s .z)) (.c (.s (.s .z)) (.c (.s (.s .z)) (.c (.s (.s .z)) (.c (.s (.s .z)) (.c (.s (.s .z)) .n)))))))))) ?_; refine At.H.pw 9 rfl rfl rfl rfl rfl (.c (.s .z) (.c (.s (.s .z)) (.c (.s (.s .z)) (.c (.s (.s .z)) (.c (.s (.s .z)) (.c (.s (.s .z)) (.c (.s (.s .z)) (.c (.s (.s .z)) (.c (.s (.s .z)) (.c (.s (.s .z)) .n)))))))))) ?_; refine At.H.al [10] (Q7 ?_ Q8)
                  ··refine At.HO.op rfl ?_
                    refine At.store rfl rfl rfl rfl (.s (.s .z)) rfl rfl rfl (.s (.s (.s (.s (.s (.s (.c .n))))))) ?_; refine At.HO.back (.c (.s (.s .z)) (.c (.s (.s .z)) (.c (.s (.s .z)) (.c (.s (.s .z)) (.c (.s (.s .z)) (.c (.s (.s .z)) (.c (.s (.s .z)) (.c (.s (.s .z)) (.c (.s (.s .z)) (.c (.s (.s .z)) .n)))))))))) ?_; refine At.H.done (by kernel_rfl) ?_; exact At.of (J3166 (A3171, c3172) trivial) trivial
            ··refine At.HO.op rfl ?_
              refine At.lit rfl (xo := [.tmp 84]) (ys := ([(⟨t1836.2.2.1, t1847.2.2.2.2.1, t2733.2.2.1⟩ : Q3)] : List Q3)) Q3.fl rfl rfl rfl rfl rfl rfl rfl rfl rfl rfl rfl (fun A3173 c3174 => ?_); refine At.HO.back (.c (.s .z) (.c (.s (.s .z)) (.c (.s (.s .z)) (.c (.s (.s .z)) (.c (.s (.s .z)) (.c (.s (.s (.s .z))) (.c (.s (.s (.s .z))) (.c (.s (.s (.s .z))) (.c (.s (.s (.s .z))) (.c (.s (.s (.s .z))) .n)))))))))) ?_; refine At.H.al [4] (Q7 ?_ Q8)
              ··refine At.HO.op rfl ?_
                refine At.y (Y.load rfl rfl (.s (.s .z)) rfl rfl rfl) rfl rfl rfl ?_; refine At.HO.back (.c (.s .z) (.c (.s (.s .z)) (.c (.s (.s .z)) (.c (.s (.s .z)) (.c (.s (.s .z)) (.c (.s (.s (.s .z))) (.c (.s (.s (.s .z))) (.c (.s (.s (.s .z))) (.c (.s (.s (.s .z))) (.c (.s (.s (.s .z))) .n)))))))))) ?_; refine At.H.al [7] (Q7 ?_ Q8)
                ··refine At.HO.op rfl ?_
                  refine At.append rfl (.s (.s (.s (.s (.s (.s (.s .z))))))) (Src.own .z (by simp)) rfl rfl rfl rfl rfl rfl rfl rfl h3167 (by decide) rfl (fun A3176 c3177 => ?_); refine At.drop (.s .z) ?_; refine At.HO.back (.c (.s .z) (.c (.s (.s .z)) (.c (.s (.s .z)) (.c (.s (.s .z)) (.c (.s (.s .z)) (.c (.s (.s .z)) (.c (.s (.s .z)) (.c (.s (.s .z)) (.c (.s (.s .z)) (.c (.s (.s .z)) .n)))))))))) ?_; refine At.H.pw 8 rfl rfl rfl rfl rfl (.c (.s .z) (.c (.s (.s .z)) (.c (.s (.s .z)) (.c (.s (.s .z)) (.c (.s (.s .z)) (.c (.s (.s .z)) (.c (.s (.s .z)) (.c (.s (.s .z)) (.c (.s (.s .z)) (.c (.s (.s .z)) .n)))))))))) ?_; refine At.H.pw 9 rfl rfl rfl rfl rfl (.c (.s .z) (.c (.s (.s .z)) (.c (.s (.s .z)) (.c (.s (.s .z)) (.c (.s (.s .z)) (.c (.s (.s .z)) (.c (.s (.s .z)) (.c (.s (.s .z)) (.c (.s (.s .z)) (.c (.s (.s .z)) .n)))))))))) ?_; refine At.H.al [10] (Q7 ?_ Q8)
                  ··refine At.HO.op rfl ?_
                    refine At.store rfl rfl rfl rfl (.s (.s .z)) rfl rfl rfl (.s (.s (.s (.s (.s (.s (.c .n))))))) ?_; refine At.HO.back (.c (.s (.s .z)) (.c (.s (.s .z)) (.c (.s (.s .z)) (.c (.s (.s .z)) (.c (.s (.s .z)) (.c (.s (.s .z)) (.c (.s (.s .z)) (.c (.s (.s .z)) (.c (.s (.s .z)) (.c (.s (.s .z)) .n)))))))))) ?_; refine At.H.done (by kernel_rfl) ?_; exact At.of (J3166 (A3176, c3177) trivial) trivial
         ··refine At.condF rfl (bn h2956) ?_
           refine At.skip (At.thn (At.seq (At.region (At.run 1 rfl ?_)))); refine At.thaw th2750 ?_; refine At.f8 (At.f1 (At.f8 (At.f8 (At.f8 (At.f7 (At.f8 ?_)))))); obtain ⟨t3178, hc3179, j⟩ := bbind j; refine At.call rfl Q21.callee rfl rfl rfl (Q21.spec _ _ b0 w2736 t2733.2.1.length w2738 w2735 A0_3 a0_3.length c0_3 A0_4 a0_4.length c0_4 A0_5 a0_5.length c0_5 A0_6 a0_6.length c0_6 b0_7 t2733.2.1 t2733.1 a0_2 a0_3 a0_4 a0_5 a0_6 a0_7 hr2739 rfl hc2741 rfl rfl rfl rfl hc3179) ?_; rintro _ _ ⟨w3180, rfl, rfl⟩; refine At.nil (At.thn (At.seq ?_)); refine At.still 6 (by kernel_rfl) ?_; refine At.Still.run 3 rfl ?_; refine At.Still.y (Y.load rfl rfl .z rfl rfl rfl) rfl rfl rfl ?_; refine At.Still.run 1 rfl ?_; refine At.Still.y (Y.load rfl rfl (.s (.s (.s (.s (.s (.s (.s (.s (.s .z))))))))) rfl rfl rfl) rfl rfl rfl ?_; refine At.Still.nil ?_; refine At.mapUpdate (k := t1847.2.2.2.2.1) (v := true) rfl (.s (.s (.s (.s (.s (.s .z)))))) rfl rfl (KeyOk.str rfl rfl) rfl rfl rfl rfl rfl ?_; refine At.nil (At.thn ?_); refine At.held [mapo Fl.bs.ov Fl.bool.ov b0_7 (mset a0_7 t1847.2.2.2.2.1 true), optb (Ow.fl Q4.fl) 58 w3180 t3178, row Fl.bs 9 A0_3 a0_3.length c0_3 a0_3, row Q0.fl 35 A0_4 a0_4.length c0_4 a0_4, grow Q1.ow 37 A0_5 a0_5.length c0_5 a0_5, pt b2744 (.cells [.int .i64 t1836.2.2.1, .string ⟨(t1847.2.2.2.2.1).toArray⟩, .int .i64 t2733.2.2.1].toArray 148), pt b2743 (.cells [.int .i64 t2733.2.2.2.1, .int .i64 t2733.2.2.2.2.1, .string ⟨(t2733.2.2.2.2.2.1).toArray⟩, .int .i64 t2733.2.2.2.2.2.2].toArray 116), pt b1857 (.cells [.int .i64 t1847.2.2.1, .int .i64 t1847.2.2.2.1, .string ⟨(t1847.2.2.2.2.1).toArray⟩, .int .i64 t1847.2.2.2.2.2].toArray 116), pt b1846 (.cells [.int .i64 t1836.2.2.2.1, .int .i64 t1836.2.2.2.2.1, .string ⟨(t1836.2.2.2.2.2.1).toArray⟩, .int .i64 t1836.2.2.2.2.2.2].toArray 116), pt b267 (.cells [.int .i64 a1_0, .int .i64 a1_1, .string ⟨(a1_2).toArray⟩, .int .i64 a1_3].toArray 116)] 11 rfl ?_; refine At.H.pw 0 rfl rfl rfl rfl rfl (.c .z (.c (.s .z) (.c (.s .z) (.c (.s .z) (.c (.s .z) (.c (.s (.s .z)) (.c (.s (.s .z)) (.c (.s (.s .z)) (.c (.s (.s .z)) (.c (.s (.s .z)) .n)))))))))) ?_; refine At.H.pw 1 rfl rfl rfl rfl rfl (.c .z (.c (.s .z) (.c (.s .z) (.c (.s .z) (.c (.s .z) (.c (.s (.s .z)) (.c (.s (.s .z)) (.c (.s (.s .z)) (.c (.s (.s .z)) (.c (.s (.s .z)) .n)))))))))) ?_; refine At.H.pw 2 rfl rfl rfl rfl rfl (.c .z (.c (.s .z) (.c (.s .z) (.c (.s .z) (.c (.s .z) (.c (.s (.s .z)) (.c (.s (.s .z)) (.c (.s (.s .z)) (.c (.s (.s .z)) (.c (.s (.s .z)) .n)))))))))) ?_; refine At.H.pw 3 rfl rfl rfl rfl rfl (.c .z (.c (.s .z) (.c (.s .z) (.c (.s .z) (.c (.s .z) (.c (.s (.s .z)) (.c (.s (.s .z)) (.c (.s (.s .z)) (.c (.s (.s .z)) (.c (.s (.s .z)) .n)))))))))) ?_; refine At.H.tw 5 rfl (Y.load rfl rfl (.s (.s (.s (.s (.s .z))))) rfl rfl rfl) rfl rfl rfl (.c .z (.c (.s .z) (.c (.s .z) (.c (.s .z) (.c (.s .z) (.c (.s (.s .z)) (.c (.s (.s .z)) (.c (.s (.s .z)) (.c (.s (.s .z)) (.c (.s (.s .z)) .n)))))))))) ?_; obtain ⟨h3384, j⟩ := bnone j; refine At.H.joinK (X := (Option Addr) × Nat) (fun s_ => []) (fun s_ => pt b0 (.cells [.slice w2736 t2733.2.1.length w2738, optp w3180, .int .i64 a0_2, .slice A0_3 a0_3.length c0_3, .slice A0_4 a0_4.length c0_4, .slice A0_5 a0_5.length c0_5, .slice s_.1 ((a0_6 ++ ([(⟨t1836.2.2.1, t1847.2.2.2.2.1, t2733.2.2.1⟩ : Q3)] : List Q3)).length) s_.2, .map (some b0_7)].toArray 114) :: row Q3.fl 148 s_.1 ((a0_6 ++ ([(⟨t1836.2.2.1, t1847.2.2.2.2.1, t2733.2.2.1⟩ : Q3)] : List Q3)).length) s_.2 (a0_6 ++ ([(⟨t1836.2.2.1, t1847.2.2.2.2.1, t2733.2.2.1⟩ : Q3)] : List Q3)) :: mapo Fl.bs.ov Fl.bool.ov b0_7 (mset a0_7 t1847.2.2.2.2.1 true) :: optb (Ow.fl Q4.fl) 58 w3180 t3178 :: row Fl.bs 9 A0_3 a0_3.length c0_3 a0_3 :: row Q0.fl 35 A0_4 a0_4.length c0_4 a0_4 :: grow Q1.ow 37 A0_5 a0_5.length c0_5 a0_5 :: pt b2744 (.cells [.int .i64 t1836.2.2.1, .string ⟨(t1847.2.2.2.2.1).toArray⟩, .int .i64 t2733.2.2.1].toArray 148) :: pt b2743 (.cells [.int .i64 t2733.2.2.2.1, .int .i64 t2733.2.2.2.2.1, .string ⟨(t2733.2.2.2.2.2.1).toArray⟩, .int .i64 t2733.2.2.2.2.2.2].toArray 116) :: pt b1857 (.cells [.int .i64 t1847.2.2.1, .int .i64 t1847.2.2.2.1, .string ⟨(t1847.2.2.2.2.1).toArray⟩, .int .i64 t1847.2.2.2.2.2].toArray 116) :: pt b1846 (.cells [.int .i64 t1836.2.2.2.1, .int .i64 t1836.2.2.2.2.1, .string ⟨(t1836.2.2.2.2.2.1).toArray⟩, .int .i64 t1836.2.2.2.2.2.2].toArray 116) :: pt b267 (.cells [.int .i64 a1_0, .int .i64 a1_1, .string ⟨(a1_2).toArray⟩, .int .i64 a1_3].toArray 116) :: Fr) (fun s_ => True) ?_ (fun J3383 => ?_)
           ·rintro ⟨w3381, w3382⟩ -
            ·refine At.drop (.s (.s (.s (.s (.s (.s (.s .z))))))) (At.drop (.s (.s (.s (.s (.s (.s (.s .z))))))) (At.drop (.s (.s (.s (.s (.s (.s (.s .z))))))) (At.drop (.s (.s (.s (.s (.s (.s (.s .z))))))) (At.drop (.s (.s (.s (.s (.s (.s (.s .z))))))) (At.f2 (At.f2 (At.f6 ?_))))))); refine At.f6 (At.f6 (At.f5 (At.f6 ?_))); cases bret j; exact At.res (.inr rfl) rfl rfl ⟨(a0_6 ++ ([(⟨t1836.2.2.1, t1847.2.2.2.2.1, t2733.2.2.1⟩ : Q3)] : List Q3)).length, w3381, w3382, w3180, w2736, t2733.2.1.length, w2738, rfl, rfl, rfl, hr2739, rfl, hc2741⟩
           ·refine At.H.al [4, 6] (Q7 ?_ (Q7 ?_ Q8))
            ··refine At.HO.op rfl ?_
              refine At.y (Y.load rfl rfl (.s .z) rfl rfl rfl) rfl rfl rfl ?_; refine At.HO.back (.c .z (.c (.s .z) (.c (.s .z) (.c (.s .z) (.c (.s .z) (.c (.s (.s .z)) (.c (.s (.s .z)) (.c (.s (.s .z)) (.c (.s (.s .z)) (.c (.s (.s .z)) .n)))))))))) ?_; refine At.H.al [6] (Q7 ?_ Q8)
              ··refine At.HO.op rfl ?_
                refine At.lit rfl (xo := [.tmp 84]) (ys := ([(⟨t1836.2.2.1, t1847.2.2.2.2.1, t2733.2.2.1⟩ : Q3)] : List Q3)) Q3.fl rfl rfl rfl rfl rfl rfl rfl rfl rfl rfl rfl (fun A3385 c3386 => ?_); refine At.HO.back (.c (.s .z) (.c (.s (.s .z)) (.c (.s (.s .z)) (.c (.s (.s .z)) (.c (.s (.s .z)) (.c (.s (.s (.s .z))) (.c (.s (.s (.s .z))) (.c (.s (.s (.s .z))) (.c (.s (.s (.s .z))) (.c (.s (.s (.s .z))) .n)))))))))) ?_; refine At.H.al [7] (Q7 ?_ Q8)
                ··refine At.HO.op rfl ?_
                  refine At.append rfl (.s (.s (.s (.s (.s (.s (.s .z))))))) (Src.own .z (by simp)) rfl rfl rfl rfl rfl rfl rfl rfl h3384 (by decide) rfl (fun A3388 c3389 => ?_); refine At.drop (.s .z) ?_; refine At.HO.back (.c (.s .z) (.c (.s (.s .z)) (.c (.s (.s .z)) (.c (.s (.s .z)) (.c (.s (.s .z)) (.c (.s (.s .z)) (.c (.s (.s .z)) (.c (.s (.s .z)) (.c (.s (.s .z)) (.c (.s (.s .z)) .n)))))))))) ?_; refine At.H.pw 8 rfl rfl rfl rfl rfl (.c (.s .z) (.c (.s (.s .z)) (.c (.s (.s .z)) (.c (.s (.s .z)) (.c (.s (.s .z)) (.c (.s (.s .z)) (.c (.s (.s .z)) (.c (.s (.s .z)) (.c (.s (.s .z)) (.c (.s (.s .z)) .n)))))))))) ?_; refine At.H.pw 9 rfl rfl rfl rfl rfl (.c (.s .z) (.c (.s (.s .z)) (.c (.s (.s .z)) (.c (.s (.s .z)) (.c (.s (.s .z)) (.c (.s (.s .z)) (.c (.s (.s .z)) (.c (.s (.s .z)) (.c (.s (.s .z)) (.c (.s (.s .z)) .n)))))))))) ?_; refine At.H.al [10] (Q7 ?_ Q8)
                  ··refine At.HO.op rfl ?_
                    refine At.store rfl rfl rfl rfl (.s (.s .z)) rfl rfl rfl (.s (.s (.s (.s (.s (.s (.c .n))))))) ?_; refine At.HO.back (.c (.s (.s .z)) (.c (.s (.s .z)) (.c (.s (.s .z)) (.c (.s (.s .z)) (.c (.s (.s .z)) (.c (.s (.s .z)) (.c (.s (.s .z)) (.c (.s (.s .z)) (.c (.s (.s .z)) (.c (.s (.s .z)) .n)))))))))) ?_; refine At.H.done (by kernel_rfl) ?_; exact At.of (J3383 (A3388, c3389) trivial) trivial
            ··refine At.HO.op rfl ?_
              refine At.lit rfl (xo := [.tmp 84]) (ys := ([(⟨t1836.2.2.1, t1847.2.2.2.2.1, t2733.2.2.1⟩ : Q3)] : List Q3)) Q3.fl rfl rfl rfl rfl rfl rfl rfl rfl rfl rfl rfl (fun A3390 c3391 => ?_); refine At.HO.back (.c (.s .z) (.c (.s (.s .z)) (.c (.s (.s .z)) (.c (.s (.s .z)) (.c (.s (.s .z)) (.c (.s (.s (.s .z))) (.c (.s (.s (.s .z))) (.c (.s (.s (.s .z))) (.c (.s (.s (.s .z))) (.c (.s (.s (.s .z))) .n)))))))))) ?_; refine At.H.al [4] (Q7 ?_ Q8)
              ··refine At.HO.op rfl ?_
                refine At.y (Y.load rfl rfl (.s (.s .z)) rfl rfl rfl) rfl rfl rfl ?_; refine At.HO.back (.c (.s .z) (.c (.s (.s .z)) (.c (.s (.s .z)) (.c (.s (.s .z)) (.c (.s (.s .z)) (.c (.s (.s (.s .z))) (.c (.s (.s (.s .z))) (.c (.s (.s (.s .z))) (.c (.s (.s (.s .z))) (.c (.s (.s (.s .z))) .n)))))))))) ?_; refine At.H.al [7] (Q7 ?_ Q8)
                ··refine At.HO.op rfl ?_
                  refine At.append rfl (.s (.s (.s (.s (.s (.s (.s .z))))))) (Src.own .z (by simp)) rfl rfl rfl rfl rfl rfl rfl rfl h3384 (by decide) rfl (fun A3393 c3394 => ?_); refine At.drop (.s .z) ?_; refine At.HO.back (.c (.s .z) (.c (.s (.s .z)) (.c (.s (.s .z)) (.c (.s (.s .z)) (.c (.s (.s .z)) (.c (.s (.s .z)) (.c (.s (.s .z)) (.c (.s (.s .z)) (.c (.s (.s .z)) (.c (.s (.s .z)) .n)))))))))) ?_; refine At.H.pw 8 rfl rfl rfl rfl rfl (.c (.s .z) (.c (.s (.s .z)) (.c (.s (.s .z)) (.c (.s (.s .z)) (.c (.s (.s .z)) (.c (.s (.s .z)) (.c (.s (.s .z)) (.c (.s (.s .z)) (.c (.s (.s .z)) (.c (.s (.s .z)) .n)))))))))) ?_; refine At.H.pw 9 rfl rfl rfl rfl rfl (.c (.s .z) (.c (.s (.s .z)) (.c (.s (.s .z)) (.c (.s (.s .z)) (.c (.s (.s .z)) (.c (.s (.s .z)) (.c (.s (.s .z)) (.c (.s (.s .z)) (.c (.s (.s .z)) (.c (.s (.s .z)) .n)))))))))) ?_; refine At.H.al [10] (Q7 ?_ Q8)
                  ··refine At.HO.op rfl ?_
                    refine At.store rfl rfl rfl rfl (.s (.s .z)) rfl rfl rfl (.s (.s (.s (.s (.s (.s (.c .n))))))) ?_; refine At.HO.back (.c (.s (.s .z)) (.c (.s (.s .z)) (.c (.s (.s .z)) (.c (.s (.s .z)) (.c (.s (.s .z)) (.c (.s (.s .z)) (.c (.s (.s .z)) (.c (.s (.s .z)) (.c (.s (.s .z)) (.c (.s (.s .z)) .n)))))))))) ?_; refine At.H.done (by kernel_rfl) ?_; exact At.of (J3383 (A3393, c3394) trivial) trivial
       ··rcases bite j with ⟨h3395, j⟩ | ⟨h3395, j⟩
         ··refine At.Quiet.know (t := 60) rfl h3395 ?_
           refine At.Quiet.run 3 rfl ?_; refine At.Quiet.y (Y.load rfl rfl (.s (.s (.s .z))) rfl rfl rfl) rfl rfl rfl ?_; refine At.Quiet.y (Y.load rfl rfl .z rfl rfl rfl) rfl rfl rfl ?_; obtain ⟨t3396, hc3397, j⟩ := bbind j; refine At.Quiet.call rfl Q56.callee rfl rfl rfl (Q56.spec _ _ A0_6 a0_6.length c0_6 a0_6 t1836.2.2.1 t1847.2.2.2.2.1 t2733.2.2.1 hr2746 hn2747 hc2748 hc3397) (fun _ _ h_ => ⟨h_.1, fun _ hs => h_.2 ▸ hs⟩) ?_; refine At.Quiet.run 1 rfl ?_; exact At.Quiet.of (J2955 t3396 j) ⟨rfl, rfl, rfl, rfl, rfl, trivial⟩
         ··refine At.Quiet.know (t := 60) rfl (bn h3395) ?_
           refine At.Quiet.run 7 rfl ?_; exact At.Quiet.of (J2955 false j) ⟨rfl, rfl, rfl, rfl, rfl, trivial⟩
   ··rcases bite j with ⟨h3398, j⟩ | ⟨h3398, j⟩
     ··refine At.Quiet.know (t := 34) rfl (nf h3398) ?_
       refine At.Quiet.run 7 rfl ?_; exact At.Quiet.of (J2062 false j) ⟨rfl, rfl, rfl, rfl, trivial⟩
     ··refine At.Quiet.know (t := 34) rfl (nt (bn h3398)) ?_
       refine At.Quiet.run 3 rfl ?_; refine At.Quiet.y (Y.load rfl rfl (.s (.s .z)) rfl rfl rfl) rfl rfl rfl ?_; refine At.Quiet.y (Y.lenMap (.s (.s (.s (.s (.s (.s (.s .z))))))) rfl rfl rfl) rfl rfl rfl ?_; refine At.Quiet.run 2 rfl ?_; exact At.Quiet.of (J2062 (decide (8 ≤ (a0_7.length : Int))) j) ⟨rfl, rfl, rfl, rfl, trivial⟩

noncomputable def Q90.f (a0_0 : Bs) (a0_1 : List Int) (a1_0 a1_1 : Int) (a1_2 : Bs) (a1_3 : Int) : Option Bool :=
 some (bseq a0_0 a1_2)
theorem Q90.callee : Callee Tryz.prog 101 := ⟨_, Tryz.func101, by kernel_rfl, by kernel_rfl⟩
theorem Q90.spec (R : Res) (Fr : List HProp) (A0_1 : Option Addr) (n0_1 : Nat) (c0_1 : Nat) (b1 : Nat) (a0_0 : Bs) (a0_1 : List Int) (a1_0 : Int) (a1_1 : Int) (a1_2 : Bs) (a1_3 : Int) (hr0_1 : RdS (Fl.int .i64).rep R.heap A0_1 a0_1) (hn0_1 : a0_1.length = n0_1) (hc0_1 : n0_1 ≤ c0_1) {r : Bool} (j : Q90.f a0_0 a0_1 a1_0 a1_1 a1_2 a1_3 = some r) :
 Spec Tryz.prog 101 [.agg #[.string ⟨(a0_0).toArray⟩, .slice A0_1 n0_1 c0_1], .pointer (some ⟨b1, 0, none⟩)] R (pt b1 (.cells [.int .i64 a1_0, .int .i64 a1_1, .string ⟨(a1_2).toArray⟩, .int .i64 a1_3].toArray 116) :: Fr) (fun v l' => v = .bool r ∧ pt b1 (.cells [.int .i64 a1_0, .int .i64 a1_1, .string ⟨(a1_2).toArray⟩, .int .i64 a1_3].toArray 116) :: Fr = l') := by
 subst hn0_1; refine Spec.of Tryz.func101 rfl rfl ?_; unfold Q90.f at j; have j := brun j; refine At.seq (At.region ?_); refine At.box rfl rfl (cs := [.string ⟨(a0_0).toArray⟩, .slice A0_1 a0_1.length c0_1]) rfl rfl (fun b253 => ?_); refine At.run 1 rfl (At.nil (At.thn (At.seq (At.region (At.run 1 rfl (At.y (Y.load rfl rfl .z rfl rfl rfl) rfl rfl rfl (At.run 1 rfl ?_))))))); refine At.y (Y.load rfl rfl (.s .z) rfl rfl rfl) rfl rfl rfl (At.run 2 rfl (At.nil (At.thn (At.ret (At.drop .z ?_))))); cases bret j; exact At.res (.inl rfl) rfl rfl ⟨rfl, rfl⟩

noncomputable def Q49.l0b (a0 : List Q1) (a1_c0_0 a1_c0_1 : Int) (a1_c0_2 : Bs) (a1_c0_3 x853 : Int) : Option ((Int) ⊕ ((Unit) ⊕ (Int))) :=
 if x853 < (a0.length : Int) then
 if (0 : Int) ≤ x853 ∧ x853 < (a0.length : Int) then
 (Q90.f ((gt a0 x853).Name) ((gt a0 x853).States) a1_c0_0 a1_c0_1 a1_c0_2 a1_c0_3).bind fun t1074 =>
 if t1074 = true then
 upL (some x853)
 else
 nx (IntKind.i64.wrap (x853 + 1))
 else none
 else
 dn (.inl ())
noncomputable def Q49.l0 (a0 : List Q1) (a1_c0_0 a1_c0_1 : Int) (a1_c0_2 : Bs) (a1_c0_3 x853 : Int) : Option ((Unit) ⊕ (Int)) := iter (fun t_ : Int => Q49.l0b a0 a1_c0_0 a1_c0_1 a1_c0_2 a1_c0_3 t_) x853
noncomputable def Q49.f (a0 : List Q1) (a1_c0_0 a1_c0_1 : Int) (a1_c0_2 : Bs) (a1_c0_3 : Int) : Option Int :=
 jn (Q49.l0 a0 a1_c0_0 a1_c0_1 a1_c0_2 a1_c0_3 0) (fun (_ : Unit) =>
 some (-1))
theorem Q49.callee : Callee Tryz.prog 145 := ⟨_, Tryz.func145, by kernel_rfl, by kernel_rfl⟩
theorem Q49.spec (R : Res) (Fr : List HProp) (A0 : Option Addr) (n0 : Nat) (c0 : Nat) (b1_c0 : Nat) (a0 : List Q1) (a1_c0_0 : Int) (a1_c0_1 : Int) (a1_c0_2 : Bs) (a1_c0_3 : Int) (hr0 : RdS Q1.rep R.heap A0 a0) (hn0 : a0.length = n0) (hc0 : n0 ≤ c0) {r : Int} (j : Q49.f a0 a1_c0_0 a1_c0_1 a1_c0_2 a1_c0_3 = some r) :
 Spec Tryz.prog 145 [.slice A0 n0 c0, .func (.func 101) #[] #[.pointer (some ⟨b1_c0, 0, none⟩)]] R (pt b1_c0 (.cells [.int .i64 a1_c0_0, .int .i64 a1_c0_1, .string ⟨(a1_c0_2).toArray⟩, .int .i64 a1_c0_3].toArray 116) :: Fr) (fun v l' => v = .int .i64 r ∧ pt b1_c0 (.cells [.int .i64 a1_c0_0, .int .i64 a1_c0_1, .string ⟨(a1_c0_2).toArray⟩, .int .i64 a1_c0_3].toArray 116) :: Fr = l') := by
 subst hn0; refine Spec.of Tryz.func145 rfl rfl ?_; unfold Q49.f at j; have j := brun j; refine At.seq (At.region (At.run 1 rfl (At.nil (At.thn (At.seq (At.seq (At.region ?_))))))); refine At.run 3 rfl (At.nil (At.thn ?_)); refine At.block ?_; obtain ⟨G1054, hl1055, hr1056, j⟩ := bjoin j; obtain ⟨o1057, hlo1058, ho1059⟩ := bsome j; clear j; unfold Q49.l0 at hlo1058; obtain ⟨m1060, hit1062⟩ := Q27.1 hlo1058; clear hlo1058; refine At.loopJ (X := Int) (Y := Unit) (e0 := 0) (fun x853 => [(0, .slice A0 a0.length c0), (1, .func (.func 101) #[] #[.pointer (some ⟨b1_c0, 0, none⟩)]), (7, .int .i64 (a0.length : Int)), (8, .int .i64 x853)]) (fun x853 => pt b1_c0 (.cells [.int .i64 a1_c0_0, .int .i64 a1_c0_1, .string ⟨(a1_c0_2).toArray⟩, .int .i64 a1_c0_3].toArray 116) :: Fr) (fun m_ => fun x853 => iterN (fun t_ : Int => Q49.l0b a0 a1_c0_0 a1_c0_1 a1_c0_2 a1_c0_3 t_) m_ x853 = some o1057) m1060 0 hit1062 (fun _ => []) (fun _ => pt b1_c0 (.cells [.int .i64 a1_c0_0, .int .i64 a1_c0_1, .string ⟨(a1_c0_2).toArray⟩, .int .i64 a1_c0_3].toArray 116) :: Fr) (fun _ => G1054 (.inl ()) = some r) (fun a w e hs => ⟨e.sub ⟨rfl, rfl, rfl, rfl, trivial⟩, (by exact hs)⟩) ?_ (fun J1064 => ?_)
 ·rintro _ j; have j := (hl1055 _).symm.trans j
  ·refine At.ibx ?_; refine At.thn (At.seq (At.region (At.run 1 rfl (At.nil (At.thn (At.ret ?_)))))); cases bret j; exact At.res (.inl rfl) rfl rfl ⟨rfl, rfl⟩
 ·clear hit1062 m1060; rintro m1060 x853 hit1062; obtain ⟨m1061, f_, hlt1063, hf_, j⟩ := bit hit1062; clear hit1062; have j : (Q49.l0b a0 a1_c0_0 a1_c0_1 a1_c0_2 a1_c0_3 x853).bind _ = some o1057 := j; unfold Q49.l0b at j
  ·refine At.seq (At.region (At.run 1 rfl (At.nil (At.thn (At.seq ?_))))); rcases bite j with ⟨h1065, j⟩ | ⟨h1065, j⟩
   ··refine At.condT rfl (decide_eq_true h1065) ?_
     refine At.skip (At.thn (At.seq ?_)); refine At.block ?_; refine At.seq (At.region (At.run 2 rfl (At.nil (At.thn (At.seq (At.region (At.run 3 rfl ?_))))))); obtain ⟨h1066, j⟩ := bnone j; refine At.y (Y.ixRd hr0 rfl rfl rfl rfl rfl rfl rfl h1066.1 h1066.2) rfl rfl rfl ?_; obtain ⟨cs1067, hK1068, hy1069⟩ := RdS.whole (P := Tryz.prog) hr0 (Sub.refl _) rfl h1066.1 h1066.2; obtain ⟨_, _, rfl, rfl, ⟨A1070, c1071, rfl, hc1072, hr1073⟩⟩ := hK1068; refine At.y (hy1069 rfl rfl rfl rfl) rfl rfl rfl ?_; obtain ⟨t1074, hc1075, j⟩ := bbind j; refine At.call rfl Q90.callee rfl rfl rfl (Q90.spec _ _ A1070 ((gt a0 x853).States.length) c1071 b1_c0 ((gt a0 x853).Name) ((gt a0 x853).States) a1_c0_0 a1_c0_1 a1_c0_2 a1_c0_3 hr1073 rfl hc1072 hc1075) ?_; rintro _ _ ⟨rfl, rfl⟩; refine At.nil (At.thn ?_); rcases bite j with ⟨h1076, j⟩ | ⟨h1076, j⟩
     ··refine At.condT rfl h1076 ?_
       refine At.seq (At.region (At.run 2 rfl (At.nil (At.thn (At.ret ?_))))); refine At.ibr ?_; refine At.thr ?_; have j := bupL hr1056 ho1059 j; refine At.thr ?_; refine At.ibr ?_; refine At.thr ?_; cases bret j; exact At.res (.inl rfl) rfl rfl ⟨rfl, rfl⟩
     ··refine At.condF rfl (bn h1076) ?_
       refine At.skip ?_; refine At.ibn ?_; refine At.thn (At.region (At.run 2 rfl (At.nil ?_))); have j := bnx hf_ j; exact fun a w e hs => ⟨m1061, (IntKind.i64.wrap (x853 + 1)), hlt1063, j, e.sub ⟨rfl, rfl, rfl, rfl, trivial⟩, hs⟩
   ··refine At.condF rfl (decide_eq_false h1065) ?_
     refine At.exit ?_; refine At.the ?_; refine At.the ?_; exact fun a w e hs => J1064 () (bdn j ho1059) a w (e.sub trivial) hs

noncomputable def Q88.f (a0 : List Q1) (a1_c0_0 a1_c0_1 : Int) (a1_c0_2 : Bs) (a1_c0_3 : Int) : Option Bool :=
 (Q49.f a0 a1_c0_0 a1_c0_1 a1_c0_2 a1_c0_3).bind fun t252 =>
 some (decide (0 ≤ t252))
theorem Q88.callee : Callee Tryz.prog 100 := ⟨_, Tryz.func100, by kernel_rfl, by kernel_rfl⟩
theorem Q88.spec (R : Res) (Fr : List HProp) (A0 : Option Addr) (n0 : Nat) (c0 : Nat) (b1_c0 : Nat) (a0 : List Q1) (a1_c0_0 : Int) (a1_c0_1 : Int) (a1_c0_2 : Bs) (a1_c0_3 : Int) (hr0 : RdS Q1.rep R.heap A0 a0) (hn0 : a0.length = n0) (hc0 : n0 ≤ c0) {r : Bool} (j : Q88.f a0 a1_c0_0 a1_c0_1 a1_c0_2 a1_c0_3 = some r) :
 Spec Tryz.prog 100 [.slice A0 n0 c0, .func (.func 101) #[] #[.pointer (some ⟨b1_c0, 0, none⟩)]] R (pt b1_c0 (.cells [.int .i64 a1_c0_0, .int .i64 a1_c0_1, .string ⟨(a1_c0_2).toArray⟩, .int .i64 a1_c0_3].toArray 116) :: Fr) (fun v l' => v = .bool r ∧ pt b1_c0 (.cells [.int .i64 a1_c0_0, .int .i64 a1_c0_1, .string ⟨(a1_c0_2).toArray⟩, .int .i64 a1_c0_3].toArray 116) :: Fr = l') := by
 subst hn0; refine Spec.of Tryz.func100 rfl rfl ?_; unfold Q88.f at j; have j := brun j; refine At.seq (At.region (At.run 1 rfl (At.nil (At.thn (At.seq (At.region (At.run 2 rfl ?_))))))); obtain ⟨t252, hc253, j⟩ := bbind j; refine At.call rfl Q49.callee rfl rfl rfl (Q49.spec _ _ A0 a0.length c0 b1_c0 a0 a1_c0_0 a1_c0_1 a1_c0_2 a1_c0_3 hr0 rfl hc0 hc253) ?_; rintro _ _ ⟨rfl, rfl⟩; refine At.run 2 rfl (At.nil (At.thn (At.ret ?_))); cases bret j; exact At.res (.inl rfl) rfl rfl ⟨rfl, rfl⟩

noncomputable def Q47.l0b (a0 : List Int) (a1 x853 : Int) : Option ((Int) ⊕ ((Unit) ⊕ (Int))) :=
 if x853 < (a0.length : Int) then
 if (0 : Int) ≤ x853 ∧ x853 < (a0.length : Int) then
 if a1 = gt a0 x853 then
 upL (some x853)
 else
 nx (IntKind.i64.wrap (x853 + 1))
 else none
 else
 dn (.inl ())
noncomputable def Q47.l0 (a0 : List Int) (a1 x853 : Int) : Option ((Unit) ⊕ (Int)) := iter (fun t_ : Int => Q47.l0b a0 a1 t_) x853
noncomputable def Q47.f (a0 : List Int) (a1 : Int) : Option Int :=
 jn (Q47.l0 a0 a1 0) (fun (_ : Unit) =>
 some (-1))
theorem Q47.callee : Callee Tryz.prog 146 := ⟨_, Tryz.func146, by kernel_rfl, by kernel_rfl⟩
theorem Q47.spec (R : Res) (Fr : List HProp) (A0 : Option Addr) (n0 : Nat) (c0 : Nat) (a0 : List Int) (a1 : Int) (hr0 : RdS (Fl.int .i64).rep R.heap A0 a0) (hn0 : a0.length = n0) (hc0 : n0 ≤ c0) {r : Int} (j : Q47.f a0 a1 = some r) :
 Spec Tryz.prog 146 [.slice A0 n0 c0, .int .i64 a1] R (Fr) (fun v l' => v = .int .i64 r ∧ Fr = l') := by
 subst hn0; refine Spec.of Tryz.func146 rfl rfl ?_; unfold Q47.f at j; have j := brun j; refine At.seq (At.region (At.run 1 rfl (At.nil (At.thn (At.seq (At.seq (At.region ?_))))))); refine At.run 3 rfl (At.nil (At.thn ?_)); refine At.block ?_; obtain ⟨G1054, hl1055, hr1056, j⟩ := bjoin j; obtain ⟨o1057, hlo1058, ho1059⟩ := bsome j; clear j; unfold Q47.l0 at hlo1058; obtain ⟨m1060, hit1062⟩ := Q27.1 hlo1058; clear hlo1058; refine At.loopJ (X := Int) (Y := Unit) (e0 := 0) (fun x853 => [(0, .slice A0 a0.length c0), (1, .int .i64 a1), (7, .int .i64 (a0.length : Int)), (8, .int .i64 x853)]) (fun x853 => Fr) (fun m_ => fun x853 => iterN (fun t_ : Int => Q47.l0b a0 a1 t_) m_ x853 = some o1057) m1060 0 hit1062 (fun _ => []) (fun _ => Fr) (fun _ => G1054 (.inl ()) = some r) (fun a w e hs => ⟨e.sub ⟨rfl, rfl, rfl, rfl, trivial⟩, (by exact hs)⟩) ?_ (fun J1064 => ?_)
 ·rintro _ j; have j := (hl1055 _).symm.trans j
  ·refine At.ibx ?_; refine At.thn (At.seq (At.region (At.run 1 rfl (At.nil (At.thn (At.ret ?_)))))); cases bret j; exact At.res (.inl rfl) rfl rfl ⟨rfl, rfl⟩
 ·clear hit1062 m1060; rintro m1060 x853 hit1062; obtain ⟨m1061, f_, hlt1063, hf_, j⟩ := bit hit1062; clear hit1062; have j : (Q47.l0b a0 a1 x853).bind _ = some o1057 := j; unfold Q47.l0b at j
  ·refine At.seq (At.region (At.run 1 rfl (At.nil (At.thn (At.seq ?_))))); rcases bite j with ⟨h1065, j⟩ | ⟨h1065, j⟩
   ··refine At.condT rfl (decide_eq_true h1065) ?_
     refine At.skip (At.thn (At.seq ?_)); refine At.block ?_; refine At.seq (At.region (At.run 2 rfl (At.nil (At.thn (At.seq (At.region (At.run 3 rfl ?_))))))); obtain ⟨h1066, j⟩ := bnone j; refine At.y (Y.ixRd hr0 rfl rfl rfl rfl rfl rfl rfl h1066.1 h1066.2) rfl rfl rfl (At.y (Y.ldFl hr0 rfl (q := 0) rfl rfl h1066.1 h1066.2 rfl rfl rfl) rfl rfl rfl (At.run 1 rfl (At.nil (At.thn ?_)))); rcases bite j with ⟨h1067, j⟩ | ⟨h1067, j⟩
     ··refine At.condT rfl (decide_eq_true h1067) ?_
       refine At.seq (At.region (At.run 2 rfl (At.nil (At.thn (At.ret ?_))))); refine At.ibr ?_; refine At.thr ?_; have j := bupL hr1056 ho1059 j; refine At.thr ?_; refine At.ibr ?_; refine At.thr ?_; cases bret j; exact At.res (.inl rfl) rfl rfl ⟨rfl, rfl⟩
     ··refine At.condF rfl (decide_eq_false h1067) ?_
       refine At.skip ?_; refine At.ibn ?_; refine At.thn (At.region (At.run 2 rfl (At.nil ?_))); have j := bnx hf_ j; exact fun a w e hs => ⟨m1061, (IntKind.i64.wrap (x853 + 1)), hlt1063, j, e.sub ⟨rfl, rfl, rfl, rfl, trivial⟩, hs⟩
   ··refine At.condF rfl (decide_eq_false h1065) ?_
     refine At.exit ?_; refine At.the ?_; refine At.the ?_; exact fun a w e hs => J1064 () (bdn j ho1059) a w (e.sub trivial) hs

noncomputable def Q89.f (a0 : List Int) (a1 : Int) : Option Bool :=
 (Q47.f a0 a1).bind fun t252 =>
 some (decide (0 ≤ t252))
theorem Q89.callee : Callee Tryz.prog 103 := ⟨_, Tryz.func103, by kernel_rfl, by kernel_rfl⟩
theorem Q89.spec (R : Res) (Fr : List HProp) (A0 : Option Addr) (n0 : Nat) (c0 : Nat) (a0 : List Int) (a1 : Int) (hr0 : RdS (Fl.int .i64).rep R.heap A0 a0) (hn0 : a0.length = n0) (hc0 : n0 ≤ c0) {r : Bool} (j : Q89.f a0 a1 = some r) :
 Spec Tryz.prog 103 [.slice A0 n0 c0, .int .i64 a1] R (Fr) (fun v l' => v = .bool r ∧ Fr = l') := by
 subst hn0; refine Spec.of Tryz.func103 rfl rfl ?_; unfold Q89.f at j; have j := brun j; refine At.seq (At.region (At.run 1 rfl (At.nil (At.thn (At.seq (At.region (At.run 2 rfl ?_))))))); obtain ⟨t252, hc253, j⟩ := bbind j; refine At.call rfl Q47.callee rfl rfl rfl (Q47.spec _ _ A0 a0.length c0 a0 a1 hr0 rfl hc0 hc253) ?_; rintro _ _ ⟨rfl, rfl⟩; refine At.run 2 rfl (At.nil (At.thn (At.ret ?_))); cases bret j; exact At.res (.inl rfl) rfl rfl ⟨rfl, rfl⟩

noncomputable def Q98.f (a0 : List Int) : Option (List Int) := if a0.length < 4611686018427387904 then some (a0.mergeSort fun x y => decide (x ≤ y)) else none
theorem Q98.callee : Callee Tryz.prog 104 := ⟨_, Tryz.func104, by kernel_rfl, by kernel_rfl⟩
theorem Q98.spec (R : Res) (Fr : List HProp) (A0 : Option Addr) (n0 : Nat) (c0 : Nat) (a0 : List Int) (hn0 : a0.length = n0) {r : List Int} (j : Q98.f a0 = some r) :
 Spec Tryz.prog 104 [.slice A0 n0 c0] R (row (Fl.int .i64) 3 A0 n0 c0 a0 :: Fr) (fun v l' => v = .tuple #[] ∧ row (Fl.int .i64) 3 A0 n0 c0 r :: Fr = l') := by
 unfold Q98.f at j; split at j
 ·rename_i hb; cases j; exact Q271 Tryz.sort104 R Fr hb
 ·cases j

noncomputable def Q50.l0b (a0_2 : Int) (a0_3 : List Bs) (a0_4 : List Q0) (a0_5 : List Q1) (a0_6 : List Q3) (a0_7 : List (Bs × Bool)) (x1101 : List Int) (x1107 : Option Q4) (x1111 : List Q5) : Option (((List Int) × (Option Q4) × (List Q5)) ⊕ (((Option Q4) × (List Int) × (List Q5)) ⊕ ((List Q1) × (Option Q4) × (List Q5)))) :=
 jn (
 if x1107.isNone = true then
 (Q66.f x1111 x1107 a0_2 a0_3 a0_4 a0_5 a0_6 a0_7).bind fun t2005 =>
 some (.inl (!t2005))
 else
 some (.inl false)) (fun (x1756 : Bool) =>
 if x1756 = true then
 (Q44.f x1111 x1107 a0_2 a0_3 a0_4 a0_5 a0_6 a0_7).bind fun t1762 =>
 jn (
 if t1762.1.isNone = true then
 (Q89.f x1101 t1762.2.2.1).bind fun t2002 =>
 some (.inl t2002)
 else
 some (.inl false)) (fun (x1973 : Bool) =>
 if x1973 = true then
 (Q13.f t1762.2.1 t1762.1 a0_2 a0_3 a0_4 a0_5 a0_6 a0_7 t1762.2.2.2.1 t1762.2.2.2.2.1 t1762.2.2.2.2.2.1 t1762.2.2.2.2.2.2 9).bind fun t1979 =>
 if (x1101.length + ([t1762.2.2.1] : List Int).length) * 8 ≤ 140737488355328 then
 nx ((x1101 ++ ([t1762.2.2.1] : List Int)), t1979, t1762.2.1)
 else none
 else
 if (x1101.length + ([t1762.2.2.1] : List Int).length) * 8 ≤ 140737488355328 then
 nx ((x1101 ++ ([t1762.2.2.1] : List Int)), t1762.1, t1762.2.1)
 else none)
 else
 dn (.inl (x1107, x1101, x1111)))
noncomputable def Q50.l0 (a0_2 : Int) (a0_3 : List Bs) (a0_4 : List Q0) (a0_5 : List Q1) (a0_6 : List Q3) (a0_7 : List (Bs × Bool)) (x1101 : List Int) (x1107 : Option Q4) (x1111 : List Q5) : Option (((Option Q4) × (List Int) × (List Q5)) ⊕ ((List Q1) × (Option Q4) × (List Q5))) := iter (fun t_ : (List Int) × (Option Q4) × (List Q5) => Q50.l0b a0_2 a0_3 a0_4 a0_5 a0_6 a0_7 t_.1 t_.2.1 t_.2.2) (x1101, x1107, x1111)
noncomputable def Q50.f (a0_0 : List Q5) (a0_1 : Option Q4) (a0_2 : Int) (a0_3 : List Bs) (a0_4 : List Q0) (a0_5 : List Q1) (a0_6 : List Q3) (a0_7 : List (Bs × Bool)) : Option ((List Q1) × (Option Q4) × (List Q5)) :=
 (Q59.f a0_0 a0_1 a0_2 a0_3 a0_4 a0_5 a0_6 a0_7).bind fun t270 =>
 jn (
 if t270.1.isNone = true then
 if 8 ≤ (a0_5.length : Int) then
 (Q13.f t270.2.1 t270.1 a0_2 a0_3 a0_4 a0_5 a0_6 a0_7 t270.2.2.1 t270.2.2.2.1 t270.2.2.2.2.1 t270.2.2.2.2.2 10).bind fun t2009 =>
 some (.inl t2009)
 else
 (Q88.f a0_5 t270.2.2.1 t270.2.2.2.1 t270.2.2.2.2.1 t270.2.2.2.2.2).bind fun t2019 =>
 if t2019 = true then
 (Q13.f t270.2.1 t270.1 a0_2 a0_3 a0_4 a0_5 a0_6 a0_7 t270.2.2.1 t270.2.2.2.1 t270.2.2.2.2.1 t270.2.2.2.2.2 9).bind fun t2022 =>
 some (.inl t2022)
 else
 some (.inl t270.1)
 else
 up (some (a0_5, t270.1, t270.2.1))) (fun (x486 : Option Q4) =>
 jn (Q50.l0 a0_2 a0_3 a0_4 a0_5 a0_6 a0_7 ([] : List Int) x486 t270.2.1) (fun (s_ : (Option Q4) × (List Int) × (List Q5)) =>
 (Q98.f s_.2.1).bind fun t1340 =>
 if (a0_5.length + 1) * 40 ≤ 140737488355328 then
 some ((a0_5 ++ [(⟨t270.2.2.2.2.1, t1340⟩ : Q1)]), s_.1, s_.2.2)
 else none))
theorem Q50.callee : Callee Tryz.prog 74 := ⟨_, Tryz.func74, by kernel_rfl, by kernel_rfl⟩
theorem Q50.spec (R : Res) (Fr : List HProp) (b0 : Nat) (A0_0 : Option Addr) (n0_0 : Nat) (c0_0 : Nat) (p0_1 : Option Nat) (A0_3 : Option Addr) (n0_3 : Nat) (c0_3 : Nat) (A0_4 : Option Addr) (n0_4 : Nat) (c0_4 : Nat) (A0_5 : Option Addr) (n0_5 : Nat) (c0_5 : Nat) (A0_6 : Option Addr) (n0_6 : Nat) (c0_6 : Nat) (b0_7 : Nat) (a0_0 : List Q5) (a0_1 : Option Q4) (a0_2 : Int) (a0_3 : List Bs) (a0_4 : List Q0) (a0_5 : List Q1) (a0_6 : List Q3) (a0_7 : List (Bs × Bool)) (hr0_0 : RdS Q5.fl.rep R.heap A0_0 a0_0) (hn0_0 : a0_0.length = n0_0) (hc0_0 : n0_0 ≤ c0_0) (hn0_3 : a0_3.length = n0_3) (hn0_4 : a0_4.length = n0_4) (hn0_5 : a0_5.length = n0_5) (hn0_6 : a0_6.length = n0_6) {r : (List Q1) × (Option Q4) × (List Q5)} (j : Q50.f a0_0 a0_1 a0_2 a0_3 a0_4 a0_5 a0_6 a0_7 = some r) :
 Spec Tryz.prog 74 [.pointer (some ⟨b0, 0, none⟩)] R (pt b0 (.cells [.slice A0_0 n0_0 c0_0, optp p0_1, .int .i64 a0_2, .slice A0_3 n0_3 c0_3, .slice A0_4 n0_4 c0_4, .slice A0_5 n0_5 c0_5, .slice A0_6 n0_6 c0_6, .map (some b0_7)].toArray 114) :: optb (Ow.fl Q4.fl) 58 p0_1 a0_1 :: row Fl.bs 9 A0_3 n0_3 c0_3 a0_3 :: row Q0.fl 35 A0_4 n0_4 c0_4 a0_4 :: grow Q1.ow 37 A0_5 n0_5 c0_5 a0_5 :: row Q3.fl 148 A0_6 n0_6 c0_6 a0_6 :: mapo Fl.bs.ov Fl.bool.ov b0_7 a0_7 :: Fr) (fun v l' => ∃ (w252 : Nat) (w254 : Option Addr) (w255 : Nat) (w256 : Option Nat) (w259 : Option Addr) (w260 : Nat) (w261 : Nat), v = .tuple #[] ∧ optb (Ow.fl Q4.fl) 58 w256 r.2.1 :: pt b0 (.cells [.slice w259 w260 w261, optp w256, .int .i64 a0_2, .slice A0_3 n0_3 c0_3, .slice A0_4 n0_4 c0_4, .slice w254 w252 w255, .slice A0_6 n0_6 c0_6, .map (some b0_7)].toArray 114) :: row Fl.bs 9 A0_3 n0_3 c0_3 a0_3 :: row Q0.fl 35 A0_4 n0_4 c0_4 a0_4 :: grow Q1.ow 37 w254 w252 w255 r.1 :: row Q3.fl 148 A0_6 n0_6 c0_6 a0_6 :: mapo Fl.bs.ov Fl.bool.ov b0_7 a0_7 :: Fr = l' ∧ r.1.length = w252 ∧ RdS Q5.fl.rep R.heap w259 r.2.2 ∧ r.2.2.length = w260 ∧ w260 ≤ w261) := by
 subst hn0_0; subst hn0_3; subst hn0_4; subst hn0_5; subst hn0_6; refine Spec.of Tryz.func74 rfl rfl ?_; unfold Q50.f at j; have j := brun j; refine At.seq (At.region (At.run 1 rfl ?_)); obtain ⟨t270, hc271, j⟩ := bbind j; refine At.call rfl Q59.callee rfl rfl rfl (Q59.spec _ _ b0 A0_0 a0_0.length c0_0 p0_1 A0_3 a0_3.length c0_3 A0_4 a0_4.length c0_4 A0_5 a0_5.length c0_5 A0_6 a0_6.length c0_6 b0_7 a0_0 a0_1 a0_2 a0_3 a0_4 a0_5 a0_6 a0_7 hr0_0 rfl hc0_0 rfl rfl rfl rfl hc271) ?_; rintro _ _ ⟨w272, w273, w274, w275, rfl, rfl, hr276, rfl, hc278⟩; refine At.alloc rfl rfl rfl (fun b280 => ?_); refine At.store rfl rfl rfl rfl .z rfl rfl rfl (.c (.c (.c (.c .n)))) ?_; refine At.nil (At.thn (At.seq ?_)); obtain ⟨G281, hl282, hr283, j⟩ := bjoin j; refine At.join (X := (Option Q4) × (Option Nat)) (fun s_ => [(0, .pointer (some ⟨b0, 0, none⟩)), (2, .pointer (some ⟨b280, 0, none⟩))]) (fun s_ => optb (Ow.fl Q4.fl) 58 s_.2 s_.1 :: pt b0 (.cells [.slice w273 t270.2.1.length w275, optp s_.2, .int .i64 a0_2, .slice A0_3 a0_3.length c0_3, .slice A0_4 a0_4.length c0_4, .slice A0_5 a0_5.length c0_5, .slice A0_6 a0_6.length c0_6, .map (some b0_7)].toArray 114) :: row Fl.bs 9 A0_3 a0_3.length c0_3 a0_3 :: row Q0.fl 35 A0_4 a0_4.length c0_4 a0_4 :: grow Q1.ow 37 A0_5 a0_5.length c0_5 a0_5 :: row Q3.fl 148 A0_6 a0_6.length c0_6 a0_6 :: mapo Fl.bs.ov Fl.bool.ov b0_7 a0_7 :: pt b280 (.cells [.int .i64 t270.2.2.1, .int .i64 t270.2.2.2.1, .string ⟨(t270.2.2.2.2.1).toArray⟩, .int .i64 t270.2.2.2.2.2].toArray 116) :: Fr) (fun s_ => G281 (.inl s_.1) = some r) ?_ (fun J284 => ?_)
 ·rintro ⟨x486, w485⟩ j; have j := (hl282 _).symm.trans j
  ·refine At.seq (At.region (At.run 1 rfl (At.nil (At.thn (At.seq ?_))))); refine At.block ?_; obtain ⟨G1329, hl1330, hr1331, j⟩ := bjoin j; obtain ⟨o1332, hlo1333, ho1334⟩ := bsome j; clear j; unfold Q50.l0 at hlo1333; obtain ⟨m1335, hit1337⟩ := Q27.1 hlo1333; clear hlo1333; refine At.nilRow (Fl.int .i64) 3 ?_; refine At.loopJ (X := (List Int) × (Option Q4) × (List Q5) × Nat × (Option Addr) × Nat × (Option Nat) × (Option Addr) × Nat × Nat) (Y := (Option Q4) × (List Int) × (List Q5) × (Option Nat) × Nat × (Option Addr) × Nat × (Option Addr) × Nat × Nat) (e0 := 1) (fun s_ => [(0, .pointer (some ⟨b0, 0, none⟩)), (2, .pointer (some ⟨b280, 0, none⟩)), (3, .slice s_.2.2.2.2.1 s_.2.2.2.1 s_.2.2.2.2.2.1)]) (fun s_ => row (Fl.int .i64) 3 s_.2.2.2.2.1 s_.2.2.2.1 s_.2.2.2.2.2.1 s_.1 :: optb (Ow.fl Q4.fl) 58 s_.2.2.2.2.2.2.1 s_.2.1 :: pt b0 (.cells [.slice s_.2.2.2.2.2.2.2.1 (d8 s_).1 (d8 s_).2, optp s_.2.2.2.2.2.2.1, .int .i64 a0_2, .slice A0_3 a0_3.length c0_3, .slice A0_4 a0_4.length c0_4, .slice A0_5 a0_5.length c0_5, .slice A0_6 a0_6.length c0_6, .map (some b0_7)].toArray 114) :: row Fl.bs 9 A0_3 a0_3.length c0_3 a0_3 :: row Q0.fl 35 A0_4 a0_4.length c0_4 a0_4 :: grow Q1.ow 37 A0_5 a0_5.length c0_5 a0_5 :: row Q3.fl 148 A0_6 a0_6.length c0_6 a0_6 :: mapo Fl.bs.ov Fl.bool.ov b0_7 a0_7 :: pt b280 (.cells [.int .i64 t270.2.2.1, .int .i64 t270.2.2.2.1, .string ⟨(t270.2.2.2.2.1).toArray⟩, .int .i64 t270.2.2.2.2.2].toArray 116) :: Fr) (fun m_ => fun s_ => iterN (fun t_ : (List Int) × (Option Q4) × (List Q5) => Q50.l0b a0_2 a0_3 a0_4 a0_5 a0_6 a0_7 t_.1 t_.2.1 t_.2.2) m_ (s_.1, s_.2.1, s_.2.2.1) = some o1332 ∧ s_.1.length = s_.2.2.2.1 ∧ RdS Q5.fl.rep R.heap s_.2.2.2.2.2.2.2.1 s_.2.2.1 ∧ s_.2.2.1.length = (d8 s_).1 ∧ (d8 s_).1 ≤ (d8 s_).2) m1335 (([] : List Int), x486, t270.2.1, 0, none, 0, w485, w273, t270.2.1.length, w275) ⟨hit1337, rfl, hr276, rfl, hc278⟩ (fun s_ => [(0, .pointer (some ⟨b0, 0, none⟩)), (2, .pointer (some ⟨b280, 0, none⟩)), (3, .slice s_.2.2.2.2.2.1 s_.2.2.2.2.1 s_.2.2.2.2.2.2.1)]) (fun s_ => pt b0 (.cells [.slice s_.2.2.2.2.2.2.2.1 (d8 s_).1 (d8 s_).2, optp s_.2.2.2.1, .int .i64 a0_2, .slice A0_3 a0_3.length c0_3, .slice A0_4 a0_4.length c0_4, .slice A0_5 a0_5.length c0_5, .slice A0_6 a0_6.length c0_6, .map (some b0_7)].toArray 114) :: optb (Ow.fl Q4.fl) 58 s_.2.2.2.1 s_.1 :: row Fl.bs 9 A0_3 a0_3.length c0_3 a0_3 :: row Q0.fl 35 A0_4 a0_4.length c0_4 a0_4 :: grow Q1.ow 37 A0_5 a0_5.length c0_5 a0_5 :: row Q3.fl 148 A0_6 a0_6.length c0_6 a0_6 :: mapo Fl.bs.ov Fl.bool.ov b0_7 a0_7 :: row (Fl.int .i64) 3 s_.2.2.2.2.2.1 s_.2.2.2.2.1 s_.2.2.2.2.2.2.1 s_.2.1 :: pt b280 (.cells [.int .i64 t270.2.2.1, .int .i64 t270.2.2.2.1, .string ⟨(t270.2.2.2.2.1).toArray⟩, .int .i64 t270.2.2.2.2.2].toArray 116) :: Fr) (fun s_ => G1329 (.inl (s_.1, s_.2.1, s_.2.2.1)) = some r ∧ s_.2.1.length = s_.2.2.2.2.1 ∧ RdS Q5.fl.rep R.heap s_.2.2.2.2.2.2.2.1 s_.2.2.1 ∧ s_.2.2.1.length = (d8 s_).1 ∧ (d8 s_).1 ≤ (d8 s_).2) (fun a w e hs => ⟨e.sub ⟨rfl, rfl, rfl, trivial⟩, (by exact hs)⟩) ?_ (fun J1339 => ?_)
   ·rintro ⟨x1316, x1317, x1325, w1315, w1318, w1320, w1321, w1322, w1323, w1324⟩ ⟨j, hn1319, hr1326, hn1327, hc1328⟩; obtain rfl : x1317.length = w1318 := hn1319; obtain rfl : x1325.length = w1323 := hn1327; have j := (hl1330 _).symm.trans j
    ·refine At.ibx ?_; refine At.thn (At.seq (At.region (At.run 1 rfl (At.f7 ?_)))); obtain ⟨t1340, hc1341, j⟩ := bbind j; refine At.call rfl Q98.callee rfl rfl rfl (Q98.spec _ _ w1320 x1317.length w1321 x1317 rfl hc1341) ?_; rintro _ _ ⟨rfl, rfl⟩; refine At.nil (At.thn ?_); refine At.held [optb (Ow.fl Q4.fl) 58 w1315 x1316, row Fl.bs 9 A0_3 a0_3.length c0_3 a0_3, row Q0.fl 35 A0_4 a0_4.length c0_4 a0_4, row Q3.fl 148 A0_6 a0_6.length c0_6 a0_6, mapo Fl.bs.ov Fl.bool.ov b0_7 a0_7, pt b280 (.cells [.int .i64 t270.2.2.1, .int .i64 t270.2.2.2.1, .string ⟨(t270.2.2.2.2.1).toArray⟩, .int .i64 t270.2.2.2.2.2].toArray 116)] 16 rfl ?_; refine At.H.pw 0 rfl rfl rfl rfl rfl (.c (.s (.s .z)) (.c (.s (.s .z)) (.c (.s (.s .z)) (.c (.s (.s (.s .z))) (.c (.s (.s (.s .z))) (.c (.s (.s (.s .z))) .n)))))) ?_; refine At.H.pw 1 rfl rfl rfl rfl rfl (.c (.s (.s .z)) (.c (.s (.s .z)) (.c (.s (.s .z)) (.c (.s (.s (.s .z))) (.c (.s (.s (.s .z))) (.c (.s (.s (.s .z))) .n)))))) ?_; refine At.H.pw 2 rfl rfl rfl rfl rfl (.c (.s (.s .z)) (.c (.s (.s .z)) (.c (.s (.s .z)) (.c (.s (.s (.s .z))) (.c (.s (.s (.s .z))) (.c (.s (.s (.s .z))) .n)))))) ?_; refine At.H.pw 3 rfl rfl rfl rfl rfl (.c (.s (.s .z)) (.c (.s (.s .z)) (.c (.s (.s .z)) (.c (.s (.s (.s .z))) (.c (.s (.s (.s .z))) (.c (.s (.s (.s .z))) .n)))))) ?_; refine At.H.pw 4 rfl rfl rfl rfl rfl (.c (.s (.s .z)) (.c (.s (.s .z)) (.c (.s (.s .z)) (.c (.s (.s (.s .z))) (.c (.s (.s (.s .z))) (.c (.s (.s (.s .z))) .n)))))) ?_; refine At.H.pw 6 rfl rfl rfl rfl rfl (.c (.s (.s .z)) (.c (.s (.s .z)) (.c (.s (.s .z)) (.c (.s (.s (.s .z))) (.c (.s (.s (.s .z))) (.c (.s (.s (.s .z))) .n)))))) ?_; refine At.H.tw 7 rfl (Y.load rfl rfl (.s (.s (.s (.s (.s .z))))) rfl rfl rfl) rfl rfl rfl (.c (.s (.s .z)) (.c (.s (.s .z)) (.c (.s (.s .z)) (.c (.s (.s (.s .z))) (.c (.s (.s (.s .z))) (.c (.s (.s (.s .z))) .n)))))) ?_; refine At.H.pw 8 rfl rfl rfl rfl rfl (.c (.s (.s .z)) (.c (.s (.s .z)) (.c (.s (.s .z)) (.c (.s (.s (.s .z))) (.c (.s (.s (.s .z))) (.c (.s (.s (.s .z))) .n)))))) ?_; refine At.H.tw 9 rfl (Y.build (is := [0, 1]) (xo := [.tmp 77, .tmp 78]) (vs := [.string ⟨(t270.2.2.2.2.1).toArray⟩, .slice w1320 x1317.length w1321]) (cs := [.string ⟨(t270.2.2.2.2.1).toArray⟩, .slice w1320 x1317.length w1321]) rfl rfl rfl rfl rfl rfl) rfl rfl rfl (.c (.s (.s .z)) (.c (.s (.s .z)) (.c (.s (.s .z)) (.c (.s (.s (.s .z))) (.c (.s (.s (.s .z))) (.c (.s (.s (.s .z))) .n)))))) ?_; obtain ⟨h1545, j⟩ := bnone j; refine At.H.joinK (X := (Option Addr) × Nat) (fun s_ => []) (fun s_ => pt b0 (.cells [.slice w1322 x1325.length w1324, optp w1315, .int .i64 a0_2, .slice A0_3 a0_3.length c0_3, .slice A0_4 a0_4.length c0_4, .slice s_.1 ((a0_5 ++ [(⟨t270.2.2.2.2.1, t1340⟩ : Q1)]).length) s_.2, .slice A0_6 a0_6.length c0_6, .map (some b0_7)].toArray 114) :: grow Q1.ow 37 s_.1 ((a0_5 ++ [(⟨t270.2.2.2.2.1, t1340⟩ : Q1)]).length) s_.2 (a0_5 ++ [(⟨t270.2.2.2.2.1, t1340⟩ : Q1)]) :: optb (Ow.fl Q4.fl) 58 w1315 x1316 :: row Fl.bs 9 A0_3 a0_3.length c0_3 a0_3 :: row Q0.fl 35 A0_4 a0_4.length c0_4 a0_4 :: row Q3.fl 148 A0_6 a0_6.length c0_6 a0_6 :: mapo Fl.bs.ov Fl.bool.ov b0_7 a0_7 :: pt b280 (.cells [.int .i64 t270.2.2.1, .int .i64 t270.2.2.2.1, .string ⟨(t270.2.2.2.2.1).toArray⟩, .int .i64 t270.2.2.2.2.2].toArray 116) :: Fr) (fun s_ => True) ?_ (fun J1544 => ?_)
     ·rintro ⟨w1542, w1543⟩ -
      ·refine At.drop (.s (.s (.s (.s (.s (.s (.s .z))))))) (At.f6 (At.f6 (At.f3 (At.f6 (At.f6 (At.f5 (At.f6 ?_))))))); cases bret j; exact At.res (.inr rfl) rfl rfl ⟨(a0_5 ++ [(⟨t270.2.2.2.2.1, t1340⟩ : Q1)]).length, w1542, w1543, w1315, w1322, x1325.length, w1324, rfl, rfl, rfl, hr1326, rfl, hc1328⟩
     ·refine At.H.al [5, 10] (Q7 ?_ (Q7 ?_ Q8))
      ··refine At.HO.op rfl ?_
        refine At.y (Y.load rfl rfl (.s .z) rfl rfl rfl) rfl rfl rfl ?_; refine At.HO.back (.c (.s (.s .z)) (.c (.s (.s .z)) (.c (.s (.s .z)) (.c (.s (.s (.s .z))) (.c (.s (.s (.s .z))) (.c (.s (.s (.s .z))) .n)))))) ?_; refine At.H.al [10] (Q7 ?_ Q8)
        ··refine At.HO.op rfl ?_
          refine At.lit rfl (xo := [.tmp 79]) (ys := ([rawOf (Q1.ow).sz [.string ⟨(t270.2.2.2.2.1).toArray⟩, .slice w1320 x1317.length w1321] rfl rfl] : List (Raw (Q1.ow).sz))) (Fl.raw (Q1.ow).sz (Q1.ow).pos) rfl rfl rfl rfl rfl rfl rfl rfl rfl rfl rfl (fun A1546 c1547 => ?_); refine At.HO.back (.c (.s (.s (.s .z))) (.c (.s (.s (.s .z))) (.c (.s (.s (.s .z))) (.c (.s (.s (.s (.s .z)))) (.c (.s (.s (.s (.s .z)))) (.c (.s (.s (.s (.s .z)))) .n)))))) ?_; refine At.H.al [11] (Q7 ?_ Q8)
          ··refine At.HO.op rfl ?_
            refine At.f1 (At.f1 (At.f6 ?_)); refine At.appendGrow (T := Q1.ow) rfl rfl Q1.ent rfl rfl rfl rfl rfl rfl rfl rfl rfl h1545 (by decide) rfl (fun A1549 c1550 => ?_); refine At.HO.back (.c (.s (.s .z)) (.c (.s (.s .z)) (.c (.s (.s .z)) (.c (.s (.s .z)) (.c (.s (.s .z)) (.c (.s (.s .z)) .n)))))) ?_; refine At.H.pw 12 rfl rfl rfl rfl rfl (.c (.s (.s .z)) (.c (.s (.s .z)) (.c (.s (.s .z)) (.c (.s (.s .z)) (.c (.s (.s .z)) (.c (.s (.s .z)) .n)))))) ?_; refine At.H.pw 13 rfl rfl rfl rfl rfl (.c (.s (.s .z)) (.c (.s (.s .z)) (.c (.s (.s .z)) (.c (.s (.s .z)) (.c (.s (.s .z)) (.c (.s (.s .z)) .n)))))) ?_; refine At.H.pw 14 rfl rfl rfl rfl rfl (.c (.s (.s .z)) (.c (.s (.s .z)) (.c (.s (.s .z)) (.c (.s (.s .z)) (.c (.s (.s .z)) (.c (.s (.s .z)) .n)))))) ?_; refine At.H.al [15] (Q7 ?_ Q8)
            ··refine At.HO.op rfl ?_
              refine At.store rfl rfl rfl rfl (.s .z) rfl rfl rfl (.s (.s (.s (.s (.s (.c .n)))))) ?_; refine At.HO.back (.c (.s (.s .z)) (.c (.s (.s .z)) (.c (.s (.s .z)) (.c (.s (.s .z)) (.c (.s (.s .z)) (.c (.s (.s .z)) .n)))))) ?_; refine At.H.done (by kernel_rfl) ?_; exact At.of (J1544 (A1549, c1550) trivial) trivial
      ··refine At.HO.op rfl ?_
        refine At.lit rfl (xo := [.tmp 79]) (ys := ([rawOf (Q1.ow).sz [.string ⟨(t270.2.2.2.2.1).toArray⟩, .slice w1320 x1317.length w1321] rfl rfl] : List (Raw (Q1.ow).sz))) (Fl.raw (Q1.ow).sz (Q1.ow).pos) rfl rfl rfl rfl rfl rfl rfl rfl rfl rfl rfl (fun A1551 c1552 => ?_); refine At.HO.back (.c (.s (.s (.s .z))) (.c (.s (.s (.s .z))) (.c (.s (.s (.s .z))) (.c (.s (.s (.s (.s .z)))) (.c (.s (.s (.s (.s .z)))) (.c (.s (.s (.s (.s .z)))) .n)))))) ?_; refine At.H.al [5] (Q7 ?_ Q8)
        ··refine At.HO.op rfl ?_
          refine At.y (Y.load rfl rfl (.s (.s .z)) rfl rfl rfl) rfl rfl rfl ?_; refine At.HO.back (.c (.s (.s (.s .z))) (.c (.s (.s (.s .z))) (.c (.s (.s (.s .z))) (.c (.s (.s (.s (.s .z)))) (.c (.s (.s (.s (.s .z)))) (.c (.s (.s (.s (.s .z)))) .n)))))) ?_; refine At.H.al [11] (Q7 ?_ Q8)
          ··refine At.HO.op rfl ?_
            refine At.f1 (At.f1 (At.f6 ?_)); refine At.appendGrow (T := Q1.ow) rfl rfl Q1.ent rfl rfl rfl rfl rfl rfl rfl rfl rfl h1545 (by decide) rfl (fun A1554 c1555 => ?_); refine At.HO.back (.c (.s (.s .z)) (.c (.s (.s .z)) (.c (.s (.s .z)) (.c (.s (.s .z)) (.c (.s (.s .z)) (.c (.s (.s .z)) .n)))))) ?_; refine At.H.pw 12 rfl rfl rfl rfl rfl (.c (.s (.s .z)) (.c (.s (.s .z)) (.c (.s (.s .z)) (.c (.s (.s .z)) (.c (.s (.s .z)) (.c (.s (.s .z)) .n)))))) ?_; refine At.H.pw 13 rfl rfl rfl rfl rfl (.c (.s (.s .z)) (.c (.s (.s .z)) (.c (.s (.s .z)) (.c (.s (.s .z)) (.c (.s (.s .z)) (.c (.s (.s .z)) .n)))))) ?_; refine At.H.pw 14 rfl rfl rfl rfl rfl (.c (.s (.s .z)) (.c (.s (.s .z)) (.c (.s (.s .z)) (.c (.s (.s .z)) (.c (.s (.s .z)) (.c (.s (.s .z)) .n)))))) ?_; refine At.H.al [15] (Q7 ?_ Q8)
            ··refine At.HO.op rfl ?_
              refine At.store rfl rfl rfl rfl (.s .z) rfl rfl rfl (.s (.s (.s (.s (.s (.c .n)))))) ?_; refine At.HO.back (.c (.s (.s .z)) (.c (.s (.s .z)) (.c (.s (.s .z)) (.c (.s (.s .z)) (.c (.s (.s .z)) (.c (.s (.s .z)) .n)))))) ?_; refine At.H.done (by kernel_rfl) ?_; exact At.of (J1544 (A1554, c1555) trivial) trivial
   ·clear hit1337 m1335; rintro m1335 ⟨x1101, x1107, x1111, w1102, w1104, w1105, w1106, w1108, w1109, w1110⟩ ⟨hit1337, hn1103, hr1112, hn1113, hc1114⟩; obtain rfl : x1101.length = w1102 := hn1103; obtain rfl : x1111.length = w1109 := hn1113; obtain ⟨m1336, f_, hlt1338, hf_, j⟩ := bit hit1337; clear hit1337; have j : (Q50.l0b a0_2 a0_3 a0_4 a0_5 a0_6 a0_7 x1101 x1107 x1111).bind _ = some o1332 := j; unfold Q50.l0b at j
    ·refine At.seq (At.seq (At.region (At.run 3 rfl (At.y (Y.load rfl rfl (.s (.s .z)) rfl rfl rfl) rfl rfl rfl ?_)))); refine At.y (Y.eqOpt (.s .z) rfl rfl rfl rfl) rfl rfl rfl ?_; refine At.run 1 rfl ?_; obtain ⟨G1757, hl1758, hr1759, j⟩ := bjoin j; refine At.joinO 4 (X := Bool) (fun x1756 => [(0, .pointer (some ⟨b0, 0, none⟩)), (2, .pointer (some ⟨b280, 0, none⟩)), (3, .slice w1104 x1101.length w1105), (45, .bool x1756)]) (fun x1756 => pt b0 (.cells [.slice w1108 x1111.length w1110, optp w1106, .int .i64 a0_2, .slice A0_3 a0_3.length c0_3, .slice A0_4 a0_4.length c0_4, .slice A0_5 a0_5.length c0_5, .slice A0_6 a0_6.length c0_6, .map (some b0_7)].toArray 114) :: optb (Ow.fl Q4.fl) 58 w1106 x1107 :: row Fl.bs 9 A0_3 a0_3.length c0_3 a0_3 :: row Q0.fl 35 A0_4 a0_4.length c0_4 a0_4 :: grow Q1.ow 37 A0_5 a0_5.length c0_5 a0_5 :: row Q3.fl 148 A0_6 a0_6.length c0_6 a0_6 :: mapo Fl.bs.ov Fl.bool.ov b0_7 a0_7 :: row (Fl.int .i64) 3 w1104 x1101.length w1105 x1101 :: pt b280 (.cells [.int .i64 t270.2.2.1, .int .i64 t270.2.2.2.1, .string ⟨(t270.2.2.2.2.1).toArray⟩, .int .i64 t270.2.2.2.2.2].toArray 116) :: Fr) (fun x1756 => G1757 (.inl x1756) = some o1332) ?_ (fun J1760 => ?_)
     ·rintro x1756 j; have j := (hl1758 _).symm.trans j
      ·refine At.nil (At.thn ?_); rcases bite j with ⟨h1761, j⟩ | ⟨h1761, j⟩
       ··refine At.condT rfl h1761 ?_
         refine At.skip (At.thn ?_); refine At.block ?_; refine At.seq (At.region (At.run 1 rfl ?_)); obtain ⟨t1762, hc1763, j⟩ := bbind j; refine At.call rfl Q44.callee rfl rfl rfl (Q44.spec _ _ b0 w1108 x1111.length w1110 w1106 A0_3 a0_3.length c0_3 A0_4 a0_4.length c0_4 A0_5 a0_5.length c0_5 A0_6 a0_6.length c0_6 b0_7 x1111 x1107 a0_2 a0_3 a0_4 a0_5 a0_6 a0_7 hr1112 rfl hc1114 rfl rfl rfl rfl hc1763) ?_; rintro _ _ ⟨w1764, w1765, w1766, w1767, rfl, rfl, hr1768, rfl, hc1770⟩; refine At.run 3 rfl ?_; refine At.alloc rfl rfl rfl (fun b1772 => ?_); refine At.store rfl rfl rfl rfl .z rfl rfl rfl (.c (.c (.c (.c .n)))) ?_; refine At.run 1 rfl (At.nil (At.thn (At.seq (At.seq (At.region (At.run 3 rfl (At.y (Y.load rfl rfl (.s (.s .z)) rfl rfl rfl) rfl rfl rfl ?_))))))); refine At.y (Y.eqOpt (.s .z) rfl rfl rfl rfl) rfl rfl rfl ?_; refine At.run 1 rfl ?_; obtain ⟨G1974, hl1975, hr1976, j⟩ := bjoin j; refine At.joinO 4 (X := Bool) (fun x1973 => [(0, .pointer (some ⟨b0, 0, none⟩)), (2, .pointer (some ⟨b280, 0, none⟩)), (3, .slice w1104 x1101.length w1105), (4, .pointer (some ⟨b1772, 0, none⟩)), (5, .int .i64 t1762.2.2.1), (60, .bool x1973)]) (fun x1973 => row (Fl.int .i64) 3 w1104 x1101.length w1105 x1101 :: pt b1772 (.cells [.int .i64 t1762.2.2.2.1, .int .i64 t1762.2.2.2.2.1, .string ⟨(t1762.2.2.2.2.2.1).toArray⟩, .int .i64 t1762.2.2.2.2.2.2].toArray 116) :: optb (Ow.fl Q4.fl) 58 w1764 t1762.1 :: pt b0 (.cells [.slice w1765 t1762.2.1.length w1767, optp w1764, .int .i64 a0_2, .slice A0_3 a0_3.length c0_3, .slice A0_4 a0_4.length c0_4, .slice A0_5 a0_5.length c0_5, .slice A0_6 a0_6.length c0_6, .map (some b0_7)].toArray 114) :: row Fl.bs 9 A0_3 a0_3.length c0_3 a0_3 :: row Q0.fl 35 A0_4 a0_4.length c0_4 a0_4 :: grow Q1.ow 37 A0_5 a0_5.length c0_5 a0_5 :: row Q3.fl 148 A0_6 a0_6.length c0_6 a0_6 :: mapo Fl.bs.ov Fl.bool.ov b0_7 a0_7 :: pt b280 (.cells [.int .i64 t270.2.2.1, .int .i64 t270.2.2.2.1, .string ⟨(t270.2.2.2.2.1).toArray⟩, .int .i64 t270.2.2.2.2.2].toArray 116) :: Fr) (fun x1973 => G1974 (.inl x1973) = some o1332) ?_ (fun J1977 => ?_)
         ·rintro x1973 j; have j := (hl1975 _).symm.trans j
          ·refine At.nil (At.thn ?_); rcases bite j with ⟨h1978, j⟩ | ⟨h1978, j⟩
           ··refine At.condT rfl h1978 ?_
             refine At.region (At.run 1 rfl (At.y (Y.load rfl rfl (.s .z) rfl rfl rfl) rfl rfl rfl (At.f8 (At.f8 (At.f8 (At.f8 (At.f8 ?_))))))); refine At.f7 (At.f8 ?_); obtain ⟨t1979, hc1980, j⟩ := bbind j; refine At.call rfl Q13.callee rfl rfl rfl (Q13.spec _ _ b0 w1765 t1762.2.1.length w1767 w1764 A0_3 a0_3.length c0_3 A0_4 a0_4.length c0_4 A0_5 a0_5.length c0_5 A0_6 a0_6.length c0_6 b0_7 t1762.2.1 t1762.1 a0_2 a0_3 a0_4 a0_5 a0_6 a0_7 t1762.2.2.2.1 t1762.2.2.2.2.1 t1762.2.2.2.2.2.1 t1762.2.2.2.2.2.2 9 hr1768 rfl hc1770 rfl rfl rfl rfl hc1980) ?_; rintro _ _ ⟨w1981, rfl, rfl⟩; refine At.nil (At.thn (At.region (At.run 2 rfl ?_))); refine At.lit rfl (xo := [.tmp 65]) (ys := ([t1762.2.2.1] : List Int)) (Fl.int .i64) rfl rfl rfl rfl rfl rfl rfl rfl rfl rfl rfl (fun A1983 c1984 => ?_); obtain ⟨h1986, j⟩ := bnone j; refine At.append rfl (.s (.s (.s (.s (.s (.s (.s (.s .z)))))))) (Src.own .z (by simp)) rfl rfl rfl rfl rfl rfl rfl rfl h1986 (by decide) rfl (fun A1987 c1988 => ?_); refine At.drop (.s .z) (At.run 1 rfl (At.nil ?_)); refine At.ibn ?_; refine At.drop (.s (.s (.s (.s (.s (.s (.s (.s .z)))))))) ?_; have j := bnx hf_ j; exact fun a w e hs => ⟨m1336, ((x1101 ++ ([t1762.2.2.1] : List Int)), t1979, t1762.2.1, (x1101 ++ ([t1762.2.2.1] : List Int)).length, A1987, c1988, w1981, w1765, t1762.2.1.length, w1767), hlt1338, ⟨j, rfl, hr1768, rfl, hc1770⟩, e.sub ⟨rfl, rfl, rfl, trivial⟩, hs⟩
           ··refine At.condF rfl (bn h1978) ?_
             refine At.skip (At.thn (At.region (At.run 2 rfl ?_))); refine At.lit rfl (xo := [.tmp 65]) (ys := ([t1762.2.2.1] : List Int)) (Fl.int .i64) rfl rfl rfl rfl rfl rfl rfl rfl rfl rfl rfl (fun A1989 c1990 => ?_); obtain ⟨h1992, j⟩ := bnone j; refine At.append rfl (.s .z) (Src.own .z (by simp)) rfl rfl rfl rfl rfl rfl rfl rfl h1992 (by decide) rfl (fun A1993 c1994 => ?_); refine At.drop (.s .z) (At.run 1 rfl (At.nil ?_)); refine At.ibn ?_; refine At.drop (.s .z) ?_; have j := bnx hf_ j; exact fun a w e hs => ⟨m1336, ((x1101 ++ ([t1762.2.2.1] : List Int)), t1762.1, t1762.2.1, (x1101 ++ ([t1762.2.2.1] : List Int)).length, A1993, c1994, w1764, w1765, t1762.2.1.length, w1767), hlt1338, ⟨j, rfl, hr1768, rfl, hc1770⟩, e.sub ⟨rfl, rfl, rfl, trivial⟩, hs⟩
         ··rcases bite j with ⟨h1995, j⟩ | ⟨h1995, j⟩
           ··refine At.know (t := 56) rfl h1995 ?_
             refine At.run 2 rfl ?_; refine At.freeze (.s (.s (.s (.s (.s (.s (.s (.s .z)))))))) fun R1996 hr1997 hn1998 hc1999 hs2000 th2001 => ?_; obtain ⟨t2002, hc2003, j⟩ := bbind j; refine At.call rfl Q89.callee rfl rfl rfl (Q89.spec _ _ w1104 x1101.length w1105 x1101 t1762.2.2.1 hr1997 hn1998 hc1999 hc2003) ?_; rintro _ _ ⟨rfl, rfl⟩; refine At.run 1 rfl ?_; refine At.thaw th2001 ?_; exact At.of (J1977 t2002 j) ⟨rfl, rfl, rfl, rfl, rfl, rfl, trivial⟩
           ··refine At.know (t := 56) rfl (bn h1995) ?_
             refine At.run 4 rfl (At.f9 (At.f8 (At.f8 (At.f8 (At.f8 (At.f8 (At.f8 ?_))))))); refine At.f8 (At.f8 (At.f9 ?_)); exact At.of (J1977 false j) ⟨rfl, rfl, rfl, rfl, rfl, rfl, trivial⟩
       ··refine At.condF rfl (bn h1761) ?_
         refine At.exit ?_; refine At.the ?_; refine At.the ?_; exact fun a w e hs => J1339 (x1107, x1101, x1111, w1106, x1101.length, w1104, w1105, w1108, x1111.length, w1110) ⟨(bdn j ho1334), rfl, hr1112, rfl, hc1114⟩ a w (e.sub ⟨rfl, rfl, rfl, trivial⟩) hs
     ··rcases bite j with ⟨h2004, j⟩ | ⟨h2004, j⟩
       ··refine At.know (t := 41) rfl h2004 ?_
         refine At.run 1 rfl (At.f7 (At.f7 (At.f7 (At.f7 (At.f7 (At.f6 (At.f7 ?_))))))); obtain ⟨t2005, hc2006, j⟩ := bbind j; refine At.call rfl Q66.callee rfl rfl rfl (Q66.spec _ _ b0 w1108 x1111.length w1110 w1106 A0_3 a0_3.length c0_3 A0_4 a0_4.length c0_4 A0_5 a0_5.length c0_5 A0_6 a0_6.length c0_6 b0_7 x1111 x1107 a0_2 a0_3 a0_4 a0_5 a0_6 a0_7 hr1112 rfl hc1114 rfl rfl rfl rfl hc2006) ?_; rintro _ _ ⟨rfl, rfl⟩; refine At.run 2 rfl ?_; exact At.of (J1760 (!t2005) j) ⟨rfl, rfl, rfl, rfl, trivial⟩
       ··refine At.know (t := 41) rfl (bn h2004) ?_
         refine At.run 4 rfl (At.f8 (At.f1 (At.f8 (At.f8 (At.f8 (At.f8 (At.f8 ?_))))))); refine At.f7 (At.f8 ?_); exact At.of (J1760 false j) ⟨rfl, rfl, rfl, rfl, trivial⟩
 ··refine At.block ?_
   refine At.seq (At.region (At.run 3 rfl (At.y (Y.load rfl rfl (.s (.s .z)) rfl rfl rfl) rfl rfl rfl ?_))); refine At.y (Y.neOpt (.s .z) rfl rfl rfl rfl) rfl rfl rfl ?_; refine At.run 1 rfl (At.nil (At.thn ?_)); rcases bite j with ⟨h2007, j⟩ | ⟨h2007, j⟩
   ··refine At.condF rfl (nf h2007) ?_
     refine At.seq (At.region (At.run 4 rfl (At.y (Y.load rfl rfl (.s (.s .z)) rfl rfl rfl) rfl rfl rfl (At.run 3 rfl (At.nil (At.thn ?_)))))); rcases bite j with ⟨h2008, j⟩ | ⟨h2008, j⟩
     ··refine At.condT rfl (decide_eq_true h2008) ?_
       refine At.region (At.run 1 rfl (At.y (Y.load rfl rfl .z rfl rfl rfl) rfl rfl rfl (At.f7 (At.f7 (At.f7 (At.f7 (At.f7 ?_))))))); refine At.f6 (At.f7 ?_); obtain ⟨t2009, hc2010, j⟩ := bbind j; refine At.call rfl Q13.callee rfl rfl rfl (Q13.spec _ _ b0 w273 t270.2.1.length w275 w272 A0_3 a0_3.length c0_3 A0_4 a0_4.length c0_4 A0_5 a0_5.length c0_5 A0_6 a0_6.length c0_6 b0_7 t270.2.1 t270.1 a0_2 a0_3 a0_4 a0_5 a0_6 a0_7 t270.2.2.1 t270.2.2.2.1 t270.2.2.2.2.1 t270.2.2.2.2.2 10 hr276 rfl hc278 rfl rfl rfl rfl hc2010) ?_; rintro _ _ ⟨w2011, rfl, rfl⟩; refine At.nil ?_; refine At.ibn ?_; refine At.thn ?_; exact fun a w e hs => J284 (t2009, w2011) j a w (e.sub ⟨rfl, rfl, trivial⟩) hs
     ··refine At.condF rfl (decide_eq_false h2008) ?_
       refine At.seq (At.region (At.run 4 rfl (At.y (Y.load rfl rfl (.s (.s .z)) rfl rfl rfl) rfl rfl rfl (At.run 1 rfl ?_)))); refine At.freezeGrow (.s (.s (.s (.s (.s .z))))) fun R2013 hr2014 hn2015 hc2016 hs2017 th2018 => ?_; obtain ⟨t2019, hc2020, j⟩ := bbind j; refine At.call rfl Q88.callee rfl rfl rfl (Q88.spec _ _ A0_5 a0_5.length c0_5 b280 a0_5 t270.2.2.1 t270.2.2.2.1 t270.2.2.2.2.1 t270.2.2.2.2.2 hr2014 hn2015 hc2016 hc2020) ?_; rintro _ _ ⟨rfl, rfl⟩; refine At.run 1 rfl (At.nil (At.thn ?_)); rcases bite j with ⟨h2021, j⟩ | ⟨h2021, j⟩
       ··refine At.condT rfl h2021 ?_
         refine At.region (At.run 1 rfl (At.y (Y.load rfl rfl .z rfl rfl rfl) rfl rfl rfl ?_)); refine At.thaw th2018 ?_; refine At.f7 (At.f7 (At.f2 (At.f7 (At.f7 (At.f6 (At.f7 ?_)))))); obtain ⟨t2022, hc2023, j⟩ := bbind j; refine At.call rfl Q13.callee rfl rfl rfl (Q13.spec _ _ b0 w273 t270.2.1.length w275 w272 A0_3 a0_3.length c0_3 A0_4 a0_4.length c0_4 A0_5 a0_5.length c0_5 A0_6 a0_6.length c0_6 b0_7 t270.2.1 t270.1 a0_2 a0_3 a0_4 a0_5 a0_6 a0_7 t270.2.2.1 t270.2.2.2.1 t270.2.2.2.2.1 t270.2.2.2.2.2 9 hr276 rfl hc278 rfl rfl rfl rfl hc2023) ?_; rintro _ _ ⟨w2024, rfl, rfl⟩; refine At.nil ?_; refine At.ibn ?_; refine At.thn ?_; exact fun a w e hs => J284 (t2022, w2024) j a w (e.sub ⟨rfl, rfl, trivial⟩) hs
       ··refine At.condF rfl (bn h2021) ?_
         refine At.skip ?_; refine At.ibn ?_; refine At.thn ?_; refine At.thaw th2018 ?_; refine At.f1 (At.f7 (At.f7 (At.f3 (At.f7 (At.f7 (At.f7 (At.f7 ?_))))))); exact fun a w e hs => J284 (t270.1, w272) j a w (e.sub ⟨rfl, rfl, trivial⟩) hs
   ··refine At.condT rfl (nt (bn h2007)) ?_
     refine At.ret ?_; refine At.ibr ?_; have j := bup hr283 j; refine At.thr (At.drop .z ?_); cases bret j; exact At.res (.inl rfl) rfl rfl ⟨a0_5.length, A0_5, c0_5, w272, w273, t270.2.1.length, w275, rfl, rfl, rfl, hr276, rfl, hc278⟩

noncomputable def Q100.f (a0 : List Bs) : Option (List Bs) := if a0.length < 4611686018427387904 then some (a0.mergeSort fun x y => decide (x ≤ y)) else none
theorem Q100.callee : Callee Tryz.prog 105 := ⟨_, Tryz.func105, by kernel_rfl, by kernel_rfl⟩
theorem Q100.spec (R : Res) (Fr : List HProp) (A0 : Option Addr) (n0 : Nat) (c0 : Nat) (a0 : List Bs) (hn0 : a0.length = n0) {r : List Bs} (j : Q100.f a0 = some r) :
 Spec Tryz.prog 105 [.slice A0 n0 c0] R (row Fl.bs 9 A0 n0 c0 a0 :: Fr) (fun v l' => v = .tuple #[] ∧ row Fl.bs 9 A0 n0 c0 r :: Fr = l') := by
 unfold Q100.f at j; split at j
 ·rename_i hb; cases j; exact Q255 Tryz.sort105 R Fr hb
 ·cases j

noncomputable def Q43.l0b (a0 : List Bs) (a1 : Bs) (x853 : Int) : Option ((Int) ⊕ ((Unit) ⊕ (Int))) :=
 if x853 < (a0.length : Int) then
 if (0 : Int) ≤ x853 ∧ x853 < (a0.length : Int) then
 if bseq a1 (gt a0 x853) = true then
 upL (some x853)
 else
 nx (IntKind.i64.wrap (x853 + 1))
 else none
 else
 dn (.inl ())
noncomputable def Q43.l0 (a0 : List Bs) (a1 : Bs) (x853 : Int) : Option ((Unit) ⊕ (Int)) := iter (fun t_ : Int => Q43.l0b a0 a1 t_) x853
noncomputable def Q43.f (a0 : List Bs) (a1 : Bs) : Option Int :=
 jn (Q43.l0 a0 a1 0) (fun (_ : Unit) =>
 some (-1))
theorem Q43.callee : Callee Tryz.prog 106 := ⟨_, Tryz.func106, by kernel_rfl, by kernel_rfl⟩
theorem Q43.spec (R : Res) (Fr : List HProp) (A0 : Option Addr) (n0 : Nat) (c0 : Nat) (a0 : List Bs) (a1 : Bs) (hr0 : RdS Fl.bs.rep R.heap A0 a0) (hn0 : a0.length = n0) (hc0 : n0 ≤ c0) {r : Int} (j : Q43.f a0 a1 = some r) :
 Spec Tryz.prog 106 [.slice A0 n0 c0, .string ⟨(a1).toArray⟩] R (Fr) (fun v l' => v = .int .i64 r ∧ Fr = l') := by
 subst hn0; refine Spec.of Tryz.func106 rfl rfl ?_; unfold Q43.f at j; have j := brun j; refine At.seq (At.region (At.run 1 rfl (At.nil (At.thn (At.seq (At.seq (At.region ?_))))))); refine At.run 3 rfl (At.nil (At.thn ?_)); refine At.block ?_; obtain ⟨G1054, hl1055, hr1056, j⟩ := bjoin j; obtain ⟨o1057, hlo1058, ho1059⟩ := bsome j; clear j; unfold Q43.l0 at hlo1058; obtain ⟨m1060, hit1062⟩ := Q27.1 hlo1058; clear hlo1058; refine At.loopJ (X := Int) (Y := Unit) (e0 := 0) (fun x853 => [(0, .slice A0 a0.length c0), (1, .string ⟨(a1).toArray⟩), (7, .int .i64 (a0.length : Int)), (8, .int .i64 x853)]) (fun x853 => Fr) (fun m_ => fun x853 => iterN (fun t_ : Int => Q43.l0b a0 a1 t_) m_ x853 = some o1057) m1060 0 hit1062 (fun _ => []) (fun _ => Fr) (fun _ => G1054 (.inl ()) = some r) (fun a w e hs => ⟨e.sub ⟨rfl, rfl, rfl, rfl, trivial⟩, (by exact hs)⟩) ?_ (fun J1064 => ?_)
 ·rintro _ j; have j := (hl1055 _).symm.trans j
  ·refine At.ibx ?_; refine At.thn (At.seq (At.region (At.run 1 rfl (At.nil (At.thn (At.ret ?_)))))); cases bret j; exact At.res (.inl rfl) rfl rfl ⟨rfl, rfl⟩
 ·clear hit1062 m1060; rintro m1060 x853 hit1062; obtain ⟨m1061, f_, hlt1063, hf_, j⟩ := bit hit1062; clear hit1062; have j : (Q43.l0b a0 a1 x853).bind _ = some o1057 := j; unfold Q43.l0b at j
  ·refine At.seq (At.region (At.run 1 rfl (At.nil (At.thn (At.seq ?_))))); rcases bite j with ⟨h1065, j⟩ | ⟨h1065, j⟩
   ··refine At.condT rfl (decide_eq_true h1065) ?_
     refine At.skip (At.thn (At.seq ?_)); refine At.block ?_; refine At.seq (At.region (At.run 2 rfl (At.nil (At.thn (At.seq (At.region (At.run 3 rfl ?_))))))); obtain ⟨h1066, j⟩ := bnone j; refine At.y (Y.ixRd hr0 rfl rfl rfl rfl rfl rfl rfl h1066.1 h1066.2) rfl rfl rfl (At.y (Y.ldFl hr0 rfl (q := 0) rfl rfl h1066.1 h1066.2 rfl rfl rfl) rfl rfl rfl (At.run 1 rfl (At.nil (At.thn ?_)))); rcases bite j with ⟨h1067, j⟩ | ⟨h1067, j⟩
     ··refine At.condT rfl h1067 ?_
       refine At.seq (At.region (At.run 2 rfl (At.nil (At.thn (At.ret ?_))))); refine At.ibr ?_; refine At.thr ?_; have j := bupL hr1056 ho1059 j; refine At.thr ?_; refine At.ibr ?_; refine At.thr ?_; cases bret j; exact At.res (.inl rfl) rfl rfl ⟨rfl, rfl⟩
     ··refine At.condF rfl (bn h1067) ?_
       refine At.skip ?_; refine At.ibn ?_; refine At.thn (At.region (At.run 2 rfl (At.nil ?_))); have j := bnx hf_ j; exact fun a w e hs => ⟨m1061, (IntKind.i64.wrap (x853 + 1)), hlt1063, j, e.sub ⟨rfl, rfl, rfl, rfl, trivial⟩, hs⟩
   ··refine At.condF rfl (decide_eq_false h1065) ?_
     refine At.exit ?_; refine At.the ?_; refine At.the ?_; exact fun a w e hs => J1064 () (bdn j ho1059) a w (e.sub trivial) hs

noncomputable def Q60.cmp (x y : Q0) : Option Int := Q64.f x.From x.Action x.To y.From y.Action y.To
open Classical in
noncomputable def Q60.f (a0 : List Q0) : Option (List Q0) := if a0.length < 4611686018427387904 ∧ CmpTot Q60.cmp then some (byCmp Q60.cmp a0) else none
theorem Q60.callee : Callee Tryz.prog 42 := ⟨_, Tryz.func42, by kernel_rfl, by kernel_rfl⟩
theorem Q60.spec (R : Res) (Fr : List HProp) (A0 : Option Addr) (n0 : Nat) (c0 : Nat) (a0 : List Q0) (hn0 : a0.length = n0) {r : List Q0} (j : Q60.f a0 = some r) :
 Spec Tryz.prog 42 [.slice A0 n0 c0, .func (.func 55) #[] #[]] R (row Q0.fl 35 A0 n0 c0 a0 :: Fr) (fun v l' => v = .tuple #[] ∧ row Q0.fl 35 A0 n0 c0 r :: Fr = l') := by
 unfold Q60.f at j; split at j
 ·rename_i hb; cases j; refine Q207 Tryz.sort42 Q0.fl (fun w => (Q14 (P := Tryz.prog) (t := 35) (i := Tryz.ti35) rfl).run_isAgg w) (fun w => (Q14 (P := Tryz.prog) (t := 35) (i := Tryz.ti35) rfl).run_sizeOf w) (gcf Q60.cmp) hb.2.1.2 hb.2.2 55 (enters_of Tryz.func55 (by kernel_rfl) rfl) (fun R x y => Q64.spec R [] _ _ _ _ _ _ (gcf_eq hb.2.1 x y)) R Fr hb.1
 ·cases j

noncomputable def Q61.cmp (x y : Q1) : Option Int := Q68.f x.Name x.States y.Name y.States
open Classical in
noncomputable def Q61.f (a0 : List Q1) : Option (List Q1) := if a0.length < 4611686018427387904 ∧ CmpSwo Q61.cmp ∧ CmpParts Q61.cmp a0 then some (byCmp Q61.cmp a0) else none
theorem Q61.callee : Callee Tryz.prog 107 := ⟨_, Tryz.func107, by kernel_rfl, by kernel_rfl⟩
theorem Q61.spec (R : Res) (Fr : List HProp) (A0 : Option Addr) (n0 : Nat) (c0 : Nat) (a0 : List Q1) (hn0 : a0.length = n0) {r : List Q1} (j : Q61.f a0 = some r) :
 Spec Tryz.prog 107 [.slice A0 n0 c0, .func (.func 59) #[] #[]] R (grow Q1.ow 37 A0 n0 c0 a0 :: Fr) (fun v l' => v = .tuple #[] ∧ grow Q1.ow 37 A0 n0 c0 r :: Fr = l') := by
 unfold Q61.f at j; split at j
 ·rename_i hb; cases j; refine Q267 Tryz.sort107 Q1.ow (fun w => (Q14 (P := Tryz.prog) (t := 37) (i := Tryz.ti37) rfl).run_isAgg w) (fun w => (Q14 (P := Tryz.prog) (t := 37) (i := Tryz.ti37) rfl).run_sizeOf w) (gcf Q61.cmp) hb.2.1.2 59 (enters_of Tryz.func59 (by kernel_rfl) rfl) ?_ R Fr hb.1 hb.2.2; rintro R x y cs cs' ⟨_, _, rfl, rfl, ⟨_, _, rfl, hc0_1, hr0_1⟩⟩ ⟨_, _, rfl, rfl, ⟨_, _, rfl, hc1_1, hr1_1⟩⟩; exact Q68.spec R [] _ _ _ _ _ _ _ _ _ _ hr0_1 rfl hc0_1 hr1_1 rfl hc1_1 (gcf_eq hb.2.1 x y)
 ·cases j

noncomputable def Q24.l1b (a0_6 : List Q3) (t1103 : List Bs) (x1712 : List Q0) (x1718 : Int) : Option (((List Q0) × Int) ⊕ (((List Q0)) ⊕ ((List Q1) × (List Q0) × (List Bs) × Int))) :=
 if x1718 < (a0_6.length : Int) then
 if (0 : Int) ≤ x1718 ∧ x1718 < (a0_6.length : Int) then
 (Q43.f t1103 ((gt a0_6 x1718).action)).bind fun t1953 =>
 if (x1712.length + ([(⟨(gt a0_6 x1718).from_, t1953, (gt a0_6 x1718).to⟩ : Q0)] : List Q0).length) * 24 ≤ 140737488355328 then
 nx ((x1712 ++ ([(⟨(gt a0_6 x1718).from_, t1953, (gt a0_6 x1718).to⟩ : Q0)] : List Q0)), IntKind.i64.wrap (x1718 + 1))
 else none
 else none
 else
 dn (.inl x1712)
noncomputable def Q24.l1 (a0_6 : List Q3) (t1103 : List Bs) (x1712 : List Q0) (x1718 : Int) : Option (((List Q0)) ⊕ ((List Q1) × (List Q0) × (List Bs) × Int)) := iter (fun t_ : (List Q0) × Int => Q24.l1b a0_6 t1103 t_.1 t_.2) (x1712, x1718)
noncomputable def Q24.l0b  (z1097 : Bs × Bool) (x878 : List Bs) : Option ((List Bs)) :=
 if (x878.length + ([z1097.1] : List Bs).length) * 16 ≤ 140737488355328 then
 some (x878 ++ ([z1097.1] : List Bs))
 else none
noncomputable def Q24.f (a0_0 : List Q5) (a0_1 : Option Q4) (a0_2 : Int) (a0_3 : List Bs) (a0_4 : List Q0) (a0_5 : List Q1) (a0_6 : List Q3) (a0_7 : List (Bs × Bool)) : Option ((List Q1) × (List Q0) × (List Bs) × Int) :=
 ordered a0_7 (fun (t_ : (List Bs)) (z_ : Bs × Bool) => Q24.l0b  z_ t_) a0_3 (fun x878 => x878) (fun (x1084 : List Bs) =>
 (Q100.f x1084).bind fun t1103 =>
 jn (Q24.l1 a0_6 t1103 a0_4 0) (fun (x1919 : List Q0) =>
 (Q60.f x1919).bind fun t1936 =>
 (Q61.f a0_5).bind fun t1938 =>
 some (t1938, t1936, t1103, a0_2)))
theorem Q24.callee : Callee Tryz.prog 76 := ⟨_, Tryz.func76, by kernel_rfl, by kernel_rfl⟩
theorem Q24.spec (R : Res) (Fr : List HProp) (b0 : Nat) (A0_0 : Option Addr) (n0_0 : Nat) (c0_0 : Nat) (p0_1 : Option Nat) (A0_3 : Option Addr) (n0_3 : Nat) (c0_3 : Nat) (A0_4 : Option Addr) (n0_4 : Nat) (c0_4 : Nat) (A0_5 : Option Addr) (n0_5 : Nat) (c0_5 : Nat) (A0_6 : Option Addr) (n0_6 : Nat) (c0_6 : Nat) (b0_7 : Nat) (a0_0 : List Q5) (a0_1 : Option Q4) (a0_2 : Int) (a0_3 : List Bs) (a0_4 : List Q0) (a0_5 : List Q1) (a0_6 : List Q3) (a0_7 : List (Bs × Bool)) (hr0_0 : RdS Q5.fl.rep R.heap A0_0 a0_0) (hn0_0 : a0_0.length = n0_0) (hc0_0 : n0_0 ≤ c0_0) (hn0_3 : a0_3.length = n0_3) (hn0_4 : a0_4.length = n0_4) (hn0_5 : a0_5.length = n0_5) (hn0_6 : a0_6.length = n0_6) {r : (List Q1) × (List Q0) × (List Bs) × Int} (j : Q24.f a0_0 a0_1 a0_2 a0_3 a0_4 a0_5 a0_6 a0_7 = some r) :
 Spec Tryz.prog 76 [.pointer (some ⟨b0, 0, none⟩)] R (pt b0 (.cells [.slice A0_0 n0_0 c0_0, optp p0_1, .int .i64 a0_2, .slice A0_3 n0_3 c0_3, .slice A0_4 n0_4 c0_4, .slice A0_5 n0_5 c0_5, .slice A0_6 n0_6 c0_6, .map (some b0_7)].toArray 114) :: optb (Ow.fl Q4.fl) 58 p0_1 a0_1 :: row Fl.bs 9 A0_3 n0_3 c0_3 a0_3 :: row Q0.fl 35 A0_4 n0_4 c0_4 a0_4 :: grow Q1.ow 37 A0_5 n0_5 c0_5 a0_5 :: row Q3.fl 148 A0_6 n0_6 c0_6 a0_6 :: mapo Fl.bs.ov Fl.bool.ov b0_7 a0_7 :: Fr) (fun v l' => ∃ (w254 : Nat) (w256 : Option Addr) (w257 : Nat) (w259 : Nat) (w261 : Option Addr) (w262 : Nat) (w264 : Value) (w265 : Value), v = .agg #[.int .i64 r.2.2.2, .slice w261 w259 w262, .slice w256 w254 w257, .slice A0_5 n0_5 c0_5] ∧ pt b0 (.cells [.slice A0_0 n0_0 c0_0, optp p0_1, .int .i64 a0_2, w264, w265, .slice A0_5 n0_5 c0_5, .slice A0_6 n0_6 c0_6, .map (some b0_7)].toArray 114) :: optb (Ow.fl Q4.fl) 58 p0_1 a0_1 :: row Fl.bs 9 w261 w259 w262 r.2.2.1 :: row Q0.fl 35 w256 w254 w257 r.2.1 :: grow Q1.ow 37 A0_5 n0_5 c0_5 r.1 :: row Q3.fl 148 A0_6 n0_6 c0_6 a0_6 :: mapo Fl.bs.ov Fl.bool.ov b0_7 a0_7 :: Fr = l' ∧ r.2.1.length = w254 ∧ r.2.2.1.length = w259) := by
 subst hn0_0; subst hn0_3; subst hn0_4; subst hn0_5; subst hn0_6; refine Spec.of Tryz.func76 rfl rfl ?_; unfold Q24.f at j; have j := brun j; refine At.seq (At.region ?_); refine At.alloc rfl rfl rfl (fun b267 => ?_); refine At.nil (At.thn (At.seq (At.region (At.run 3 rfl (At.y (Y.load rfl rfl (.s .z) rfl rfl rfl) rfl rfl rfl ?_))))); refine At.alloc rfl rfl rfl (fun b268 => ?_); refine At.store rfl rfl rfl rfl .z rfl rfl rfl (.c (.c (.c (.c .n)))) ?_; refine At.nil (At.thn (At.seq (At.seq (At.region (At.run 3 rfl (At.y (Y.load rfl rfl (.s (.s .z)) rfl rfl rfl) rfl rfl rfl ?_)))))); refine At.rangeMap (.s (.s (.s (.s (.s (.s (.s (.s .z)))))))) rfl rfl rfl rfl rfl (fun r269 => ?_); refine At.nil (At.thn ?_); refine At.block ?_; obtain ⟨G1090, hl1091, hall1092⟩ := bordered j; clear j; refine At.loopJ (X := (List Bs) × (List (Bs × Bool)) × Nat × (Option Addr) × Nat × Value) (Y := (List Bs) × Nat × (Option Addr) × Nat × Value) (e0 := 0) (fun s_ => [(0, .pointer (some ⟨b0, 0, none⟩)), (2, .pointer (some ⟨b267, 0, none⟩)), (3, .pointer (some ⟨b268, 0, none⟩)), (15, .pointer (some ⟨r269, 0, none⟩))]) (fun s_ => rngo Fl.bs.ov Fl.bool.ov b0_7 r269 a0_7 s_.2.1 :: pt b268 (.cells [.int .i64 a0_2, .slice s_.2.2.2.1 s_.2.2.1 s_.2.2.2.2.1, .slice A0_4 a0_4.length c0_4, .slice A0_5 a0_5.length c0_5].toArray 26) :: pt b267 (.cells [.int .i64 0, .slice none 0 0, .slice none 0 0, .slice none 0 0].toArray 26) :: pt b0 (.cells [.slice A0_0 a0_0.length c0_0, optp p0_1, .int .i64 a0_2, s_.2.2.2.2.2, .slice A0_4 a0_4.length c0_4, .slice A0_5 a0_5.length c0_5, .slice A0_6 a0_6.length c0_6, .map (some b0_7)].toArray 114) :: optb (Ow.fl Q4.fl) 58 p0_1 a0_1 :: row Fl.bs 9 s_.2.2.2.1 s_.2.2.1 s_.2.2.2.2.1 s_.1 :: row Q0.fl 35 A0_4 a0_4.length c0_4 a0_4 :: grow Q1.ow 37 A0_5 a0_5.length c0_5 a0_5 :: row Q3.fl 148 A0_6 a0_6.length c0_6 a0_6 :: Fr) (fun m_ => fun s_ => (foldO (fun (t_ : (List Bs)) (z_ : Bs × Bool) => Q24.l0b  z_ t_) a0_3 s_.2.1 = some s_.1 ∧ m_ + (s_.2.1).length = (a0_7).length) ∧ s_.1.length = s_.2.2.1) (a0_7).length (a0_3, [], a0_3.length, A0_3, c0_3, .slice A0_3 a0_3.length c0_3) ⟨⟨rfl, rfl⟩, rfl⟩ (fun s_ => [(0, .pointer (some ⟨b0, 0, none⟩)), (2, .pointer (some ⟨b267, 0, none⟩)), (3, .pointer (some ⟨b268, 0, none⟩))]) (fun s_ => mapo Fl.bs.ov Fl.bool.ov b0_7 a0_7 :: pt b268 (.cells [.int .i64 a0_2, .slice s_.2.2.1 s_.2.1 s_.2.2.2.1, .slice A0_4 a0_4.length c0_4, .slice A0_5 a0_5.length c0_5].toArray 26) :: pt b267 (.cells [.int .i64 0, .slice none 0 0, .slice none 0 0, .slice none 0 0].toArray 26) :: pt b0 (.cells [.slice A0_0 a0_0.length c0_0, optp p0_1, .int .i64 a0_2, s_.2.2.2.2, .slice A0_4 a0_4.length c0_4, .slice A0_5 a0_5.length c0_5, .slice A0_6 a0_6.length c0_6, .map (some b0_7)].toArray 114) :: optb (Ow.fl Q4.fl) 58 p0_1 a0_1 :: row Fl.bs 9 s_.2.2.1 s_.2.1 s_.2.2.2.1 s_.1 :: row Q0.fl 35 A0_4 a0_4.length c0_4 a0_4 :: grow Q1.ow 37 A0_5 a0_5.length c0_5 a0_5 :: row Q3.fl 148 A0_6 a0_6.length c0_6 a0_6 :: Fr) (fun s_ => G1090 s_.1 = some r ∧ s_.1.length = s_.2.1) (fun a w e hs => ⟨e.sub ⟨rfl, rfl, rfl, rfl, trivial⟩, hs⟩) ?_ (fun J1096 => ?_)
 ·rintro ⟨x1084, w1085, w1087, w1088, w1089⟩ ⟨j, hn1086⟩; obtain rfl : x1084.length = w1085 := hn1086; have j := (hl1091 _).symm.trans j
  ·refine At.ibx ?_; refine At.thn (At.seq (At.region (At.run 1 rfl (At.y (Y.load rfl rfl (.s .z) rfl rfl rfl) rfl rfl rfl (At.f5 ?_))))); obtain ⟨t1103, hc1104, j⟩ := bbind j; refine At.call rfl Q100.callee rfl rfl rfl (Q100.spec _ _ w1087 x1084.length w1088 x1084 rfl hc1104) ?_; rintro _ _ ⟨rfl, rfl⟩; refine At.nil (At.thn (At.seq (At.seq (At.region (At.run 3 rfl ?_))))); refine At.y (Y.load rfl rfl (.s (.s (.s (.s .z)))) rfl rfl rfl) rfl rfl rfl ?_; refine At.run 2 rfl (At.nil (At.thn ?_)); refine At.block ?_; obtain ⟨G1925, hl1926, hr1927, j⟩ := bjoin j; obtain ⟨o1928, hlo1929, ho1930⟩ := bsome j; clear j; unfold Q24.l1 at hlo1929; obtain ⟨m1931, hit1933⟩ := Q27.1 hlo1929; clear hlo1929; refine At.loopJ (X := (List Q0) × Int × Nat × (Option Addr) × Nat × Value) (Y := (List Q0) × Nat × (Option Addr) × Nat × Value) (e0 := 2) (fun s_ => [(2, .pointer (some ⟨b267, 0, none⟩)), (3, .pointer (some ⟨b268, 0, none⟩)), (32, .slice A0_6 a0_6.length c0_6), (33, .int .i64 (a0_6.length : Int)), (34, .int .i64 s_.2.1)]) (fun s_ => row Fl.bs 9 w1087 x1084.length w1088 t1103 :: mapo Fl.bs.ov Fl.bool.ov b0_7 a0_7 :: pt b268 (.cells [.int .i64 a0_2, .slice w1087 x1084.length w1088, .slice s_.2.2.2.1 s_.2.2.1 s_.2.2.2.2.1, .slice A0_5 a0_5.length c0_5].toArray 26) :: pt b267 (.cells [.int .i64 0, .slice none 0 0, .slice none 0 0, .slice none 0 0].toArray 26) :: pt b0 (.cells [.slice A0_0 a0_0.length c0_0, optp p0_1, .int .i64 a0_2, w1089, s_.2.2.2.2.2, .slice A0_5 a0_5.length c0_5, .slice A0_6 a0_6.length c0_6, .map (some b0_7)].toArray 114) :: optb (Ow.fl Q4.fl) 58 p0_1 a0_1 :: row Q0.fl 35 s_.2.2.2.1 s_.2.2.1 s_.2.2.2.2.1 s_.1 :: grow Q1.ow 37 A0_5 a0_5.length c0_5 a0_5 :: row Q3.fl 148 A0_6 a0_6.length c0_6 a0_6 :: Fr) (fun m_ => fun s_ => iterN (fun t_ : (List Q0) × Int => Q24.l1b a0_6 t1103 t_.1 t_.2) m_ (s_.1, s_.2.1) = some o1928 ∧ s_.1.length = s_.2.2.1) m1931 (a0_4, 0, a0_4.length, A0_4, c0_4, .slice A0_4 a0_4.length c0_4) ⟨hit1933, rfl⟩ (fun s_ => [(2, .pointer (some ⟨b267, 0, none⟩)), (3, .pointer (some ⟨b268, 0, none⟩))]) (fun s_ => row Fl.bs 9 w1087 x1084.length w1088 t1103 :: mapo Fl.bs.ov Fl.bool.ov b0_7 a0_7 :: pt b268 (.cells [.int .i64 a0_2, .slice w1087 x1084.length w1088, .slice s_.2.2.1 s_.2.1 s_.2.2.2.1, .slice A0_5 a0_5.length c0_5].toArray 26) :: pt b267 (.cells [.int .i64 0, .slice none 0 0, .slice none 0 0, .slice none 0 0].toArray 26) :: pt b0 (.cells [.slice A0_0 a0_0.length c0_0, optp p0_1, .int .i64 a0_2, w1089, s_.2.2.2.2, .slice A0_5 a0_5.length c0_5, .slice A0_6 a0_6.length c0_6, .map (some b0_7)].toArray 114) :: optb (Ow.fl Q4.fl) 58 p0_1 a0_1 :: row Q0.fl 35 s_.2.2.1 s_.2.1 s_.2.2.2.1 s_.1 :: grow Q1.ow 37 A0_5 a0_5.length c0_5 a0_5 :: row Q3.fl 148 A0_6 a0_6.length c0_6 a0_6 :: Fr) (fun s_ => G1925 (.inl s_.1) = some r ∧ s_.1.length = s_.2.1) (fun a w e hs => ⟨e.sub ⟨rfl, rfl, rfl, rfl, rfl, trivial⟩, (by exact hs)⟩) ?_ (fun J1935 => ?_)
   ·rintro ⟨x1919, w1920, w1922, w1923, w1924⟩ ⟨j, hn1921⟩; obtain rfl : x1919.length = w1920 := hn1921; have j := (hl1926 _).symm.trans j
    ·refine At.ibx ?_; refine At.thn (At.seq (At.region (At.run 1 rfl (At.y (Y.load rfl rfl (.s (.s .z)) rfl rfl rfl) rfl rfl rfl (At.f6 ?_))))); obtain ⟨t1936, hc1937, j⟩ := bbind j; refine At.call rfl Q60.callee rfl rfl rfl (Q60.spec _ _ w1922 x1919.length w1923 x1919 rfl hc1937) ?_; rintro _ _ ⟨rfl, rfl⟩; refine At.nil (At.thn (At.seq (At.region (At.run 1 rfl (At.y (Y.load rfl rfl (.s (.s (.s .z))) rfl rfl rfl) rfl rfl rfl (At.f7 ?_)))))); obtain ⟨t1938, hc1939, j⟩ := bbind j; refine At.call rfl Q61.callee rfl rfl rfl (Q61.spec _ _ A0_5 a0_5.length c0_5 a0_5 rfl hc1939) ?_; rintro _ _ ⟨rfl, rfl⟩; refine At.nil (At.thn (At.seq (At.region ?_))); refine At.y (Y.load rfl rfl (.s (.s (.s (.s .z)))) rfl rfl rfl) rfl rfl rfl ?_; refine At.store rfl rfl rfl rfl (.s (.s (.s (.s (.s .z))))) rfl rfl rfl (.c (.c (.c (.c .n)))) ?_; refine At.nil (At.thn (At.ret ?_)); refine At.rowLen (.s (.s .z)) fun hn1940 => ?_; refine At.rowLen (.s (.s (.s .z))) fun hn1941 => ?_; refine At.resM (.inl rfl) rfl (RV.cell rfl rfl .z rfl rfl rfl RV.nil) ?_; refine At.drop .z (At.drop (.s (.s (.s (.s .z)))) (At.f3 (At.f6 (At.f2 (At.f3 (At.f4 (At.f6 ?_))))))); refine At.f6 ?_; cases bret j; exact fun a w e hs => ⟨_, ⟨x1919.length, w1922, w1923, x1084.length, w1087, w1088, w1089, w1924, rfl, rfl, hn1940, hn1941⟩, hs⟩
   ·clear hit1933 m1931; rintro m1931 ⟨x1712, x1718, w1713, w1715, w1716, w1717⟩ ⟨hit1933, hn1714⟩; obtain rfl : x1712.length = w1713 := hn1714; obtain ⟨m1932, f_, hlt1934, hf_, j⟩ := bit hit1933; clear hit1933; have j : (Q24.l1b a0_6 t1103 x1712 x1718).bind _ = some o1928 := j; unfold Q24.l1b at j
    ·refine At.seq (At.region (At.run 1 rfl (At.nil (At.thn (At.seq ?_))))); rcases bite j with ⟨h1942, j⟩ | ⟨h1942, j⟩
     ··refine At.condT rfl (decide_eq_true h1942) ?_
       refine At.skip (At.thn (At.seq ?_)); refine At.block ?_; refine At.seq (At.region ?_); obtain ⟨h1943, j⟩ := bnone j; refine At.y (Y.ix (.s (.s (.s (.s (.s (.s (.s (.s .z)))))))) rfl rfl rfl rfl rfl rfl h1943.1 h1943.2) rfl rfl rfl ?_; refine At.y (Y.ld (.s (.s (.s (.s (.s (.s (.s (.s .z)))))))) (q := 0) rfl rfl h1943.1 h1943.2 rfl rfl rfl) rfl rfl rfl ?_; refine At.alloc rfl rfl rfl (fun b1944 => ?_); refine At.store rfl rfl rfl rfl .z rfl rfl rfl (.c (.c (.c .n))) ?_; refine At.nil (At.thn ?_); refine At.freeze (.s .z) fun R1947 hr1948 hn1949 hc1950 hs1951 th1952 => ?_; refine At.held [pt b1944 (.cells [.int .i64 ((gt a0_6 x1718).from_), .string ⟨((gt a0_6 x1718).action).toArray⟩, .int .i64 ((gt a0_6 x1718).to)].toArray 148), mapo Fl.bs.ov Fl.bool.ov b0_7 a0_7, pt b267 (.cells [.int .i64 0, .slice none 0 0, .slice none 0 0, .slice none 0 0].toArray 26), pt b0 (.cells [.slice A0_0 a0_0.length c0_0, optp p0_1, .int .i64 a0_2, w1089, w1717, .slice A0_5 a0_5.length c0_5, .slice A0_6 a0_6.length c0_6, .map (some b0_7)].toArray 114), optb (Ow.fl Q4.fl) 58 p0_1 a0_1, grow Q1.ow 37 A0_5 a0_5.length c0_5 a0_5, row Q3.fl 148 A0_6 a0_6.length c0_6 a0_6] 16 rfl ?_; refine At.H.pw 0 rfl rfl rfl rfl rfl (.c .z (.c .z (.c (.s .z) (.c (.s .z) (.c (.s .z) (.c (.s (.s .z)) (.c (.s (.s .z)) .n))))))) ?_; refine At.H.pw 2 rfl rfl rfl rfl rfl (.c .z (.c .z (.c (.s .z) (.c (.s .z) (.c (.s .z) (.c (.s (.s .z)) (.c (.s (.s .z)) .n))))))) ?_; refine At.H.tw 3 rfl (Y.load rfl rfl .z rfl rfl rfl) rfl rfl rfl (.c .z (.c .z (.c (.s .z) (.c (.s .z) (.c (.s .z) (.c (.s (.s .z)) (.c (.s (.s .z)) .n))))))) ?_; refine At.H.pw 4 rfl rfl rfl rfl rfl (.c .z (.c .z (.c (.s .z) (.c (.s .z) (.c (.s .z) (.c (.s (.s .z)) (.c (.s (.s .z)) .n))))))) ?_; refine At.H.pw 6 rfl rfl rfl rfl rfl (.c .z (.c .z (.c (.s .z) (.c (.s .z) (.c (.s .z) (.c (.s (.s .z)) (.c (.s (.s .z)) .n))))))) ?_; refine At.H.tw 7 rfl (Y.load rfl rfl .z rfl rfl rfl) rfl rfl rfl (.c .z (.c .z (.c (.s .z) (.c (.s .z) (.c (.s .z) (.c (.s (.s .z)) (.c (.s (.s .z)) .n))))))) ?_; refine At.H.pw 9 rfl rfl rfl rfl rfl (.c .z (.c .z (.c (.s .z) (.c (.s .z) (.c (.s .z) (.c (.s (.s .z)) (.c (.s (.s .z)) .n))))))) ?_; refine At.H.tw 10 rfl (Y.load rfl rfl .z rfl rfl rfl) rfl rfl rfl (.c .z (.c .z (.c (.s .z) (.c (.s .z) (.c (.s .z) (.c (.s (.s .z)) (.c (.s (.s .z)) .n))))))) ?_; obtain ⟨t1953, hc1954, j⟩ := bbind j; obtain ⟨h2158, j⟩ := bnone j; refine At.H.joinK (X := (Option Addr) × Nat) (fun s_ => [(2, .pointer (some ⟨b267, 0, none⟩)), (3, .pointer (some ⟨b268, 0, none⟩)), (32, .slice A0_6 a0_6.length c0_6), (33, .int .i64 (a0_6.length : Int)), (34, .int .i64 x1718)]) (fun s_ => pt b268 (.cells [.int .i64 a0_2, .slice w1087 x1084.length w1088, .slice s_.1 ((x1712 ++ ([(⟨(gt a0_6 x1718).from_, t1953, (gt a0_6 x1718).to⟩ : Q0)] : List Q0)).length) s_.2, .slice A0_5 a0_5.length c0_5].toArray 26) :: row Q0.fl 35 s_.1 ((x1712 ++ ([(⟨(gt a0_6 x1718).from_, t1953, (gt a0_6 x1718).to⟩ : Q0)] : List Q0)).length) s_.2 (x1712 ++ ([(⟨(gt a0_6 x1718).from_, t1953, (gt a0_6 x1718).to⟩ : Q0)] : List Q0)) :: pt b1944 (.cells [.int .i64 ((gt a0_6 x1718).from_), .string ⟨((gt a0_6 x1718).action).toArray⟩, .int .i64 ((gt a0_6 x1718).to)].toArray 148) :: mapo Fl.bs.ov Fl.bool.ov b0_7 a0_7 :: pt b267 (.cells [.int .i64 0, .slice none 0 0, .slice none 0 0, .slice none 0 0].toArray 26) :: pt b0 (.cells [.slice A0_0 a0_0.length c0_0, optp p0_1, .int .i64 a0_2, w1089, w1717, .slice A0_5 a0_5.length c0_5, .slice A0_6 a0_6.length c0_6, .map (some b0_7)].toArray 114) :: optb (Ow.fl Q4.fl) 58 p0_1 a0_1 :: grow Q1.ow 37 A0_5 a0_5.length c0_5 a0_5 :: row Q3.fl 148 A0_6 a0_6.length c0_6 a0_6 :: Fr) (fun s_ => True) ?_ (fun J2157 => ?_)
       ·rintro ⟨w2155, w2156⟩ -
        ·refine At.ibn ?_; refine At.thn (At.region (At.run 2 rfl (At.nil ?_))); refine At.thaw th1952 ?_; refine At.drop (.s (.s (.s .z))) (At.f8 (At.f8 (At.f4 (At.f8 (At.f8 (At.f8 (At.f7 ?_))))))); refine At.f8 (At.f8 ?_); have j := bnx hf_ j; exact fun a w e hs => ⟨m1932, ((x1712 ++ ([(⟨(gt a0_6 x1718).from_, t1953, (gt a0_6 x1718).to⟩ : Q0)] : List Q0)), IntKind.i64.wrap (x1718 + 1), (x1712 ++ ([(⟨(gt a0_6 x1718).from_, t1953, (gt a0_6 x1718).to⟩ : Q0)] : List Q0)).length, w2155, w2156, w1717), hlt1934, ⟨j, rfl⟩, e.sub ⟨rfl, rfl, rfl, rfl, rfl, trivial⟩, hs⟩
       ·refine At.H.al [1, 5] (Q7 ?_ (Q7 ?_ Q8))
        ··refine At.HO.op rfl ?_
          refine At.y (Y.load rfl rfl (.s (.s .z)) rfl rfl rfl) rfl rfl rfl ?_; refine At.HO.back (.c .z (.c .z (.c (.s .z) (.c (.s .z) (.c (.s .z) (.c (.s (.s .z)) (.c (.s (.s .z)) .n))))))) ?_; refine At.H.al [5] (Q7 ?_ Q8)
          ··refine At.HO.op rfl ?_
            refine At.y (Y.load rfl rfl (.s (.s .z)) rfl rfl rfl) rfl rfl rfl ?_; refine At.HO.back (.c .z (.c .z (.c (.s .z) (.c (.s .z) (.c (.s .z) (.c (.s (.s .z)) (.c (.s (.s .z)) .n))))))) ?_; refine At.H.al [8] (Q7 ?_ Q8)
            ··refine At.HO.op rfl ?_
              refine At.call rfl Q43.callee rfl rfl rfl (Q43.spec _ _ w1087 x1084.length w1088 t1103 ((gt a0_6 x1718).action) hr1948 hn1949 hc1950 hc1954) ?_; rintro _ _ ⟨rfl, rfl⟩; refine At.HO.back (.c .z (.c .z (.c (.s .z) (.c (.s .z) (.c (.s .z) (.c (.s (.s .z)) (.c (.s (.s .z)) .n))))))) ?_; refine At.H.tw 11 rfl (Y.build (is := [0, 1, 2]) (xo := [.tmp 41, .tmp 46, .tmp 48]) (vs := [.int .i64 ((gt a0_6 x1718).from_), .int .i64 t1953, .int .i64 ((gt a0_6 x1718).to)]) (cs := [.int .i64 ((gt a0_6 x1718).from_), .int .i64 t1953, .int .i64 ((gt a0_6 x1718).to)]) rfl rfl rfl rfl rfl rfl) rfl rfl rfl (.c .z (.c .z (.c (.s .z) (.c (.s .z) (.c (.s .z) (.c (.s (.s .z)) (.c (.s (.s .z)) .n))))))) ?_; refine At.H.al [12] (Q7 ?_ Q8)
              ··refine At.HO.op rfl ?_
                refine At.lit rfl (xo := [.tmp 49]) (ys := ([(⟨(gt a0_6 x1718).from_, t1953, (gt a0_6 x1718).to⟩ : Q0)] : List Q0)) Q0.fl rfl rfl rfl rfl rfl rfl rfl rfl rfl rfl rfl (fun A2159 c2160 => ?_); refine At.HO.back (.c (.s .z) (.c (.s .z) (.c (.s (.s .z)) (.c (.s (.s .z)) (.c (.s (.s .z)) (.c (.s (.s (.s .z))) (.c (.s (.s (.s .z))) .n))))))) ?_; refine At.H.al [13] (Q7 ?_ Q8)
                ··refine At.HO.op rfl ?_
                  refine At.append rfl (.s (.s (.s (.s (.s (.s (.s .z))))))) (Src.own .z (by simp)) rfl rfl rfl rfl rfl rfl rfl rfl h2158 (by decide) rfl (fun A2162 c2163 => ?_); refine At.drop (.s .z) ?_; refine At.HO.back (.c (.s .z) (.c (.s .z) (.c (.s (.s .z)) (.c (.s (.s .z)) (.c (.s (.s .z)) (.c (.s (.s .z)) (.c (.s (.s .z)) .n))))))) ?_; refine At.H.pw 14 rfl rfl rfl rfl rfl (.c (.s .z) (.c (.s .z) (.c (.s (.s .z)) (.c (.s (.s .z)) (.c (.s (.s .z)) (.c (.s (.s .z)) (.c (.s (.s .z)) .n))))))) ?_; refine At.H.al [15] (Q7 ?_ Q8)
                  ··refine At.HO.op rfl ?_
                    refine At.store rfl rfl rfl rfl (.s (.s (.s .z))) rfl rfl rfl (.s (.s (.c .n))) ?_; refine At.HO.back (.c (.s (.s .z)) (.c (.s (.s .z)) (.c (.s (.s .z)) (.c (.s (.s .z)) (.c (.s (.s .z)) (.c (.s (.s .z)) (.c (.s (.s .z)) .n))))))) ?_; refine At.H.done (by kernel_rfl) ?_; exact At.of (J2157 (A2162, c2163) trivial) ⟨rfl, rfl, rfl, rfl, rfl, trivial⟩
        ··refine At.HO.op rfl ?_
          refine At.y (Y.load rfl rfl (.s (.s .z)) rfl rfl rfl) rfl rfl rfl ?_; refine At.HO.back (.c .z (.c .z (.c (.s .z) (.c (.s .z) (.c (.s .z) (.c (.s (.s .z)) (.c (.s (.s .z)) .n))))))) ?_; refine At.H.al [1, 8] (Q7 ?_ (Q7 ?_ Q8))
          ··refine At.HO.op rfl ?_
            refine At.y (Y.load rfl rfl (.s (.s .z)) rfl rfl rfl) rfl rfl rfl ?_; refine At.HO.back (.c .z (.c .z (.c (.s .z) (.c (.s .z) (.c (.s .z) (.c (.s (.s .z)) (.c (.s (.s .z)) .n))))))) ?_; refine At.H.al [8] (Q7 ?_ Q8)
            ··refine At.HO.op rfl ?_
              refine At.call rfl Q43.callee rfl rfl rfl (Q43.spec _ _ w1087 x1084.length w1088 t1103 ((gt a0_6 x1718).action) hr1948 hn1949 hc1950 hc1954) ?_; rintro _ _ ⟨rfl, rfl⟩; refine At.HO.back (.c .z (.c .z (.c (.s .z) (.c (.s .z) (.c (.s .z) (.c (.s (.s .z)) (.c (.s (.s .z)) .n))))))) ?_; refine At.H.tw 11 rfl (Y.build (is := [0, 1, 2]) (xo := [.tmp 41, .tmp 46, .tmp 48]) (vs := [.int .i64 ((gt a0_6 x1718).from_), .int .i64 t1953, .int .i64 ((gt a0_6 x1718).to)]) (cs := [.int .i64 ((gt a0_6 x1718).from_), .int .i64 t1953, .int .i64 ((gt a0_6 x1718).to)]) rfl rfl rfl rfl rfl rfl) rfl rfl rfl (.c .z (.c .z (.c (.s .z) (.c (.s .z) (.c (.s .z) (.c (.s (.s .z)) (.c (.s (.s .z)) .n))))))) ?_; refine At.H.al [12] (Q7 ?_ Q8)
              ··refine At.HO.op rfl ?_
                refine At.lit rfl (xo := [.tmp 49]) (ys := ([(⟨(gt a0_6 x1718).from_, t1953, (gt a0_6 x1718).to⟩ : Q0)] : List Q0)) Q0.fl rfl rfl rfl rfl rfl rfl rfl rfl rfl rfl rfl (fun A2164 c2165 => ?_); refine At.HO.back (.c (.s .z) (.c (.s .z) (.c (.s (.s .z)) (.c (.s (.s .z)) (.c (.s (.s .z)) (.c (.s (.s (.s .z))) (.c (.s (.s (.s .z))) .n))))))) ?_; refine At.H.al [13] (Q7 ?_ Q8)
                ··refine At.HO.op rfl ?_
                  refine At.append rfl (.s (.s (.s (.s (.s (.s (.s .z))))))) (Src.own .z (by simp)) rfl rfl rfl rfl rfl rfl rfl rfl h2158 (by decide) rfl (fun A2167 c2168 => ?_); refine At.drop (.s .z) ?_; refine At.HO.back (.c (.s .z) (.c (.s .z) (.c (.s (.s .z)) (.c (.s (.s .z)) (.c (.s (.s .z)) (.c (.s (.s .z)) (.c (.s (.s .z)) .n))))))) ?_; refine At.H.pw 14 rfl rfl rfl rfl rfl (.c (.s .z) (.c (.s .z) (.c (.s (.s .z)) (.c (.s (.s .z)) (.c (.s (.s .z)) (.c (.s (.s .z)) (.c (.s (.s .z)) .n))))))) ?_; refine At.H.al [15] (Q7 ?_ Q8)
                  ··refine At.HO.op rfl ?_
                    refine At.store rfl rfl rfl rfl (.s (.s (.s .z))) rfl rfl rfl (.s (.s (.c .n))) ?_; refine At.HO.back (.c (.s (.s .z)) (.c (.s (.s .z)) (.c (.s (.s .z)) (.c (.s (.s .z)) (.c (.s (.s .z)) (.c (.s (.s .z)) (.c (.s (.s .z)) .n))))))) ?_; refine At.H.done (by kernel_rfl) ?_; exact At.of (J2157 (A2167, c2168) trivial) ⟨rfl, rfl, rfl, rfl, rfl, trivial⟩
          ··refine At.HO.op rfl ?_
            refine At.call rfl Q43.callee rfl rfl rfl (Q43.spec _ _ w1087 x1084.length w1088 t1103 ((gt a0_6 x1718).action) hr1948 hn1949 hc1950 hc1954) ?_; rintro _ _ ⟨rfl, rfl⟩; refine At.HO.back (.c .z (.c .z (.c (.s .z) (.c (.s .z) (.c (.s .z) (.c (.s (.s .z)) (.c (.s (.s .z)) .n))))))) ?_; refine At.H.tw 11 rfl (Y.build (is := [0, 1, 2]) (xo := [.tmp 41, .tmp 46, .tmp 48]) (vs := [.int .i64 ((gt a0_6 x1718).from_), .int .i64 t1953, .int .i64 ((gt a0_6 x1718).to)]) (cs := [.int .i64 ((gt a0_6 x1718).from_), .int .i64 t1953, .int .i64 ((gt a0_6 x1718).to)]) rfl rfl rfl rfl rfl rfl) rfl rfl rfl (.c .z (.c .z (.c (.s .z) (.c (.s .z) (.c (.s .z) (.c (.s (.s .z)) (.c (.s (.s .z)) .n))))))) ?_; refine At.H.al [1, 12] (Q7 ?_ (Q7 ?_ Q8))
            ··refine At.HO.op rfl ?_
              refine At.y (Y.load rfl rfl (.s (.s .z)) rfl rfl rfl) rfl rfl rfl ?_; refine At.HO.back (.c .z (.c .z (.c (.s .z) (.c (.s .z) (.c (.s .z) (.c (.s (.s .z)) (.c (.s (.s .z)) .n))))))) ?_; refine At.H.al [12] (Q7 ?_ Q8)
              ··refine At.HO.op rfl ?_
                refine At.lit rfl (xo := [.tmp 49]) (ys := ([(⟨(gt a0_6 x1718).from_, t1953, (gt a0_6 x1718).to⟩ : Q0)] : List Q0)) Q0.fl rfl rfl rfl rfl rfl rfl rfl rfl rfl rfl rfl (fun A2169 c2170 => ?_); refine At.HO.back (.c (.s .z) (.c (.s .z) (.c (.s (.s .z)) (.c (.s (.s .z)) (.c (.s (.s .z)) (.c (.s (.s (.s .z))) (.c (.s (.s (.s .z))) .n))))))) ?_; refine At.H.al [13] (Q7 ?_ Q8)
                ··refine At.HO.op rfl ?_
                  refine At.append rfl (.s (.s (.s (.s (.s (.s (.s .z))))))) (Src.own .z (by simp)) rfl rfl rfl rfl rfl rfl rfl rfl h2158 (by decide) rfl (fun A2172 c2173 => ?_); refine At.drop (.s .z) ?_; refine At.HO.back (.c (.s .z) (.c (.s .z) (.c (.s (.s .z)) (.c (.s (.s .z)) (.c (.s (.s .z)) (.c (.s (.s .z)) (.c (.s (.s .z)) .n))))))) ?_; refine At.H.pw 14 rfl rfl rfl rfl rfl (.c (.s .z) (.c (.s .z) (.c (.s (.s .z)) (.c (.s (.s .z)) (.c (.s (.s .z)) (.c (.s (.s .z)) (.c (.s (.s .z)) .n))))))) ?_; refine At.H.al [15] (Q7 ?_ Q8)
                  ··refine At.HO.op rfl ?_
                    refine At.store rfl rfl rfl rfl (.s (.s (.s .z))) rfl rfl rfl (.s (.s (.c .n))) ?_; refine At.HO.back (.c (.s (.s .z)) (.c (.s (.s .z)) (.c (.s (.s .z)) (.c (.s (.s .z)) (.c (.s (.s .z)) (.c (.s (.s .z)) (.c (.s (.s .z)) .n))))))) ?_; refine At.H.done (by kernel_rfl) ?_; exact At.of (J2157 (A2172, c2173) trivial) ⟨rfl, rfl, rfl, rfl, rfl, trivial⟩
            ··refine At.HO.op rfl ?_
              refine At.lit rfl (xo := [.tmp 49]) (ys := ([(⟨(gt a0_6 x1718).from_, t1953, (gt a0_6 x1718).to⟩ : Q0)] : List Q0)) Q0.fl rfl rfl rfl rfl rfl rfl rfl rfl rfl rfl rfl (fun A2174 c2175 => ?_); refine At.HO.back (.c (.s .z) (.c (.s .z) (.c (.s (.s .z)) (.c (.s (.s .z)) (.c (.s (.s .z)) (.c (.s (.s (.s .z))) (.c (.s (.s (.s .z))) .n))))))) ?_; refine At.H.al [1] (Q7 ?_ Q8)
              ··refine At.HO.op rfl ?_
                refine At.y (Y.load rfl rfl (.s (.s (.s .z))) rfl rfl rfl) rfl rfl rfl ?_; refine At.HO.back (.c (.s .z) (.c (.s .z) (.c (.s (.s .z)) (.c (.s (.s .z)) (.c (.s (.s .z)) (.c (.s (.s (.s .z))) (.c (.s (.s (.s .z))) .n))))))) ?_; refine At.H.al [13] (Q7 ?_ Q8)
                ··refine At.HO.op rfl ?_
                  refine At.append rfl (.s (.s (.s (.s (.s (.s (.s .z))))))) (Src.own .z (by simp)) rfl rfl rfl rfl rfl rfl rfl rfl h2158 (by decide) rfl (fun A2177 c2178 => ?_); refine At.drop (.s .z) ?_; refine At.HO.back (.c (.s .z) (.c (.s .z) (.c (.s (.s .z)) (.c (.s (.s .z)) (.c (.s (.s .z)) (.c (.s (.s .z)) (.c (.s (.s .z)) .n))))))) ?_; refine At.H.pw 14 rfl rfl rfl rfl rfl (.c (.s .z) (.c (.s .z) (.c (.s (.s .z)) (.c (.s (.s .z)) (.c (.s (.s .z)) (.c (.s (.s .z)) (.c (.s (.s .z)) .n))))))) ?_; refine At.H.al [15] (Q7 ?_ Q8)
                  ··refine At.HO.op rfl ?_
                    refine At.store rfl rfl rfl rfl (.s (.s (.s .z))) rfl rfl rfl (.s (.s (.c .n))) ?_; refine At.HO.back (.c (.s (.s .z)) (.c (.s (.s .z)) (.c (.s (.s .z)) (.c (.s (.s .z)) (.c (.s (.s .z)) (.c (.s (.s .z)) (.c (.s (.s .z)) .n))))))) ?_; refine At.H.done (by kernel_rfl) ?_; exact At.of (J2157 (A2177, c2178) trivial) ⟨rfl, rfl, rfl, rfl, rfl, trivial⟩
     ··refine At.condF rfl (decide_eq_false h1942) ?_
       refine At.exit ?_; refine At.the ?_; refine At.the ?_; exact fun a w e hs => J1935 (x1712, x1712.length, w1715, w1716, w1717) ⟨(bdn j ho1930), rfl⟩ a w (e.sub ⟨rfl, rfl, trivial⟩) hs
 ·rintro m1093 ⟨x878, w877, w879, w881, w882, w883⟩ ⟨⟨hI1094, hm1095⟩, hn880⟩; obtain rfl : x878.length = w879 := hn880
  ·refine At.seq (At.region ?_); refine At.nextMap rfl rfl .z rfl (fun hp1099 => ?_) (fun z1097 tl1098 hp1099 => ?_)
   ·have j := foldO_end hall1092 hI1094 hp1099; refine At.run 1 rfl (At.nil (At.thn (At.seq ?_))); refine At.condF rfl rfl ?_; refine At.exit ?_; refine At.the ?_; refine At.the ?_; refine At.rngEnd .z ?_; exact fun a w e hs => J1096 (x878, x878.length, w881, w882, w883) ⟨j, rfl⟩ a w (e.sub ⟨rfl, rfl, rfl, trivial⟩) hs
   ·obtain ⟨t1100, hs1101, hI1102⟩ := foldO_go hall1092 hI1094 hp1099; have j := brun (show Q24.l0b  z1097 x878 = some t1100 from hs1101); unfold Q24.l0b at j; refine At.run 1 rfl (At.nil (At.thn (At.seq ?_))); refine At.condT rfl rfl ?_; refine At.skip (At.thn ?_); refine At.block ?_; refine At.seq (At.region ?_); refine At.y (Y.entry .z rfl) rfl rfl rfl ?_; refine At.run 2 rfl (At.nil (At.thn (At.region (At.run 1 rfl (At.y (Y.load rfl rfl (.s .z) rfl rfl rfl) rfl rfl rfl (At.run 1 rfl ?_)))))); refine At.lit rfl (xo := [.tmp 22]) (ys := ([z1097.1] : List Bs)) Fl.bs rfl rfl rfl rfl rfl rfl rfl rfl rfl rfl rfl (fun A2179 c2180 => ?_); obtain ⟨h2182, j⟩ := bnone j; refine At.append rfl (.s (.s (.s (.s (.s (.s .z)))))) (Src.own .z (by simp)) rfl rfl rfl rfl rfl rfl rfl rfl h2182 (by decide) rfl (fun A2183 c2184 => ?_); refine At.drop (.s .z) (At.run 1 rfl ?_); refine At.store rfl rfl rfl rfl (.s (.s .z)) rfl rfl rfl (.s (.c .n)) ?_; refine At.nil ?_; refine At.ibn ?_; refine At.f8 (At.f8 (At.f8 (At.f4 (At.f8 (At.f8 (At.f8 (At.f7 ?_))))))); refine At.f8 ?_; obtain rfl := bret j; exact fun a w e hs => ⟨tl1098.length, ((x878 ++ ([z1097.1] : List Bs)), (w877 ++ [z1097]), (x878 ++ ([z1097.1] : List Bs)).length, A2183, c2184, w883), (rng_lt hp1099 hm1095).1, ⟨⟨hI1102, (rng_lt hp1099 hm1095).2⟩, rfl⟩, e.sub ⟨rfl, rfl, rfl, rfl, trivial⟩, hs⟩

end Go.Bw
namespace Go.Bw
open Go Go.RowKit

def Ap {α : Type} (a b : Option α) : Prop := ∀ r, a = some r → b = some r
section
variable {α β σ τ ρ : Type}
theorem Ap.refl (a : Option α) : Ap a a := fun _ h => h
theorem Ap.none {b : Option α} : Ap Option.none b := fun _ h => by cases h
theorem Ap.bind {a b : Option α} {f g : α → Option β} (h : Ap a b) (k : ∀ t, Ap (f t) (g t)) : Ap (a.bind f) (b.bind g) := fun r e => by
 cases ha : a with
 | none => rw [ha] at e; cases e
 | some t => rw [ha] at e; rw [h t ha]; exact k t r e
theorem Ap.ite {c : Prop} [i : Decidable c] [j : Decidable c] {a b a' b' : Option α} (h : Ap a a') (k : Ap b b') : Ap (@_root_.ite _ c i a b) (@_root_.ite _ c j a' b') := fun r e => by
 by_cases hc : c
 ·rw [if_pos hc] at e ⊢; exact h r e
 ·rw [if_neg hc] at e ⊢; exact k r e
theorem Ap.jn {a b : Option (σ ⊕ ρ)} {f g : σ → Option ρ} (h : Ap a b) (k : ∀ t, Ap (f t) (g t)) : Ap (Bw.jn a f) (Bw.jn b g) := fun r e => by
 cases ha : a with
 | none => rw [ha] at e; cases e
 | some t =>
  rw [ha] at e
  rw [h t ha]
  cases t with
  | inl s => exact k s r e
  | inr o => exact e
theorem Ap.up {a b : Option ρ} (h : Ap a b) : Ap (Bw.up a : Option (σ ⊕ ρ)) (Bw.up b) := fun r e => by
 cases ha : a with
 | none => rw [ha] at e; cases e
 | some t => rw [ha] at e; rw [h t ha]; exact e
theorem Ap.upL {a b : Option ρ} (h : Ap a b) : Ap (Bw.upL a : Option (σ ⊕ (τ ⊕ ρ))) (Bw.upL b) := fun r e => by
 cases ha : a with
 | none => rw [ha] at e; cases e
 | some t => rw [ha] at e; rw [h t ha]; exact e
def iterC (fu : Nat) (body : σ → Option (σ ⊕ ρ)) (s : σ) : Option ρ := iterN body fu s
theorem Q244 {f g : σ → Option (σ ⊕ ρ)} (h : ∀ s, Ap (f s) (g s)) : ∀ {n : Nat} {s : σ}, Ap (iterN f n s) (iterN g n s)
 | 0, _ => fun _ e => by cases e
 | n + 1, s => fun r e => by
  unfold iterN at e ⊢
  cases hf : f s with
  | none => rw [hf] at e; cases e
  | some t =>
   rw [hf] at e
   rw [h s t hf]
   cases t with
   | inl s' => exact Q244 h r e
   | inr o => exact e
theorem Ap.iter {fu : Nat} {f g : σ → Option (σ ⊕ ρ)} {s : σ} (h : ∀ s, Ap (f s) (g s)) : Ap (iterC fu f s) (Bw.iter g s) := fun r e => Q27.2 ⟨fu, Q244 h r e⟩
theorem Q236 {f g : σ → α → Option σ} (h : ∀ s x, Ap (f s x) (g s x)) : ∀ {xs : List α} {s : σ}, Ap (foldO f s xs) (foldO g s xs)
 | [], _ => fun _ e => e
 | x :: xs, s => Ap.bind (h s x) fun t => Q236 h
def orderedC (kvs : List α) (step : σ → α → Option σ) (s0 : σ) (out : σ → τ) (f : τ → Option β) : Option β := if kvs.length ≤ 1 then (foldO step s0 kvs).bind fun s => f (out s) else Option.none
theorem Ap.ordered {kvs : List α} {f g : σ → α → Option σ} {s0 : σ} {out : σ → τ} {p q : τ → Option β} (h : ∀ s x, Ap (f s x) (g s x)) (k : ∀ t, Ap (p t) (q t)) : Ap (orderedC kvs f s0 out p) (Bw.ordered kvs g s0 out q) := fun r e => by
 unfold orderedC at e
 split at e
 ·rename_i hl
  refine Q238.2 fun ys hy => ?_
  have : ys = kvs := by
   match kvs, hl with
   | [], _ => exact hy.eq_nil
   | [x], _ => exact List.perm_singleton.1 hy
   | _ :: _ :: _, hl => simp at hl
  subst this
  exact Ap.bind (Q236 h) (fun t => k _) r e
 ·cases e
def bseqC (x y : Bs) : Bool := decide (x = y)
theorem Q122 : bseq = bseqC := by
 funext x y
 unfold bseqC
 rw [Bool.eq_iff_iff, Q113]
 simp
def soloC (a : List α) : Option (List α) := if a.length ≤ 1 then some a else Option.none
theorem Q165 {a r : List α} (h : soloC a = some r) : r = a ∧ (a = [] ∨ ∃ x, a = [x]) := by
 unfold soloC at h
 split at h
 ·rename_i hl
  refine ⟨(Option.some.inj h).symm, ?_⟩
  match a, hl with
  | [], _ => exact .inl rfl
  | [x], _ => exact .inr ⟨x, rfl⟩
  | _ :: _ :: _, hl => simp at hl
 ·cases h
end
end Go.Bw
namespace Go.Bw
open Go Go.RowKit Go.Proofs Go.Sort

def cmp3 (a b : Int) : Int := if a < b then -1 else if b < a then 1 else 0
theorem Q213 (a b : Int) : Q54.f a b = some (cmp3 a b) := by
 unfold Q54.f Q65.f cmp3
 simp
 split
 ·rfl
 ·split <;> rfl
theorem Q125 {a b : Int} : cmp3 a b < 0 ↔ a < b := by
 unfold cmp3
 split
 ·simp [*]
 ·split <;> simp <;> omega
theorem Q151 {a b : Int} : cmp3 a b = 0 ↔ a = b := by
 unfold cmp3
 split
 ·simp; omega
 ·split <;> simp <;> omega
theorem or_run (a b c : Int) : Q23.f [a, b, c] = some (if a = 0 then if b = 0 then c else b else a) := by
 unfold Q23.f Q23.l0
 by_cases ha : a = 0
 ·by_cases hb : b = 0
  ·by_cases hc : c = 0
   ·subst ha hb hc
    rw [Q84, Q23.l0b]
    simp [nx, gt, IntKind.wrap, IntKind.bits, IntKind.signed]
    rw [Q84, Q23.l0b]
    simp [nx, gt, IntKind.wrap, IntKind.bits, IntKind.signed]
    rw [Q84, Q23.l0b]
    simp [nx, gt, IntKind.wrap, IntKind.bits, IntKind.signed]
    rw [Q84, Q23.l0b]
    simp [dn, jn]
   ·subst ha hb
    rw [Q84, Q23.l0b]
    simp [nx, gt, IntKind.wrap, IntKind.bits, IntKind.signed]
    rw [Q84, Q23.l0b]
    simp [nx, gt, IntKind.wrap, IntKind.bits, IntKind.signed]
    rw [Q84, Q23.l0b]
    simp [nx, gt, hc, upL, jn]
  ·subst ha
   rw [Q84, Q23.l0b]
   simp [nx, gt, IntKind.wrap, IntKind.bits, IntKind.signed]
   rw [Q84, Q23.l0b]
   simp [nx, gt, hb, upL, jn]
 ·rw [Q84, Q23.l0b]
  simp [nx, gt, ha, upL, jn]
def edgeCmp (x y : Q0) : Int := if cmp3 x.From y.From = 0 then if cmp3 x.Action y.Action = 0 then cmp3 x.To y.To else cmp3 x.Action y.Action else cmp3 x.From y.From
theorem Q219 (x y : Q0) : Q64.f x.From x.Action x.To y.From y.Action y.To = some (edgeCmp x y) := by
 unfold Q64.f
 simp only [Q213, Option.bind_some, or_run]
 rfl
theorem Q218 (x y : Q0) : Q60.cmp x y = some (edgeCmp x y) := Q219 x y
def edgeLt (x y : Q0) : Prop := x.From < y.From ∨ x.From = y.From ∧ (x.Action < y.Action ∨ x.Action = y.Action ∧ x.To < y.To)
theorem Q164 {x y : Q0} : edgeCmp x y < 0 ↔ edgeLt x y := by
 unfold edgeCmp edgeLt
 by_cases h1 : x.From = y.From
 ·rw [if_pos (Q151.2 h1)]
  by_cases h2 : x.Action = y.Action
  ·rw [if_pos (Q151.2 h2), Q125]; omega
  ·rw [if_neg (fun h => h2 (Q151.1 h)), Q125]; omega
 ·rw [if_neg (fun h => h1 (Q151.1 h)), Q125]; omega
theorem Q118 (x y : Q0) : ltOf (gcf Q60.cmp) x y = true ↔ edgeLt x y := by
 unfold ltOf gcf
 rw [Q218]
 simp [Q164]
theorem edge_ltOf' (x y : Q0) : ltOf (gcf Q60.cmp) x y = false ↔ ¬ edgeLt x y := by
 rw [← Q118]; simp
theorem edge_tot : CmpTot Q60.cmp := by
 refine ⟨⟨fun x y => by rw [Q218]; rfl, fun x => ?_, fun x y z h1 h2 => ?_, fun x y z h1 h2 => ?_⟩, fun x y h1 h2 => ?_⟩
 ·rw [edge_ltOf']; unfold edgeLt; omega
 ·rw [Q118] at *; unfold edgeLt at *; omega
 ·rw [edge_ltOf'] at *; unfold edgeLt at *; omega
 ·rw [edge_ltOf'] at *
  unfold edgeLt at *
  cases x
  cases y
  simp at *
  omega
theorem Q183 : ∀ (x : Bs), Lib.compareBytes x x = 0
 | [] => rfl
 | a :: x => by unfold Lib.compareBytes; rw [if_neg (UInt8.lt_irrefl a), if_neg (UInt8.lt_irrefl a)]; exact Q183 x
theorem cb_eq : ∀ {x y : Bs}, Lib.compareBytes x y = 0 → x = y
 | [], [], _ => rfl
 | [], _ :: _, h => by simp [Lib.compareBytes] at h
 | _ :: _, [], h => by simp [Lib.compareBytes] at h
 | a :: x, b :: y, h => by
  unfold Lib.compareBytes at h
  split at h
  ·simp at h
  ·split at h
   ·simp at h
   ·rename_i h1 h2
    rw [cb_eq h, UInt8.le_antisymm (UInt8.not_lt.1 h2) (UInt8.not_lt.1 h1)]
theorem cb_neg : ∀ {x y : Bs}, Lib.compareBytes y x = - Lib.compareBytes x y
 | [], [] => rfl
 | [], _ :: _ => rfl
 | _ :: _, [] => rfl
 | a :: x, b :: y => by
  unfold Lib.compareBytes
  by_cases h1 : a < b
  ·rw [if_neg (UInt8.lt_asymm h1), if_pos h1, if_pos h1]; rfl
  ·by_cases h2 : b < a
   ·rw [if_pos h2, if_neg h1, if_pos h2]
   ·rw [if_neg h1, if_neg h2, if_neg h2, if_neg h1]; exact cb_neg
theorem Q147 : ∀ {x y z : Bs}, Lib.compareBytes x y < 0 → Lib.compareBytes y z < 0 → Lib.compareBytes x z < 0
 | [], [], _, h, _ => by simp [Lib.compareBytes] at h
 | [], _ :: _, [], _, h => by simp [Lib.compareBytes] at h
 | [], _ :: _, _ :: _, _, _ => by simp [Lib.compareBytes]
 | _ :: _, [], _, h, _ => by simp [Lib.compareBytes] at h
 | _ :: _, _ :: _, [], _, h => by simp [Lib.compareBytes] at h
 | a :: x, b :: y, c :: z, h1, h2 => by
  unfold Lib.compareBytes at h1 h2 ⊢
  by_cases hab : a < b
  ·by_cases hbc : b < c
   ·rw [if_pos (UInt8.lt_trans hab hbc)]; decide
   ·rw [if_neg hbc] at h2
    by_cases hcb : c < b
    ·rw [if_pos hcb] at h2; simp at h2
    ·have : b = c := UInt8.le_antisymm (UInt8.not_lt.1 hcb) (UInt8.not_lt.1 hbc)
     subst this
     rw [if_pos hab]; decide
  ·rw [if_neg hab] at h1
   by_cases hba : b < a
   ·rw [if_pos hba] at h1; simp at h1
   ·have : a = b := UInt8.le_antisymm (UInt8.not_lt.1 hba) (UInt8.not_lt.1 hab)
    subst this
    rw [if_neg hba] at h1
    by_cases hbc : a < c
    ·rw [if_pos hbc]; decide
    ·rw [if_neg hbc] at h2 ⊢
     by_cases hcb : c < a
     ·rw [if_pos hcb] at h2; simp at h2
     ·rw [if_neg hcb] at h2 ⊢
      exact Q147 h1 h2
theorem Q184 (x y : Q1) : Q61.cmp x y = some (Lib.compareBytes x.Name y.Name) := rfl
theorem Q124 (x y : Q1) : ltOf (gcf Q61.cmp) x y = true ↔ Lib.compareBytes x.Name y.Name < 0 := by
 unfold ltOf gcf
 rw [Q184]
 simp
theorem prop_ltOf' (x y : Q1) : ltOf (gcf Q61.cmp) x y = false ↔ 0 ≤ Lib.compareBytes x.Name y.Name := by
 have := Q124 x y
 rw [← Bool.not_eq_true, this]; omega
theorem prop_swo : CmpSwo Q61.cmp := by
 refine ⟨fun x y => by rw [Q184]; rfl, fun x => ?_, fun x y z h1 h2 => ?_, fun x y z h1 h2 => ?_⟩
 ·rw [prop_ltOf', Q183]; decide
 ·rw [Q124] at *; exact Q147 h1 h2
 ·rw [prop_ltOf'] at *
  rw [cb_neg] at h1 h2 ⊢
  have h1' : Lib.compareBytes y.Name x.Name ≤ 0 := by omega
  have h2' : Lib.compareBytes z.Name y.Name ≤ 0 := by omega
  by_cases e1 : Lib.compareBytes y.Name x.Name = 0
  ·rw [← cb_eq e1]; omega
  ·by_cases e2 : Lib.compareBytes z.Name y.Name = 0
   ·rw [cb_eq e2]; omega
   ·have := Q147 (show Lib.compareBytes z.Name y.Name < 0 by omega) (show Lib.compareBytes y.Name x.Name < 0 by omega)
    omega
end Go.Bw
namespace Go.Bw
open Go Go.RowKit

theorem Q70 {σ ρ : Type} {body : σ → Option (σ ⊕ ρ)} (I : σ → Prop) (Q : ρ → Prop) (μ : σ → Nat) (h : ∀ s, I s → (∃ r, body s = some (.inr r) ∧ Q r) ∨ ∃ s', body s = some (.inl s') ∧ I s' ∧ μ s' < μ s) :
 ∀ s, I s → ∃ r, iter body s = some r ∧ Q r := by
 have key : ∀ n s, μ s < n → I s → ∃ r, iter body s = some r ∧ Q r := by
  intro n
  induction n with
  | zero => intro s hn; omega
  | succ n ih =>
   intro s hn hI
   rw [Q84]
   rcases h s hI with ⟨r, hr, hq⟩ | ⟨s', hs, hI', hlt⟩
   ·exact ⟨r, by rw [hr]; rfl, hq⟩
   ·obtain ⟨r, hr, hq⟩ := ih s' (by omega) hI'
    exact ⟨r, by rw [hs]; exact hr, hq⟩
 exact fun s hI => key _ s (Nat.lt_succ_self _) hI
theorem wrap64 {x : Int} (h0 : -9223372036854775808 ≤ x) (h1 : x ≤ 9223372036854775807) : IntKind.i64.wrap x = x := by
 simp [IntKind.wrap, IntKind.bits, IntKind.signed]
 omega
section
variable {α : Type} [Inhabited α]
theorem st_len (xs : List α) (i : Int) (x : α) : (st xs i x).length = xs.length := by simp [st]
theorem gt_st {xs : List α} {i j : Int} {x : α} (hi : 0 ≤ i) (hi' : i < (xs.length : Int)) (hj : 0 ≤ j) : gt (st xs i x) j = if j = i then x else gt xs j := by
 unfold gt st
 rw [List.getD_eq_getElem?_getD, List.getD_eq_getElem?_getD, List.getElem?_set]
 by_cases h : j = i
 ·subst h
  have : j.toNat < xs.length := by omega
  simp [this]
 ·have : ¬ i.toNat = j.toNat := by omega
  simp [this, h]
theorem Q80 {xs : List α} {i : Int} (h0 : 0 ≤ i) (h1 : i < (xs.length : Int)) : gt xs i ∈ xs := List.mem_of_getElem? (Q69 h0 h1)
theorem Q103 {xs : List α} {i : Nat} {x : α} (h : xs[i]? = some x) : gt xs (i : Int) = x := by
 unfold gt
 simp [List.getD_eq_getElem?_getD, h]
end
end Go.Bw
namespace Go.Bw
open Go Go.RowKit Go.Proofs Go.Sort

def Small (e : Q0) : Prop := (0 ≤ e.From ∧ e.From ≤ 1000) ∧ (0 ≤ e.Action ∧ e.Action ≤ 1000) ∧ (0 ≤ e.To ∧ e.To ≤ 1000)
def smallB (e : Q0) : Bool := decide (0 ≤ e.From) && decide (e.From ≤ 1000) && decide (0 ≤ e.Action) && decide (e.Action ≤ 1000) && decide (0 ≤ e.To) && decide (e.To ≤ 1000)
theorem Q279 {e : Q0} : smallB e = true ↔ Small e := by
 unfold smallB Small
 simp [and_assoc]
def diffCmp (x y : Q0) : Int := if x.From - y.From = 0 then if x.Action - y.Action = 0 then x.To - y.To else x.Action - y.Action else x.From - y.From
theorem Q157 {x y : Q0} (hx : Small x) (hy : Small y) : Q53.cmp x y = some (diffCmp x y) := by
 unfold Q53.cmp Q97.f
 unfold Small at hx hy
 rw [Go.Bw.wrap64 (x := x.From - y.From) (by omega) (by omega), Go.Bw.wrap64 (x := x.Action - y.Action) (by omega) (by omega), Go.Bw.wrap64 (x := x.To - y.To) (by omega) (by omega), or_run]
 rfl
theorem diff_lt {x y : Q0} : diffCmp x y < 0 ↔ edgeLt x y := by
 unfold diffCmp edgeLt
 split
 ·split <;> omega
 ·omega
theorem diff_on {xs : List Q0} (h : ∀ x ∈ xs, Small x) : CmpOn Q53.cmp xs := by
 refine ⟨Small, ⟨⟨0, 0, 0⟩, by unfold Small; simp⟩, h, ?_⟩
 have l1 : ∀ x y : {x // Small x}, ltOf (gcf fun x y : {x // Small x} => Q53.cmp x.1 y.1) x y = true ↔ edgeLt x.1 y.1 := fun x y => by
  have hd := Q157 x.2 y.2
  unfold ltOf gcf
  simp [hd, diff_lt]
 have l2 : ∀ x y : {x // Small x}, ltOf (gcf fun x y : {x // Small x} => Q53.cmp x.1 y.1) x y = false ↔ ¬ edgeLt x.1 y.1 := fun x y => by rw [← l1]; simp
 refine ⟨⟨fun x y => by have hd := Q157 x.2 y.2; simp [hd], fun x => ?_, fun x y z h1 h2 => ?_, fun x y z h1 h2 => ?_⟩, fun x y h1 h2 => ?_⟩
 ·rw [l2]; unfold edgeLt; omega
 ·rw [l1] at *; unfold edgeLt at *; omega
 ·rw [l2] at *; unfold edgeLt at *; omega
 ·rw [l2] at *
  obtain ⟨⟨x0, x1, x2⟩, hx⟩ := x
  obtain ⟨⟨y0, y1, y2⟩, hy⟩ := y
  unfold edgeLt at *
  simp at *
  omega
section
variable {α : Type}
def pwC (c : α → α → Option Int) : List α → Bool
 | [] => true
 | x :: xs => xs.all (fun y => match c y x with | some v => decide (0 ≤ v) | none => false) && pwC c xs
theorem pwC_mem {c cc : α → α → Option Int} (h : ∀ x y, Ap (cc x y) (c x y)) : ∀ {a : List α}, pwC cc a = true → a.Pairwise fun x y => (!(ltOf (gcf c)) y x) = true
 | [], _ => List.Pairwise.nil
 | x :: xs, e => by
  unfold pwC at e
  rw [Bool.and_eq_true, List.all_eq_true] at e
  refine List.Pairwise.cons (fun y hy => ?_) (pwC_mem h e.2)
  have := e.1 y hy
  cases hc : cc y x with
  | none => rw [hc] at this; cases this
  | some v =>
   rw [hc] at this
   have hv := h y x v hc
   unfold ltOf gcf
   rw [hv]
   simpa using this
def asisC (c : α → α → Option Int) (a : List α) : Option (List α) := if pwC c a = true then some a else none
theorem Q221 {c cc : α → α → Option Int} (h : ∀ x y, Ap (cc x y) (c x y)) {a r : List α} (e : asisC cc a = some r) : r = a ∧ byCmp c a = a := by
 unfold asisC at e
 split at e
 ·rename_i hp
  exact ⟨(Option.some.inj e).symm, List.mergeSort_of_pairwise (pwC_mem h hp)⟩
 ·cases e
end
def fewC {α : Type} (o : Option (List α)) : Option (List α) := o.bind fun a => if a.length ≤ 1000 then some a else none
theorem few_mem {α : Type} {o : Option (List α)} {r : List α} (h : fewC o = some r) : o = some r ∧ r.length ≤ 1000 := by
 unfold fewC at h
 cases o with
 | none => cases h
 | some a =>
  simp only [Option.bind_some] at h
  split at h
  ·rename_i hl
   obtain rfl := Option.some.inj h
   exact ⟨rfl, hl⟩
  ·cases h
end Go.Bw
namespace Go.Bw
open Go Go.RowKit

def Wd (v : BitVec 64) : Int := (v.toNat : Int)
theorem Wd.lt (v : BitVec 64) : 0 ≤ Wd v ∧ Wd v < 18446744073709551616 := by
 unfold Wd
 have := v.isLt
 omega
theorem wrapu {x : Int} (h0 : 0 ≤ x) (h1 : x < 18446744073709551616) : IntKind.u64.wrap x = x := by
 simp [IntKind.wrap, IntKind.bits, IntKind.signed]
 omega
theorem Q119 (v : BitVec 64) : BitVec.ofInt 64 (Wd v) = v := by
 unfold Wd
 apply BitVec.eq_of_toNat_eq
 simp
theorem Wd.inj {u v : BitVec 64} (h : Wd u = Wd v) : u = v := by rw [← Q119 u, h, Q119]
theorem Q185 (v : BitVec 64) : IntKind.u64.wrap (v.toNat : Int) = Wd v := wrapu (Wd.lt v).1 (Wd.lt v).2
theorem bor_wd (u v : BitVec 64) : bor .u64 (Wd u) (Wd v) = Wd (u ||| v) := by
 show IntKind.u64.wrap ((BitVec.ofInt 64 (Wd u) ||| BitVec.ofInt 64 (Wd v)).toNat : Int) = _
 rw [Q119, Q119, Q185]
theorem Q169 (u v : BitVec 64) : band .u64 (Wd u) (Wd v) = Wd (u &&& v) := by
 show IntKind.u64.wrap ((BitVec.ofInt 64 (Wd u) &&& BitVec.ofInt 64 (Wd v)).toNat : Int) = _
 rw [Q119, Q119, Q185]
theorem shl_one {s : Int} (h0 : 0 ≤ s) (h1 : s < 64) : Bw.shl .u64 1 s = Wd (BitVec.twoPow 64 s.toNat) := by
 have hs : min s.toNat IntKind.u64.bits = s.toNat := Nat.min_eq_left (show s.toNat ≤ 64 by omega)
 have hp : 2 ^ s.toNat < 2 ^ 64 := Nat.pow_lt_pow_right (by decide) (by omega)
 unfold Bw.shl Wd
 have e : (2 : Int) ^ s.toNat = ((2 ^ s.toNat : Nat) : Int) := by rw [Int.natCast_pow]; rfl
 rw [hs, Int.one_mul, BitVec.toNat_twoPow, Nat.mod_eq_of_lt hp, e]
 have h2 : (2 : Nat) ^ 64 = 18446744073709551616 := by rfl
 rw [h2] at hp
 generalize (2 : Nat) ^ s.toNat = q at hp
 exact wrapu (by omega) (by omega)
theorem shr6 {n : Int} (h0 : 0 ≤ n) : Bw.shr .i64 n 6 = n / 64 := by
 show n.fdiv (2 ^ 6) = n / 64
 rw [Int.fdiv_eq_ediv_of_nonneg _ (by decide)]
 rfl
theorem band63 {n : Int} (h0 : 0 ≤ n) (h1 : n ≤ 9223372036854775807) : band .i64 n 63 = n % 64 := by
 show IntKind.i64.wrap ((BitVec.ofInt 64 n &&& BitVec.ofInt 64 63).toNat : Int) = _
 have e1 : (BitVec.ofInt 64 n).toNat = n.toNat := by rw [BitVec.toNat_ofInt]; omega
 have e2 : (BitVec.ofInt 64 63).toNat = 2 ^ 6 - 1 := by rfl
 rw [BitVec.toNat_and, e1, e2, Nat.and_two_pow_sub_one_eq_mod, wrap64 (by omega) (by omega)]
 omega
structure W4 where
 a : BitVec 64
 b : BitVec 64
 c : BitVec 64
 d : BitVec 64
def W4.sel (u : W4) (k : Int) : BitVec 64 := if k = 0 then u.a else if k = 1 then u.b else if k = 2 then u.c else u.d
def W4.has (u : W4) (n : Int) : Bool := (u.sel (n / 64)).getLsbD (n % 64).toNat
def W4.Rep (u : W4) (S : Int → Prop) : Prop := ∀ n, 0 ≤ n → n < 256 → (u.has n = true ↔ S n)
def W4.z : W4 := ⟨0#64, 0#64, 0#64, 0#64⟩
theorem W4.z_rep : W4.z.Rep (fun _ => False) := fun n h0 h1 => by
 unfold W4.has W4.sel W4.z
 dsimp only
 split
 ·simp
 ·split
  ·simp
  ·split <;> simp
theorem W4.ext4 {u v : W4} (h : ∀ n, 0 ≤ n → n < 256 → u.has n = v.has n) : u = v := by
 have key : ∀ k : Int, 0 ≤ k → k < 4 → u.sel k = v.sel k := fun k h0 h1 => by
  apply BitVec.eq_of_getLsbD_eq
  intro i hi
  have := h (64 * k + i) (by omega) (by omega)
  unfold W4.has at this
  rwa [show (64 * k + (i : Int)) / 64 = k from by omega, show ((64 * k + (i : Int)) % 64).toNat = i from by omega] at this
 have k0 := key 0 (by decide) (by decide)
 have k1 := key 1 (by decide) (by decide)
 have k2 := key 2 (by decide) (by decide)
 have k3 := key 3 (by decide) (by decide)
 cases u
 cases v
 simp [W4.sel] at k0 k1 k2 k3
 rw [k0, k1, k2, k3]
theorem W4.Rep.uniq {u v : W4} {S T : Int → Prop} (hu : u.Rep S) (hv : v.Rep T) (h : ∀ n, 0 ≤ n → n < 256 → (S n ↔ T n)) : u = v := W4.ext4 fun n h0 h1 => by
 rw [Bool.eq_iff_iff, hu n h0 h1, hv n h0 h1]
 exact h n h0 h1
def W4.put (u : W4) (n : Int) : W4 :=
 if n / 64 = 0 then { u with a := u.a ||| BitVec.twoPow 64 (n % 64).toNat } else if n / 64 = 1 then { u with b := u.b ||| BitVec.twoPow 64 (n % 64).toNat }
 else if n / 64 = 2 then { u with c := u.c ||| BitVec.twoPow 64 (n % 64).toNat } else { u with d := u.d ||| BitVec.twoPow 64 (n % 64).toNat }
theorem W4.put_rep {u : W4} {S : Int → Prop} (h : u.Rep S) {n : Int} (h0 : 0 ≤ n) (h1 : n < 256) : (u.put n).Rep (fun m => S m ∨ m = n) := fun m m0 m1 => by
 show _ ↔ S m ∨ m = n
 rw [← h m m0 m1]
 have key : ∀ (w : BitVec 64), (w ||| BitVec.twoPow 64 (n % 64).toNat).getLsbD (m % 64).toNat = (w.getLsbD (m % 64).toNat || decide (m % 64 = n % 64)) := fun w => by
  rw [BitVec.getLsbD_or, BitVec.getLsbD_twoPow]
  congr 1
  have : (m % 64).toNat < 64 := by omega
  rw [Bool.eq_iff_iff]
  simp [this]
  omega
 unfold W4.put W4.has W4.sel
 have hn : n / 64 = 0 ∨ n / 64 = 1 ∨ n / 64 = 2 ∨ n / 64 = 3 := by omega
 have hm : m / 64 = 0 ∨ m / 64 = 1 ∨ m / 64 = 2 ∨ m / 64 = 3 := by omega
 by_cases e : m / 64 = n / 64
 ·have hmn : (m = n) ↔ m % 64 = n % 64 := by omega
  rw [e, hmn]
  rcases hn with hn | hn | hn | hn <;> simp [hn, key]
 ·have hmn : ¬ m = n := fun h => e (by rw [h])
  rw [or_iff_left hmn]
  rcases hn with hn | hn | hn | hn <;> rcases hm with hm | hm | hm | hm <;> first
   | exact absurd (hm.trans hn.symm) e
   | simp [hn, hm]
def W4.t (u : W4) : Int × Int × Int × Int := (Wd u.a, Wd u.b, Wd u.c, Wd u.d)
end Go.Bw
namespace Go.Bw
open Go Go.RowKit

theorem low_ex {v : BitVec 64} (h : v ≠ 0#64) : ∃ k : Nat, k < 64 ∧ v.getLsbD k = true ∧ ∀ i, i < k → v.getLsbD i = false := by
 have h1 : ∃ k, v.getLsbD k = true := Classical.byContradiction fun hn => h (BitVec.eq_of_getLsbD_eq fun i _ => by
  cases hv : v.getLsbD i with
  | false => simp
  | true => exact absurd ⟨i, hv⟩ hn)
 obtain ⟨k, hk⟩ := h1
 induction k using Nat.strongRecOn with
 | _ k ih =>
  by_cases hl : ∃ i, i < k ∧ v.getLsbD i = true
  ·obtain ⟨i, hi, hv⟩ := hl; exact ih i hi hv
  ·refine ⟨k, BitVec.lt_of_getLsbD hk, hk, fun i hi => ?_⟩
   cases hv : v.getLsbD i with
   | false => rfl
   | true => exact absurd ⟨i, hi, hv⟩ hl
theorem low_nat {v : BitVec 64} {k : Nat} (hk : v.getLsbD k = true) (hb : ∀ i, i < k → v.getLsbD i = false) : v.toNat = 2 ^ (k + 1) * (v.toNat / 2 ^ (k + 1)) + 2 ^ k := by
 have e : v.toNat % 2 ^ (k + 1) = 2 ^ k := by
  apply Nat.eq_of_testBit_eq
  intro i
  rw [Nat.testBit_mod_two_pow, Nat.testBit_two_pow]
  by_cases h1 : i < k
  ·have := hb i h1
   rw [BitVec.getLsbD] at this
   rw [this]; simp; omega
  ·by_cases h2 : i = k
   ·subst h2
    rw [BitVec.getLsbD] at hk
    rw [hk]; simp
   ·rw [decide_eq_false (by omega), decide_eq_false (by omega)]; rfl
 have := Nat.div_add_mod v.toNat (2 ^ (k + 1))
 omega
theorem Q202 {v : BitVec 64} {k : Nat} (hk : v.getLsbD k = true) (hb : ∀ i, i < k → v.getLsbD i = false) (i : Nat) :
 (v - 1#64).getLsbD i = if i < k then true else if i = k then false else v.getLsbD i := by
 have hn := low_nat hk hb
 have hk64 := BitVec.lt_of_getLsbD hk
 have hp : 0 < 2 ^ k := Nat.two_pow_pos k
 have hv := v.isLt
 have e1 : (v - 1#64).toNat = 2 ^ (k + 1) * (v.toNat / 2 ^ (k + 1)) + (2 ^ k - 1) := by
  rw [BitVec.toNat_sub]
  have : (1#64).toNat = 1 := rfl
  rw [this]
  generalize 2 ^ (k + 1) * (v.toNat / 2 ^ (k + 1)) = q at hn
  omega
 have hlt : 2 ^ k - 1 < 2 ^ (k + 1) := by rw [Nat.pow_succ]; omega
 have hlt2 : 2 ^ k < 2 ^ (k + 1) := by rw [Nat.pow_succ]; omega
 have ev : v.getLsbD i = if i < k + 1 then (2 ^ k).testBit i else (v.toNat / 2 ^ (k + 1)).testBit (i - (k + 1)) := by
  have : v.getLsbD i = v.toNat.testBit i := rfl
  rw [this]
  have h3 := Nat.testBit_two_pow_mul_add (v.toNat / 2 ^ (k + 1)) hlt2 i
  rw [← hn] at h3
  exact h3
 have ep : (v - 1#64).getLsbD i = if i < k + 1 then (2 ^ k - 1).testBit i else (v.toNat / 2 ^ (k + 1)).testBit (i - (k + 1)) := by
  have : (v - 1#64).getLsbD i = (v - 1#64).toNat.testBit i := rfl
  rw [this, e1]
  exact Nat.testBit_two_pow_mul_add _ hlt i
 rw [ep]
 by_cases h1 : i < k
 ·rw [if_pos (show i < k + 1 by omega), if_pos h1, Nat.testBit_two_pow_sub_one]; simp [h1]
 ·by_cases h2 : i = k
  ·subst h2
   rw [if_pos (show i < i + 1 by omega), if_neg h1, if_pos rfl, Nat.testBit_two_pow_sub_one]; simp
  ·rw [if_neg (show ¬ i < k + 1 by omega), if_neg h1, if_neg h2, ev, if_neg (show ¬ i < k + 1 by omega)]
theorem Q161 {v : BitVec 64} {k : Nat} (hk : v.getLsbD k = true) (hb : ∀ i, i < k → v.getLsbD i = false) (i : Nat) : (v &&& (v - 1#64)).getLsbD i = (v.getLsbD i && !decide (i = k)) := by
 rw [BitVec.getLsbD_and, Q202 hk hb]
 by_cases h1 : i < k
 ·rw [hb i h1]; rfl
 ·by_cases h2 : i = k
  ·subst h2; simp
  ·simp [h1, h2]
theorem low_only {v : BitVec 64} {k : Nat} (hk : v.getLsbD k = true) (hb : ∀ i, i < k → v.getLsbD i = false) : v &&& -v = BitVec.twoPow 64 k := by
 have e : -v = ~~~(v - 1#64) := by
  apply BitVec.eq_of_toNat_eq
  have hv := v.isLt
  have hn := low_nat hk hb
  have hp : 0 < 2 ^ k := Nat.two_pow_pos k
  rw [BitVec.toNat_not, BitVec.toNat_neg, BitVec.toNat_sub]
  have : (1#64).toNat = 1 := rfl
  rw [this]
  generalize 2 ^ (k + 1) * (v.toNat / 2 ^ (k + 1)) = q at hn
  omega
 apply BitVec.eq_of_getLsbD_eq
 intro i hi
 rw [e, BitVec.getLsbD_and, BitVec.getLsbD_not, Q202 hk hb, BitVec.getLsbD_twoPow]
 by_cases h1 : i < k
 ·rw [hb i h1]; simp; omega
 ·by_cases h2 : i = k
  ·subst h2; simp [hk, hi]
  ·rw [if_neg h1, if_neg h2]
   have : decide (k = i) = false := decide_eq_false (by omega)
   cases v.getLsbD i <;> simp [this, hi]
end Go.Bw
namespace Go.Bw
open Go Go.RowKit

def Canon (l : List Int) : Prop := ∀ i : Int, 0 ≤ i → i < (l.length : Int) → 0 ≤ gt l i ∧ ∀ v : Int, 0 ≤ v → v < gt l i → ∃ j : Int, 0 ≤ j ∧ j < i ∧ gt l j = v
theorem ext_gt {α : Type} [Inhabited α] {l l' : List α} (hn : l.length = l'.length) (h : ∀ k : Nat, k < l.length → gt l k = gt l' k) : l = l' := by
 refine List.ext_getElem hn fun k h1 h2 => ?_
 have := h k h1
 rwa [Q103 (List.getElem?_eq_getElem h1), Q103 (List.getElem?_eq_getElem h2)] at this
theorem Canon.uniq {l l' : List Int} (h : Canon l) (h' : Canon l') (hn : l.length = l'.length)
 (hk : ∀ i j : Int, 0 ≤ i → i < (l.length : Int) → 0 ≤ j → j < (l.length : Int) → (gt l i = gt l j ↔ gt l' i = gt l' j)) : l = l' := by
 refine ext_gt hn fun k => ?_
 induction k using Nat.strongRecOn with
 | _ k ih =>
  intro hkl
  obtain ⟨a0, a1⟩ := h k (by omega) (by omega)
  obtain ⟨b0, b1⟩ := h' k (by omega) (by omega)
  rcases Int.lt_trichotomy (gt l k) (gt l' k) with hlt | he | hlt
  ·obtain ⟨j, j0, j1, j2⟩ := b1 _ a0 hlt
   have e := ih j.toNat (by omega) (by omega)
   rw [show ((j.toNat : Nat) : Int) = j from by omega, j2] at e
   have := (hk j k j0 (by omega) (by omega) (by omega)).1 e
   omega
  ·exact he
  ·obtain ⟨j, j0, j1, j2⟩ := a1 _ b0 hlt
   have e := ih j.toNat (by omega) (by omega)
   rw [show ((j.toNat : Nat) : Int) = j from by omega, j2] at e
   have := (hk j k j0 (by omega) (by omega) (by omega)).2 (by omega)
   omega

section
variable (H : Nat → Int → Prop) (E : Nat → Int → Int → Prop)
structure Ks (H : Nat → Int → Prop) (E : Nat → Int → Int → Prop) (R : Int → Int → Prop) : Prop where
 hd : ∀ s t, R s t → ∀ i, H i s ↔ H i t
 fw : ∀ s t, R s t → ∀ a s', E a s s' → ∃ t', E a t t' ∧ R s' t'
 bw : ∀ s t, R s t → ∀ a t', E a t t' → ∃ s', E a s s' ∧ R s' t'
def Alike (s t : Int) : Prop := ∃ R, Ks H E R ∧ R s t
variable {H E}
theorem Alike.refl (s : Int) : Alike H E s s := ⟨Eq, ⟨by rintro s _ rfl i; exact Iff.rfl, by rintro s _ rfl a s' h; exact ⟨s', h, rfl⟩, by rintro s _ rfl a s' h; exact ⟨s', h, rfl⟩⟩, rfl⟩
theorem Alike.symm {s t : Int} : Alike H E s t → Alike H E t s := fun ⟨R, k, h⟩ => ⟨fun a b => R b a, ⟨fun s t q i => (k.hd t s q i).symm, fun s t q => k.bw t s q, fun s t q => k.fw t s q⟩, h⟩
theorem Alike.ks : Ks H E (Alike H E) :=
 ⟨fun s t ⟨R, k, h⟩ => k.hd s t h, fun s t ⟨R, k, h⟩ a s' e => let ⟨t', e1, q⟩ := k.fw s t h a s' e; ⟨t', e1, R, k, q⟩, fun s t ⟨R, k, h⟩ a t' e => let ⟨s', e1, q⟩ := k.bw s t h a t' e; ⟨s', e1, R, k, q⟩⟩
structure Cls (n : Int) (H : Nat → Int → Prop) (E : Nat → Int → Int → Prop) (l : List Int) : Prop where
 len : (l.length : Int) = n
 canon : Canon l
 iff : ∀ s t : Int, 0 ≤ s → s < n → 0 ≤ t → t < n → (gt l s = gt l t ↔ Alike H E s t)
theorem Cls.uniq {n : Int} {l l' : List Int} (h : Cls n H E l) (h' : Cls n H E l') : l = l' :=
 h.canon.uniq h'.canon (by have := h.len; have := h'.len; omega) fun i j i0 i1 j0 j1 => by
  rw [h.len] at i1 j1
  rw [h.iff i j i0 i1 j0 j1, h'.iff i j i0 i1 j0 j1]
def Within (n : Int) (E : Nat → Int → Int → Prop) : Prop := ∀ a s t, E a s t → 0 ≤ s ∧ s < n ∧ 0 ≤ t ∧ t < n
theorem cls_of {n : Int} {l : List Int} (hw : Within n E) (hlen : (l.length : Int) = n) (hc : Canon l)
 (h1 : ∀ s t : Int, 0 ≤ s → s < n → 0 ≤ t → t < n → Alike H E s t → gt l s = gt l t)
 (h2 : ∀ s t : Int, 0 ≤ s → s < n → 0 ≤ t → t < n → gt l s = gt l t → (∀ i, H i s ↔ H i t) ∧ ∀ a s', E a s s' → ∃ t', E a t t' ∧ gt l s' = gt l t') : Cls n H E l :=
 ⟨hlen, hc, fun s t s0 s1 t0 t1 => ⟨fun h => ⟨fun a b => 0 ≤ a ∧ a < n ∧ 0 ≤ b ∧ b < n ∧ gt l a = gt l b, ⟨fun a b ⟨a0, a1, b0, b1, e⟩ => (h2 a b a0 a1 b0 b1 e).1, fun a b ⟨a0, a1, b0, b1, e⟩ c a' q => by
  obtain ⟨b', q1, q2⟩ := (h2 a b a0 a1 b0 b1 e).2 c a' q
  have w := hw _ _ _ q
  have w' := hw _ _ _ q1
  exact ⟨b', q1, w.2.2.1, w.2.2.2, w'.2.2.1, w'.2.2.2, q2⟩, fun a b ⟨a0, a1, b0, b1, e⟩ c b' q => by
  obtain ⟨a', q1, q2⟩ := (h2 b a b0 b1 a0 a1 e.symm).2 c b' q
  have w := hw _ _ _ q
  have w' := hw _ _ _ q1
  exact ⟨a', q1, w'.2.2.1, w'.2.2.2, w.2.2.1, w.2.2.2, q2.symm⟩⟩, s0, s1, t0, t1, h⟩, h1 s t s0 s1 t0 t1⟩⟩
end
def pairs (n : Nat) (p : Nat → Nat → Bool) : Nat := ((List.range n).map fun i => (List.range n).countP (p i)).sum
theorem Q175 {α : Type} {p q : α → Bool} : ∀ {l : List α}, (∀ x ∈ l, p x = true → q x = true) → l.countP p ≤ l.countP q
 | [], _ => Nat.le_refl _
 | a :: l, h => by
  have ih := Q175 (p := p) (q := q) (l := l) fun x hx => h x (.tail _ hx)
  have ha := h a (.head _)
  rw [List.countP_cons, List.countP_cons]
  by_cases hp : p a = true
  ·rw [if_pos hp, if_pos (ha hp)]; omega
  ·rw [if_neg hp]; omega
theorem Q208 {α : Type} {p q : α → Bool} : ∀ {l : List α}, (∀ x ∈ l, p x = true → q x = true) → ∀ {y : α}, y ∈ l → p y = false → q y = true → l.countP p < l.countP q
 | [], _, _, hy, _, _ => by cases hy
 | a :: l, h, y, hy, h1, h2 => by
  rw [List.countP_cons, List.countP_cons]
  rcases List.mem_cons.1 hy with rfl | hy
  ·have ih := Q175 (p := p) (q := q) (l := l) fun x hx => h x (.tail _ hx)
   rw [if_neg (by simp [h1]), if_pos h2]; omega
  ·have ih := Q208 (p := p) (q := q) (l := l) (fun x hx => h x (.tail _ hx)) hy h1 h2
   have ha := h a (.head _)
   by_cases hp : p a = true
   ·rw [if_pos hp, if_pos (ha hp)]; omega
   ·rw [if_neg hp]; omega
theorem sum_le {α : Type} {f g : α → Nat} : ∀ {l : List α}, (∀ x ∈ l, f x ≤ g x) → (l.map f).sum ≤ (l.map g).sum
 | [], _ => Nat.le_refl _
 | a :: l, h => by
  have ih := sum_le (f := f) (g := g) (l := l) fun x hx => h x (.tail _ hx)
  have := h a (.head _)
  simp only [List.map_cons, List.sum_cons]; omega
theorem sum_lt {α : Type} {f g : α → Nat} : ∀ {l : List α}, (∀ x ∈ l, f x ≤ g x) → ∀ {y : α}, y ∈ l → f y < g y → (l.map f).sum < (l.map g).sum
 | [], _, _, hy, _ => by cases hy
 | a :: l, h, y, hy, h1 => by
  simp only [List.map_cons, List.sum_cons]
  have ha := h a (.head _)
  rcases List.mem_cons.1 hy with rfl | hy
  ·have ih := sum_le (f := f) (g := g) (l := l) fun x hx => h x (.tail _ hx)
   omega
  ·have ih := sum_lt (f := f) (g := g) (l := l) (fun x hx => h x (.tail _ hx)) hy h1
   omega
theorem pairs_lt {n : Nat} {p q : Nat → Nat → Bool} (h : ∀ i j, i < n → j < n → p i j = true → q i j = true) {a b : Nat} (ha : a < n) (hb : b < n) (h1 : p a b = false) (h2 : q a b = true) : pairs n p < pairs n q :=
 sum_lt (fun i hi => Q175 fun j hj => h i j (by simpa using hi) (by simpa using hj)) (y := a) (by simpa using ha)
  (Q208 (fun j hj => h a j ha (by simpa using hj)) (y := b) (by simpa using hb) h1 h2)
end Go.Bw
namespace Go.Bw
open Go Go.RowKit

theorem Q145 {u : W4} {n : Int} : Q20.f (Wd u.a) (Wd u.b) (Wd u.c) (Wd u.d) n = some (if 0 ≤ n ∧ n < 256 then u.put n else u).t := by
 unfold Q20.f
 by_cases h0 : 0 ≤ n
 ·rw [if_pos h0, Q25]
  by_cases h1 : n < 256
  ·have hm : IntKind.u64.wrap (band .i64 n 63) = n % 64 := by rw [band63 h0 (by omega), wrapu (by omega) (by omega)]
   rw [if_pos (decide_eq_true h1), shr6 h0, hm, shl_one (by omega) (by omega), if_pos (by omega), if_pos (show 0 ≤ n ∧ n < 256 from ⟨h0, h1⟩)]
   have hn : (0 : Int) ≤ n % 64 := by omega
   simp only [if_pos hn, bor_wd]
   unfold W4.put W4.t
   by_cases k0 : n / 64 = 0
   ·rw [if_pos k0, if_pos k0]
   ·by_cases k1 : n / 64 = 1
    ·rw [if_neg k0, if_neg k0, if_pos k1, if_pos k1]
    ·by_cases k2 : n / 64 = 2
     ·rw [if_neg k0, if_neg k0, if_neg k1, if_neg k1, if_pos k2, if_pos k2]
     ·rw [if_neg k0, if_neg k0, if_neg k1, if_neg k1, if_neg k2, if_neg k2]
  ·rw [if_neg (by simp; omega), if_neg (by omega)]
   rfl
 ·rw [if_neg h0, Q25, if_neg (by simp), if_neg (by omega)]
  rfl
theorem of_run4 {l : List Int} (hl : (l.length : Int) ≤ 9223372036854775807) : ∃ u : W4, Q35.f l = some u.t ∧ u.Rep (· ∈ l) := by
 obtain ⟨r, hr, u, rfl, h⟩ := Q70 (body := fun t_ : Int × Int × Int × Int × Int => Q35.l0b l t_.1 t_.2.1 t_.2.2.1 t_.2.2.2.1 t_.2.2.2.2)
  (fun s => 0 ≤ s.2.2.2.2 ∧ s.2.2.2.2 ≤ (l.length : Int) ∧ ∃ u : W4, (s.1, s.2.1, s.2.2.1, s.2.2.2.1) = u.t ∧ u.Rep (· ∈ l.take s.2.2.2.2.toNat))
  (fun r => ∃ u : W4, r = .inl u.t ∧ u.Rep (· ∈ l)) (fun s => (l.length - s.2.2.2.2).toNat)
  (fun ⟨w0, w1, w2, w3, i⟩ ⟨a0, a1, u, a2, a3⟩ => by
   dsimp only at a0 a1 a2 a3 ⊢
   simp only [W4.t, Prod.mk.injEq] at a2
   obtain ⟨rfl, rfl, rfl, rfl⟩ := a2
   unfold Q35.l0b
   by_cases hi : i < (l.length : Int)
   ·right
    rw [if_pos hi, if_pos ⟨a0, hi⟩, Q145, wrap64 (x := i + 1) (by omega) (by omega)]
    refine ⟨_, rfl, ⟨by dsimp only; omega, by dsimp only; omega, _, rfl, fun n n0 n1 => ?_⟩, by dsimp only; omega⟩
    dsimp only
    rw [show (i + 1).toNat = i.toNat + 1 from by omega, List.take_add_one, Q69 a0 hi, List.mem_append]
    simp only [Option.toList_some, List.mem_singleton]
    by_cases hg : 0 ≤ gt l i ∧ gt l i < 256
    ·rw [if_pos hg]
     exact W4.put_rep a3 hg.1 hg.2 n n0 n1
    ·rw [if_neg hg, a3 n n0 n1]
     exact ⟨.inl, fun h => h.elim id fun h => absurd (h ▸ ⟨n0, n1⟩) hg⟩
   ·left
    rw [if_neg hi]
    refine ⟨_, rfl, u, rfl, ?_⟩
    rwa [List.take_of_length_le (by omega)] at a3) (0, 0, 0, 0, 0) ⟨Int.le_refl _, by dsimp only; omega, W4.z, rfl, fun n n0 n1 => by
     dsimp only
     rw [W4.z_rep n n0 n1]
     simp⟩
 refine ⟨u, ?_, h⟩
 unfold Q35.f
 have hl : Q35.l0 l 0 0 0 0 0 = some (.inl u.t) := hr
 rw [hl, Q25]
end Go.Bw
namespace Go.Bw
open Go Go.RowKit

theorem in_run (a n : Int) (x : List Bs) (y : List Q0) (z : List Q1) : Q58.f a n x y z = some (decide (0 ≤ a ∧ a < n)) := by
 unfold Q58.f
 by_cases h : 0 ≤ a <;> simp [h, jn]
theorem jn_tot {σ ρ : Type} {x : Option (σ ⊕ ρ)} {f : σ → Option ρ} (hx : ∃ t, x = some t) (hf : ∀ s, ∃ r, f s = some r) : ∃ r, jn x f = some r := by
 obtain ⟨t, rfl⟩ := hx
 cases t with
 | inl s => exact hf s
 | inr r => exact ⟨r, rfl⟩
theorem rune_name (r : Int) : ∃ b, Q67.f r = some b := by
 unfold Q67.f
 repeat' first
  | exact ⟨_, rfl⟩
  | refine jn_tot ?_ fun _ => ?_
  | split
def EdgeIn (n : Int) (m : Nat) (e : Q0) : Prop := 0 ≤ e.From ∧ e.From < n ∧ 0 ≤ e.To ∧ e.To < n ∧ 0 ≤ e.Action ∧ e.Action < (m : Int)
end Go.Bw
namespace Go.Bw
open Go Go.RowKit

theorem shr_wd (v : BitVec 64) {s : Int} (h0 : 0 ≤ s) (h1 : s < 64) : Bw.shr .u64 (Wd v) s = Wd (v >>> s.toNat) := by
 have hs : min s.toNat IntKind.u64.bits = s.toNat := Nat.min_eq_left (show s.toNat ≤ 64 by omega)
 unfold Bw.shr Wd
 rw [hs, Int.fdiv_eq_ediv_of_nonneg _ (Int.pow_nonneg (by decide)), BitVec.toNat_ushiftRight, Nat.shiftRight_eq_div_pow]
 have : (2 : Int) ^ s.toNat = ((2 ^ s.toNat : Nat) : Int) := by rw [Int.natCast_pow]; rfl
 rw [this]
 rfl
theorem bit_wd (v : BitVec 64) {s : Int} (h0 : 0 ≤ s) (h1 : s < 64) : band .u64 (Bw.shr .u64 (Wd v) s) 1 = 1 ↔ v.getLsbD s.toNat = true := by
 rw [shr_wd v h0 h1, show (1 : Int) = Wd 1#64 from rfl, Q169]
 constructor
 ·intro h
  have := Wd.inj h
  have h2 := congrArg (fun z => z.getLsbD 0) this
  simpa using h2
 ·intro h
  congr 1
  apply BitVec.eq_of_getLsbD_eq
  intro i hi
  rw [BitVec.getLsbD_and, BitVec.getLsbD_ushiftRight]
  by_cases hi0 : i = 0
  ·subst hi0; simp [h]
  ·have : (1#64).getLsbD i = false := by simp [hi0]
   rw [this]; simp
theorem Q162 {κ ν : Type} [DecidableEq κ] : ∀ (m : List (κ × ν)) (k k' : κ) (v : ν), mget (mset m k v) k' = if k = k' then some v else mget m k'
 | [], k, k', v => by unfold mset mget; split <;> rfl
 | p :: r, k, k', v => by
  unfold mset
  by_cases h : p.1 = k
  ·rw [if_pos h]
   unfold mget
   by_cases h2 : k = k'
   ·simp [h2]
   ·rw [if_neg h2, if_neg h2, if_neg (fun h3 => h2 (h.symm.trans h3))]
  ·rw [if_neg h]
   unfold mget
   by_cases h2 : p.1 = k'
   ·rw [if_pos h2, if_pos h2, if_neg (fun h3 => h (h2.trans h3.symm))]
   ·rw [if_neg h2, if_neg h2, Q162 r k k' v]
def Hit (x : List Bs) (E : List Q0) (k : Q9) (t : Int) : Prop := ∃ e ∈ E, e.From = k.from_ ∧ e.To = t ∧ (gt x e.Action = k.action ∨ k.action = [45])
abbrev set0 : Q6 := ⟨(0 : Int), (0 : Int), (0 : Int), (0 : Int)⟩
def W4.s (u : W4) : Q6 := ⟨Wd u.a, Wd u.b, Wd u.c, Wd u.d⟩
def Nx (x : List Bs) (E : List Q0) (m : List (Q9 × Q6)) : Prop := ∀ k, ∃ u : W4, (mget m k).getD set0 = u.s ∧ u.Rep (Hit x E k)
theorem put_hit {m : List (Q9 × Q6)} {S : Q9 → Int → Prop} (h : ∀ k, ∃ u : W4, (mget m k).getD set0 = u.s ∧ u.Rep (S k)) {k0 : Q9} {t : Int} (h0 : 0 ≤ t) (h1 : t < 256) {u : W4} (hu : (mget m k0).getD set0 = u.s) :
 ∀ k, ∃ u' : W4, (mget (mset m k0 (u.put t).s) k).getD set0 = u'.s ∧ u'.Rep (fun n => S k n ∨ k0 = k ∧ n = t) := fun k => by
 rw [Q162]
 by_cases hk : k0 = k
 ·subst hk
  rw [if_pos rfl]
  obtain ⟨v, hv, hr⟩ := h k0
  rw [hu] at hv
  have : u = v := by
   cases u; cases v
   simp only [W4.s, Q6.mk.injEq] at hv
   rw [Wd.inj hv.1, Wd.inj hv.2.1, Wd.inj hv.2.2.1, Wd.inj hv.2.2.2]
  subst this
  refine ⟨u.put t, rfl, fun n n0 n1 => ?_⟩
  rw [W4.put_rep hr h0 h1 n n0 n1]
  simp
 ·rw [if_neg hk]
  obtain ⟨v, hv, hr⟩ := h k
  refine ⟨v, hv, fun n n0 n1 => ?_⟩
  rw [hr n n0 n1]
  simp [hk]
theorem l2_run (x : List Bs) (y : List Q0) {j : Int} (hj : 0 ≤ j) (hj2 : j < (y.length : Int)) {E : List Q0} {m : List (Q9 × Q6)} (hm : Nx x E m) (ht : 0 ≤ (gt y j).To ∧ (gt y j).To < 256) :
 ∃ m', Q12.l2 x y j m 0 = some (.inl m') ∧ Nx x (E ++ [gt y j]) m' := by
 unfold Q12.l2
 rw [Q84]
 have w1 : IntKind.i64.wrap (0 + 1) = 1 := wrap64 (by decide) (by decide)
 have w2 : IntKind.i64.wrap (1 + 1) = 2 := wrap64 (by decide) (by decide)
 have g0 : gt [gt x (gt y j).Action, ([45] : Bs)] 0 = gt x (gt y j).Action := rfl
 have g1 : gt [gt x (gt y j).Action, ([45] : Bs)] 1 = [45] := rfl
 obtain ⟨u1, e1, r1⟩ := hm ⟨(gt y j).From, gt x (gt y j).Action⟩
 have s1 := put_hit hm ht.1 ht.2 e1
 obtain ⟨u2, e2, r2⟩ := s1 ⟨(gt y j).From, [45]⟩
 have s2 := put_hit s1 ht.1 ht.2 e2
 refine ⟨mset (mset m ⟨(gt y j).From, gt x (gt y j).Action⟩ (u1.put (gt y j).To).s) ⟨(gt y j).From, [45]⟩ (u2.put (gt y j).To).s, ?_, fun k => ?_⟩
 rotate_left
 ·obtain ⟨u3, e3, r3⟩ := s2 k
  refine ⟨u3, e3, fun n n0 n1 => ?_⟩
  rw [r3 n n0 n1]
  unfold Hit
  constructor
  ·rintro ((⟨e, he, q⟩ | ⟨rfl, rfl⟩) | ⟨rfl, rfl⟩)
   ·exact ⟨e, by simp [he], q⟩
   ·exact ⟨gt y j, by simp, rfl, rfl, .inl rfl⟩
   ·exact ⟨gt y j, by simp, rfl, rfl, .inr rfl⟩
  ·rintro ⟨e, he, q1, q2, q3⟩
   rcases List.mem_append.1 he with he | he
   ·exact .inl (.inl ⟨e, he, q1, q2, q3⟩)
   ·simp at he
    subst he
    rcases q3 with q3 | q3
    ·exact .inl (.inr ⟨by rw [q1, q3], q2.symm⟩)
    ·exact .inr ⟨by rw [q1, ← q3], q2.symm⟩
 ·simp only [Q12.l2b]
  rw [if_pos (by simp), if_pos (by simp), g0, e1]
  simp only [W4.s, Q145, if_pos ht, Option.bind_some, nx, w1]
  rw [Q84]
  simp only [Q12.l2b]
  rw [if_pos (by simp), if_pos (by simp), g1]
  have e2' : (mget (mset m ({ from_ := (gt y j).From, action := gt x (gt y j).Action } : Q9) ({ c0 := (u1.put (gt y j).To).t.1, c1 := (u1.put (gt y j).To).t.2.1, c2 := (u1.put (gt y j).To).t.2.2.1, c3 := (u1.put (gt y j).To).t.2.2.2 } : Q6)) { from_ := (gt y j).From, action := [45] }).getD set0 = u2.s := e2
  rw [e2']
  simp only [W4.s, Q145, if_pos ht, Option.bind_some, nx, w2]
  rw [Q84]
  simp only [Q12.l2b]
  rw [if_neg (by simp)]
  rfl
theorem l1_run (n : Int) (x : List Bs) (y : List Q0) (hy : (y.length : Int) ≤ 9223372036854775807) (he : ∀ e ∈ y, EdgeIn n x.length e) (hn : n ≤ 24) :
 ∃ m, Q12.l1 x y [] 0 = some (.inl m) ∧ Nx x y m := by
 obtain ⟨r, hr, m, rfl, hm⟩ := Q70 (body := fun t_ : List (Q9 × Q6) × Int => Q12.l1b x y t_.1 t_.2) (fun s => 0 ≤ s.2 ∧ s.2 ≤ (y.length : Int) ∧ Nx x (y.take s.2.toNat) s.1)
  (fun r => ∃ m, r = .inl m ∧ Nx x y m) (fun s => ((y.length : Int) - s.2).toNat) (fun ⟨m, i⟩ ⟨h0, h1, h2⟩ => by
   dsimp only at h0 h1 h2 ⊢
   unfold Q12.l1b
   by_cases hi : i < (y.length : Int)
   ·right
    have hE := he _ (Q80 h0 hi)
    obtain ⟨m', hm', hx⟩ := l2_run x y h0 hi h2 ⟨hE.2.2.1, by have := hE.2.2.2.1; omega⟩
    rw [if_pos hi, if_pos ⟨h0, hi⟩, if_pos hE.2.2.2.2, hm', Q25, wrap64 (x := i + 1) (by omega) (by omega)]
    refine ⟨_, rfl, ⟨by dsimp only; omega, by dsimp only; omega, ?_⟩, by dsimp only; omega⟩
    dsimp only
    rw [show (i + 1).toNat = i.toNat + 1 from by omega, List.take_add_one, Q69 h0 hi]
    exact hx
   ·left
    rw [if_neg hi]
    refine ⟨_, rfl, m, rfl, ?_⟩
    rwa [List.take_of_length_le (by omega)] at h2) ([], 0) ⟨Int.le_refl _, by dsimp only; omega, fun k => ⟨W4.z, rfl, fun n n0 n1 => by
     rw [W4.z_rep n n0 n1]
     simp [Hit]⟩⟩
 exact ⟨m, hr, hm⟩
end Go.Bw
namespace Go.Bw
open Go Go.RowKit

theorem wrap_neg (v : BitVec 64) : IntKind.u64.wrap (0 - Wd v) = Wd (-v) := by
 unfold Wd
 rw [BitVec.toNat_neg]
 have := v.isLt
 simp [IntKind.wrap, IntKind.bits, IntKind.signed]
 omega
theorem wrap_pred (v : BitVec 64) (h : v ≠ 0#64) : IntKind.u64.wrap (Wd v - 1) = Wd (v - 1#64) := by
 have h1 : Wd v ≠ 0 := fun e => h (Wd.inj (e.trans rfl))
 have h2 := Wd.lt v
 rw [wrapu (by omega) (by omega)]
 unfold Wd at *
 rw [BitVec.toNat_sub]
 have : (1#64).toNat = 1 := rfl
 rw [this]
 omega
theorem tz_tab : ∀ k : Fin 64, (0 ≤ Bw.shr .u64 (IntKind.u64.wrap (Wd (BitVec.twoPow 64 k.1) * 285870213051353865)) 58 ∧ Bw.shr .u64 (IntKind.u64.wrap (Wd (BitVec.twoPow 64 k.1) * 285870213051353865)) 58 < (64 : Int)) ∧
 IntKind.i64.wrap (gt Tryz.gtab0 (Bw.shr .u64 (IntKind.u64.wrap (Wd (BitVec.twoPow 64 k.1) * 285870213051353865)) 58)) = (k.1 : Int) := by decide +kernel
theorem tz_run {v : BitVec 64} {k : Nat} (hk : v.getLsbD k = true) (hb : ∀ i, i < k → v.getLsbD i = false) : Q34.f (Wd v) = some (k : Int) := by
 have hk64 := BitVec.lt_of_getLsbD hk
 have hv : Wd v ≠ 0 := fun e => by
  have : v = 0#64 := Wd.inj (e.trans rfl)
  rw [this] at hk
  simp at hk
 obtain ⟨h1, h2⟩ := tz_tab ⟨k, hk64⟩
 have hix : Q34.ix (Wd v) = Bw.shr .u64 (IntKind.u64.wrap (Wd (BitVec.twoPow 64 k) * 285870213051353865)) 58 := by
  unfold Q34.ix
  rw [wrap_neg, Q169, low_only hk hb]
 unfold Q34.f
 rw [if_neg hv, hix, if_pos h1, h2]
def wplaces (base : Int) (v : BitVec 64) : List Int := ((List.range 64).filter fun i => v.getLsbD i).map fun i : Nat => base + i
theorem Q268 (base : Int) : wplaces base 0#64 = [] := by
 unfold wplaces
 rw [List.filter_eq_nil_iff.2 (fun a _ => by simp)]
 rfl
theorem Q263 (base : Int) {v : BitVec 64} {k : Nat} (hk : v.getLsbD k = true) (hb : ∀ i, i < k → v.getLsbD i = false) : wplaces base v = (base + k) :: wplaces base (v &&& (v - 1#64)) := by
 have hk64 := BitVec.lt_of_getLsbD hk
 unfold wplaces
 have hr : List.range 64 = List.range k ++ k :: List.range' (k + 1) (63 - k) := by
  rw [List.range_eq_range', List.range_eq_range', show (64 : Nat) = k + (1 + (63 - k)) from by omega, ← List.range'_append_1, Nat.zero_add, Nat.add_comm 1, List.range'_succ]
 have e1 : (List.range k).filter (fun i => v.getLsbD i) = [] := List.filter_eq_nil_iff.2 fun a ha => by rw [hb a (by simpa using ha)]; simp
 have e2 : (List.range k).filter (fun i => (v &&& (v - 1#64)).getLsbD i) = [] := List.filter_eq_nil_iff.2 fun a ha => by rw [Q161 hk hb, hb a (by simpa using ha)]; simp
 have e3 : (List.range' (k + 1) (63 - k)).filter (fun i => v.getLsbD i) = (List.range' (k + 1) (63 - k)).filter (fun i => (v &&& (v - 1#64)).getLsbD i) := List.filter_congr fun a ha => by
  rw [Q161 hk hb]
  have : k + 1 ≤ a := (List.mem_range'_1.1 ha).1
  rw [decide_eq_false (by omega)]; simp
 have e4 : (v &&& (v - 1#64)).getLsbD k = false := by rw [Q161 hk hb]; simp
 rw [hr, List.filter_append, List.filter_append, e1, e2, List.filter_cons_of_pos (by simpa using hk), List.filter_cons_of_neg (by simp [e4]), e3]
 rfl
theorem Q112 (base : Int) (v : BitVec 64) : (wplaces base v).length ≤ 64 := by
 unfold wplaces
 rw [List.length_map]
 exact Nat.le_trans (List.length_filter_le _ _) (by simp)
theorem Q189 {base : Int} {v : BitVec 64} {t : Int} : t ∈ wplaces base v ↔ ∃ i : Nat, i < 64 ∧ v.getLsbD i = true ∧ t = base + i := by
 unfold wplaces
 rw [List.mem_map]
 constructor
 ·rintro ⟨i, hi, rfl⟩
  rw [List.mem_filter] at hi
  exact ⟨i, by simpa using hi.1, by simpa using hi.2, rfl⟩
 ·rintro ⟨i, h1, h2, rfl⟩
  exact ⟨i, List.mem_filter.2 ⟨by simpa using h1, by simpa using h2⟩, rfl⟩
theorem Q140 (base : Int) (v : BitVec 64) : (wplaces base v).Pairwise (· < ·) := by
 unfold wplaces
 rw [List.pairwise_map]
 refine (List.pairwise_lt_range (n := 64)).filter _ |>.imp fun h => by omega
noncomputable def listB (base : Int) (x : List Int) (v : Int) : Option (((List Int) × Int) ⊕ (((List Int)) ⊕ ((List Int)))) :=
 if v = 0 then
  dn (.inl x)
 else
  (Q34.f v).bind fun t =>
   if (x.length + ([(IntKind.i64.wrap (base + t))] : List Int).length) * 8 ≤ 140737488355328 then
    nx ((x ++ ([(IntKind.i64.wrap (base + t))] : List Int)), band .u64 v (IntKind.u64.wrap (v - 1)))
   else none
theorem Q131 {base : Int} (hb0 : 0 ≤ base) (hb1 : base ≤ 192) (acc : List Int) (ha : acc.length ≤ 192) (v : BitVec 64) :
 iter (fun t_ : List Int × Int => listB base t_.1 t_.2) (acc, Wd v) = some (.inl (acc ++ wplaces base v)) := by
 obtain ⟨r, hr, rfl⟩ := Q70 (body := fun t_ : List Int × Int => listB base t_.1 t_.2) (fun s => ∃ u : BitVec 64, s.2 = Wd u ∧ s.1 ++ wplaces base u = acc ++ wplaces base v)
  (fun r => r = .inl (acc ++ wplaces base v)) (fun s => (256 - s.1.length)) (fun ⟨x, w⟩ ⟨u, h1, h2⟩ => by
   dsimp only at h1 h2 ⊢
   subst h1
   unfold listB
   by_cases hu : u = 0#64
   ·left
    subst hu
    rw [Q268, List.append_nil] at h2
    rw [if_pos (show Wd 0#64 = 0 from rfl), h2]
    exact ⟨_, rfl, rfl⟩
   ·right
    obtain ⟨k, hk, hk1, hk2⟩ := low_ex hu
    have hw : Wd u ≠ 0 := fun e => hu (Wd.inj (e.trans rfl))
    have hp := Q263 base hk1 hk2
    have hlen : x.length + (wplaces base u).length = acc.length + (wplaces base v).length := by rw [← List.length_append, h2, List.length_append]
    have hpl := Q112 base v
    have hpu : 1 ≤ (wplaces base u).length := by rw [hp]; simp
    rw [if_neg hw, tz_run hk1 hk2, Option.bind_some, if_pos (by simp only [List.length_cons, List.length_nil]; omega), wrap_pred u hu, Q169, wrap64 (x := base + k) (by omega) (by omega)]
    refine ⟨_, rfl, ⟨_, rfl, ?_⟩, ?_⟩
    ·dsimp only
     rw [List.append_assoc, List.singleton_append, ← hp, h2]
    ·dsimp only
     rw [List.length_append, List.length_singleton]; omega) (acc, Wd v) ⟨v, rfl, rfl⟩
 exact hr
theorem band127 (n : Int) : 0 ≤ band .i64 n 127 ∧ band .i64 n 127 ≤ 127 := by
 show 0 ≤ IntKind.i64.wrap ((BitVec.ofInt 64 n &&& BitVec.ofInt 64 127).toNat : Int) ∧ _
 have e2 : (BitVec.ofInt 64 127).toNat = 2 ^ 7 - 1 := by rfl
 have e3 : (BitVec.ofInt 64 n &&& BitVec.ofInt 64 127).toNat = (BitVec.ofInt 64 n).toNat % 2 ^ 7 := by rw [BitVec.toNat_and, e2, Nat.and_two_pow_sub_one_eq_mod]
 have : (BitVec.ofInt 64 n).toNat % 2 ^ 7 < 2 ^ 7 := Nat.mod_lt _ (by decide)
 have h4 : band .i64 n 127 = IntKind.i64.wrap ((BitVec.ofInt 64 n &&& BitVec.ofInt 64 127).toNat : Int) := rfl
 rw [h4, e3, wrap64 (by omega) (by omega)]
 omega
theorem Q133 (a : Int) : ∃ t, Q22.f a = some t ∧ 0 ≤ t ∧ t ≤ 127 := ⟨_, rfl, band127 _⟩
theorem len_run (a b c d : Int) : ∃ t, Q78.f a b c d = some t ∧ 0 ≤ t ∧ t ≤ 508 := by
 obtain ⟨t1, h1, a1, b1⟩ := Q133 a
 obtain ⟨t2, h2, a2, b2⟩ := Q133 b
 obtain ⟨t3, h3, a3, b3⟩ := Q133 c
 obtain ⟨t4, h4, a4, b4⟩ := Q133 d
 refine ⟨t1 + t2 + t3 + t4, ?_, by omega, by omega⟩
 unfold Q78.f
 rw [h1, h2, h3, h4]
 simp only [Option.bind_some]
 rw [wrap64 (x := 0 + t1) (by omega) (by omega), wrap64 (x := 0 + t1 + t2) (by omega) (by omega), wrap64 (x := 0 + t1 + t2 + t3) (by omega) (by omega), wrap64 (x := 0 + t1 + t2 + t3 + t4) (by omega) (by omega)]
 congr 1
 omega
def W4.list (u : W4) : List Int := wplaces 0 u.a ++ wplaces 64 u.b ++ wplaces 128 u.c ++ wplaces 192 u.d
theorem Q242 (u : W4) : Q10.f (Wd u.a) (Wd u.b) (Wd u.c) (Wd u.d) = some u.list := by
 obtain ⟨t, ht, t0, t1⟩ := len_run (Wd u.a) (Wd u.b) (Wd u.c) (Wd u.d)
 have la := Q112 0 u.a
 have lb := Q112 64 u.b
 have lc := Q112 128 u.c
 have e0 : Q10.l0 [] (Wd u.a) = some (.inl ([] ++ wplaces 0 u.a)) := Q131 (base := 0) (by decide) (by decide) [] (by simp) u.a
 have e1 : Q10.l1 ([] ++ wplaces 0 u.a) (Wd u.b) = some (.inl (([] ++ wplaces 0 u.a) ++ wplaces 64 u.b)) := Q131 (base := 64) (by decide) (by decide) _ (by simp; omega) u.b
 have e2 : Q10.l2 (([] ++ wplaces 0 u.a) ++ wplaces 64 u.b) (Wd u.c) = some (.inl ((([] ++ wplaces 0 u.a) ++ wplaces 64 u.b) ++ wplaces 128 u.c)) := Q131 (base := 128) (by decide) (by decide) _ (by simp; omega) u.c
 have e3 : Q10.l3 ((([] ++ wplaces 0 u.a) ++ wplaces 64 u.b) ++ wplaces 128 u.c) (Wd u.d) = some (.inl (((([] ++ wplaces 0 u.a) ++ wplaces 64 u.b) ++ wplaces 128 u.c) ++ wplaces 192 u.d)) := Q131 (base := 192) (by decide) (by decide) _ (by simp; omega) u.d
 unfold Q10.f
 rw [ht, Option.bind_some, if_pos (by omega), e0, Q25, e1, Q25, e2, Q25, e3, Q25]
 rfl
theorem Q150 {u : W4} {S : Int → Prop} (h : u.Rep S) {t : Int} : t ∈ u.list ↔ 0 ≤ t ∧ t < 256 ∧ S t := by
 have key : ∀ (k : Int) (i : Nat), 0 ≤ k → k < 4 → i < 64 → ((u.sel k).getLsbD i = true ↔ S (64 * k + i)) := fun k i k0 k1 hi => by
  have := h (64 * k + i) (by omega) (by omega)
  unfold W4.has at this
  rwa [show (64 * k + (i : Int)) / 64 = k from by omega, show ((64 * k + (i : Int)) % 64).toNat = i from by omega] at this
 have kk : ∀ (k : Int), 0 ≤ k → k < 4 → (t ∈ wplaces (64 * k) (u.sel k) ↔ 64 * k ≤ t ∧ t < 64 * k + 64 ∧ S t) := fun k k0 k1 => by
  rw [Q189]
  constructor
  ·rintro ⟨i, hi, h1, rfl⟩
   exact ⟨by omega, by omega, (key k i k0 k1 hi).1 h1⟩
  ·rintro ⟨h1, h2, h3⟩
   refine ⟨(t - 64 * k).toNat, by omega, (key k _ k0 k1 (by omega)).2 ?_, by omega⟩
   rwa [show 64 * k + ((t - 64 * k).toNat : Int) = t from by omega]
 have k0 := kk 0 (by decide) (by decide)
 have k1 := kk 1 (by decide) (by decide)
 have k2 := kk 2 (by decide) (by decide)
 have k3 := kk 3 (by decide) (by decide)
 simp [W4.sel] at k0 k1 k2 k3
 unfold W4.list
 rw [List.mem_append, List.mem_append, List.mem_append, k0, k1, k2, k3]
 constructor
 ·rintro (((⟨a, b, c⟩ | ⟨a, b, c⟩) | ⟨a, b, c⟩) | ⟨a, b, c⟩) <;> exact ⟨by omega, by omega, c⟩
 ·rintro ⟨a, b, c⟩
  by_cases h1 : t < 64
  ·exact .inl (.inl (.inl ⟨a, h1, c⟩))
  ·by_cases h2 : t < 128
   ·exact .inl (.inl (.inr ⟨by omega, by omega, c⟩))
   ·by_cases h3 : t < 192
    ·exact .inl (.inr ⟨by omega, by omega, c⟩)
    ·exact .inr ⟨by omega, by omega, c⟩
theorem list_len (u : W4) : u.list.length ≤ 256 := by
 have a := Q112 0 u.a
 have b := Q112 64 u.b
 have c := Q112 128 u.c
 have d := Q112 192 u.d
 unfold W4.list
 simp only [List.length_append]
 omega
theorem has_run {u : W4} {n : Int} : Q71.f (Wd u.a) (Wd u.b) (Wd u.c) (Wd u.d) n = some (decide (0 ≤ n ∧ n < 256) && u.has n) := by
 unfold Q71.f
 by_cases h0 : 0 ≤ n
 ·rw [if_pos h0, Q25]
  by_cases h1 : n < 256
  ·have hm : IntKind.u64.wrap (band .i64 n 63) = n % 64 := by rw [band63 h0 (by omega), wrapu (by omega) (by omega)]
   have hbit : ∀ v : BitVec 64, decide (band .u64 (Bw.shr .u64 (Wd v) (n % 64)) 1 = 1) = v.getLsbD (n % 64).toNat := fun v => by
    rw [Bool.eq_iff_iff, decide_eq_true_eq, bit_wd v (by omega) (by omega)]
   have hn : (0 : Int) ≤ n % 64 := by omega
   have hr : (0 : Int) ≤ n / 64 ∧ n / 64 < 4 := by omega
   rw [if_pos (decide_eq_true h1), shr6 h0, hm, if_pos hr, decide_eq_true (show 0 ≤ n ∧ n < 256 from ⟨h0, h1⟩), Bool.true_and]
   simp only [if_pos hn, hbit]
   unfold W4.has W4.sel
   by_cases k0 : n / 64 = 0
   ·simp [k0, jn]
   ·by_cases k1 : n / 64 = 1
    ·simp [k1, jn]
    ·by_cases k2 : n / 64 = 2
     ·simp [k2, jn]
     ·simp [k0, k1, k2, jn]
  ·rw [if_neg (by simp; omega), decide_eq_false (by omega)]
   rfl
 ·rw [if_neg h0, Q25, if_neg (by simp), decide_eq_false (by omega)]
  rfl
end Go.Bw
namespace Go.Bw
open Go Go.RowKit

def Hx (z : List Q1) (m : List (Bs × Q6)) : Prop := ∀ k, ∃ u : W4, (mget m k).getD set0 = u.s ∧ u.Rep (fun t => ∃ p ∈ z, p.Name = k ∧ t ∈ p.States)
theorem holds_run (z : List Q1) (hz : (z.length : Int) ≤ 9223372036854775807) (hs : ∀ p ∈ z, (p.States.length : Int) ≤ 9223372036854775807) (hd : ∀ i j : Int, 0 ≤ i → i < j → j < (z.length : Int) → (gt z i).Name ≠ (gt z j).Name) :
 ∃ m, Q12.l0 z [] 0 = some (.inl m) ∧ Hx z m := by
 obtain ⟨r, hr, m, rfl, hm⟩ := Q70 (body := fun t_ : List (Bs × Q6) × Int => Q12.l0b z t_.1 t_.2) (fun s => 0 ≤ s.2 ∧ s.2 ≤ (z.length : Int) ∧ Hx (z.take s.2.toNat) s.1)
  (fun r => ∃ m, r = .inl m ∧ Hx z m) (fun s => ((z.length : Int) - s.2).toNat) (fun ⟨m, i⟩ ⟨h0, h1, h2⟩ => by
   dsimp only at h0 h1 h2 ⊢
   unfold Q12.l0b
   by_cases hi : i < (z.length : Int)
   ·right
    obtain ⟨u, hu, hur⟩ := of_run4 (hs _ (Q80 h0 hi))
    rw [if_pos hi, if_pos ⟨h0, hi⟩, hu, wrap64 (x := i + 1) (by omega) (by omega)]
    refine ⟨_, rfl, ⟨by dsimp only; omega, by dsimp only; omega, fun k => ?_⟩, by dsimp only; omega⟩
    dsimp only
    rw [show (i + 1).toNat = i.toNat + 1 from by omega, List.take_add_one, Q69 h0 hi, Q162]
    by_cases hk : (gt z i).Name = k
    ·rw [if_pos hk]
     refine ⟨u, rfl, fun n n0 n1 => ?_⟩
     rw [hur n n0 n1]
     constructor
     ·intro h; exact ⟨gt z i, by simp, hk, h⟩
     ·rintro ⟨p, hp, e1, e2⟩
      rcases List.mem_append.1 hp with hp | hp
      ·obtain ⟨q, hq, rfl⟩ := List.getElem_of_mem hp
       have hq' : q < i.toNat := by simp at hq; omega
       have hq2 : q < z.length := by simp at hq; omega
       have := hd q i (by omega) (by omega) hi
       rw [Q103 (List.getElem?_eq_getElem hq2)] at this
       simp only [List.getElem_take] at e1
       exact absurd (e1.trans hk.symm) this
      ·simp at hp; subst hp; exact e2
    ·rw [if_neg hk]
     obtain ⟨v, hv, hvr⟩ := h2 k
     refine ⟨v, hv, fun n n0 n1 => ?_⟩
     rw [hvr n n0 n1]
     constructor
     ·rintro ⟨p, a, b⟩; exact ⟨p, by simp [a], b⟩
     ·rintro ⟨p, a, b, c⟩
      rcases List.mem_append.1 a with a | a
      ·exact ⟨p, a, b, c⟩
      ·simp at a; subst a; exact absurd b hk
   ·left
    rw [if_neg hi]
    rw [List.take_of_length_le (by omega)] at h2
    exact ⟨_, rfl, m, rfl, h2⟩) ([], 0) ⟨Int.le_refl _, by dsimp only; omega, fun k => ⟨W4.z, rfl, fun n n0 n1 => by
     rw [W4.z_rep n n0 n1]
     simp⟩⟩
 exact ⟨m, hr, hm⟩
end Go.Bw
namespace Go.Bw
open Go Go.RowKit

theorem Q115 {κ ν : Type} [DecidableEq κ] : ∀ (m : List (κ × ν)) (k k' : κ) (v : ν), mget (mset m k v) k' = if k = k' then some v else mget m k'
 | [], k, k', v => by unfold mset mget; split <;> rfl
 | p :: r, k, k', v => by
  unfold mset
  by_cases h : p.1 = k
  ·rw [if_pos h]
   unfold mget
   by_cases h2 : k = k'
   ·simp [h2]
   ·rw [if_neg h2, if_neg h2, if_neg (fun h3 => h2 (h.symm.trans h3))]
  ·rw [if_neg h]
   unfold mget
   by_cases h2 : p.1 = k'
   ·rw [if_pos h2, if_pos h2, if_neg (fun h3 => h (h2.trans h3.symm))]
   ·rw [if_neg h2, if_neg h2, Q115 r k k' v]
theorem Q224 {κ ν : Type} [DecidableEq κ] : ∀ (m : List (κ × ν)) (k : κ) (v : ν), mget m k = none → (mset m k v).length = m.length + 1
 | [], k, v, _ => rfl
 | p :: r, k, v, h => by
  unfold mget at h
  unfold mset
  by_cases h2 : p.1 = k
  ·rw [if_pos h2] at h; cases h
  ·rw [if_neg h2] at h
   rw [if_neg h2, List.length_cons, Q224 r k v h, List.length_cons]
section
variable {κ : Type} [DecidableEq κ] {key : Int → κ}
structure NInv (key : Int → κ) (n i : Int) (l : List Int) (mp : List (κ × Int)) : Prop where
 len : (l.length : Int) = n
 at_ : ∀ j : Int, 0 ≤ j → j < i → mget mp (key j) = some (gt l j)
 old : ∀ k v, mget mp k = some v → 0 ≤ v ∧ v < (mp.length : Int) ∧ ∃ j : Int, 0 ≤ j ∧ j < i ∧ key j = k
 inj : ∀ k k' v, mget mp k = some v → mget mp k' = some v → k = k'
 can : ∀ j : Int, 0 ≤ j → j < i → ∀ v : Int, 0 ≤ v → v < gt l j → ∃ q : Int, 0 ≤ q ∧ q < j ∧ gt l q = v
 all : ∀ v : Int, 0 ≤ v → v < (mp.length : Int) → ∃ q : Int, 0 ≤ q ∧ q < i ∧ gt l q = v
theorem NInv.zero {n : Int} {l : List Int} (h : (l.length : Int) = n) : NInv key n 0 l ([] : List (κ × Int)) :=
 ⟨h, fun j h0 h1 => by omega, fun k v h => by simp [mget] at h, fun k k' v h => by simp [mget] at h, fun j h0 h1 => by omega, fun v h0 h1 => by simp at h1; omega⟩
theorem NInv.hit {n i v : Int} {l : List Int} {mp : List (κ × Int)} (h : NInv key n i l mp) (h0 : 0 ≤ i) (h1 : i < n) (hv : mget mp (key i) = some v) : NInv key n (i + 1) (st l i v) mp := by
 have hl := h.len
 have hlt : i < (l.length : Int) := by omega
 have hg : ∀ j : Int, 0 ≤ j → gt (st l i v) j = if j = i then v else gt l j := fun j hj => gt_st h0 hlt hj
 obtain ⟨v0, v1, jv, jv0, jv1, jv2⟩ := h.old _ _ hv
 have hjv : gt l jv = v := by
  have := h.at_ jv jv0 jv1
  rw [jv2, hv] at this
  exact (Option.some.inj this).symm
 refine ⟨by rw [st_len]; exact hl, fun j j0 j1 => ?_, fun k w hk => ?_, h.inj, fun j j0 j1 w w0 w1 => ?_, fun w w0 w1 => ?_⟩
 ·rw [hg j j0]
  by_cases hj : j = i
  ·rw [if_pos hj, hj]; exact hv
  ·rw [if_neg hj]; exact h.at_ j j0 (by omega)
 ·obtain ⟨a, b, q, q0, q1, q2⟩ := h.old k w hk
  exact ⟨a, b, q, q0, by omega, q2⟩
 ·rw [hg j j0] at w1
  by_cases hj : j = i
  ·rw [if_pos hj, ← hjv] at w1
   obtain ⟨q, q0, q1, q2⟩ := h.can jv jv0 jv1 w w0 w1
   exact ⟨q, q0, by omega, by rw [hg q q0, if_neg (by omega)]; exact q2⟩
  ·rw [if_neg hj] at w1
   obtain ⟨q, q0, q1, q2⟩ := h.can j j0 (by omega) w w0 w1
   exact ⟨q, q0, q1, by rw [hg q q0, if_neg (by omega)]; exact q2⟩
 ·obtain ⟨q, q0, q1, q2⟩ := h.all w w0 w1
  exact ⟨q, q0, by omega, by rw [hg q q0, if_neg (by omega)]; exact q2⟩
theorem NInv.new {n i : Int} {l : List Int} {mp : List (κ × Int)} (h : NInv key n i l mp) (h0 : 0 ≤ i) (h1 : i < n) (hv : mget mp (key i) = none) : NInv key n (i + 1) (st l i (mp.length : Int)) (mset mp (key i) (mp.length : Int)) := by
 have hl := h.len
 have hlt : i < (l.length : Int) := by omega
 have hg : ∀ j : Int, 0 ≤ j → gt (st l i (mp.length : Int)) j = if j = i then (mp.length : Int) else gt l j := fun j hj => gt_st h0 hlt hj
 have hml := Q224 mp (key i) (mp.length : Int) hv
 refine ⟨by rw [st_len]; exact hl, fun j j0 j1 => ?_, fun k w hk => ?_, fun k k' w hk hk' => ?_, fun j j0 j1 w w0 w1 => ?_, fun w w0 w1 => ?_⟩
 ·rw [hg j j0, Q115]
  by_cases hj : j = i
  ·rw [if_pos hj, hj, if_pos rfl]
  ·rw [if_neg hj]
   have := h.at_ j j0 (by omega)
   rw [if_neg (fun e => by rw [e, this] at hv; cases hv)]
   exact this
 ·rw [Q115] at hk
  by_cases e : key i = k
  ·rw [if_pos e] at hk
   obtain rfl := Option.some.inj hk
   exact ⟨by omega, by rw [hml]; omega, i, h0, by omega, e⟩
  ·rw [if_neg e] at hk
   obtain ⟨a, b, q, q0, q1, q2⟩ := h.old k w hk
   exact ⟨a, by rw [hml]; omega, q, q0, by omega, q2⟩
 ·rw [Q115] at hk hk'
  by_cases e : key i = k
  ·by_cases e' : key i = k'
   ·exact e.symm.trans e'
   ·rw [if_pos e] at hk
    rw [if_neg e'] at hk'
    obtain rfl := Option.some.inj hk
    have := (h.old _ _ hk').2.1
    omega
  ·rw [if_neg e] at hk
   by_cases e' : key i = k'
   ·rw [if_pos e'] at hk'
    obtain rfl := Option.some.inj hk'
    have := (h.old _ _ hk).2.1
    omega
   ·rw [if_neg e'] at hk'
    exact h.inj k k' w hk hk'
 ·rw [hg j j0] at w1
  by_cases hj : j = i
  ·rw [if_pos hj] at w1
   obtain ⟨q, q0, q1, q2⟩ := h.all w w0 w1
   exact ⟨q, q0, by omega, by rw [hg q q0, if_neg (by omega)]; exact q2⟩
  ·rw [if_neg hj] at w1
   obtain ⟨q, q0, q1, q2⟩ := h.can j j0 (by omega) w w0 w1
   exact ⟨q, q0, q1, by rw [hg q q0, if_neg (by omega)]; exact q2⟩
 ·rw [hml] at w1
  by_cases hw : w = (mp.length : Int)
  ·exact ⟨i, h0, by omega, by rw [hg i h0, if_pos rfl, hw]⟩
  ·obtain ⟨q, q0, q1, q2⟩ := h.all w w0 (by omega)
   exact ⟨q, q0, by omega, by rw [hg q q0, if_neg (by omega)]; exact q2⟩
structure NumBy (key : Int → κ) (n : Int) (l : List Int) : Prop where
 len : (l.length : Int) = n
 canon : Canon l
 iff : ∀ i j : Int, 0 ≤ i → i < n → 0 ≤ j → j < n → (gt l i = gt l j ↔ key i = key j)
theorem NInv.fin {n : Int} {l : List Int} {mp : List (κ × Int)} (h : NInv key n n l mp) : NumBy key n l := by
 refine ⟨h.len, fun i i0 i1 => ?_, fun i j i0 i1 j0 j1 => ⟨fun e => ?_, fun e => ?_⟩⟩
 ·rw [h.len] at i1
  exact ⟨(h.old _ _ (h.at_ i i0 i1)).1, h.can i i0 i1⟩
 ·exact h.inj _ _ _ (h.at_ i i0 i1) (by rw [e]; exact h.at_ j j0 j1)
 ·have a := h.at_ i i0 i1
  have b := h.at_ j j0 j1
  rw [e, b] at a
  exact (Option.some.inj a).symm
end
end Go.Bw
namespace Go.Bw
open Go Go.RowKit

def upd (f : Int → W4) (i : Int) (u : W4) : Int → W4 := fun j => if j = i then u else f j
def T32 (f : Int → W4) : Int × Int × Int × Int × Int × Int × Int × Int × Int × Int × Int × Int × Int × Int × Int × Int × Int × Int × Int × Int × Int × Int × Int × Int × Int × Int × Int × Int × Int × Int × Int × Int := (Wd (f 0).a, Wd (f 0).b, Wd (f 0).c, Wd (f 0).d, Wd (f 1).a, Wd (f 1).b, Wd (f 1).c, Wd (f 1).d, Wd (f 2).a, Wd (f 2).b, Wd (f 2).c, Wd (f 2).d, Wd (f 3).a, Wd (f 3).b, Wd (f 3).c, Wd (f 3).d, Wd (f 4).a, Wd (f 4).b, Wd (f 4).c, Wd (f 4).d, Wd (f 5).a, Wd (f 5).b, Wd (f 5).c, Wd (f 5).d, Wd (f 6).a, Wd (f 6).b, Wd (f 6).c, Wd (f 6).d, Wd (f 7).a, Wd (f 7).b, Wd (f 7).c, Wd (f 7).d)
def T33 (f : Int → W4) (p : Int) : Int × Int × Int × Int × Int × Int × Int × Int × Int × Int × Int × Int × Int × Int × Int × Int × Int × Int × Int × Int × Int × Int × Int × Int × Int × Int × Int × Int × Int × Int × Int × Int × Int := (Wd (f 0).a, Wd (f 0).b, Wd (f 0).c, Wd (f 0).d, Wd (f 1).a, Wd (f 1).b, Wd (f 1).c, Wd (f 1).d, Wd (f 2).a, Wd (f 2).b, Wd (f 2).c, Wd (f 2).d, Wd (f 3).a, Wd (f 3).b, Wd (f 3).c, Wd (f 3).d, Wd (f 4).a, Wd (f 4).b, Wd (f 4).c, Wd (f 4).d, Wd (f 5).a, Wd (f 5).b, Wd (f 5).c, Wd (f 5).d, Wd (f 6).a, Wd (f 6).b, Wd (f 6).c, Wd (f 6).d, Wd (f 7).a, Wd (f 7).b, Wd (f 7).c, Wd (f 7).d, p)
def O33 (o : Option Q2) (f : Int → W4) : Option Q2 × Int × Int × Int × Int × Int × Int × Int × Int × Int × Int × Int × Int × Int × Int × Int × Int × Int × Int × Int × Int × Int × Int × Int × Int × Int × Int × Int × Int × Int × Int × Int × Int := (o, Wd (f 0).a, Wd (f 0).b, Wd (f 0).c, Wd (f 0).d, Wd (f 1).a, Wd (f 1).b, Wd (f 1).c, Wd (f 1).d, Wd (f 2).a, Wd (f 2).b, Wd (f 2).c, Wd (f 2).d, Wd (f 3).a, Wd (f 3).b, Wd (f 3).c, Wd (f 3).d, Wd (f 4).a, Wd (f 4).b, Wd (f 4).c, Wd (f 4).d, Wd (f 5).a, Wd (f 5).b, Wd (f 5).c, Wd (f 5).d, Wd (f 6).a, Wd (f 6).b, Wd (f 6).c, Wd (f 6).d, Wd (f 7).a, Wd (f 7).b, Wd (f 7).c, Wd (f 7).d)
def O34 (o : Option Q2) (f : Int → W4) (p : Int) : Option Q2 × Int × Int × Int × Int × Int × Int × Int × Int × Int × Int × Int × Int × Int × Int × Int × Int × Int × Int × Int × Int × Int × Int × Int × Int × Int × Int × Int × Int × Int × Int × Int × Int × Int := (o, Wd (f 0).a, Wd (f 0).b, Wd (f 0).c, Wd (f 0).d, Wd (f 1).a, Wd (f 1).b, Wd (f 1).c, Wd (f 1).d, Wd (f 2).a, Wd (f 2).b, Wd (f 2).c, Wd (f 2).d, Wd (f 3).a, Wd (f 3).b, Wd (f 3).c, Wd (f 3).d, Wd (f 4).a, Wd (f 4).b, Wd (f 4).c, Wd (f 4).d, Wd (f 5).a, Wd (f 5).b, Wd (f 5).c, Wd (f 5).d, Wd (f 6).a, Wd (f 6).b, Wd (f 6).c, Wd (f 6).d, Wd (f 7).a, Wd (f 7).b, Wd (f 7).c, Wd (f 7).d, p)
theorem Q129 {σ ρ : Type} {body : σ → Option (σ ⊕ ρ)} {s s' : σ} (h : body s = some (.inl s')) : iter body s = iter body s' := by rw [Q84, h]; rfl
theorem Q127 {σ ρ : Type} {body : σ → Option (σ ⊕ ρ)} {s : σ} {r : ρ} (h : body s = some (.inr r)) : iter body s = some r := by rw [Q84, h]; rfl
def putc (u : W4) (c : Int) : W4 := if 0 ≤ c ∧ c < 256 then u.put c else u
theorem Q110 (u : W4) (c : Int) : Q20.f (Wd u.a) (Wd u.b) (Wd u.c) (Wd u.d) c = some (putc u c).t := Q145
theorem sg_l1b (l : List Int) {i : Int} (h0 : 0 ≤ i) (h1 : i < 8) (L : List Int) (f : Int → W4) {p : Int} (p0 : 0 ≤ p) (p1 : p < (L.length : Int)) (hL : (L.length : Int) ≤ 256) (g0 : 0 ≤ gt L p) (g1 : gt L p < (l.length : Int)) :
 Q16.l1b l i L (Wd (f 0).a) (Wd (f 0).b) (Wd (f 0).c) (Wd (f 0).d) (Wd (f 1).a) (Wd (f 1).b) (Wd (f 1).c) (Wd (f 1).d) (Wd (f 2).a) (Wd (f 2).b) (Wd (f 2).c) (Wd (f 2).d) (Wd (f 3).a) (Wd (f 3).b) (Wd (f 3).c) (Wd (f 3).d) (Wd (f 4).a) (Wd (f 4).b) (Wd (f 4).c) (Wd (f 4).d) (Wd (f 5).a) (Wd (f 5).b) (Wd (f 5).c) (Wd (f 5).d) (Wd (f 6).a) (Wd (f 6).b) (Wd (f 6).c) (Wd (f 6).d) (Wd (f 7).a) (Wd (f 7).b) (Wd (f 7).c) (Wd (f 7).d) p = some (.inl (T33 (upd f i (putc (f i) (gt l (gt L p)))) (p + 1))) := by
 have hw : IntKind.i64.wrap (p + 1) = p + 1 := wrap64 (by omega) (by omega)
 unfold Q16.l1b
 rw [if_pos p1, if_pos ⟨p0, p1⟩, if_pos ⟨h0, h1⟩]
 have hi : i = 0 ∨ i = 1 ∨ i = 2 ∨ i = 3 ∨ i = 4 ∨ i = 5 ∨ i = 6 ∨ i = 7 := by omega
 rcases hi with rfl | rfl | rfl | rfl | rfl | rfl | rfl | rfl
 ·rw [if_pos (rfl : (0 : Int) = 0)]; rw [if_pos ⟨g0, g1⟩, Q110, Option.bind_some, Q25, hw]; rfl
 ·rw [if_neg (show ¬ ((1 : Int) = 0) by decide)]; rw [if_pos (rfl : (1 : Int) = 1)]; rw [if_pos ⟨g0, g1⟩, Q110, Option.bind_some, Q25, hw]; rfl
 ·rw [if_neg (show ¬ ((2 : Int) = 0) by decide)]; rw [if_neg (show ¬ ((2 : Int) = 1) by decide)]; rw [if_pos (rfl : (2 : Int) = 2)]; rw [if_pos ⟨g0, g1⟩, Q110, Option.bind_some, Q25, hw]; rfl
 ·rw [if_neg (show ¬ ((3 : Int) = 0) by decide)]; rw [if_neg (show ¬ ((3 : Int) = 1) by decide)]; rw [if_neg (show ¬ ((3 : Int) = 2) by decide)]; rw [if_pos (rfl : (3 : Int) = 3)]; rw [if_pos ⟨g0, g1⟩, Q110, Option.bind_some, Q25, hw]; rfl
 ·rw [if_neg (show ¬ ((4 : Int) = 0) by decide)]; rw [if_neg (show ¬ ((4 : Int) = 1) by decide)]; rw [if_neg (show ¬ ((4 : Int) = 2) by decide)]; rw [if_neg (show ¬ ((4 : Int) = 3) by decide)]; rw [if_pos (rfl : (4 : Int) = 4)]; rw [if_pos ⟨g0, g1⟩, Q110, Option.bind_some, Q25, hw]; rfl
 ·rw [if_neg (show ¬ ((5 : Int) = 0) by decide)]; rw [if_neg (show ¬ ((5 : Int) = 1) by decide)]; rw [if_neg (show ¬ ((5 : Int) = 2) by decide)]; rw [if_neg (show ¬ ((5 : Int) = 3) by decide)]; rw [if_neg (show ¬ ((5 : Int) = 4) by decide)]; rw [if_pos (rfl : (5 : Int) = 5)]; rw [if_pos ⟨g0, g1⟩, Q110, Option.bind_some, Q25, hw]; rfl
 ·rw [if_neg (show ¬ ((6 : Int) = 0) by decide)]; rw [if_neg (show ¬ ((6 : Int) = 1) by decide)]; rw [if_neg (show ¬ ((6 : Int) = 2) by decide)]; rw [if_neg (show ¬ ((6 : Int) = 3) by decide)]; rw [if_neg (show ¬ ((6 : Int) = 4) by decide)]; rw [if_neg (show ¬ ((6 : Int) = 5) by decide)]; rw [if_pos (rfl : (6 : Int) = 6)]; rw [if_pos ⟨g0, g1⟩, Q110, Option.bind_some, Q25, hw]; rfl
 ·rw [if_neg (show ¬ ((7 : Int) = 0) by decide)]; rw [if_neg (show ¬ ((7 : Int) = 1) by decide)]; rw [if_neg (show ¬ ((7 : Int) = 2) by decide)]; rw [if_neg (show ¬ ((7 : Int) = 3) by decide)]; rw [if_neg (show ¬ ((7 : Int) = 4) by decide)]; rw [if_neg (show ¬ ((7 : Int) = 5) by decide)]; rw [if_neg (show ¬ ((7 : Int) = 6) by decide)]; rw [if_pos ⟨g0, g1⟩, Q110, Option.bind_some, Q25, hw]; rfl
theorem sg_l1 (l : List Int) {i : Int} (h0 : 0 ≤ i) (h1 : i < 8) (L : List Int) (hL : (L.length : Int) ≤ 256) (hin : ∀ t ∈ L, 0 ≤ t ∧ t < (l.length : Int)) (f : Int → W4) :
 Q16.l1 l i L (Wd (f 0).a) (Wd (f 0).b) (Wd (f 0).c) (Wd (f 0).d) (Wd (f 1).a) (Wd (f 1).b) (Wd (f 1).c) (Wd (f 1).d) (Wd (f 2).a) (Wd (f 2).b) (Wd (f 2).c) (Wd (f 2).d) (Wd (f 3).a) (Wd (f 3).b) (Wd (f 3).c) (Wd (f 3).d) (Wd (f 4).a) (Wd (f 4).b) (Wd (f 4).c) (Wd (f 4).d) (Wd (f 5).a) (Wd (f 5).b) (Wd (f 5).c) (Wd (f 5).d) (Wd (f 6).a) (Wd (f 6).b) (Wd (f 6).c) (Wd (f 6).d) (Wd (f 7).a) (Wd (f 7).b) (Wd (f 7).c) (Wd (f 7).d) 0 = some (.inl (T32 (upd f i (L.foldl (fun u t => putc u (gt l t)) (f i))))) := by
 have upd2 : ∀ (u v : W4), upd (upd f i u) i v = upd f i v := fun u v => by funext j; unfold upd; split <;> rfl
 have updi : ∀ (u : W4), upd f i u i = u := fun u => by unfold upd; rw [if_pos rfl]
 have upds : upd f i (f i) = f := by funext j; unfold upd; split <;> simp_all
 have key : ∀ (q : Nat) (p : Int), 0 ≤ p → (L.length : Int) - p = q → ∀ u : W4, iter (fun t_ : Int × Int × Int × Int × Int × Int × Int × Int × Int × Int × Int × Int × Int × Int × Int × Int × Int × Int × Int × Int × Int × Int × Int × Int × Int × Int × Int × Int × Int × Int × Int × Int × Int => Q16.l1b l i L t_.1 t_.2.1 t_.2.2.1 t_.2.2.2.1 t_.2.2.2.2.1 t_.2.2.2.2.2.1 t_.2.2.2.2.2.2.1 t_.2.2.2.2.2.2.2.1 (d8 t_).1 (d8 t_).2.1 (d8 t_).2.2.1 (d8 t_).2.2.2.1 (d8 t_).2.2.2.2.1 (d8 t_).2.2.2.2.2.1 (d8 t_).2.2.2.2.2.2.1 (d8 t_).2.2.2.2.2.2.2.1 (d8 (d8 t_)).1 (d8 (d8 t_)).2.1 (d8 (d8 t_)).2.2.1 (d8 (d8 t_)).2.2.2.1 (d8 (d8 t_)).2.2.2.2.1 (d8 (d8 t_)).2.2.2.2.2.1 (d8 (d8 t_)).2.2.2.2.2.2.1 (d8 (d8 t_)).2.2.2.2.2.2.2.1 (d8 (d8 (d8 t_))).1 (d8 (d8 (d8 t_))).2.1 (d8 (d8 (d8 t_))).2.2.1 (d8 (d8 (d8 t_))).2.2.2.1 (d8 (d8 (d8 t_))).2.2.2.2.1 (d8 (d8 (d8 t_))).2.2.2.2.2.1 (d8 (d8 (d8 t_))).2.2.2.2.2.2.1 (d8 (d8 (d8 t_))).2.2.2.2.2.2.2.1 (d8 (d8 (d8 (d8 t_))))) (T33 (upd f i u) p) = some (.inl (T32 (upd f i ((L.drop p.toNat).foldl (fun u t => putc u (gt l t)) u)))) := fun q => by
  induction q with
  | zero =>
   intro p p0 pq u
   have hn : ¬ p < (L.length : Int) := by omega
   have hb : Q16.l1b l i L (Wd (upd f i u 0).a) (Wd (upd f i u 0).b) (Wd (upd f i u 0).c) (Wd (upd f i u 0).d) (Wd (upd f i u 1).a) (Wd (upd f i u 1).b) (Wd (upd f i u 1).c) (Wd (upd f i u 1).d) (Wd (upd f i u 2).a) (Wd (upd f i u 2).b) (Wd (upd f i u 2).c) (Wd (upd f i u 2).d) (Wd (upd f i u 3).a) (Wd (upd f i u 3).b) (Wd (upd f i u 3).c) (Wd (upd f i u 3).d) (Wd (upd f i u 4).a) (Wd (upd f i u 4).b) (Wd (upd f i u 4).c) (Wd (upd f i u 4).d) (Wd (upd f i u 5).a) (Wd (upd f i u 5).b) (Wd (upd f i u 5).c) (Wd (upd f i u 5).d) (Wd (upd f i u 6).a) (Wd (upd f i u 6).b) (Wd (upd f i u 6).c) (Wd (upd f i u 6).d) (Wd (upd f i u 7).a) (Wd (upd f i u 7).b) (Wd (upd f i u 7).c) (Wd (upd f i u 7).d) p = some (.inr (.inl (T32 (upd f i u)))) := by
    unfold Q16.l1b
    rw [if_neg hn]
    rfl
   rw [List.drop_of_length_le (by omega)]
   exact Q127 (body := fun t_ : Int × Int × Int × Int × Int × Int × Int × Int × Int × Int × Int × Int × Int × Int × Int × Int × Int × Int × Int × Int × Int × Int × Int × Int × Int × Int × Int × Int × Int × Int × Int × Int × Int => Q16.l1b l i L t_.1 t_.2.1 t_.2.2.1 t_.2.2.2.1 t_.2.2.2.2.1 t_.2.2.2.2.2.1 t_.2.2.2.2.2.2.1 t_.2.2.2.2.2.2.2.1 (d8 t_).1 (d8 t_).2.1 (d8 t_).2.2.1 (d8 t_).2.2.2.1 (d8 t_).2.2.2.2.1 (d8 t_).2.2.2.2.2.1 (d8 t_).2.2.2.2.2.2.1 (d8 t_).2.2.2.2.2.2.2.1 (d8 (d8 t_)).1 (d8 (d8 t_)).2.1 (d8 (d8 t_)).2.2.1 (d8 (d8 t_)).2.2.2.1 (d8 (d8 t_)).2.2.2.2.1 (d8 (d8 t_)).2.2.2.2.2.1 (d8 (d8 t_)).2.2.2.2.2.2.1 (d8 (d8 t_)).2.2.2.2.2.2.2.1 (d8 (d8 (d8 t_))).1 (d8 (d8 (d8 t_))).2.1 (d8 (d8 (d8 t_))).2.2.1 (d8 (d8 (d8 t_))).2.2.2.1 (d8 (d8 (d8 t_))).2.2.2.2.1 (d8 (d8 (d8 t_))).2.2.2.2.2.1 (d8 (d8 (d8 t_))).2.2.2.2.2.2.1 (d8 (d8 (d8 t_))).2.2.2.2.2.2.2.1 (d8 (d8 (d8 (d8 t_))))) hb
  | succ q ih =>
   intro p p0 pq u
   have hp : p < (L.length : Int) := by omega
   have hm := hin _ (Q80 p0 hp)
   have hb := sg_l1b l h0 h1 L (upd f i u) p0 hp hL hm.1 hm.2
   rw [updi, upd2] at hb
   rw [Q129 (body := fun t_ : Int × Int × Int × Int × Int × Int × Int × Int × Int × Int × Int × Int × Int × Int × Int × Int × Int × Int × Int × Int × Int × Int × Int × Int × Int × Int × Int × Int × Int × Int × Int × Int × Int => Q16.l1b l i L t_.1 t_.2.1 t_.2.2.1 t_.2.2.2.1 t_.2.2.2.2.1 t_.2.2.2.2.2.1 t_.2.2.2.2.2.2.1 t_.2.2.2.2.2.2.2.1 (d8 t_).1 (d8 t_).2.1 (d8 t_).2.2.1 (d8 t_).2.2.2.1 (d8 t_).2.2.2.2.1 (d8 t_).2.2.2.2.2.1 (d8 t_).2.2.2.2.2.2.1 (d8 t_).2.2.2.2.2.2.2.1 (d8 (d8 t_)).1 (d8 (d8 t_)).2.1 (d8 (d8 t_)).2.2.1 (d8 (d8 t_)).2.2.2.1 (d8 (d8 t_)).2.2.2.2.1 (d8 (d8 t_)).2.2.2.2.2.1 (d8 (d8 t_)).2.2.2.2.2.2.1 (d8 (d8 t_)).2.2.2.2.2.2.2.1 (d8 (d8 (d8 t_))).1 (d8 (d8 (d8 t_))).2.1 (d8 (d8 (d8 t_))).2.2.1 (d8 (d8 (d8 t_))).2.2.2.1 (d8 (d8 (d8 t_))).2.2.2.2.1 (d8 (d8 (d8 t_))).2.2.2.2.2.1 (d8 (d8 (d8 t_))).2.2.2.2.2.2.1 (d8 (d8 (d8 t_))).2.2.2.2.2.2.2.1 (d8 (d8 (d8 (d8 t_))))) (s := T33 (upd f i u) p) (s' := T33 (upd f i (putc u (gt l (gt L p)))) (p + 1)) hb]
   have := ih (p + 1) (by omega) (by omega) (putc u (gt l (gt L p)))
   have hd : L.drop p.toNat = gt L p :: L.drop (p + 1).toNat := by
    rw [show (p + 1).toNat = p.toNat + 1 from by omega]
    have h2 := List.drop_eq_getElem_cons (l := L) (i := p.toNat) (by omega)
    rw [h2]
    congr 1
    have h3 := Q69 p0 hp
    rw [List.getElem?_eq_getElem (by omega)] at h3
    exact Option.some.inj h3
   rw [hd, List.foldl_cons]
   exact this
 have := key L.length 0 (by decide) (by omega) (f i)
 rw [upds] at this
 exact this
end Go.Bw
