/- Walks: what the functions of the program compute, told by plain functions, and that the calls come to them. Conditions: none. -/
import Derived.Test.YtbkooifhcekpmaaGreatBwTyx
import Derived.Test.YtbkooifhcekpmaaGreatProg
import Derived.Test.YtbkooifhcekpmaaGreatBwLay
import Derived.Test.YtbkooifhcekpmaaGreatBwSortK
import Derived.Deep.QuietTactic
import Derived.Test.YtbkooifhcekpmaaGreatBwRi3A
import Derived.Test.YtbkooifhcekpmaaGreatBwNew
import Derived.Test.YtbkooifhcekpmaaGreatBwParA
import Derived.Test.YtbkooifhcekpmaaGreatBwPar
import Derived.Test.YtbkooifhcekpmaaGreatBwKeys
import Derived.Test.YtbkooifhcekpmaaGreatBwMap
import Derived.Test.YtbkooifhcekpmaaGreatBwGrow
import Derived.Test.YtbkooifhcekpmaaGreatBwIter
import Derived.Test.YtbkooifhcekpmaaGreatBwStr
import Derived.Test.YtbkooifhcekpmaaGreatBwEqs
import Derived.Test.YtbkooifhcekpmaaGreatBwAgg
set_option linter.unusedVariables false
set_option linter.unusedSimpArgs false
set_option linter.unusedSectionVars false
namespace Go.Bw
open Go Go.RowKit Go.Proofs
noncomputable def lts_Table_States.f (a0_0 : Int) (a0_1 : List (Bs × sets_Set)) (a0_2 : List (lts_edges × sets_Set)) : Option Int :=
 some a0_0
theorem lts_Table_States.callee : Callee Go.Proofs.Tryz.prog 18 := ⟨_, Go.Proofs.Tryz.func18, by kernel_rfl, by kernel_rfl⟩
set_option maxRecDepth 100000 in
set_option maxHeartbeats 2000000 in
theorem lts_Table_States.spec (R : Res) (Fr : List HProp) (b0 : Nat) (b0_1 : Nat) (b0_2 : Nat) (a0_0 : Int) (a0_1 : List (Bs × sets_Set)) (a0_2 : List (lts_edges × sets_Set))  {r : Int} (hrun : lts_Table_States.f a0_0 a0_1 a0_2 = some r) :
    Spec Go.Proofs.Tryz.prog 18 [.pointer (some ⟨b0, 0, none⟩)] R (pt b0 (.cells [.int .i64 a0_0, .map (some b0_1), .map (some b0_2)].toArray 74) :: mapo Fl.bs.ov sets_Set.fl.av b0_1 a0_1 :: mapo lts_edges.fl.av sets_Set.fl.av b0_2 a0_2 :: Fr) (fun v l' => v = .int .i64 r ∧ pt b0 (.cells [.int .i64 a0_0, .map (some b0_1), .map (some b0_2)].toArray 74) :: mapo Fl.bs.ov sets_Set.fl.av b0_1 a0_1 :: mapo lts_edges.fl.av sets_Set.fl.av b0_2 a0_2 :: Fr = l') := by
  refine Spec.of Go.Proofs.Tryz.func18 rfl rfl ?_; unfold lts_Table_States.f at hrun; have hrun := brun hrun; refine At.seq ?_; refine At.region ?_; refine At.run 1 rfl ?_; refine At.nil ?_; refine At.thn ?_; refine At.seq ?_; refine At.region ?_; refine At.run 3 rfl ?_; refine At.y (Y.load rfl rfl .z rfl rfl rfl) rfl rfl rfl ?_; refine At.run 1 rfl ?_; refine At.nil ?_; refine At.thn ?_; refine At.ret ?_; obtain rfl := (bret hrun).symm; exact At.res (.inl rfl) rfl rfl ⟨rfl, rfl⟩

noncomputable def lts_Table_Next.f (a0_0 : Int) (a0_1 : List (Bs × sets_Set)) (a0_2 : List (lts_edges × sets_Set)) (a1 : Int) (a2 : Bs) : Option (Int × Int × Int × Int) :=
 some (((mget a0_2 (⟨a1, a2⟩ : lts_edges)).getD (⟨(0 : Int), (0 : Int), (0 : Int), (0 : Int)⟩ : sets_Set)).c0, ((mget a0_2 (⟨a1, a2⟩ : lts_edges)).getD (⟨(0 : Int), (0 : Int), (0 : Int), (0 : Int)⟩ : sets_Set)).c1, ((mget a0_2 (⟨a1, a2⟩ : lts_edges)).getD (⟨(0 : Int), (0 : Int), (0 : Int), (0 : Int)⟩ : sets_Set)).c2, ((mget a0_2 (⟨a1, a2⟩ : lts_edges)).getD (⟨(0 : Int), (0 : Int), (0 : Int), (0 : Int)⟩ : sets_Set)).c3)
theorem lts_Table_Next.callee : Callee Go.Proofs.Tryz.prog 14 := ⟨_, Go.Proofs.Tryz.func14, by kernel_rfl, by kernel_rfl⟩
set_option maxRecDepth 100000 in
set_option maxHeartbeats 2000000 in
theorem lts_Table_Next.spec (R : Res) (Fr : List HProp) (b0 : Nat) (b0_1 : Nat) (b0_2 : Nat) (a0_0 : Int) (a0_1 : List (Bs × sets_Set)) (a0_2 : List (lts_edges × sets_Set)) (a1 : Int) (a2 : Bs)  {r : Int × Int × Int × Int} (hrun : lts_Table_Next.f a0_0 a0_1 a0_2 a1 a2 = some r) :
    Spec Go.Proofs.Tryz.prog 14 [.pointer (some ⟨b0, 0, none⟩), .int .i64 a1, .string ⟨(a2).toArray⟩] R (pt b0 (.cells [.int .i64 a0_0, .map (some b0_1), .map (some b0_2)].toArray 74) :: mapo Fl.bs.ov sets_Set.fl.av b0_1 a0_1 :: mapo lts_edges.fl.av sets_Set.fl.av b0_2 a0_2 :: Fr) (fun v l' => v = .agg #[.int .u64 r.1, .int .u64 r.2.1, .int .u64 r.2.2.1, .int .u64 r.2.2.2] ∧ pt b0 (.cells [.int .i64 a0_0, .map (some b0_1), .map (some b0_2)].toArray 74) :: mapo Fl.bs.ov sets_Set.fl.av b0_1 a0_1 :: mapo lts_edges.fl.av sets_Set.fl.av b0_2 a0_2 :: Fr = l') := by
  refine Spec.of Go.Proofs.Tryz.func14 rfl rfl ?_; unfold lts_Table_Next.f at hrun; have hrun := brun hrun; refine At.seq ?_; refine At.region ?_; refine At.alloc rfl rfl rfl (fun b256 => ?_); refine At.nil ?_; refine At.thn ?_; refine At.seq ?_; refine At.region ?_; refine At.run 3 rfl ?_; refine At.y (Y.load rfl rfl (.s .z) rfl rfl rfl) rfl rfl rfl ?_; refine At.run 2 rfl ?_; refine At.y (Y.build (is := [0, 1]) (xo := [.tmp 11, .tmp 12]) (vs := [.int .i64 a1, .string ⟨(a2).toArray⟩]) (cs := [.int .i64 a1, .string ⟨(a2).toArray⟩]) rfl rfl rfl rfl rfl rfl) rfl rfl rfl ?_; refine At.y (Y.lookup (k := (⟨a1, a2⟩ : lts_edges)) (z := (⟨(0 : Int), (0 : Int), (0 : Int), (0 : Int)⟩ : sets_Set)) (.s (.s (.s .z))) rfl rfl lts_edges.keyok (by kernel_rfl) rfl rfl rfl) rfl rfl rfl ?_; refine At.store rfl rfl rfl rfl .z rfl rfl rfl (.c (.c (.c (.c .n)))) ?_; refine At.nil ?_; refine At.thn ?_; refine At.ret ?_; refine At.resM (.inl rfl) rfl (RV.cell rfl rfl .z rfl rfl rfl RV.nil) ?_; refine At.drop .z ?_; obtain rfl := (bret hrun).symm; exact fun a w e hs => ⟨_, ⟨rfl, rfl⟩, hs⟩

noncomputable def lts_Table_Holds.f (a0_0 : Int) (a0_1 : List (Bs × sets_Set)) (a0_2 : List (lts_edges × sets_Set)) (a1 : Bs) : Option (Int × Int × Int × Int) :=
 some (((mget a0_1 a1).getD (⟨(0 : Int), (0 : Int), (0 : Int), (0 : Int)⟩ : sets_Set)).c0, ((mget a0_1 a1).getD (⟨(0 : Int), (0 : Int), (0 : Int), (0 : Int)⟩ : sets_Set)).c1, ((mget a0_1 a1).getD (⟨(0 : Int), (0 : Int), (0 : Int), (0 : Int)⟩ : sets_Set)).c2, ((mget a0_1 a1).getD (⟨(0 : Int), (0 : Int), (0 : Int), (0 : Int)⟩ : sets_Set)).c3)
theorem lts_Table_Holds.callee : Callee Go.Proofs.Tryz.prog 12 := ⟨_, Go.Proofs.Tryz.func12, by kernel_rfl, by kernel_rfl⟩
set_option maxRecDepth 100000 in
set_option maxHeartbeats 2000000 in
theorem lts_Table_Holds.spec (R : Res) (Fr : List HProp) (b0 : Nat) (b0_1 : Nat) (b0_2 : Nat) (a0_0 : Int) (a0_1 : List (Bs × sets_Set)) (a0_2 : List (lts_edges × sets_Set)) (a1 : Bs)  {r : Int × Int × Int × Int} (hrun : lts_Table_Holds.f a0_0 a0_1 a0_2 a1 = some r) :
    Spec Go.Proofs.Tryz.prog 12 [.pointer (some ⟨b0, 0, none⟩), .string ⟨(a1).toArray⟩] R (pt b0 (.cells [.int .i64 a0_0, .map (some b0_1), .map (some b0_2)].toArray 74) :: mapo Fl.bs.ov sets_Set.fl.av b0_1 a0_1 :: mapo lts_edges.fl.av sets_Set.fl.av b0_2 a0_2 :: Fr) (fun v l' => v = .agg #[.int .u64 r.1, .int .u64 r.2.1, .int .u64 r.2.2.1, .int .u64 r.2.2.2] ∧ pt b0 (.cells [.int .i64 a0_0, .map (some b0_1), .map (some b0_2)].toArray 74) :: mapo Fl.bs.ov sets_Set.fl.av b0_1 a0_1 :: mapo lts_edges.fl.av sets_Set.fl.av b0_2 a0_2 :: Fr = l') := by
  refine Spec.of Go.Proofs.Tryz.func12 rfl rfl ?_; unfold lts_Table_Holds.f at hrun; have hrun := brun hrun; refine At.seq ?_; refine At.region ?_; refine At.alloc rfl rfl rfl (fun b256 => ?_); refine At.nil ?_; refine At.thn ?_; refine At.seq ?_; refine At.region ?_; refine At.run 3 rfl ?_; refine At.y (Y.load rfl rfl (.s .z) rfl rfl rfl) rfl rfl rfl ?_; refine At.run 1 rfl ?_; refine At.y (Y.lookup (k := a1) (z := (⟨(0 : Int), (0 : Int), (0 : Int), (0 : Int)⟩ : sets_Set)) (.s (.s .z)) rfl rfl (KeyOk.str rfl rfl) (by kernel_rfl) rfl rfl rfl) rfl rfl rfl ?_; refine At.store rfl rfl rfl rfl .z rfl rfl rfl (.c (.c (.c (.c .n)))) ?_; refine At.nil ?_; refine At.thn ?_; refine At.ret ?_; refine At.resM (.inl rfl) rfl (RV.cell rfl rfl .z rfl rfl rfl RV.nil) ?_; refine At.drop .z ?_; obtain rfl := (bret hrun).symm; exact fun a w e hs => ⟨_, ⟨rfl, rfl⟩, hs⟩

noncomputable def bailifflaw03_shown.f  : Option Bool :=
 (lts_Parse.f ([115, 116, 97, 116, 101, 115, 32, 50, 10, 101, 100, 103, 101, 32, 49, 32, 97, 32, 48, 10, 109, 97, 114, 107, 32, 112, 32, 49, 10] : Bs)).bind fun t271 =>
 (lts_New.f t271.2.2.2.2 t271.2.1 t271.2.2.1 t271.2.2.2.1).bind fun t309 =>
 jn (
 if t271.1.isNone = true then
 some (.inl t309.isNone)
 else
 some (.inl true)) (fun (x513 : Bool) =>
 if x513 = true then
 some false
 else
 if t309.isNone = false then
 (lts_Table_States.f ((t309.getD default).states) ((t309.getD default).holds) ((t309.getD default).next)).bind fun t530 =>
 jn (
 if t530 = 2 then
 (lts_Table_Next.f ((t309.getD default).states) ((t309.getD default).holds) ((t309.getD default).next) 1 ([97] : Bs)).bind fun t946 =>
 some (.inl (decide (t946.1 = 1) && (decide (t946.2.1 = 0) && (decide (t946.2.2.1 = 0) && (decide (t946.2.2.2 = 0) && true)))))
 else
 some (.inl false)) (fun (x732 : Bool) =>
 jn (
 if x732 = true then
 (lts_Table_Holds.f ((t309.getD default).states) ((t309.getD default).holds) ((t309.getD default).next) ([112] : Bs)).bind fun t943 =>
 some (.inl (decide (t943.1 = 2) && (decide (t943.2.1 = 0) && (decide (t943.2.2.1 = 0) && (decide (t943.2.2.2 = 0) && true)))))
 else
 some (.inl false)) (fun (x937 : Bool) =>
 some x937))
 else none)
theorem bailifflaw03_shown.callee : Callee Go.Proofs.Tryz.prog 6 := ⟨_, Go.Proofs.Tryz.func6, by kernel_rfl, by kernel_rfl⟩
set_option maxRecDepth 100000 in
set_option maxHeartbeats 2000000 in
theorem bailifflaw03_shown.spec (R : Res) (Fr : List HProp)    {r : Bool} (hrun : bailifflaw03_shown.f  = some r) :
    Spec Go.Proofs.Tryz.prog 6 [] R (Fr) (fun v l' => v = .bool r ∧ Fr = l') := by
  refine Spec.of Go.Proofs.Tryz.func6 rfl rfl ?_; unfold bailifflaw03_shown.f at hrun; have hrun := brun hrun; refine At.seq ?_; refine At.region ?_; refine At.run 1 rfl ?_; refine At.nil ?_; refine At.thn ?_; refine At.seq ?_; refine At.region ?_; obtain ⟨t271, hc272, hrun⟩ := bbind hrun; refine At.call rfl lts_Parse.callee rfl rfl rfl (lts_Parse.spec _ _  ([115, 116, 97, 116, 101, 115, 32, 50, 10, 101, 100, 103, 101, 32, 49, 32, 97, 32, 48, 10, 109, 97, 114, 107, 32, 112, 32, 49, 10] : Bs)  hc272) ?_; rintro _ _ ⟨w273, w274, w275, w276, w277, w278, w279, w280, w281, w282, rfl, rfl, rfl, rfl, rfl⟩; refine At.run 3 rfl ?_; refine At.alloc rfl rfl rfl (fun b290 => ?_); refine At.store rfl rfl rfl rfl .z rfl rfl rfl (.c (.c (.c (.c .n)))) ?_; refine At.run 1 rfl ?_; refine At.nil ?_; refine At.thn ?_; refine At.seq ?_; refine At.region ?_; refine At.y (Y.load rfl rfl .z rfl rfl rfl) rfl rfl rfl ?_; refine At.freeze (.s .z) fun R291 hr292 hn293 hc294 hs295 th296 => ?_; refine At.freeze (.s .z) fun R297 hr298 hn299 hc300 hs301 th302 => ?_; refine At.freezeGrow (.s .z) fun R303 hr304 hn305 hc306 hs307 th308 => ?_; obtain ⟨t309, hc310, hrun⟩ := bbind hrun; refine At.call rfl lts_New.callee rfl rfl rfl (lts_New.spec _ _ w275 t271.2.1.length w276 w278 t271.2.2.1.length w279 w281 t271.2.2.2.1.length w282 t271.2.2.2.2 t271.2.1 t271.2.2.1 t271.2.2.2.1 (RdS.mono (hs301.trans hs307) hr292) hn293 hc294 (RdS.mono hs307 hr298) hn299 hc300 hr304 hn305 hc306 hc310) ?_; rintro _ _ ⟨w311, rfl, rfl⟩; refine At.run 1 rfl ?_; refine At.nil ?_; refine At.thn ?_; refine At.seq ?_; refine At.seq ?_; refine At.region ?_; refine At.run 1 rfl ?_; refine At.y (Y.neOptI (.s (.s .z)) rfl rfl rfl) rfl rfl rfl ?_; refine At.run 1 rfl ?_; obtain ⟨G514, hl515, hr516, hrun⟩ := bjoin hrun; refine At.joinO 3 (X := Bool) (fun x513 => [(3, optp w311), (15, .bool x513)]) (fun x513 => optb lts_Table.ow 74 w311 t309 :: pt b290 (.cells [.int .i64 t271.2.2.2.2, .slice w275 t271.2.1.length w276, .slice w278 t271.2.2.1.length w279, .slice w281 t271.2.2.2.1.length w282].toArray 26) :: optb (Ow.fl api_Fault.fl) 105 w273 t271.1 :: Fr) (fun x513 => G514 (.inl x513) = some r) ?_ (fun J517 => ?_)
  · rintro x513 hrun; have hrun := (hl515 _).symm.trans hrun
    · refine At.nil ?_; refine At.thn ?_; rcases bite hrun with ⟨h518, hrun⟩ | ⟨h518, hrun⟩
      · · refine At.condT rfl h518 ?_
          refine At.seq ?_; refine At.region ?_; refine At.run 1 rfl ?_; refine At.nil ?_; refine At.thn ?_; refine At.ret ?_; refine At.thr ?_; refine At.thaw th308 ?_; refine At.thaw th302 ?_; refine At.thaw th296 ?_; refine At.drop .z ?_; refine At.drop .z ?_; refine At.drop .z ?_; refine At.drop .z ?_; refine At.drop .z ?_; refine At.drop .z ?_; obtain rfl := (bret hrun).symm; exact At.res (.inl rfl) rfl rfl ⟨rfl, rfl⟩
      · · refine At.condF rfl (bn h518) ?_
          refine At.skip ?_; refine At.thn ?_; refine At.seq ?_; refine At.region ?_; refine At.run 1 rfl ?_; obtain ⟨h519, hrun⟩ := bnone hrun; refine At.optOpen .z h519 (fun b520 hb521 cs522 => ?_); have hq523 := hrun; subst hb521; have hrun := hq523; refine At.ownPair (T := Ow.fl (Fl.int .i64)) (U := ((Ow.mp Fl.bs.ov sets_Set.fl.av).pair (Ow.mp lts_edges.fl.av sets_Set.fl.av))) (x := ((t309.getD default).states, (t309.getD default).holds, (t309.getD default).next)) (.s .z) ?_; rintro cs524 cs525 rfl; refine At.ownFl (F := (Fl.int .i64)) (x := (t309.getD default).states) .z ?_; rintro rfl; refine At.ownPair (T := Ow.mp Fl.bs.ov sets_Set.fl.av) (U := (Ow.mp lts_edges.fl.av sets_Set.fl.av)) (x := ((t309.getD default).holds, (t309.getD default).next)) .z ?_; rintro cs526 cs527 rfl; refine At.ownMp (kv := Fl.bs.ov) (vv := sets_Set.fl.av) (kvs := (t309.getD default).holds) .z ?_; rintro b528 rfl; refine At.ownMp (kv := lts_edges.fl.av) (vv := sets_Set.fl.av) (kvs := (t309.getD default).next) (.s .z) ?_; rintro b529 rfl; refine At.frt (.s .z) ?_; refine At.frt (.s (.s .z)) ?_; obtain ⟨t530, hc531, hrun⟩ := bbind hrun; refine At.call rfl lts_Table_States.callee rfl rfl rfl (lts_Table_States.spec _ _ b520 b528 b529 ((t309.getD default).states) ((t309.getD default).holds) ((t309.getD default).next)  hc531) ?_; rintro _ _ ⟨rfl, rfl⟩; refine At.run 2 rfl ?_; obtain ⟨G733, hl734, hr735, hrun⟩ := bjoin hrun; refine At.joinO 5 (X := Bool) (fun x732 => [(3, .pointer (some ⟨b520, 0, none⟩)), (24, .bool x732)]) (fun x732 => pt b520 (.cells [.int .i64 ((t309.getD default).states), .map (some b528), .map (some b529)].toArray 74) :: mapo Fl.bs.ov sets_Set.fl.av b528 ((t309.getD default).holds) :: mapo lts_edges.fl.av sets_Set.fl.av b529 ((t309.getD default).next) :: pt b290 (.cells [.int .i64 t271.2.2.2.2, .slice w275 t271.2.1.length w276, .slice w278 t271.2.2.1.length w279, .slice w281 t271.2.2.2.1.length w282].toArray 26) :: optb (Ow.fl api_Fault.fl) 105 w273 t271.1 :: Fr) (fun x732 => G733 (.inl x732) = some r) ?_ (fun J736 => ?_)
          · rintro x732 hrun; have hrun := (hl734 _).symm.trans hrun
            · refine At.run 1 rfl ?_; obtain ⟨G938, hl939, hr940, hrun⟩ := bjoin hrun; refine At.joinO 5 (X := Bool) (fun x937 => [(30, .bool x937)]) (fun x937 => pt b520 (.cells [.int .i64 ((t309.getD default).states), .map (some b528), .map (some b529)].toArray 74) :: mapo Fl.bs.ov sets_Set.fl.av b528 ((t309.getD default).holds) :: mapo lts_edges.fl.av sets_Set.fl.av b529 ((t309.getD default).next) :: pt b290 (.cells [.int .i64 t271.2.2.2.2, .slice w275 t271.2.1.length w276, .slice w278 t271.2.2.1.length w279, .slice w281 t271.2.2.2.1.length w282].toArray 26) :: optb (Ow.fl api_Fault.fl) 105 w273 t271.1 :: Fr) (fun x937 => G938 (.inl x937) = some r) ?_ (fun J941 => ?_)
              · rintro x937 hrun; have hrun := (hl939 _).symm.trans hrun
                · refine At.run 1 rfl ?_; refine At.nil ?_; refine At.thn ?_; refine At.ret ?_; refine At.thaw th308 ?_; refine At.thaw th302 ?_; refine At.thaw th296 ?_; refine At.drop .z ?_; refine At.drop .z ?_; refine At.drop .z ?_; refine At.drop .z ?_; refine At.drop .z ?_; refine At.drop .z ?_; refine At.drop .z ?_; refine At.drop .z ?_; obtain rfl := (bret hrun).symm; exact At.res (.inl rfl) rfl rfl ⟨rfl, rfl⟩
              · · rcases bite hrun with ⟨h942, hrun⟩ | ⟨h942, hrun⟩
                  · · refine At.know (t := 25) rfl h942 ?_
                      refine At.run 1 rfl ?_; obtain ⟨t943, hc944, hrun⟩ := bbind hrun; refine At.call rfl lts_Table_Holds.callee rfl rfl rfl (lts_Table_Holds.spec _ _ b520 b528 b529 ((t309.getD default).states) ((t309.getD default).holds) ((t309.getD default).next) ([112] : Bs)  hc944) ?_; rintro _ _ ⟨rfl, rfl⟩; refine At.y (Y.buildA (is := [0]) (xo := [.const (.int .u64 2)]) (vs := [.int .u64 2]) (cs := [.int .u64 2, .int .u64 0, .int .u64 0, .int .u64 0]) rfl rfl rfl rfl rfl rfl) rfl rfl rfl ?_; refine At.y (Y.eqAr (xs := [.int .u64 t943.1, .int .u64 t943.2.1, .int .u64 t943.2.2.1, .int .u64 t943.2.2.2]) (ys := [.int .u64 2, .int .u64 0, .int .u64 0, .int .u64 0]) rfl rfl rfl rfl rfl rfl rfl (by kernel_rfl) rfl) rfl rfl rfl ?_; refine At.run 1 rfl ?_; exact At.of (J941 (decide (t943.1 = 2) && (decide (t943.2.1 = 0) && (decide (t943.2.2.1 = 0) && (decide (t943.2.2.2 = 0) && true)))) hrun) ⟨rfl, trivial⟩
                  · · refine At.know (t := 25) rfl (bn h942) ?_
                      refine At.run 5 rfl ?_; exact At.of (J941 false hrun) ⟨rfl, trivial⟩
          · · rcases bite hrun with ⟨h945, hrun⟩ | ⟨h945, hrun⟩
              · · refine At.know (t := 19) rfl (decide_eq_true h945) ?_
                  refine At.run 1 rfl ?_; obtain ⟨t946, hc947, hrun⟩ := bbind hrun; refine At.call rfl lts_Table_Next.callee rfl rfl rfl (lts_Table_Next.spec _ _ b520 b528 b529 ((t309.getD default).states) ((t309.getD default).holds) ((t309.getD default).next) 1 ([97] : Bs)  hc947) ?_; rintro _ _ ⟨rfl, rfl⟩; refine At.y (Y.buildA (is := [0]) (xo := [.const (.int .u64 1)]) (vs := [.int .u64 1]) (cs := [.int .u64 1, .int .u64 0, .int .u64 0, .int .u64 0]) rfl rfl rfl rfl rfl rfl) rfl rfl rfl ?_; refine At.y (Y.eqAr (xs := [.int .u64 t946.1, .int .u64 t946.2.1, .int .u64 t946.2.2.1, .int .u64 t946.2.2.2]) (ys := [.int .u64 1, .int .u64 0, .int .u64 0, .int .u64 0]) rfl rfl rfl rfl rfl rfl rfl (by kernel_rfl) rfl) rfl rfl rfl ?_; refine At.run 1 rfl ?_; exact At.of (J736 (decide (t946.1 = 1) && (decide (t946.2.1 = 0) && (decide (t946.2.2.1 = 0) && (decide (t946.2.2.2 = 0) && true)))) hrun) ⟨rfl, rfl, trivial⟩
              · · refine At.know (t := 19) rfl (decide_eq_false h945) ?_
                  refine At.run 5 rfl ?_; exact At.of (J736 false hrun) ⟨rfl, rfl, trivial⟩
  · · rcases bite hrun with ⟨h948, hrun⟩ | ⟨h948, hrun⟩
      · · refine At.know (t := 12) rfl (nf h948) ?_
          refine At.run 1 rfl ?_; refine At.y (Y.eqOpt .z rfl rfl rfl rfl) rfl rfl rfl ?_; refine At.run 1 rfl ?_; exact At.of (J517 t309.isNone hrun) ⟨rfl, rfl, trivial⟩
      · · refine At.know (t := 12) rfl (nt (bn h948)) ?_
          refine At.run 3 rfl ?_; exact At.of (J517 true hrun) ⟨rfl, rfl, trivial⟩

end Go.Bw
