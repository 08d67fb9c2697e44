/- What the law LtsTables leans on, part 5: words, walks and plain laws. Conditions: none. -/
import Derived.Test.YtbkooifhcekpmaaGreatProg
import Derived.Deep.QuietTactic
import Derived.Test.YtbkooifhcekpmaaGreatBwLtsTablesD
set_option linter.unusedVariables false
set_option linter.unusedSimpArgs false
set_option linter.unusedSectionVars false
namespace Go.Bw
open Go Go.RowKit Go.Proofs
noncomputable def lts_Table_States.f (a0_0 : Int) (a0_1 : List (Bs × sets_Set)) (a0_2 : List (lts_edges × sets_Set)) : Option Int :=
 some a0_0
theorem lts_Table_States.callee : Callee Go.Proofs.Tryz.prog 18 := ⟨_, Go.Proofs.Tryz.func18, by kernel_rfl, by kernel_rfl⟩
set_option maxRecDepth 100000 in
set_option maxHeartbeats 2000000 in
theorem lts_Table_States.spec (R : Res) (Fr : List HProp) (b0 : Nat) (b0_1 : Nat) (b0_2 : Nat) (a0_0 : Int) (a0_1 : List (Bs × sets_Set)) (a0_2 : List (lts_edges × sets_Set))  {r : Int} (hrun : lts_Table_States.f a0_0 a0_1 a0_2 = some r) :
    Spec Go.Proofs.Tryz.prog 18 [.pointer (some ⟨b0, 0, none⟩)] R (pt b0 (.cells [.int .i64 a0_0, .map (some b0_1), .map (some b0_2)].toArray 74) :: mapo Fl.bs.ov sets_Set.fl.av b0_1 a0_1 :: mapo lts_edges.fl.av sets_Set.fl.av b0_2 a0_2 :: Fr) (fun v l' => v = .int .i64 r ∧ pt b0 (.cells [.int .i64 a0_0, .map (some b0_1), .map (some b0_2)].toArray 74) :: mapo Fl.bs.ov sets_Set.fl.av b0_1 a0_1 :: mapo lts_edges.fl.av sets_Set.fl.av b0_2 a0_2 :: Fr = l') := by
  refine Spec.of Go.Proofs.Tryz.func18 rfl rfl ?_; unfold lts_Table_States.f at hrun; have hrun := brun hrun; refine At.seq (At.region (At.run 1 rfl (At.nil (At.thn (At.seq (At.region (At.run 3 rfl ?_))))))); refine At.y (Y.load rfl rfl .z rfl rfl rfl) rfl rfl rfl ?_; refine At.run 1 rfl (At.nil (At.thn (At.ret ?_))); obtain rfl := (bret hrun).symm; exact At.res (.inl rfl) rfl rfl ⟨rfl, rfl⟩

noncomputable def lts_Table_Next.f (a0_0 : Int) (a0_1 : List (Bs × sets_Set)) (a0_2 : List (lts_edges × sets_Set)) (a1 : Int) (a2 : Bs) : Option (Int × Int × Int × Int) :=
 some (((mget a0_2 (⟨a1, a2⟩ : lts_edges)).getD (⟨(0 : Int), (0 : Int), (0 : Int), (0 : Int)⟩ : sets_Set)).c0, ((mget a0_2 (⟨a1, a2⟩ : lts_edges)).getD (⟨(0 : Int), (0 : Int), (0 : Int), (0 : Int)⟩ : sets_Set)).c1, ((mget a0_2 (⟨a1, a2⟩ : lts_edges)).getD (⟨(0 : Int), (0 : Int), (0 : Int), (0 : Int)⟩ : sets_Set)).c2, ((mget a0_2 (⟨a1, a2⟩ : lts_edges)).getD (⟨(0 : Int), (0 : Int), (0 : Int), (0 : Int)⟩ : sets_Set)).c3)
theorem lts_Table_Next.callee : Callee Go.Proofs.Tryz.prog 14 := ⟨_, Go.Proofs.Tryz.func14, by kernel_rfl, by kernel_rfl⟩
set_option maxRecDepth 100000 in
set_option maxHeartbeats 2000000 in
theorem lts_Table_Next.spec (R : Res) (Fr : List HProp) (b0 : Nat) (b0_1 : Nat) (b0_2 : Nat) (a0_0 : Int) (a0_1 : List (Bs × sets_Set)) (a0_2 : List (lts_edges × sets_Set)) (a1 : Int) (a2 : Bs)  {r : Int × Int × Int × Int} (hrun : lts_Table_Next.f a0_0 a0_1 a0_2 a1 a2 = some r) :
    Spec Go.Proofs.Tryz.prog 14 [.pointer (some ⟨b0, 0, none⟩), .int .i64 a1, .string ⟨(a2).toArray⟩] R (pt b0 (.cells [.int .i64 a0_0, .map (some b0_1), .map (some b0_2)].toArray 74) :: mapo Fl.bs.ov sets_Set.fl.av b0_1 a0_1 :: mapo lts_edges.fl.av sets_Set.fl.av b0_2 a0_2 :: Fr) (fun v l' => v = .agg #[.int .u64 r.1, .int .u64 r.2.1, .int .u64 r.2.2.1, .int .u64 r.2.2.2] ∧ pt b0 (.cells [.int .i64 a0_0, .map (some b0_1), .map (some b0_2)].toArray 74) :: mapo Fl.bs.ov sets_Set.fl.av b0_1 a0_1 :: mapo lts_edges.fl.av sets_Set.fl.av b0_2 a0_2 :: Fr = l') := by
  refine Spec.of Go.Proofs.Tryz.func14 rfl rfl ?_; unfold lts_Table_Next.f at hrun; have hrun := brun hrun; refine At.seq (At.region ?_); refine At.alloc rfl rfl rfl (fun b256 => ?_); refine At.nil (At.thn (At.seq (At.region (At.run 3 rfl ?_)))); refine At.y (Y.load rfl rfl (.s .z) rfl rfl rfl) rfl rfl rfl ?_; refine At.run 2 rfl ?_; refine At.y (Y.build (is := [0, 1]) (xo := [.tmp 11, .tmp 12]) (vs := [.int .i64 a1, .string ⟨(a2).toArray⟩]) (cs := [.int .i64 a1, .string ⟨(a2).toArray⟩]) rfl rfl rfl rfl rfl rfl) rfl rfl rfl ?_; refine At.y (Y.lookup (k := (⟨a1, a2⟩ : lts_edges)) (z := (⟨(0 : Int), (0 : Int), (0 : Int), (0 : Int)⟩ : sets_Set)) (.s (.s (.s .z))) rfl rfl lts_edges.keyok (by kernel_rfl) rfl rfl rfl) rfl rfl rfl ?_; refine At.store rfl rfl rfl rfl .z rfl rfl rfl (.c (.c (.c (.c .n)))) ?_; refine At.nil (At.thn (At.ret ?_)); refine At.resM (.inl rfl) rfl (RV.cell rfl rfl .z rfl rfl rfl RV.nil) ?_; refine At.drop .z ?_; obtain rfl := (bret hrun).symm; exact fun a w e hs => ⟨_, ⟨rfl, rfl⟩, hs⟩

noncomputable def lts_Table_Holds.f (a0_0 : Int) (a0_1 : List (Bs × sets_Set)) (a0_2 : List (lts_edges × sets_Set)) (a1 : Bs) : Option (Int × Int × Int × Int) :=
 some (((mget a0_1 a1).getD (⟨(0 : Int), (0 : Int), (0 : Int), (0 : Int)⟩ : sets_Set)).c0, ((mget a0_1 a1).getD (⟨(0 : Int), (0 : Int), (0 : Int), (0 : Int)⟩ : sets_Set)).c1, ((mget a0_1 a1).getD (⟨(0 : Int), (0 : Int), (0 : Int), (0 : Int)⟩ : sets_Set)).c2, ((mget a0_1 a1).getD (⟨(0 : Int), (0 : Int), (0 : Int), (0 : Int)⟩ : sets_Set)).c3)
theorem lts_Table_Holds.callee : Callee Go.Proofs.Tryz.prog 12 := ⟨_, Go.Proofs.Tryz.func12, by kernel_rfl, by kernel_rfl⟩
set_option maxRecDepth 100000 in
set_option maxHeartbeats 2000000 in
theorem lts_Table_Holds.spec (R : Res) (Fr : List HProp) (b0 : Nat) (b0_1 : Nat) (b0_2 : Nat) (a0_0 : Int) (a0_1 : List (Bs × sets_Set)) (a0_2 : List (lts_edges × sets_Set)) (a1 : Bs)  {r : Int × Int × Int × Int} (hrun : lts_Table_Holds.f a0_0 a0_1 a0_2 a1 = some r) :
    Spec Go.Proofs.Tryz.prog 12 [.pointer (some ⟨b0, 0, none⟩), .string ⟨(a1).toArray⟩] R (pt b0 (.cells [.int .i64 a0_0, .map (some b0_1), .map (some b0_2)].toArray 74) :: mapo Fl.bs.ov sets_Set.fl.av b0_1 a0_1 :: mapo lts_edges.fl.av sets_Set.fl.av b0_2 a0_2 :: Fr) (fun v l' => v = .agg #[.int .u64 r.1, .int .u64 r.2.1, .int .u64 r.2.2.1, .int .u64 r.2.2.2] ∧ pt b0 (.cells [.int .i64 a0_0, .map (some b0_1), .map (some b0_2)].toArray 74) :: mapo Fl.bs.ov sets_Set.fl.av b0_1 a0_1 :: mapo lts_edges.fl.av sets_Set.fl.av b0_2 a0_2 :: Fr = l') := by
  refine Spec.of Go.Proofs.Tryz.func12 rfl rfl ?_; unfold lts_Table_Holds.f at hrun; have hrun := brun hrun; refine At.seq (At.region ?_); refine At.alloc rfl rfl rfl (fun b256 => ?_); refine At.nil (At.thn (At.seq (At.region (At.run 3 rfl ?_)))); refine At.y (Y.load rfl rfl (.s .z) rfl rfl rfl) rfl rfl rfl ?_; refine At.run 1 rfl ?_; refine At.y (Y.lookup (k := a1) (z := (⟨(0 : Int), (0 : Int), (0 : Int), (0 : Int)⟩ : sets_Set)) (.s (.s .z)) rfl rfl (KeyOk.str rfl rfl) (by kernel_rfl) rfl rfl rfl) rfl rfl rfl ?_; refine At.store rfl rfl rfl rfl .z rfl rfl rfl (.c (.c (.c (.c .n)))) ?_; refine At.nil (At.thn (At.ret ?_)); refine At.resM (.inl rfl) rfl (RV.cell rfl rfl .z rfl rfl rfl RV.nil) ?_; refine At.drop .z ?_; obtain rfl := (bret hrun).symm; exact fun a w e hs => ⟨_, ⟨rfl, rfl⟩, hs⟩

noncomputable def bailifflaw03_shown.f  : Option Bool :=
 (lts_Parse.f ([115, 116, 97, 116, 101, 115, 32, 50, 10, 101, 100, 103, 101, 32, 49, 32, 97, 32, 48, 10, 109, 97, 114, 107, 32, 112, 32, 49, 10] : Bs)).bind fun t271 =>
 (lts_New.f t271.2.2.2.2 t271.2.1 t271.2.2.1 t271.2.2.2.1).bind fun t309 =>
 jn (
 if t271.1.isNone = true then
 some (.inl t309.isNone)
 else
 some (.inl true)) (fun (x513 : Bool) =>
 if x513 = true then
 some false
 else
 if t309.isNone = false then
 (lts_Table_States.f ((t309.getD default).states) ((t309.getD default).holds) ((t309.getD default).next)).bind fun t530 =>
 jn (
 if t530 = 2 then
 (lts_Table_Next.f ((t309.getD default).states) ((t309.getD default).holds) ((t309.getD default).next) 1 ([97] : Bs)).bind fun t946 =>
 some (.inl (decide (t946.1 = 1) && (decide (t946.2.1 = 0) && (decide (t946.2.2.1 = 0) && (decide (t946.2.2.2 = 0) && true)))))
 else
 some (.inl false)) (fun (x732 : Bool) =>
 jn (
 if x732 = true then
 (lts_Table_Holds.f ((t309.getD default).states) ((t309.getD default).holds) ((t309.getD default).next) ([112] : Bs)).bind fun t943 =>
 some (.inl (decide (t943.1 = 2) && (decide (t943.2.1 = 0) && (decide (t943.2.2.1 = 0) && (decide (t943.2.2.2 = 0) && true)))))
 else
 some (.inl false)) (fun (x937 : Bool) =>
 some x937))
 else none)
theorem bailifflaw03_shown.callee : Callee Go.Proofs.Tryz.prog 6 := ⟨_, Go.Proofs.Tryz.func6, by kernel_rfl, by kernel_rfl⟩
set_option maxRecDepth 100000 in
set_option maxHeartbeats 2000000 in
theorem bailifflaw03_shown.spec (R : Res) (Fr : List HProp)    {r : Bool} (hrun : bailifflaw03_shown.f  = some r) :
    Spec Go.Proofs.Tryz.prog 6 [] R (Fr) (fun v l' => v = .bool r ∧ Fr = l') := by
  refine Spec.of Go.Proofs.Tryz.func6 rfl rfl ?_; unfold bailifflaw03_shown.f at hrun; have hrun := brun hrun; refine At.seq (At.region (At.run 1 rfl (At.nil (At.thn (At.seq (At.region ?_)))))); obtain ⟨t271, hc272, hrun⟩ := bbind hrun; refine At.call rfl lts_Parse.callee rfl rfl rfl (lts_Parse.spec _ _  ([115, 116, 97, 116, 101, 115, 32, 50, 10, 101, 100, 103, 101, 32, 49, 32, 97, 32, 48, 10, 109, 97, 114, 107, 32, 112, 32, 49, 10] : Bs)  hc272) ?_; rintro _ _ ⟨w273, w274, w275, w276, w277, w278, w279, w280, w281, w282, rfl, rfl, rfl, rfl, rfl⟩; refine At.run 3 rfl ?_; refine At.alloc rfl rfl rfl (fun b290 => ?_); refine At.store rfl rfl rfl rfl .z rfl rfl rfl (.c (.c (.c (.c .n)))) ?_; refine At.run 1 rfl (At.nil (At.thn (At.seq (At.region ?_)))); refine At.y (Y.load rfl rfl .z rfl rfl rfl) rfl rfl rfl ?_; refine At.freeze (.s .z) fun R291 hr292 hn293 hc294 hs295 th296 => ?_; refine At.freeze (.s .z) fun R297 hr298 hn299 hc300 hs301 th302 => ?_; refine At.freezeGrow (.s .z) fun R303 hr304 hn305 hc306 hs307 th308 => ?_; obtain ⟨t309, hc310, hrun⟩ := bbind hrun; refine At.call rfl lts_New.callee rfl rfl rfl (lts_New.spec _ _ w275 t271.2.1.length w276 w278 t271.2.2.1.length w279 w281 t271.2.2.2.1.length w282 t271.2.2.2.2 t271.2.1 t271.2.2.1 t271.2.2.2.1 (RdS.mono (hs301.trans hs307) hr292) hn293 hc294 (RdS.mono hs307 hr298) hn299 hc300 hr304 hn305 hc306 hc310) ?_; rintro _ _ ⟨w311, rfl, rfl⟩; refine At.run 1 rfl (At.nil (At.thn (At.seq (At.seq (At.region (At.run 1 rfl ?_)))))); refine At.y (Y.neOptI (.s (.s .z)) rfl rfl rfl) rfl rfl rfl ?_; refine At.run 1 rfl ?_; obtain ⟨G514, hl515, hr516, hrun⟩ := bjoin hrun; refine At.joinO 3 (X := Bool) (fun x513 => [(3, optp w311), (15, .bool x513)]) (fun x513 => optb lts_Table.ow 74 w311 t309 :: pt b290 (.cells [.int .i64 t271.2.2.2.2, .slice w275 t271.2.1.length w276, .slice w278 t271.2.2.1.length w279, .slice w281 t271.2.2.2.1.length w282].toArray 26) :: optb (Ow.fl api_Fault.fl) 105 w273 t271.1 :: Fr) (fun x513 => G514 (.inl x513) = some r) ?_ (fun J517 => ?_)
  · rintro x513 hrun; have hrun := (hl515 _).symm.trans hrun
    · refine At.nil (At.thn ?_); rcases bite hrun with ⟨h518, hrun⟩ | ⟨h518, hrun⟩
      · · refine At.condT rfl h518 ?_
          refine At.seq (At.region (At.run 1 rfl (At.nil (At.thn (At.ret (At.thr ?_)))))); refine At.thaw th308 ?_; refine At.thaw th302 ?_; refine At.thaw th296 ?_; refine At.drop .z (At.drop .z (At.drop .z (At.drop .z (At.drop .z (At.drop .z ?_))))); obtain rfl := (bret hrun).symm; exact At.res (.inl rfl) rfl rfl ⟨rfl, rfl⟩
      · · refine At.condF rfl (bn h518) ?_
          refine At.skip (At.thn (At.seq (At.region (At.run 1 rfl ?_)))); obtain ⟨h519, hrun⟩ := bnone hrun; refine At.optOpen .z h519 (fun b520 hb521 cs522 => ?_); have hq523 := hrun; subst hb521; have hrun := hq523; refine At.ownPair (T := Ow.fl (Fl.int .i64)) (U := ((Ow.mp Fl.bs.ov sets_Set.fl.av).pair (Ow.mp lts_edges.fl.av sets_Set.fl.av))) (x := ((t309.getD default).states, (t309.getD default).holds, (t309.getD default).next)) (.s .z) ?_; rintro cs524 cs525 rfl; refine At.ownFl (F := (Fl.int .i64)) (x := (t309.getD default).states) .z ?_; rintro rfl; refine At.ownPair (T := Ow.mp Fl.bs.ov sets_Set.fl.av) (U := (Ow.mp lts_edges.fl.av sets_Set.fl.av)) (x := ((t309.getD default).holds, (t309.getD default).next)) .z ?_; rintro cs526 cs527 rfl; refine At.ownMp (kv := Fl.bs.ov) (vv := sets_Set.fl.av) (kvs := (t309.getD default).holds) .z ?_; rintro b528 rfl; refine At.ownMp (kv := lts_edges.fl.av) (vv := sets_Set.fl.av) (kvs := (t309.getD default).next) (.s .z) ?_; rintro b529 rfl; refine At.f1 (At.f2 ?_); obtain ⟨t530, hc531, hrun⟩ := bbind hrun; refine At.call rfl lts_Table_States.callee rfl rfl rfl (lts_Table_States.spec _ _ b520 b528 b529 ((t309.getD default).states) ((t309.getD default).holds) ((t309.getD default).next)  hc531) ?_; rintro _ _ ⟨rfl, rfl⟩; refine At.run 2 rfl ?_; obtain ⟨G733, hl734, hr735, hrun⟩ := bjoin hrun; refine At.joinO 5 (X := Bool) (fun x732 => [(3, .pointer (some ⟨b520, 0, none⟩)), (24, .bool x732)]) (fun x732 => pt b520 (.cells [.int .i64 ((t309.getD default).states), .map (some b528), .map (some b529)].toArray 74) :: mapo Fl.bs.ov sets_Set.fl.av b528 ((t309.getD default).holds) :: mapo lts_edges.fl.av sets_Set.fl.av b529 ((t309.getD default).next) :: pt b290 (.cells [.int .i64 t271.2.2.2.2, .slice w275 t271.2.1.length w276, .slice w278 t271.2.2.1.length w279, .slice w281 t271.2.2.2.1.length w282].toArray 26) :: optb (Ow.fl api_Fault.fl) 105 w273 t271.1 :: Fr) (fun x732 => G733 (.inl x732) = some r) ?_ (fun J736 => ?_)
          · rintro x732 hrun; have hrun := (hl734 _).symm.trans hrun
            · refine At.run 1 rfl ?_; obtain ⟨G938, hl939, hr940, hrun⟩ := bjoin hrun; refine At.joinO 5 (X := Bool) (fun x937 => [(30, .bool x937)]) (fun x937 => pt b520 (.cells [.int .i64 ((t309.getD default).states), .map (some b528), .map (some b529)].toArray 74) :: mapo Fl.bs.ov sets_Set.fl.av b528 ((t309.getD default).holds) :: mapo lts_edges.fl.av sets_Set.fl.av b529 ((t309.getD default).next) :: pt b290 (.cells [.int .i64 t271.2.2.2.2, .slice w275 t271.2.1.length w276, .slice w278 t271.2.2.1.length w279, .slice w281 t271.2.2.2.1.length w282].toArray 26) :: optb (Ow.fl api_Fault.fl) 105 w273 t271.1 :: Fr) (fun x937 => G938 (.inl x937) = some r) ?_ (fun J941 => ?_)
              · rintro x937 hrun; have hrun := (hl939 _).symm.trans hrun
                · refine At.run 1 rfl (At.nil (At.thn (At.ret ?_))); refine At.thaw th308 ?_; refine At.thaw th302 ?_; refine At.thaw th296 ?_; refine At.drop .z (At.drop .z (At.drop .z (At.drop .z (At.drop .z (At.drop .z (At.drop .z (At.drop .z ?_))))))); obtain rfl := (bret hrun).symm; exact At.res (.inl rfl) rfl rfl ⟨rfl, rfl⟩
              · · rcases bite hrun with ⟨h942, hrun⟩ | ⟨h942, hrun⟩
                  · · refine At.know (t := 25) rfl h942 ?_
                      refine At.run 1 rfl ?_; obtain ⟨t943, hc944, hrun⟩ := bbind hrun; refine At.call rfl lts_Table_Holds.callee rfl rfl rfl (lts_Table_Holds.spec _ _ b520 b528 b529 ((t309.getD default).states) ((t309.getD default).holds) ((t309.getD default).next) ([112] : Bs)  hc944) ?_; rintro _ _ ⟨rfl, rfl⟩; refine At.y (Y.buildA (is := [0]) (xo := [.const (.int .u64 2)]) (vs := [.int .u64 2]) (cs := [.int .u64 2, .int .u64 0, .int .u64 0, .int .u64 0]) rfl rfl rfl rfl rfl rfl) rfl rfl rfl ?_; refine At.y (Y.eqAr (xs := [.int .u64 t943.1, .int .u64 t943.2.1, .int .u64 t943.2.2.1, .int .u64 t943.2.2.2]) (ys := [.int .u64 2, .int .u64 0, .int .u64 0, .int .u64 0]) rfl rfl rfl rfl rfl rfl rfl (by kernel_rfl) rfl) rfl rfl rfl ?_; refine At.run 1 rfl ?_; exact At.of (J941 (decide (t943.1 = 2) && (decide (t943.2.1 = 0) && (decide (t943.2.2.1 = 0) && (decide (t943.2.2.2 = 0) && true)))) hrun) ⟨rfl, trivial⟩
                  · · refine At.know (t := 25) rfl (bn h942) ?_
                      refine At.run 5 rfl ?_; exact At.of (J941 false hrun) ⟨rfl, trivial⟩
          · · rcases bite hrun with ⟨h945, hrun⟩ | ⟨h945, hrun⟩
              · · refine At.know (t := 19) rfl (decide_eq_true h945) ?_
                  refine At.run 1 rfl ?_; obtain ⟨t946, hc947, hrun⟩ := bbind hrun; refine At.call rfl lts_Table_Next.callee rfl rfl rfl (lts_Table_Next.spec _ _ b520 b528 b529 ((t309.getD default).states) ((t309.getD default).holds) ((t309.getD default).next) 1 ([97] : Bs)  hc947) ?_; rintro _ _ ⟨rfl, rfl⟩; refine At.y (Y.buildA (is := [0]) (xo := [.const (.int .u64 1)]) (vs := [.int .u64 1]) (cs := [.int .u64 1, .int .u64 0, .int .u64 0, .int .u64 0]) rfl rfl rfl rfl rfl rfl) rfl rfl rfl ?_; refine At.y (Y.eqAr (xs := [.int .u64 t946.1, .int .u64 t946.2.1, .int .u64 t946.2.2.1, .int .u64 t946.2.2.2]) (ys := [.int .u64 1, .int .u64 0, .int .u64 0, .int .u64 0]) rfl rfl rfl rfl rfl rfl rfl (by kernel_rfl) rfl) rfl rfl rfl ?_; refine At.run 1 rfl ?_; exact At.of (J736 (decide (t946.1 = 1) && (decide (t946.2.1 = 0) && (decide (t946.2.2.1 = 0) && (decide (t946.2.2.2 = 0) && true)))) hrun) ⟨rfl, rfl, trivial⟩
              · · refine At.know (t := 19) rfl (decide_eq_false h945) ?_
                  refine At.run 5 rfl ?_; exact At.of (J736 false hrun) ⟨rfl, rfl, trivial⟩
  · · rcases bite hrun with ⟨h948, hrun⟩ | ⟨h948, hrun⟩
      · · refine At.know (t := 12) rfl (nf h948) ?_
          refine At.run 1 rfl ?_; refine At.y (Y.eqOpt .z rfl rfl rfl rfl) rfl rfl rfl ?_; refine At.run 1 rfl ?_; exact At.of (J517 t309.isNone hrun) ⟨rfl, rfl, trivial⟩
      · · refine At.know (t := 12) rfl (nt (bn h948)) ?_
          refine At.run 3 rfl ?_; exact At.of (J517 true hrun) ⟨rfl, rfl, trivial⟩

noncomputable def sets_Set_And.f (a0_0 : Int) (a0_1 : Int) (a0_2 : Int) (a0_3 : Int) (a1_0 : Int) (a1_1 : Int) (a1_2 : Int) (a1_3 : Int) : Option (Int × Int × Int × Int) :=
 some (band .u64 a0_0 a1_0, band .u64 a0_1 a1_1, band .u64 a0_2 a1_2, band .u64 a0_3 a1_3)
theorem sets_Set_And.callee : Callee Go.Proofs.Tryz.prog 40 := ⟨_, Go.Proofs.Tryz.func40, by kernel_rfl, by kernel_rfl⟩
set_option maxRecDepth 100000 in
set_option maxHeartbeats 2000000 in
theorem sets_Set_And.spec (R : Res) (Fr : List HProp)  (a0_0 : Int) (a0_1 : Int) (a0_2 : Int) (a0_3 : Int) (a1_0 : Int) (a1_1 : Int) (a1_2 : Int) (a1_3 : Int)  {r : Int × Int × Int × Int} (hrun : sets_Set_And.f a0_0 a0_1 a0_2 a0_3 a1_0 a1_1 a1_2 a1_3 = some r) :
    Spec Go.Proofs.Tryz.prog 40 [.agg #[.int .u64 a0_0, .int .u64 a0_1, .int .u64 a0_2, .int .u64 a0_3], .agg #[.int .u64 a1_0, .int .u64 a1_1, .int .u64 a1_2, .int .u64 a1_3]] R (Fr) (fun v l' => v = .agg #[.int .u64 r.1, .int .u64 r.2.1, .int .u64 r.2.2.1, .int .u64 r.2.2.2] ∧ Fr = l') := by
  refine Spec.of Go.Proofs.Tryz.func40 rfl rfl ?_; unfold sets_Set_And.f at hrun; have hrun := brun hrun; refine At.seq (At.region ?_); refine At.box rfl rfl (cs := [.int .u64 a0_0, .int .u64 a0_1, .int .u64 a0_2, .int .u64 a0_3]) rfl rfl (fun b258 => ?_); refine At.box rfl rfl (cs := [.int .u64 a1_0, .int .u64 a1_1, .int .u64 a1_2, .int .u64 a1_3]) rfl rfl (fun b259 => ?_); refine At.alloc rfl rfl rfl (fun b260 => ?_); refine At.nil (At.thn (At.seq (At.seq (At.region (At.run 1 rfl (At.nil (At.thn ?_))))))); refine At.block ?_; refine At.rounds 5 ?_; refine At.round ?_; refine At.seq (At.region (At.run 1 rfl (At.nil (At.thn (At.seq ?_))))); refine At.condT rfl rfl ?_; refine At.skip (At.thn (At.seq ?_)); refine At.block ?_; refine At.seq (At.region (At.run 2 rfl (At.nil (At.thn ?_)))); refine At.still 8 (by kernel_rfl) ?_; refine At.Still.run 1 rfl ?_; refine At.Still.y (Y.ixArrK rfl rfl rfl rfl rfl (show (0 : Int) ≤ 0 ∧ (0 : Int) < 4 by decide).1 (show (0 : Int) ≤ 0 ∧ (0 : Int) < 4 by decide).2 (q := 0) (off := 0) rfl rfl) rfl rfl rfl ?_; refine At.Still.y (Y.load rfl rfl (.s (.s .z)) rfl rfl rfl) rfl rfl rfl ?_; refine At.Still.run 1 rfl ?_; refine At.Still.y (Y.ixArrK rfl rfl rfl rfl rfl (show (0 : Int) ≤ 0 ∧ (0 : Int) < 4 by decide).1 (show (0 : Int) ≤ 0 ∧ (0 : Int) < 4 by decide).2 (q := 0) (off := 0) rfl rfl) rfl rfl rfl ?_; refine At.Still.y (Y.load rfl rfl (.s .z) rfl rfl rfl) rfl rfl rfl ?_; refine At.Still.run 1 rfl ?_; refine At.Still.y (Y.ixArrK rfl rfl rfl rfl rfl (show (0 : Int) ≤ 0 ∧ (0 : Int) < 4 by decide).1 (show (0 : Int) ≤ 0 ∧ (0 : Int) < 4 by decide).2 (q := 0) (off := 0) rfl rfl) rfl rfl rfl ?_; refine At.Still.nil ?_; refine At.store rfl rfl rfl rfl (.s (.s .z)) rfl rfl rfl (.c .n) ?_; refine At.nil ?_; refine At.ibn ?_; refine At.thn (At.region (At.run 2 rfl (At.nil (At.thn ?_)))); refine At.round ?_; refine At.seq (At.region (At.run 1 rfl (At.nil (At.thn (At.seq ?_))))); refine At.condT rfl rfl ?_; refine At.skip (At.thn (At.seq ?_)); refine At.block ?_; refine At.seq (At.region (At.run 2 rfl (At.nil (At.thn ?_)))); refine At.still 8 (by kernel_rfl) ?_; refine At.Still.run 1 rfl ?_; refine At.Still.y (Y.ixArrK rfl rfl rfl rfl rfl (show (0 : Int) ≤ 1 ∧ (1 : Int) < 4 by decide).1 (show (0 : Int) ≤ 1 ∧ (1 : Int) < 4 by decide).2 (q := 1) (off := 1) rfl rfl) rfl rfl rfl ?_; refine At.Still.y (Y.load rfl rfl .z rfl rfl rfl) rfl rfl rfl ?_; refine At.Still.run 1 rfl ?_; refine At.Still.y (Y.ixArrK rfl rfl rfl rfl rfl (show (0 : Int) ≤ 1 ∧ (1 : Int) < 4 by decide).1 (show (0 : Int) ≤ 1 ∧ (1 : Int) < 4 by decide).2 (q := 1) (off := 1) rfl rfl) rfl rfl rfl ?_; refine At.Still.y (Y.load rfl rfl (.s (.s .z)) rfl rfl rfl) rfl rfl rfl ?_; refine At.Still.run 1 rfl ?_; refine At.Still.y (Y.ixArrK rfl rfl rfl rfl rfl (show (0 : Int) ≤ 1 ∧ (1 : Int) < 4 by decide).1 (show (0 : Int) ≤ 1 ∧ (1 : Int) < 4 by decide).2 (q := 1) (off := 1) rfl rfl) rfl rfl rfl ?_; refine At.Still.nil ?_; refine At.store rfl rfl rfl rfl .z rfl rfl rfl (.s (.c .n)) ?_; refine At.nil ?_; refine At.ibn ?_; refine At.thn (At.region (At.run 2 rfl (At.nil (At.thn ?_)))); refine At.round ?_; refine At.seq (At.region (At.run 1 rfl (At.nil (At.thn (At.seq ?_))))); refine At.condT rfl rfl ?_; refine At.skip (At.thn (At.seq ?_)); refine At.block ?_; refine At.seq (At.region (At.run 2 rfl (At.nil (At.thn ?_)))); refine At.still 8 (by kernel_rfl) ?_; refine At.Still.run 1 rfl ?_; refine At.Still.y (Y.ixArrK rfl rfl rfl rfl rfl (show (0 : Int) ≤ 2 ∧ (2 : Int) < 4 by decide).1 (show (0 : Int) ≤ 2 ∧ (2 : Int) < 4 by decide).2 (q := 2) (off := 2) rfl rfl) rfl rfl rfl ?_; refine At.Still.y (Y.load rfl rfl .z rfl rfl rfl) rfl rfl rfl ?_; refine At.Still.run 1 rfl ?_; refine At.Still.y (Y.ixArrK rfl rfl rfl rfl rfl (show (0 : Int) ≤ 2 ∧ (2 : Int) < 4 by decide).1 (show (0 : Int) ≤ 2 ∧ (2 : Int) < 4 by decide).2 (q := 2) (off := 2) rfl rfl) rfl rfl rfl ?_; refine At.Still.y (Y.load rfl rfl (.s (.s .z)) rfl rfl rfl) rfl rfl rfl ?_; refine At.Still.run 1 rfl ?_; refine At.Still.y (Y.ixArrK rfl rfl rfl rfl rfl (show (0 : Int) ≤ 2 ∧ (2 : Int) < 4 by decide).1 (show (0 : Int) ≤ 2 ∧ (2 : Int) < 4 by decide).2 (q := 2) (off := 2) rfl rfl) rfl rfl rfl ?_; refine At.Still.nil ?_; refine At.store rfl rfl rfl rfl .z rfl rfl rfl (.s (.s (.c .n))) ?_; refine At.nil ?_; refine At.ibn ?_; refine At.thn (At.region (At.run 2 rfl (At.nil (At.thn ?_)))); refine At.round ?_; refine At.seq (At.region (At.run 1 rfl (At.nil (At.thn (At.seq ?_))))); refine At.condT rfl rfl ?_; refine At.skip (At.thn (At.seq ?_)); refine At.block ?_; refine At.seq (At.region (At.run 2 rfl (At.nil (At.thn ?_)))); refine At.still 8 (by kernel_rfl) ?_; refine At.Still.run 1 rfl ?_; refine At.Still.y (Y.ixArrK rfl rfl rfl rfl rfl (show (0 : Int) ≤ 3 ∧ (3 : Int) < 4 by decide).1 (show (0 : Int) ≤ 3 ∧ (3 : Int) < 4 by decide).2 (q := 3) (off := 3) rfl rfl) rfl rfl rfl ?_; refine At.Still.y (Y.load rfl rfl .z rfl rfl rfl) rfl rfl rfl ?_; refine At.Still.run 1 rfl ?_; refine At.Still.y (Y.ixArrK rfl rfl rfl rfl rfl (show (0 : Int) ≤ 3 ∧ (3 : Int) < 4 by decide).1 (show (0 : Int) ≤ 3 ∧ (3 : Int) < 4 by decide).2 (q := 3) (off := 3) rfl rfl) rfl rfl rfl ?_; refine At.Still.y (Y.load rfl rfl (.s (.s .z)) rfl rfl rfl) rfl rfl rfl ?_; refine At.Still.run 1 rfl ?_; refine At.Still.y (Y.ixArrK rfl rfl rfl rfl rfl (show (0 : Int) ≤ 3 ∧ (3 : Int) < 4 by decide).1 (show (0 : Int) ≤ 3 ∧ (3 : Int) < 4 by decide).2 (q := 3) (off := 3) rfl rfl) rfl rfl rfl ?_; refine At.Still.nil ?_; refine At.store rfl rfl rfl rfl .z rfl rfl rfl (.s (.s (.s (.c .n)))) ?_; refine At.nil ?_; refine At.ibn ?_; refine At.thn (At.region (At.run 2 rfl (At.nil (At.thn ?_)))); refine At.round ?_; refine At.seq (At.region (At.run 1 rfl (At.nil (At.thn (At.seq ?_))))); refine At.condF rfl rfl ?_; refine At.exit ?_; refine At.the ?_; refine At.the ?_; refine At.ibx ?_; refine At.thn (At.seq (At.region ?_)); refine At.y (Y.load rfl rfl .z rfl rfl rfl) rfl rfl rfl ?_; refine At.store rfl rfl rfl rfl (.s .z) rfl rfl rfl (.c (.c (.c (.c .n)))) ?_; refine At.nil (At.thn (At.ret ?_)); refine At.resM (.inl rfl) rfl (RV.cell rfl rfl .z rfl rfl rfl RV.nil) ?_; refine At.drop .z (At.drop .z (At.drop .z ?_)); obtain rfl := (bret hrun).symm; exact fun a w e hs => ⟨_, ⟨rfl, rfl⟩, hs⟩

noncomputable def lts_Table_Back.l0b (a0_0 : Int) (a0_2 : List (lts_edges × sets_Set)) (a1_0 : Int) (a1_1 : Int) (a1_2 : Int) (a1_3 : Int) (a2 : Bs) (x874 : Int) (x875 : Int) (x876 : Int) (x877 : Int) (x878 : Int) : Option ((Int × Int × Int × Int × Int) ⊕ ((Int × Int × Int × Int) ⊕ (Int × Int × Int × Int))) :=
 if x878 < a0_0 then
 jn (
 (sets_Set_And.f (((mget a0_2 (⟨x878, a2⟩ : lts_edges)).getD (⟨(0 : Int), (0 : Int), (0 : Int), (0 : Int)⟩ : sets_Set)).c0) (((mget a0_2 (⟨x878, a2⟩ : lts_edges)).getD (⟨(0 : Int), (0 : Int), (0 : Int), (0 : Int)⟩ : sets_Set)).c1) (((mget a0_2 (⟨x878, a2⟩ : lts_edges)).getD (⟨(0 : Int), (0 : Int), (0 : Int), (0 : Int)⟩ : sets_Set)).c2) (((mget a0_2 (⟨x878, a2⟩ : lts_edges)).getD (⟨(0 : Int), (0 : Int), (0 : Int), (0 : Int)⟩ : sets_Set)).c3) a1_0 a1_1 a1_2 a1_3).bind fun t1303 =>
 if (decide (t1303.1 = 0) && (decide (t1303.2.1 = 0) && (decide (t1303.2.2.1 = 0) && (decide (t1303.2.2.2 = 0) && true)))) = true then
 some (.inl (x874, x875, x876, x877))
 else
 (sets_Set_With.f x874 x875 x876 x877 x878).bind fun t1306 =>
 some (.inl (t1306.1, t1306.2.1, t1306.2.2.1, t1306.2.2.2))) (fun (s_ : Int × Int × Int × Int) =>
 nx (s_.1, s_.2.1, s_.2.2.1, s_.2.2.2, IntKind.i64.wrap (x878 + 1)))
 else
 dn (.inl (x874, x875, x876, x877))
noncomputable def lts_Table_Back.l0 (a0_0 : Int) (a0_2 : List (lts_edges × sets_Set)) (a1_0 : Int) (a1_1 : Int) (a1_2 : Int) (a1_3 : Int) (a2 : Bs) (x874 : Int) (x875 : Int) (x876 : Int) (x877 : Int) (x878 : Int) : Option ((Int × Int × Int × Int) ⊕ (Int × Int × Int × Int)) := iter (fun t_ : Int × Int × Int × Int × Int => lts_Table_Back.l0b a0_0 a0_2 a1_0 a1_1 a1_2 a1_3 a2 t_.1 t_.2.1 t_.2.2.1 t_.2.2.2.1 t_.2.2.2.2) (x874, x875, x876, x877, x878)
noncomputable def lts_Table_Back.f (a0_0 : Int) (a0_1 : List (Bs × sets_Set)) (a0_2 : List (lts_edges × sets_Set)) (a1_0 : Int) (a1_1 : Int) (a1_2 : Int) (a1_3 : Int) (a2 : Bs) : Option (Int × Int × Int × Int) :=
 jn (lts_Table_Back.l0 a0_0 a0_2 a1_0 a1_1 a1_2 a1_3 a2 0 0 0 0 0) (fun (s_ : Int × Int × Int × Int) =>
 some (s_.1, s_.2.1, s_.2.2.1, s_.2.2.2))
theorem lts_Table_Back.callee : Callee Go.Proofs.Tryz.prog 16 := ⟨_, Go.Proofs.Tryz.func16, by kernel_rfl, by kernel_rfl⟩
set_option maxRecDepth 100000 in
set_option maxHeartbeats 2000000 in
theorem lts_Table_Back.spec (R : Res) (Fr : List HProp) (b0 : Nat) (b0_1 : Nat) (b0_2 : Nat) (a0_0 : Int) (a0_1 : List (Bs × sets_Set)) (a0_2 : List (lts_edges × sets_Set)) (a1_0 : Int) (a1_1 : Int) (a1_2 : Int) (a1_3 : Int) (a2 : Bs)  {r : Int × Int × Int × Int} (hrun : lts_Table_Back.f a0_0 a0_1 a0_2 a1_0 a1_1 a1_2 a1_3 a2 = some r) :
    Spec Go.Proofs.Tryz.prog 16 [.pointer (some ⟨b0, 0, none⟩), .agg #[.int .u64 a1_0, .int .u64 a1_1, .int .u64 a1_2, .int .u64 a1_3], .string ⟨(a2).toArray⟩] R (pt b0 (.cells [.int .i64 a0_0, .map (some b0_1), .map (some b0_2)].toArray 74) :: mapo Fl.bs.ov sets_Set.fl.av b0_1 a0_1 :: mapo lts_edges.fl.av sets_Set.fl.av b0_2 a0_2 :: Fr) (fun v l' => v = .agg #[.int .u64 r.1, .int .u64 r.2.1, .int .u64 r.2.2.1, .int .u64 r.2.2.2] ∧ pt b0 (.cells [.int .i64 a0_0, .map (some b0_1), .map (some b0_2)].toArray 74) :: mapo Fl.bs.ov sets_Set.fl.av b0_1 a0_1 :: mapo lts_edges.fl.av sets_Set.fl.av b0_2 a0_2 :: Fr = l') := by
  refine Spec.of Go.Proofs.Tryz.func16 rfl rfl ?_; unfold lts_Table_Back.f at hrun; have hrun := brun hrun; refine At.seq (At.region ?_); refine At.box rfl rfl (cs := [.int .u64 a1_0, .int .u64 a1_1, .int .u64 a1_2, .int .u64 a1_3]) rfl rfl (fun b266 => ?_); refine At.alloc rfl rfl rfl (fun b267 => ?_); refine At.nil (At.thn (At.seq (At.region ?_))); refine At.alloc rfl rfl rfl (fun b268 => ?_); refine At.nil (At.thn (At.seq (At.seq (At.region (At.run 3 rfl ?_))))); refine At.y (Y.load rfl rfl (.s (.s (.s .z))) rfl rfl rfl) rfl rfl rfl ?_; refine At.run 1 rfl (At.nil (At.thn ?_)); refine At.block ?_; obtain ⟨G1083, hl1084, hr1085, hrun⟩ := bjoin hrun; obtain ⟨o1086, hlo1087, ho1088⟩ := bsome hrun; clear hrun; unfold lts_Table_Back.l0 at hlo1087; obtain ⟨m1089, hit1091⟩ := iter_some.1 hlo1087; clear hlo1087; refine At.loopJ (X := Int × Int × Int × Int × Int) (Y := Int × Int × Int × Int) (e0 := 0) (fun s_ => [(0, .pointer (some ⟨b0, 0, none⟩)), (2, .string ⟨(a2).toArray⟩), (4, .pointer (some ⟨b266, 0, none⟩)), (6, .pointer (some ⟨b267, 0, none⟩)), (7, .pointer (some ⟨b268, 0, none⟩)), (12, .int .i64 a0_0), (13, .int .i64 s_.2.2.2.2)]) (fun s_ => pt b268 (.cells [.int .u64 s_.1, .int .u64 s_.2.1, .int .u64 s_.2.2.1, .int .u64 s_.2.2.2.1].toArray 38) :: pt b267 (.cells ([.int .u64 0, .int .u64 0, .int .u64 0, .int .u64 0] : List Value).toArray 38) :: pt b266 (.cells [.int .u64 a1_0, .int .u64 a1_1, .int .u64 a1_2, .int .u64 a1_3].toArray 38) :: pt b0 (.cells [.int .i64 a0_0, .map (some b0_1), .map (some b0_2)].toArray 74) :: mapo Fl.bs.ov sets_Set.fl.av b0_1 a0_1 :: mapo lts_edges.fl.av sets_Set.fl.av b0_2 a0_2 :: Fr) (fun m_ => fun s_ => iterN (fun t_ : Int × Int × Int × Int × Int => lts_Table_Back.l0b a0_0 a0_2 a1_0 a1_1 a1_2 a1_3 a2 t_.1 t_.2.1 t_.2.2.1 t_.2.2.2.1 t_.2.2.2.2) m_ (s_.1, s_.2.1, s_.2.2.1, s_.2.2.2.1, s_.2.2.2.2) = some o1086) m1089 (0, 0, 0, 0, 0) hit1091 (fun s_ => [(6, .pointer (some ⟨b267, 0, none⟩)), (7, .pointer (some ⟨b268, 0, none⟩))]) (fun s_ => pt b268 (.cells [.int .u64 s_.1, .int .u64 s_.2.1, .int .u64 s_.2.2.1, .int .u64 s_.2.2.2].toArray 38) :: pt b267 (.cells ([.int .u64 0, .int .u64 0, .int .u64 0, .int .u64 0] : List Value).toArray 38) :: pt b266 (.cells [.int .u64 a1_0, .int .u64 a1_1, .int .u64 a1_2, .int .u64 a1_3].toArray 38) :: pt b0 (.cells [.int .i64 a0_0, .map (some b0_1), .map (some b0_2)].toArray 74) :: mapo Fl.bs.ov sets_Set.fl.av b0_1 a0_1 :: mapo lts_edges.fl.av sets_Set.fl.av b0_2 a0_2 :: Fr) (fun s_ => G1083 (.inl (s_.1, s_.2.1, s_.2.2.1, s_.2.2.2)) = some r) (fun a w e hs => ⟨e.sub ⟨rfl, rfl, rfl, rfl, rfl, rfl, rfl, trivial⟩, (by exact hs)⟩) ?_ (fun J1093 => ?_)
  · rintro ⟨x1079, x1080, x1081, x1082⟩ hrun; have hrun := (hl1084 _).symm.trans hrun
    · refine At.ibx ?_; refine At.thn (At.seq (At.region ?_)); refine At.y (Y.load rfl rfl .z rfl rfl rfl) rfl rfl rfl ?_; refine At.store rfl rfl rfl rfl (.s .z) rfl rfl rfl (.c (.c (.c (.c .n)))) ?_; refine At.nil (At.thn (At.ret ?_)); refine At.resM (.inl rfl) rfl (RV.cell rfl rfl .z rfl rfl rfl RV.nil) ?_; refine At.drop .z (At.drop .z (At.drop .z ?_)); obtain rfl := (bret hrun).symm; exact fun a w e hs => ⟨_, ⟨rfl, rfl⟩, hs⟩
  · clear hit1091 m1089; rintro m1089 ⟨x874, x875, x876, x877, x878⟩ hit1091; obtain ⟨m1090, f_, hlt1092, hf_, hrun⟩ := bit hit1091; clear hit1091; have hrun : (lts_Table_Back.l0b a0_0 a0_2 a1_0 a1_1 a1_2 a1_3 a2 x874 x875 x876 x877 x878).bind _ = some o1086 := hrun; unfold lts_Table_Back.l0b at hrun
    · refine At.seq (At.region (At.run 1 rfl (At.nil (At.thn (At.seq ?_))))); rcases bite hrun with ⟨h1094, hrun⟩ | ⟨h1094, hrun⟩
      · · refine At.condT rfl (decide_eq_true h1094) ?_
          refine At.skip (At.thn (At.seq ?_)); obtain ⟨G1095, hl1096, hr1097, hrun⟩ := bjoin hrun; refine At.join (X := Int × Int × Int × Int) (fun s_ => [(0, .pointer (some ⟨b0, 0, none⟩)), (2, .string ⟨(a2).toArray⟩), (4, .pointer (some ⟨b266, 0, none⟩)), (6, .pointer (some ⟨b267, 0, none⟩)), (7, .pointer (some ⟨b268, 0, none⟩)), (12, .int .i64 a0_0), (13, .int .i64 x878)]) (fun s_ => pt b268 (.cells [.int .u64 s_.1, .int .u64 s_.2.1, .int .u64 s_.2.2.1, .int .u64 s_.2.2.2].toArray 38) :: pt b267 (.cells ([.int .u64 0, .int .u64 0, .int .u64 0, .int .u64 0] : List Value).toArray 38) :: pt b266 (.cells [.int .u64 a1_0, .int .u64 a1_1, .int .u64 a1_2, .int .u64 a1_3].toArray 38) :: pt b0 (.cells [.int .i64 a0_0, .map (some b0_1), .map (some b0_2)].toArray 74) :: mapo Fl.bs.ov sets_Set.fl.av b0_1 a0_1 :: mapo lts_edges.fl.av sets_Set.fl.av b0_2 a0_2 :: Fr) (fun s_ => G1095 (.inl (s_.1, s_.2.1, s_.2.2.1, s_.2.2.2)) = some o1086) ?_ (fun J1098 => ?_)
          · rintro ⟨x1299, x1300, x1301, x1302⟩ hrun; have hrun := (hl1096 _).symm.trans hrun
            · refine At.region (At.run 2 rfl (At.nil ?_)); have hrun := bnx hf_ hrun; exact fun a w e hs => ⟨m1090, (x1299, x1300, x1301, x1302, IntKind.i64.wrap (x878 + 1)), hlt1092, hrun, e.sub ⟨rfl, rfl, rfl, rfl, rfl, rfl, rfl, trivial⟩, hs⟩
          · · refine At.block ?_
              refine At.seq (At.region (At.run 2 rfl (At.nil (At.thn (At.seq ?_))))); refine At.quiet (by kernel_rfl) ?_; refine At.Quiet.run 3 rfl ?_; refine At.Quiet.y (Y.load rfl rfl (.s (.s (.s .z))) rfl rfl rfl) rfl rfl rfl ?_; refine At.Quiet.run 2 rfl ?_; refine At.Quiet.y (Y.build (is := [0, 1]) (xo := [.tmp 20, .tmp 21]) (vs := [.int .i64 x878, .string ⟨(a2).toArray⟩]) (cs := [.int .i64 x878, .string ⟨(a2).toArray⟩]) rfl rfl rfl rfl rfl rfl) rfl rfl rfl ?_; refine At.Quiet.y (Y.lookup (k := (⟨x878, a2⟩ : lts_edges)) (z := (⟨(0 : Int), (0 : Int), (0 : Int), (0 : Int)⟩ : sets_Set)) (.s (.s (.s (.s (.s .z))))) rfl rfl lts_edges.keyok (by kernel_rfl) rfl rfl rfl) rfl rfl rfl ?_; refine At.Quiet.y (Y.load rfl rfl (.s (.s .z)) rfl rfl rfl) rfl rfl rfl ?_; obtain ⟨t1303, hc1304, hrun⟩ := bbind hrun; refine At.Quiet.call rfl sets_Set_And.callee rfl rfl rfl (sets_Set_And.spec _ _  (((mget a0_2 (⟨x878, a2⟩ : lts_edges)).getD (⟨(0 : Int), (0 : Int), (0 : Int), (0 : Int)⟩ : sets_Set)).c0) (((mget a0_2 (⟨x878, a2⟩ : lts_edges)).getD (⟨(0 : Int), (0 : Int), (0 : Int), (0 : Int)⟩ : sets_Set)).c1) (((mget a0_2 (⟨x878, a2⟩ : lts_edges)).getD (⟨(0 : Int), (0 : Int), (0 : Int), (0 : Int)⟩ : sets_Set)).c2) (((mget a0_2 (⟨x878, a2⟩ : lts_edges)).getD (⟨(0 : Int), (0 : Int), (0 : Int), (0 : Int)⟩ : sets_Set)).c3) a1_0 a1_1 a1_2 a1_3  hc1304) (fun _ _ h_ => ⟨h_.1, fun _ hs => h_.2 ▸ hs⟩) ?_; refine At.Quiet.y (Y.buildA (is := []) (xo := []) (vs := []) (cs := [.int .u64 0, .int .u64 0, .int .u64 0, .int .u64 0]) rfl rfl rfl rfl rfl rfl) rfl rfl rfl ?_; refine At.Quiet.y (Y.neAr (xs := [.int .u64 t1303.1, .int .u64 t1303.2.1, .int .u64 t1303.2.2.1, .int .u64 t1303.2.2.2]) (ys := [.int .u64 0, .int .u64 0, .int .u64 0, .int .u64 0]) rfl rfl rfl rfl rfl rfl rfl (by kernel_rfl) rfl) rfl rfl rfl ?_; refine At.Quiet.nil ?_; refine At.thn ?_; rcases bite hrun with ⟨h1305, hrun⟩ | ⟨h1305, hrun⟩
              · · refine At.condF rfl (nf h1305) ?_
                  refine At.skip ?_; refine At.ibn ?_; refine At.thn ?_; exact fun a w e hs => J1098 (x874, x875, x876, x877) hrun a w (e.sub ⟨rfl, rfl, rfl, rfl, rfl, rfl, rfl, trivial⟩) hs
              · · refine At.condT rfl (nt (bn h1305)) ?_
                  refine At.region ?_; refine At.y (Y.load rfl rfl .z rfl rfl rfl) rfl rfl rfl ?_; refine At.run 1 rfl ?_; obtain ⟨t1306, hc1307, hrun⟩ := bbind hrun; refine At.call rfl sets_Set_With.callee rfl rfl rfl (sets_Set_With.spec _ _  x874 x875 x876 x877 x878  hc1307) ?_; rintro _ _ ⟨rfl, rfl⟩; refine At.store rfl rfl rfl rfl .z rfl rfl rfl (.c (.c (.c (.c .n)))) ?_; refine At.nil ?_; refine At.ibn ?_; refine At.thn ?_; exact fun a w e hs => J1098 (t1306.1, t1306.2.1, t1306.2.2.1, t1306.2.2.2) hrun a w (e.sub ⟨rfl, rfl, rfl, rfl, rfl, rfl, rfl, trivial⟩) hs
      · · refine At.condF rfl (decide_eq_false h1094) ?_
          refine At.exit ?_; refine At.the ?_; refine At.the ?_; exact fun a w e hs => J1093 (x874, x875, x876, x877) (bdn hrun ho1088) a w (e.sub ⟨rfl, rfl, trivial⟩) hs


end Go.Bw
namespace Go.Bw
open Go Go.RowKit

def Ap {α : Type} (a b : Option α) : Prop := ∀ r, a = some r → b = some r
section
variable {α β σ τ ρ : Type}
theorem Ap.refl (a : Option α) : Ap a a := fun _ h => h
theorem Ap.none {b : Option α} : Ap Option.none b := fun _ h => by cases h
theorem Ap.bind {a b : Option α} {f g : α → Option β} (h : Ap a b) (k : ∀ t, Ap (f t) (g t)) : Ap (a.bind f) (b.bind g) := fun r e => by
  cases ha : a with
  | none => rw [ha] at e; cases e
  | some t => rw [ha] at e; rw [h t ha]; exact k t r e
theorem Ap.ite {c : Prop} [i : Decidable c] [j : Decidable c] {a b a' b' : Option α} (h : Ap a a') (k : Ap b b') : Ap (@_root_.ite _ c i a b) (@_root_.ite _ c j a' b') := fun r e => by
  by_cases hc : c
  · rw [if_pos hc] at e ⊢; exact h r e
  · rw [if_neg hc] at e ⊢; exact k r e
theorem Ap.jn {a b : Option (σ ⊕ ρ)} {f g : σ → Option ρ} (h : Ap a b) (k : ∀ t, Ap (f t) (g t)) : Ap (Bw.jn a f) (Bw.jn b g) := fun r e => by
  cases ha : a with
  | none => rw [ha] at e; cases e
  | some t =>
    rw [ha] at e
    rw [h t ha]
    cases t with
    | inl s => exact k s r e
    | inr o => exact e
theorem Ap.up {a b : Option ρ} (h : Ap a b) : Ap (Bw.up a : Option (σ ⊕ ρ)) (Bw.up b) := fun r e => by
  cases ha : a with
  | none => rw [ha] at e; cases e
  | some t => rw [ha] at e; rw [h t ha]; exact e
theorem Ap.upL {a b : Option ρ} (h : Ap a b) : Ap (Bw.upL a : Option (σ ⊕ (τ ⊕ ρ))) (Bw.upL b) := fun r e => by
  cases ha : a with
  | none => rw [ha] at e; cases e
  | some t => rw [ha] at e; rw [h t ha]; exact e
def iterC (fu : Nat) (body : σ → Option (σ ⊕ ρ)) (s : σ) : Option ρ := iterN body fu s
theorem iterN_ap {f g : σ → Option (σ ⊕ ρ)} (h : ∀ s, Ap (f s) (g s)) : ∀ {n : Nat} {s : σ}, Ap (iterN f n s) (iterN g n s)
  | 0, _ => fun _ e => by cases e
  | n + 1, s => fun r e => by
    unfold iterN at e ⊢
    cases hf : f s with
    | none => rw [hf] at e; cases e
    | some t =>
      rw [hf] at e
      rw [h s t hf]
      cases t with
      | inl s' => exact iterN_ap h r e
      | inr o => exact e
theorem Ap.iter {fu : Nat} {f g : σ → Option (σ ⊕ ρ)} {s : σ} (h : ∀ s, Ap (f s) (g s)) : Ap (iterC fu f s) (Bw.iter g s) := fun r e => iter_some.2 ⟨fu, iterN_ap h r e⟩
theorem foldO_ap {f g : σ → α → Option σ} (h : ∀ s x, Ap (f s x) (g s x)) : ∀ {xs : List α} {s : σ}, Ap (foldO f s xs) (foldO g s xs)
  | [], _ => fun _ e => e
  | x :: xs, s => Ap.bind (h s x) fun t => foldO_ap h
def orderedC (kvs : List α) (step : σ → α → Option σ) (s0 : σ) (out : σ → τ) (f : τ → Option β) : Option β := if kvs.length ≤ 1 then (foldO step s0 kvs).bind fun s => f (out s) else Option.none
theorem Ap.ordered {kvs : List α} {f g : σ → α → Option σ} {s0 : σ} {out : σ → τ} {p q : τ → Option β} (h : ∀ s x, Ap (f s x) (g s x)) (k : ∀ t, Ap (p t) (q t)) : Ap (orderedC kvs f s0 out p) (Bw.ordered kvs g s0 out q) := fun r e => by
  unfold orderedC at e
  split at e
  · rename_i hl
    refine anyOrder_some.2 fun ys hy => ?_
    have : ys = kvs := by
      match kvs, hl with
      | [], _ => exact hy.eq_nil
      | [x], _ => exact List.perm_singleton.1 hy
      | _ :: _ :: _, hl => simp at hl
    subst this
    exact Ap.bind (foldO_ap h) (fun t => k _) r e
  · cases e
def bseqC (x y : Bs) : Bool := decide (x = y)
theorem bseq_bseqC : bseq = bseqC := by
  funext x y
  unfold bseqC
  rw [Bool.eq_iff_iff, bseq_iff]
  simp
def soloC (a : List α) : Option (List α) := if a.length ≤ 1 then some a else Option.none
theorem solo_mem {a r : List α} (h : soloC a = some r) : r = a ∧ (a = [] ∨ ∃ x, a = [x]) := by
  unfold soloC at h
  split at h
  · rename_i hl
    refine ⟨(Option.some.inj h).symm, ?_⟩
    match a, hl with
    | [], _ => exact .inl rfl
    | [x], _ => exact .inr ⟨x, rfl⟩
    | _ :: _ :: _, hl => simp at hl
  · cases h
end
end Go.Bw
namespace Go.Bw
open Go Go.RowKit Go.Proofs Go.Sort

def cmp3 (a b : Int) : Int := if a < b then -1 else if b < a then 1 else 0
theorem cmp_int_run (a b : Int) : cmp_Compare_int.f a b = some (cmp3 a b) := by
  unfold cmp_Compare_int.f cmp_isNaN_int.f cmp3
  simp
  split
  · rfl
  · split <;> rfl
theorem cmp3_lt {a b : Int} : cmp3 a b < 0 ↔ a < b := by
  unfold cmp3
  split
  · simp [*]
  · split <;> simp <;> omega
theorem cmp3_eq {a b : Int} : cmp3 a b = 0 ↔ a = b := by
  unfold cmp3
  split
  · simp; omega
  · split <;> simp <;> omega
theorem or_run (a b c : Int) : cmp_Or_int.f [a, b, c] = some (if a = 0 then if b = 0 then c else b else a) := by
  unfold cmp_Or_int.f cmp_Or_int.l0
  by_cases ha : a = 0
  · by_cases hb : b = 0
    · by_cases hc : c = 0
      · subst ha hb hc
        rw [iter_eq, cmp_Or_int.l0b]
        simp [nx, gt, IntKind.wrap, IntKind.bits, IntKind.signed]
        rw [iter_eq, cmp_Or_int.l0b]
        simp [nx, gt, IntKind.wrap, IntKind.bits, IntKind.signed]
        rw [iter_eq, cmp_Or_int.l0b]
        simp [nx, gt, IntKind.wrap, IntKind.bits, IntKind.signed]
        rw [iter_eq, cmp_Or_int.l0b]
        simp [dn, jn]
      · subst ha hb
        rw [iter_eq, cmp_Or_int.l0b]
        simp [nx, gt, IntKind.wrap, IntKind.bits, IntKind.signed]
        rw [iter_eq, cmp_Or_int.l0b]
        simp [nx, gt, IntKind.wrap, IntKind.bits, IntKind.signed]
        rw [iter_eq, cmp_Or_int.l0b]
        simp [nx, gt, hc, upL, jn]
    · subst ha
      rw [iter_eq, cmp_Or_int.l0b]
      simp [nx, gt, IntKind.wrap, IntKind.bits, IntKind.signed]
      rw [iter_eq, cmp_Or_int.l0b]
      simp [nx, gt, hb, upL, jn]
  · rw [iter_eq, cmp_Or_int.l0b]
    simp [nx, gt, ha, upL, jn]
def edgeCmp (x y : api_Edge) : Int := if cmp3 x.From y.From = 0 then if cmp3 x.Action y.Action = 0 then cmp3 x.To y.To else cmp3 x.Action y.Action else cmp3 x.From y.From
theorem edge_run (x y : api_Edge) : lts_compare.f x.From x.Action x.To y.From y.Action y.To = some (edgeCmp x y) := by
  unfold lts_compare.f
  simp only [cmp_int_run, Option.bind_some, or_run]
  rfl
theorem edge_cmp (x y : api_Edge) : slices_SortFunc_api_Edge_api_Edge.cmp x y = some (edgeCmp x y) := edge_run x y
def edgeLt (x y : api_Edge) : Prop := x.From < y.From ∨ x.From = y.From ∧ (x.Action < y.Action ∨ x.Action = y.Action ∧ x.To < y.To)
theorem edgeCmp_lt {x y : api_Edge} : edgeCmp x y < 0 ↔ edgeLt x y := by
  unfold edgeCmp edgeLt
  by_cases h1 : x.From = y.From
  · rw [if_pos (cmp3_eq.2 h1)]
    by_cases h2 : x.Action = y.Action
    · rw [if_pos (cmp3_eq.2 h2), cmp3_lt]; omega
    · rw [if_neg (fun h => h2 (cmp3_eq.1 h)), cmp3_lt]; omega
  · rw [if_neg (fun h => h1 (cmp3_eq.1 h)), cmp3_lt]; omega
theorem edge_ltOf (x y : api_Edge) : ltOf (gcf slices_SortFunc_api_Edge_api_Edge.cmp) x y = true ↔ edgeLt x y := by
  unfold ltOf gcf
  rw [edge_cmp]
  simp [edgeCmp_lt]
theorem edge_ltOf' (x y : api_Edge) : ltOf (gcf slices_SortFunc_api_Edge_api_Edge.cmp) x y = false ↔ ¬ edgeLt x y := by
  rw [← edge_ltOf]; simp
theorem edge_tot : CmpTot slices_SortFunc_api_Edge_api_Edge.cmp := by
  refine ⟨⟨fun x y => by rw [edge_cmp]; rfl, fun x => ?_, fun x y z h1 h2 => ?_, fun x y z h1 h2 => ?_⟩, fun x y h1 h2 => ?_⟩
  · rw [edge_ltOf']; unfold edgeLt; omega
  · rw [edge_ltOf] at *; unfold edgeLt at *; omega
  · rw [edge_ltOf'] at *; unfold edgeLt at *; omega
  · rw [edge_ltOf'] at *
    unfold edgeLt at *
    cases x
    cases y
    simp at *
    omega
theorem cb_self : ∀ (x : Bs), Lib.compareBytes x x = 0
  | [] => rfl
  | a :: x => by unfold Lib.compareBytes; rw [if_neg (UInt8.lt_irrefl a), if_neg (UInt8.lt_irrefl a)]; exact cb_self x
theorem cb_eq : ∀ {x y : Bs}, Lib.compareBytes x y = 0 → x = y
  | [], [], _ => rfl
  | [], _ :: _, h => by simp [Lib.compareBytes] at h
  | _ :: _, [], h => by simp [Lib.compareBytes] at h
  | a :: x, b :: y, h => by
    unfold Lib.compareBytes at h
    split at h
    · simp at h
    · split at h
      · simp at h
      · rename_i h1 h2
        rw [cb_eq h, UInt8.le_antisymm (UInt8.not_lt.1 h2) (UInt8.not_lt.1 h1)]
theorem cb_neg : ∀ {x y : Bs}, Lib.compareBytes y x = - Lib.compareBytes x y
  | [], [] => rfl
  | [], _ :: _ => rfl
  | _ :: _, [] => rfl
  | a :: x, b :: y => by
    unfold Lib.compareBytes
    by_cases h1 : a < b
    · rw [if_neg (UInt8.lt_asymm h1), if_pos h1, if_pos h1]; rfl
    · by_cases h2 : b < a
      · rw [if_pos h2, if_neg h1, if_pos h2]
      · rw [if_neg h1, if_neg h2, if_neg h2, if_neg h1]; exact cb_neg
theorem cb_trans : ∀ {x y z : Bs}, Lib.compareBytes x y < 0 → Lib.compareBytes y z < 0 → Lib.compareBytes x z < 0
  | [], [], _, h, _ => by simp [Lib.compareBytes] at h
  | [], _ :: _, [], _, h => by simp [Lib.compareBytes] at h
  | [], _ :: _, _ :: _, _, _ => by simp [Lib.compareBytes]
  | _ :: _, [], _, h, _ => by simp [Lib.compareBytes] at h
  | _ :: _, _ :: _, [], _, h => by simp [Lib.compareBytes] at h
  | a :: x, b :: y, c :: z, h1, h2 => by
    unfold Lib.compareBytes at h1 h2 ⊢
    by_cases hab : a < b
    · by_cases hbc : b < c
      · rw [if_pos (UInt8.lt_trans hab hbc)]; decide
      · rw [if_neg hbc] at h2
        by_cases hcb : c < b
        · rw [if_pos hcb] at h2; simp at h2
        · have : b = c := UInt8.le_antisymm (UInt8.not_lt.1 hcb) (UInt8.not_lt.1 hbc)
          subst this
          rw [if_pos hab]; decide
    · rw [if_neg hab] at h1
      by_cases hba : b < a
      · rw [if_pos hba] at h1; simp at h1
      · have : a = b := UInt8.le_antisymm (UInt8.not_lt.1 hba) (UInt8.not_lt.1 hab)
        subst this
        rw [if_neg hba] at h1
        by_cases hbc : a < c
        · rw [if_pos hbc]; decide
        · rw [if_neg hbc] at h2 ⊢
          by_cases hcb : c < a
          · rw [if_pos hcb] at h2; simp at h2
          · rw [if_neg hcb] at h2 ⊢
            exact cb_trans h1 h2
theorem prop_cmp (x y : api_Prop) : slices_SortFunc_api_Prop_api_Prop.cmp x y = some (Lib.compareBytes x.Name y.Name) := rfl
theorem prop_ltOf (x y : api_Prop) : ltOf (gcf slices_SortFunc_api_Prop_api_Prop.cmp) x y = true ↔ Lib.compareBytes x.Name y.Name < 0 := by
  unfold ltOf gcf
  rw [prop_cmp]
  simp
theorem prop_ltOf' (x y : api_Prop) : ltOf (gcf slices_SortFunc_api_Prop_api_Prop.cmp) x y = false ↔ 0 ≤ Lib.compareBytes x.Name y.Name := by
  have := prop_ltOf x y
  rw [← Bool.not_eq_true, this]; omega
theorem prop_swo : CmpSwo slices_SortFunc_api_Prop_api_Prop.cmp := by
  refine ⟨fun x y => by rw [prop_cmp]; rfl, fun x => ?_, fun x y z h1 h2 => ?_, fun x y z h1 h2 => ?_⟩
  · rw [prop_ltOf', cb_self]; decide
  · rw [prop_ltOf] at *; exact cb_trans h1 h2
  · rw [prop_ltOf'] at *
    rw [cb_neg] at h1 h2 ⊢
    have h1' : Lib.compareBytes y.Name x.Name ≤ 0 := by omega
    have h2' : Lib.compareBytes z.Name y.Name ≤ 0 := by omega
    by_cases e1 : Lib.compareBytes y.Name x.Name = 0
    · rw [← cb_eq e1]; omega
    · by_cases e2 : Lib.compareBytes z.Name y.Name = 0
      · rw [cb_eq e2]; omega
      · have := cb_trans (show Lib.compareBytes z.Name y.Name < 0 by omega) (show Lib.compareBytes y.Name x.Name < 0 by omega)
        omega
end Go.Bw
namespace Go.Bw
open Go Go.RowKit
def lts_Right_1.fc (fu : Nat) (a0 : Int) (a1_0 : Int) (a1_1 : List Bs) (a1_2 : List api_Edge) (a1_3 : List api_Prop) : Option Bool :=
 jn (
 if 0 ≤ a0 then
 some (.inl (decide (a0 < a1_0)))
 else
 some (.inl false)) (fun (x452 : Bool) =>
 some x452)
theorem lts_Right_1.f_ap (fu : Nat) (a0 : Int) (a1_0 : Int) (a1_1 : List Bs) (a1_2 : List api_Edge) (a1_3 : List api_Prop) : Ap (lts_Right_1.fc fu a0 a1_0 a1_1 a1_2 a1_3) (lts_Right_1.f a0 a1_0 a1_1 a1_2 a1_3) := by
  unfold lts_Right_1.fc lts_Right_1.f
  repeat' with_reducible first | refine Ap.jn ?_ fun _ => ?_ | refine Ap.ite ?_ ?_ | exact Ap.refl _
def lts_name_1.fc (fu : Nat) (a0 : Int) : Option Bool :=
 jn (
 if 97 ≤ a0 then
 some (.inl (decide (a0 ≤ 122)))
 else
 some (.inl false)) (fun (x452 : Bool) =>
 jn (
 if x452 = true then
 some (.inl true)
 else
 jn (
 if 65 ≤ a0 then
 some (.inl (decide (a0 ≤ 90)))
 else
 some (.inl false)) (fun (x1481 : Bool) =>
 some (.inl x1481))) (fun (x657 : Bool) =>
 jn (
 if x657 = true then
 some (.inl true)
 else
 jn (
 if 48 ≤ a0 then
 some (.inl (decide (a0 ≤ 57)))
 else
 some (.inl false)) (fun (x1274 : Bool) =>
 some (.inl x1274))) (fun (x862 : Bool) =>
 jn (
 if x862 = true then
 some (.inl true)
 else
 some (.inl (decide (a0 = 95)))) (fun (x1067 : Bool) =>
 some (!x1067)))))
theorem lts_name_1.f_ap (fu : Nat) (a0 : Int) : Ap (lts_name_1.fc fu a0) (lts_name_1.f a0) := by
  unfold lts_name_1.fc lts_name_1.f
  repeat' with_reducible first | refine Ap.jn ?_ fun _ => ?_ | refine Ap.ite ?_ ?_ | exact Ap.refl _
def strings_indexFunc.l0bc (fu : Nat) (a0 : Bs) (a2 : Bool) (x856 : Nat) : Option ((Nat) ⊕ ((Nat) ⊕ (Int))) :=
 if x856 < a0.length then
 (lts_name_1.fc fu (runeAt a0 x856)).bind fun t1070 =>
 if (t1070 == a2) = true then
 upL (some (x856 : Int))
 else
 nx (x856 + runeLen a0 x856)
 else
 dn (.inl x856)
theorem strings_indexFunc.l0b_ap (fu : Nat) (a0 : Bs) (a2 : Bool) (x856 : Nat) : Ap (strings_indexFunc.l0bc fu a0 a2 x856) (strings_indexFunc.l0b a0 a2 x856) := by
  unfold strings_indexFunc.l0bc strings_indexFunc.l0b
  repeat' with_reducible first | exact lts_name_1.f_ap _ _ | refine Ap.ite ?_ ?_ | refine Ap.upL ?_ | refine Ap.bind ?_ fun _ => ?_ | exact Ap.refl _
def strings_indexFunc.l0c (fu : Nat) (a0 : Bs) (a2 : Bool) (x856 : Nat) : Option ((Nat) ⊕ (Int)) := iterC fu (fun t_ : Nat => strings_indexFunc.l0bc fu a0 a2 t_) x856
theorem strings_indexFunc.l0_ap (fu : Nat) (a0 : Bs) (a2 : Bool) (x856 : Nat) : Ap (strings_indexFunc.l0c fu a0 a2 x856) (strings_indexFunc.l0 a0 a2 x856) := by
  unfold strings_indexFunc.l0c strings_indexFunc.l0
  repeat' with_reducible first | exact strings_indexFunc.l0b_ap _ _ _ _ | refine Ap.iter fun _ => ?_ | exact Ap.refl _
def strings_indexFunc.fc (fu : Nat) (a0 : Bs) (a2 : Bool) : Option Int :=
 jn (strings_indexFunc.l0c fu a0 a2 0) (fun (x1057 : Nat) =>
 some (-1))
theorem strings_indexFunc.f_ap (fu : Nat) (a0 : Bs) (a2 : Bool) : Ap (strings_indexFunc.fc fu a0 a2) (strings_indexFunc.f a0 a2) := by
  unfold strings_indexFunc.fc strings_indexFunc.f
  repeat' with_reducible first | exact strings_indexFunc.l0_ap _ _ _ _ | refine Ap.jn ?_ fun _ => ?_ | exact Ap.refl _
def strings_IndexFunc.fc (fu : Nat) (a0 : Bs) : Option Int :=
 (strings_indexFunc.fc fu a0 true).bind fun t252 =>
 some t252
theorem strings_IndexFunc.f_ap (fu : Nat) (a0 : Bs) : Ap (strings_IndexFunc.fc fu a0) (strings_IndexFunc.f a0) := by
  unfold strings_IndexFunc.fc strings_IndexFunc.f
  repeat' with_reducible first | exact strings_indexFunc.f_ap _ _ _ | refine Ap.bind ?_ fun _ => ?_ | exact Ap.refl _
def strings_ContainsFunc.fc (fu : Nat) (a0 : Bs) : Option Bool :=
 (strings_IndexFunc.fc fu a0).bind fun t252 =>
 some (decide (0 ≤ t252))
theorem strings_ContainsFunc.f_ap (fu : Nat) (a0 : Bs) : Ap (strings_ContainsFunc.fc fu a0) (strings_ContainsFunc.f a0) := by
  unfold strings_ContainsFunc.fc strings_ContainsFunc.f
  repeat' with_reducible first | exact strings_IndexFunc.f_ap _ _ | refine Ap.bind ?_ fun _ => ?_ | exact Ap.refl _
def lts_name.fc (fu : Nat) (a0 : Bs) : Option Bool :=
 jn (
 if (a0.length : Int) < 1 then
 some (.inl true)
 else
 some (.inl (decide (8 < (a0.length : Int))))) (fun (x452 : Bool) =>
 jn (
 if x452 = true then
 some (.inl true)
 else
 if (0 : Int) ≤ 0 ∧ 0 < (a0.length : Int) then
 some (.inl (decide (bat a0 0 < 97)))
 else none) (fun (x657 : Bool) =>
 jn (
 if x657 = true then
 some (.inl true)
 else
 if (0 : Int) ≤ 0 ∧ 0 < (a0.length : Int) then
 some (.inl (decide (122 < bat a0 0)))
 else none) (fun (x862 : Bool) =>
 if x862 = true then
 some false
 else
 if bseqC a0 ([116, 116] : Bs) = true then
 some false
 else
 if bseqC a0 ([102, 102] : Bs) = true then
 some false
 else
 if bseqC a0 ([109, 117] : Bs) = true then
 some false
 else
 if bseqC a0 ([110, 117] : Bs) = true then
 some false
 else
 (strings_ContainsFunc.fc fu a0).bind fun t875 =>
 some (!t875))))
theorem lts_name.f_ap (fu : Nat) (a0 : Bs) : Ap (lts_name.fc fu a0) (lts_name.f a0) := by
  unfold lts_name.fc lts_name.f
  rw [bseq_bseqC]
  repeat' with_reducible first | exact strings_ContainsFunc.f_ap _ _ | exact Ap.none | refine Ap.jn ?_ fun _ => ?_ | refine Ap.ite ?_ ?_ | refine Ap.bind ?_ fun _ => ?_ | exact Ap.refl _
def cmp_isNaN_int.fc (fu : Nat) (a0 : Int) : Option Bool :=
 some (!(decide (a0 = a0)))
theorem cmp_isNaN_int.f_ap (fu : Nat) (a0 : Int) : Ap (cmp_isNaN_int.fc fu a0) (cmp_isNaN_int.f a0) := by
  unfold cmp_isNaN_int.fc cmp_isNaN_int.f
  repeat' with_reducible first | exact Ap.refl _
def cmp_Compare_int.fc (fu : Nat) (a0 : Int) (a1 : Int) : Option Int :=
 (cmp_isNaN_int.fc fu a0).bind fun t252 =>
 (cmp_isNaN_int.fc fu a1).bind fun t254 =>
 if t252 = true then
 if t254 = true then
 some 0
 else
 some (-1)
 else
 if t254 = true then
 some 1
 else
 if a0 < a1 then
 some (-1)
 else
 if a1 < a0 then
 some 1
 else
 some 0
theorem cmp_Compare_int.f_ap (fu : Nat) (a0 : Int) (a1 : Int) : Ap (cmp_Compare_int.fc fu a0 a1) (cmp_Compare_int.f a0 a1) := by
  unfold cmp_Compare_int.fc cmp_Compare_int.f
  repeat' with_reducible first | exact cmp_isNaN_int.f_ap _ _ | refine Ap.ite ?_ ?_ | refine Ap.bind ?_ fun _ => ?_ | exact Ap.refl _
def lts_rises_int.l0bc (fu : Nat) (a0 : List Int) (x853 : Int) : Option ((Int) ⊕ ((Unit) ⊕ (Bool))) :=
 if x853 < (a0.length : Int) then
 if (0 : Int) ≤ IntKind.i64.wrap (x853 - 1) ∧ IntKind.i64.wrap (x853 - 1) < (a0.length : Int) then
 if (0 : Int) ≤ x853 ∧ x853 < (a0.length : Int) then
 (cmp_Compare_int.fc fu (gt a0 (IntKind.i64.wrap (x853 - 1))) (gt a0 x853)).bind fun t1068 =>
 if 0 ≤ t1068 then
 upL (some false)
 else
 nx (IntKind.i64.wrap (x853 + 1))
 else none
 else none
 else
 dn (.inl ())
theorem lts_rises_int.l0b_ap (fu : Nat) (a0 : List Int) (x853 : Int) : Ap (lts_rises_int.l0bc fu a0 x853) (lts_rises_int.l0b a0 x853) := by
  unfold lts_rises_int.l0bc lts_rises_int.l0b
  repeat' with_reducible first | exact cmp_Compare_int.f_ap _ _ _ | exact Ap.none | refine Ap.ite ?_ ?_ | refine Ap.upL ?_ | refine Ap.bind ?_ fun _ => ?_ | exact Ap.refl _
def lts_rises_int.l0c (fu : Nat) (a0 : List Int) (x853 : Int) : Option ((Unit) ⊕ (Bool)) := iterC fu (fun t_ : Int => lts_rises_int.l0bc fu a0 t_) x853
theorem lts_rises_int.l0_ap (fu : Nat) (a0 : List Int) (x853 : Int) : Ap (lts_rises_int.l0c fu a0 x853) (lts_rises_int.l0 a0 x853) := by
  unfold lts_rises_int.l0c lts_rises_int.l0
  repeat' with_reducible first | exact lts_rises_int.l0b_ap _ _ _ | refine Ap.iter fun _ => ?_ | exact Ap.refl _
def lts_rises_int.fc (fu : Nat) (a0 : List Int) : Option Bool :=
 jn (lts_rises_int.l0c fu a0 1) (fun (_ : Unit) =>
 some true)
theorem lts_rises_int.f_ap (fu : Nat) (a0 : List Int) : Ap (lts_rises_int.fc fu a0) (lts_rises_int.f a0) := by
  unfold lts_rises_int.fc lts_rises_int.f
  repeat' with_reducible first | exact lts_rises_int.l0_ap _ _ _ | refine Ap.jn ?_ fun _ => ?_ | exact Ap.refl _
def lts_Right_2.fc (fu : Nat) (a0 : Int) (a1_0_c0_0 : Int) (a1_0_c0_1 : List Bs) (a1_0_c0_2 : List api_Edge) (a1_0_c0_3 : List api_Prop) : Option Bool :=
 (lts_Right_1.fc fu a0 a1_0_c0_0 a1_0_c0_1 a1_0_c0_2 a1_0_c0_3).bind fun t252 =>
 some (!t252)
theorem lts_Right_2.f_ap (fu : Nat) (a0 : Int) (a1_0_c0_0 : Int) (a1_0_c0_1 : List Bs) (a1_0_c0_2 : List api_Edge) (a1_0_c0_3 : List api_Prop) : Ap (lts_Right_2.fc fu a0 a1_0_c0_0 a1_0_c0_1 a1_0_c0_2 a1_0_c0_3) (lts_Right_2.f a0 a1_0_c0_0 a1_0_c0_1 a1_0_c0_2 a1_0_c0_3) := by
  unfold lts_Right_2.fc lts_Right_2.f
  repeat' with_reducible first | exact lts_Right_1.f_ap _ _ _ _ _ _ | refine Ap.bind ?_ fun _ => ?_ | exact Ap.refl _
def slices_IndexFunc_int_int.l0bc (fu : Nat) (a0 : List Int) (a1_c0_0_c0_0 : Int) (a1_c0_0_c0_1 : List Bs) (a1_c0_0_c0_2 : List api_Edge) (a1_c0_0_c0_3 : List api_Prop) (x853 : Int) : Option ((Int) ⊕ ((Unit) ⊕ (Int))) :=
 if x853 < (a0.length : Int) then
 if (0 : Int) ≤ x853 ∧ x853 < (a0.length : Int) then
 (lts_Right_2.fc fu (gt a0 x853) a1_c0_0_c0_0 a1_c0_0_c0_1 a1_c0_0_c0_2 a1_c0_0_c0_3).bind fun t1067 =>
 if t1067 = true then
 upL (some x853)
 else
 nx (IntKind.i64.wrap (x853 + 1))
 else none
 else
 dn (.inl ())
theorem slices_IndexFunc_int_int.l0b_ap (fu : Nat) (a0 : List Int) (a1_c0_0_c0_0 : Int) (a1_c0_0_c0_1 : List Bs) (a1_c0_0_c0_2 : List api_Edge) (a1_c0_0_c0_3 : List api_Prop) (x853 : Int) : Ap (slices_IndexFunc_int_int.l0bc fu a0 a1_c0_0_c0_0 a1_c0_0_c0_1 a1_c0_0_c0_2 a1_c0_0_c0_3 x853) (slices_IndexFunc_int_int.l0b a0 a1_c0_0_c0_0 a1_c0_0_c0_1 a1_c0_0_c0_2 a1_c0_0_c0_3 x853) := by
  unfold slices_IndexFunc_int_int.l0bc slices_IndexFunc_int_int.l0b
  repeat' with_reducible first | exact lts_Right_2.f_ap _ _ _ _ _ _ | exact Ap.none | refine Ap.ite ?_ ?_ | refine Ap.upL ?_ | refine Ap.bind ?_ fun _ => ?_ | exact Ap.refl _
def slices_IndexFunc_int_int.l0c (fu : Nat) (a0 : List Int) (a1_c0_0_c0_0 : Int) (a1_c0_0_c0_1 : List Bs) (a1_c0_0_c0_2 : List api_Edge) (a1_c0_0_c0_3 : List api_Prop) (x853 : Int) : Option ((Unit) ⊕ (Int)) := iterC fu (fun t_ : Int => slices_IndexFunc_int_int.l0bc fu a0 a1_c0_0_c0_0 a1_c0_0_c0_1 a1_c0_0_c0_2 a1_c0_0_c0_3 t_) x853
theorem slices_IndexFunc_int_int.l0_ap (fu : Nat) (a0 : List Int) (a1_c0_0_c0_0 : Int) (a1_c0_0_c0_1 : List Bs) (a1_c0_0_c0_2 : List api_Edge) (a1_c0_0_c0_3 : List api_Prop) (x853 : Int) : Ap (slices_IndexFunc_int_int.l0c fu a0 a1_c0_0_c0_0 a1_c0_0_c0_1 a1_c0_0_c0_2 a1_c0_0_c0_3 x853) (slices_IndexFunc_int_int.l0 a0 a1_c0_0_c0_0 a1_c0_0_c0_1 a1_c0_0_c0_2 a1_c0_0_c0_3 x853) := by
  unfold slices_IndexFunc_int_int.l0c slices_IndexFunc_int_int.l0
  repeat' with_reducible first | exact slices_IndexFunc_int_int.l0b_ap _ _ _ _ _ _ _ | refine Ap.iter fun _ => ?_ | exact Ap.refl _
def slices_IndexFunc_int_int.fc (fu : Nat) (a0 : List Int) (a1_c0_0_c0_0 : Int) (a1_c0_0_c0_1 : List Bs) (a1_c0_0_c0_2 : List api_Edge) (a1_c0_0_c0_3 : List api_Prop) : Option Int :=
 jn (slices_IndexFunc_int_int.l0c fu a0 a1_c0_0_c0_0 a1_c0_0_c0_1 a1_c0_0_c0_2 a1_c0_0_c0_3 0) (fun (_ : Unit) =>
 some (-1))
theorem slices_IndexFunc_int_int.f_ap (fu : Nat) (a0 : List Int) (a1_c0_0_c0_0 : Int) (a1_c0_0_c0_1 : List Bs) (a1_c0_0_c0_2 : List api_Edge) (a1_c0_0_c0_3 : List api_Prop) : Ap (slices_IndexFunc_int_int.fc fu a0 a1_c0_0_c0_0 a1_c0_0_c0_1 a1_c0_0_c0_2 a1_c0_0_c0_3) (slices_IndexFunc_int_int.f a0 a1_c0_0_c0_0 a1_c0_0_c0_1 a1_c0_0_c0_2 a1_c0_0_c0_3) := by
  unfold slices_IndexFunc_int_int.fc slices_IndexFunc_int_int.f
  repeat' with_reducible first | exact slices_IndexFunc_int_int.l0_ap _ _ _ _ _ _ _ | refine Ap.jn ?_ fun _ => ?_ | exact Ap.refl _
def slices_ContainsFunc_int_int.fc (fu : Nat) (a0 : List Int) (a1_c0_0_c0_0 : Int) (a1_c0_0_c0_1 : List Bs) (a1_c0_0_c0_2 : List api_Edge) (a1_c0_0_c0_3 : List api_Prop) : Option Bool :=
 (slices_IndexFunc_int_int.fc fu a0 a1_c0_0_c0_0 a1_c0_0_c0_1 a1_c0_0_c0_2 a1_c0_0_c0_3).bind fun t252 =>
 some (decide (0 ≤ t252))
theorem slices_ContainsFunc_int_int.f_ap (fu : Nat) (a0 : List Int) (a1_c0_0_c0_0 : Int) (a1_c0_0_c0_1 : List Bs) (a1_c0_0_c0_2 : List api_Edge) (a1_c0_0_c0_3 : List api_Prop) : Ap (slices_ContainsFunc_int_int.fc fu a0 a1_c0_0_c0_0 a1_c0_0_c0_1 a1_c0_0_c0_2 a1_c0_0_c0_3) (slices_ContainsFunc_int_int.f a0 a1_c0_0_c0_0 a1_c0_0_c0_1 a1_c0_0_c0_2 a1_c0_0_c0_3) := by
  unfold slices_ContainsFunc_int_int.fc slices_ContainsFunc_int_int.f
  repeat' with_reducible first | exact slices_IndexFunc_int_int.f_ap _ _ _ _ _ _ | refine Ap.bind ?_ fun _ => ?_ | exact Ap.refl _
def lts_Right_3.fc (fu : Nat) (a0 : Bs) : Option Bool :=
 (lts_name.fc fu a0).bind fun t252 =>
 some (!t252)
theorem lts_Right_3.f_ap (fu : Nat) (a0 : Bs) : Ap (lts_Right_3.fc fu a0) (lts_Right_3.f a0) := by
  unfold lts_Right_3.fc lts_Right_3.f
  repeat' with_reducible first | exact lts_name.f_ap _ _ | refine Ap.bind ?_ fun _ => ?_ | exact Ap.refl _
def slices_IndexFunc_string_string.l0bc (fu : Nat) (a0 : List Bs) (x853 : Int) : Option ((Int) ⊕ ((Unit) ⊕ (Int))) :=
 if x853 < (a0.length : Int) then
 if (0 : Int) ≤ x853 ∧ x853 < (a0.length : Int) then
 (lts_Right_3.fc fu (gt a0 x853)).bind fun t1067 =>
 if t1067 = true then
 upL (some x853)
 else
 nx (IntKind.i64.wrap (x853 + 1))
 else none
 else
 dn (.inl ())
theorem slices_IndexFunc_string_string.l0b_ap (fu : Nat) (a0 : List Bs) (x853 : Int) : Ap (slices_IndexFunc_string_string.l0bc fu a0 x853) (slices_IndexFunc_string_string.l0b a0 x853) := by
  unfold slices_IndexFunc_string_string.l0bc slices_IndexFunc_string_string.l0b
  repeat' with_reducible first | exact lts_Right_3.f_ap _ _ | exact Ap.none | refine Ap.ite ?_ ?_ | refine Ap.upL ?_ | refine Ap.bind ?_ fun _ => ?_ | exact Ap.refl _
def slices_IndexFunc_string_string.l0c (fu : Nat) (a0 : List Bs) (x853 : Int) : Option ((Unit) ⊕ (Int)) := iterC fu (fun t_ : Int => slices_IndexFunc_string_string.l0bc fu a0 t_) x853
theorem slices_IndexFunc_string_string.l0_ap (fu : Nat) (a0 : List Bs) (x853 : Int) : Ap (slices_IndexFunc_string_string.l0c fu a0 x853) (slices_IndexFunc_string_string.l0 a0 x853) := by
  unfold slices_IndexFunc_string_string.l0c slices_IndexFunc_string_string.l0
  repeat' with_reducible first | exact slices_IndexFunc_string_string.l0b_ap _ _ _ | refine Ap.iter fun _ => ?_ | exact Ap.refl _
def slices_IndexFunc_string_string.fc (fu : Nat) (a0 : List Bs) : Option Int :=
 jn (slices_IndexFunc_string_string.l0c fu a0 0) (fun (_ : Unit) =>
 some (-1))
theorem slices_IndexFunc_string_string.f_ap (fu : Nat) (a0 : List Bs) : Ap (slices_IndexFunc_string_string.fc fu a0) (slices_IndexFunc_string_string.f a0) := by
  unfold slices_IndexFunc_string_string.fc slices_IndexFunc_string_string.f
  repeat' with_reducible first | exact slices_IndexFunc_string_string.l0_ap _ _ _ | refine Ap.jn ?_ fun _ => ?_ | exact Ap.refl _
def slices_ContainsFunc_string_string.fc (fu : Nat) (a0 : List Bs) : Option Bool :=
 (slices_IndexFunc_string_string.fc fu a0).bind fun t252 =>
 some (decide (0 ≤ t252))
theorem slices_ContainsFunc_string_string.f_ap (fu : Nat) (a0 : List Bs) : Ap (slices_ContainsFunc_string_string.fc fu a0) (slices_ContainsFunc_string_string.f a0) := by
  unfold slices_ContainsFunc_string_string.fc slices_ContainsFunc_string_string.f
  repeat' with_reducible first | exact slices_IndexFunc_string_string.f_ap _ _ | refine Ap.bind ?_ fun _ => ?_ | exact Ap.refl _
def cmp_Or_int.l0bc (fu : Nat) (a0 : List Int) (x853 : Int) : Option ((Int) ⊕ ((Unit) ⊕ (Int))) :=
 if x853 < (a0.length : Int) then
 if (0 : Int) ≤ x853 ∧ x853 < (a0.length : Int) then
 if gt a0 x853 = 0 then
 nx (IntKind.i64.wrap (x853 + 1))
 else
 upL (some (gt a0 x853))
 else none
 else
 dn (.inl ())
theorem cmp_Or_int.l0b_ap (fu : Nat) (a0 : List Int) (x853 : Int) : Ap (cmp_Or_int.l0bc fu a0 x853) (cmp_Or_int.l0b a0 x853) := by
  unfold cmp_Or_int.l0bc cmp_Or_int.l0b
  repeat' with_reducible first | exact Ap.none | refine Ap.ite ?_ ?_ | refine Ap.upL ?_ | exact Ap.refl _
def cmp_Or_int.l0c (fu : Nat) (a0 : List Int) (x853 : Int) : Option ((Unit) ⊕ (Int)) := iterC fu (fun t_ : Int => cmp_Or_int.l0bc fu a0 t_) x853
theorem cmp_Or_int.l0_ap (fu : Nat) (a0 : List Int) (x853 : Int) : Ap (cmp_Or_int.l0c fu a0 x853) (cmp_Or_int.l0 a0 x853) := by
  unfold cmp_Or_int.l0c cmp_Or_int.l0
  repeat' with_reducible first | exact cmp_Or_int.l0b_ap _ _ _ | refine Ap.iter fun _ => ?_ | exact Ap.refl _
def cmp_Or_int.fc (fu : Nat) (a0 : List Int) : Option Int :=
 jn (cmp_Or_int.l0c fu a0 0) (fun (_ : Unit) =>
 some 0)
theorem cmp_Or_int.f_ap (fu : Nat) (a0 : List Int) : Ap (cmp_Or_int.fc fu a0) (cmp_Or_int.f a0) := by
  unfold cmp_Or_int.fc cmp_Or_int.f
  repeat' with_reducible first | exact cmp_Or_int.l0_ap _ _ _ | refine Ap.jn ?_ fun _ => ?_ | exact Ap.refl _
def lts_compare.fc (fu : Nat) (a0_0 : Int) (a0_1 : Int) (a0_2 : Int) (a1_0 : Int) (a1_1 : Int) (a1_2 : Int) : Option Int :=
 (cmp_Compare_int.fc fu a0_0 a1_0).bind fun t269 =>
 (cmp_Compare_int.fc fu a0_1 a1_1).bind fun t271 =>
 (cmp_Compare_int.fc fu a0_2 a1_2).bind fun t273 =>
 (cmp_Or_int.fc fu ([t269, t271, t273] : List Int)).bind fun t284 =>
 some t284
theorem lts_compare.f_ap (fu : Nat) (a0_0 : Int) (a0_1 : Int) (a0_2 : Int) (a1_0 : Int) (a1_1 : Int) (a1_2 : Int) : Ap (lts_compare.fc fu a0_0 a0_1 a0_2 a1_0 a1_1 a1_2) (lts_compare.f a0_0 a0_1 a0_2 a1_0 a1_1 a1_2) := by
  unfold lts_compare.fc lts_compare.f
  repeat' with_reducible first | exact cmp_Compare_int.f_ap _ _ _ | exact cmp_Or_int.f_ap _ _ | refine Ap.bind ?_ fun _ => ?_ | exact Ap.refl _
def lts_rises_api_Edge.l0bc (fu : Nat) (a0 : List api_Edge) (x853 : Int) : Option ((Int) ⊕ ((Unit) ⊕ (Bool))) :=
 if x853 < (a0.length : Int) then
 if (0 : Int) ≤ IntKind.i64.wrap (x853 - 1) ∧ IntKind.i64.wrap (x853 - 1) < (a0.length : Int) then
 if (0 : Int) ≤ x853 ∧ x853 < (a0.length : Int) then
 (lts_compare.fc fu ((gt a0 (IntKind.i64.wrap (x853 - 1))).From) ((gt a0 (IntKind.i64.wrap (x853 - 1))).Action) ((gt a0 (IntKind.i64.wrap (x853 - 1))).To) ((gt a0 x853).From) ((gt a0 x853).Action) ((gt a0 x853).To)).bind fun t1068 =>
 if 0 ≤ t1068 then
 upL (some false)
 else
 nx (IntKind.i64.wrap (x853 + 1))
 else none
 else none
 else
 dn (.inl ())
theorem lts_rises_api_Edge.l0b_ap (fu : Nat) (a0 : List api_Edge) (x853 : Int) : Ap (lts_rises_api_Edge.l0bc fu a0 x853) (lts_rises_api_Edge.l0b a0 x853) := by
  unfold lts_rises_api_Edge.l0bc lts_rises_api_Edge.l0b
  repeat' with_reducible first | exact lts_compare.f_ap _ _ _ _ _ _ _ | exact Ap.none | refine Ap.ite ?_ ?_ | refine Ap.upL ?_ | refine Ap.bind ?_ fun _ => ?_ | exact Ap.refl _
def lts_rises_api_Edge.l0c (fu : Nat) (a0 : List api_Edge) (x853 : Int) : Option ((Unit) ⊕ (Bool)) := iterC fu (fun t_ : Int => lts_rises_api_Edge.l0bc fu a0 t_) x853
theorem lts_rises_api_Edge.l0_ap (fu : Nat) (a0 : List api_Edge) (x853 : Int) : Ap (lts_rises_api_Edge.l0c fu a0 x853) (lts_rises_api_Edge.l0 a0 x853) := by
  unfold lts_rises_api_Edge.l0c lts_rises_api_Edge.l0
  repeat' with_reducible first | exact lts_rises_api_Edge.l0b_ap _ _ _ | refine Ap.iter fun _ => ?_ | exact Ap.refl _
def lts_rises_api_Edge.fc (fu : Nat) (a0 : List api_Edge) : Option Bool :=
 jn (lts_rises_api_Edge.l0c fu a0 1) (fun (_ : Unit) =>
 some true)
theorem lts_rises_api_Edge.f_ap (fu : Nat) (a0 : List api_Edge) : Ap (lts_rises_api_Edge.fc fu a0) (lts_rises_api_Edge.f a0) := by
  unfold lts_rises_api_Edge.fc lts_rises_api_Edge.f
  repeat' with_reducible first | exact lts_rises_api_Edge.l0_ap _ _ _ | refine Ap.jn ?_ fun _ => ?_ | exact Ap.refl _
def bytealg_CompareString.fc (fu : Nat) (a0 : Bs) (a1 : Bs) : Option Int :=
 some (Lib.compareBytes a0 a1)
theorem bytealg_CompareString.f_ap (fu : Nat) (a0 : Bs) (a1 : Bs) : Ap (bytealg_CompareString.fc fu a0 a1) (bytealg_CompareString.f a0 a1) := by
  unfold bytealg_CompareString.fc bytealg_CompareString.f
  repeat' with_reducible first | exact Ap.refl _
def strings_Compare.fc (fu : Nat) (a0 : Bs) (a1 : Bs) : Option Int :=
 (bytealg_CompareString.fc fu a0 a1).bind fun t252 =>
 some t252
theorem strings_Compare.f_ap (fu : Nat) (a0 : Bs) (a1 : Bs) : Ap (strings_Compare.fc fu a0 a1) (strings_Compare.f a0 a1) := by
  unfold strings_Compare.fc strings_Compare.f
  repeat' with_reducible first | exact bytealg_CompareString.f_ap _ _ _ | refine Ap.bind ?_ fun _ => ?_ | exact Ap.refl _
def lts_rises_string.l0bc (fu : Nat) (a0 : List Bs) (x853 : Int) : Option ((Int) ⊕ ((Unit) ⊕ (Bool))) :=
 if x853 < (a0.length : Int) then
 if (0 : Int) ≤ IntKind.i64.wrap (x853 - 1) ∧ IntKind.i64.wrap (x853 - 1) < (a0.length : Int) then
 if (0 : Int) ≤ x853 ∧ x853 < (a0.length : Int) then
 (strings_Compare.fc fu (gt a0 (IntKind.i64.wrap (x853 - 1))) (gt a0 x853)).bind fun t1068 =>
 if 0 ≤ t1068 then
 upL (some false)
 else
 nx (IntKind.i64.wrap (x853 + 1))
 else none
 else none
 else
 dn (.inl ())
theorem lts_rises_string.l0b_ap (fu : Nat) (a0 : List Bs) (x853 : Int) : Ap (lts_rises_string.l0bc fu a0 x853) (lts_rises_string.l0b a0 x853) := by
  unfold lts_rises_string.l0bc lts_rises_string.l0b
  repeat' with_reducible first | exact strings_Compare.f_ap _ _ _ | exact Ap.none | refine Ap.ite ?_ ?_ | refine Ap.upL ?_ | refine Ap.bind ?_ fun _ => ?_ | exact Ap.refl _
def lts_rises_string.l0c (fu : Nat) (a0 : List Bs) (x853 : Int) : Option ((Unit) ⊕ (Bool)) := iterC fu (fun t_ : Int => lts_rises_string.l0bc fu a0 t_) x853
theorem lts_rises_string.l0_ap (fu : Nat) (a0 : List Bs) (x853 : Int) : Ap (lts_rises_string.l0c fu a0 x853) (lts_rises_string.l0 a0 x853) := by
  unfold lts_rises_string.l0c lts_rises_string.l0
  repeat' with_reducible first | exact lts_rises_string.l0b_ap _ _ _ | refine Ap.iter fun _ => ?_ | exact Ap.refl _
def lts_rises_string.fc (fu : Nat) (a0 : List Bs) : Option Bool :=
 jn (lts_rises_string.l0c fu a0 1) (fun (_ : Unit) =>
 some true)
theorem lts_rises_string.f_ap (fu : Nat) (a0 : List Bs) : Ap (lts_rises_string.fc fu a0) (lts_rises_string.f a0) := by
  unfold lts_rises_string.fc lts_rises_string.f
  repeat' with_reducible first | exact lts_rises_string.l0_ap _ _ _ | refine Ap.jn ?_ fun _ => ?_ | exact Ap.refl _
def lts_byName.fc (fu : Nat) (a0_0 : Bs) (a0_1 : List Int) (a1_0 : Bs) (a1_1 : List Int) : Option Int :=
 (strings_Compare.fc fu a0_0 a1_0).bind fun t256 =>
 some t256
theorem lts_byName.f_ap (fu : Nat) (a0_0 : Bs) (a0_1 : List Int) (a1_0 : Bs) (a1_1 : List Int) : Ap (lts_byName.fc fu a0_0 a0_1 a1_0 a1_1) (lts_byName.f a0_0 a0_1 a1_0 a1_1) := by
  unfold lts_byName.fc lts_byName.f
  repeat' with_reducible first | exact strings_Compare.f_ap _ _ _ | refine Ap.bind ?_ fun _ => ?_ | exact Ap.refl _
def lts_rises_api_Prop.l0bc (fu : Nat) (a0 : List api_Prop) (x853 : Int) : Option ((Int) ⊕ ((Unit) ⊕ (Bool))) :=
 if x853 < (a0.length : Int) then
 if (0 : Int) ≤ IntKind.i64.wrap (x853 - 1) ∧ IntKind.i64.wrap (x853 - 1) < (a0.length : Int) then
 if (0 : Int) ≤ x853 ∧ x853 < (a0.length : Int) then
 (lts_byName.fc fu ((gt a0 (IntKind.i64.wrap (x853 - 1))).Name) ((gt a0 (IntKind.i64.wrap (x853 - 1))).States) ((gt a0 x853).Name) ((gt a0 x853).States)).bind fun t1082 =>
 if 0 ≤ t1082 then
 upL (some false)
 else
 nx (IntKind.i64.wrap (x853 + 1))
 else none
 else none
 else
 dn (.inl ())
theorem lts_rises_api_Prop.l0b_ap (fu : Nat) (a0 : List api_Prop) (x853 : Int) : Ap (lts_rises_api_Prop.l0bc fu a0 x853) (lts_rises_api_Prop.l0b a0 x853) := by
  unfold lts_rises_api_Prop.l0bc lts_rises_api_Prop.l0b
  repeat' with_reducible first | exact lts_byName.f_ap _ _ _ _ _ | exact Ap.none | refine Ap.ite ?_ ?_ | refine Ap.upL ?_ | refine Ap.bind ?_ fun _ => ?_ | exact Ap.refl _
def lts_rises_api_Prop.l0c (fu : Nat) (a0 : List api_Prop) (x853 : Int) : Option ((Unit) ⊕ (Bool)) := iterC fu (fun t_ : Int => lts_rises_api_Prop.l0bc fu a0 t_) x853
theorem lts_rises_api_Prop.l0_ap (fu : Nat) (a0 : List api_Prop) (x853 : Int) : Ap (lts_rises_api_Prop.l0c fu a0 x853) (lts_rises_api_Prop.l0 a0 x853) := by
  unfold lts_rises_api_Prop.l0c lts_rises_api_Prop.l0
  repeat' with_reducible first | exact lts_rises_api_Prop.l0b_ap _ _ _ | refine Ap.iter fun _ => ?_ | exact Ap.refl _
def lts_rises_api_Prop.fc (fu : Nat) (a0 : List api_Prop) : Option Bool :=
 jn (lts_rises_api_Prop.l0c fu a0 1) (fun (_ : Unit) =>
 some true)
theorem lts_rises_api_Prop.f_ap (fu : Nat) (a0 : List api_Prop) : Ap (lts_rises_api_Prop.fc fu a0) (lts_rises_api_Prop.f a0) := by
  unfold lts_rises_api_Prop.fc lts_rises_api_Prop.f
  repeat' with_reducible first | exact lts_rises_api_Prop.l0_ap _ _ _ | refine Ap.jn ?_ fun _ => ?_ | exact Ap.refl _
def lts_Right.l1bc (fu : Nat) (a0_0 : Int) (a0_1 : List Bs) (a0_2 : List api_Edge) (a0_3 : List api_Prop) (x2493 : Int) : Option ((Int) ⊕ ((Unit) ⊕ (Bool))) :=
 if x2493 < (a0_3.length : Int) then
 if (0 : Int) ≤ x2493 ∧ x2493 < (a0_3.length : Int) then
 (lts_name.fc fu ((gt a0_3 x2493).Name)).bind fun t3343 =>
 jn (
 if t3343 = true then
 (lts_rises_int.fc fu ((gt a0_3 x2493).States)).bind fun t3760 =>
 some (.inl (!t3760))
 else
 some (.inl true)) (fun (x3545 : Bool) =>
 jn (
 if x3545 = true then
 some (.inl true)
 else
 (slices_ContainsFunc_int_int.fc fu ((gt a0_3 x2493).States) a0_0 a0_1 a0_2 a0_3).bind fun t3757 =>
 some (.inl t3757)) (fun (x3750 : Bool) =>
 if x3750 = true then
 upL (some false)
 else
 nx (IntKind.i64.wrap (x2493 + 1))))
 else none
 else
 dn (.inl ())
theorem lts_Right.l1b_ap (fu : Nat) (a0_0 : Int) (a0_1 : List Bs) (a0_2 : List api_Edge) (a0_3 : List api_Prop) (x2493 : Int) : Ap (lts_Right.l1bc fu a0_0 a0_1 a0_2 a0_3 x2493) (lts_Right.l1b a0_0 a0_1 a0_2 a0_3 x2493) := by
  unfold lts_Right.l1bc lts_Right.l1b
  repeat' with_reducible first | exact lts_name.f_ap _ _ | exact lts_rises_int.f_ap _ _ | exact slices_ContainsFunc_int_int.f_ap _ _ _ _ _ _ | exact Ap.none | refine Ap.jn ?_ fun _ => ?_ | refine Ap.ite ?_ ?_ | refine Ap.upL ?_ | refine Ap.bind ?_ fun _ => ?_ | exact Ap.refl _
def lts_Right.l1c (fu : Nat) (a0_0 : Int) (a0_1 : List Bs) (a0_2 : List api_Edge) (a0_3 : List api_Prop) (x2493 : Int) : Option ((Unit) ⊕ (Bool)) := iterC fu (fun t_ : Int => lts_Right.l1bc fu a0_0 a0_1 a0_2 a0_3 t_) x2493
theorem lts_Right.l1_ap (fu : Nat) (a0_0 : Int) (a0_1 : List Bs) (a0_2 : List api_Edge) (a0_3 : List api_Prop) (x2493 : Int) : Ap (lts_Right.l1c fu a0_0 a0_1 a0_2 a0_3 x2493) (lts_Right.l1 a0_0 a0_1 a0_2 a0_3 x2493) := by
  unfold lts_Right.l1c lts_Right.l1
  repeat' with_reducible first | exact lts_Right.l1b_ap _ _ _ _ _ _ | refine Ap.iter fun _ => ?_ | exact Ap.refl _
def lts_Right.l0bc (fu : Nat) (a0_0 : Int) (a0_1 : List Bs) (a0_2 : List api_Edge) (a0_3 : List api_Prop) (x1678 : Int) (x1679 : Int) : Option ((Int × Int) ⊕ ((Int) ⊕ (Bool))) :=
 if x1679 < (a0_2.length : Int) then
 if (0 : Int) ≤ x1679 ∧ x1679 < (a0_2.length : Int) then
 (lts_Right_1.fc fu ((gt a0_2 x1679).From) a0_0 a0_1 a0_2 a0_3).bind fun t3765 =>
 jn (
 if t3765 = true then
 (lts_Right_1.fc fu ((gt a0_2 x1679).To) a0_0 a0_1 a0_2 a0_3).bind fun t4387 =>
 some (.inl (!t4387))
 else
 some (.inl true)) (fun (x3967 : Bool) =>
 jn (
 if x3967 = true then
 some (.inl true)
 else
 some (.inl (decide ((gt a0_2 x1679).Action < 0)))) (fun (x4172 : Bool) =>
 jn (
 if x4172 = true then
 some (.inl true)
 else
 some (.inl (decide ((a0_1.length : Int) ≤ (gt a0_2 x1679).Action)))) (fun (x4377 : Bool) =>
 if x4377 = true then
 upL (some false)
 else
 if (0 : Int) ≤ (gt a0_2 x1679).Action then
 nx (bor .u8 x1678 (Bw.shl .u8 1 ((gt a0_2 x1679).Action)), IntKind.i64.wrap (x1679 + 1))
 else none)))
 else none
 else
 dn (.inl x1678)
theorem lts_Right.l0b_ap (fu : Nat) (a0_0 : Int) (a0_1 : List Bs) (a0_2 : List api_Edge) (a0_3 : List api_Prop) (x1678 : Int) (x1679 : Int) : Ap (lts_Right.l0bc fu a0_0 a0_1 a0_2 a0_3 x1678 x1679) (lts_Right.l0b a0_0 a0_1 a0_2 a0_3 x1678 x1679) := by
  unfold lts_Right.l0bc lts_Right.l0b
  repeat' with_reducible first | exact lts_Right_1.f_ap _ _ _ _ _ _ | exact Ap.none | refine Ap.jn ?_ fun _ => ?_ | refine Ap.ite ?_ ?_ | refine Ap.upL ?_ | refine Ap.bind ?_ fun _ => ?_ | exact Ap.refl _
def lts_Right.l0c (fu : Nat) (a0_0 : Int) (a0_1 : List Bs) (a0_2 : List api_Edge) (a0_3 : List api_Prop) (x1678 : Int) (x1679 : Int) : Option ((Int) ⊕ (Bool)) := iterC fu (fun t_ : Int × Int => lts_Right.l0bc fu a0_0 a0_1 a0_2 a0_3 t_.1 t_.2) (x1678, x1679)
theorem lts_Right.l0_ap (fu : Nat) (a0_0 : Int) (a0_1 : List Bs) (a0_2 : List api_Edge) (a0_3 : List api_Prop) (x1678 : Int) (x1679 : Int) : Ap (lts_Right.l0c fu a0_0 a0_1 a0_2 a0_3 x1678 x1679) (lts_Right.l0 a0_0 a0_1 a0_2 a0_3 x1678 x1679) := by
  unfold lts_Right.l0c lts_Right.l0
  repeat' with_reducible first | exact lts_Right.l0b_ap _ _ _ _ _ _ _ | refine Ap.iter fun _ => ?_ | exact Ap.refl _
def lts_Right.fc (fu : Nat) (a0_0 : Int) (a0_1 : List Bs) (a0_2 : List api_Edge) (a0_3 : List api_Prop) : Option Bool :=
 jn (
 if a0_0 < 1 then
 some (.inl true)
 else
 some (.inl (decide (24 < a0_0)))) (fun (x454 : Bool) =>
 jn (
 if x454 = true then
 some (.inl true)
 else
 some (.inl (decide (8 < (a0_1.length : Int))))) (fun (x659 : Bool) =>
 jn (
 if x659 = true then
 some (.inl true)
 else
 some (.inl (decide (8 < (a0_3.length : Int))))) (fun (x864 : Bool) =>
 jn (
 if x864 = true then
 some (.inl true)
 else
 some (.inl (decide (200 < (a0_2.length : Int))))) (fun (x1069 : Bool) =>
 if x1069 = true then
 some false
 else
 jn (lts_Right.l0c fu a0_0 a0_1 a0_2 a0_3 0 0) (fun (x1880 : Int) =>
 jn (lts_Right.l1c fu a0_0 a0_1 a0_2 a0_3 0) (fun (_ : Unit) =>
 (slices_ContainsFunc_string_string.fc fu a0_1).bind fun t2705 =>
 jn (
 if t2705 = true then
 some (.inl true)
 else
 if (0 : Int) ≤ (a0_1.length : Int) then
 some (.inl (!(decide (x1880 = IntKind.u8.wrap ((Bw.shl .u8 1 (a0_1.length : Int)) - 1)))))
 else none) (fun (x2907 : Bool) =>
 if x2907 = true then
 some false
 else
 (lts_rises_api_Edge.fc fu a0_2).bind fun t2913 =>
 jn (
 if t2913 = true then
 (lts_rises_string.fc fu a0_1).bind fun t3329 =>
 some (.inl t3329)
 else
 some (.inl false)) (fun (x3115 : Bool) =>
 jn (
 if x3115 = true then
 (lts_rises_api_Prop.fc fu a0_3).bind fun t3326 =>
 some (.inl t3326)
 else
 some (.inl false)) (fun (x3320 : Bool) =>
 some x3320)))))))))
theorem lts_Right.f_ap (fu : Nat) (a0_0 : Int) (a0_1 : List Bs) (a0_2 : List api_Edge) (a0_3 : List api_Prop) : Ap (lts_Right.fc fu a0_0 a0_1 a0_2 a0_3) (lts_Right.f a0_0 a0_1 a0_2 a0_3) := by
  unfold lts_Right.fc lts_Right.f
  repeat' with_reducible first | exact lts_Right.l0_ap _ _ _ _ _ _ _ | exact lts_Right.l1_ap _ _ _ _ _ _ | exact slices_ContainsFunc_string_string.f_ap _ _ | exact lts_rises_api_Edge.f_ap _ _ | exact lts_rises_string.f_ap _ _ | exact lts_rises_api_Prop.f_ap _ _ | exact Ap.none | refine Ap.jn ?_ fun _ => ?_ | refine Ap.ite ?_ ?_ | refine Ap.bind ?_ fun _ => ?_ | exact Ap.refl _
def sets_Set_With.fc (fu : Nat) (a0_0 : Int) (a0_1 : Int) (a0_2 : Int) (a0_3 : Int) (a1 : Int) : Option (Int × Int × Int × Int) :=
 jn (
 if 0 ≤ a1 then
 some (.inl (decide (a1 < 256)))
 else
 some (.inl false)) (fun (x467 : Bool) =>
 if x467 = true then
 if (0 : Int) ≤ (Bw.shr .i64 a1 6) ∧ (Bw.shr .i64 a1 6) < (4 : Int) then
 if (Bw.shr .i64 a1 6) = 0 then
 if (0 : Int) ≤ IntKind.u64.wrap (band .i64 a1 63) then
 some (bor .u64 a0_0 (Bw.shl .u64 1 (IntKind.u64.wrap (band .i64 a1 63))), a0_1, a0_2, a0_3)
 else none
 else
 if (Bw.shr .i64 a1 6) = 1 then
 if (0 : Int) ≤ IntKind.u64.wrap (band .i64 a1 63) then
 some (a0_0, bor .u64 a0_1 (Bw.shl .u64 1 (IntKind.u64.wrap (band .i64 a1 63))), a0_2, a0_3)
 else none
 else
 if (Bw.shr .i64 a1 6) = 2 then
 if (0 : Int) ≤ IntKind.u64.wrap (band .i64 a1 63) then
 some (a0_0, a0_1, bor .u64 a0_2 (Bw.shl .u64 1 (IntKind.u64.wrap (band .i64 a1 63))), a0_3)
 else none
 else
 if (0 : Int) ≤ IntKind.u64.wrap (band .i64 a1 63) then
 some (a0_0, a0_1, a0_2, bor .u64 a0_3 (Bw.shl .u64 1 (IntKind.u64.wrap (band .i64 a1 63))))
 else none
 else none
 else
 some (a0_0, a0_1, a0_2, a0_3))
theorem sets_Set_With.f_ap (fu : Nat) (a0_0 : Int) (a0_1 : Int) (a0_2 : Int) (a0_3 : Int) (a1 : Int) : Ap (sets_Set_With.fc fu a0_0 a0_1 a0_2 a0_3 a1) (sets_Set_With.f a0_0 a0_1 a0_2 a0_3 a1) := by
  unfold sets_Set_With.fc sets_Set_With.f
  repeat' with_reducible first | exact Ap.none | refine Ap.jn ?_ fun _ => ?_ | refine Ap.ite ?_ ?_ | exact Ap.refl _
def sets_Of.l0bc (fu : Nat) (a0 : List Int) (x872 : Int) (x873 : Int) (x874 : Int) (x875 : Int) (x876 : Int) : Option ((Int × Int × Int × Int × Int) ⊕ ((Int × Int × Int × Int) ⊕ (Int × Int × Int × Int))) :=
 if x876 < (a0.length : Int) then
 if (0 : Int) ≤ x876 ∧ x876 < (a0.length : Int) then
 (sets_Set_With.fc fu x872 x873 x874 x875 (gt a0 x876)).bind fun t1094 =>
 nx (t1094.1, t1094.2.1, t1094.2.2.1, t1094.2.2.2, IntKind.i64.wrap (x876 + 1))
 else none
 else
 dn (.inl (x872, x873, x874, x875))
theorem sets_Of.l0b_ap (fu : Nat) (a0 : List Int) (x872 : Int) (x873 : Int) (x874 : Int) (x875 : Int) (x876 : Int) : Ap (sets_Of.l0bc fu a0 x872 x873 x874 x875 x876) (sets_Of.l0b a0 x872 x873 x874 x875 x876) := by
  unfold sets_Of.l0bc sets_Of.l0b
  repeat' with_reducible first | exact sets_Set_With.f_ap _ _ _ _ _ _ | exact Ap.none | refine Ap.ite ?_ ?_ | refine Ap.bind ?_ fun _ => ?_ | exact Ap.refl _
def sets_Of.l0c (fu : Nat) (a0 : List Int) (x872 : Int) (x873 : Int) (x874 : Int) (x875 : Int) (x876 : Int) : Option ((Int × Int × Int × Int) ⊕ (Int × Int × Int × Int)) := iterC fu (fun t_ : Int × Int × Int × Int × Int => sets_Of.l0bc fu a0 t_.1 t_.2.1 t_.2.2.1 t_.2.2.2.1 t_.2.2.2.2) (x872, x873, x874, x875, x876)
theorem sets_Of.l0_ap (fu : Nat) (a0 : List Int) (x872 : Int) (x873 : Int) (x874 : Int) (x875 : Int) (x876 : Int) : Ap (sets_Of.l0c fu a0 x872 x873 x874 x875 x876) (sets_Of.l0 a0 x872 x873 x874 x875 x876) := by
  unfold sets_Of.l0c sets_Of.l0
  repeat' with_reducible first | exact sets_Of.l0b_ap _ _ _ _ _ _ _ | refine Ap.iter fun _ => ?_ | exact Ap.refl _
def sets_Of.fc (fu : Nat) (a0 : List Int) : Option (Int × Int × Int × Int) :=
 jn (sets_Of.l0c fu a0 0 0 0 0 0) (fun (s_ : Int × Int × Int × Int) =>
 some (s_.1, s_.2.1, s_.2.2.1, s_.2.2.2))
theorem sets_Of.f_ap (fu : Nat) (a0 : List Int) : Ap (sets_Of.fc fu a0) (sets_Of.f a0) := by
  unfold sets_Of.fc sets_Of.f
  repeat' with_reducible first | exact sets_Of.l0_ap _ _ _ _ _ _ _ | refine Ap.jn ?_ fun _ => ?_ | exact Ap.refl _
def lts_New.l2bc (fu : Nat) (a0_1 : List Bs) (a0_2 : List api_Edge) (x1680 : Int) (x2502 : List (lts_edges × sets_Set)) (x2503 : Int) : Option (((List (lts_edges × sets_Set)) × Int) ⊕ (((List (lts_edges × sets_Set))) ⊕ (((List (lts_edges × sets_Set)) × Int) ⊕ (((List (lts_edges × sets_Set))) ⊕ ((Option lts_Table)))))) :=
 if x2503 < (([(gt a0_1 ((gt a0_2 x1680).Action)), ([45] : Bs)] : List Bs).length : Int) then
 if (0 : Int) ≤ x2503 ∧ x2503 < (([(gt a0_1 ((gt a0_2 x1680).Action)), ([45] : Bs)] : List Bs).length : Int) then
 (sets_Set_With.fc fu (((mget x2502 (⟨(gt a0_2 x1680).From, gt ([(gt a0_1 ((gt a0_2 x1680).Action)), ([45] : Bs)] : List Bs) x2503⟩ : lts_edges)).getD (⟨(0 : Int), (0 : Int), (0 : Int), (0 : Int)⟩ : sets_Set)).c0) (((mget x2502 (⟨(gt a0_2 x1680).From, gt ([(gt a0_1 ((gt a0_2 x1680).Action)), ([45] : Bs)] : List Bs) x2503⟩ : lts_edges)).getD (⟨(0 : Int), (0 : Int), (0 : Int), (0 : Int)⟩ : sets_Set)).c1) (((mget x2502 (⟨(gt a0_2 x1680).From, gt ([(gt a0_1 ((gt a0_2 x1680).Action)), ([45] : Bs)] : List Bs) x2503⟩ : lts_edges)).getD (⟨(0 : Int), (0 : Int), (0 : Int), (0 : Int)⟩ : sets_Set)).c2) (((mget x2502 (⟨(gt a0_2 x1680).From, gt ([(gt a0_1 ((gt a0_2 x1680).Action)), ([45] : Bs)] : List Bs) x2503⟩ : lts_edges)).getD (⟨(0 : Int), (0 : Int), (0 : Int), (0 : Int)⟩ : sets_Set)).c3) ((gt a0_2 x1680).To)).bind fun t2721 =>
 nx ((mset x2502 (⟨(gt a0_2 x1680).From, gt ([(gt a0_1 ((gt a0_2 x1680).Action)), ([45] : Bs)] : List Bs) x2503⟩ : lts_edges) (⟨t2721.1, t2721.2.1, t2721.2.2.1, t2721.2.2.2⟩ : sets_Set)), IntKind.i64.wrap (x2503 + 1))
 else none
 else
 dn (.inl x2502)
theorem lts_New.l2b_ap (fu : Nat) (a0_1 : List Bs) (a0_2 : List api_Edge) (x1680 : Int) (x2502 : List (lts_edges × sets_Set)) (x2503 : Int) : Ap (lts_New.l2bc fu a0_1 a0_2 x1680 x2502 x2503) (lts_New.l2b a0_1 a0_2 x1680 x2502 x2503) := by
  unfold lts_New.l2bc lts_New.l2b
  repeat' with_reducible first | exact sets_Set_With.f_ap _ _ _ _ _ _ | exact Ap.none | refine Ap.ite ?_ ?_ | refine Ap.bind ?_ fun _ => ?_ | exact Ap.refl _
def lts_New.l2c (fu : Nat) (a0_1 : List Bs) (a0_2 : List api_Edge) (x1680 : Int) (x2502 : List (lts_edges × sets_Set)) (x2503 : Int) : Option (((List (lts_edges × sets_Set))) ⊕ (((List (lts_edges × sets_Set)) × Int) ⊕ (((List (lts_edges × sets_Set))) ⊕ ((Option lts_Table))))) := iterC fu (fun t_ : (List (lts_edges × sets_Set)) × Int => lts_New.l2bc fu a0_1 a0_2 x1680 t_.1 t_.2) (x2502, x2503)
theorem lts_New.l2_ap (fu : Nat) (a0_1 : List Bs) (a0_2 : List api_Edge) (x1680 : Int) (x2502 : List (lts_edges × sets_Set)) (x2503 : Int) : Ap (lts_New.l2c fu a0_1 a0_2 x1680 x2502 x2503) (lts_New.l2 a0_1 a0_2 x1680 x2502 x2503) := by
  unfold lts_New.l2c lts_New.l2
  repeat' with_reducible first | exact lts_New.l2b_ap _ _ _ _ _ _ | refine Ap.iter fun _ => ?_ | exact Ap.refl _
def lts_New.l1bc (fu : Nat) (a0_1 : List Bs) (a0_2 : List api_Edge) (x1679 : List (lts_edges × sets_Set)) (x1680 : Int) : Option (((List (lts_edges × sets_Set)) × Int) ⊕ (((List (lts_edges × sets_Set))) ⊕ ((Option lts_Table)))) :=
 if x1680 < (a0_2.length : Int) then
 if (0 : Int) ≤ x1680 ∧ x1680 < (a0_2.length : Int) then
 if (0 : Int) ≤ (gt a0_2 x1680).Action ∧ (gt a0_2 x1680).Action < (a0_1.length : Int) then
 jn (lts_New.l2c fu a0_1 a0_2 x1680 x1679 0) (fun (x2704 : List (lts_edges × sets_Set)) =>
 nx (x2704, IntKind.i64.wrap (x1680 + 1)))
 else none
 else none
 else
 dn (.inl x1679)
theorem lts_New.l1b_ap (fu : Nat) (a0_1 : List Bs) (a0_2 : List api_Edge) (x1679 : List (lts_edges × sets_Set)) (x1680 : Int) : Ap (lts_New.l1bc fu a0_1 a0_2 x1679 x1680) (lts_New.l1b a0_1 a0_2 x1679 x1680) := by
  unfold lts_New.l1bc lts_New.l1b
  repeat' with_reducible first | exact lts_New.l2_ap _ _ _ _ _ _ | exact Ap.none | refine Ap.jn ?_ fun _ => ?_ | refine Ap.ite ?_ ?_ | exact Ap.refl _
def lts_New.l1c (fu : Nat) (a0_1 : List Bs) (a0_2 : List api_Edge) (x1679 : List (lts_edges × sets_Set)) (x1680 : Int) : Option (((List (lts_edges × sets_Set))) ⊕ ((Option lts_Table))) := iterC fu (fun t_ : (List (lts_edges × sets_Set)) × Int => lts_New.l1bc fu a0_1 a0_2 t_.1 t_.2) (x1679, x1680)
theorem lts_New.l1_ap (fu : Nat) (a0_1 : List Bs) (a0_2 : List api_Edge) (x1679 : List (lts_edges × sets_Set)) (x1680 : Int) : Ap (lts_New.l1c fu a0_1 a0_2 x1679 x1680) (lts_New.l1 a0_1 a0_2 x1679 x1680) := by
  unfold lts_New.l1c lts_New.l1
  repeat' with_reducible first | exact lts_New.l1b_ap _ _ _ _ _ | refine Ap.iter fun _ => ?_ | exact Ap.refl _
def lts_New.l0bc (fu : Nat) (a0_3 : List api_Prop) (x863 : List (Bs × sets_Set)) (x864 : Int) : Option (((List (Bs × sets_Set)) × Int) ⊕ (((List (Bs × sets_Set))) ⊕ ((Option lts_Table)))) :=
 if x864 < (a0_3.length : Int) then
 if (0 : Int) ≤ x864 ∧ x864 < (a0_3.length : Int) then
 (sets_Of.fc fu ((gt a0_3 x864).States)).bind fun t2735 =>
 nx ((mset x863 ((gt a0_3 x864).Name) (⟨t2735.1, t2735.2.1, t2735.2.2.1, t2735.2.2.2⟩ : sets_Set)), IntKind.i64.wrap (x864 + 1))
 else none
 else
 dn (.inl x863)
theorem lts_New.l0b_ap (fu : Nat) (a0_3 : List api_Prop) (x863 : List (Bs × sets_Set)) (x864 : Int) : Ap (lts_New.l0bc fu a0_3 x863 x864) (lts_New.l0b a0_3 x863 x864) := by
  unfold lts_New.l0bc lts_New.l0b
  repeat' with_reducible first | exact sets_Of.f_ap _ _ | exact Ap.none | refine Ap.ite ?_ ?_ | refine Ap.bind ?_ fun _ => ?_ | exact Ap.refl _
def lts_New.l0c (fu : Nat) (a0_3 : List api_Prop) (x863 : List (Bs × sets_Set)) (x864 : Int) : Option (((List (Bs × sets_Set))) ⊕ ((Option lts_Table))) := iterC fu (fun t_ : (List (Bs × sets_Set)) × Int => lts_New.l0bc fu a0_3 t_.1 t_.2) (x863, x864)
theorem lts_New.l0_ap (fu : Nat) (a0_3 : List api_Prop) (x863 : List (Bs × sets_Set)) (x864 : Int) : Ap (lts_New.l0c fu a0_3 x863 x864) (lts_New.l0 a0_3 x863 x864) := by
  unfold lts_New.l0c lts_New.l0
  repeat' with_reducible first | exact lts_New.l0b_ap _ _ _ _ | refine Ap.iter fun _ => ?_ | exact Ap.refl _
def lts_New.fc (fu : Nat) (a0_0 : Int) (a0_1 : List Bs) (a0_2 : List api_Edge) (a0_3 : List api_Prop) : Option (Option lts_Table) :=
 (lts_Right.fc fu a0_0 a0_1 a0_2 a0_3).bind fun t255 =>
 if t255 = true then
 jn (lts_New.l0c fu a0_3 ([] : List (Bs × sets_Set)) 0) (fun (x1065 : List (Bs × sets_Set)) =>
 jn (lts_New.l1c fu a0_1 a0_2 ([] : List (lts_edges × sets_Set)) 0) (fun (x1881 : List (lts_edges × sets_Set)) =>
 some (some (⟨a0_0, x1065, x1881⟩ : lts_Table))))
 else
 some none
theorem lts_New.f_ap (fu : Nat) (a0_0 : Int) (a0_1 : List Bs) (a0_2 : List api_Edge) (a0_3 : List api_Prop) : Ap (lts_New.fc fu a0_0 a0_1 a0_2 a0_3) (lts_New.f a0_0 a0_1 a0_2 a0_3) := by
  unfold lts_New.fc lts_New.f
  repeat' with_reducible first | exact lts_Right.f_ap _ _ _ _ _ | exact lts_New.l0_ap _ _ _ _ | exact lts_New.l1_ap _ _ _ _ _ | exact Ap.none | refine Ap.jn ?_ fun _ => ?_ | refine Ap.ite ?_ ?_ | refine Ap.bind ?_ fun _ => ?_ | exact Ap.refl _
def stringslite_IndexByte.fc (fu : Nat) (a0 : Bs) (a1 : Int) : Option Int :=
 some (Lib.indexByte a0 a1.toNat.toUInt8)
theorem stringslite_IndexByte.f_ap (fu : Nat) (a0 : Bs) (a1 : Int) : Ap (stringslite_IndexByte.fc fu a0 a1) (stringslite_IndexByte.f a0 a1) := by
  unfold stringslite_IndexByte.fc stringslite_IndexByte.f
  repeat' with_reducible first | exact Ap.refl _
def strings_IndexByte.fc (fu : Nat) (a0 : Bs) (a1 : Int) : Option Int :=
 (stringslite_IndexByte.fc fu a0 a1).bind fun t252 =>
 some t252
theorem strings_IndexByte.f_ap (fu : Nat) (a0 : Bs) (a1 : Int) : Ap (strings_IndexByte.fc fu a0 a1) (strings_IndexByte.f a0 a1) := by
  unfold strings_IndexByte.fc strings_IndexByte.f
  repeat' with_reducible first | exact stringslite_IndexByte.f_ap _ _ _ | refine Ap.bind ?_ fun _ => ?_ | exact Ap.refl _
def scan_kind.fc (fu : Nat) (a0 : Int) : Option Int :=
 if a0 = 10 then
 some 1
 else
 jn (
 if 97 ≤ a0 then
 some (.inl (decide (a0 ≤ 122)))
 else
 some (.inl false)) (fun (x453 : Bool) =>
 if x453 = true then
 some 2
 else
 jn (
 if 65 ≤ a0 then
 some (.inl (decide (a0 ≤ 90)))
 else
 some (.inl false)) (fun (x659 : Bool) =>
 if x659 = true then
 some 3
 else
 jn (
 if 48 ≤ a0 then
 some (.inl (decide (a0 ≤ 57)))
 else
 some (.inl false)) (fun (x865 : Bool) =>
 if x865 = true then
 some 4
 else
 jn (
 if 32 < a0 then
 some (.inl (decide (a0 < 127)))
 else
 some (.inl false)) (fun (x1071 : Bool) =>
 jn (
 if x1071 = true then
 some (.inl (!(decide (a0 = 95))))
 else
 some (.inl false)) (fun (x1276 : Bool) =>
 if x1276 = true then
 some 5
 else
 some 0)))))
theorem scan_kind.f_ap (fu : Nat) (a0 : Int) : Ap (scan_kind.fc fu a0) (scan_kind.f a0) := by
  unfold scan_kind.fc scan_kind.f
  repeat' with_reducible first | refine Ap.jn ?_ fun _ => ?_ | refine Ap.ite ?_ ?_ | exact Ap.refl _
def scan_long.l0bc (fu : Nat) (a1 : Bs) (x854 : Int) : Option ((Int) ⊕ ((Int) ⊕ (Int))) :=
 jn (
 if x854 < (a1.length : Int) then
 if (0 : Int) ≤ x854 ∧ x854 < (a1.length : Int) then
 some (.inl (decide (48 ≤ bat a1 x854)))
 else none
 else
 some (.inl false)) (fun (x1267 : Bool) =>
 jn (
 if x1267 = true then
 if (0 : Int) ≤ x854 ∧ x854 < (a1.length : Int) then
 some (.inl (decide (bat a1 x854 ≤ 57)))
 else none
 else
 some (.inl false)) (fun (x1472 : Bool) =>
 if x1472 = true then
 nx (IntKind.i64.wrap (x854 + 1))
 else
 dn (.inl x854)))
theorem scan_long.l0b_ap (fu : Nat) (a1 : Bs) (x854 : Int) : Ap (scan_long.l0bc fu a1 x854) (scan_long.l0b a1 x854) := by
  unfold scan_long.l0bc scan_long.l0b
  repeat' with_reducible first | exact Ap.none | refine Ap.jn ?_ fun _ => ?_ | refine Ap.ite ?_ ?_ | exact Ap.refl _
def scan_long.l0c (fu : Nat) (a1 : Bs) (x854 : Int) : Option ((Int) ⊕ (Int)) := iterC fu (fun t_ : Int => scan_long.l0bc fu a1 t_) x854
theorem scan_long.l0_ap (fu : Nat) (a1 : Bs) (x854 : Int) : Ap (scan_long.l0c fu a1 x854) (scan_long.l0 a1 x854) := by
  unfold scan_long.l0c scan_long.l0
  repeat' with_reducible first | exact scan_long.l0b_ap _ _ _ | refine Ap.iter fun _ => ?_ | exact Ap.refl _
def scan_long.l1bc (fu : Nat) (a1 : Bs) (x2085 : Int) : Option ((Int) ⊕ ((Int) ⊕ (Int))) :=
 jn (
 if x2085 < (a1.length : Int) then
 if (0 : Int) ≤ x2085 ∧ x2085 < (a1.length : Int) then
 jn (
 if bat a1 x2085 = 95 then
 some (.inl (true, true))
 else
 jn (
 if 97 ≤ bat a1 x2085 then
 some (.inl (true, decide (bat a1 x2085 ≤ 122)))
 else
 some (.inl (false, false))) (fun (s_ : Bool × Bool) =>
 some (.inl (false, s_.2)))) (fun (s_ : Bool × Bool) =>
 jn (
 if s_.2 = true then
 some (.inl (true, true))
 else
 jn (
 if 65 ≤ bat a1 x2085 then
 some (.inl (true, decide (bat a1 x2085 ≤ 90)))
 else
 some (.inl (false, false))) (fun (s_ : Bool × Bool) =>
 some (.inl (false, s_.2)))) (fun (s_ : Bool × Bool) =>
 jn (
 if s_.2 = true then
 some (.inl (true, true))
 else
 jn (
 if 48 ≤ bat a1 x2085 then
 some (.inl (true, decide (bat a1 x2085 ≤ 57)))
 else
 some (.inl (false, false))) (fun (s_ : Bool × Bool) =>
 some (.inl (false, s_.2)))) (fun (s_ : Bool × Bool) =>
 some (.inl s_.2))))
 else none
 else
 some (.inl false)) (fun (x2498 : Bool) =>
 if x2498 = true then
 nx (IntKind.i64.wrap (x2085 + 1))
 else
 dn (.inl x2085))
theorem scan_long.l1b_ap (fu : Nat) (a1 : Bs) (x2085 : Int) : Ap (scan_long.l1bc fu a1 x2085) (scan_long.l1b a1 x2085) := by
  unfold scan_long.l1bc scan_long.l1b
  repeat' with_reducible first | exact Ap.none | refine Ap.jn ?_ fun _ => ?_ | refine Ap.ite ?_ ?_ | exact Ap.refl _
def scan_long.l1c (fu : Nat) (a1 : Bs) (x2085 : Int) : Option ((Int) ⊕ (Int)) := iterC fu (fun t_ : Int => scan_long.l1bc fu a1 t_) x2085
theorem scan_long.l1_ap (fu : Nat) (a1 : Bs) (x2085 : Int) : Ap (scan_long.l1c fu a1 x2085) (scan_long.l1 a1 x2085) := by
  unfold scan_long.l1c scan_long.l1
  repeat' with_reducible first | exact scan_long.l1b_ap _ _ _ | refine Ap.iter fun _ => ?_ | exact Ap.refl _
def scan_long.l2bc (fu : Nat) (a1 : Bs) (x4350 : Int) : Option ((Int) ⊕ ((Int) ⊕ (Int))) :=
 jn (
 if x4350 < (a1.length : Int) then
 if (0 : Int) ≤ x4350 ∧ x4350 < (a1.length : Int) then
 jn (
 if bat a1 x4350 = 95 then
 some (.inl (true, true))
 else
 jn (
 if 97 ≤ bat a1 x4350 then
 some (.inl (true, decide (bat a1 x4350 ≤ 122)))
 else
 some (.inl (false, false))) (fun (s_ : Bool × Bool) =>
 some (.inl (false, s_.2)))) (fun (s_ : Bool × Bool) =>
 jn (
 if s_.2 = true then
 some (.inl (true, true))
 else
 jn (
 if 65 ≤ bat a1 x4350 then
 some (.inl (true, decide (bat a1 x4350 ≤ 90)))
 else
 some (.inl (false, false))) (fun (s_ : Bool × Bool) =>
 some (.inl (false, s_.2)))) (fun (s_ : Bool × Bool) =>
 jn (
 if s_.2 = true then
 some (.inl (true, true))
 else
 jn (
 if 48 ≤ bat a1 x4350 then
 some (.inl (true, decide (bat a1 x4350 ≤ 57)))
 else
 some (.inl (false, false))) (fun (s_ : Bool × Bool) =>
 some (.inl (false, s_.2)))) (fun (s_ : Bool × Bool) =>
 some (.inl s_.2))))
 else none
 else
 some (.inl false)) (fun (x4763 : Bool) =>
 if x4763 = true then
 nx (IntKind.i64.wrap (x4350 + 1))
 else
 dn (.inl x4350))
theorem scan_long.l2b_ap (fu : Nat) (a1 : Bs) (x4350 : Int) : Ap (scan_long.l2bc fu a1 x4350) (scan_long.l2b a1 x4350) := by
  unfold scan_long.l2bc scan_long.l2b
  repeat' with_reducible first | exact Ap.none | refine Ap.jn ?_ fun _ => ?_ | refine Ap.ite ?_ ?_ | exact Ap.refl _
def scan_long.l2c (fu : Nat) (a1 : Bs) (x4350 : Int) : Option ((Int) ⊕ (Int)) := iterC fu (fun t_ : Int => scan_long.l2bc fu a1 t_) x4350
theorem scan_long.l2_ap (fu : Nat) (a1 : Bs) (x4350 : Int) : Ap (scan_long.l2c fu a1 x4350) (scan_long.l2 a1 x4350) := by
  unfold scan_long.l2c scan_long.l2
  repeat' with_reducible first | exact scan_long.l2b_ap _ _ _ | refine Ap.iter fun _ => ?_ | exact Ap.refl _
def scan_long.fc (fu : Nat) (a0 : Int) (a1 : Bs) : Option Int :=
 if a0 = 4 then
 jn (scan_long.l0c fu a1 1) (fun (x1055 : Int) =>
 some x1055)
 else
 if a0 = 2 then
 jn (scan_long.l1c fu a1 1) (fun (x2286 : Int) =>
 some x2286)
 else
 if a0 = 3 then
 jn (scan_long.l2c fu a1 1) (fun (x4551 : Int) =>
 some x4551)
 else
 some 1
theorem scan_long.f_ap (fu : Nat) (a0 : Int) (a1 : Bs) : Ap (scan_long.fc fu a0 a1) (scan_long.f a0 a1) := by
  unfold scan_long.fc scan_long.f
  repeat' with_reducible first | exact scan_long.l0_ap _ _ _ | exact scan_long.l1_ap _ _ _ | exact scan_long.l2_ap _ _ _ | refine Ap.jn ?_ fun _ => ?_ | refine Ap.ite ?_ ?_ | exact Ap.refl _
def scan_value.l0bc (fu : Nat) (a0 : Bs) (x1061 : Int) (x1062 : Int) : Option ((Int × Int) ⊕ ((Int) ⊕ (Bool × Int))) :=
 if x1062 < (a0.length : Int) then
 if (0 : Int) ≤ x1062 ∧ x1062 < (a0.length : Int) then
 nx (IntKind.i64.wrap (IntKind.i64.wrap (10 * x1061) + (IntKind.i64.wrap (IntKind.u8.wrap (bat a0 x1062 - 48)))), IntKind.i64.wrap (x1062 + 1))
 else none
 else
 dn (.inl x1061)
theorem scan_value.l0b_ap (fu : Nat) (a0 : Bs) (x1061 : Int) (x1062 : Int) : Ap (scan_value.l0bc fu a0 x1061 x1062) (scan_value.l0b a0 x1061 x1062) := by
  unfold scan_value.l0bc scan_value.l0b
  repeat' with_reducible first | exact Ap.none | refine Ap.ite ?_ ?_ | exact Ap.refl _
def scan_value.l0c (fu : Nat) (a0 : Bs) (x1061 : Int) (x1062 : Int) : Option ((Int) ⊕ (Bool × Int)) := iterC fu (fun t_ : Int × Int => scan_value.l0bc fu a0 t_.1 t_.2) (x1061, x1062)
theorem scan_value.l0_ap (fu : Nat) (a0 : Bs) (x1061 : Int) (x1062 : Int) : Ap (scan_value.l0c fu a0 x1061 x1062) (scan_value.l0 a0 x1061 x1062) := by
  unfold scan_value.l0c scan_value.l0
  repeat' with_reducible first | exact scan_value.l0b_ap _ _ _ _ | refine Ap.iter fun _ => ?_ | exact Ap.refl _
def scan_value.fc (fu : Nat) (a0 : Bs) : Option (Bool × Int) :=
 jn (
 if 4 < (a0.length : Int) then
 some (.inl true)
 else
 jn (
 if 1 < (a0.length : Int) then
 if (0 : Int) ≤ 0 ∧ 0 < (a0.length : Int) then
 some (.inl (decide (bat a0 0 = 48)))
 else none
 else
 some (.inl false)) (fun (x1478 : Bool) =>
 some (.inl x1478))) (fun (x453 : Bool) =>
 if x453 = true then
 some (false, 0)
 else
 jn (scan_value.l0c fu a0 0 0) (fun (x1263 : Int) =>
 some (decide (x1263 ≤ 9999), x1263)))
theorem scan_value.f_ap (fu : Nat) (a0 : Bs) : Ap (scan_value.fc fu a0) (scan_value.f a0) := by
  unfold scan_value.fc scan_value.f
  repeat' with_reducible first | exact scan_value.l0_ap _ _ _ _ | exact Ap.none | refine Ap.jn ?_ fun _ => ?_ | refine Ap.ite ?_ ?_ | exact Ap.refl _
def scan_token.fc (fu : Nat) (a0 : Bs) (a1 : Int) : Option (Int × Int × Int × Bs × Int) :=
 if (0 : Int) ≤ a1 ∧ a1 < (a0.length : Int) then
 (scan_kind.fc fu (bat a0 a1)).bind fun t266 =>
 if (0 : Int) ≤ a1 ∧ a1 ≤ (a0.length : Int) then
 (scan_long.fc fu t266 (a0.drop a1.toNat)).bind fun t272 =>
 if (0 : Int) ≤ a1 ∧ a1 ≤ IntKind.i64.wrap (a1 + t272) ∧ IntKind.i64.wrap (a1 + t272) ≤ (a0.length : Int) then
 if t266 = 0 then
 some (3, t266, a1, (bsl a0 a1 (IntKind.i64.wrap (a1 + t272))), 0)
 else
 if t266 = 2 then
 if 8 < ((bsl a0 a1 (IntKind.i64.wrap (a1 + t272))).length : Int) then
 some (5, t266, a1, (bsl a0 a1 (IntKind.i64.wrap (a1 + t272))), 0)
 else
 some (0, t266, a1, (bsl a0 a1 (IntKind.i64.wrap (a1 + t272))), 0)
 else
 if t266 = 3 then
 if 8 < ((bsl a0 a1 (IntKind.i64.wrap (a1 + t272))).length : Int) then
 some (5, t266, a1, (bsl a0 a1 (IntKind.i64.wrap (a1 + t272))), 0)
 else
 some (0, t266, a1, (bsl a0 a1 (IntKind.i64.wrap (a1 + t272))), 0)
 else
 if t266 = 4 then
 (scan_value.fc fu (bsl a0 a1 (IntKind.i64.wrap (a1 + t272)))).bind fun t282 =>
 if t282.1 = true then
 some (0, t266, a1, (bsl a0 a1 (IntKind.i64.wrap (a1 + t272))), t282.2)
 else
 some (4, t266, a1, (bsl a0 a1 (IntKind.i64.wrap (a1 + t272))), 0)
 else
 some (0, t266, a1, (bsl a0 a1 (IntKind.i64.wrap (a1 + t272))), 0)
 else none
 else none
 else none
theorem scan_token.f_ap (fu : Nat) (a0 : Bs) (a1 : Int) : Ap (scan_token.fc fu a0 a1) (scan_token.f a0 a1) := by
  unfold scan_token.fc scan_token.f
  repeat' with_reducible first | exact scan_kind.f_ap _ _ | exact scan_long.f_ap _ _ _ | exact scan_value.f_ap _ _ | exact Ap.none | refine Ap.ite ?_ ?_ | refine Ap.bind ?_ fun _ => ?_ | exact Ap.refl _
def scan_All.l0bc (fu : Nat) (a0 : Bs) (x867 : List api_Token) (x872 : Int) : Option (((List api_Token) × Int) ⊕ (((List api_Token)) ⊕ ((Option api_Fault) × (List api_Token)))) :=
 if x872 < (a0.length : Int) then
 if (0 : Int) ≤ x872 ∧ x872 < (a0.length : Int) then
 jn (
 if bat a0 x872 = 32 then
 some (.inl true)
 else
 some (.inl (decide (bat a0 x872 = 9)))) (fun (x1297 : Bool) =>
 if x1297 = true then
 nx (x867, IntKind.i64.wrap (x872 + 1))
 else
 if bat a0 x872 = 35 then
 if (0 : Int) ≤ x872 ∧ x872 ≤ (a0.length : Int) then
 (strings_IndexByte.fc fu (a0.drop x872.toNat) 10).bind fun t1305 =>
 if t1305 < 0 then
 nx (x867, IntKind.i64.wrap (x872 + (IntKind.i64.wrap ((a0.length : Int) - x872))))
 else
 nx (x867, IntKind.i64.wrap (x872 + t1305))
 else none
 else
 (scan_token.fc fu a0 x872).bind fun t1308 =>
 if t1308.1 = 0 then
 if (x867.length + ([(⟨t1308.2.1, t1308.2.2.1, t1308.2.2.2.1, t1308.2.2.2.2⟩ : api_Token)] : List api_Token).length) * 40 ≤ 140737488355328 then
 nx ((x867 ++ ([(⟨t1308.2.1, t1308.2.2.1, t1308.2.2.2.1, t1308.2.2.2.2⟩ : api_Token)] : List api_Token)), IntKind.i64.wrap (x872 + (t1308.2.2.2.1.length : Int)))
 else none
 else
 upL (some ((some (⟨x872, t1308.1⟩ : api_Fault)), ([] : List api_Token))))
 else none
 else
 dn (.inl x867)
theorem scan_All.l0b_ap (fu : Nat) (a0 : Bs) (x867 : List api_Token) (x872 : Int) : Ap (scan_All.l0bc fu a0 x867 x872) (scan_All.l0b a0 x867 x872) := by
  unfold scan_All.l0bc scan_All.l0b
  repeat' with_reducible first | exact strings_IndexByte.f_ap _ _ _ | exact scan_token.f_ap _ _ _ | exact Ap.none | refine Ap.jn ?_ fun _ => ?_ | refine Ap.ite ?_ ?_ | refine Ap.upL ?_ | refine Ap.bind ?_ fun _ => ?_ | exact Ap.refl _
def scan_All.l0c (fu : Nat) (a0 : Bs) (x867 : List api_Token) (x872 : Int) : Option (((List api_Token)) ⊕ ((Option api_Fault) × (List api_Token))) := iterC fu (fun t_ : (List api_Token) × Int => scan_All.l0bc fu a0 t_.1 t_.2) (x867, x872)
theorem scan_All.l0_ap (fu : Nat) (a0 : Bs) (x867 : List api_Token) (x872 : Int) : Ap (scan_All.l0c fu a0 x867 x872) (scan_All.l0 a0 x867 x872) := by
  unfold scan_All.l0c scan_All.l0
  repeat' with_reducible first | exact scan_All.l0b_ap _ _ _ _ | refine Ap.iter fun _ => ?_ | exact Ap.refl _
def scan_All.fc (fu : Nat) (a0 : Bs) : Option ((Option api_Fault) × (List api_Token)) :=
 if 262144 < (a0.length : Int) then
 some ((some (⟨262144, 2⟩ : api_Fault)), ([] : List api_Token))
 else
 jn (scan_All.l0c fu a0 ([] : List api_Token) 0) (fun (x1073 : List api_Token) =>
 if (x1073.length + ([(⟨0, (a0.length : Int), ([] : Bs), 0⟩ : api_Token)] : List api_Token).length) * 40 ≤ 140737488355328 then
 some (none, (x1073 ++ ([(⟨0, (a0.length : Int), ([] : Bs), 0⟩ : api_Token)] : List api_Token)))
 else none)
theorem scan_All.f_ap (fu : Nat) (a0 : Bs) : Ap (scan_All.fc fu a0) (scan_All.f a0) := by
  unfold scan_All.fc scan_All.f
  repeat' with_reducible first | exact scan_All.l0_ap _ _ _ _ | exact Ap.none | refine Ap.jn ?_ fun _ => ?_ | refine Ap.ite ?_ ?_ | exact Ap.refl _
def lts_reader_blank.l0bc (fu : Nat) (x868 : List api_Token) : Option (((List api_Token)) ⊕ (((List api_Token)) ⊕ ((List api_Token)))) :=
 if (0 : Int) ≤ 0 ∧ 0 < (x868.length : Int) then
 if (gt x868 0).Kind = 1 then
 if (0 : Int) ≤ 1 ∧ 1 ≤ (x868.length : Int) then
 nx (x868.drop (1 : Int).toNat)
 else none
 else
 dn (.inl x868)
 else none
theorem lts_reader_blank.l0b_ap (fu : Nat) (x868 : List api_Token) : Ap (lts_reader_blank.l0bc fu x868) (lts_reader_blank.l0b x868) := by
  unfold lts_reader_blank.l0bc lts_reader_blank.l0b
  repeat' with_reducible first | exact Ap.none | refine Ap.ite ?_ ?_ | exact Ap.refl _
def lts_reader_blank.l0c (fu : Nat) (x868 : List api_Token) : Option (((List api_Token)) ⊕ ((List api_Token))) := iterC fu (fun t_ : (List api_Token) => lts_reader_blank.l0bc fu  t_) x868
theorem lts_reader_blank.l0_ap (fu : Nat) (x868 : List api_Token) : Ap (lts_reader_blank.l0c fu x868) (lts_reader_blank.l0 x868) := by
  unfold lts_reader_blank.l0c lts_reader_blank.l0
  repeat' with_reducible first | exact lts_reader_blank.l0b_ap _ _ | refine Ap.iter fun _ => ?_ | exact Ap.refl _
def lts_reader_blank.fc (fu : Nat) (a0_0 : List api_Token) (a0_1 : Option api_Fault) (a0_2 : Int) (a0_3 : List Bs) (a0_4 : List api_Edge) (a0_5 : List api_Prop) (a0_6 : List lts_step) (a0_7 : List (Bs × Bool)) : Option (List api_Token) :=
 jn (lts_reader_blank.l0c fu  a0_0) (fun (x1075 : List api_Token) =>
 some x1075)
theorem lts_reader_blank.f_ap (fu : Nat) (a0_0 : List api_Token) (a0_1 : Option api_Fault) (a0_2 : Int) (a0_3 : List Bs) (a0_4 : List api_Edge) (a0_5 : List api_Prop) (a0_6 : List lts_step) (a0_7 : List (Bs × Bool)) : Ap (lts_reader_blank.fc fu a0_0 a0_1 a0_2 a0_3 a0_4 a0_5 a0_6 a0_7) (lts_reader_blank.f a0_0 a0_1 a0_2 a0_3 a0_4 a0_5 a0_6 a0_7) := by
  unfold lts_reader_blank.fc lts_reader_blank.f
  repeat' with_reducible first | exact lts_reader_blank.l0_ap _ _ | refine Ap.jn ?_ fun _ => ?_ | exact Ap.refl _
def lts_reader_fail.fc (fu : Nat) (a0_0 : List api_Token) (a0_1 : Option api_Fault) (a0_2 : Int) (a0_3 : List Bs) (a0_4 : List api_Edge) (a0_5 : List api_Prop) (a0_6 : List lts_step) (a0_7 : List (Bs × Bool)) (a1_0 : Int) (a1_1 : Int) (a1_2 : Bs) (a1_3 : Int) (a2 : Int) : Option (Option api_Fault) :=
 if a0_1.isNone = true then
 some (some (⟨a1_1, a2⟩ : api_Fault))
 else
 some a0_1
theorem lts_reader_fail.f_ap (fu : Nat) (a0_0 : List api_Token) (a0_1 : Option api_Fault) (a0_2 : Int) (a0_3 : List Bs) (a0_4 : List api_Edge) (a0_5 : List api_Prop) (a0_6 : List lts_step) (a0_7 : List (Bs × Bool)) (a1_0 : Int) (a1_1 : Int) (a1_2 : Bs) (a1_3 : Int) (a2 : Int) : Ap (lts_reader_fail.fc fu a0_0 a0_1 a0_2 a0_3 a0_4 a0_5 a0_6 a0_7 a1_0 a1_1 a1_2 a1_3 a2) (lts_reader_fail.f a0_0 a0_1 a0_2 a0_3 a0_4 a0_5 a0_6 a0_7 a1_0 a1_1 a1_2 a1_3 a2) := by
  unfold lts_reader_fail.fc lts_reader_fail.f
  repeat' with_reducible first | refine Ap.ite ?_ ?_ | exact Ap.refl _
def lts_reader_want.fc (fu : Nat) (a0_0 : List api_Token) (a0_1 : Option api_Fault) (a0_2 : Int) (a0_3 : List Bs) (a0_4 : List api_Edge) (a0_5 : List api_Prop) (a0_6 : List lts_step) (a0_7 : List (Bs × Bool)) (a1 : Int) : Option ((Option api_Fault) × (List api_Token) × Int × Int × Bs × Int) :=
 if a0_1.isNone = true then
 if (0 : Int) ≤ 0 ∧ 0 < (a0_0.length : Int) then
 jn (
 if (gt a0_0 0).Kind = a1 then
 if (0 : Int) ≤ 1 ∧ 1 ≤ (a0_0.length : Int) then
 up (some (a0_1, (a0_0.drop (1 : Int).toNat), (gt a0_0 0).Kind, (gt a0_0 0).At, (gt a0_0 0).Text, (gt a0_0 0).Number))
 else none
 else
 if (gt a0_0 0).Kind = 0 then
 (lts_reader_fail.fc fu a0_0 a0_1 a0_2 a0_3 a0_4 a0_5 a0_6 a0_7 ((gt a0_0 0).Kind) ((gt a0_0 0).At) ((gt a0_0 0).Text) ((gt a0_0 0).Number) 6).bind fun t485 =>
 some (.inl t485)
 else
 (lts_reader_fail.fc fu a0_0 a0_1 a0_2 a0_3 a0_4 a0_5 a0_6 a0_7 ((gt a0_0 0).Kind) ((gt a0_0 0).At) ((gt a0_0 0).Text) ((gt a0_0 0).Number) 7).bind fun t489 =>
 some (.inl t489)) (fun (x477 : Option api_Fault) =>
 some (x477, a0_0, 0, 0, ([] : Bs), 0))
 else none
 else
 some (a0_1, a0_0, 0, 0, ([] : Bs), 0)
theorem lts_reader_want.f_ap (fu : Nat) (a0_0 : List api_Token) (a0_1 : Option api_Fault) (a0_2 : Int) (a0_3 : List Bs) (a0_4 : List api_Edge) (a0_5 : List api_Prop) (a0_6 : List lts_step) (a0_7 : List (Bs × Bool)) (a1 : Int) : Ap (lts_reader_want.fc fu a0_0 a0_1 a0_2 a0_3 a0_4 a0_5 a0_6 a0_7 a1) (lts_reader_want.f a0_0 a0_1 a0_2 a0_3 a0_4 a0_5 a0_6 a0_7 a1) := by
  unfold lts_reader_want.fc lts_reader_want.f
  repeat' with_reducible first | exact lts_reader_fail.f_ap _ _ _ _ _ _ _ _ _ _ _ _ _ _ | exact Ap.none | refine Ap.jn ?_ fun _ => ?_ | refine Ap.ite ?_ ?_ | refine Ap.up ?_ | refine Ap.bind ?_ fun _ => ?_ | exact Ap.refl _
def lts_reader_ends.fc (fu : Nat) (a0_0 : List api_Token) (a0_1 : Option api_Fault) (a0_2 : Int) (a0_3 : List Bs) (a0_4 : List api_Edge) (a0_5 : List api_Prop) (a0_6 : List lts_step) (a0_7 : List (Bs × Bool)) : Option Bool :=
 if (0 : Int) ≤ 0 ∧ 0 < (a0_0.length : Int) then
 jn (
 if (gt a0_0 0).Kind = 0 then
 some (.inl true)
 else
 some (.inl (decide ((gt a0_0 0).Kind = 1)))) (fun (x453 : Bool) =>
 some x453)
 else none
theorem lts_reader_ends.f_ap (fu : Nat) (a0_0 : List api_Token) (a0_1 : Option api_Fault) (a0_2 : Int) (a0_3 : List Bs) (a0_4 : List api_Edge) (a0_5 : List api_Prop) (a0_6 : List lts_step) (a0_7 : List (Bs × Bool)) : Ap (lts_reader_ends.fc fu a0_0 a0_1 a0_2 a0_3 a0_4 a0_5 a0_6 a0_7) (lts_reader_ends.f a0_0 a0_1 a0_2 a0_3 a0_4 a0_5 a0_6 a0_7) := by
  unfold lts_reader_ends.fc lts_reader_ends.f
  repeat' with_reducible first | exact Ap.none | refine Ap.jn ?_ fun _ => ?_ | refine Ap.ite ?_ ?_ | exact Ap.refl _
def lts_reader_end.fc (fu : Nat) (a0_0 : List api_Token) (a0_1 : Option api_Fault) (a0_2 : Int) (a0_3 : List Bs) (a0_4 : List api_Edge) (a0_5 : List api_Prop) (a0_6 : List lts_step) (a0_7 : List (Bs × Bool)) : Option (Option api_Fault) :=
 (lts_reader_ends.fc fu a0_0 a0_1 a0_2 a0_3 a0_4 a0_5 a0_6 a0_7).bind fun t253 =>
 if t253 = true then
 some a0_1
 else
 if (0 : Int) ≤ 0 ∧ 0 < (a0_0.length : Int) then
 (lts_reader_fail.fc fu a0_0 a0_1 a0_2 a0_3 a0_4 a0_5 a0_6 a0_7 ((gt a0_0 0).Kind) ((gt a0_0 0).At) ((gt a0_0 0).Text) ((gt a0_0 0).Number) 7).bind fun t257 =>
 some t257
 else none
theorem lts_reader_end.f_ap (fu : Nat) (a0_0 : List api_Token) (a0_1 : Option api_Fault) (a0_2 : Int) (a0_3 : List Bs) (a0_4 : List api_Edge) (a0_5 : List api_Prop) (a0_6 : List lts_step) (a0_7 : List (Bs × Bool)) : Ap (lts_reader_end.fc fu a0_0 a0_1 a0_2 a0_3 a0_4 a0_5 a0_6 a0_7) (lts_reader_end.f a0_0 a0_1 a0_2 a0_3 a0_4 a0_5 a0_6 a0_7) := by
  unfold lts_reader_end.fc lts_reader_end.f
  repeat' with_reducible first | exact lts_reader_ends.f_ap _ _ _ _ _ _ _ _ _ | exact lts_reader_fail.f_ap _ _ _ _ _ _ _ _ _ _ _ _ _ _ | exact Ap.none | refine Ap.ite ?_ ?_ | refine Ap.bind ?_ fun _ => ?_ | exact Ap.refl _
def lts_reader_head.fc (fu : Nat) (a0_0 : List api_Token) (a0_1 : Option api_Fault) (a0_2 : Int) (a0_3 : List Bs) (a0_4 : List api_Edge) (a0_5 : List api_Prop) (a0_6 : List lts_step) (a0_7 : List (Bs × Bool)) : Option ((Option api_Fault) × (List api_Token) × Int) :=
 (lts_reader_blank.fc fu a0_0 a0_1 a0_2 a0_3 a0_4 a0_5 a0_6 a0_7).bind fun t266 =>
 (lts_reader_want.fc fu t266 a0_1 a0_2 a0_3 a0_4 a0_5 a0_6 a0_7 2).bind fun t274 =>
 jn (
 if t274.1.isNone = true then
 some (.inl (!(bseqC t274.2.2.2.2.1 ([115, 116, 97, 116, 101, 115] : Bs))))
 else
 some (.inl false)) (fun (x485 : Bool) =>
 if x485 = true then
 (lts_reader_fail.fc fu t274.2.1 t274.1 a0_2 a0_3 a0_4 a0_5 a0_6 a0_7 t274.2.2.1 t274.2.2.2.1 t274.2.2.2.2.1 t274.2.2.2.2.2 7).bind fun t491 =>
 (lts_reader_want.fc fu t274.2.1 t491 a0_2 a0_3 a0_4 a0_5 a0_6 a0_7 4).bind fun t495 =>
 jn (
 if t495.1.isNone = true then
 jn (
 if t495.2.2.2.2.2 < 1 then
 some (.inl true)
 else
 some (.inl (decide (24 < t495.2.2.2.2.2)))) (fun (x923 : Bool) =>
 some (.inl x923))
 else
 some (.inl false)) (fun (x706 : Bool) =>
 if x706 = true then
 (lts_reader_fail.fc fu t495.2.1 t495.1 t495.2.2.2.2.2 a0_3 a0_4 a0_5 a0_6 a0_7 t495.2.2.1 t495.2.2.2.1 t495.2.2.2.2.1 t495.2.2.2.2.2 8).bind fun t712 =>
 (lts_reader_end.fc fu t495.2.1 t712 t495.2.2.2.2.2 a0_3 a0_4 a0_5 a0_6 a0_7).bind fun t716 =>
 some (t716, t495.2.1, t495.2.2.2.2.2)
 else
 (lts_reader_end.fc fu t495.2.1 t495.1 t495.2.2.2.2.2 a0_3 a0_4 a0_5 a0_6 a0_7).bind fun t719 =>
 some (t719, t495.2.1, t495.2.2.2.2.2))
 else
 (lts_reader_want.fc fu t274.2.1 t274.1 a0_2 a0_3 a0_4 a0_5 a0_6 a0_7 4).bind fun t929 =>
 jn (
 if t929.1.isNone = true then
 jn (
 if t929.2.2.2.2.2 < 1 then
 some (.inl true)
 else
 some (.inl (decide (24 < t929.2.2.2.2.2)))) (fun (x1357 : Bool) =>
 some (.inl x1357))
 else
 some (.inl false)) (fun (x1140 : Bool) =>
 if x1140 = true then
 (lts_reader_fail.fc fu t929.2.1 t929.1 t929.2.2.2.2.2 a0_3 a0_4 a0_5 a0_6 a0_7 t929.2.2.1 t929.2.2.2.1 t929.2.2.2.2.1 t929.2.2.2.2.2 8).bind fun t1146 =>
 (lts_reader_end.fc fu t929.2.1 t1146 t929.2.2.2.2.2 a0_3 a0_4 a0_5 a0_6 a0_7).bind fun t1150 =>
 some (t1150, t929.2.1, t929.2.2.2.2.2)
 else
 (lts_reader_end.fc fu t929.2.1 t929.1 t929.2.2.2.2.2 a0_3 a0_4 a0_5 a0_6 a0_7).bind fun t1153 =>
 some (t1153, t929.2.1, t929.2.2.2.2.2)))
theorem lts_reader_head.f_ap (fu : Nat) (a0_0 : List api_Token) (a0_1 : Option api_Fault) (a0_2 : Int) (a0_3 : List Bs) (a0_4 : List api_Edge) (a0_5 : List api_Prop) (a0_6 : List lts_step) (a0_7 : List (Bs × Bool)) : Ap (lts_reader_head.fc fu a0_0 a0_1 a0_2 a0_3 a0_4 a0_5 a0_6 a0_7) (lts_reader_head.f a0_0 a0_1 a0_2 a0_3 a0_4 a0_5 a0_6 a0_7) := by
  unfold lts_reader_head.fc lts_reader_head.f
  rw [bseq_bseqC]
  repeat' with_reducible first | exact lts_reader_blank.f_ap _ _ _ _ _ _ _ _ _ | exact lts_reader_want.f_ap _ _ _ _ _ _ _ _ _ _ | exact lts_reader_fail.f_ap _ _ _ _ _ _ _ _ _ _ _ _ _ _ | exact lts_reader_end.f_ap _ _ _ _ _ _ _ _ _ | refine Ap.jn ?_ fun _ => ?_ | refine Ap.ite ?_ ?_ | refine Ap.bind ?_ fun _ => ?_ | exact Ap.refl _
def lts_reader_state.fc (fu : Nat) (a0_0 : List api_Token) (a0_1 : Option api_Fault) (a0_2 : Int) (a0_3 : List Bs) (a0_4 : List api_Edge) (a0_5 : List api_Prop) (a0_6 : List lts_step) (a0_7 : List (Bs × Bool)) : Option ((Option api_Fault) × (List api_Token) × Int × Int × Int × Bs × Int) :=
 (lts_reader_want.fc fu a0_0 a0_1 a0_2 a0_3 a0_4 a0_5 a0_6 a0_7 4).bind fun t276 =>
 jn (
 if t276.1.isNone = true then
 some (.inl (decide (a0_2 ≤ t276.2.2.2.2.2)))
 else
 some (.inl false)) (fun (x487 : Bool) =>
 if x487 = true then
 (lts_reader_fail.fc fu t276.2.1 t276.1 a0_2 a0_3 a0_4 a0_5 a0_6 a0_7 t276.2.2.1 t276.2.2.2.1 t276.2.2.2.2.1 t276.2.2.2.2.2 8).bind fun t493 =>
 some (t493, t276.2.1, t276.2.2.2.2.2, t276.2.2.1, t276.2.2.2.1, t276.2.2.2.2.1, t276.2.2.2.2.2)
 else
 some (t276.1, t276.2.1, t276.2.2.2.2.2, t276.2.2.1, t276.2.2.2.1, t276.2.2.2.2.1, t276.2.2.2.2.2))
theorem lts_reader_state.f_ap (fu : Nat) (a0_0 : List api_Token) (a0_1 : Option api_Fault) (a0_2 : Int) (a0_3 : List Bs) (a0_4 : List api_Edge) (a0_5 : List api_Prop) (a0_6 : List lts_step) (a0_7 : List (Bs × Bool)) : Ap (lts_reader_state.fc fu a0_0 a0_1 a0_2 a0_3 a0_4 a0_5 a0_6 a0_7) (lts_reader_state.f a0_0 a0_1 a0_2 a0_3 a0_4 a0_5 a0_6 a0_7) := by
  unfold lts_reader_state.fc lts_reader_state.f
  repeat' with_reducible first | exact lts_reader_want.f_ap _ _ _ _ _ _ _ _ _ _ | exact lts_reader_fail.f_ap _ _ _ _ _ _ _ _ _ _ _ _ _ _ | refine Ap.jn ?_ fun _ => ?_ | refine Ap.ite ?_ ?_ | refine Ap.bind ?_ fun _ => ?_ | exact Ap.refl _
def lts_reader_named.fc (fu : Nat) (a0_0 : List api_Token) (a0_1 : Option api_Fault) (a0_2 : Int) (a0_3 : List Bs) (a0_4 : List api_Edge) (a0_5 : List api_Prop) (a0_6 : List lts_step) (a0_7 : List (Bs × Bool)) : Option ((Option api_Fault) × (List api_Token) × Int × Int × Bs × Int) :=
 (lts_reader_want.fc fu a0_0 a0_1 a0_2 a0_3 a0_4 a0_5 a0_6 a0_7 2).bind fun t275 =>
 jn (
 if t275.1.isNone = true then
 (lts_name.fc fu t275.2.2.2.2.1).bind fun t497 =>
 some (.inl (!t497))
 else
 some (.inl false)) (fun (x486 : Bool) =>
 if x486 = true then
 (lts_reader_fail.fc fu t275.2.1 t275.1 a0_2 a0_3 a0_4 a0_5 a0_6 a0_7 t275.2.2.1 t275.2.2.2.1 t275.2.2.2.2.1 t275.2.2.2.2.2 7).bind fun t492 =>
 some (t492, t275.2.1, t275.2.2.1, t275.2.2.2.1, t275.2.2.2.2.1, t275.2.2.2.2.2)
 else
 some (t275.1, t275.2.1, t275.2.2.1, t275.2.2.2.1, t275.2.2.2.2.1, t275.2.2.2.2.2))
theorem lts_reader_named.f_ap (fu : Nat) (a0_0 : List api_Token) (a0_1 : Option api_Fault) (a0_2 : Int) (a0_3 : List Bs) (a0_4 : List api_Edge) (a0_5 : List api_Prop) (a0_6 : List lts_step) (a0_7 : List (Bs × Bool)) : Ap (lts_reader_named.fc fu a0_0 a0_1 a0_2 a0_3 a0_4 a0_5 a0_6 a0_7) (lts_reader_named.f a0_0 a0_1 a0_2 a0_3 a0_4 a0_5 a0_6 a0_7) := by
  unfold lts_reader_named.fc lts_reader_named.f
  repeat' with_reducible first | exact lts_reader_want.f_ap _ _ _ _ _ _ _ _ _ _ | exact lts_name.f_ap _ _ | exact lts_reader_fail.f_ap _ _ _ _ _ _ _ _ _ _ _ _ _ _ | refine Ap.jn ?_ fun _ => ?_ | refine Ap.ite ?_ ?_ | refine Ap.bind ?_ fun _ => ?_ | exact Ap.refl _
def slices_Index_lts_step_lts_step.l0bc (fu : Nat) (a0 : List lts_step) (a1_0 : Int) (a1_1 : Bs) (a1_2 : Int) (x855 : Int) : Option ((Int) ⊕ ((Unit) ⊕ (Int))) :=
 if x855 < (a0.length : Int) then
 if (0 : Int) ≤ x855 ∧ x855 < (a0.length : Int) then
 if (decide (a1_0 = (gt a0 x855).from_) && (bseqC a1_1 ((gt a0 x855).action) && (decide (a1_2 = (gt a0 x855).to) && true))) = true then
 upL (some x855)
 else
 nx (IntKind.i64.wrap (x855 + 1))
 else none
 else
 dn (.inl ())
theorem slices_Index_lts_step_lts_step.l0b_ap (fu : Nat) (a0 : List lts_step) (a1_0 : Int) (a1_1 : Bs) (a1_2 : Int) (x855 : Int) : Ap (slices_Index_lts_step_lts_step.l0bc fu a0 a1_0 a1_1 a1_2 x855) (slices_Index_lts_step_lts_step.l0b a0 a1_0 a1_1 a1_2 x855) := by
  unfold slices_Index_lts_step_lts_step.l0bc slices_Index_lts_step_lts_step.l0b
  rw [bseq_bseqC]
  repeat' with_reducible first | exact Ap.none | refine Ap.ite ?_ ?_ | refine Ap.upL ?_ | exact Ap.refl _
def slices_Index_lts_step_lts_step.l0c (fu : Nat) (a0 : List lts_step) (a1_0 : Int) (a1_1 : Bs) (a1_2 : Int) (x855 : Int) : Option ((Unit) ⊕ (Int)) := iterC fu (fun t_ : Int => slices_Index_lts_step_lts_step.l0bc fu a0 a1_0 a1_1 a1_2 t_) x855
theorem slices_Index_lts_step_lts_step.l0_ap (fu : Nat) (a0 : List lts_step) (a1_0 : Int) (a1_1 : Bs) (a1_2 : Int) (x855 : Int) : Ap (slices_Index_lts_step_lts_step.l0c fu a0 a1_0 a1_1 a1_2 x855) (slices_Index_lts_step_lts_step.l0 a0 a1_0 a1_1 a1_2 x855) := by
  unfold slices_Index_lts_step_lts_step.l0c slices_Index_lts_step_lts_step.l0
  repeat' with_reducible first | exact slices_Index_lts_step_lts_step.l0b_ap _ _ _ _ _ _ | refine Ap.iter fun _ => ?_ | exact Ap.refl _
def slices_Index_lts_step_lts_step.fc (fu : Nat) (a0 : List lts_step) (a1_0 : Int) (a1_1 : Bs) (a1_2 : Int) : Option Int :=
 jn (slices_Index_lts_step_lts_step.l0c fu a0 a1_0 a1_1 a1_2 0) (fun (_ : Unit) =>
 some (-1))
theorem slices_Index_lts_step_lts_step.f_ap (fu : Nat) (a0 : List lts_step) (a1_0 : Int) (a1_1 : Bs) (a1_2 : Int) : Ap (slices_Index_lts_step_lts_step.fc fu a0 a1_0 a1_1 a1_2) (slices_Index_lts_step_lts_step.f a0 a1_0 a1_1 a1_2) := by
  unfold slices_Index_lts_step_lts_step.fc slices_Index_lts_step_lts_step.f
  repeat' with_reducible first | exact slices_Index_lts_step_lts_step.l0_ap _ _ _ _ _ _ | refine Ap.jn ?_ fun _ => ?_ | exact Ap.refl _
def slices_Contains_lts_step_lts_step.fc (fu : Nat) (a0 : List lts_step) (a1_0 : Int) (a1_1 : Bs) (a1_2 : Int) : Option Bool :=
 (slices_Index_lts_step_lts_step.fc fu a0 a1_0 a1_1 a1_2).bind fun t254 =>
 some (decide (0 ≤ t254))
theorem slices_Contains_lts_step_lts_step.f_ap (fu : Nat) (a0 : List lts_step) (a1_0 : Int) (a1_1 : Bs) (a1_2 : Int) : Ap (slices_Contains_lts_step_lts_step.fc fu a0 a1_0 a1_1 a1_2) (slices_Contains_lts_step_lts_step.f a0 a1_0 a1_1 a1_2) := by
  unfold slices_Contains_lts_step_lts_step.fc slices_Contains_lts_step_lts_step.f
  repeat' with_reducible first | exact slices_Index_lts_step_lts_step.f_ap _ _ _ _ _ | refine Ap.bind ?_ fun _ => ?_ | exact Ap.refl _
def lts_reader_edge.fc (fu : Nat) (a0_0 : List api_Token) (a0_1 : Option api_Fault) (a0_2 : Int) (a0_3 : List Bs) (a0_4 : List api_Edge) (a0_5 : List api_Prop) (a0_6 : List lts_step) (a0_7 : List (Bs × Bool)) (a1_0 : Int) (a1_1 : Int) (a1_2 : Bs) (a1_3 : Int) : Option ((List lts_step) × (List (Bs × Bool)) × (Option api_Fault) × (List api_Token)) :=
 if 200 ≤ (a0_6.length : Int) then
 (lts_reader_fail.fc fu a0_0 a0_1 a0_2 a0_3 a0_4 a0_5 a0_6 a0_7 a1_0 a1_1 a1_2 a1_3 10).bind fun t269 =>
 (lts_reader_state.fc fu a0_0 t269 a0_2 a0_3 a0_4 a0_5 a0_6 a0_7).bind fun t273 =>
 (lts_reader_named.fc fu t273.2.1 t273.1 a0_2 a0_3 a0_4 a0_5 a0_6 a0_7).bind fun t284 =>
 jn (
 if ((mget a0_7 t284.2.2.2.2.1).getD false) = true then
 some (.inl false)
 else
 some (.inl (decide (8 ≤ (a0_7.length : Int))))) (fun (x495 : Bool) =>
 if x495 = true then
 (lts_reader_fail.fc fu t284.2.1 t284.1 a0_2 a0_3 a0_4 a0_5 a0_6 a0_7 t284.2.2.1 t284.2.2.2.1 t284.2.2.2.2.1 t284.2.2.2.2.2 10).bind fun t501 =>
 (lts_reader_state.fc fu t284.2.1 t501 a0_2 a0_3 a0_4 a0_5 a0_6 a0_7).bind fun t505 =>
 jn (
 if t505.1.isNone = true then
 (slices_Contains_lts_step_lts_step.fc fu a0_6 t273.2.2.1 t284.2.2.2.2.1 t505.2.2.1).bind fun t1168 =>
 some (.inl t1168)
 else
 some (.inl false)) (fun (x723 : Bool) =>
 if x723 = true then
 (lts_reader_fail.fc fu t505.2.1 t505.1 a0_2 a0_3 a0_4 a0_5 a0_6 a0_7 t505.2.2.2.1 t505.2.2.2.2.1 t505.2.2.2.2.2.1 t505.2.2.2.2.2.2 9).bind fun t729 =>
 (lts_reader_end.fc fu t505.2.1 t729 a0_2 a0_3 a0_4 a0_5 a0_6 a0_7).bind fun t733 =>
 if (a0_6.length + ([(⟨t273.2.2.1, t284.2.2.2.2.1, t505.2.2.1⟩ : lts_step)] : List lts_step).length) * 32 ≤ 140737488355328 then
 some ((a0_6 ++ ([(⟨t273.2.2.1, t284.2.2.2.2.1, t505.2.2.1⟩ : lts_step)] : List lts_step)), (mset a0_7 t284.2.2.2.2.1 true), t733, t505.2.1)
 else none
 else
 (lts_reader_end.fc fu t505.2.1 t505.1 a0_2 a0_3 a0_4 a0_5 a0_6 a0_7).bind fun t950 =>
 if (a0_6.length + ([(⟨t273.2.2.1, t284.2.2.2.2.1, t505.2.2.1⟩ : lts_step)] : List lts_step).length) * 32 ≤ 140737488355328 then
 some ((a0_6 ++ ([(⟨t273.2.2.1, t284.2.2.2.2.1, t505.2.2.1⟩ : lts_step)] : List lts_step)), (mset a0_7 t284.2.2.2.2.1 true), t950, t505.2.1)
 else none)
 else
 (lts_reader_state.fc fu t284.2.1 t284.1 a0_2 a0_3 a0_4 a0_5 a0_6 a0_7).bind fun t1170 =>
 jn (
 if t1170.1.isNone = true then
 (slices_Contains_lts_step_lts_step.fc fu a0_6 t273.2.2.1 t284.2.2.2.2.1 t1170.2.2.1).bind fun t1833 =>
 some (.inl t1833)
 else
 some (.inl false)) (fun (x1388 : Bool) =>
 if x1388 = true then
 (lts_reader_fail.fc fu t1170.2.1 t1170.1 a0_2 a0_3 a0_4 a0_5 a0_6 a0_7 t1170.2.2.2.1 t1170.2.2.2.2.1 t1170.2.2.2.2.2.1 t1170.2.2.2.2.2.2 9).bind fun t1394 =>
 (lts_reader_end.fc fu t1170.2.1 t1394 a0_2 a0_3 a0_4 a0_5 a0_6 a0_7).bind fun t1398 =>
 if (a0_6.length + ([(⟨t273.2.2.1, t284.2.2.2.2.1, t1170.2.2.1⟩ : lts_step)] : List lts_step).length) * 32 ≤ 140737488355328 then
 some ((a0_6 ++ ([(⟨t273.2.2.1, t284.2.2.2.2.1, t1170.2.2.1⟩ : lts_step)] : List lts_step)), (mset a0_7 t284.2.2.2.2.1 true), t1398, t1170.2.1)
 else none
 else
 (lts_reader_end.fc fu t1170.2.1 t1170.1 a0_2 a0_3 a0_4 a0_5 a0_6 a0_7).bind fun t1615 =>
 if (a0_6.length + ([(⟨t273.2.2.1, t284.2.2.2.2.1, t1170.2.2.1⟩ : lts_step)] : List lts_step).length) * 32 ≤ 140737488355328 then
 some ((a0_6 ++ ([(⟨t273.2.2.1, t284.2.2.2.2.1, t1170.2.2.1⟩ : lts_step)] : List lts_step)), (mset a0_7 t284.2.2.2.2.1 true), t1615, t1170.2.1)
 else none))
 else
 (lts_reader_state.fc fu a0_0 a0_1 a0_2 a0_3 a0_4 a0_5 a0_6 a0_7).bind fun t1836 =>
 (lts_reader_named.fc fu t1836.2.1 t1836.1 a0_2 a0_3 a0_4 a0_5 a0_6 a0_7).bind fun t1847 =>
 jn (
 if ((mget a0_7 t1847.2.2.2.2.1).getD false) = true then
 some (.inl false)
 else
 some (.inl (decide (8 ≤ (a0_7.length : Int))))) (fun (x2058 : Bool) =>
 if x2058 = true then
 (lts_reader_fail.fc fu t1847.2.1 t1847.1 a0_2 a0_3 a0_4 a0_5 a0_6 a0_7 t1847.2.2.1 t1847.2.2.2.1 t1847.2.2.2.2.1 t1847.2.2.2.2.2 10).bind fun t2064 =>
 (lts_reader_state.fc fu t1847.2.1 t2064 a0_2 a0_3 a0_4 a0_5 a0_6 a0_7).bind fun t2068 =>
 jn (
 if t2068.1.isNone = true then
 (slices_Contains_lts_step_lts_step.fc fu a0_6 t1836.2.2.1 t1847.2.2.2.2.1 t2068.2.2.1).bind fun t2731 =>
 some (.inl t2731)
 else
 some (.inl false)) (fun (x2286 : Bool) =>
 if x2286 = true then
 (lts_reader_fail.fc fu t2068.2.1 t2068.1 a0_2 a0_3 a0_4 a0_5 a0_6 a0_7 t2068.2.2.2.1 t2068.2.2.2.2.1 t2068.2.2.2.2.2.1 t2068.2.2.2.2.2.2 9).bind fun t2292 =>
 (lts_reader_end.fc fu t2068.2.1 t2292 a0_2 a0_3 a0_4 a0_5 a0_6 a0_7).bind fun t2296 =>
 if (a0_6.length + ([(⟨t1836.2.2.1, t1847.2.2.2.2.1, t2068.2.2.1⟩ : lts_step)] : List lts_step).length) * 32 ≤ 140737488355328 then
 some ((a0_6 ++ ([(⟨t1836.2.2.1, t1847.2.2.2.2.1, t2068.2.2.1⟩ : lts_step)] : List lts_step)), (mset a0_7 t1847.2.2.2.2.1 true), t2296, t2068.2.1)
 else none
 else
 (lts_reader_end.fc fu t2068.2.1 t2068.1 a0_2 a0_3 a0_4 a0_5 a0_6 a0_7).bind fun t2513 =>
 if (a0_6.length + ([(⟨t1836.2.2.1, t1847.2.2.2.2.1, t2068.2.2.1⟩ : lts_step)] : List lts_step).length) * 32 ≤ 140737488355328 then
 some ((a0_6 ++ ([(⟨t1836.2.2.1, t1847.2.2.2.2.1, t2068.2.2.1⟩ : lts_step)] : List lts_step)), (mset a0_7 t1847.2.2.2.2.1 true), t2513, t2068.2.1)
 else none)
 else
 (lts_reader_state.fc fu t1847.2.1 t1847.1 a0_2 a0_3 a0_4 a0_5 a0_6 a0_7).bind fun t2733 =>
 jn (
 if t2733.1.isNone = true then
 (slices_Contains_lts_step_lts_step.fc fu a0_6 t1836.2.2.1 t1847.2.2.2.2.1 t2733.2.2.1).bind fun t3396 =>
 some (.inl t3396)
 else
 some (.inl false)) (fun (x2951 : Bool) =>
 if x2951 = true then
 (lts_reader_fail.fc fu t2733.2.1 t2733.1 a0_2 a0_3 a0_4 a0_5 a0_6 a0_7 t2733.2.2.2.1 t2733.2.2.2.2.1 t2733.2.2.2.2.2.1 t2733.2.2.2.2.2.2 9).bind fun t2957 =>
 (lts_reader_end.fc fu t2733.2.1 t2957 a0_2 a0_3 a0_4 a0_5 a0_6 a0_7).bind fun t2961 =>
 if (a0_6.length + ([(⟨t1836.2.2.1, t1847.2.2.2.2.1, t2733.2.2.1⟩ : lts_step)] : List lts_step).length) * 32 ≤ 140737488355328 then
 some ((a0_6 ++ ([(⟨t1836.2.2.1, t1847.2.2.2.2.1, t2733.2.2.1⟩ : lts_step)] : List lts_step)), (mset a0_7 t1847.2.2.2.2.1 true), t2961, t2733.2.1)
 else none
 else
 (lts_reader_end.fc fu t2733.2.1 t2733.1 a0_2 a0_3 a0_4 a0_5 a0_6 a0_7).bind fun t3178 =>
 if (a0_6.length + ([(⟨t1836.2.2.1, t1847.2.2.2.2.1, t2733.2.2.1⟩ : lts_step)] : List lts_step).length) * 32 ≤ 140737488355328 then
 some ((a0_6 ++ ([(⟨t1836.2.2.1, t1847.2.2.2.2.1, t2733.2.2.1⟩ : lts_step)] : List lts_step)), (mset a0_7 t1847.2.2.2.2.1 true), t3178, t2733.2.1)
 else none))
theorem lts_reader_edge.f_ap (fu : Nat) (a0_0 : List api_Token) (a0_1 : Option api_Fault) (a0_2 : Int) (a0_3 : List Bs) (a0_4 : List api_Edge) (a0_5 : List api_Prop) (a0_6 : List lts_step) (a0_7 : List (Bs × Bool)) (a1_0 : Int) (a1_1 : Int) (a1_2 : Bs) (a1_3 : Int) : Ap (lts_reader_edge.fc fu a0_0 a0_1 a0_2 a0_3 a0_4 a0_5 a0_6 a0_7 a1_0 a1_1 a1_2 a1_3) (lts_reader_edge.f a0_0 a0_1 a0_2 a0_3 a0_4 a0_5 a0_6 a0_7 a1_0 a1_1 a1_2 a1_3) := by
  unfold lts_reader_edge.fc lts_reader_edge.f
  repeat' with_reducible first | exact lts_reader_fail.f_ap _ _ _ _ _ _ _ _ _ _ _ _ _ _ | exact lts_reader_state.f_ap _ _ _ _ _ _ _ _ _ | exact lts_reader_named.f_ap _ _ _ _ _ _ _ _ _ | exact slices_Contains_lts_step_lts_step.f_ap _ _ _ _ _ | exact lts_reader_end.f_ap _ _ _ _ _ _ _ _ _ | exact Ap.none | refine Ap.jn ?_ fun _ => ?_ | refine Ap.ite ?_ ?_ | refine Ap.bind ?_ fun _ => ?_ | exact Ap.refl _
def lts_reader_mark_1.fc (fu : Nat) (a0_0 : Bs) (a0_1 : List Int) (a1_0 : Int) (a1_1 : Int) (a1_2 : Bs) (a1_3 : Int) : Option Bool :=
 some (bseqC a0_0 a1_2)
theorem lts_reader_mark_1.f_ap (fu : Nat) (a0_0 : Bs) (a0_1 : List Int) (a1_0 : Int) (a1_1 : Int) (a1_2 : Bs) (a1_3 : Int) : Ap (lts_reader_mark_1.fc fu a0_0 a0_1 a1_0 a1_1 a1_2 a1_3) (lts_reader_mark_1.f a0_0 a0_1 a1_0 a1_1 a1_2 a1_3) := by
  unfold lts_reader_mark_1.fc lts_reader_mark_1.f
  rw [bseq_bseqC]
  repeat' with_reducible first | exact Ap.refl _
def slices_IndexFunc_api_Prop_api_Prop.l0bc (fu : Nat) (a0 : List api_Prop) (a1_c0_0 : Int) (a1_c0_1 : Int) (a1_c0_2 : Bs) (a1_c0_3 : Int) (x853 : Int) : Option ((Int) ⊕ ((Unit) ⊕ (Int))) :=
 if x853 < (a0.length : Int) then
 if (0 : Int) ≤ x853 ∧ x853 < (a0.length : Int) then
 (lts_reader_mark_1.fc fu ((gt a0 x853).Name) ((gt a0 x853).States) a1_c0_0 a1_c0_1 a1_c0_2 a1_c0_3).bind fun t1074 =>
 if t1074 = true then
 upL (some x853)
 else
 nx (IntKind.i64.wrap (x853 + 1))
 else none
 else
 dn (.inl ())
theorem slices_IndexFunc_api_Prop_api_Prop.l0b_ap (fu : Nat) (a0 : List api_Prop) (a1_c0_0 : Int) (a1_c0_1 : Int) (a1_c0_2 : Bs) (a1_c0_3 : Int) (x853 : Int) : Ap (slices_IndexFunc_api_Prop_api_Prop.l0bc fu a0 a1_c0_0 a1_c0_1 a1_c0_2 a1_c0_3 x853) (slices_IndexFunc_api_Prop_api_Prop.l0b a0 a1_c0_0 a1_c0_1 a1_c0_2 a1_c0_3 x853) := by
  unfold slices_IndexFunc_api_Prop_api_Prop.l0bc slices_IndexFunc_api_Prop_api_Prop.l0b
  repeat' with_reducible first | exact lts_reader_mark_1.f_ap _ _ _ _ _ _ _ | exact Ap.none | refine Ap.ite ?_ ?_ | refine Ap.upL ?_ | refine Ap.bind ?_ fun _ => ?_ | exact Ap.refl _
def slices_IndexFunc_api_Prop_api_Prop.l0c (fu : Nat) (a0 : List api_Prop) (a1_c0_0 : Int) (a1_c0_1 : Int) (a1_c0_2 : Bs) (a1_c0_3 : Int) (x853 : Int) : Option ((Unit) ⊕ (Int)) := iterC fu (fun t_ : Int => slices_IndexFunc_api_Prop_api_Prop.l0bc fu a0 a1_c0_0 a1_c0_1 a1_c0_2 a1_c0_3 t_) x853
theorem slices_IndexFunc_api_Prop_api_Prop.l0_ap (fu : Nat) (a0 : List api_Prop) (a1_c0_0 : Int) (a1_c0_1 : Int) (a1_c0_2 : Bs) (a1_c0_3 : Int) (x853 : Int) : Ap (slices_IndexFunc_api_Prop_api_Prop.l0c fu a0 a1_c0_0 a1_c0_1 a1_c0_2 a1_c0_3 x853) (slices_IndexFunc_api_Prop_api_Prop.l0 a0 a1_c0_0 a1_c0_1 a1_c0_2 a1_c0_3 x853) := by
  unfold slices_IndexFunc_api_Prop_api_Prop.l0c slices_IndexFunc_api_Prop_api_Prop.l0
  repeat' with_reducible first | exact slices_IndexFunc_api_Prop_api_Prop.l0b_ap _ _ _ _ _ _ _ | refine Ap.iter fun _ => ?_ | exact Ap.refl _
def slices_IndexFunc_api_Prop_api_Prop.fc (fu : Nat) (a0 : List api_Prop) (a1_c0_0 : Int) (a1_c0_1 : Int) (a1_c0_2 : Bs) (a1_c0_3 : Int) : Option Int :=
 jn (slices_IndexFunc_api_Prop_api_Prop.l0c fu a0 a1_c0_0 a1_c0_1 a1_c0_2 a1_c0_3 0) (fun (_ : Unit) =>
 some (-1))
theorem slices_IndexFunc_api_Prop_api_Prop.f_ap (fu : Nat) (a0 : List api_Prop) (a1_c0_0 : Int) (a1_c0_1 : Int) (a1_c0_2 : Bs) (a1_c0_3 : Int) : Ap (slices_IndexFunc_api_Prop_api_Prop.fc fu a0 a1_c0_0 a1_c0_1 a1_c0_2 a1_c0_3) (slices_IndexFunc_api_Prop_api_Prop.f a0 a1_c0_0 a1_c0_1 a1_c0_2 a1_c0_3) := by
  unfold slices_IndexFunc_api_Prop_api_Prop.fc slices_IndexFunc_api_Prop_api_Prop.f
  repeat' with_reducible first | exact slices_IndexFunc_api_Prop_api_Prop.l0_ap _ _ _ _ _ _ _ | refine Ap.jn ?_ fun _ => ?_ | exact Ap.refl _
def slices_ContainsFunc_api_Prop_api_Prop.fc (fu : Nat) (a0 : List api_Prop) (a1_c0_0 : Int) (a1_c0_1 : Int) (a1_c0_2 : Bs) (a1_c0_3 : Int) : Option Bool :=
 (slices_IndexFunc_api_Prop_api_Prop.fc fu a0 a1_c0_0 a1_c0_1 a1_c0_2 a1_c0_3).bind fun t252 =>
 some (decide (0 ≤ t252))
theorem slices_ContainsFunc_api_Prop_api_Prop.f_ap (fu : Nat) (a0 : List api_Prop) (a1_c0_0 : Int) (a1_c0_1 : Int) (a1_c0_2 : Bs) (a1_c0_3 : Int) : Ap (slices_ContainsFunc_api_Prop_api_Prop.fc fu a0 a1_c0_0 a1_c0_1 a1_c0_2 a1_c0_3) (slices_ContainsFunc_api_Prop_api_Prop.f a0 a1_c0_0 a1_c0_1 a1_c0_2 a1_c0_3) := by
  unfold slices_ContainsFunc_api_Prop_api_Prop.fc slices_ContainsFunc_api_Prop_api_Prop.f
  repeat' with_reducible first | exact slices_IndexFunc_api_Prop_api_Prop.f_ap _ _ _ _ _ _ | refine Ap.bind ?_ fun _ => ?_ | exact Ap.refl _
def slices_Index_int_int.l0bc (fu : Nat) (a0 : List Int) (a1 : Int) (x853 : Int) : Option ((Int) ⊕ ((Unit) ⊕ (Int))) :=
 if x853 < (a0.length : Int) then
 if (0 : Int) ≤ x853 ∧ x853 < (a0.length : Int) then
 if a1 = gt a0 x853 then
 upL (some x853)
 else
 nx (IntKind.i64.wrap (x853 + 1))
 else none
 else
 dn (.inl ())
theorem slices_Index_int_int.l0b_ap (fu : Nat) (a0 : List Int) (a1 : Int) (x853 : Int) : Ap (slices_Index_int_int.l0bc fu a0 a1 x853) (slices_Index_int_int.l0b a0 a1 x853) := by
  unfold slices_Index_int_int.l0bc slices_Index_int_int.l0b
  repeat' with_reducible first | exact Ap.none | refine Ap.ite ?_ ?_ | refine Ap.upL ?_ | exact Ap.refl _
def slices_Index_int_int.l0c (fu : Nat) (a0 : List Int) (a1 : Int) (x853 : Int) : Option ((Unit) ⊕ (Int)) := iterC fu (fun t_ : Int => slices_Index_int_int.l0bc fu a0 a1 t_) x853
theorem slices_Index_int_int.l0_ap (fu : Nat) (a0 : List Int) (a1 : Int) (x853 : Int) : Ap (slices_Index_int_int.l0c fu a0 a1 x853) (slices_Index_int_int.l0 a0 a1 x853) := by
  unfold slices_Index_int_int.l0c slices_Index_int_int.l0
  repeat' with_reducible first | exact slices_Index_int_int.l0b_ap _ _ _ _ | refine Ap.iter fun _ => ?_ | exact Ap.refl _
def slices_Index_int_int.fc (fu : Nat) (a0 : List Int) (a1 : Int) : Option Int :=
 jn (slices_Index_int_int.l0c fu a0 a1 0) (fun (_ : Unit) =>
 some (-1))
theorem slices_Index_int_int.f_ap (fu : Nat) (a0 : List Int) (a1 : Int) : Ap (slices_Index_int_int.fc fu a0 a1) (slices_Index_int_int.f a0 a1) := by
  unfold slices_Index_int_int.fc slices_Index_int_int.f
  repeat' with_reducible first | exact slices_Index_int_int.l0_ap _ _ _ _ | refine Ap.jn ?_ fun _ => ?_ | exact Ap.refl _
def slices_Contains_int_int.fc (fu : Nat) (a0 : List Int) (a1 : Int) : Option Bool :=
 (slices_Index_int_int.fc fu a0 a1).bind fun t252 =>
 some (decide (0 ≤ t252))
theorem slices_Contains_int_int.f_ap (fu : Nat) (a0 : List Int) (a1 : Int) : Ap (slices_Contains_int_int.fc fu a0 a1) (slices_Contains_int_int.f a0 a1) := by
  unfold slices_Contains_int_int.fc slices_Contains_int_int.f
  repeat' with_reducible first | exact slices_Index_int_int.f_ap _ _ _ | refine Ap.bind ?_ fun _ => ?_ | exact Ap.refl _
def slices_Sort_int_int.fc (fu : Nat) (a0 : List Int) : Option (List Int) := soloC a0
theorem slices_Sort_int_int.f_ap (fu : Nat) (a0 : List Int) : Ap (slices_Sort_int_int.fc fu a0) (slices_Sort_int_int.f a0) := fun r h => by
  obtain ⟨rfl, h⟩ := solo_mem h
  rcases h with rfl | ⟨x, rfl⟩ <;> simp [slices_Sort_int_int.f]
def lts_reader_mark.l0bc (fu : Nat) (a0_2 : Int) (a0_3 : List Bs) (a0_4 : List api_Edge) (a0_5 : List api_Prop) (a0_6 : List lts_step) (a0_7 : List (Bs × Bool)) (x1101 : List Int) (x1107 : Option api_Fault) (x1111 : List api_Token) : Option (((List Int) × (Option api_Fault) × (List api_Token)) ⊕ (((Option api_Fault) × (List Int) × (List api_Token)) ⊕ ((List api_Prop) × (Option api_Fault) × (List api_Token)))) :=
 jn (
 if x1107.isNone = true then
 (lts_reader_ends.fc fu x1111 x1107 a0_2 a0_3 a0_4 a0_5 a0_6 a0_7).bind fun t2005 =>
 some (.inl (!t2005))
 else
 some (.inl false)) (fun (x1756 : Bool) =>
 if x1756 = true then
 (lts_reader_state.fc fu x1111 x1107 a0_2 a0_3 a0_4 a0_5 a0_6 a0_7).bind fun t1762 =>
 jn (
 if t1762.1.isNone = true then
 (slices_Contains_int_int.fc fu x1101 t1762.2.2.1).bind fun t2002 =>
 some (.inl t2002)
 else
 some (.inl false)) (fun (x1973 : Bool) =>
 if x1973 = true then
 (lts_reader_fail.fc fu t1762.2.1 t1762.1 a0_2 a0_3 a0_4 a0_5 a0_6 a0_7 t1762.2.2.2.1 t1762.2.2.2.2.1 t1762.2.2.2.2.2.1 t1762.2.2.2.2.2.2 9).bind fun t1979 =>
 if (x1101.length + ([t1762.2.2.1] : List Int).length) * 8 ≤ 140737488355328 then
 nx ((x1101 ++ ([t1762.2.2.1] : List Int)), t1979, t1762.2.1)
 else none
 else
 if (x1101.length + ([t1762.2.2.1] : List Int).length) * 8 ≤ 140737488355328 then
 nx ((x1101 ++ ([t1762.2.2.1] : List Int)), t1762.1, t1762.2.1)
 else none)
 else
 dn (.inl (x1107, x1101, x1111)))
theorem lts_reader_mark.l0b_ap (fu : Nat) (a0_2 : Int) (a0_3 : List Bs) (a0_4 : List api_Edge) (a0_5 : List api_Prop) (a0_6 : List lts_step) (a0_7 : List (Bs × Bool)) (x1101 : List Int) (x1107 : Option api_Fault) (x1111 : List api_Token) : Ap (lts_reader_mark.l0bc fu a0_2 a0_3 a0_4 a0_5 a0_6 a0_7 x1101 x1107 x1111) (lts_reader_mark.l0b a0_2 a0_3 a0_4 a0_5 a0_6 a0_7 x1101 x1107 x1111) := by
  unfold lts_reader_mark.l0bc lts_reader_mark.l0b
  repeat' with_reducible first | exact lts_reader_ends.f_ap _ _ _ _ _ _ _ _ _ | exact lts_reader_state.f_ap _ _ _ _ _ _ _ _ _ | exact slices_Contains_int_int.f_ap _ _ _ | exact lts_reader_fail.f_ap _ _ _ _ _ _ _ _ _ _ _ _ _ _ | exact Ap.none | refine Ap.jn ?_ fun _ => ?_ | refine Ap.ite ?_ ?_ | refine Ap.bind ?_ fun _ => ?_ | exact Ap.refl _
def lts_reader_mark.l0c (fu : Nat) (a0_2 : Int) (a0_3 : List Bs) (a0_4 : List api_Edge) (a0_5 : List api_Prop) (a0_6 : List lts_step) (a0_7 : List (Bs × Bool)) (x1101 : List Int) (x1107 : Option api_Fault) (x1111 : List api_Token) : Option (((Option api_Fault) × (List Int) × (List api_Token)) ⊕ ((List api_Prop) × (Option api_Fault) × (List api_Token))) := iterC fu (fun t_ : (List Int) × (Option api_Fault) × (List api_Token) => lts_reader_mark.l0bc fu a0_2 a0_3 a0_4 a0_5 a0_6 a0_7 t_.1 t_.2.1 t_.2.2) (x1101, x1107, x1111)
theorem lts_reader_mark.l0_ap (fu : Nat) (a0_2 : Int) (a0_3 : List Bs) (a0_4 : List api_Edge) (a0_5 : List api_Prop) (a0_6 : List lts_step) (a0_7 : List (Bs × Bool)) (x1101 : List Int) (x1107 : Option api_Fault) (x1111 : List api_Token) : Ap (lts_reader_mark.l0c fu a0_2 a0_3 a0_4 a0_5 a0_6 a0_7 x1101 x1107 x1111) (lts_reader_mark.l0 a0_2 a0_3 a0_4 a0_5 a0_6 a0_7 x1101 x1107 x1111) := by
  unfold lts_reader_mark.l0c lts_reader_mark.l0
  repeat' with_reducible first | exact lts_reader_mark.l0b_ap _ _ _ _ _ _ _ _ _ _ | refine Ap.iter fun _ => ?_ | exact Ap.refl _
def lts_reader_mark.fc (fu : Nat) (a0_0 : List api_Token) (a0_1 : Option api_Fault) (a0_2 : Int) (a0_3 : List Bs) (a0_4 : List api_Edge) (a0_5 : List api_Prop) (a0_6 : List lts_step) (a0_7 : List (Bs × Bool)) : Option ((List api_Prop) × (Option api_Fault) × (List api_Token)) :=
 (lts_reader_named.fc fu a0_0 a0_1 a0_2 a0_3 a0_4 a0_5 a0_6 a0_7).bind fun t270 =>
 jn (
 if t270.1.isNone = true then
 if 8 ≤ (a0_5.length : Int) then
 (lts_reader_fail.fc fu t270.2.1 t270.1 a0_2 a0_3 a0_4 a0_5 a0_6 a0_7 t270.2.2.1 t270.2.2.2.1 t270.2.2.2.2.1 t270.2.2.2.2.2 10).bind fun t2009 =>
 some (.inl t2009)
 else
 (slices_ContainsFunc_api_Prop_api_Prop.fc fu a0_5 t270.2.2.1 t270.2.2.2.1 t270.2.2.2.2.1 t270.2.2.2.2.2).bind fun t2019 =>
 if t2019 = true then
 (lts_reader_fail.fc fu t270.2.1 t270.1 a0_2 a0_3 a0_4 a0_5 a0_6 a0_7 t270.2.2.1 t270.2.2.2.1 t270.2.2.2.2.1 t270.2.2.2.2.2 9).bind fun t2022 =>
 some (.inl t2022)
 else
 some (.inl t270.1)
 else
 up (some (a0_5, t270.1, t270.2.1))) (fun (x486 : Option api_Fault) =>
 jn (lts_reader_mark.l0c fu a0_2 a0_3 a0_4 a0_5 a0_6 a0_7 ([] : List Int) x486 t270.2.1) (fun (s_ : (Option api_Fault) × (List Int) × (List api_Token)) =>
 (slices_Sort_int_int.fc fu s_.2.1).bind fun t1340 =>
 if (a0_5.length + 1) * 40 ≤ 140737488355328 then
 some ((a0_5 ++ [(⟨t270.2.2.2.2.1, t1340⟩ : api_Prop)]), s_.1, s_.2.2)
 else none))
theorem lts_reader_mark.f_ap (fu : Nat) (a0_0 : List api_Token) (a0_1 : Option api_Fault) (a0_2 : Int) (a0_3 : List Bs) (a0_4 : List api_Edge) (a0_5 : List api_Prop) (a0_6 : List lts_step) (a0_7 : List (Bs × Bool)) : Ap (lts_reader_mark.fc fu a0_0 a0_1 a0_2 a0_3 a0_4 a0_5 a0_6 a0_7) (lts_reader_mark.f a0_0 a0_1 a0_2 a0_3 a0_4 a0_5 a0_6 a0_7) := by
  unfold lts_reader_mark.fc lts_reader_mark.f
  repeat' with_reducible first | exact lts_reader_named.f_ap _ _ _ _ _ _ _ _ _ | exact lts_reader_fail.f_ap _ _ _ _ _ _ _ _ _ _ _ _ _ _ | exact slices_ContainsFunc_api_Prop_api_Prop.f_ap _ _ _ _ _ _ | exact lts_reader_mark.l0_ap _ _ _ _ _ _ _ _ _ _ | exact slices_Sort_int_int.f_ap _ _ | exact Ap.none | refine Ap.jn ?_ fun _ => ?_ | refine Ap.ite ?_ ?_ | refine Ap.up ?_ | refine Ap.bind ?_ fun _ => ?_ | exact Ap.refl _
def slices_Sort_string_string.fc (fu : Nat) (a0 : List Bs) : Option (List Bs) := soloC a0
theorem slices_Sort_string_string.f_ap (fu : Nat) (a0 : List Bs) : Ap (slices_Sort_string_string.fc fu a0) (slices_Sort_string_string.f a0) := fun r h => by
  obtain ⟨rfl, h⟩ := solo_mem h
  rcases h with rfl | ⟨x, rfl⟩ <;> simp [slices_Sort_string_string.f]
def slices_Index_string_string.l0bc (fu : Nat) (a0 : List Bs) (a1 : Bs) (x853 : Int) : Option ((Int) ⊕ ((Unit) ⊕ (Int))) :=
 if x853 < (a0.length : Int) then
 if (0 : Int) ≤ x853 ∧ x853 < (a0.length : Int) then
 if bseqC a1 (gt a0 x853) = true then
 upL (some x853)
 else
 nx (IntKind.i64.wrap (x853 + 1))
 else none
 else
 dn (.inl ())
theorem slices_Index_string_string.l0b_ap (fu : Nat) (a0 : List Bs) (a1 : Bs) (x853 : Int) : Ap (slices_Index_string_string.l0bc fu a0 a1 x853) (slices_Index_string_string.l0b a0 a1 x853) := by
  unfold slices_Index_string_string.l0bc slices_Index_string_string.l0b
  rw [bseq_bseqC]
  repeat' with_reducible first | exact Ap.none | refine Ap.ite ?_ ?_ | refine Ap.upL ?_ | exact Ap.refl _
def slices_Index_string_string.l0c (fu : Nat) (a0 : List Bs) (a1 : Bs) (x853 : Int) : Option ((Unit) ⊕ (Int)) := iterC fu (fun t_ : Int => slices_Index_string_string.l0bc fu a0 a1 t_) x853
theorem slices_Index_string_string.l0_ap (fu : Nat) (a0 : List Bs) (a1 : Bs) (x853 : Int) : Ap (slices_Index_string_string.l0c fu a0 a1 x853) (slices_Index_string_string.l0 a0 a1 x853) := by
  unfold slices_Index_string_string.l0c slices_Index_string_string.l0
  repeat' with_reducible first | exact slices_Index_string_string.l0b_ap _ _ _ _ | refine Ap.iter fun _ => ?_ | exact Ap.refl _
def slices_Index_string_string.fc (fu : Nat) (a0 : List Bs) (a1 : Bs) : Option Int :=
 jn (slices_Index_string_string.l0c fu a0 a1 0) (fun (_ : Unit) =>
 some (-1))
theorem slices_Index_string_string.f_ap (fu : Nat) (a0 : List Bs) (a1 : Bs) : Ap (slices_Index_string_string.fc fu a0 a1) (slices_Index_string_string.f a0 a1) := by
  unfold slices_Index_string_string.fc slices_Index_string_string.f
  repeat' with_reducible first | exact slices_Index_string_string.l0_ap _ _ _ _ | refine Ap.jn ?_ fun _ => ?_ | exact Ap.refl _
def slices_SortFunc_api_Edge_api_Edge.fc (fu : Nat) (a0 : List api_Edge) : Option (List api_Edge) := soloC a0
theorem slices_SortFunc_api_Edge_api_Edge.f_ap (fu : Nat) (a0 : List api_Edge) : Ap (slices_SortFunc_api_Edge_api_Edge.fc fu a0) (slices_SortFunc_api_Edge_api_Edge.f a0) := fun r h => by
  obtain ⟨rfl, h⟩ := solo_mem h
  rcases h with rfl | ⟨x, rfl⟩ <;> simp [slices_SortFunc_api_Edge_api_Edge.f, byCmp, CmpParts, edge_tot]
def slices_SortFunc_api_Prop_api_Prop.fc (fu : Nat) (a0 : List api_Prop) : Option (List api_Prop) := soloC a0
theorem slices_SortFunc_api_Prop_api_Prop.f_ap (fu : Nat) (a0 : List api_Prop) : Ap (slices_SortFunc_api_Prop_api_Prop.fc fu a0) (slices_SortFunc_api_Prop_api_Prop.f a0) := fun r h => by
  obtain ⟨rfl, h⟩ := solo_mem h
  rcases h with rfl | ⟨x, rfl⟩ <;> simp [slices_SortFunc_api_Prop_api_Prop.f, byCmp, CmpParts, prop_swo]
def lts_reader_system.l1bc (fu : Nat) (a0_6 : List lts_step) (t1103 : List Bs) (x1712 : List api_Edge) (x1718 : Int) : Option (((List api_Edge) × Int) ⊕ (((List api_Edge)) ⊕ ((List api_Prop) × (List api_Edge) × (List Bs) × Int))) :=
 if x1718 < (a0_6.length : Int) then
 if (0 : Int) ≤ x1718 ∧ x1718 < (a0_6.length : Int) then
 (slices_Index_string_string.fc fu t1103 ((gt a0_6 x1718).action)).bind fun t1953 =>
 if (x1712.length + ([(⟨(gt a0_6 x1718).from_, t1953, (gt a0_6 x1718).to⟩ : api_Edge)] : List api_Edge).length) * 24 ≤ 140737488355328 then
 nx ((x1712 ++ ([(⟨(gt a0_6 x1718).from_, t1953, (gt a0_6 x1718).to⟩ : api_Edge)] : List api_Edge)), IntKind.i64.wrap (x1718 + 1))
 else none
 else none
 else
 dn (.inl x1712)
theorem lts_reader_system.l1b_ap (fu : Nat) (a0_6 : List lts_step) (t1103 : List Bs) (x1712 : List api_Edge) (x1718 : Int) : Ap (lts_reader_system.l1bc fu a0_6 t1103 x1712 x1718) (lts_reader_system.l1b a0_6 t1103 x1712 x1718) := by
  unfold lts_reader_system.l1bc lts_reader_system.l1b
  repeat' with_reducible first | exact slices_Index_string_string.f_ap _ _ _ | exact Ap.none | refine Ap.ite ?_ ?_ | refine Ap.bind ?_ fun _ => ?_ | exact Ap.refl _
def lts_reader_system.l1c (fu : Nat) (a0_6 : List lts_step) (t1103 : List Bs) (x1712 : List api_Edge) (x1718 : Int) : Option (((List api_Edge)) ⊕ ((List api_Prop) × (List api_Edge) × (List Bs) × Int)) := iterC fu (fun t_ : (List api_Edge) × Int => lts_reader_system.l1bc fu a0_6 t1103 t_.1 t_.2) (x1712, x1718)
theorem lts_reader_system.l1_ap (fu : Nat) (a0_6 : List lts_step) (t1103 : List Bs) (x1712 : List api_Edge) (x1718 : Int) : Ap (lts_reader_system.l1c fu a0_6 t1103 x1712 x1718) (lts_reader_system.l1 a0_6 t1103 x1712 x1718) := by
  unfold lts_reader_system.l1c lts_reader_system.l1
  repeat' with_reducible first | exact lts_reader_system.l1b_ap _ _ _ _ _ | refine Ap.iter fun _ => ?_ | exact Ap.refl _
def lts_reader_system.l0bc (fu : Nat) (z1097 : Bs × Bool) (x878 : List Bs) : Option ((List Bs)) :=
 if (x878.length + ([z1097.1] : List Bs).length) * 16 ≤ 140737488355328 then
 some (x878 ++ ([z1097.1] : List Bs))
 else none
theorem lts_reader_system.l0b_ap (fu : Nat) (z1097 : Bs × Bool) (x878 : List Bs) : Ap (lts_reader_system.l0bc fu z1097 x878) (lts_reader_system.l0b z1097 x878) := by
  unfold lts_reader_system.l0bc lts_reader_system.l0b
  repeat' with_reducible first | exact Ap.none | refine Ap.ite ?_ ?_ | exact Ap.refl _
def lts_reader_system.fc (fu : Nat) (a0_0 : List api_Token) (a0_1 : Option api_Fault) (a0_2 : Int) (a0_3 : List Bs) (a0_4 : List api_Edge) (a0_5 : List api_Prop) (a0_6 : List lts_step) (a0_7 : List (Bs × Bool)) : Option ((List api_Prop) × (List api_Edge) × (List Bs) × Int) :=
 orderedC a0_7 (fun (t_ : (List Bs)) (z_ : Bs × Bool) => lts_reader_system.l0bc fu  z_ t_) a0_3 (fun x878 => x878) (fun (x1084 : List Bs) =>
 (slices_Sort_string_string.fc fu x1084).bind fun t1103 =>
 jn (lts_reader_system.l1c fu a0_6 t1103 a0_4 0) (fun (x1919 : List api_Edge) =>
 (slices_SortFunc_api_Edge_api_Edge.fc fu x1919).bind fun t1936 =>
 (slices_SortFunc_api_Prop_api_Prop.fc fu a0_5).bind fun t1938 =>
 some (t1938, t1936, t1103, a0_2)))
theorem lts_reader_system.f_ap (fu : Nat) (a0_0 : List api_Token) (a0_1 : Option api_Fault) (a0_2 : Int) (a0_3 : List Bs) (a0_4 : List api_Edge) (a0_5 : List api_Prop) (a0_6 : List lts_step) (a0_7 : List (Bs × Bool)) : Ap (lts_reader_system.fc fu a0_0 a0_1 a0_2 a0_3 a0_4 a0_5 a0_6 a0_7) (lts_reader_system.f a0_0 a0_1 a0_2 a0_3 a0_4 a0_5 a0_6 a0_7) := by
  unfold lts_reader_system.fc lts_reader_system.f
  repeat' with_reducible first | exact lts_reader_system.l0b_ap _ _ _ | exact slices_Sort_string_string.f_ap _ _ | exact lts_reader_system.l1_ap _ _ _ _ _ | exact slices_SortFunc_api_Edge_api_Edge.f_ap _ _ | exact slices_SortFunc_api_Prop_api_Prop.f_ap _ _ | refine Ap.jn ?_ fun _ => ?_ | refine Ap.ordered (fun _ _ => ?_) fun _ => ?_ | refine Ap.bind ?_ fun _ => ?_ | exact Ap.refl _
def lts_Parse.l0bc (fu : Nat) (t307 : (Option api_Fault) × (List api_Token) × Int) (x938 : Option api_Fault) (x939 : List api_Prop) (x944 : List lts_step) (x949 : List (Bs × Bool)) (x953 : List api_Token) : Option (((Option api_Fault) × (List api_Prop) × (List lts_step) × (List (Bs × Bool)) × (List api_Token)) ⊕ (((Option api_Fault) × (List api_Prop) × (List lts_step) × (List (Bs × Bool)) × (List api_Token)) ⊕ ((Option api_Fault) × (List Bs) × (List api_Edge) × (List api_Prop) × Int))) :=
 if x938.isNone = true then
 (lts_reader_blank.fc fu x953 x938 t307.2.2 ([] : List Bs) ([] : List api_Edge) x939 x944 x949).bind fun t1207 =>
 if (0 : Int) ≤ 0 ∧ 0 < (t1207.length : Int) then
 if (gt t1207 0).Kind = 0 then
 dn (.inl (x938, x939, x944, x949, t1207))
 else
 (lts_reader_want.fc fu t1207 x938 t307.2.2 ([] : List Bs) ([] : List api_Edge) x939 x944 x949 2).bind fun t1217 =>
 if t1217.1.isNone = true then
 if bseqC t1217.2.2.2.2.1 ([101, 100, 103, 101] : Bs) = true then
 (lts_reader_edge.fc fu t1217.2.1 t1217.1 t307.2.2 ([] : List Bs) ([] : List api_Edge) x939 x944 x949 t1217.2.2.1 t1217.2.2.2.1 t1217.2.2.2.2.1 t1217.2.2.2.2.2).bind fun t1230 =>
 nx (t1230.2.2.1, x939, t1230.1, t1230.2.1, t1230.2.2.2)
 else
 if bseqC t1217.2.2.2.2.1 ([109, 97, 114, 107] : Bs) = true then
 (lts_reader_mark.fc fu t1217.2.1 t1217.1 t307.2.2 ([] : List Bs) ([] : List api_Edge) x939 x944 x949).bind fun t1245 =>
 nx (t1245.2.1, t1245.1, x944, x949, t1245.2.2)
 else
 (lts_reader_fail.fc fu t1217.2.1 t1217.1 t307.2.2 ([] : List Bs) ([] : List api_Edge) x939 x944 x949 t1217.2.2.1 t1217.2.2.2.1 t1217.2.2.2.2.1 t1217.2.2.2.2.2 7).bind fun t1259 =>
 nx (t1259, x939, x944, x949, t1217.2.1)
 else
 nx (t1217.1, x939, x944, x949, t1217.2.1)
 else none
 else
 dn (.inl (x938, x939, x944, x949, x953))
theorem lts_Parse.l0b_ap (fu : Nat) (t307 : (Option api_Fault) × (List api_Token) × Int) (x938 : Option api_Fault) (x939 : List api_Prop) (x944 : List lts_step) (x949 : List (Bs × Bool)) (x953 : List api_Token) : Ap (lts_Parse.l0bc fu t307 x938 x939 x944 x949 x953) (lts_Parse.l0b t307 x938 x939 x944 x949 x953) := by
  unfold lts_Parse.l0bc lts_Parse.l0b
  rw [bseq_bseqC]
  repeat' with_reducible first | exact lts_reader_blank.f_ap _ _ _ _ _ _ _ _ _ | exact lts_reader_want.f_ap _ _ _ _ _ _ _ _ _ _ | exact lts_reader_edge.f_ap _ _ _ _ _ _ _ _ _ _ _ _ _ | exact lts_reader_mark.f_ap _ _ _ _ _ _ _ _ _ | exact lts_reader_fail.f_ap _ _ _ _ _ _ _ _ _ _ _ _ _ _ | exact Ap.none | refine Ap.ite ?_ ?_ | refine Ap.bind ?_ fun _ => ?_ | exact Ap.refl _
def lts_Parse.l0c (fu : Nat) (t307 : (Option api_Fault) × (List api_Token) × Int) (x938 : Option api_Fault) (x939 : List api_Prop) (x944 : List lts_step) (x949 : List (Bs × Bool)) (x953 : List api_Token) : Option (((Option api_Fault) × (List api_Prop) × (List lts_step) × (List (Bs × Bool)) × (List api_Token)) ⊕ ((Option api_Fault) × (List Bs) × (List api_Edge) × (List api_Prop) × Int)) := iterC fu (fun t_ : (Option api_Fault) × (List api_Prop) × (List lts_step) × (List (Bs × Bool)) × (List api_Token) => lts_Parse.l0bc fu t307 t_.1 t_.2.1 t_.2.2.1 t_.2.2.2.1 t_.2.2.2.2) (x938, x939, x944, x949, x953)
theorem lts_Parse.l0_ap (fu : Nat) (t307 : (Option api_Fault) × (List api_Token) × Int) (x938 : Option api_Fault) (x939 : List api_Prop) (x944 : List lts_step) (x949 : List (Bs × Bool)) (x953 : List api_Token) : Ap (lts_Parse.l0c fu t307 x938 x939 x944 x949 x953) (lts_Parse.l0 t307 x938 x939 x944 x949 x953) := by
  unfold lts_Parse.l0c lts_Parse.l0
  repeat' with_reducible first | exact lts_Parse.l0b_ap _ _ _ _ _ _ _ | refine Ap.iter fun _ => ?_ | exact Ap.refl _
def lts_Parse.fc (fu : Nat) (a0 : Bs) : Option ((Option api_Fault) × (List Bs) × (List api_Edge) × (List api_Prop) × Int) :=
 (scan_All.fc fu a0).bind fun t284 =>
 if t284.1.isNone = true then
 (lts_reader_head.fc fu t284.2 (none : Option api_Fault) 0 ([] : List Bs) ([] : List api_Edge) ([] : List api_Prop) ([] : List lts_step) ([] : List (Bs × Bool))).bind fun t307 =>
 jn (lts_Parse.l0c fu t307 t307.1 ([] : List api_Prop) ([] : List lts_step) ([] : List (Bs × Bool)) t307.2.1) (fun (s_ : (Option api_Fault) × (List api_Prop) × (List lts_step) × (List (Bs × Bool)) × (List api_Token)) =>
 if s_.1.isNone = true then
 (lts_reader_system.fc fu s_.2.2.2.2 s_.1 t307.2.2 ([] : List Bs) ([] : List api_Edge) s_.2.1 s_.2.2.1 s_.2.2.2.1).bind fun t1189 =>
 some (none, t1189.2.2.1, t1189.2.1, t1189.1, t1189.2.2.2)
 else
 some ((some (⟨(s_.1.getD default).At, (s_.1.getD default).Err⟩ : api_Fault)), ([] : List Bs), ([] : List api_Edge), ([] : List api_Prop), 0))
 else
 some (t284.1, ([] : List Bs), ([] : List api_Edge), ([] : List api_Prop), 0)
theorem lts_Parse.f_ap (fu : Nat) (a0 : Bs) : Ap (lts_Parse.fc fu a0) (lts_Parse.f a0) := by
  unfold lts_Parse.fc lts_Parse.f
  repeat' with_reducible first | exact scan_All.f_ap _ _ | exact lts_reader_head.f_ap _ _ _ _ _ _ _ _ _ | exact lts_Parse.l0_ap _ _ _ _ _ _ _ | exact lts_reader_system.f_ap _ _ _ _ _ _ _ _ _ | exact Ap.none | refine Ap.jn ?_ fun _ => ?_ | refine Ap.ite ?_ ?_ | refine Ap.bind ?_ fun _ => ?_ | exact Ap.refl _
def lts_Table_States.fc (fu : Nat) (a0_0 : Int) (a0_1 : List (Bs × sets_Set)) (a0_2 : List (lts_edges × sets_Set)) : Option Int :=
 some a0_0
theorem lts_Table_States.f_ap (fu : Nat) (a0_0 : Int) (a0_1 : List (Bs × sets_Set)) (a0_2 : List (lts_edges × sets_Set)) : Ap (lts_Table_States.fc fu a0_0 a0_1 a0_2) (lts_Table_States.f a0_0 a0_1 a0_2) := by
  unfold lts_Table_States.fc lts_Table_States.f
  repeat' with_reducible first | exact Ap.refl _
def lts_Table_Next.fc (fu : Nat) (a0_0 : Int) (a0_1 : List (Bs × sets_Set)) (a0_2 : List (lts_edges × sets_Set)) (a1 : Int) (a2 : Bs) : Option (Int × Int × Int × Int) :=
 some (((mget a0_2 (⟨a1, a2⟩ : lts_edges)).getD (⟨(0 : Int), (0 : Int), (0 : Int), (0 : Int)⟩ : sets_Set)).c0, ((mget a0_2 (⟨a1, a2⟩ : lts_edges)).getD (⟨(0 : Int), (0 : Int), (0 : Int), (0 : Int)⟩ : sets_Set)).c1, ((mget a0_2 (⟨a1, a2⟩ : lts_edges)).getD (⟨(0 : Int), (0 : Int), (0 : Int), (0 : Int)⟩ : sets_Set)).c2, ((mget a0_2 (⟨a1, a2⟩ : lts_edges)).getD (⟨(0 : Int), (0 : Int), (0 : Int), (0 : Int)⟩ : sets_Set)).c3)
theorem lts_Table_Next.f_ap (fu : Nat) (a0_0 : Int) (a0_1 : List (Bs × sets_Set)) (a0_2 : List (lts_edges × sets_Set)) (a1 : Int) (a2 : Bs) : Ap (lts_Table_Next.fc fu a0_0 a0_1 a0_2 a1 a2) (lts_Table_Next.f a0_0 a0_1 a0_2 a1 a2) := by
  unfold lts_Table_Next.fc lts_Table_Next.f
  repeat' with_reducible first | exact Ap.refl _
def lts_Table_Holds.fc (fu : Nat) (a0_0 : Int) (a0_1 : List (Bs × sets_Set)) (a0_2 : List (lts_edges × sets_Set)) (a1 : Bs) : Option (Int × Int × Int × Int) :=
 some (((mget a0_1 a1).getD (⟨(0 : Int), (0 : Int), (0 : Int), (0 : Int)⟩ : sets_Set)).c0, ((mget a0_1 a1).getD (⟨(0 : Int), (0 : Int), (0 : Int), (0 : Int)⟩ : sets_Set)).c1, ((mget a0_1 a1).getD (⟨(0 : Int), (0 : Int), (0 : Int), (0 : Int)⟩ : sets_Set)).c2, ((mget a0_1 a1).getD (⟨(0 : Int), (0 : Int), (0 : Int), (0 : Int)⟩ : sets_Set)).c3)
theorem lts_Table_Holds.f_ap (fu : Nat) (a0_0 : Int) (a0_1 : List (Bs × sets_Set)) (a0_2 : List (lts_edges × sets_Set)) (a1 : Bs) : Ap (lts_Table_Holds.fc fu a0_0 a0_1 a0_2 a1) (lts_Table_Holds.f a0_0 a0_1 a0_2 a1) := by
  unfold lts_Table_Holds.fc lts_Table_Holds.f
  repeat' with_reducible first | exact Ap.refl _
def bailifflaw03_shown.fc (fu : Nat)  : Option Bool :=
 (lts_Parse.fc fu ([115, 116, 97, 116, 101, 115, 32, 50, 10, 101, 100, 103, 101, 32, 49, 32, 97, 32, 48, 10, 109, 97, 114, 107, 32, 112, 32, 49, 10] : Bs)).bind fun t271 =>
 (lts_New.fc fu t271.2.2.2.2 t271.2.1 t271.2.2.1 t271.2.2.2.1).bind fun t309 =>
 jn (
 if t271.1.isNone = true then
 some (.inl t309.isNone)
 else
 some (.inl true)) (fun (x513 : Bool) =>
 if x513 = true then
 some false
 else
 if t309.isNone = false then
 (lts_Table_States.fc fu ((t309.getD default).states) ((t309.getD default).holds) ((t309.getD default).next)).bind fun t530 =>
 jn (
 if t530 = 2 then
 (lts_Table_Next.fc fu ((t309.getD default).states) ((t309.getD default).holds) ((t309.getD default).next) 1 ([97] : Bs)).bind fun t946 =>
 some (.inl (decide (t946.1 = 1) && (decide (t946.2.1 = 0) && (decide (t946.2.2.1 = 0) && (decide (t946.2.2.2 = 0) && true)))))
 else
 some (.inl false)) (fun (x732 : Bool) =>
 jn (
 if x732 = true then
 (lts_Table_Holds.fc fu ((t309.getD default).states) ((t309.getD default).holds) ((t309.getD default).next) ([112] : Bs)).bind fun t943 =>
 some (.inl (decide (t943.1 = 2) && (decide (t943.2.1 = 0) && (decide (t943.2.2.1 = 0) && (decide (t943.2.2.2 = 0) && true)))))
 else
 some (.inl false)) (fun (x937 : Bool) =>
 some x937))
 else none)
theorem bailifflaw03_shown.f_ap (fu : Nat)  : Ap (bailifflaw03_shown.fc fu ) (bailifflaw03_shown.f ) := by
  unfold bailifflaw03_shown.fc bailifflaw03_shown.f
  repeat' with_reducible first | exact lts_Parse.f_ap _ _ | exact lts_New.f_ap _ _ _ _ _ | exact lts_Table_States.f_ap _ _ _ _ | exact lts_Table_Next.f_ap _ _ _ _ _ _ | exact lts_Table_Holds.f_ap _ _ _ _ _ | exact Ap.none | refine Ap.jn ?_ fun _ => ?_ | refine Ap.ite ?_ ?_ | refine Ap.bind ?_ fun _ => ?_ | exact Ap.refl _
theorem bailifflaw03_shown_run : bailifflaw03_shown.f = some true := bailifflaw03_shown.f_ap 100 _ (by kernel_rfl)
end Go.Bw
namespace Go.Bw
open Go Go.RowKit

theorem iter_meas {σ ρ : Type} {body : σ → Option (σ ⊕ ρ)} (I : σ → Prop) (Q : ρ → Prop) (μ : σ → Nat) (h : ∀ s, I s → (∃ r, body s = some (.inr r) ∧ Q r) ∨ ∃ s', body s = some (.inl s') ∧ I s' ∧ μ s' < μ s) :
    ∀ s, I s → ∃ r, iter body s = some r ∧ Q r := by
  have key : ∀ n s, μ s < n → I s → ∃ r, iter body s = some r ∧ Q r := by
    intro n
    induction n with
    | zero => intro s hn; omega
    | succ n ih =>
      intro s hn hI
      rw [iter_eq]
      rcases h s hI with ⟨r, hr, hq⟩ | ⟨s', hs, hI', hlt⟩
      · exact ⟨r, by rw [hr]; rfl, hq⟩
      · obtain ⟨r, hr, hq⟩ := ih s' (by omega) hI'
        exact ⟨r, by rw [hs]; exact hr, hq⟩
  exact fun s hI => key _ s (Nat.lt_succ_self _) hI
theorem wrap64 {x : Int} (h0 : -9223372036854775808 ≤ x) (h1 : x ≤ 9223372036854775807) : IntKind.i64.wrap x = x := by
  simp [IntKind.wrap, IntKind.bits, IntKind.signed]
  omega
section
variable {α : Type} [Inhabited α]
theorem st_len (xs : List α) (i : Int) (x : α) : (st xs i x).length = xs.length := by simp [st]
theorem gt_st {xs : List α} {i j : Int} {x : α} (hi : 0 ≤ i) (hi' : i < (xs.length : Int)) (hj : 0 ≤ j) : gt (st xs i x) j = if j = i then x else gt xs j := by
  unfold gt st
  rw [List.getD_eq_getElem?_getD, List.getD_eq_getElem?_getD, List.getElem?_set]
  by_cases h : j = i
  · subst h
    have : j.toNat < xs.length := by omega
    simp [this]
  · have : ¬ i.toNat = j.toNat := by omega
    simp [this, h]
theorem gt_mem {xs : List α} {i : Int} (h0 : 0 ≤ i) (h1 : i < (xs.length : Int)) : gt xs i ∈ xs := List.mem_of_getElem? (gt_some h0 h1)
theorem gt_last {xs : List α} {x : α} : gt (xs ++ [x]) (xs.length : Int) = x := by
  unfold gt
  simp
theorem gt_of_get {xs : List α} {i : Nat} {x : α} (h : xs[i]? = some x) : gt xs (i : Int) = x := by
  unfold gt
  simp [List.getD_eq_getElem?_getD, h]
end
end Go.Bw
namespace Go.Bw
open Go Go.RowKit

theorem up_loop {ρ : Type} {body : Int → Option (Int ⊕ ρ)} {N : Int} {Q : ρ → Prop} (hN : N ≤ 9223372036854775807) (k0 : Int) (h0 : -9223372036854775808 ≤ k0) (h : ∀ i, k0 ≤ i → (∃ r, body i = some (.inr r) ∧ Q r) ∨ i < N ∧ body i = some (.inl (IntKind.i64.wrap (i + 1)))) :
    ∃ r, iter body k0 = some r ∧ Q r := by
  refine iter_meas (fun i => k0 ≤ i) Q (fun i => (N - i).toNat) (fun i hi => ?_) k0 (Int.le_refl _)
  rcases h i hi with h | ⟨h1, h2⟩
  · exact .inl h
  · right
    rw [wrap64 (by omega) (by omega)] at h2
    exact ⟨_, h2, by omega, by omega⟩
theorem in_run (a n : Int) (x : List Bs) (y : List api_Edge) (z : List api_Prop) : lts_Right_1.f a n x y z = some (decide (0 ≤ a ∧ a < n)) := by
  unfold lts_Right_1.f
  by_cases h : 0 ≤ a <;> simp [h, jn]
theorem jn_tot {σ ρ : Type} {x : Option (σ ⊕ ρ)} {f : σ → Option ρ} (hx : ∃ t, x = some t) (hf : ∀ s, ∃ r, f s = some r) : ∃ r, jn x f = some r := by
  obtain ⟨t, rfl⟩ := hx
  cases t with
  | inl s => exact hf s
  | inr r => exact ⟨r, rfl⟩
theorem rune_name (r : Int) : ∃ b, lts_name_1.f r = some b := by
  unfold lts_name_1.f
  repeat' first
    | exact ⟨_, rfl⟩
    | refine jn_tot ?_ fun _ => ?_
    | split
def EdgeIn (n : Int) (m : Nat) (e : api_Edge) : Prop := 0 ≤ e.From ∧ e.From < n ∧ 0 ≤ e.To ∧ e.To < n ∧ 0 ≤ e.Action ∧ e.Action < (m : Int)
end Go.Bw
namespace Go.Bw
open Go Go.RowKit

def Wd (v : BitVec 64) : Int := (v.toNat : Int)
theorem Wd.lt (v : BitVec 64) : 0 ≤ Wd v ∧ Wd v < 18446744073709551616 := by
  unfold Wd
  have := v.isLt
  omega
theorem wrapu {x : Int} (h0 : 0 ≤ x) (h1 : x < 18446744073709551616) : IntKind.u64.wrap x = x := by
  simp [IntKind.wrap, IntKind.bits, IntKind.signed]
  omega
theorem ofInt_wd (v : BitVec 64) : BitVec.ofInt 64 (Wd v) = v := by
  unfold Wd
  apply BitVec.eq_of_toNat_eq
  simp
theorem Wd.inj {u v : BitVec 64} (h : Wd u = Wd v) : u = v := by rw [← ofInt_wd u, h, ofInt_wd]
theorem wrap_nat (v : BitVec 64) : IntKind.u64.wrap (v.toNat : Int) = Wd v := wrapu (Wd.lt v).1 (Wd.lt v).2
theorem bor_wd (u v : BitVec 64) : bor .u64 (Wd u) (Wd v) = Wd (u ||| v) := by
  show IntKind.u64.wrap ((BitVec.ofInt 64 (Wd u) ||| BitVec.ofInt 64 (Wd v)).toNat : Int) = _
  rw [ofInt_wd, ofInt_wd, wrap_nat]
theorem band_wd (u v : BitVec 64) : band .u64 (Wd u) (Wd v) = Wd (u &&& v) := by
  show IntKind.u64.wrap ((BitVec.ofInt 64 (Wd u) &&& BitVec.ofInt 64 (Wd v)).toNat : Int) = _
  rw [ofInt_wd, ofInt_wd, wrap_nat]
theorem shl_one {s : Int} (h0 : 0 ≤ s) (h1 : s < 64) : Bw.shl .u64 1 s = Wd (BitVec.twoPow 64 s.toNat) := by
  have hs : min s.toNat IntKind.u64.bits = s.toNat := Nat.min_eq_left (show s.toNat ≤ 64 by omega)
  have hp : 2 ^ s.toNat < 2 ^ 64 := Nat.pow_lt_pow_right (by decide) (by omega)
  unfold Bw.shl Wd
  have e : (2 : Int) ^ s.toNat = ((2 ^ s.toNat : Nat) : Int) := by rw [Int.natCast_pow]; rfl
  rw [hs, Int.one_mul, BitVec.toNat_twoPow, Nat.mod_eq_of_lt hp, e]
  have h2 : (2 : Nat) ^ 64 = 18446744073709551616 := by rfl
  rw [h2] at hp
  generalize (2 : Nat) ^ s.toNat = q at hp
  exact wrapu (by omega) (by omega)
theorem shr6 {n : Int} (h0 : 0 ≤ n) : Bw.shr .i64 n 6 = n / 64 := by
  show n.fdiv (2 ^ 6) = n / 64
  rw [Int.fdiv_eq_ediv_of_nonneg _ (by decide)]
  rfl
theorem band63 {n : Int} (h0 : 0 ≤ n) (h1 : n ≤ 9223372036854775807) : band .i64 n 63 = n % 64 := by
  show IntKind.i64.wrap ((BitVec.ofInt 64 n &&& BitVec.ofInt 64 63).toNat : Int) = _
  have e1 : (BitVec.ofInt 64 n).toNat = n.toNat := by rw [BitVec.toNat_ofInt]; omega
  have e2 : (BitVec.ofInt 64 63).toNat = 2 ^ 6 - 1 := by rfl
  rw [BitVec.toNat_and, e1, e2, Nat.and_two_pow_sub_one_eq_mod, wrap64 (by omega) (by omega)]
  omega
structure W4 where
  a : BitVec 64
  b : BitVec 64
  c : BitVec 64
  d : BitVec 64
def W4.sel (u : W4) (k : Int) : BitVec 64 := if k = 0 then u.a else if k = 1 then u.b else if k = 2 then u.c else u.d
def W4.has (u : W4) (n : Int) : Bool := (u.sel (n / 64)).getLsbD (n % 64).toNat
def W4.Rep (u : W4) (S : Int → Prop) : Prop := ∀ n, 0 ≤ n → n < 256 → (u.has n = true ↔ S n)
def W4.z : W4 := ⟨0#64, 0#64, 0#64, 0#64⟩
theorem W4.z_rep : W4.z.Rep (fun _ => False) := fun n h0 h1 => by
  unfold W4.has W4.sel W4.z
  dsimp only
  split
  · simp
  · split
    · simp
    · split <;> simp
def W4.put (u : W4) (n : Int) : W4 :=
  if n / 64 = 0 then { u with a := u.a ||| BitVec.twoPow 64 (n % 64).toNat } else if n / 64 = 1 then { u with b := u.b ||| BitVec.twoPow 64 (n % 64).toNat }
  else if n / 64 = 2 then { u with c := u.c ||| BitVec.twoPow 64 (n % 64).toNat } else { u with d := u.d ||| BitVec.twoPow 64 (n % 64).toNat }
theorem W4.put_rep {u : W4} {S : Int → Prop} (h : u.Rep S) {n : Int} (h0 : 0 ≤ n) (h1 : n < 256) : (u.put n).Rep (fun m => S m ∨ m = n) := fun m m0 m1 => by
  show _ ↔ S m ∨ m = n
  rw [← h m m0 m1]
  have key : ∀ (w : BitVec 64), (w ||| BitVec.twoPow 64 (n % 64).toNat).getLsbD (m % 64).toNat = (w.getLsbD (m % 64).toNat || decide (m % 64 = n % 64)) := fun w => by
    rw [BitVec.getLsbD_or, BitVec.getLsbD_twoPow]
    congr 1
    have : (m % 64).toNat < 64 := by omega
    rw [Bool.eq_iff_iff]
    simp [this]
    omega
  unfold W4.put W4.has W4.sel
  have hn : n / 64 = 0 ∨ n / 64 = 1 ∨ n / 64 = 2 ∨ n / 64 = 3 := by omega
  have hm : m / 64 = 0 ∨ m / 64 = 1 ∨ m / 64 = 2 ∨ m / 64 = 3 := by omega
  by_cases e : m / 64 = n / 64
  · have hmn : (m = n) ↔ m % 64 = n % 64 := by omega
    rw [e, hmn]
    rcases hn with hn | hn | hn | hn <;> simp [hn, key]
  · have hmn : ¬ m = n := fun h => e (by rw [h])
    rw [or_iff_left hmn]
    rcases hn with hn | hn | hn | hn <;> rcases hm with hm | hm | hm | hm <;> first
      | exact absurd (hm.trans hn.symm) e
      | simp [hn, hm]
def W4.t (u : W4) : Int × Int × Int × Int := (Wd u.a, Wd u.b, Wd u.c, Wd u.d)
end Go.Bw
namespace Go.Bw
open Go Go.RowKit

theorem with_run {u : W4} {n : Int} : sets_Set_With.f (Wd u.a) (Wd u.b) (Wd u.c) (Wd u.d) n = some (if 0 ≤ n ∧ n < 256 then u.put n else u).t := by
  unfold sets_Set_With.f
  by_cases h0 : 0 ≤ n
  · rw [if_pos h0, jn_inl]
    by_cases h1 : n < 256
    · have hm : IntKind.u64.wrap (band .i64 n 63) = n % 64 := by rw [band63 h0 (by omega), wrapu (by omega) (by omega)]
      rw [if_pos (decide_eq_true h1), shr6 h0, hm, shl_one (by omega) (by omega), if_pos (by omega), if_pos (show 0 ≤ n ∧ n < 256 from ⟨h0, h1⟩)]
      have hn : (0 : Int) ≤ n % 64 := by omega
      simp only [if_pos hn, bor_wd]
      unfold W4.put W4.t
      by_cases k0 : n / 64 = 0
      · rw [if_pos k0, if_pos k0]
      · by_cases k1 : n / 64 = 1
        · rw [if_neg k0, if_neg k0, if_pos k1, if_pos k1]
        · by_cases k2 : n / 64 = 2
          · rw [if_neg k0, if_neg k0, if_neg k1, if_neg k1, if_pos k2, if_pos k2]
          · rw [if_neg k0, if_neg k0, if_neg k1, if_neg k1, if_neg k2, if_neg k2]
    · rw [if_neg (by simp; omega), if_neg (by omega)]
      rfl
  · rw [if_neg h0, jn_inl, if_neg (by simp), if_neg (by omega)]
    rfl
theorem of_run4 {l : List Int} (hl : (l.length : Int) ≤ 9223372036854775807) : ∃ u : W4, sets_Of.f l = some u.t ∧ u.Rep (· ∈ l) := by
  obtain ⟨r, hr, u, rfl, h⟩ := iter_meas (body := fun t_ : Int × Int × Int × Int × Int => sets_Of.l0b l t_.1 t_.2.1 t_.2.2.1 t_.2.2.2.1 t_.2.2.2.2)
    (fun s => 0 ≤ s.2.2.2.2 ∧ s.2.2.2.2 ≤ (l.length : Int) ∧ ∃ u : W4, (s.1, s.2.1, s.2.2.1, s.2.2.2.1) = u.t ∧ u.Rep (· ∈ l.take s.2.2.2.2.toNat))
    (fun r => ∃ u : W4, r = .inl u.t ∧ u.Rep (· ∈ l)) (fun s => (l.length - s.2.2.2.2).toNat)
    (fun ⟨w0, w1, w2, w3, i⟩ ⟨a0, a1, u, a2, a3⟩ => by
      dsimp only at a0 a1 a2 a3 ⊢
      simp only [W4.t, Prod.mk.injEq] at a2
      obtain ⟨rfl, rfl, rfl, rfl⟩ := a2
      unfold sets_Of.l0b
      by_cases hi : i < (l.length : Int)
      · right
        rw [if_pos hi, if_pos ⟨a0, hi⟩, with_run, wrap64 (x := i + 1) (by omega) (by omega)]
        refine ⟨_, rfl, ⟨by dsimp only; omega, by dsimp only; omega, _, rfl, fun n n0 n1 => ?_⟩, by dsimp only; omega⟩
        dsimp only
        rw [show (i + 1).toNat = i.toNat + 1 from by omega, List.take_add_one, gt_some a0 hi, List.mem_append]
        simp only [Option.toList_some, List.mem_singleton]
        by_cases hg : 0 ≤ gt l i ∧ gt l i < 256
        · rw [if_pos hg]
          exact W4.put_rep a3 hg.1 hg.2 n n0 n1
        · rw [if_neg hg, a3 n n0 n1]
          exact ⟨.inl, fun h => h.elim id fun h => absurd (h ▸ ⟨n0, n1⟩) hg⟩
      · left
        rw [if_neg hi]
        refine ⟨_, rfl, u, rfl, ?_⟩
        rwa [List.take_of_length_le (by omega)] at a3) (0, 0, 0, 0, 0) ⟨Int.le_refl _, by dsimp only; omega, W4.z, rfl, fun n n0 n1 => by
          dsimp only
          rw [W4.z_rep n n0 n1]
          simp⟩
  refine ⟨u, ?_, h⟩
  unfold sets_Of.f
  have hl : sets_Of.l0 l 0 0 0 0 0 = some (.inl u.t) := hr
  rw [hl, jn_inl]
end Go.Bw
namespace Go.Bw
open Go Go.RowKit

theorem shr_wd (v : BitVec 64) {s : Int} (h0 : 0 ≤ s) (h1 : s < 64) : Bw.shr .u64 (Wd v) s = Wd (v >>> s.toNat) := by
  have hs : min s.toNat IntKind.u64.bits = s.toNat := Nat.min_eq_left (show s.toNat ≤ 64 by omega)
  unfold Bw.shr Wd
  rw [hs, Int.fdiv_eq_ediv_of_nonneg _ (Int.pow_nonneg (by decide)), BitVec.toNat_ushiftRight, Nat.shiftRight_eq_div_pow]
  have : (2 : Int) ^ s.toNat = ((2 ^ s.toNat : Nat) : Int) := by rw [Int.natCast_pow]; rfl
  rw [this]
  rfl
theorem wd_zero {v : BitVec 64} : Wd v = 0 ↔ v = 0#64 := by
  constructor
  · intro h; exact Wd.inj (h.trans rfl)
  · rintro rfl; rfl
theorem bit_wd (v : BitVec 64) {s : Int} (h0 : 0 ≤ s) (h1 : s < 64) : band .u64 (Bw.shr .u64 (Wd v) s) 1 = 1 ↔ v.getLsbD s.toNat = true := by
  rw [shr_wd v h0 h1, show (1 : Int) = Wd 1#64 from rfl, band_wd]
  constructor
  · intro h
    have := Wd.inj h
    have h2 := congrArg (fun z => z.getLsbD 0) this
    simpa using h2
  · intro h
    congr 1
    apply BitVec.eq_of_getLsbD_eq
    intro i hi
    rw [BitVec.getLsbD_and, BitVec.getLsbD_ushiftRight]
    by_cases hi0 : i = 0
    · subst hi0; simp [h]
    · have : (1#64).getLsbD i = false := by simp [hi0]
      rw [this]; simp
theorem mget_mset {κ ν : Type} [DecidableEq κ] : ∀ (m : List (κ × ν)) (k k' : κ) (v : ν), mget (mset m k v) k' = if k = k' then some v else mget m k'
  | [], k, k', v => by unfold mset mget; split <;> rfl
  | p :: r, k, k', v => by
    unfold mset
    by_cases h : p.1 = k
    · rw [if_pos h]
      unfold mget
      by_cases h2 : k = k'
      · simp [h2]
      · rw [if_neg h2, if_neg h2, if_neg (fun h3 => h2 (h.symm.trans h3))]
    · rw [if_neg h]
      unfold mget
      by_cases h2 : p.1 = k'
      · rw [if_pos h2, if_pos h2, if_neg (fun h3 => h (h2.trans h3.symm))]
      · rw [if_neg h2, if_neg h2, mget_mset r k k' v]
def Hit (x : List Bs) (E : List api_Edge) (k : lts_edges) (t : Int) : Prop := ∃ e ∈ E, e.From = k.from_ ∧ e.To = t ∧ (gt x e.Action = k.action ∨ k.action = [45])
abbrev set0 : sets_Set := ⟨(0 : Int), (0 : Int), (0 : Int), (0 : Int)⟩
def W4.s (u : W4) : sets_Set := ⟨Wd u.a, Wd u.b, Wd u.c, Wd u.d⟩
def Nx (x : List Bs) (E : List api_Edge) (m : List (lts_edges × sets_Set)) : Prop := ∀ k, ∃ u : W4, (mget m k).getD set0 = u.s ∧ u.Rep (Hit x E k)
theorem put_hit {m : List (lts_edges × sets_Set)} {S : lts_edges → Int → Prop} (h : ∀ k, ∃ u : W4, (mget m k).getD set0 = u.s ∧ u.Rep (S k)) {k0 : lts_edges} {t : Int} (h0 : 0 ≤ t) (h1 : t < 256) {u : W4} (hu : (mget m k0).getD set0 = u.s) :
    ∀ k, ∃ u' : W4, (mget (mset m k0 (u.put t).s) k).getD set0 = u'.s ∧ u'.Rep (fun n => S k n ∨ k0 = k ∧ n = t) := fun k => by
  rw [mget_mset]
  by_cases hk : k0 = k
  · subst hk
    rw [if_pos rfl]
    obtain ⟨v, hv, hr⟩ := h k0
    rw [hu] at hv
    have : u = v := by
      cases u; cases v
      simp only [W4.s, sets_Set.mk.injEq] at hv
      rw [Wd.inj hv.1, Wd.inj hv.2.1, Wd.inj hv.2.2.1, Wd.inj hv.2.2.2]
    subst this
    refine ⟨u.put t, rfl, fun n n0 n1 => ?_⟩
    rw [W4.put_rep hr h0 h1 n n0 n1]
    simp
  · rw [if_neg hk]
    obtain ⟨v, hv, hr⟩ := h k
    refine ⟨v, hv, fun n n0 n1 => ?_⟩
    rw [hr n n0 n1]
    simp [hk]
theorem l2_run (x : List Bs) (y : List api_Edge) {j : Int} (hj : 0 ≤ j) (hj2 : j < (y.length : Int)) {E : List api_Edge} {m : List (lts_edges × sets_Set)} (hm : Nx x E m) (ht : 0 ≤ (gt y j).To ∧ (gt y j).To < 256) :
    ∃ m', lts_New.l2 x y j m 0 = some (.inl m') ∧ Nx x (E ++ [gt y j]) m' := by
  unfold lts_New.l2
  rw [iter_eq]
  have w1 : IntKind.i64.wrap (0 + 1) = 1 := wrap64 (by decide) (by decide)
  have w2 : IntKind.i64.wrap (1 + 1) = 2 := wrap64 (by decide) (by decide)
  have g0 : gt [gt x (gt y j).Action, ([45] : Bs)] 0 = gt x (gt y j).Action := rfl
  have g1 : gt [gt x (gt y j).Action, ([45] : Bs)] 1 = [45] := rfl
  obtain ⟨u1, e1, r1⟩ := hm ⟨(gt y j).From, gt x (gt y j).Action⟩
  have s1 := put_hit hm ht.1 ht.2 e1
  obtain ⟨u2, e2, r2⟩ := s1 ⟨(gt y j).From, [45]⟩
  have s2 := put_hit s1 ht.1 ht.2 e2
  refine ⟨mset (mset m ⟨(gt y j).From, gt x (gt y j).Action⟩ (u1.put (gt y j).To).s) ⟨(gt y j).From, [45]⟩ (u2.put (gt y j).To).s, ?_, fun k => ?_⟩
  rotate_left
  · obtain ⟨u3, e3, r3⟩ := s2 k
    refine ⟨u3, e3, fun n n0 n1 => ?_⟩
    rw [r3 n n0 n1]
    unfold Hit
    constructor
    · rintro ((⟨e, he, q⟩ | ⟨rfl, rfl⟩) | ⟨rfl, rfl⟩)
      · exact ⟨e, by simp [he], q⟩
      · exact ⟨gt y j, by simp, rfl, rfl, .inl rfl⟩
      · exact ⟨gt y j, by simp, rfl, rfl, .inr rfl⟩
    · rintro ⟨e, he, q1, q2, q3⟩
      rcases List.mem_append.1 he with he | he
      · exact .inl (.inl ⟨e, he, q1, q2, q3⟩)
      · simp at he
        subst he
        rcases q3 with q3 | q3
        · exact .inl (.inr ⟨by rw [q1, q3], q2.symm⟩)
        · exact .inr ⟨by rw [q1, ← q3], q2.symm⟩
  · simp only [lts_New.l2b]
    rw [if_pos (by simp), if_pos (by simp), g0, e1]
    simp only [W4.s, with_run, if_pos ht, Option.bind_some, nx, w1]
    rw [iter_eq]
    simp only [lts_New.l2b]
    rw [if_pos (by simp), if_pos (by simp), g1]
    have e2' : (mget (mset m ({ from_ := (gt y j).From, action := gt x (gt y j).Action } : lts_edges) ({ c0 := (u1.put (gt y j).To).t.1, c1 := (u1.put (gt y j).To).t.2.1, c2 := (u1.put (gt y j).To).t.2.2.1, c3 := (u1.put (gt y j).To).t.2.2.2 } : sets_Set)) { from_ := (gt y j).From, action := [45] }).getD set0 = u2.s := e2
    rw [e2']
    simp only [W4.s, with_run, if_pos ht, Option.bind_some, nx, w2]
    rw [iter_eq]
    simp only [lts_New.l2b]
    rw [if_neg (by simp)]
    rfl
theorem l1_run (n : Int) (x : List Bs) (y : List api_Edge) (hy : (y.length : Int) ≤ 9223372036854775807) (he : ∀ e ∈ y, EdgeIn n x.length e) (hn : n ≤ 24) :
    ∃ m, lts_New.l1 x y [] 0 = some (.inl m) ∧ Nx x y m := by
  obtain ⟨r, hr, m, rfl, hm⟩ := iter_meas (body := fun t_ : List (lts_edges × sets_Set) × Int => lts_New.l1b x y t_.1 t_.2) (fun s => 0 ≤ s.2 ∧ s.2 ≤ (y.length : Int) ∧ Nx x (y.take s.2.toNat) s.1)
    (fun r => ∃ m, r = .inl m ∧ Nx x y m) (fun s => ((y.length : Int) - s.2).toNat) (fun ⟨m, i⟩ ⟨h0, h1, h2⟩ => by
      dsimp only at h0 h1 h2 ⊢
      unfold lts_New.l1b
      by_cases hi : i < (y.length : Int)
      · right
        have hE := he _ (gt_mem h0 hi)
        obtain ⟨m', hm', hx⟩ := l2_run x y h0 hi h2 ⟨hE.2.2.1, by have := hE.2.2.2.1; omega⟩
        rw [if_pos hi, if_pos ⟨h0, hi⟩, if_pos hE.2.2.2.2, hm', jn_inl, wrap64 (x := i + 1) (by omega) (by omega)]
        refine ⟨_, rfl, ⟨by dsimp only; omega, by dsimp only; omega, ?_⟩, by dsimp only; omega⟩
        dsimp only
        rw [show (i + 1).toNat = i.toNat + 1 from by omega, List.take_add_one, gt_some h0 hi]
        exact hx
      · left
        rw [if_neg hi]
        refine ⟨_, rfl, m, rfl, ?_⟩
        rwa [List.take_of_length_le (by omega)] at h2) ([], 0) ⟨Int.le_refl _, by dsimp only; omega, fun k => ⟨W4.z, rfl, fun n n0 n1 => by
          rw [W4.z_rep n n0 n1]
          simp [Hit]⟩⟩
  exact ⟨m, hr, hm⟩
theorem next_run {x : List Bs} {y : List api_Edge} {next : List (lts_edges × sets_Set)} (hx : Nx x y next) (n : Int) (holds : List (Bs × sets_Set)) (s : Int) (a : Bs) : ∃ u : W4, lts_Table_Next.f n holds next s a = some u.t ∧ u.Rep (Hit x y ⟨s, a⟩) := by
  obtain ⟨u, hu, hr⟩ := hx ⟨s, a⟩
  refine ⟨u, ?_, hr⟩
  unfold lts_Table_Next.f
  rw [hu]
  rfl
theorem band0 (v : BitVec 64) : band .u64 (Wd v) 0 = 0 := by
  rw [show (0 : Int) = Wd 0#64 from rfl, band_wd]
  simp
def Meets (S : Int → Prop) (to : BitVec 64) : Prop := ∃ t : Nat, t < 64 ∧ S t ∧ to.getLsbD t = true
theorem and_meets {u : W4} {S : Int → Prop} (h : u.Rep S) (to : BitVec 64) : u.a &&& to = 0#64 ↔ ¬ Meets S to := by
  have hb : ∀ i : Nat, i < 64 → (u.a.getLsbD i = true ↔ S i) := fun i hi => by
    have := h i (by omega) (by omega)
    unfold W4.has W4.sel at this
    rw [show ((i : Int) / 64) = 0 from by omega, show ((i : Int) % 64).toNat = i from by omega] at this
    simpa using this
  constructor
  · rintro h0 ⟨t, h1, h2, h3⟩
    have := congrArg (fun z => z.getLsbD t) h0
    simp [(hb t h1).2 h2, h3] at this
  · intro hn
    apply BitVec.eq_of_getLsbD_eq
    intro i hi
    rw [BitVec.getLsbD_and]
    cases h1 : u.a.getLsbD i with
    | false => simp
    | true =>
      cases h2 : to.getLsbD i with
      | false => simp
      | true => exact absurd ⟨i, hi, (hb i hi).1 h1, h2⟩ hn
theorem back_run {x : List Bs} {y : List api_Edge} {next : List (lts_edges × sets_Set)} (hx : Nx x y next) {n : Int} (hn : 0 ≤ n) (hn2 : n ≤ 24) (holds : List (Bs × sets_Set)) (to : BitVec 64) (a : Bs) :
    ∃ v : W4, lts_Table_Back.f n holds next (Wd to) 0 0 0 a = some v.t ∧ v.Rep (fun s => 0 ≤ s ∧ s < n ∧ Meets (Hit x y ⟨s, a⟩) to) := by
  obtain ⟨r, hr, v, rfl, hv⟩ := iter_meas (body := fun t_ : Int × Int × Int × Int × Int => lts_Table_Back.l0b n next (Wd to) 0 0 0 a t_.1 t_.2.1 t_.2.2.1 t_.2.2.2.1 t_.2.2.2.2)
    (fun s => 0 ≤ s.2.2.2.2 ∧ s.2.2.2.2 ≤ n ∧ ∃ v : W4, (s.1, s.2.1, s.2.2.1, s.2.2.2.1) = v.t ∧ v.Rep (fun q => 0 ≤ q ∧ q < s.2.2.2.2 ∧ Meets (Hit x y ⟨q, a⟩) to))
    (fun r => ∃ v : W4, r = .inl v.t ∧ v.Rep (fun s => 0 ≤ s ∧ s < n ∧ Meets (Hit x y ⟨s, a⟩) to)) (fun s => (n - s.2.2.2.2).toNat)
    (fun ⟨w0, w1, w2, w3, i⟩ ⟨a0, a1, v, a2, a3⟩ => by
      dsimp only at a0 a1 a2 a3 ⊢
      simp only [W4.t, Prod.mk.injEq] at a2
      obtain ⟨rfl, rfl, rfl, rfl⟩ := a2
      unfold lts_Table_Back.l0b
      by_cases hi : i < n
      · right
        obtain ⟨u, hu, hur⟩ := hx ⟨i, a⟩
        rw [if_pos hi, hu, wrap64 (x := i + 1) (by omega) (by omega)]
        simp only [W4.s, sets_Set_And.f, band_wd, band0, Option.bind_some, decide_true, Bool.and_true]
        by_cases hz : u.a &&& to = 0#64
        · rw [if_pos (by rw [hz]; rfl), jn_inl]
          refine ⟨_, rfl, ⟨by dsimp only; omega, by dsimp only; omega, v, rfl, fun q q0 q1 => ?_⟩, by dsimp only; omega⟩
          rw [a3 q q0 q1]
          have hnm := (and_meets hur to).1 hz
          dsimp only
          constructor
          · rintro ⟨h1, h2, h3⟩; exact ⟨h1, by omega, h3⟩
          · rintro ⟨h1, h2, h3⟩
            refine ⟨h1, ?_, h3⟩
            have : q ≠ i := fun h => by subst h; exact hnm h3
            omega
        · rw [if_neg (by rw [decide_eq_true_eq]; exact fun h => hz (wd_zero.1 h)), with_run, if_pos (by omega)]
          simp only [Option.bind_some, jn_inl]
          refine ⟨_, rfl, ⟨by dsimp only; omega, by dsimp only; omega, v.put i, rfl, fun q q0 q1 => ?_⟩, by dsimp only; omega⟩
          rw [W4.put_rep a3 a0 (by omega) q q0 q1]
          have hm : Meets (Hit x y ⟨i, a⟩) to := Classical.not_not.1 fun h => hz ((and_meets hur to).2 h)
          dsimp only
          constructor
          · rintro (⟨h1, h2, h3⟩ | rfl)
            · exact ⟨h1, by omega, h3⟩
            · exact ⟨a0, by omega, hm⟩
          · rintro ⟨h1, h2, h3⟩
            by_cases h : q = i
            · exact .inr h
            · exact .inl ⟨h1, by omega, h3⟩
      · left
        rw [if_neg hi]
        refine ⟨_, rfl, v, rfl, ?_⟩
        have : i = n := by omega
        subst this
        exact a3) (0, 0, 0, 0, 0) ⟨Int.le_refl _, hn, W4.z, rfl, fun q q0 q1 => by
          rw [W4.z_rep q q0 q1]
          dsimp only
          constructor
          · exact fun h => h.elim
          · rintro ⟨h1, h2, _⟩; omega⟩
  refine ⟨v, ?_, hv⟩
  unfold lts_Table_Back.f
  have hl : lts_Table_Back.l0 n next (Wd to) 0 0 0 a 0 0 0 0 0 = some (.inl v.t) := hr
  rw [hl, jn_inl]
end Go.Bw
namespace Go.Bw
open Go Go.RowKit

theorem rep_bit {v : W4} {S : Int → Prop} (h : v.Rep S) {i : Nat} (hi : i < 64) : v.a.getLsbD i = true ↔ S i := by
  have := h i (by omega) (by omega)
  unfold W4.has W4.sel at this
  rw [show ((i : Int) / 64) = 0 from by omega, show ((i : Int) % 64).toNat = i from by omega] at this
  simpa using this
theorem rep_small {v : W4} {S : Int → Prop} (h : v.Rep S) (hS : ∀ s, S s → s < 64) : v.b = 0#64 ∧ v.c = 0#64 ∧ v.d = 0#64 := by
  have key : ∀ k : Int, 1 ≤ k → k < 4 → v.sel k = 0#64 := fun k h0 h1 => by
    apply BitVec.eq_of_getLsbD_eq
    intro i hi
    have := h (64 * k + i) (by omega) (by omega)
    unfold W4.has at this
    rw [show (64 * k + (i : Int)) / 64 = k from by omega, show ((64 * k + (i : Int)) % 64).toNat = i from by omega] at this
    cases hv : (v.sel k).getLsbD i with
    | false => simp
    | true => have := hS _ (this.1 hv); omega
  have k1 := key 1 (by decide) (by decide)
  have k2 := key 2 (by decide) (by decide)
  have k3 := key 3 (by decide) (by decide)
  simp [W4.sel] at k1 k2 k3
  exact ⟨k1, k2, k3⟩
section
variable {n : Int} {x : List Bs} {y : List api_Edge} {next : List (lts_edges × sets_Set)} {holds : List (Bs × sets_Set)} {to : BitVec 64}
end
end Go.Bw
namespace Go.Bw
open Go Go.RowKit

theorem up_iff {ρ : Type} {body : Int → Option (Int ⊕ (Unit ⊕ ρ))} {N : Int} {p : Int → Prop} {bad : ρ} (hN : N ≤ 9223372036854775807) (k0 : Int) (h0 : 0 ≤ k0)
    (h : ∀ i, k0 ≤ i → i < N → (p i ∧ body i = some (.inl (IntKind.i64.wrap (i + 1)))) ∨ (¬ p i ∧ body i = some (.inr (.inr bad)))) (he : ∀ i, ¬ i < N → body i = some (.inr (.inl ()))) :
    (iter body k0 = some (.inl ()) ∧ ∀ i, k0 ≤ i → i < N → p i) ∨ (iter body k0 = some (.inr bad) ∧ ∃ i, k0 ≤ i ∧ i < N ∧ ¬ p i) := by
  obtain ⟨r, hr, hq⟩ := iter_meas (body := body) (fun i => k0 ≤ i ∧ ∀ j, k0 ≤ j → j < i → p j) (fun r => (r = .inl () ∧ ∀ i, k0 ≤ i → i < N → p i) ∨ (r = .inr bad ∧ ∃ i, k0 ≤ i ∧ i < N ∧ ¬ p i)) (fun i => (N - i).toNat) (fun i ⟨h1, h2⟩ => by
    by_cases hi : i < N
    · rcases h i h1 hi with ⟨hp, hb⟩ | ⟨hp, hb⟩
      · right
        rw [wrap64 (by omega) (by omega)] at hb
        refine ⟨_, hb, ⟨by omega, fun j j0 j1 => ?_⟩, by omega⟩
        by_cases hj : j = i
        · subst hj; exact hp
        · exact h2 j j0 (by omega)
      · left; exact ⟨_, hb, .inr ⟨rfl, i, h1, hi, hp⟩⟩
    · left; exact ⟨_, he i hi, .inl ⟨rfl, fun j j0 j1 => h2 j j0 (by omega)⟩⟩) k0 ⟨Int.le_refl _, fun j j0 j1 => by omega⟩
  rcases hq with ⟨rfl, hq⟩ | ⟨rfl, hq⟩
  · exact .inl ⟨hr, hq⟩
  · exact .inr ⟨hr, hq⟩
def OkB (c : Int) : Prop := 97 ≤ c ∧ c ≤ 122 ∨ 65 ≤ c ∧ c ≤ 90 ∨ 48 ≤ c ∧ c ≤ 57 ∨ c = 95
theorem rune_run (r : Int) : ∃ b, lts_name_1.f r = some b ∧ (b = true ↔ ¬ OkB r) := by
  obtain ⟨b, hb⟩ := rune_name r
  refine ⟨b, hb, ?_⟩
  unfold lts_name_1.f at hb
  unfold OkB
  by_cases h1 : 97 ≤ r <;> by_cases h2 : 65 ≤ r <;> by_cases h3 : 48 ≤ r <;> simp [h1, h2, h3, jn] at hb <;> (try omega) <;>
    (by_cases h4 : r ≤ 122 <;> by_cases h5 : r ≤ 90 <;> by_cases h6 : r ≤ 57 <;> by_cases h7 : r = 95 <;> simp [h4, h5, h6, h7] at hb <;> first | omega | (subst hb; simp; omega))
theorem rune_low {s : Bs} {k : Nat} (hk : k < s.length) (h : bat s k < 128) : runeAt s k = bat s k ∧ runeLen s k = 1 := by
  have hg : ((ByteArray.mk s.toArray).get! k).toNat = (s.getD k 0).toNat := by
    simp [ByteArray.get!, List.getD_eq_getElem?_getD, hk]
  have h' : (s.getD k 0).toNat < 128 := by
    have : bat s k = ((s.getD k 0).toNat : Int) := by simp [bat]
    omega
  unfold runeAt runeLen Utf8.decode
  simp only [Nat.add_zero, hg, if_pos (show (s.getD k 0).toNat < 0x80 from h')]
  simp [bat]
theorem rune_high {s : Bs} {k : Nat} (hk : k < s.length) (h : 128 ≤ bat s k) : 128 ≤ runeAt s k := by
  have hg : ((ByteArray.mk s.toArray).get! k).toNat = (s.getD k 0).toNat := by
    simp [ByteArray.get!, List.getD_eq_getElem?_getD, hk]
  have h' : ¬ (s.getD k 0).toNat < 0x80 := by
    have : bat s k = ((s.getD k 0).toNat : Int) := by simp [bat]
    omega
  unfold runeAt Utf8.decode
  simp only [Nat.add_zero, hg, if_neg h']
  have e : (Utf8.runeError : Nat) = 65533 := rfl
  repeat' split
  all_goals try dsimp only
  all_goals first
    | omega
    | (rename_i hc; simp only [Bool.and_eq_true, decide_eq_true_eq] at hc; omega)
    | (rw [e]; omega)
theorem okB_low {c : Int} (h : OkB c) : c < 128 := by unfold OkB at h; omega
def NameS (s : Bs) : Prop := 1 ≤ s.length ∧ s.length ≤ 8 ∧ 97 ≤ bat s 0 ∧ bat s 0 ≤ 122 ∧ s ≠ [116, 116] ∧ s ≠ [102, 102] ∧ s ≠ [109, 117] ∧ s ≠ [110, 117] ∧ ∀ i : Int, 0 ≤ i → i < (s.length : Int) → OkB (bat s i)
theorem contains_runes (s : Bs) : ∃ b, strings_ContainsFunc.f s = some b ∧ (b = true ↔ ¬ ∀ i : Int, 0 ≤ i → i < (s.length : Int) → OkB (bat s i)) := by
  obtain ⟨r, hr, hq⟩ := iter_meas (body := fun t_ : Nat => strings_indexFunc.l0b s true t_) (fun k => ∀ i : Int, 0 ≤ i → i < (k : Int) → i < (s.length : Int) → OkB (bat s i))
    (fun r => (∃ k, r = .inl k ∧ ∀ i : Int, 0 ≤ i → i < (s.length : Int) → OkB (bat s i)) ∨ ∃ k : Nat, r = .inr (k : Int) ∧ ¬ ∀ i : Int, 0 ≤ i → i < (s.length : Int) → OkB (bat s i)) (fun k => s.length - k) (fun k hI => by
      unfold strings_indexFunc.l0b
      by_cases hk : k < s.length
      · obtain ⟨b, hb, hb2⟩ := rune_run (runeAt s k)
        rw [if_pos hk, hb]
        simp only [Option.bind_some]
        by_cases hl : bat s k < 128
        · obtain ⟨e1, e2⟩ := rune_low hk hl
          rw [e1] at hb2
          rw [e2]
          cases b with
          | true =>
            left
            refine ⟨_, rfl, .inr ⟨k, rfl, fun hall => hb2.1 rfl (hall k (by omega) (by omega))⟩⟩
          | false =>
            right
            have hok : OkB (bat s k) := Classical.not_not.1 fun h => by have := hb2.2 h; cases this
            refine ⟨_, rfl, fun i i0 i1 i2 => ?_, by omega⟩
            by_cases hi : i = (k : Int)
            · subst hi; exact hok
            · exact hI i i0 (by omega) i2
        · have hh := rune_high hk (by omega)
          have hbt : b = true := hb2.2 fun h => by have := okB_low h; omega
          subst hbt
          left
          exact ⟨_, rfl, .inr ⟨k, rfl, fun hall => by have := okB_low (hall k (by omega) (by omega)); omega⟩⟩
      · left; rw [if_neg hk]; exact ⟨_, rfl, .inl ⟨k, rfl, fun i i0 i1 => hI i i0 (by omega) i1⟩⟩) 0 (fun i i0 i1 => by omega)
  unfold strings_ContainsFunc.f strings_IndexFunc.f strings_indexFunc.f strings_indexFunc.l0
  rw [hr]
  rcases hq with ⟨k, rfl, hq⟩ | ⟨k, rfl, hq⟩
  · exact ⟨false, rfl, by simp; exact hq⟩
  · exact ⟨true, by simp [jn], by simp only [true_iff]; exact hq⟩
end Go.Bw
namespace Go.Bw
open Go Go.RowKit

theorem jn_up_true {x : Option (Unit ⊕ Bool)} {p : Prop} (h : (x = some (.inl ()) ∧ p) ∨ (x = some (.inr false) ∧ ¬ p)) : ∃ b, jn x (fun _ => some true) = some b ∧ (b = true ↔ p) := by
  rcases h with ⟨rfl, h⟩ | ⟨rfl, h⟩
  · exact ⟨true, rfl, by simp [h]⟩
  · exact ⟨false, rfl, by simp [h]⟩
theorem name_iff (s : Bs) : ∃ b, lts_name.f s = some b ∧ (b = true ↔ NameS s) := by
  obtain ⟨c, hc, hc2⟩ := contains_runes s
  unfold lts_name.f NameS
  by_cases h1 : (s.length : Int) < 1
  · exact ⟨false, by simp [h1, jn], by simp; omega⟩
  by_cases h2 : 8 < (s.length : Int)
  · exact ⟨false, by simp [h1, h2, jn], by simp; omega⟩
  have h0 : (0 : Int) ≤ 0 ∧ 0 < (s.length : Int) := by omega
  simp only [if_neg h1, jn_inl, decide_eq_false h2, Bool.false_eq_true, if_false, if_pos h0]
  by_cases h3 : bat s 0 < 97
  · exact ⟨false, by simp [h3, jn], by simp; omega⟩
  by_cases h4 : 122 < bat s 0
  · exact ⟨false, by simp [h3, h4, jn], by simp; omega⟩
  simp only [decide_eq_false h3, decide_eq_false h4, Bool.false_eq_true, if_false, jn_inl, bseq_iff, hc, Option.bind_some]
  by_cases k1 : s = [116, 116]
  · exact ⟨false, by simp [k1], by simp [k1]⟩
  by_cases k2 : s = [102, 102]
  · exact ⟨false, by simp [k2], by simp [k2]⟩
  by_cases k3 : s = [109, 117]
  · exact ⟨false, by simp [k3], by simp [k3]⟩
  by_cases k4 : s = [110, 117]
  · exact ⟨false, by simp [k4], by simp [k4]⟩
  refine ⟨!c, by simp [k1, k2, k3, k4], ?_⟩
  have hc3 : (!c) = true ↔ ∀ i : Int, 0 ≤ i → i < (s.length : Int) → OkB (bat s i) := by
    cases c with
    | true => simp only [Bool.not_true, Bool.false_eq_true, false_iff]; exact hc2.1 rfl
    | false =>
      simp only [Bool.not_false, true_iff]
      exact Classical.not_not.1 fun h => by have := hc2.2 h; cases this
  rw [hc3]
  exact ⟨fun h => ⟨by omega, by omega, by omega, by omega, k1, k2, k3, k4, h⟩, fun h => h.2.2.2.2.2.2.2.2⟩
theorem refName_loop (s : Bs) (hs : s.length ≤ 8) : (bailiffref03_Name.l0 s 0 = some (.inl ()) ∧ ∀ i : Int, 0 ≤ i → i < (s.length : Int) → OkB (bat s i)) ∨ (bailiffref03_Name.l0 s 0 = some (.inr false) ∧ ∃ i : Int, 0 ≤ i ∧ i < (s.length : Int) ∧ ¬ OkB (bat s i)) := by
  refine up_iff (body := fun t_ : Int => bailiffref03_Name.l0b s t_) (N := s.length) (p := fun i => OkB (bat s i)) (by omega) 0 (by decide) (fun i h0 h1 => ?_) (fun i h => by simp only [bailiffref03_Name.l0b]; rw [if_neg h]; rfl)
  simp only [bailiffref03_Name.l0b]
  rw [if_pos h1, if_pos ⟨h0, h1⟩]
  generalize bat s i = c
  unfold OkB
  by_cases a1 : 97 ≤ c <;> by_cases a2 : 65 ≤ c <;> by_cases a3 : 48 ≤ c <;> simp [a1, a2, a3, jn, nx, upL] <;> (try omega) <;>
    (by_cases h4 : c ≤ 122 <;> by_cases h5 : c ≤ 90 <;> by_cases h6 : c ≤ 57 <;> by_cases h7 : c = 95 <;> simp [h4, h5, h6, h7] <;> omega)
theorem refName_iff (s : Bs) : ∃ b, bailiffref03_Name.f s = some b ∧ (b = true ↔ NameS s) := by
  unfold bailiffref03_Name.f NameS
  by_cases h1 : (s.length : Int) < 1
  · exact ⟨false, by simp [h1, jn], by simp; omega⟩
  by_cases h2 : 8 < (s.length : Int)
  · exact ⟨false, by simp [h1, h2, jn], by simp; omega⟩
  have h0 : (0 : Int) ≤ 0 ∧ 0 < (s.length : Int) := by omega
  simp only [if_neg h1, jn_inl, decide_eq_false h2, Bool.false_eq_true, if_false, if_pos h0]
  by_cases h3 : bat s 0 < 97
  · exact ⟨false, by simp [h3, jn], by simp; omega⟩
  by_cases h4 : 122 < bat s 0
  · exact ⟨false, by simp [h3, h4, jn], by simp; omega⟩
  have bz : ∀ t : Bs, s ≠ t → bseq s t = false := fun t h => Bool.eq_false_iff.2 fun hc => h (bseq_iff.1 hc)
  by_cases k1 : s = [116, 116]
  · exact ⟨false, by rw [bseq_iff.2 k1]; simp [h3, h4, jn], by simp [k1]⟩
  by_cases k2 : s = [102, 102]
  · exact ⟨false, by rw [bz _ k1, bseq_iff.2 k2]; simp [h3, h4, jn], by simp [k2]⟩
  by_cases k3 : s = [109, 117]
  · exact ⟨false, by rw [bz _ k1, bz _ k2, bseq_iff.2 k3]; simp [h3, h4, jn], by simp [k3]⟩
  by_cases k4 : s = [110, 117]
  · exact ⟨false, by rw [bz _ k1, bz _ k2, bz _ k3, bseq_iff.2 k4]; simp [h3, h4, jn], by simp [k4]⟩
  rw [bz _ k1, bz _ k2, bz _ k3, bz _ k4]
  simp only [decide_eq_false h3, decide_eq_false h4, Bool.false_eq_true, if_false, jn_inl]
  rcases refName_loop s (by omega) with ⟨hl, hq⟩ | ⟨hl, i, i0, i1, i2⟩
  · exact ⟨true, by rw [hl]; rfl, by simp only [true_iff]; exact ⟨by omega, by omega, by omega, by omega, k1, k2, k3, k4, hq⟩⟩
  · exact ⟨false, by rw [hl]; rfl, by simp only [Bool.false_eq_true, false_iff]; exact fun h => i2 (h.2.2.2.2.2.2.2.2 i i0 i1)⟩
def Rise {α : Type} [Inhabited α] (lt : α → α → Prop) (a : List α) : Prop := ∀ i : Int, 1 ≤ i → i < (a.length : Int) → lt (gt a (i - 1)) (gt a i)
theorem rises_int_iff (a : List Int) (ha : (a.length : Int) ≤ 9223372036854775807) : ∃ b, lts_rises_int.f a = some b ∧ (b = true ↔ Rise (· < ·) a) := by
  refine jn_up_true ?_
  rcases up_iff (body := fun t_ : Int => lts_rises_int.l0b a t_) (N := a.length) (p := fun i => gt a (i - 1) < gt a i) (bad := false) ha 1 (by decide) (fun i h0 h1 => by
    simp only [lts_rises_int.l0b]
    rw [if_pos h1, wrap64 (x := i - 1) (by omega) (by omega), if_pos (by omega), if_pos (by omega), cmp_int_run]
    simp only [Option.bind_some]
    by_cases hp : gt a (i - 1) < gt a i
    · left; rw [if_neg (by have := cmp3_lt.2 hp; omega)]; exact ⟨hp, rfl⟩
    · right; rw [if_pos (by have : ¬ cmp3 (gt a (i - 1)) (gt a i) < 0 := fun h => hp (cmp3_lt.1 h); omega)]; exact ⟨hp, rfl⟩) (fun i h => by simp only [lts_rises_int.l0b]; rw [if_neg h]; rfl) with ⟨h, q⟩ | ⟨h, i, i0, i1, i2⟩
  · exact .inl ⟨h, q⟩
  · exact .inr ⟨h, fun hr => i2 (hr i i0 i1)⟩
def BLt (x y : Bs) : Prop := Lib.compareBytes x y < 0
theorem rises_str_iff (a : List Bs) (ha : (a.length : Int) ≤ 9223372036854775807) : ∃ b, lts_rises_string.f a = some b ∧ (b = true ↔ Rise BLt a) := by
  refine jn_up_true ?_
  rcases up_iff (body := fun t_ : Int => lts_rises_string.l0b a t_) (N := a.length) (p := fun i => BLt (gt a (i - 1)) (gt a i)) (bad := false) ha 1 (by decide) (fun i h0 h1 => by
    simp only [lts_rises_string.l0b]
    rw [if_pos h1, wrap64 (x := i - 1) (by omega) (by omega), if_pos (by omega), if_pos (by omega)]
    simp only [strings_Compare.f, bytealg_CompareString.f, Option.bind_some]
    by_cases hp : BLt (gt a (i - 1)) (gt a i)
    · left; rw [if_neg (by unfold BLt at hp; omega)]; exact ⟨hp, rfl⟩
    · right; rw [if_pos (by unfold BLt at hp; omega)]; exact ⟨hp, rfl⟩) (fun i h => by simp only [lts_rises_string.l0b]; rw [if_neg h]; rfl) with ⟨h, q⟩ | ⟨h, i, i0, i1, i2⟩
  · exact .inl ⟨h, q⟩
  · exact .inr ⟨h, fun hr => i2 (hr i i0 i1)⟩
theorem rises_prop_iff (a : List api_Prop) (ha : (a.length : Int) ≤ 9223372036854775807) : ∃ b, lts_rises_api_Prop.f a = some b ∧ (b = true ↔ Rise (fun p q => BLt p.Name q.Name) a) := by
  refine jn_up_true ?_
  rcases up_iff (body := fun t_ : Int => lts_rises_api_Prop.l0b a t_) (N := a.length) (p := fun i => BLt (gt a (i - 1)).Name (gt a i).Name) (bad := false) ha 1 (by decide) (fun i h0 h1 => by
    simp only [lts_rises_api_Prop.l0b]
    rw [if_pos h1, wrap64 (x := i - 1) (by omega) (by omega), if_pos (by omega), if_pos (by omega)]
    simp only [lts_byName.f, strings_Compare.f, bytealg_CompareString.f, Option.bind_some]
    by_cases hp : BLt (gt a (i - 1)).Name (gt a i).Name
    · left; rw [if_neg (by unfold BLt at hp; omega)]; exact ⟨hp, rfl⟩
    · right; rw [if_pos (by unfold BLt at hp; omega)]; exact ⟨hp, rfl⟩) (fun i h => by simp only [lts_rises_api_Prop.l0b]; rw [if_neg h]; rfl) with ⟨h, q⟩ | ⟨h, i, i0, i1, i2⟩
  · exact .inl ⟨h, q⟩
  · exact .inr ⟨h, fun hr => i2 (hr i i0 i1)⟩
theorem rises_edge_iff (a : List api_Edge) (ha : (a.length : Int) ≤ 9223372036854775807) : ∃ b, lts_rises_api_Edge.f a = some b ∧ (b = true ↔ Rise edgeLt a) := by
  refine jn_up_true ?_
  rcases up_iff (body := fun t_ : Int => lts_rises_api_Edge.l0b a t_) (N := a.length) (p := fun i => edgeLt (gt a (i - 1)) (gt a i)) (bad := false) ha 1 (by decide) (fun i h0 h1 => by
    simp only [lts_rises_api_Edge.l0b]
    rw [if_pos h1, wrap64 (x := i - 1) (by omega) (by omega), if_pos (by omega), if_pos (by omega), edge_run]
    simp only [Option.bind_some]
    by_cases hp : edgeLt (gt a (i - 1)) (gt a i)
    · left; rw [if_neg (by have := edgeCmp_lt.2 hp; omega)]; exact ⟨hp, rfl⟩
    · right; rw [if_pos (by have : ¬ edgeCmp (gt a (i - 1)) (gt a i) < 0 := fun h => hp (edgeCmp_lt.1 h); omega)]; exact ⟨hp, rfl⟩) (fun i h => by simp only [lts_rises_api_Edge.l0b]; rw [if_neg h]; rfl) with ⟨h, q⟩ | ⟨h, i, i0, i1, i2⟩
  · exact .inl ⟨h, q⟩
  · exact .inr ⟨h, fun hr => i2 (hr i i0 i1)⟩
end Go.Bw
namespace Go.Bw
open Go Go.RowKit

theorem less_cb : ∀ (x y : Bs), Op.bytesLess x y = true ↔ BLt x y
  | [], [] => by simp [Op.bytesLess, BLt, Lib.compareBytes]
  | [], _ :: _ => by simp [Op.bytesLess, BLt, Lib.compareBytes]
  | _ :: _, [] => by simp [Op.bytesLess, BLt, Lib.compareBytes]
  | a :: x, b :: y => by
    have ih := less_cb x y
    unfold BLt at ih
    unfold Op.bytesLess BLt Lib.compareBytes
    by_cases h1 : a < b
    · simp [h1]
    · by_cases h2 : b < a
      · have : a ≠ b := fun h => by subst h; exact UInt8.lt_irrefl a h2
        simp [h1, h2, this]
      · have : a = b := UInt8.le_antisymm (UInt8.not_lt.1 h2) (UInt8.not_lt.1 h1)
        subst this
        simp [h1, ih]
theorem bslt_iff {x y : Bs} : bslt x y = true ↔ BLt x y := by
  unfold bslt slt
  rw [bytes_toList, bytes_toList]
  exact less_cb x y
theorem refNames_iff (a : List Bs) (ha : (a.length : Int) ≤ 9223372036854775807) : ∃ b, bailiffref03_names.f a = some b ∧ (b = true ↔ (∀ s ∈ a, NameS s) ∧ Rise BLt a) := by
  refine jn_up_true ?_
  have key := up_iff (body := fun t_ : Int => bailiffref03_names.l0b a t_) (N := a.length) (p := fun i => NameS (gt a i) ∧ (0 < i → BLt (gt a (i - 1)) (gt a i))) (bad := false) ha 0 (by decide) (fun i h0 h1 => by
    simp only [bailiffref03_names.l0b]
    obtain ⟨b, hb, hb2⟩ := refName_iff (gt a i)
    rw [if_pos h1, if_pos ⟨h0, h1⟩, hb]
    simp only [Option.bind_some]
    cases b with
    | false => right; exact ⟨fun h => (by have := hb2.2 h.1; cases this), by simp [jn, upL]⟩
    | true =>
      have hn := hb2.1 rfl
      by_cases hi : 0 < i
      · rw [wrap64 (x := i - 1) (by omega) (by omega)]
        have hc : (0 : Int) ≤ i - 1 ∧ i - 1 < (a.length : Int) := by omega
        have hi' : 1 ≤ i := by omega
        by_cases hl : BLt (gt a (i - 1)) (gt a i)
        · left; refine ⟨⟨hn, fun _ => hl⟩, ?_⟩
          simp [hi, hi', hc, bslt_iff.2 hl, jn, nx]
        · right; refine ⟨fun h => hl (h.2 hi), ?_⟩
          have : bslt (gt a (i - 1)) (gt a i) = false := Bool.eq_false_iff.2 fun h => hl (bslt_iff.1 h)
          simp [hi, hi', hc, this, jn, upL]
      · left; refine ⟨⟨hn, fun h => absurd h hi⟩, ?_⟩
        simp [hi, jn, nx]) (fun i h => by simp only [bailiffref03_names.l0b]; rw [if_neg h]; rfl)
  have hiff : (∀ i : Int, 0 ≤ i → i < (a.length : Int) → NameS (gt a i) ∧ (0 < i → BLt (gt a (i - 1)) (gt a i))) ↔ (∀ s ∈ a, NameS s) ∧ Rise BLt a := by
    constructor
    · intro h
      refine ⟨fun s hs => ?_, fun i i0 i1 => (h i (by omega) i1).2 (by omega)⟩
      obtain ⟨k, hk, rfl⟩ := List.getElem_of_mem hs
      have := (h k (by omega) (by omega)).1
      rwa [gt_of_get (List.getElem?_eq_getElem hk)] at this
    · rintro ⟨h1, h2⟩ i i0 i1
      exact ⟨h1 _ (gt_mem i0 i1), fun h => h2 i (by omega) i1⟩
  rcases key with ⟨h, q⟩ | ⟨h, i, i0, i1, i2⟩
  · exact .inl ⟨h, hiff.1 q⟩
  · exact .inr ⟨h, fun hr => i2 (hiff.2 hr i i0 i1)⟩
theorem names_iff (a : List Bs) (ha : (a.length : Int) ≤ 9223372036854775807) : ∃ b, slices_ContainsFunc_string_string.f a = some b ∧ (b = true ↔ ¬ ∀ s ∈ a, NameS s) := by
  -- all that is passed is a name
  have key := iter_meas (body := fun t_ : Int => slices_IndexFunc_string_string.l0b a t_) (fun i => 0 ≤ i ∧ ∀ j : Int, 0 ≤ j → j < i → j < (a.length : Int) → NameS (gt a j)) (fun r => r = .inl () ∧ (∀ s ∈ a, NameS s) ∨ ∃ k : Int, 0 ≤ k ∧ r = .inr k ∧ ¬ ∀ s ∈ a, NameS s) (fun i => ((a.length : Int) - i).toNat) (fun i ⟨h0, h2⟩ => by
    unfold slices_IndexFunc_string_string.l0b lts_Right_3.f
    by_cases h1 : i < (a.length : Int)
    · obtain ⟨c, hc, hc2⟩ := name_iff (gt a i)
      rw [if_pos h1, if_pos ⟨h0, h1⟩, hc]
      simp only [Option.bind_some]
      cases c with
      | true =>
        right
        rw [wrap64 (x := i + 1) (by omega) (by omega)]
        refine ⟨_, rfl, ⟨by omega, fun j j0 j1 j2 => ?_⟩, by omega⟩
        by_cases hj : j = i
        · subst hj; exact hc2.1 rfl
        · exact h2 j j0 (by omega) j2
      | false => left; exact ⟨_, rfl, .inr ⟨i, h0, rfl, fun h => by have := hc2.2 (h _ (gt_mem h0 h1)); cases this⟩⟩
    · left; rw [if_neg h1]
      refine ⟨_, rfl, .inl ⟨rfl, fun s hs => ?_⟩⟩
      obtain ⟨k, hk, rfl⟩ := List.getElem_of_mem hs
      have := h2 k (by omega) (by omega) (by omega)
      rwa [gt_of_get (List.getElem?_eq_getElem hk)] at this) 0 ⟨Int.le_refl _, fun j j0 j1 => by omega⟩
  obtain ⟨r', hr', hq'⟩ := key
  unfold slices_ContainsFunc_string_string.f slices_IndexFunc_string_string.f slices_IndexFunc_string_string.l0
  rw [hr']
  rcases hq' with ⟨rfl, h⟩ | ⟨k, k0, rfl, h⟩
  · exact ⟨false, rfl, by simp; exact h⟩
  · exact ⟨true, by simp [jn, k0], by simp only [true_iff]; exact h⟩
def StatesS (n : Int) (a : List Int) : Prop := (∀ s ∈ a, 0 ≤ s ∧ s < n) ∧ Rise (· < ·) a
theorem inS_iff (a : List Int) (n : Int) (x : List Bs) (y : List api_Edge) (z : List api_Prop) (ha : (a.length : Int) ≤ 9223372036854775807) : ∃ b, slices_ContainsFunc_int_int.f a n x y z = some b ∧ (b = true ↔ ¬ ∀ s ∈ a, 0 ≤ s ∧ s < n) := by
  have key := iter_meas (body := fun t_ : Int => slices_IndexFunc_int_int.l0b a n x y z t_) (fun i => 0 ≤ i ∧ ∀ j : Int, 0 ≤ j → j < i → j < (a.length : Int) → 0 ≤ gt a j ∧ gt a j < n) (fun r => r = .inl () ∧ (∀ s ∈ a, 0 ≤ s ∧ s < n) ∨ ∃ k : Int, 0 ≤ k ∧ r = .inr k ∧ ¬ ∀ s ∈ a, 0 ≤ s ∧ s < n) (fun i => ((a.length : Int) - i).toNat) (fun i ⟨h0, h2⟩ => by
    unfold slices_IndexFunc_int_int.l0b lts_Right_2.f
    by_cases h1 : i < (a.length : Int)
    · rw [if_pos h1, if_pos ⟨h0, h1⟩, in_run]
      simp only [Option.bind_some]
      by_cases hp : 0 ≤ gt a i ∧ gt a i < n
      · right
        rw [wrap64 (x := i + 1) (by omega) (by omega)]
        refine ⟨i + 1, by simp [hp, nx], ⟨by omega, fun j j0 j1 j2 => ?_⟩, by omega⟩
        by_cases hj : j = i
        · subst hj; exact hp
        · exact h2 j j0 (by omega) j2
      · left; exact ⟨.inr i, by simp [hp, upL], .inr ⟨i, h0, rfl, fun h => hp (h _ (gt_mem h0 h1))⟩⟩
    · left; rw [if_neg h1]
      refine ⟨_, rfl, .inl ⟨rfl, fun s hs => ?_⟩⟩
      obtain ⟨k, hk, rfl⟩ := List.getElem_of_mem hs
      have := h2 k (by omega) (by omega) (by omega)
      rwa [gt_of_get (List.getElem?_eq_getElem hk)] at this) 0 ⟨Int.le_refl _, fun j j0 j1 => by omega⟩
  obtain ⟨r', hr', hq'⟩ := key
  unfold slices_ContainsFunc_int_int.f slices_IndexFunc_int_int.f slices_IndexFunc_int_int.l0
  rw [hr']
  rcases hq' with ⟨rfl, h⟩ | ⟨k, k0, rfl, h⟩
  · exact ⟨false, rfl, by simp; exact h⟩
  · exact ⟨true, by simp [jn, k0], by simp only [true_iff]; exact h⟩
end Go.Bw
namespace Go.Bw
open Go Go.RowKit

def W8 (v : BitVec 8) : Int := (v.toNat : Int)
theorem ofInt_w8 (v : BitVec 8) : BitVec.ofInt 8 (W8 v) = v := by
  unfold W8
  apply BitVec.eq_of_toNat_eq
  simp
theorem W8.inj {u v : BitVec 8} (h : W8 u = W8 v) : u = v := by rw [← ofInt_w8 u, h, ofInt_w8]
theorem wrap8 {x : Int} (h0 : 0 ≤ x) (h1 : x < 256) : IntKind.u8.wrap x = x := by
  simp [IntKind.wrap, IntKind.bits, IntKind.signed]
  omega
theorem wrap_w8 (v : BitVec 8) : IntKind.u8.wrap (v.toNat : Int) = W8 v := by
  have := v.isLt
  exact wrap8 (by omega) (by omega)
theorem bor_w8 (u v : BitVec 8) : bor .u8 (W8 u) (W8 v) = W8 (u ||| v) := by
  show IntKind.u8.wrap ((BitVec.ofInt 8 (W8 u) ||| BitVec.ofInt 8 (W8 v)).toNat : Int) = _
  rw [ofInt_w8, ofInt_w8, wrap_w8]
theorem shl8 {k : Int} (h0 : 0 ≤ k) (h1 : k < 8) : Bw.shl .u8 1 k = W8 (BitVec.twoPow 8 k.toNat) := by
  obtain ⟨m, rfl⟩ := Int.eq_ofNat_of_zero_le h0
  have hm : m < 8 := by omega
  match m, hm with
  | 0, _ => rfl
  | 1, _ => rfl
  | 2, _ => rfl
  | 3, _ => rfl
  | 4, _ => rfl
  | 5, _ => rfl
  | 6, _ => rfl
  | 7, _ => rfl
def full8 (m : Nat) : BitVec 8 := BitVec.allOnes 8 >>> (8 - m)
theorem full_run {m : Nat} (hm : m ≤ 8) : IntKind.u8.wrap (Bw.shl .u8 1 (m : Int) - 1) = W8 (full8 m) := by
  match m, hm with
  | 0, _ => rfl
  | 1, _ => rfl
  | 2, _ => rfl
  | 3, _ => rfl
  | 4, _ => rfl
  | 5, _ => rfl
  | 6, _ => rfl
  | 7, _ => rfl
  | 8, _ => rfl
theorem full_bit {m k : Nat} (hm : m ≤ 8) (hk : k < 8) : (full8 m).getLsbD k = decide (k < m) := by
  unfold full8
  rw [BitVec.getLsbD_ushiftRight, BitVec.getLsbD_allOnes]
  rw [decide_eq_decide]
  omega
def UsedS (m : Nat) (y : List api_Edge) : Prop := ∀ k : Int, 0 ≤ k → k < (m : Int) → ∃ e ∈ y, e.Action = k
def Mask (v : BitVec 8) (y : List api_Edge) : Prop := ∀ k : Nat, k < 8 → (v.getLsbD k = true ↔ ∃ e ∈ y, e.Action = (k : Int))
theorem mask_used {v : BitVec 8} {y : List api_Edge} {n : Int} {m : Nat} (hv : Mask v y) (hm : m ≤ 8) (he : ∀ e ∈ y, EdgeIn n m e) : v = full8 m ↔ UsedS m y := by
  constructor
  · rintro rfl k k0 k1
    have := (hv k.toNat (by omega)).1 (by rw [full_bit hm (by omega)]; simp; omega)
    obtain ⟨e, h1, h2⟩ := this
    exact ⟨e, h1, by omega⟩
  · intro h
    apply BitVec.eq_of_getLsbD_eq
    intro k hk
    rw [full_bit hm hk, Bool.eq_iff_iff, hv k hk, decide_eq_true_eq]
    constructor
    · rintro ⟨e, h1, h2⟩
      have := (he e h1).2.2.2.2.2
      omega
    · intro hkm
      exact h k (by omega) (by omega)
theorem edges_iff (n : Int) (x : List Bs) (y : List api_Edge) (z : List api_Prop) (hy : (y.length : Int) ≤ 9223372036854775807) (hx : x.length ≤ 8) :
    (∃ v, lts_Right.l0 n x y z 0 0 = some (.inl (W8 v)) ∧ Mask v y ∧ ∀ e ∈ y, EdgeIn n x.length e) ∨ (lts_Right.l0 n x y z 0 0 = some (.inr false) ∧ ¬ ∀ e ∈ y, EdgeIn n x.length e) := by
  obtain ⟨r, hr, hq⟩ := iter_meas (body := fun t_ : Int × Int => lts_Right.l0b n x y z t_.1 t_.2) (fun s => 0 ≤ s.2 ∧ s.2 ≤ (y.length : Int) ∧ (∀ e ∈ y.take s.2.toNat, EdgeIn n x.length e) ∧ ∃ v, s.1 = W8 v ∧ Mask v (y.take s.2.toNat))
    (fun r => (∃ v, r = .inl (W8 v) ∧ Mask v y ∧ ∀ e ∈ y, EdgeIn n x.length e) ∨ (r = .inr false ∧ ¬ ∀ e ∈ y, EdgeIn n x.length e)) (fun s => ((y.length : Int) - s.2).toNat) (fun ⟨u, i⟩ ⟨h0, h1, h2, v, h3, h4⟩ => by
      dsimp only at h0 h1 h2 h3 h4 ⊢
      subst h3
      unfold lts_Right.l0b
      by_cases hi : i < (y.length : Int)
      · have hm := gt_mem h0 hi
        rw [if_pos hi, if_pos ⟨h0, hi⟩, in_run, in_run]
        simp only [Option.bind_some]
        by_cases e1 : 0 ≤ (gt y i).From ∧ (gt y i).From < n
        · by_cases e2 : 0 ≤ (gt y i).To ∧ (gt y i).To < n
          · by_cases e3 : (gt y i).Action < 0
            · left; exact ⟨_, by simp [e1, e2, e3, jn, upL], .inr ⟨rfl, fun h => by have := (h _ hm).2.2.2.2.1; omega⟩⟩
            · by_cases e4 : (x.length : Int) ≤ (gt y i).Action
              · left; exact ⟨_, by simp [e1, e2, e3, e4, jn, upL], .inr ⟨rfl, fun h => by have := (h _ hm).2.2.2.2.2; omega⟩⟩
              · right
                have e5 : 0 ≤ (gt y i).Action := by omega
                have hw : IntKind.i64.wrap (i + 1) = i + 1 := wrap64 (by omega) (by omega)
                have ht : y.take (i + 1).toNat = y.take i.toNat ++ [gt y i] := by
                  rw [show (i + 1).toNat = i.toNat + 1 from by omega, List.take_add_one, gt_some h0 hi]; rfl
                refine ⟨(W8 (v ||| BitVec.twoPow 8 (gt y i).Action.toNat), i + 1), by simp [e1, e2, e3, e4, e5, jn, nx, hw, shl8 e5 (by omega), bor_w8], ⟨by dsimp only; omega, by dsimp only; omega, fun e he => ?_, _, rfl, fun k hk => ?_⟩, by dsimp only; omega⟩
                · dsimp only at he
                  rw [ht] at he
                  rcases List.mem_append.1 he with he | he
                  · exact h2 e he
                  · simp at he; subst he
                    exact ⟨e1.1, e1.2, e2.1, e2.2, e5, by omega⟩
                · dsimp only
                  rw [ht, BitVec.getLsbD_or, Bool.or_eq_true, h4 k hk, BitVec.getLsbD_twoPow]
                  constructor
                  · rintro (⟨e, a, b⟩ | h)
                    · exact ⟨e, by simp [a], b⟩
                    · simp at h
                      exact ⟨gt y i, by simp, by omega⟩
                  · rintro ⟨e, a, b⟩
                    rcases List.mem_append.1 a with a | a
                    · exact .inl ⟨e, a, b⟩
                    · simp at a
                      subst a
                      right
                      simp
                      omega
          · left; exact ⟨_, by simp [e1, e2, jn, upL], .inr ⟨rfl, fun h => e2 ⟨(h _ hm).2.2.1, (h _ hm).2.2.2.1⟩⟩⟩
        · left; exact ⟨_, by simp [e1, jn, upL], .inr ⟨rfl, fun h => e1 ⟨(h _ hm).1, (h _ hm).2.1⟩⟩⟩
      · left
        rw [if_neg hi]
        rw [List.take_of_length_le (by omega)] at h2 h4
        exact ⟨_, rfl, .inl ⟨v, rfl, h4, h2⟩⟩) (0, 0) ⟨Int.le_refl _, by dsimp only; omega, by simp, 0#8, rfl, fun k hk => by simp⟩
  rcases hq with ⟨v, rfl, h⟩ | ⟨rfl, h⟩
  · exact .inl ⟨v, hr, h⟩
  · exact .inr ⟨hr, h⟩
def PropS (n : Int) (p : api_Prop) : Prop := NameS p.Name ∧ StatesS n p.States
theorem props_iff (n : Int) (x : List Bs) (y : List api_Edge) (z : List api_Prop) (hz : (z.length : Int) ≤ 9223372036854775807) (hs : ∀ p ∈ z, (p.States.length : Int) ≤ 9223372036854775807) :
    (lts_Right.l1 n x y z 0 = some (.inl ()) ∧ ∀ p ∈ z, PropS n p) ∨ (lts_Right.l1 n x y z 0 = some (.inr false) ∧ ¬ ∀ p ∈ z, PropS n p) := by
  have key := up_iff (body := fun t_ : Int => lts_Right.l1b n x y z t_) (N := z.length) (p := fun i => PropS n (gt z i)) (bad := false) hz 0 (by decide) (fun i hi h1 => by
    simp only [lts_Right.l1b]
    obtain ⟨b1, hb1, c1⟩ := name_iff (gt z i).Name
    obtain ⟨b2, hb2, c2⟩ := rises_int_iff (gt z i).States (hs _ (gt_mem hi h1))
    obtain ⟨b3, hb3, c3⟩ := inS_iff (gt z i).States n x y z (hs _ (gt_mem hi h1))
    rw [if_pos h1, if_pos ⟨hi, h1⟩, hb1, hb2, hb3]
    unfold PropS StatesS
    rw [← c1, ← c2]
    have c3' : (∀ s ∈ (gt z i).States, 0 ≤ s ∧ s < n) ↔ b3 = false := by
      cases b3 with
      | true => simp only [Bool.true_eq_false, iff_false]; exact c3.1 rfl
      | false => simp only [iff_true]; exact Classical.not_not.1 fun h => by have := c3.2 h; cases this
    rw [c3']
    cases b1 <;> cases b2 <;> cases b3 <;> simp [jn, nx, upL]) (fun i h => by simp only [lts_Right.l1b]; rw [if_neg h]; rfl)
  have hiff : (∀ i : Int, 0 ≤ i → i < (z.length : Int) → PropS n (gt z i)) ↔ ∀ p ∈ z, PropS n p := by
    constructor
    · intro h p hp
      obtain ⟨k, hk, rfl⟩ := List.getElem_of_mem hp
      have := h k (by omega) (by omega)
      rwa [gt_of_get (List.getElem?_eq_getElem hk)] at this
    · exact fun h i i0 i1 => h _ (gt_mem i0 i1)
  rcases key with ⟨h, q⟩ | ⟨h, i, i0, i1, i2⟩
  · exact .inl ⟨h, hiff.1 q⟩
  · exact .inr ⟨h, fun hr => i2 (hiff.2 hr i i0 i1)⟩
structure RightS (n : Int) (x : List Bs) (y : List api_Edge) (z : List api_Prop) : Prop where
  n0 : 1 ≤ n
  n1 : n ≤ 24
  nx : x.length ≤ 8
  nz : z.length ≤ 8
  ny : y.length ≤ 200
  ed : ∀ e ∈ y, EdgeIn n x.length e
  pr : ∀ p ∈ z, PropS n p
  nm : ∀ s ∈ x, NameS s
  us : UsedS x.length y
  re : Rise edgeLt y
  rx : Rise BLt x
  rz : Rise (fun p q => BLt p.Name q.Name) z
theorem right_iff (n : Int) (x : List Bs) (y : List api_Edge) (z : List api_Prop) (hs : ∀ p ∈ z, (p.States.length : Int) ≤ 9223372036854775807) : ∃ b, lts_Right.f n x y z = some b ∧ (b = true ↔ RightS n x y z) := by
  have no : ∀ {P : Prop}, ¬ P → (false = true ↔ P) := fun h => ⟨fun e => (by cases e), fun p => absurd p h⟩
  unfold lts_Right.f
  by_cases h1 : n < 1
  · exact ⟨false, by simp [h1, jn], no fun h => by have := h.n0; omega⟩
  by_cases h2 : 24 < n
  · exact ⟨false, by simp [h1, h2, jn], no fun h => by have := h.n1; omega⟩
  by_cases h3 : 8 < (x.length : Int)
  · exact ⟨false, by simp [h1, h2, h3, jn], no fun h => by have := h.nx; omega⟩
  by_cases h4 : 8 < (z.length : Int)
  · exact ⟨false, by simp [h1, h2, h3, h4, jn], no fun h => by have := h.nz; omega⟩
  by_cases h5 : 200 < (y.length : Int)
  · exact ⟨false, by simp [h1, h2, h3, h4, h5, jn], no fun h => by have := h.ny; omega⟩
  simp only [if_neg h1, jn_inl, decide_eq_false h2, decide_eq_false h3, decide_eq_false h4, decide_eq_false h5, Bool.false_eq_true, if_false]
  rcases edges_iff n x y z (by omega) (by omega) with ⟨v, hr, hm, he⟩ | ⟨hr, he⟩
  · rw [hr, jn_inl]
    rcases props_iff n x y z (by omega) hs with ⟨hp, hpp⟩ | ⟨hp, hpp⟩
    · rw [hp, jn_inl]
      obtain ⟨b1, hb1, c1⟩ := names_iff x (by omega)
      obtain ⟨b2, hb2, c2⟩ := rises_edge_iff y (by omega)
      obtain ⟨b3, hb3, c3⟩ := rises_str_iff x (by omega)
      obtain ⟨b4, hb4, c4⟩ := rises_prop_iff z (by omega)
      have h0 : (0 : Int) ≤ (x.length : Int) := by omega
      have hu : (W8 v = W8 (full8 x.length)) ↔ UsedS x.length y := ⟨fun h => (mask_used hm (by omega) he).1 (W8.inj h), fun h => by rw [(mask_used hm (by omega) he).2 h]⟩
      simp only [hb1, hb2, hb3, hb4, Option.bind_some, if_pos h0, full_run (show x.length ≤ 8 by omega)]
      by_cases k1 : b1 = true
      · subst k1
        exact ⟨false, by simp [jn], no fun h => c1.1 rfl h.nm⟩
      · have k1' : b1 = false := by simpa using k1
        subst k1'
        have hnm : ∀ s ∈ x, NameS s := Classical.not_not.1 fun h => by have := c1.2 h; cases this
        by_cases k2 : W8 v = W8 (full8 x.length)
        · cases b2 with
          | false => exact ⟨false, by simp [jn, k2], no fun h => by have := c2.2 h.re; cases this⟩
          | true =>
            cases b3 with
            | false => exact ⟨false, by simp [jn, k2], no fun h => by have := c3.2 h.rx; cases this⟩
            | true =>
              cases b4 with
              | false => exact ⟨false, by simp [jn, k2], no fun h => by have := c4.2 h.rz; cases this⟩
              | true => exact ⟨true, by simp [jn, k2], by simp only [true_iff]; exact ⟨by omega, by omega, by omega, by omega, by omega, he, hpp, hnm, hu.1 k2, c2.1 rfl, c3.1 rfl, c4.1 rfl⟩⟩
        · exact ⟨false, by simp [jn, k2], no fun h => k2 (hu.2 h.us)⟩
    · rw [hp]
      exact ⟨false, rfl, no fun h => hpp h.pr⟩
  · rw [hr]
    exact ⟨false, rfl, no fun h => he h.ed⟩
end Go.Bw
namespace Go.Bw
open Go Go.RowKit

instance (a b : api_Edge) : Decidable (edgeLt a b) := by unfold edgeLt; infer_instance
theorem ahead_run (a b : api_Edge) : bailiffref03_ahead.f a.From a.Action a.To b.From b.Action b.To = some (decide (edgeLt a b)) := by
  unfold bailiffref03_ahead.f edgeLt
  by_cases h1 : a.From = b.From
  · by_cases h2 : a.Action = b.Action
    · simp [h1, h2]
    · simp [h1, h2]
  · simp [h1]
def Ticks (m : Nat) (u : List Bool) (y : List api_Edge) : Prop := u.length = m ∧ ∀ k : Int, 0 ≤ k → k < (m : Int) → (gt u k = true ↔ ∃ e ∈ y, e.Action = k)
theorem refEdges_loop (n : Int) (x : List Bs) (y : List api_Edge) (hy : (y.length : Int) ≤ 9223372036854775807) :
    (∃ u, bailiffref03_edges.l0 n x y (List.replicate (x.length : Int).toNat false) 0 = some (.inl u) ∧ Ticks x.length u y ∧ (∀ e ∈ y, EdgeIn n x.length e) ∧ Rise edgeLt y) ∨ (bailiffref03_edges.l0 n x y (List.replicate (x.length : Int).toNat false) 0 = some (.inr false) ∧ ¬ ((∀ e ∈ y, EdgeIn n x.length e) ∧ Rise edgeLt y)) := by
  have hrep : ((List.replicate (x.length : Int).toNat (false : Bool)).length : Int) = x.length := by simp
  obtain ⟨r, hr, hq⟩ := iter_meas (body := fun t_ : List Bool × Int => bailiffref03_edges.l0b n x y t_.1 t_.2) (fun s => 0 ≤ s.2 ∧ s.2 ≤ (y.length : Int) ∧ (∀ e ∈ y.take s.2.toNat, EdgeIn n x.length e) ∧ (∀ i : Int, 1 ≤ i → i < s.2 → edgeLt (gt y (i - 1)) (gt y i)) ∧ Ticks x.length s.1 (y.take s.2.toNat))
    (fun r => (∃ u, r = .inl u ∧ Ticks x.length u y ∧ (∀ e ∈ y, EdgeIn n x.length e) ∧ Rise edgeLt y) ∨ (r = .inr false ∧ ¬ ((∀ e ∈ y, EdgeIn n x.length e) ∧ Rise edgeLt y))) (fun s => ((y.length : Int) - s.2).toNat) (fun ⟨u, i⟩ ⟨h0, h1, h2, h3, h4, h5⟩ => by
      dsimp only at h0 h1 h2 h3 h4 h5 ⊢
      unfold bailiffref03_edges.l0b
      by_cases hi : i < (y.length : Int)
      · have hm := gt_mem h0 hi
        rw [if_pos hi, if_pos ⟨h0, hi⟩]
        have bad : ¬ EdgeIn n x.length (gt y i) → ¬ ((∀ e ∈ y, EdgeIn n x.length e) ∧ Rise edgeLt y) := fun hb h => hb (h.1 _ hm)
        by_cases e1 : (gt y i).From < 0
        · left; exact ⟨.inr false, by simp [e1, jn, upL], .inr ⟨rfl, bad fun h => by have := h.1; omega⟩⟩
        by_cases e2 : n ≤ (gt y i).From
        · left; exact ⟨.inr false, by simp [e1, e2, jn, upL], .inr ⟨rfl, bad fun h => by have := h.2.1; omega⟩⟩
        by_cases e3 : (gt y i).To < 0
        · left; exact ⟨.inr false, by simp [e1, e2, e3, jn, upL], .inr ⟨rfl, bad fun h => by have := h.2.2.1; omega⟩⟩
        by_cases e4 : n ≤ (gt y i).To
        · left; exact ⟨.inr false, by simp [e1, e2, e3, e4, jn, upL], .inr ⟨rfl, bad fun h => by have := h.2.2.2.1; omega⟩⟩
        by_cases e5 : (gt y i).Action < 0
        · left; exact ⟨.inr false, by simp [e1, e2, e3, e4, e5, jn, upL], .inr ⟨rfl, bad fun h => by have := h.2.2.2.2.1; omega⟩⟩
        by_cases e6 : (x.length : Int) ≤ (gt y i).Action
        · left; exact ⟨.inr false, by simp [e1, e2, e3, e4, e5, e6, jn, upL], .inr ⟨rfl, bad fun h => by have := h.2.2.2.2.2; omega⟩⟩
        have e7 : (0 : Int) ≤ (gt y i).Action ∧ (gt y i).Action < ((List.replicate (x.length : Int).toNat (false : Bool)).length : Int) := by rw [hrep]; omega
        have hE : EdgeIn n x.length (gt y i) := ⟨by omega, by omega, by omega, by omega, by omega, by omega⟩
        have ht : y.take (i + 1).toNat = y.take i.toNat ++ [gt y i] := by
          rw [show (i + 1).toNat = i.toNat + 1 from by omega, List.take_add_one, gt_some h0 hi]; rfl
        simp only [if_neg e1, jn_inl, decide_eq_false e2, decide_eq_false e3, decide_eq_false e4, decide_eq_false e5, decide_eq_false e6, Bool.false_eq_true, if_false, if_pos e7]
        have go : (i = 0 ∨ edgeLt (gt y (i - 1)) (gt y i)) → (0 ≤ i + 1 ∧ i + 1 ≤ (y.length : Int) ∧ (∀ e ∈ y.take (i + 1).toNat, EdgeIn n x.length e) ∧ (∀ j : Int, 1 ≤ j → j < i + 1 → edgeLt (gt y (j - 1)) (gt y j)) ∧ Ticks x.length (st u (gt y i).Action true) (y.take (i + 1).toNat)) := fun ho => by
          refine ⟨by omega, by omega, fun e he => ?_, fun j j0 j1 => ?_, by rw [st_len]; exact h4, fun k k0 k1 => ?_⟩
          · rw [ht] at he
            rcases List.mem_append.1 he with he | he
            · exact h2 e he
            · simp at he; subst he; exact hE
          · by_cases hj : j = i
            · subst hj; rcases ho with ho | ho
              · omega
              · exact ho
            · exact h3 j j0 (by omega)
          · rw [gt_st e7.1 (by rw [h4]; omega) k0, ht]
            by_cases hk : k = (gt y i).Action
            · rw [if_pos hk]; simp only [true_iff]; exact ⟨gt y i, by simp, hk.symm⟩
            · rw [if_neg hk, h5 k k0 k1]
              constructor
              · rintro ⟨e, a, b⟩; exact ⟨e, by simp [a], b⟩
              · rintro ⟨e, a, b⟩
                rcases List.mem_append.1 a with a | a
                · exact ⟨e, a, b⟩
                · simp at a; subst a; exact absurd b.symm hk
        have hw : IntKind.i64.wrap (i + 1) = i + 1 := wrap64 (by omega) (by omega)
        by_cases hi0 : 0 < i
        · have hc : (0 : Int) ≤ i - 1 ∧ i - 1 < (y.length : Int) := by omega
          rw [if_pos hi0, wrap64 (x := i - 1) (by omega) (by omega), if_pos hc, ahead_run]
          simp only [Option.bind_some, jn_inl]
          by_cases hl : edgeLt (gt y (i - 1)) (gt y i)
          · right
            refine ⟨(st u (gt y i).Action true, i + 1), by simp [hl, nx, hw], go (.inr hl), by dsimp only; omega⟩
          · left
            exact ⟨.inr false, by simp [hl, upL], .inr ⟨rfl, fun h => hl (h.2 i (by omega) hi)⟩⟩
        · right
          rw [if_neg hi0, jn_inl]
          refine ⟨(st u (gt y i).Action true, i + 1), by simp [nx, hw], go (.inl (by omega)), by dsimp only; omega⟩
      · left
        rw [if_neg hi]
        rw [List.take_of_length_le (by omega)] at h2
        refine ⟨_, rfl, .inl ⟨u, rfl, ⟨h4, ?_⟩, h2, fun j j0 j1 => h3 j j0 (by omega)⟩⟩
        rw [List.take_of_length_le (by omega)] at h5
        exact h5) (List.replicate (x.length : Int).toNat false, 0) ⟨Int.le_refl _, by dsimp only; omega, by simp, fun j j0 j1 => by dsimp only at j1; omega, by simp, fun k k0 k1 => by
        dsimp only
        unfold gt
        rw [List.getD_eq_getElem?_getD, List.getElem?_replicate]
        split <;> simp⟩
  rcases hq with ⟨u, rfl, h⟩ | ⟨rfl, h⟩
  · exact .inl ⟨u, hr, h⟩
  · exact .inr ⟨hr, h⟩
theorem refEdges_iff (n : Int) (x : List Bs) (y : List api_Edge) (z : List api_Prop) (hy : (y.length : Int) ≤ 9223372036854775807) (hx : x.length ≤ 8) :
    ∃ b, bailiffref03_edges.f n x y z = some b ∧ (b = true ↔ (∀ e ∈ y, EdgeIn n x.length e) ∧ Rise edgeLt y ∧ UsedS x.length y) := by
  have hrep : ((List.replicate (x.length : Int).toNat (false : Bool)).length : Int) = x.length := by simp
  unfold bailiffref03_edges.f
  rw [if_pos (by omega)]
  rcases refEdges_loop n x y hy with ⟨u, hu, ⟨t1, t2⟩, he, hr⟩ | ⟨hu, hn⟩
  · rw [hu, jn_inl]
    rcases up_iff (body := fun t_ : Int => bailiffref03_edges.l1b x u t_) (N := x.length) (p := fun i => gt u i = true) (bad := false) (by omega) 0 (by decide) (fun i h0 h1 => by
      simp only [bailiffref03_edges.l1b]
      rw [hrep, if_pos h1, if_pos ⟨h0, h1⟩]
      by_cases hp : gt u i = true
      · left; rw [if_pos hp]; exact ⟨hp, rfl⟩
      · right; rw [if_neg hp]; exact ⟨hp, rfl⟩) (fun i h => by simp only [bailiffref03_edges.l1b]; rw [hrep, if_neg h]; rfl) with ⟨h, q⟩ | ⟨h, i, i0, i1, i2⟩
    · exact ⟨true, by rw [show bailiffref03_edges.l1 x u 0 = _ from h]; rfl, by simp only [true_iff]; exact ⟨he, hr, fun k k0 k1 => (t2 k k0 k1).1 (q k k0 k1)⟩⟩
    · exact ⟨false, by rw [show bailiffref03_edges.l1 x u 0 = _ from h]; rfl, by simp only [Bool.false_eq_true, false_iff]; exact fun hh => i2 ((t2 i i0 i1).2 (hh.2.2 i i0 i1))⟩
  · rw [hu]
    exact ⟨false, rfl, by simp only [Bool.false_eq_true, false_iff]; exact fun hh => hn ⟨hh.1, hh.2.1⟩⟩
end Go.Bw
namespace Go.Bw
open Go Go.RowKit

theorem refStates (n : Int) (z : List api_Prop) (i : Int) (ha : ((gt z i).States.length : Int) ≤ 9223372036854775807) :
    (bailiffref03_Right.l1 n z i 0 = some (.inl ()) ∧ StatesS n (gt z i).States) ∨ (bailiffref03_Right.l1 n z i 0 = some (.inr (.inr (.inr false))) ∧ ¬ StatesS n (gt z i).States) := by
  generalize hS : (gt z i).States = S at ha
  have key := up_iff (body := fun t_ : Int => bailiffref03_Right.l1b n z i t_) (N := S.length) (p := fun k => (0 ≤ gt S k ∧ gt S k < n) ∧ (0 < k → gt S (k - 1) < gt S k)) (bad := .inr (.inr false)) ha 0 (by decide) (fun k k0 k1 => by
    simp only [bailiffref03_Right.l1b, hS]
    rw [if_pos k1, if_pos ⟨k0, k1⟩]
    by_cases e1 : gt S k < 0
    · right; exact ⟨fun h => by have := h.1.1; omega, by simp [e1, jn, upL]⟩
    by_cases e2 : n ≤ gt S k
    · right; exact ⟨fun h => by have := h.1.2; omega, by simp [e1, e2, jn, upL]⟩
    by_cases hk : 0 < k
    · have hc : (0 : Int) ≤ k - 1 ∧ k - 1 < (S.length : Int) := by omega
      have hk' : 1 ≤ k := by omega
      rw [wrap64 (x := k - 1) (by omega) (by omega)]
      by_cases hl : gt S k ≤ gt S (k - 1)
      · right; exact ⟨fun h => by have := h.2 hk; omega, by simp [e1, e2, hk, hk', hc, hl, jn, upL]⟩
      · left; exact ⟨⟨by omega, fun _ => by omega⟩, by simp [e1, e2, hk, hk', hc, hl, jn, nx]⟩
    · left; exact ⟨⟨by omega, fun h => absurd h hk⟩, by simp [e1, e2, hk, jn, nx]⟩) (fun k h => by simp only [bailiffref03_Right.l1b, hS]; rw [if_neg h]; rfl)
  have hiff : (∀ k : Int, 0 ≤ k → k < (S.length : Int) → (0 ≤ gt S k ∧ gt S k < n) ∧ (0 < k → gt S (k - 1) < gt S k)) ↔ StatesS n S := by
    constructor
    · intro h
      refine ⟨fun s hs => ?_, fun k k0 k1 => (h k (by omega) k1).2 (by omega)⟩
      obtain ⟨q, hq, rfl⟩ := List.getElem_of_mem hs
      have := (h q (by omega) (by omega)).1
      rwa [gt_of_get (List.getElem?_eq_getElem hq)] at this
    · rintro ⟨h1, h2⟩ k k0 k1
      exact ⟨h1 _ (gt_mem k0 k1), fun h => h2 k (by omega) k1⟩
  rcases key with ⟨h, q⟩ | ⟨h, k, k0, k1, k2⟩
  · exact .inl ⟨h, hiff.1 q⟩
  · exact .inr ⟨h, fun hr => k2 (hiff.2 hr k k0 k1)⟩
theorem refProps (n : Int) (z : List api_Prop) (hz : z.length ≤ 8) (hs : ∀ p ∈ z, (p.States.length : Int) ≤ 9223372036854775807) :
    (bailiffref03_Right.l0 n z [] 0 = some (.inl (z.map (·.Name))) ∧ ∀ p ∈ z, StatesS n p.States) ∨ (bailiffref03_Right.l0 n z [] 0 = some (.inr false) ∧ ¬ ∀ p ∈ z, StatesS n p.States) := by
  obtain ⟨r, hr, hq⟩ := iter_meas (body := fun t_ : List Bs × Int => bailiffref03_Right.l0b n z t_.1 t_.2) (fun s => 0 ≤ s.2 ∧ s.2 ≤ (z.length : Int) ∧ s.1 = (z.take s.2.toNat).map (·.Name) ∧ ∀ p ∈ z.take s.2.toNat, StatesS n p.States)
    (fun r => (r = .inl (z.map (·.Name)) ∧ ∀ p ∈ z, StatesS n p.States) ∨ (r = .inr false ∧ ¬ ∀ p ∈ z, StatesS n p.States)) (fun s => ((z.length : Int) - s.2).toNat) (fun ⟨l, i⟩ ⟨h0, h1, h2, h3⟩ => by
      dsimp only at h0 h1 h2 h3 ⊢
      subst h2
      unfold bailiffref03_Right.l0b
      by_cases hi : i < (z.length : Int)
      · have hm := gt_mem h0 hi
        rw [if_pos hi, if_pos ⟨h0, hi⟩, if_pos (by simp; omega)]
        have ht : z.take (i + 1).toNat = z.take i.toNat ++ [gt z i] := by
          rw [show (i + 1).toNat = i.toNat + 1 from by omega, List.take_add_one, gt_some h0 hi]; rfl
        rcases refStates n z i (hs _ hm) with ⟨hl, hp⟩ | ⟨hl, hp⟩
        · right
          rw [hl, jn_inl, wrap64 (x := i + 1) (by omega) (by omega)]
          refine ⟨_, rfl, ⟨by dsimp only; omega, by dsimp only; omega, by dsimp only; rw [ht]; simp, fun p hp' => ?_⟩, by dsimp only; omega⟩
          dsimp only at hp'
          rw [ht] at hp'
          rcases List.mem_append.1 hp' with h | h
          · exact h3 p h
          · simp at h; subst h; exact hp
        · left
          rw [hl]
          exact ⟨.inr false, rfl, .inr ⟨rfl, fun h => hp (h _ hm)⟩⟩
      · left
        rw [if_neg hi]
        rw [List.take_of_length_le (by omega)] at h3 ⊢
        exact ⟨_, rfl, .inl ⟨rfl, h3⟩⟩) ([], 0) ⟨Int.le_refl _, by dsimp only; omega, by simp, by simp⟩
  rcases hq with ⟨rfl, h⟩ | ⟨rfl, h⟩
  · exact .inl ⟨hr, h⟩
  · exact .inr ⟨hr, h⟩
theorem gt_map_name (z : List api_Prop) {i : Int} (h0 : 0 ≤ i) (h1 : i < (z.length : Int)) : gt (z.map (·.Name)) i = (gt z i).Name := by
  unfold gt
  rw [List.getD_eq_getElem?_getD, List.getD_eq_getElem?_getD, List.getElem?_map, List.getElem?_eq_getElem (by omega)]
  rfl
theorem rise_map (z : List api_Prop) : Rise BLt (z.map (·.Name)) ↔ Rise (fun p q => BLt p.Name q.Name) z := by
  unfold Rise
  rw [List.length_map]
  constructor
  · intro h i i0 i1
    have := h i i0 i1
    rwa [gt_map_name z (by omega) (by omega), gt_map_name z (by omega) i1] at this
  · intro h i i0 i1
    rw [gt_map_name z (by omega) (by omega), gt_map_name z (by omega) i1]
    exact h i i0 i1
theorem refRight_iff (n : Int) (x : List Bs) (y : List api_Edge) (z : List api_Prop) (hs : ∀ p ∈ z, (p.States.length : Int) ≤ 9223372036854775807) : ∃ b, bailiffref03_Right.f n x y z = some b ∧ (b = true ↔ RightS n x y z) := by
  have no : ∀ {P : Prop}, ¬ P → (false = true ↔ P) := fun h => ⟨fun e => (by cases e), fun p => absurd p h⟩
  unfold bailiffref03_Right.f
  by_cases h1 : n < 1
  · exact ⟨false, by simp [h1, jn], no fun h => by have := h.n0; omega⟩
  by_cases h2 : 24 < n
  · exact ⟨false, by simp [h1, h2, jn], no fun h => by have := h.n1; omega⟩
  by_cases h3 : 8 < (x.length : Int)
  · exact ⟨false, by simp [h1, h2, h3, jn], no fun h => by have := h.nx; omega⟩
  by_cases h4 : 8 < (z.length : Int)
  · exact ⟨false, by simp [h1, h2, h3, h4, jn], no fun h => by have := h.nz; omega⟩
  by_cases h5 : 200 < (y.length : Int)
  · exact ⟨false, by simp [h1, h2, h3, h4, h5, jn], no fun h => by have := h.ny; omega⟩
  simp only [if_neg h1, jn_inl, decide_eq_false h2, decide_eq_false h3, decide_eq_false h4, decide_eq_false h5, Bool.false_eq_true, if_false]
  rcases refProps n z (by omega) hs with ⟨hp, hpp⟩ | ⟨hp, hpp⟩
  · rw [hp, jn_inl]
    obtain ⟨b1, hb1, c1⟩ := refNames_iff (z.map (·.Name)) (by simp; omega)
    obtain ⟨b2, hb2, c2⟩ := refNames_iff x (by omega)
    obtain ⟨b3, hb3, c3⟩ := refEdges_iff n x y z (by omega) (by omega)
    have c1' : b1 = true ↔ (∀ p ∈ z, NameS p.Name) ∧ Rise (fun p q => BLt p.Name q.Name) z := by
      rw [c1, rise_map]
      simp
    simp only [hb1, hb2, hb3, Option.bind_some]
    cases b1 with
    | false => exact ⟨false, by simp [jn], no fun h => by have := c1'.2 ⟨fun p hp => (h.pr p hp).1, h.rz⟩; cases this⟩
    | true =>
      cases b2 with
      | false => exact ⟨false, by simp [jn], no fun h => by have := c2.2 ⟨h.nm, h.rx⟩; cases this⟩
      | true =>
        cases b3 with
        | false => exact ⟨false, by simp [jn], no fun h => by have := c3.2 ⟨h.ed, h.re, h.us⟩; cases this⟩
        | true =>
          refine ⟨true, by simp [jn], ?_⟩
          simp only [true_iff]
          have k1 := c1'.1 rfl
          have k2 := c2.1 rfl
          have k3 := c3.1 rfl
          exact ⟨by omega, by omega, by omega, by omega, by omega, k3.1, fun p hp => ⟨k1.1 p hp, hpp p hp⟩, k2.1, k3.2.2, k3.2.1, k2.2, k1.2⟩
  · rw [hp]
    exact ⟨false, rfl, no fun h => hpp fun p hp => (h.pr p hp).2⟩
theorem right_eq (n : Int) (x : List Bs) (y : List api_Edge) (z : List api_Prop) (hs : ∀ p ∈ z, (p.States.length : Int) ≤ 9223372036854775807) : ∃ b, lts_Right.f n x y z = some b ∧ bailiffref03_Right.f n x y z = some b := by
  obtain ⟨b, hb, h1⟩ := right_iff n x y z hs
  obtain ⟨c, hc, h2⟩ := refRight_iff n x y z hs
  have : b = c := by rw [Bool.eq_iff_iff, h1, h2]
  subst this
  exact ⟨b, hb, hc⟩
end Go.Bw
namespace Go.Bw
open Go Go.RowKit

def Hx (z : List api_Prop) (m : List (Bs × sets_Set)) : Prop := ∀ k, ∃ u : W4, (mget m k).getD set0 = u.s ∧ u.Rep (fun t => ∃ p ∈ z, p.Name = k ∧ t ∈ p.States)
theorem holds_run (z : List api_Prop) (hz : (z.length : Int) ≤ 9223372036854775807) (hs : ∀ p ∈ z, (p.States.length : Int) ≤ 9223372036854775807) (hd : ∀ i j : Int, 0 ≤ i → i < j → j < (z.length : Int) → (gt z i).Name ≠ (gt z j).Name) :
    ∃ m, lts_New.l0 z [] 0 = some (.inl m) ∧ Hx z m := by
  obtain ⟨r, hr, m, rfl, hm⟩ := iter_meas (body := fun t_ : List (Bs × sets_Set) × Int => lts_New.l0b z t_.1 t_.2) (fun s => 0 ≤ s.2 ∧ s.2 ≤ (z.length : Int) ∧ Hx (z.take s.2.toNat) s.1)
    (fun r => ∃ m, r = .inl m ∧ Hx z m) (fun s => ((z.length : Int) - s.2).toNat) (fun ⟨m, i⟩ ⟨h0, h1, h2⟩ => by
      dsimp only at h0 h1 h2 ⊢
      unfold lts_New.l0b
      by_cases hi : i < (z.length : Int)
      · right
        obtain ⟨u, hu, hur⟩ := of_run4 (hs _ (gt_mem h0 hi))
        rw [if_pos hi, if_pos ⟨h0, hi⟩, hu, wrap64 (x := i + 1) (by omega) (by omega)]
        refine ⟨_, rfl, ⟨by dsimp only; omega, by dsimp only; omega, fun k => ?_⟩, by dsimp only; omega⟩
        dsimp only
        rw [show (i + 1).toNat = i.toNat + 1 from by omega, List.take_add_one, gt_some h0 hi, mget_mset]
        by_cases hk : (gt z i).Name = k
        · rw [if_pos hk]
          refine ⟨u, rfl, fun n n0 n1 => ?_⟩
          rw [hur n n0 n1]
          constructor
          · intro h; exact ⟨gt z i, by simp, hk, h⟩
          · rintro ⟨p, hp, e1, e2⟩
            rcases List.mem_append.1 hp with hp | hp
            · obtain ⟨q, hq, rfl⟩ := List.getElem_of_mem hp
              have hq' : q < i.toNat := by simp at hq; omega
              have hq2 : q < z.length := by simp at hq; omega
              have := hd q i (by omega) (by omega) hi
              rw [gt_of_get (List.getElem?_eq_getElem hq2)] at this
              simp only [List.getElem_take] at e1
              exact absurd (e1.trans hk.symm) this
            · simp at hp; subst hp; exact e2
        · rw [if_neg hk]
          obtain ⟨v, hv, hvr⟩ := h2 k
          refine ⟨v, hv, fun n n0 n1 => ?_⟩
          rw [hvr n n0 n1]
          constructor
          · rintro ⟨p, a, b⟩; exact ⟨p, by simp [a], b⟩
          · rintro ⟨p, a, b, c⟩
            rcases List.mem_append.1 a with a | a
            · exact ⟨p, a, b, c⟩
            · simp at a; subst a; exact absurd b hk
      · left
        rw [if_neg hi]
        rw [List.take_of_length_le (by omega)] at h2
        exact ⟨_, rfl, m, rfl, h2⟩) ([], 0) ⟨Int.le_refl _, by dsimp only; omega, fun k => ⟨W4.z, rfl, fun n n0 n1 => by
          rw [W4.z_rep n n0 n1]
          simp⟩⟩
  exact ⟨m, hr, hm⟩
end Go.Bw
namespace Go.Bw
open Go Go.RowKit

theorem by_run (n : Int) (x : List Bs) (y : List api_Edge) (z : List api_Prop) (e : api_Edge) (a : Bs) (h0 : 0 ≤ e.Action) (h1 : e.Action < (x.length : Int)) : ∃ b, bailiffref03_by.f n x y z e.From e.Action e.To a = some b ∧ (b = true ↔ gt x e.Action = a ∨ a = [45]) := by
  unfold bailiffref03_by.f
  by_cases h : bseq a [45] = true
  · exact ⟨true, by simp [h, jn], by simp [bseq_iff.1 h]⟩
  · refine ⟨bseq (gt x e.Action) a, by simp [h, h0, h1, jn], ?_⟩
    rw [bseq_iff]
    exact ⟨.inl, fun q => q.elim id fun q => absurd (bseq_iff.2 q) h⟩
def WRep (v : BitVec 64) (S : Int → Prop) : Prop := ∀ q : Nat, q < 64 → (v.getLsbD q = true ↔ S q)
theorem wput {v : BitVec 64} {S : Int → Prop} (h : WRep v S) {t : Int} (h0 : 0 ≤ t) (h1 : t < 64) : bor .u64 (Wd v) (Bw.shl .u64 1 (IntKind.u64.wrap t)) = Wd (v ||| BitVec.twoPow 64 t.toNat) ∧ WRep (v ||| BitVec.twoPow 64 t.toNat) (fun q => S q ∨ q = t) := by
  rw [wrapu (x := t) (by omega) (by omega), shl_one h0 h1, bor_wd]
  refine ⟨rfl, fun q hq => ?_⟩
  rw [BitVec.getLsbD_or, Bool.or_eq_true, h q hq, BitVec.getLsbD_twoPow]
  refine or_congr Iff.rfl ?_
  simp
  omega
theorem refNext_run (n : Int) (x : List Bs) (y : List api_Edge) (z : List api_Prop) (s : Int) (a : Bs) (hn : n ≤ 24) (hy : (y.length : Int) ≤ 9223372036854775807) (he : ∀ e ∈ y, EdgeIn n x.length e) :
    ∃ v, bailiffref03_Next.f n x y z s a = some (Wd v) ∧ WRep v (Hit x y ⟨s, a⟩) := by
  obtain ⟨r, hr, v, rfl, hv⟩ := iter_meas (body := fun t_ : Int × Int => bailiffref03_Next.l0b n x y z s a t_.1 t_.2) (fun q => 0 ≤ q.2 ∧ q.2 ≤ (y.length : Int) ∧ ∃ v, q.1 = Wd v ∧ WRep v (Hit x (y.take q.2.toNat) ⟨s, a⟩))
    (fun r => ∃ v, r = .inl (Wd v) ∧ WRep v (Hit x y ⟨s, a⟩)) (fun q => ((y.length : Int) - q.2).toNat) (fun ⟨w, i⟩ ⟨h0, h1, v, h2, h3⟩ => by
      dsimp only at h0 h1 h2 h3 ⊢
      subst h2
      unfold bailiffref03_Next.l0b
      by_cases hi : i < (y.length : Int)
      · right
        have hE := he _ (gt_mem h0 hi)
        obtain ⟨b, hb, hb2⟩ := by_run n x y z (gt y i) a hE.2.2.2.2.1 hE.2.2.2.2.2
        have hw : IntKind.i64.wrap (i + 1) = i + 1 := wrap64 (by omega) (by omega)
        have ht : y.take (i + 1).toNat = y.take i.toNat ++ [gt y i] := by
          rw [show (i + 1).toNat = i.toNat + 1 from by omega, List.take_add_one, gt_some h0 hi]; rfl
        have hcw : (0 : Int) ≤ IntKind.u64.wrap (gt y i).To := by rw [wrapu (x := (gt y i).To) hE.2.2.1 (by have := hE.2.2.2.1; omega)]; exact hE.2.2.1
        rw [if_pos hi, if_pos ⟨h0, hi⟩, hb]
        by_cases hh : b = true ∧ (gt y i).From = s
        · obtain ⟨rfl, hs⟩ := hh
          obtain ⟨p1, p2⟩ := wput h3 hE.2.2.1 (by have := hE.2.2.2.1; omega)
          refine ⟨(Wd (v ||| BitVec.twoPow 64 (gt y i).To.toNat), i + 1), by simp [hs, jn, nx, hcw, p1, hw], ⟨by dsimp only; omega, by dsimp only; omega, _, rfl, fun q hq => ?_⟩, by dsimp only; omega⟩
          dsimp only
          rw [p2 q hq, ht]
          constructor
          · rintro (⟨e, a1, a2⟩ | h)
            · exact ⟨e, by simp [a1], a2⟩
            · exact ⟨gt y i, by simp, hs, h.symm, hb2.1 rfl⟩
          · rintro ⟨e, a1, a2, a3, a4⟩
            rcases List.mem_append.1 a1 with a1 | a1
            · exact .inl ⟨e, a1, a2, a3, a4⟩
            · simp at a1; subst a1; exact .inr a3.symm
        · refine ⟨(Wd v, i + 1), by cases b <;> simp_all [jn, nx], ⟨by dsimp only; omega, by dsimp only; omega, v, rfl, fun q hq => ?_⟩, by dsimp only; omega⟩
          dsimp only
          rw [h3 q hq, ht]
          constructor
          · rintro ⟨e, a1, a2⟩; exact ⟨e, by simp [a1], a2⟩
          · rintro ⟨e, a1, a2, a3, a4⟩
            rcases List.mem_append.1 a1 with a1 | a1
            · exact ⟨e, a1, a2, a3, a4⟩
            · simp at a1; subst a1; exact absurd ⟨hb2.2 a4, a2⟩ hh
      · left
        rw [if_neg hi]
        rw [List.take_of_length_le (by omega)] at h3
        exact ⟨_, rfl, v, rfl, h3⟩) (0, 0) ⟨Int.le_refl _, by dsimp only; omega, 0#64, rfl, fun q hq => by simp [Hit]⟩
  refine ⟨v, ?_, hv⟩
  unfold bailiffref03_Next.f
  have hl : bailiffref03_Next.l0 n x y z s a 0 0 = some (.inl (Wd v)) := hr
  rw [hl, jn_inl]
end Go.Bw
namespace Go.Bw
open Go Go.RowKit

theorem refBack_run (n : Int) (x : List Bs) (y : List api_Edge) (z : List api_Prop) (to : BitVec 64) (a : Bs) (hn : n ≤ 24) (hy : (y.length : Int) ≤ 9223372036854775807) (he : ∀ e ∈ y, EdgeIn n x.length e) :
    ∃ v, bailiffref03_Back.f n x y z (Wd to) a = some (Wd v) ∧ WRep v (fun s => Meets (Hit x y ⟨s, a⟩) to) := by
  obtain ⟨r, hr, v, rfl, hv⟩ := iter_meas (body := fun t_ : Int × Int => bailiffref03_Back.l0b n x y z (Wd to) a t_.1 t_.2) (fun q => 0 ≤ q.2 ∧ q.2 ≤ (y.length : Int) ∧ ∃ v, q.1 = Wd v ∧ WRep v (fun s => Meets (Hit x (y.take q.2.toNat) ⟨s, a⟩) to))
    (fun r => ∃ v, r = .inl (Wd v) ∧ WRep v (fun s => Meets (Hit x y ⟨s, a⟩) to)) (fun q => ((y.length : Int) - q.2).toNat) (fun ⟨w, i⟩ ⟨h0, h1, v, h2, h3⟩ => by
      dsimp only at h0 h1 h2 h3 ⊢
      subst h2
      unfold bailiffref03_Back.l0b
      by_cases hi : i < (y.length : Int)
      · right
        have hE := he _ (gt_mem h0 hi)
        obtain ⟨b, hb, hb2⟩ := by_run n x y z (gt y i) a hE.2.2.2.2.1 hE.2.2.2.2.2
        have hw : IntKind.i64.wrap (i + 1) = i + 1 := wrap64 (by omega) (by omega)
        have ht : y.take (i + 1).toNat = y.take i.toNat ++ [gt y i] := by
          rw [show (i + 1).toNat = i.toNat + 1 from by omega, List.take_add_one, gt_some h0 hi]; rfl
        have wT : IntKind.u64.wrap (gt y i).To = (gt y i).To := wrapu (x := (gt y i).To) hE.2.2.1 (by have := hE.2.2.2.1; omega)
        have wF : IntKind.u64.wrap (gt y i).From = (gt y i).From := wrapu (x := (gt y i).From) hE.1 (by have := hE.2.1; omega)
        have hcT : (0 : Int) ≤ (gt y i).To := hE.2.2.1
        have hcF : (0 : Int) ≤ (gt y i).From := hE.1
        have hT64 : (gt y i).To < 64 := by have := hE.2.2.2.1; omega
        have hbit := bit_wd to (s := (gt y i).To) hcT hT64
        rw [if_pos hi, if_pos ⟨h0, hi⟩, hb]
        by_cases hh : b = true ∧ to.getLsbD (gt y i).To.toNat = true
        · obtain ⟨rfl, hs⟩ := hh
          obtain ⟨p1, p2⟩ := wput h3 hcF (by have := hE.2.1; omega)
          rw [wF] at p1
          refine ⟨(Wd (v ||| BitVec.twoPow 64 (gt y i).From.toNat), i + 1), by simp [hbit.2 hs, jn, nx, wT, wF, hcT, hcF, p1, hw], ⟨by dsimp only; omega, by dsimp only; omega, _, rfl, fun q hq => ?_⟩, by dsimp only; omega⟩
          dsimp only
          rw [p2 q hq, ht]
          constructor
          · rintro (⟨t, t0, ⟨e, a1, a2⟩, t2⟩ | h)
            · exact ⟨t, t0, ⟨e, by simp [a1], a2⟩, t2⟩
            · exact ⟨(gt y i).To.toNat, by omega, ⟨gt y i, by simp, h.symm, by omega, hb2.1 rfl⟩, hs⟩
          · rintro ⟨t, t0, ⟨e, a1, a2, a3, a4⟩, t2⟩
            rcases List.mem_append.1 a1 with a1 | a1
            · exact .inl ⟨t, t0, ⟨e, a1, a2, a3, a4⟩, t2⟩
            · simp at a1; subst a1; exact .inr a2.symm
        · refine ⟨(Wd v, i + 1), by
            cases b with
            | false => simp [jn, nx, hw]
            | true =>
              have hz : ¬ band .u64 (Bw.shr .u64 (Wd to) (gt y i).To) 1 = 1 := fun h => hh ⟨rfl, hbit.1 h⟩
              simp [jn, nx, hw, wT, hcT, hz], ⟨by dsimp only; omega, by dsimp only; omega, v, rfl, fun q hq => ?_⟩, by dsimp only; omega⟩
          dsimp only
          rw [h3 q hq, ht]
          constructor
          · rintro ⟨t, t0, ⟨e, a1, a2⟩, t2⟩; exact ⟨t, t0, ⟨e, by simp [a1], a2⟩, t2⟩
          · rintro ⟨t, t0, ⟨e, a1, a2, a3, a4⟩, t2⟩
            rcases List.mem_append.1 a1 with a1 | a1
            · exact ⟨t, t0, ⟨e, a1, a2, a3, a4⟩, t2⟩
            · simp at a1
              subst a1
              refine absurd ⟨hb2.2 a4, ?_⟩ hh
              rw [a3]; simpa using t2
      · left
        rw [if_neg hi]
        rw [List.take_of_length_le (by omega)] at h3
        exact ⟨_, rfl, v, rfl, h3⟩) (0, 0) ⟨Int.le_refl _, by dsimp only; omega, 0#64, rfl, fun q hq => by simp [Meets, Hit]⟩
  refine ⟨v, ?_, hv⟩
  unfold bailiffref03_Back.f
  have hl : bailiffref03_Back.l0 n x y z (Wd to) a 0 0 = some (.inl (Wd v)) := hr
  rw [hl, jn_inl]
end Go.Bw
namespace Go.Bw
open Go Go.RowKit

theorem refHolds_in (z : List api_Prop) (i : Int) (ha : ((gt z i).States.length : Int) ≤ 9223372036854775807) (hin : ∀ s ∈ (gt z i).States, 0 ≤ s ∧ s < 64) {v : BitVec 64} {S : Int → Prop} (hv : WRep v S) :
    ∃ u, bailiffref03_Holds.l1 z i (Wd v) 0 = some (.inl (Wd u)) ∧ WRep u (fun t => S t ∨ t ∈ (gt z i).States) := by
  generalize hL : (gt z i).States = L at ha hin
  obtain ⟨r, hr, u, rfl, hu⟩ := iter_meas (body := fun t_ : Int × Int => bailiffref03_Holds.l1b z i t_.1 t_.2) (fun q => 0 ≤ q.2 ∧ q.2 ≤ (L.length : Int) ∧ ∃ u, q.1 = Wd u ∧ WRep u (fun t => S t ∨ t ∈ L.take q.2.toNat))
    (fun r => ∃ u, r = .inl (Wd u) ∧ WRep u (fun t => S t ∨ t ∈ L)) (fun q => ((L.length : Int) - q.2).toNat) (fun ⟨w, k⟩ ⟨h0, h1, u, h2, h3⟩ => by
      dsimp only at h0 h1 h2 h3 ⊢
      subst h2
      unfold bailiffref03_Holds.l1b
      rw [hL]
      by_cases hk : k < (L.length : Int)
      · right
        have hs := hin _ (gt_mem h0 hk)
        obtain ⟨p1, p2⟩ := wput h3 hs.1 hs.2
        have hw : IntKind.i64.wrap (k + 1) = k + 1 := wrap64 (by omega) (by omega)
        have hc : (0 : Int) ≤ IntKind.u64.wrap (gt L k) := by rw [wrapu hs.1 (by omega)]; exact hs.1
        rw [if_pos hk, if_pos ⟨h0, hk⟩, if_pos hc, p1, hw]
        refine ⟨_, rfl, ⟨by dsimp only; omega, by dsimp only; omega, _, rfl, fun q hq => ?_⟩, by dsimp only; omega⟩
        dsimp only
        rw [p2 q hq, show (k + 1).toNat = k.toNat + 1 from by omega, List.take_add_one, gt_some h0 hk, List.mem_append]
        simp [or_assoc]
      · left
        rw [if_neg hk]
        rw [List.take_of_length_le (by omega)] at h3
        exact ⟨_, rfl, u, rfl, h3⟩) (Wd v, 0) ⟨Int.le_refl _, by dsimp only; omega, v, rfl, fun q hq => by simp [hv q hq]⟩
  exact ⟨u, hr, hu⟩
end Go.Bw
namespace Go.Bw
open Go Go.RowKit

section
variable {α : Type}
def ghole (T : Ow α) (e : Nat) (A : Option Addr) (n c : Nat) (xs : List α) (i : Int) (cs : List Value) : HProp := fun h =>
  ∃ css : List (Raw T.sz), (fun h => (css.length = xs.length ∧ (css[i.toNat]?).map (·.1) = some cs) ∧ stars (row (Fl.raw T.sz T.pos) e A n c css :: (gins T xs css).eraseIdx i.toNat) h) h
theorem sat.ghole {R : Res} {T : Ow α} {e : Nat} {A : Option Addr} {n c : Nat} {xs : List α} {i : Int} {cs : List Value} {l : List HProp} {w : World} :
    sat R (Bw.ghole T e A n c xs i cs :: l) w ↔ ∃ css : List (Raw T.sz), (css.length = xs.length ∧ (css[i.toNat]?).map (·.1) = some cs) ∧ sat R (row (Fl.raw T.sz T.pos) e A n c css :: ((gins T xs css).eraseIdx i.toNat ++ l)) w := by
  unfold Bw.ghole
  rw [sat.ex]
  constructor
  · rintro ⟨bs, h⟩
    have hb := let ⟨_, o, _⟩ := h.head; o.1
    exact ⟨bs, hb, sat.flat.1 (h.imp fun h o => o.2)⟩
  · rintro ⟨bs, hb, h⟩
    exact ⟨bs, (sat.flat.2 h).imp fun h o => ⟨hb, o⟩⟩
theorem gins_set {T : Ow α} {x : α} {r : Raw T.sz} : ∀ {xs : List α} {css : List (Raw T.sz)} {i : Nat}, gins T (xs.set i x) (css.set i r) = (gins T xs css).set i (T.own x r.1)
  | [], _, _ => by simp [gins]
  | _ :: _, [], _ => by simp [gins]
  | a :: xs, b :: css, 0 => by simp [gins]
  | a :: xs, b :: css, i + 1 => by
    have := gins_set (T := T) (x := x) (r := r) (xs := xs) (css := css) (i := i)
    simpa [gins] using this
theorem gins_erase {T : Ow α} {r : Raw T.sz} : ∀ {xs : List α} {css : List (Raw T.sz)} {i : Nat}, (gins T xs (css.set i r)).eraseIdx i = (gins T xs css).eraseIdx i
  | [], _, _ => by simp [gins]
  | _ :: _, [], _ => by simp [gins]
  | a :: xs, b :: css, 0 => by simp [gins]
  | a :: xs, b :: css, i + 1 => by
    have := gins_erase (T := T) (r := r) (xs := xs) (css := css) (i := i)
    simpa [gins] using this
end
section
variable {P : Program} [Tys P] {os : List Oper} {Q : Exit → Act → World → Prop} {rest : List Oper} {n : Nat} {ds : List Deferred} {R : Res} {env : List (Nat × Value)} {l l' : List HProp}
variable {d ty : Nat} {pos : String} {af : Array Edge} {g : Option (Nat × Bool)} {α : Type} {T : Ow α} {e t : Nat} {A : Option Addr} {c m : Nat} {xs : List α} {cs : List Value} {K : Act → World → Prop} {dd : Option Nat} {i : Int}
theorem At.openGrow [Inhabited α] (f : Frt l (grow T e A m c xs) l') (h0 : 0 ≤ i) (h1 : i < (m : Int)) (h : ∀ cs, At n ds R env (ghole T e A m c xs i cs :: T.own (gt xs i) cs :: l') K) : At n ds R env l K := fun a w e0 hs => by
  have hs1 := hs.frt f
  have hm : xs.length = m := let ⟨_, o, _⟩ := hs1.head; (grow_len o).1
  subst hm
  obtain ⟨css, hb, h2⟩ := sat.grow.1 hs1
  have hlt : i.toNat < css.length := by omega
  have hbi : css[i.toNat]? = some css[i.toNat] := List.getElem?_eq_getElem hlt
  refine h css[i.toNat].1 a w e0 (sat.ghole.2 ⟨css, ⟨hb, by rw [hbi]; rfl⟩, ?_⟩)
  have fr : Frt (row (Fl.raw T.sz T.pos) e A xs.length c css :: (gins T xs css ++ l')) (T.own (gt xs i) css[i.toNat].1) (row (Fl.raw T.sz T.pos) e A xs.length c css :: ((gins T xs css).eraseIdx i.toNat ++ l')) := .s (frt_erase (gins_get (gt_some h0 h1) hbi))
  have fr2 : Frt (row (Fl.raw T.sz T.pos) e A xs.length c css :: ((gins T xs css).eraseIdx i.toNat ++ T.own (gt xs i) css[i.toNat].1 :: l')) (T.own (gt xs i) css[i.toNat].1) (row (Fl.raw T.sz T.pos) e A xs.length c css :: ((gins T xs css).eraseIdx i.toNat ++ l')) := .s (frt_app .z)
  exact (h2.frt fr).back fr2
theorem At.closeGrow {L M : List HProp} {z : α} (hl : l = ghole T e A m c xs i cs :: M) (ent : Ent L (T.own z cs)) (hM : M = L ++ l') (h : At n ds R env (grow T e A m c (Bw.st xs i z) :: l') K) : At n ds R env l K := fun a w e0 hs => by
  subst hl hM
  obtain ⟨css, ⟨hb, hbi⟩, h2⟩ := sat.ghole.1 hs
  obtain ⟨r, hr, rfl⟩ := Option.map_eq_some_iff.1 hbi
  have hlt : i.toNat < css.length := (List.getElem?_eq_some_iff.1 hr).1
  refine h a w e0 (sat.grow.2 ⟨css, by simp [Bw.st, hb], ?_⟩)
  have h3 : sat R (row (Fl.raw T.sz T.pos) e A m c css :: ((gins T xs css).eraseIdx i.toNat ++ T.own z r.1 :: l')) w := sat.tail (M := row (Fl.raw T.sz T.pos) e A m c css :: (gins T xs css).eraseIdx i.toNat) (fun h s => ent_stars ent s) h2
  have hset : gins T (Bw.st xs i z) css = (gins T xs css).set i.toNat (T.own z r.1) := by
    have := gins_set (T := T) (x := z) (r := r) (xs := xs) (css := css) (i := i.toNat)
    have he : css.set i.toNat r = css := by
      apply List.ext_getElem?
      intro j
      rw [List.getElem?_set]
      split
      · rename_i hj; subst hj; simp [hlt, hr]
        exact (List.getElem?_eq_some_iff.1 hr).2.symm
      · rfl
    rw [he] at this
    exact this
  have fr : Frt (row (Fl.raw T.sz T.pos) e A m c css :: ((gins T xs css).eraseIdx i.toNat ++ T.own z r.1 :: l')) (T.own z r.1) (row (Fl.raw T.sz T.pos) e A m c css :: ((gins T xs css).eraseIdx i.toNat ++ l')) := .s (frt_app .z)
  have hlen : i.toNat < (gins T xs css).length := by simp [gins]; omega
  have fr2 : Frt (row (Fl.raw T.sz T.pos) e A m c css :: (gins T (Bw.st xs i z) css ++ l')) (T.own z r.1) (row (Fl.raw T.sz T.pos) e A m c css :: ((gins T xs css).eraseIdx i.toNat ++ l')) := .s (by
    have := frt_erase (L := (gins T xs css).set i.toNat (T.own z r.1)) (i := i.toNat) (c := T.own z r.1) (l := l') (by simp [hlen])
    rw [erase_set] at this
    rw [hset]
    exact this)
  exact (h3.frt fr).back fr2
theorem ghole_len {w : World} (f : Frt l (ghole T e A m c xs i cs) l') (hs : sat R l w) : xs.length = m := by
  obtain ⟨css, ⟨hb, _⟩, h2⟩ := sat.ghole.1 (hs.frt f)
  have : css.length = m := let ⟨_, o, _⟩ := h2.head; row_len o
  omega
theorem Y.ixGHole (f : Frt l (ghole T e A m c xs i cs) l') {x y : Operand} {j : Int} {k : IntKind} {ii jj : TI} (hi : ti P t = some ii) (hk : ii.k = .slice e) (hx : ev env x = some (.slice A m c)) (hy : ev env y = some (.int k j)) (hj : ti P e = some jj) (hjs : jj.size = T.sz) (h0 : 0 ≤ j) (h1 : j < (m : Int)) :
    Y P n ds R env l ⟨dd, .indexAddr t x y, ty, pos, af, g⟩ (elp A (j.toNat * T.sz)) := fun a w e0 hs => by
  obtain ⟨css, ⟨hb, _⟩, h2⟩ := sat.ghole.1 (hs.frt f)
  have hm : css.length = m := let ⟨_, o, _⟩ := h2.head; row_len o
  subst hm
  exact Y.ixOwn (F := Fl.raw T.sz T.pos) .z hi hk hx hy hj hjs h0 h1 a w e0 h2
theorem sat_gsome {w : World} (f : Frt l (ghole T e A m c xs i cs) l') (h0 : 0 ≤ i) (h1 : i < (m : Int)) (hs : sat R l w) : ∃ ad, A = some ad := by
  obtain ⟨css, ⟨hb, _⟩, h2⟩ := sat.ghole.1 (hs.frt f)
  have hm : css.length = m := let ⟨_, o, _⟩ := h2.head; row_len o
  subst hm
  exact sat_row_some h2 h0 h1
theorem Y.faGHole {s fi k off ft : Nat} {fs : List (Nat × Nat)} {x : Operand} {ii j : TI} (f : Frt l (ghole T e A m c xs i cs) l') (h0 : 0 ≤ i) (h1 : i < (m : Int)) (hi : ti P s = some ii) (hk : ii.k = .struct fs) (hf : fs[fi]? = some (ft, off)) (hj : ti P ft = some j) (hz : Nat.beq j.size 0 = false)
    (hx : ev env x = some (elp A k)) : Y P n ds R env l ⟨dd, .fieldAddr s x fi, ty, pos, af, g⟩ (elp A (k + off)) := fun a w e0 hs =>
  Y.fa (sat_gsome f h0 h1 hs) hi hk hf hj hz hx a w e0 hs
theorem Y.ldGHole (f : Frt l (ghole T e A m c xs i cs) l') {x : Operand} {q : Nat} {v : Value} {ii : TI} (hi : ti P t = some ii) (hx : ev env x = some (elp A (i.toNat * T.sz + q))) (h0 : 0 ≤ i) (h1 : i < (m : Int)) (hl : Nat.ble (q + ii.size) T.sz = true) (hz : Nat.blt 0 ii.size = true) (hv : partOf P t q cs = some v) :
    Y P n ds R env l ⟨dd, .load t x, ty, pos, af, g⟩ v := fun a w e0 hs => by
  obtain ⟨css, ⟨hb, hbi⟩, h2⟩ := sat.ghole.1 (hs.frt f)
  obtain ⟨r, hr, rfl⟩ := Option.map_eq_some_iff.1 hbi
  have hm : css.length = m := let ⟨_, o, _⟩ := h2.head; row_len o
  subst hm
  have hg : gt css i = r := by unfold gt; rw [List.getD_eq_getElem?_getD, hr]; rfl
  refine Y.ldOwn (F := Fl.raw T.sz T.pos) (q := q) (dd := dd) .z hi hx h0 h1 hl hz ?_ a w e0 h2
  rw [hg]
  exact hv
theorem At.stGHole (hg : grd os env g = some true) (f : Frt l (ghole T e A m c xs i cs) l') {x y : Operand} {q : Nat} {v : Value} {vs cs' : List Value} {ii : TI} (hi : ti P t = some ii) (hx : ev env x = some (elp A (i.toNat * T.sz + q))) (hy : ev env y = some v)
    (h0 : 0 ≤ i) (h1 : i < (m : Int)) (hv : v.cells.toList = vs) (hs : Nat.beq vs.length ii.size = true) (p : Put cs q vs cs') (ho : vs.all (·.oneCell') = true)
    (h : At n ds R env (ghole T e A m c xs i cs' :: l') (wpList P os.toArray Q rest)) : At n ds R env l (wpList P os.toArray Q (⟨none, .store t x y, ty, pos, af, g⟩ :: rest)) := fun a w e0 hs0 => by
  obtain ⟨css, ⟨hb, hbi⟩, h2⟩ := sat.ghole.1 (hs0.frt f)
  obtain ⟨r, hr, rfl⟩ := Option.map_eq_some_iff.1 hbi
  have hm : css.length = m := let ⟨_, o, _⟩ := h2.head; row_len o
  subst hm
  have hlt : i.toNat < css.length := (List.getElem?_eq_some_iff.1 hr).1
  have hgt : gt css i = r := by unfold gt; rw [List.getD_eq_getElem?_getD, hr]; rfl
  obtain ⟨p1, p2⟩ := p.eq
  have hlen : cs'.length = T.sz := by
    rw [p2]
    have := r.2.1
    simp
    omega
  let r' : Raw T.sz := ⟨cs', hlen, fun u hu => by
    rw [p2] at hu
    rcases List.mem_append.1 hu with hu | hu
    · rcases List.mem_append.1 hu with hu | hu
      · exact r.2.2 u (List.mem_of_mem_take hu)
      · exact List.all_eq_true.1 ho u hu
    · exact r.2.2 u (List.mem_of_mem_drop hu)⟩
  refine At.st (F := Fl.raw T.sz T.pos) (z := r') hg .z hi hx hy h0 h1 hv hs (by rw [hgt]; exact p) ?_ a w e0 h2
  intro a w e0 hs3
  refine h a w e0 (sat.ghole.2 ⟨Bw.st css i r', ⟨by simp [Bw.st, hb], by simp [Bw.st, hlt]; rfl⟩, ?_⟩)
  have : (gins T xs (Bw.st css i r')).eraseIdx i.toNat = (gins T xs css).eraseIdx i.toNat := gins_erase
  rw [this]
  exact hs3
theorem At.ownSpl {β : Type} {F : Fl β} {e : Nat} {p : List β × List β} {cs : List Value} (f : Frt l ((Ow.spl F e).own p cs) l') (h : ∀ A c, cs = [.slice A p.1.length c] → At n ds R env (row F e A (p.1 ++ p.2).length c (p.1 ++ p.2) :: l') K) : At n ds R env l K := fun a w e0 hs => by
  obtain ⟨ok, k, ⟨h1, h2, ⟨A, c, e1, r⟩, s⟩, dR⟩ := hs.frt f
  exact h A c e1 a w e0 ⟨ok, k, ⟨h1, h2, r, s⟩, dR⟩
theorem At.ownSplV {β : Type} {F : Fl β} {e : Nat} {p : List β × List β} {cs : List Value} (f : Frt l ((Ow.spl F e).own p cs) l') (h : ∀ A c, cs = [.slice A ((p.1 ++ p.2).take p.1.length).length c] → At n ds R env (row F e A (p.1 ++ p.2).length c (p.1 ++ p.2) :: l') K) : At n ds R env l K :=
  At.ownSpl f fun A c hc => h A c (by rw [hc, List.take_left])
theorem Ent.spn {β : Type} (F : Fl β) {e : Nat} {A : Option Addr} {n c k m : Nat} {zs : List β} (h : (zs.take k).length = m) : Ent [row F e A n c zs] ((Ow.spl F e).own (zs.take k, zs.drop k) [.slice A m c]) := by
  subst h
  exact Ent.spv F k
section
variable {β : Type} [Inhabited β] {F : Fl β} {ys : List β}
theorem Y.ixView (f : Frt l (row F e A m c ys) l') {x y : Operand} {j : Int} {k : IntKind} {m' c' : Nat} {ii jj : TI} (hi : ti P t = some ii) (hk : ii.k = .slice e) (hx : ev env x = some (.slice A m' c')) (hy : ev env y = some (.int k j)) (hj : ti P e = some jj) (hjs : jj.size = F.sz) (h0 : 0 ≤ j) (h1 : j < (m' : Int)) (h2 : j < (m : Int)) :
    Y P n ds R env l ⟨dd, .indexAddr t x y, ty, pos, af, g⟩ (elp A (j.toNat * F.sz)) := fun a w e0 hs => by
  have hs1 := hs.frt f
  have hm : ys.length = m := let ⟨_, o, _⟩ := hs1.head; row_len o
  subst hm
  obtain ⟨ad, rfl⟩ := sat_row_some hs1 h0 h2
  simp only [execOp, e0.ev hx, e0.ev hy, Instr.indexAt, asIntOf, Sem.run_bind, Sem.run_pure, Result.andThen, run_underlying ((ti_ok hi).slice hk), Sem.run_ite, if_pos (show 0 ≤ j ∧ j < (m' : Int) from ⟨h0, h1⟩), (ti_ok hj).run_sizeOf, hjs, elp]
theorem Y.slView (f : Frt l (row F e A m c ys) l') {x y : Operand} {k : Int} {ki : IntKind} {m' : Nat} {ii : TI} (hi : ti P t = some ii) (hk : ii.k = .slice e) {j : TI} (hj : ti P e = some j) (hx : ev env x = some (.slice A m' c)) (hy : ev env y = some (.int ki k)) (h0 : 0 ≤ k) (h1 : k ≤ (m : Int)) :
    Y P n ds R env l ⟨dd, .slice t x none (some y) none, ty, pos, af, g⟩ (.slice A (ys.take k.toNat).length c) := fun a w e0 hs => by
  obtain ⟨_, o, _⟩ := (hs.frt f).head
  have hm := row_len o
  subst hm
  exact Y.slFull (zs := ys) (row_le o) hi hk hj hx hy h0 h1 a w e0 hs
end
end
def Rep.Le {α β : Type} (T : Rep α) (U : Rep β) (f : α → β) : Prop := T.sz = U.sz ∧ ∀ H x cs, T.K H x cs → U.K H (f x) cs
theorem Rep.Le.refl {α : Type} (T : Rep α) : Rep.Le T T id := ⟨rfl, fun _ _ _ h => h⟩
theorem Rep.Le.sp {α : Type} (T : Rep α) : Rep.Le T.sp T.slice (·.1) := ⟨rfl, fun H p cs ⟨A, c, h2, h3, h4⟩ => ⟨A, c, h2, by show p.1.length ≤ c; simp at h3; omega, h4.pre⟩⟩
theorem Rep.Le.pair {α β γ δ : Type} {T : Rep α} {U : Rep β} {T' : Rep γ} {U' : Rep δ} {f : α → β} {g : γ → δ} (h : Rep.Le T U f) (k : Rep.Le T' U' g) : Rep.Le (T.pair T') (U.pair U') (fun p => (f p.1, g p.2)) :=
  ⟨by show T.sz + T'.sz = U.sz + U'.sz; rw [h.1, k.1], fun H p cs ⟨c1, c2, e, a, b⟩ => ⟨c1, c2, e, h.2 _ _ _ a, k.2 _ _ _ b⟩⟩
theorem RdS.le {α β : Type} {T : Rep α} {U : Rep β} {f : α → β} (h : Rep.Le T U f) {H : PHeap} {A : Option Addr} {xs : List α} (hr : RdS T H A xs) : RdS U H A (xs.map f) := fun i x hx => by
  rw [List.getElem?_map] at hx
  obtain ⟨p, hp, rfl⟩ := Option.map_eq_some_iff.1 hx
  obtain ⟨ad, cs, h1, h2, h3⟩ := hr i p hp
  exact ⟨ad, cs, h1, h.2 _ _ _ h2, by rw [← h.1]; exact h3⟩
end Go.Bw
