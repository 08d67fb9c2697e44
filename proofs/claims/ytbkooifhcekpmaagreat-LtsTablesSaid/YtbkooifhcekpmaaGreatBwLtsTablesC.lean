/- What the law LtsTables leans on, part 3: words, walks and plain laws. Conditions: none. -/
import Derived.Test.YtbkooifhcekpmaaGreatProg
import Derived.Shelf.SortG.Plain
import Derived.Shelf.SortG.SortNone
import Derived.Shelf.SlSortCmp.NoneTotal
import Derived.Ground.SlgnProg
import Derived.Ground.SlsfProg
import Derived.Deep.QuietTactic
import Derived.Test.YtbkooifhcekpmaaGreatBwLtsTablesB
set_option linter.unusedVariables false
set_option linter.unusedSimpArgs false
set_option linter.unusedSectionVars false
namespace Go.Bw
open Go Go.RowKit
structure sets_Set where
  c0 : Int
  c1 : Int
  c2 : Int
  c3 : Int
deriving Inhabited, DecidableEq
def sets_Set.fl : Fl sets_Set := ⟨4, fun x => [.int .u64 x.c0, .int .u64 x.c1, .int .u64 x.c2, .int .u64 x.c3], fun _ => rfl, fun x u hu => by simp at hu; rcases hu with rfl | rfl | rfl | rfl <;> rfl, by decide⟩
structure lts_edges where
  from_ : Int
  action : Bs
deriving Inhabited, DecidableEq
def lts_edges.fl : Fl lts_edges := ⟨2, fun x => [.int .i64 x.from_, .string ⟨(x.action).toArray⟩], fun _ => rfl, fun x u hu => by simp at hu; rcases hu with rfl | rfl <;> rfl, by decide⟩
structure lts_Table where
  states : Int
  holds : List (Bs × sets_Set)
  next : List (lts_edges × sets_Set)
deriving Inhabited
def lts_Table.ow : Ow lts_Table := ((Ow.fl (Fl.int .i64)).pair ((Ow.mp Fl.bs.ov sets_Set.fl.av).pair (Ow.mp lts_edges.fl.av sets_Set.fl.av))).iso (fun x => (x.states, x.holds, x.next))
theorem lts_Table.ent {x0 : Int} {b1 : Nat} {x1 : List (Bs × sets_Set)} {b2 : Nat} {x2 : List (lts_edges × sets_Set)} : Ent [mapo Fl.bs.ov sets_Set.fl.av b1 x1, mapo lts_edges.fl.av sets_Set.fl.av b2 x2] (lts_Table.ow.own ⟨x0, x1, x2⟩ [.int .i64 x0, .map (some b1), .map (some b2)]) := (Ent.pair (c1 := [.int .i64 x0]) (c2 := [.map (some b1), .map (some b2)]) (Ent.fl (Fl.int .i64) rfl) (Ent.pair (c1 := [.map (some b1)]) (c2 := [.map (some b2)]) Ent.mp Ent.mp))
theorem lts_edges.keyok : KeyOk Go.Proofs.Tryz.prog 77 lts_edges.fl.av := KeyOk.st rfl rfl (by kernel_rfl) (by kernel_rfl) (fun x y => by
  refine (show _ = some (decide (x.from_ = y.from_) && (bseq x.action y.action && true)) from rfl).trans (congrArg some ?_)
  cases x
  cases y
  rw [Bool.eq_iff_iff]
  simp [bseq_iff]) (fun x => by simp [lts_edges.fl, Instr.sameBits, bytes_self])

noncomputable def sets_Set_With.f (a0_0 : Int) (a0_1 : Int) (a0_2 : Int) (a0_3 : Int) (a1 : Int) : Option (Int × Int × Int × Int) :=
 jn (
 if 0 ≤ a1 then
 some (.inl (decide (a1 < 256)))
 else
 some (.inl false)) (fun (x467 : Bool) =>
 if x467 = true then
 if (0 : Int) ≤ (Bw.shr .i64 a1 6) ∧ (Bw.shr .i64 a1 6) < (4 : Int) then
 if (Bw.shr .i64 a1 6) = 0 then
 if (0 : Int) ≤ IntKind.u64.wrap (band .i64 a1 63) then
 some (bor .u64 a0_0 (Bw.shl .u64 1 (IntKind.u64.wrap (band .i64 a1 63))), a0_1, a0_2, a0_3)
 else none
 else
 if (Bw.shr .i64 a1 6) = 1 then
 if (0 : Int) ≤ IntKind.u64.wrap (band .i64 a1 63) then
 some (a0_0, bor .u64 a0_1 (Bw.shl .u64 1 (IntKind.u64.wrap (band .i64 a1 63))), a0_2, a0_3)
 else none
 else
 if (Bw.shr .i64 a1 6) = 2 then
 if (0 : Int) ≤ IntKind.u64.wrap (band .i64 a1 63) then
 some (a0_0, a0_1, bor .u64 a0_2 (Bw.shl .u64 1 (IntKind.u64.wrap (band .i64 a1 63))), a0_3)
 else none
 else
 if (0 : Int) ≤ IntKind.u64.wrap (band .i64 a1 63) then
 some (a0_0, a0_1, a0_2, bor .u64 a0_3 (Bw.shl .u64 1 (IntKind.u64.wrap (band .i64 a1 63))))
 else none
 else none
 else
 some (a0_0, a0_1, a0_2, a0_3))
theorem sets_Set_With.callee : Callee Go.Proofs.Tryz.prog 38 := ⟨_, Go.Proofs.Tryz.func38, by kernel_rfl, by kernel_rfl⟩
set_option maxRecDepth 100000 in
set_option maxHeartbeats 2000000 in
theorem sets_Set_With.spec (R : Res) (Fr : List HProp)  (a0_0 : Int) (a0_1 : Int) (a0_2 : Int) (a0_3 : Int) (a1 : Int)  {r : Int × Int × Int × Int} (hrun : sets_Set_With.f a0_0 a0_1 a0_2 a0_3 a1 = some r) :
    Spec Go.Proofs.Tryz.prog 38 [.agg #[.int .u64 a0_0, .int .u64 a0_1, .int .u64 a0_2, .int .u64 a0_3], .int .i64 a1] R (Fr) (fun v l' => v = .agg #[.int .u64 r.1, .int .u64 r.2.1, .int .u64 r.2.2.1, .int .u64 r.2.2.2] ∧ Fr = l') := by
  refine Spec.of Go.Proofs.Tryz.func38 rfl rfl ?_; unfold sets_Set_With.f at hrun; have hrun := brun hrun; refine At.seq (At.region ?_); refine At.box rfl rfl (cs := [.int .u64 a0_0, .int .u64 a0_1, .int .u64 a0_2, .int .u64 a0_3]) rfl rfl (fun b265 => ?_); refine At.alloc rfl rfl rfl (fun b266 => ?_); refine At.nil (At.thn (At.seq (At.seq (At.region (At.run 3 rfl ?_))))); obtain ⟨G468, hl469, hr470, hrun⟩ := bjoin hrun; refine At.joinO 3 (X := Bool) (fun x467 => [(1, .int .i64 a1), (2, .pointer (some ⟨b265, 0, none⟩)), (4, .pointer (some ⟨b266, 0, none⟩)), (10, .bool x467)]) (fun x467 => pt b266 (.cells ([.int .u64 0, .int .u64 0, .int .u64 0, .int .u64 0] : List Value).toArray 38) :: pt b265 (.cells [.int .u64 a0_0, .int .u64 a0_1, .int .u64 a0_2, .int .u64 a0_3].toArray 38) :: Fr) (fun x467 => G468 (.inl x467) = some r) ?_ (fun J471 => ?_)
  · rintro x467 hrun; have hrun := (hl469 _).symm.trans hrun
    · refine At.nil (At.thn ?_); rcases bite hrun with ⟨h472, hrun⟩ | ⟨h472, hrun⟩
      · · refine At.condT rfl h472 ?_
          refine At.region (At.run 1 rfl ?_); refine At.y (Y.shr rfl rfl (by decide)) rfl rfl rfl ?_; obtain ⟨h473, hrun⟩ := bnone hrun; rcases bite hrun with ⟨h474, hrun⟩ | ⟨h474, hrun⟩
          · · refine At.y (Y.ixArrK rfl rfl rfl rfl rfl h473.1 h473.2 (q := 0) (off := 0) h474 rfl) rfl rfl rfl ?_
              refine At.y (Y.load rfl rfl (.s .z) rfl rfl rfl) rfl rfl rfl ?_; refine At.run 3 rfl ?_; obtain ⟨h475, hrun⟩ := bnone hrun; refine At.y (Y.shl rfl rfl h475) rfl rfl rfl ?_; refine At.run 1 rfl ?_; refine At.y (Y.ixArrK rfl rfl rfl rfl rfl h473.1 h473.2 (q := 0) (off := 0) h474 rfl) rfl rfl rfl ?_; refine At.store rfl rfl rfl rfl (.s .z) rfl rfl rfl (.c .n) ?_; refine At.nil (At.thn (At.seq (At.region ?_))); refine At.y (Y.load rfl rfl .z rfl rfl rfl) rfl rfl rfl ?_; refine At.store rfl rfl rfl rfl (.s .z) rfl rfl rfl (.c (.c (.c (.c .n)))) ?_; refine At.nil (At.thn (At.ret ?_)); refine At.resM (.inl rfl) rfl (RV.cell rfl rfl .z rfl rfl rfl RV.nil) ?_; refine At.drop .z (At.drop .z ?_); obtain rfl := (bret hrun).symm; exact fun a w e hs => ⟨_, ⟨rfl, rfl⟩, hs⟩
          · · rcases bite hrun with ⟨h477, hrun⟩ | ⟨h477, hrun⟩
              · · refine At.y (Y.ixArrK rfl rfl rfl rfl rfl h473.1 h473.2 (q := 1) (off := 1) h477 rfl) rfl rfl rfl ?_
                  refine At.y (Y.load rfl rfl (.s .z) rfl rfl rfl) rfl rfl rfl ?_; refine At.run 3 rfl ?_; obtain ⟨h478, hrun⟩ := bnone hrun; refine At.y (Y.shl rfl rfl h478) rfl rfl rfl ?_; refine At.run 1 rfl ?_; refine At.y (Y.ixArrK rfl rfl rfl rfl rfl h473.1 h473.2 (q := 1) (off := 1) h477 rfl) rfl rfl rfl ?_; refine At.store rfl rfl rfl rfl (.s .z) rfl rfl rfl (.s (.c .n)) ?_; refine At.nil (At.thn (At.seq (At.region ?_))); refine At.y (Y.load rfl rfl .z rfl rfl rfl) rfl rfl rfl ?_; refine At.store rfl rfl rfl rfl (.s .z) rfl rfl rfl (.c (.c (.c (.c .n)))) ?_; refine At.nil (At.thn (At.ret ?_)); refine At.resM (.inl rfl) rfl (RV.cell rfl rfl .z rfl rfl rfl RV.nil) ?_; refine At.drop .z (At.drop .z ?_); obtain rfl := (bret hrun).symm; exact fun a w e hs => ⟨_, ⟨rfl, rfl⟩, hs⟩
              · · rcases bite hrun with ⟨h481, hrun⟩ | ⟨h481, hrun⟩
                  · · refine At.y (Y.ixArrK rfl rfl rfl rfl rfl h473.1 h473.2 (q := 2) (off := 2) h481 rfl) rfl rfl rfl ?_
                      refine At.y (Y.load rfl rfl (.s .z) rfl rfl rfl) rfl rfl rfl ?_; refine At.run 3 rfl ?_; obtain ⟨h482, hrun⟩ := bnone hrun; refine At.y (Y.shl rfl rfl h482) rfl rfl rfl ?_; refine At.run 1 rfl ?_; refine At.y (Y.ixArrK rfl rfl rfl rfl rfl h473.1 h473.2 (q := 2) (off := 2) h481 rfl) rfl rfl rfl ?_; refine At.store rfl rfl rfl rfl (.s .z) rfl rfl rfl (.s (.s (.c .n))) ?_; refine At.nil (At.thn (At.seq (At.region ?_))); refine At.y (Y.load rfl rfl .z rfl rfl rfl) rfl rfl rfl ?_; refine At.store rfl rfl rfl rfl (.s .z) rfl rfl rfl (.c (.c (.c (.c .n)))) ?_; refine At.nil (At.thn (At.ret ?_)); refine At.resM (.inl rfl) rfl (RV.cell rfl rfl .z rfl rfl rfl RV.nil) ?_; refine At.drop .z (At.drop .z ?_); obtain rfl := (bret hrun).symm; exact fun a w e hs => ⟨_, ⟨rfl, rfl⟩, hs⟩
                  · · have h486 : (Bw.shr .i64 a1 6) = 3 := by have h1_ := h473; omega
                      refine At.y (Y.ixArrK rfl rfl rfl rfl rfl h473.1 h473.2 (q := 3) (off := 3) h486 rfl) rfl rfl rfl ?_; refine At.y (Y.load rfl rfl (.s .z) rfl rfl rfl) rfl rfl rfl ?_; refine At.run 3 rfl ?_; obtain ⟨h487, hrun⟩ := bnone hrun; refine At.y (Y.shl rfl rfl h487) rfl rfl rfl ?_; refine At.run 1 rfl ?_; refine At.y (Y.ixArrK rfl rfl rfl rfl rfl h473.1 h473.2 (q := 3) (off := 3) h486 rfl) rfl rfl rfl ?_; refine At.store rfl rfl rfl rfl (.s .z) rfl rfl rfl (.s (.s (.s (.c .n)))) ?_; refine At.nil (At.thn (At.seq (At.region ?_))); refine At.y (Y.load rfl rfl .z rfl rfl rfl) rfl rfl rfl ?_; refine At.store rfl rfl rfl rfl (.s .z) rfl rfl rfl (.c (.c (.c (.c .n)))) ?_; refine At.nil (At.thn (At.ret ?_)); refine At.resM (.inl rfl) rfl (RV.cell rfl rfl .z rfl rfl rfl RV.nil) ?_; refine At.drop .z (At.drop .z ?_); obtain rfl := (bret hrun).symm; exact fun a w e hs => ⟨_, ⟨rfl, rfl⟩, hs⟩
      · · refine At.condF rfl (bn h472) ?_
          refine At.skip (At.thn (At.seq (At.region ?_))); refine At.y (Y.load rfl rfl (.s .z) rfl rfl rfl) rfl rfl rfl ?_; refine At.store rfl rfl rfl rfl .z rfl rfl rfl (.c (.c (.c (.c .n)))) ?_; refine At.nil (At.thn (At.ret ?_)); refine At.resM (.inl rfl) rfl (RV.cell rfl rfl .z rfl rfl rfl RV.nil) ?_; refine At.drop .z (At.drop .z ?_); obtain rfl := (bret hrun).symm; exact fun a w e hs => ⟨_, ⟨rfl, rfl⟩, hs⟩
  · · rcases bite hrun with ⟨h491, hrun⟩ | ⟨h491, hrun⟩
      · · refine At.know (t := 7) rfl (decide_eq_true h491) ?_
          refine At.run 3 rfl ?_; exact At.of (J471 (decide (a1 < 256)) hrun) ⟨rfl, rfl, rfl, rfl, trivial⟩
      · · refine At.know (t := 7) rfl (decide_eq_false h491) ?_
          refine At.run 3 rfl ?_; exact At.of (J471 false hrun) ⟨rfl, rfl, rfl, rfl, trivial⟩

noncomputable def sets_Of.l0b (a0 : List Int) (x872 : Int) (x873 : Int) (x874 : Int) (x875 : Int) (x876 : Int) : Option ((Int × Int × Int × Int × Int) ⊕ ((Int × Int × Int × Int) ⊕ (Int × Int × Int × Int))) :=
 if x876 < (a0.length : Int) then
 if (0 : Int) ≤ x876 ∧ x876 < (a0.length : Int) then
 (sets_Set_With.f x872 x873 x874 x875 (gt a0 x876)).bind fun t1094 =>
 nx (t1094.1, t1094.2.1, t1094.2.2.1, t1094.2.2.2, IntKind.i64.wrap (x876 + 1))
 else none
 else
 dn (.inl (x872, x873, x874, x875))
noncomputable def sets_Of.l0 (a0 : List Int) (x872 : Int) (x873 : Int) (x874 : Int) (x875 : Int) (x876 : Int) : Option ((Int × Int × Int × Int) ⊕ (Int × Int × Int × Int)) := iter (fun t_ : Int × Int × Int × Int × Int => sets_Of.l0b a0 t_.1 t_.2.1 t_.2.2.1 t_.2.2.2.1 t_.2.2.2.2) (x872, x873, x874, x875, x876)
noncomputable def sets_Of.f (a0 : List Int) : Option (Int × Int × Int × Int) :=
 jn (sets_Of.l0 a0 0 0 0 0 0) (fun (s_ : Int × Int × Int × Int) =>
 some (s_.1, s_.2.1, s_.2.2.1, s_.2.2.2))
theorem sets_Of.callee : Callee Go.Proofs.Tryz.prog 37 := ⟨_, Go.Proofs.Tryz.func37, by kernel_rfl, by kernel_rfl⟩
set_option maxRecDepth 100000 in
set_option maxHeartbeats 2000000 in
theorem sets_Of.spec (R : Res) (Fr : List HProp) (A0 : Option Addr) (n0 : Nat) (c0 : Nat) (a0 : List Int) (hr0 : RdS (Fl.int .i64).rep R.heap A0 a0) (hn0 : a0.length = n0) (hc0 : n0 ≤ c0) {r : Int × Int × Int × Int} (hrun : sets_Of.f a0 = some r) :
    Spec Go.Proofs.Tryz.prog 37 [.slice A0 n0 c0] R (Fr) (fun v l' => v = .agg #[.int .u64 r.1, .int .u64 r.2.1, .int .u64 r.2.2.1, .int .u64 r.2.2.2] ∧ Fr = l') := by
  subst hn0; refine Spec.of Go.Proofs.Tryz.func37 rfl rfl ?_; unfold sets_Of.f at hrun; have hrun := brun hrun; refine At.seq (At.region ?_); refine At.alloc rfl rfl rfl (fun b265 => ?_); refine At.nil (At.thn (At.seq (At.region ?_))); refine At.alloc rfl rfl rfl (fun b266 => ?_); refine At.nil (At.thn (At.seq (At.seq (At.region (At.run 3 rfl (At.nil (At.thn ?_))))))); refine At.block ?_; obtain ⟨G1081, hl1082, hr1083, hrun⟩ := bjoin hrun; obtain ⟨o1084, hlo1085, ho1086⟩ := bsome hrun; clear hrun; unfold sets_Of.l0 at hlo1085; obtain ⟨m1087, hit1089⟩ := iter_some.1 hlo1085; clear hlo1085; refine At.loopJ (X := Int × Int × Int × Int × Int) (Y := Int × Int × Int × Int) (e0 := 0) (fun s_ => [(2, .pointer (some ⟨b265, 0, none⟩)), (3, .pointer (some ⟨b266, 0, none⟩)), (6, .slice A0 a0.length c0), (7, .int .i64 (a0.length : Int)), (8, .int .i64 s_.2.2.2.2)]) (fun s_ => pt b266 (.cells [.int .u64 s_.1, .int .u64 s_.2.1, .int .u64 s_.2.2.1, .int .u64 s_.2.2.2.1].toArray 38) :: pt b265 (.cells ([.int .u64 0, .int .u64 0, .int .u64 0, .int .u64 0] : List Value).toArray 38) :: Fr) (fun m_ => fun s_ => iterN (fun t_ : Int × Int × Int × Int × Int => sets_Of.l0b a0 t_.1 t_.2.1 t_.2.2.1 t_.2.2.2.1 t_.2.2.2.2) m_ (s_.1, s_.2.1, s_.2.2.1, s_.2.2.2.1, s_.2.2.2.2) = some o1084) m1087 (0, 0, 0, 0, 0) hit1089 (fun s_ => [(2, .pointer (some ⟨b265, 0, none⟩)), (3, .pointer (some ⟨b266, 0, none⟩))]) (fun s_ => pt b266 (.cells [.int .u64 s_.1, .int .u64 s_.2.1, .int .u64 s_.2.2.1, .int .u64 s_.2.2.2].toArray 38) :: pt b265 (.cells ([.int .u64 0, .int .u64 0, .int .u64 0, .int .u64 0] : List Value).toArray 38) :: Fr) (fun s_ => G1081 (.inl (s_.1, s_.2.1, s_.2.2.1, s_.2.2.2)) = some r) (fun a w e hs => ⟨e.sub ⟨rfl, rfl, rfl, rfl, rfl, trivial⟩, (by exact hs)⟩) ?_ (fun J1091 => ?_)
  · rintro ⟨x1077, x1078, x1079, x1080⟩ hrun; have hrun := (hl1082 _).symm.trans hrun
    · refine At.ibx ?_; refine At.thn (At.seq (At.region ?_)); refine At.y (Y.load rfl rfl .z rfl rfl rfl) rfl rfl rfl ?_; refine At.store rfl rfl rfl rfl (.s .z) rfl rfl rfl (.c (.c (.c (.c .n)))) ?_; refine At.nil (At.thn (At.ret ?_)); refine At.resM (.inl rfl) rfl (RV.cell rfl rfl .z rfl rfl rfl RV.nil) ?_; refine At.drop .z (At.drop .z ?_); obtain rfl := (bret hrun).symm; exact fun a w e hs => ⟨_, ⟨rfl, rfl⟩, hs⟩
  · clear hit1089 m1087; rintro m1087 ⟨x872, x873, x874, x875, x876⟩ hit1089; obtain ⟨m1088, f_, hlt1090, hf_, hrun⟩ := bit hit1089; clear hit1089; have hrun : (sets_Of.l0b a0 x872 x873 x874 x875 x876).bind _ = some o1084 := hrun; unfold sets_Of.l0b at hrun
    · refine At.seq (At.region (At.run 1 rfl (At.nil (At.thn (At.seq ?_))))); rcases bite hrun with ⟨h1092, hrun⟩ | ⟨h1092, hrun⟩
      · · refine At.condT rfl (decide_eq_true h1092) ?_
          refine At.skip (At.thn (At.seq ?_)); refine At.block ?_; refine At.seq (At.region ?_); obtain ⟨h1093, hrun⟩ := bnone hrun; refine At.y (Y.ixRd hr0 rfl rfl rfl rfl rfl rfl rfl h1093.1 h1093.2) rfl rfl rfl ?_; refine At.y (Y.ldFl hr0 rfl (q := 0) rfl rfl h1093.1 h1093.2 rfl rfl rfl) rfl rfl rfl ?_; refine At.run 1 rfl (At.nil (At.thn (At.region ?_))); refine At.y (Y.load rfl rfl .z rfl rfl rfl) rfl rfl rfl ?_; refine At.run 1 rfl ?_; obtain ⟨t1094, hc1095, hrun⟩ := bbind hrun; refine At.call rfl sets_Set_With.callee rfl rfl rfl (sets_Set_With.spec _ _  x872 x873 x874 x875 (gt a0 x876)  hc1095) ?_; rintro _ _ ⟨rfl, rfl⟩; refine At.store rfl rfl rfl rfl .z rfl rfl rfl (.c (.c (.c (.c .n)))) ?_; refine At.nil ?_; refine At.ibn ?_; refine At.thn (At.region (At.run 2 rfl (At.nil ?_))); have hrun := bnx hf_ hrun; exact fun a w e hs => ⟨m1088, (t1094.1, t1094.2.1, t1094.2.2.1, t1094.2.2.2, IntKind.i64.wrap (x876 + 1)), hlt1090, hrun, e.sub ⟨rfl, rfl, rfl, rfl, rfl, trivial⟩, hs⟩
      · · refine At.condF rfl (decide_eq_false h1092) ?_
          refine At.exit ?_; refine At.the ?_; refine At.the ?_; exact fun a w e hs => J1091 (x872, x873, x874, x875) (bdn hrun ho1086) a w (e.sub ⟨rfl, rfl, trivial⟩) hs

noncomputable def lts_New.l2b (a0_1 : List Bs) (a0_2 : List api_Edge) (x1680 : Int) (x2502 : List (lts_edges × sets_Set)) (x2503 : Int) : Option (((List (lts_edges × sets_Set)) × Int) ⊕ (((List (lts_edges × sets_Set))) ⊕ (((List (lts_edges × sets_Set)) × Int) ⊕ (((List (lts_edges × sets_Set))) ⊕ ((Option lts_Table)))))) :=
 if x2503 < (([(gt a0_1 ((gt a0_2 x1680).Action)), ([45] : Bs)] : List Bs).length : Int) then
 if (0 : Int) ≤ x2503 ∧ x2503 < (([(gt a0_1 ((gt a0_2 x1680).Action)), ([45] : Bs)] : List Bs).length : Int) then
 (sets_Set_With.f (((mget x2502 (⟨(gt a0_2 x1680).From, gt ([(gt a0_1 ((gt a0_2 x1680).Action)), ([45] : Bs)] : List Bs) x2503⟩ : lts_edges)).getD (⟨(0 : Int), (0 : Int), (0 : Int), (0 : Int)⟩ : sets_Set)).c0) (((mget x2502 (⟨(gt a0_2 x1680).From, gt ([(gt a0_1 ((gt a0_2 x1680).Action)), ([45] : Bs)] : List Bs) x2503⟩ : lts_edges)).getD (⟨(0 : Int), (0 : Int), (0 : Int), (0 : Int)⟩ : sets_Set)).c1) (((mget x2502 (⟨(gt a0_2 x1680).From, gt ([(gt a0_1 ((gt a0_2 x1680).Action)), ([45] : Bs)] : List Bs) x2503⟩ : lts_edges)).getD (⟨(0 : Int), (0 : Int), (0 : Int), (0 : Int)⟩ : sets_Set)).c2) (((mget x2502 (⟨(gt a0_2 x1680).From, gt ([(gt a0_1 ((gt a0_2 x1680).Action)), ([45] : Bs)] : List Bs) x2503⟩ : lts_edges)).getD (⟨(0 : Int), (0 : Int), (0 : Int), (0 : Int)⟩ : sets_Set)).c3) ((gt a0_2 x1680).To)).bind fun t2721 =>
 nx ((mset x2502 (⟨(gt a0_2 x1680).From, gt ([(gt a0_1 ((gt a0_2 x1680).Action)), ([45] : Bs)] : List Bs) x2503⟩ : lts_edges) (⟨t2721.1, t2721.2.1, t2721.2.2.1, t2721.2.2.2⟩ : sets_Set)), IntKind.i64.wrap (x2503 + 1))
 else none
 else
 dn (.inl x2502)
noncomputable def lts_New.l2 (a0_1 : List Bs) (a0_2 : List api_Edge) (x1680 : Int) (x2502 : List (lts_edges × sets_Set)) (x2503 : Int) : Option (((List (lts_edges × sets_Set))) ⊕ (((List (lts_edges × sets_Set)) × Int) ⊕ (((List (lts_edges × sets_Set))) ⊕ ((Option lts_Table))))) := iter (fun t_ : (List (lts_edges × sets_Set)) × Int => lts_New.l2b a0_1 a0_2 x1680 t_.1 t_.2) (x2502, x2503)
noncomputable def lts_New.l1b (a0_1 : List Bs) (a0_2 : List api_Edge) (x1679 : List (lts_edges × sets_Set)) (x1680 : Int) : Option (((List (lts_edges × sets_Set)) × Int) ⊕ (((List (lts_edges × sets_Set))) ⊕ ((Option lts_Table)))) :=
 if x1680 < (a0_2.length : Int) then
 if (0 : Int) ≤ x1680 ∧ x1680 < (a0_2.length : Int) then
 if (0 : Int) ≤ (gt a0_2 x1680).Action ∧ (gt a0_2 x1680).Action < (a0_1.length : Int) then
 jn (lts_New.l2 a0_1 a0_2 x1680 x1679 0) (fun (x2704 : List (lts_edges × sets_Set)) =>
 nx (x2704, IntKind.i64.wrap (x1680 + 1)))
 else none
 else none
 else
 dn (.inl x1679)
noncomputable def lts_New.l1 (a0_1 : List Bs) (a0_2 : List api_Edge) (x1679 : List (lts_edges × sets_Set)) (x1680 : Int) : Option (((List (lts_edges × sets_Set))) ⊕ ((Option lts_Table))) := iter (fun t_ : (List (lts_edges × sets_Set)) × Int => lts_New.l1b a0_1 a0_2 t_.1 t_.2) (x1679, x1680)
noncomputable def lts_New.l0b (a0_3 : List api_Prop) (x863 : List (Bs × sets_Set)) (x864 : Int) : Option (((List (Bs × sets_Set)) × Int) ⊕ (((List (Bs × sets_Set))) ⊕ ((Option lts_Table)))) :=
 if x864 < (a0_3.length : Int) then
 if (0 : Int) ≤ x864 ∧ x864 < (a0_3.length : Int) then
 (sets_Of.f ((gt a0_3 x864).States)).bind fun t2735 =>
 nx ((mset x863 ((gt a0_3 x864).Name) (⟨t2735.1, t2735.2.1, t2735.2.2.1, t2735.2.2.2⟩ : sets_Set)), IntKind.i64.wrap (x864 + 1))
 else none
 else
 dn (.inl x863)
noncomputable def lts_New.l0 (a0_3 : List api_Prop) (x863 : List (Bs × sets_Set)) (x864 : Int) : Option (((List (Bs × sets_Set))) ⊕ ((Option lts_Table))) := iter (fun t_ : (List (Bs × sets_Set)) × Int => lts_New.l0b a0_3 t_.1 t_.2) (x863, x864)
noncomputable def lts_New.f (a0_0 : Int) (a0_1 : List Bs) (a0_2 : List api_Edge) (a0_3 : List api_Prop) : Option (Option lts_Table) :=
 (lts_Right.f a0_0 a0_1 a0_2 a0_3).bind fun t255 =>
 if t255 = true then
 jn (lts_New.l0 a0_3 ([] : List (Bs × sets_Set)) 0) (fun (x1065 : List (Bs × sets_Set)) =>
 jn (lts_New.l1 a0_1 a0_2 ([] : List (lts_edges × sets_Set)) 0) (fun (x1881 : List (lts_edges × sets_Set)) =>
 some (some (⟨a0_0, x1065, x1881⟩ : lts_Table))))
 else
 some none
theorem lts_New.callee : Callee Go.Proofs.Tryz.prog 11 := ⟨_, Go.Proofs.Tryz.func11, by kernel_rfl, by kernel_rfl⟩
set_option maxRecDepth 100000 in
set_option maxHeartbeats 2000000 in
theorem lts_New.spec (R : Res) (Fr : List HProp) (A0_1 : Option Addr) (n0_1 : Nat) (c0_1 : Nat) (A0_2 : Option Addr) (n0_2 : Nat) (c0_2 : Nat) (A0_3 : Option Addr) (n0_3 : Nat) (c0_3 : Nat) (a0_0 : Int) (a0_1 : List Bs) (a0_2 : List api_Edge) (a0_3 : List api_Prop) (hr0_1 : RdS Fl.bs.rep R.heap A0_1 a0_1) (hn0_1 : a0_1.length = n0_1) (hc0_1 : n0_1 ≤ c0_1) (hr0_2 : RdS api_Edge.fl.rep R.heap A0_2 a0_2) (hn0_2 : a0_2.length = n0_2) (hc0_2 : n0_2 ≤ c0_2) (hr0_3 : RdS api_Prop.rep R.heap A0_3 a0_3) (hn0_3 : a0_3.length = n0_3) (hc0_3 : n0_3 ≤ c0_3) {r : (Option lts_Table)} (hrun : lts_New.f a0_0 a0_1 a0_2 a0_3 = some r) :
    Spec Go.Proofs.Tryz.prog 11 [.agg #[.int .i64 a0_0, .slice A0_1 n0_1 c0_1, .slice A0_2 n0_2 c0_2, .slice A0_3 n0_3 c0_3]] R (Fr) (fun v l' => ∃ (w251 : Option Nat), v = optp w251 ∧ optb lts_Table.ow 74 w251 r :: Fr = l') := by
  subst hn0_1; subst hn0_2; subst hn0_3; refine Spec.of Go.Proofs.Tryz.func11 rfl rfl ?_; unfold lts_New.f at hrun; have hrun := brun hrun; refine At.seq (At.region ?_); refine At.box rfl rfl (cs := [.int .i64 a0_0, .slice A0_1 a0_1.length c0_1, .slice A0_2 a0_2.length c0_2, .slice A0_3 a0_3.length c0_3]) rfl rfl (fun b254 => ?_); refine At.run 1 rfl (At.nil (At.thn (At.seq (At.seq (At.region ?_))))); refine At.y (Y.load rfl rfl .z rfl rfl rfl) rfl rfl rfl ?_; obtain ⟨t255, hc256, hrun⟩ := bbind hrun; refine At.call rfl lts_Right.callee rfl rfl rfl (lts_Right.spec _ _ A0_1 a0_1.length c0_1 A0_2 a0_2.length c0_2 A0_3 a0_3.length c0_3 a0_0 a0_1 a0_2 a0_3 hr0_1 rfl hc0_1 hr0_2 rfl hc0_2 hr0_3 rfl hc0_3 hc256) ?_; rintro _ _ ⟨rfl, rfl⟩; refine At.run 1 rfl (At.nil (At.thn ?_)); rcases bite hrun with ⟨h257, hrun⟩ | ⟨h257, hrun⟩
  · · refine At.condF rfl (nf h257) ?_
      refine At.skip (At.thn (At.seq (At.region (At.run 1 rfl ?_)))); refine At.y (Y.load rfl rfl .z rfl rfl rfl) rfl rfl rfl ?_; refine At.makeMap Fl.bs.ov sets_Set.fl.av rfl rfl (fun b258 => ?_); refine At.makeMap lts_edges.fl.av sets_Set.fl.av rfl rfl (fun b259 => ?_); refine At.y (Y.build (is := [0, 1, 2]) (xo := [.tmp 15, .tmp 16, .tmp 17]) (vs := [.int .i64 a0_0, .map (some b258), .map (some b259)]) (cs := [.int .i64 a0_0, .map (some b258), .map (some b259)]) rfl rfl rfl rfl rfl rfl) rfl rfl rfl ?_; refine At.box rfl rfl (cs := [.int .i64 a0_0, .map (some b258), .map (some b259)]) rfl rfl (fun b260 => ?_); refine At.run 1 rfl (At.nil (At.thn (At.seq (At.seq (At.region (At.run 1 rfl ?_)))))); refine At.y (Y.load rfl rfl (.s (.s (.s .z))) rfl rfl rfl) rfl rfl rfl ?_; refine At.run 2 rfl (At.nil (At.thn ?_)); refine At.block ?_; obtain ⟨G1066, hl1067, hr1068, hrun⟩ := bjoin hrun; obtain ⟨o1069, hlo1070, ho1071⟩ := bsome hrun; clear hrun; unfold lts_New.l0 at hlo1070; obtain ⟨m1072, hit1074⟩ := iter_some.1 hlo1070; clear hlo1070; refine At.loopJ (X := (List (Bs × sets_Set)) × Int) (Y := (List (Bs × sets_Set))) (e0 := 0) (fun s_ => [(1, .pointer (some ⟨b254, 0, none⟩)), (3, .pointer (some ⟨b260, 0, none⟩)), (21, .slice A0_3 a0_3.length c0_3), (22, .int .i64 (a0_3.length : Int)), (23, .int .i64 s_.2)]) (fun s_ => pt b260 (.cells [.int .i64 a0_0, .map (some b258), .map (some b259)].toArray 74) :: mapo lts_edges.fl.av sets_Set.fl.av b259 ([] : List (lts_edges × sets_Set)) :: mapo Fl.bs.ov sets_Set.fl.av b258 s_.1 :: pt b254 (.cells [.int .i64 a0_0, .slice A0_1 a0_1.length c0_1, .slice A0_2 a0_2.length c0_2, .slice A0_3 a0_3.length c0_3].toArray 26) :: Fr) (fun m_ => fun s_ => iterN (fun t_ : (List (Bs × sets_Set)) × Int => lts_New.l0b a0_3 t_.1 t_.2) m_ (s_.1, s_.2) = some o1069) m1072 (([] : List (Bs × sets_Set)), 0) hit1074 (fun x1065 => [(1, .pointer (some ⟨b254, 0, none⟩)), (3, .pointer (some ⟨b260, 0, none⟩))]) (fun x1065 => pt b260 (.cells [.int .i64 a0_0, .map (some b258), .map (some b259)].toArray 74) :: mapo lts_edges.fl.av sets_Set.fl.av b259 ([] : List (lts_edges × sets_Set)) :: mapo Fl.bs.ov sets_Set.fl.av b258 x1065 :: pt b254 (.cells [.int .i64 a0_0, .slice A0_1 a0_1.length c0_1, .slice A0_2 a0_2.length c0_2, .slice A0_3 a0_3.length c0_3].toArray 26) :: Fr) (fun x1065 => G1066 (.inl x1065) = some r) (fun a w e hs => ⟨e.sub ⟨rfl, rfl, rfl, rfl, rfl, trivial⟩, (by exact hs)⟩) ?_ (fun J1076 => ?_)
      · rintro x1065 hrun; have hrun := (hl1067 _).symm.trans hrun
        · refine At.ibx ?_; refine At.thn (At.seq (At.seq (At.region (At.run 1 rfl ?_)))); refine At.y (Y.load rfl rfl (.s (.s (.s .z))) rfl rfl rfl) rfl rfl rfl ?_; refine At.run 2 rfl (At.nil (At.thn ?_)); refine At.block ?_; obtain ⟨G1882, hl1883, hr1884, hrun⟩ := bjoin hrun; obtain ⟨o1885, hlo1886, ho1887⟩ := bsome hrun; clear hrun; unfold lts_New.l1 at hlo1886; obtain ⟨m1888, hit1890⟩ := iter_some.1 hlo1886; clear hlo1886; refine At.loopJ (X := (List (lts_edges × sets_Set)) × Int) (Y := (List (lts_edges × sets_Set))) (e0 := 2) (fun s_ => [(1, .pointer (some ⟨b254, 0, none⟩)), (3, .pointer (some ⟨b260, 0, none⟩)), (38, .slice A0_2 a0_2.length c0_2), (39, .int .i64 (a0_2.length : Int)), (40, .int .i64 s_.2)]) (fun s_ => pt b260 (.cells [.int .i64 a0_0, .map (some b258), .map (some b259)].toArray 74) :: mapo lts_edges.fl.av sets_Set.fl.av b259 s_.1 :: mapo Fl.bs.ov sets_Set.fl.av b258 x1065 :: pt b254 (.cells [.int .i64 a0_0, .slice A0_1 a0_1.length c0_1, .slice A0_2 a0_2.length c0_2, .slice A0_3 a0_3.length c0_3].toArray 26) :: Fr) (fun m_ => fun s_ => iterN (fun t_ : (List (lts_edges × sets_Set)) × Int => lts_New.l1b a0_1 a0_2 t_.1 t_.2) m_ (s_.1, s_.2) = some o1885) m1888 (([] : List (lts_edges × sets_Set)), 0) hit1890 (fun x1881 => [(3, .pointer (some ⟨b260, 0, none⟩))]) (fun x1881 => pt b260 (.cells [.int .i64 a0_0, .map (some b258), .map (some b259)].toArray 74) :: mapo lts_edges.fl.av sets_Set.fl.av b259 x1881 :: mapo Fl.bs.ov sets_Set.fl.av b258 x1065 :: pt b254 (.cells [.int .i64 a0_0, .slice A0_1 a0_1.length c0_1, .slice A0_2 a0_2.length c0_2, .slice A0_3 a0_3.length c0_3].toArray 26) :: Fr) (fun x1881 => G1882 (.inl x1881) = some r) (fun a w e hs => ⟨e.sub ⟨rfl, rfl, rfl, rfl, rfl, trivial⟩, (by exact hs)⟩) ?_ (fun J1892 => ?_)
          · rintro x1881 hrun; have hrun := (hl1883 _).symm.trans hrun
            · refine At.ibx ?_; refine At.thn (At.seq (At.region (At.run 2 rfl (At.nil (At.thn (At.ret (At.f1 ?_))))))); refine At.f2 (At.f2 ?_); refine At.optSome (x := (⟨a0_0, x1065, x1881⟩ : lts_Table)) lts_Table.ent ?_; refine At.drop (.s .z) ?_; obtain rfl := (bret hrun).symm; exact At.res (.inl rfl) rfl rfl ⟨(some b260), rfl, rfl⟩
          · clear hit1890 m1888; rintro m1888 ⟨x1679, x1680⟩ hit1890; obtain ⟨m1889, f_, hlt1891, hf_, hrun⟩ := bit hit1890; clear hit1890; have hrun : (lts_New.l1b a0_1 a0_2 x1679 x1680).bind _ = some o1885 := hrun; unfold lts_New.l1b at hrun
            · refine At.seq (At.region (At.run 1 rfl (At.nil (At.thn (At.seq ?_))))); rcases bite hrun with ⟨h1893, hrun⟩ | ⟨h1893, hrun⟩
              · · refine At.condT rfl (decide_eq_true h1893) ?_
                  refine At.skip (At.thn (At.seq ?_)); refine At.block ?_; refine At.seq (At.region ?_); obtain ⟨h1894, hrun⟩ := bnone hrun; refine At.y (Y.ixRd hr0_2 rfl rfl rfl rfl rfl rfl rfl h1894.1 h1894.2) rfl rfl rfl ?_; refine At.y (Y.ldFl hr0_2 rfl (q := 0) rfl rfl h1894.1 h1894.2 rfl rfl rfl) rfl rfl rfl ?_; refine At.alloc rfl rfl rfl (fun b1895 => ?_); refine At.store rfl rfl rfl rfl .z rfl rfl rfl (.c (.c (.c .n))) ?_; refine At.nil (At.thn (At.seq (At.region (At.run 1 rfl ?_)))); refine At.y (Y.load rfl rfl (.s (.s (.s (.s .z)))) rfl rfl rfl) rfl rfl rfl ?_; refine At.run 1 rfl ?_; refine At.y (Y.load rfl rfl .z rfl rfl rfl) rfl rfl rfl ?_; obtain ⟨h1896, hrun⟩ := bnone hrun; refine At.y (Y.ixRd hr0_1 rfl rfl rfl rfl rfl rfl rfl h1896.1 h1896.2) rfl rfl rfl ?_; refine At.y (Y.ldFl hr0_1 rfl (q := 0) rfl rfl h1896.1 h1896.2 rfl rfl rfl) rfl rfl rfl ?_; refine At.lit rfl (xo := [.tmp 49, .const (.string ⟨#[45]⟩)]) (ys := ([(gt a0_1 ((gt a0_2 x1680).Action)), ([45] : Bs)] : List Bs)) Fl.bs rfl rfl rfl rfl rfl rfl rfl rfl rfl rfl rfl (fun A1897 c1898 => ?_); refine At.run 2 rfl (At.nil (At.thn ?_)); refine At.block ?_; obtain ⟨G2705, hl2706, hr2707, hrun⟩ := bjoin hrun; obtain ⟨o2708, hlo2709, ho2710⟩ := bsome hrun; clear hrun; unfold lts_New.l2 at hlo2709; obtain ⟨m2711, hit2713⟩ := iter_some.1 hlo2709; clear hlo2709; refine At.loopJ (X := (List (lts_edges × sets_Set)) × Int) (Y := (List (lts_edges × sets_Set))) (e0 := 4) (fun s_ => [(1, .pointer (some ⟨b254, 0, none⟩)), (3, .pointer (some ⟨b260, 0, none⟩)), (7, .pointer (some ⟨b1895, 0, none⟩)), (38, .slice A0_2 a0_2.length c0_2), (39, .int .i64 (a0_2.length : Int)), (40, .int .i64 x1680), (50, .slice A1897 (([(gt a0_1 ((gt a0_2 x1680).Action)), ([45] : Bs)] : List Bs).length) c1898), (51, .int .i64 (([(gt a0_1 ((gt a0_2 x1680).Action)), ([45] : Bs)] : List Bs).length : Int)), (52, .int .i64 s_.2)]) (fun s_ => row Fl.bs 9 A1897 (([(gt a0_1 ((gt a0_2 x1680).Action)), ([45] : Bs)] : List Bs).length) c1898 ([(gt a0_1 ((gt a0_2 x1680).Action)), ([45] : Bs)] : List Bs) :: pt b1895 (.cells [.int .i64 ((gt a0_2 x1680).From), .int .i64 ((gt a0_2 x1680).Action), .int .i64 ((gt a0_2 x1680).To)].toArray 54) :: pt b260 (.cells [.int .i64 a0_0, .map (some b258), .map (some b259)].toArray 74) :: mapo lts_edges.fl.av sets_Set.fl.av b259 s_.1 :: mapo Fl.bs.ov sets_Set.fl.av b258 x1065 :: pt b254 (.cells [.int .i64 a0_0, .slice A0_1 a0_1.length c0_1, .slice A0_2 a0_2.length c0_2, .slice A0_3 a0_3.length c0_3].toArray 26) :: Fr) (fun m_ => fun s_ => iterN (fun t_ : (List (lts_edges × sets_Set)) × Int => lts_New.l2b a0_1 a0_2 x1680 t_.1 t_.2) m_ (s_.1, s_.2) = some o2708) m2711 (x1679, 0) hit2713 (fun x2704 => [(1, .pointer (some ⟨b254, 0, none⟩)), (3, .pointer (some ⟨b260, 0, none⟩)), (38, .slice A0_2 a0_2.length c0_2), (39, .int .i64 (a0_2.length : Int)), (40, .int .i64 x1680)]) (fun x2704 => row Fl.bs 9 A1897 (([(gt a0_1 ((gt a0_2 x1680).Action)), ([45] : Bs)] : List Bs).length) c1898 ([(gt a0_1 ((gt a0_2 x1680).Action)), ([45] : Bs)] : List Bs) :: pt b1895 (.cells [.int .i64 ((gt a0_2 x1680).From), .int .i64 ((gt a0_2 x1680).Action), .int .i64 ((gt a0_2 x1680).To)].toArray 54) :: pt b260 (.cells [.int .i64 a0_0, .map (some b258), .map (some b259)].toArray 74) :: mapo lts_edges.fl.av sets_Set.fl.av b259 x2704 :: mapo Fl.bs.ov sets_Set.fl.av b258 x1065 :: pt b254 (.cells [.int .i64 a0_0, .slice A0_1 a0_1.length c0_1, .slice A0_2 a0_2.length c0_2, .slice A0_3 a0_3.length c0_3].toArray 26) :: Fr) (fun x2704 => G2705 (.inl x2704) = some o1885) (fun a w e hs => ⟨e.sub ⟨rfl, rfl, rfl, rfl, rfl, rfl, rfl, rfl, rfl, trivial⟩, (by exact hs)⟩) ?_ (fun J2715 => ?_)
                  · rintro x2704 hrun; have hrun := (hl2706 _).symm.trans hrun
                    · refine At.ibx ?_; refine At.ibn ?_; refine At.thn (At.region (At.run 2 rfl (At.nil (At.drop .z (At.drop .z ?_))))); have hrun := bnx hf_ hrun; exact fun a w e hs => ⟨m1889, (x2704, IntKind.i64.wrap (x1680 + 1)), hlt1891, hrun, e.sub ⟨rfl, rfl, rfl, rfl, rfl, trivial⟩, hs⟩
                  · clear hit2713 m2711; rintro m2711 ⟨x2502, x2503⟩ hit2713; obtain ⟨m2712, f_, hlt2714, hf_, hrun⟩ := bit hit2713; clear hit2713; have hrun : (lts_New.l2b a0_1 a0_2 x1680 x2502 x2503).bind _ = some o2708 := hrun; unfold lts_New.l2b at hrun
                    · refine At.seq (At.region (At.run 1 rfl (At.nil (At.thn (At.seq ?_))))); rcases bite hrun with ⟨h2716, hrun⟩ | ⟨h2716, hrun⟩
                      · · refine At.condT rfl (decide_eq_true h2716) ?_
                          refine At.skip (At.thn (At.seq ?_)); refine At.block ?_; refine At.seq (At.region ?_); obtain ⟨h2717, hrun⟩ := bnone hrun; refine At.y (Y.ix .z rfl rfl rfl rfl rfl rfl h2717.1 h2717.2) rfl rfl rfl ?_; refine At.y (Y.ld .z (q := 0) rfl rfl h2717.1 h2717.2 rfl rfl rfl) rfl rfl rfl ?_; refine At.run 1 rfl (At.nil (At.thn (At.seq (At.region (At.run 1 rfl ?_))))); refine At.y (Y.load rfl rfl (.s .z) rfl rfl rfl) rfl rfl rfl ?_; refine At.run 1 rfl ?_; refine At.y (Y.build (is := [0, 1]) (xo := [.tmp 57, .tmp 58]) (vs := [.int .i64 ((gt a0_2 x1680).From), .string ⟨(gt ([(gt a0_1 ((gt a0_2 x1680).Action)), ([45] : Bs)] : List Bs) x2503).toArray⟩]) (cs := [.int .i64 ((gt a0_2 x1680).From), .string ⟨(gt ([(gt a0_1 ((gt a0_2 x1680).Action)), ([45] : Bs)] : List Bs) x2503).toArray⟩]) rfl rfl rfl rfl rfl rfl) rfl rfl rfl ?_; refine At.alloc rfl rfl rfl (fun b2718 => ?_); refine At.store rfl rfl rfl rfl .z rfl rfl rfl (.c (.c .n)) ?_; refine At.nil (At.thn ?_); refine At.held [pt b2718 (.cells [.int .i64 ((gt a0_2 x1680).From), .string ⟨(gt ([(gt a0_1 ((gt a0_2 x1680).Action)), ([45] : Bs)] : List Bs) x2503).toArray⟩].toArray 77), row Fl.bs 9 A1897 (([(gt a0_1 ((gt a0_2 x1680).Action)), ([45] : Bs)] : List Bs).length) c1898 ([(gt a0_1 ((gt a0_2 x1680).Action)), ([45] : Bs)] : List Bs), pt b1895 (.cells [.int .i64 ((gt a0_2 x1680).From), .int .i64 ((gt a0_2 x1680).Action), .int .i64 ((gt a0_2 x1680).To)].toArray 54), pt b260 (.cells [.int .i64 a0_0, .map (some b258), .map (some b259)].toArray 74), mapo Fl.bs.ov sets_Set.fl.av b258 x1065, pt b254 (.cells [.int .i64 a0_0, .slice A0_1 a0_1.length c0_1, .slice A0_2 a0_2.length c0_2, .slice A0_3 a0_3.length c0_3].toArray 26)] 15 rfl ?_; refine At.H.pv 0 rfl (by kernel_rfl) (by kernel_rfl) (by kernel_rfl) rfl rfl rfl rfl (.c .z (.c .z (.c .z (.c .z (.c (.s .z) (.c (.s .z) .n)))))) ?_; refine At.H.pv 1 rfl (by kernel_rfl) (by kernel_rfl) (by kernel_rfl) rfl rfl rfl rfl (.c .z (.c .z (.c .z (.c .z (.c (.s .z) (.c (.s .z) .n)))))) ?_; refine At.H.pv 2 rfl (by kernel_rfl) (by kernel_rfl) (by kernel_rfl) rfl rfl rfl rfl (.c .z (.c .z (.c .z (.c .z (.c (.s .z) (.c (.s .z) .n)))))) ?_; refine At.H.take 3 rfl (by kernel_rfl) (by kernel_rfl) (by kernel_rfl) (Y.load rfl rfl (.s (.s (.s .z))) rfl rfl rfl) rfl rfl rfl (.c .z (.c .z (.c .z (.c .z (.c (.s .z) (.c (.s .z) .n)))))) ?_; refine At.H.take 4 rfl (by kernel_rfl) (by kernel_rfl) (by kernel_rfl) (Y.load rfl rfl .z rfl rfl rfl) rfl rfl rfl (.c .z (.c .z (.c .z (.c .z (.c (.s .z) (.c (.s .z) .n)))))) ?_; refine At.H.pv 5 rfl (by kernel_rfl) (by kernel_rfl) (by kernel_rfl) rfl rfl rfl rfl (.c .z (.c .z (.c .z (.c .z (.c (.s .z) (.c (.s .z) .n)))))) ?_; refine At.H.pv 6 rfl (by kernel_rfl) (by kernel_rfl) (by kernel_rfl) rfl rfl rfl rfl (.c .z (.c .z (.c .z (.c .z (.c (.s .z) (.c (.s .z) .n)))))) ?_; refine At.H.pv 7 rfl (by kernel_rfl) (by kernel_rfl) (by kernel_rfl) rfl rfl rfl rfl (.c .z (.c .z (.c .z (.c .z (.c (.s .z) (.c (.s .z) .n)))))) ?_; refine At.H.take 8 rfl (by kernel_rfl) (by kernel_rfl) (by kernel_rfl) (Y.load rfl rfl (.s (.s (.s .z))) rfl rfl rfl) rfl rfl rfl (.c .z (.c .z (.c .z (.c .z (.c (.s .z) (.c (.s .z) .n)))))) ?_; refine At.H.take 9 rfl (by kernel_rfl) (by kernel_rfl) (by kernel_rfl) (Y.load rfl rfl .z rfl rfl rfl) rfl rfl rfl (.c .z (.c .z (.c .z (.c .z (.c (.s .z) (.c (.s .z) .n)))))) ?_; refine At.H.pv 11 rfl (by kernel_rfl) (by kernel_rfl) (by kernel_rfl) rfl rfl rfl rfl (.c .z (.c .z (.c .z (.c .z (.c (.s .z) (.c (.s .z) .n)))))) ?_; refine At.H.take 12 rfl (by kernel_rfl) (by kernel_rfl) (by kernel_rfl) (Y.load rfl rfl (.s (.s .z)) rfl rfl rfl) rfl rfl rfl (.c .z (.c .z (.c .z (.c .z (.c (.s .z) (.c (.s .z) .n)))))) ?_; refine At.H.all [10] (by kernel_rfl) rfl (all_cons ?_ all_nil)
                          · · refine At.HO.op rfl ?_
                              refine At.y (Y.lookup (k := (⟨(gt a0_2 x1680).From, gt ([(gt a0_1 ((gt a0_2 x1680).Action)), ([45] : Bs)] : List Bs) x2503⟩ : lts_edges)) (z := (⟨(0 : Int), (0 : Int), (0 : Int), (0 : Int)⟩ : sets_Set)) (.s (.s (.s (.s .z)))) rfl rfl lts_edges.keyok (by kernel_rfl) rfl rfl rfl) rfl rfl rfl ?_; refine At.HO.back (.c .z (.c .z (.c .z (.c .z (.c (.s .z) (.c (.s .z) .n)))))) ?_; refine At.H.all [13] (by kernel_rfl) rfl (all_cons ?_ all_nil)
                              · · refine At.HO.op rfl ?_
                                  obtain ⟨t2721, hc2722, hrun⟩ := bbind hrun; refine At.call rfl sets_Set_With.callee rfl rfl rfl (sets_Set_With.spec _ _  (((mget x2502 (⟨(gt a0_2 x1680).From, gt ([(gt a0_1 ((gt a0_2 x1680).Action)), ([45] : Bs)] : List Bs) x2503⟩ : lts_edges)).getD (⟨(0 : Int), (0 : Int), (0 : Int), (0 : Int)⟩ : sets_Set)).c0) (((mget x2502 (⟨(gt a0_2 x1680).From, gt ([(gt a0_1 ((gt a0_2 x1680).Action)), ([45] : Bs)] : List Bs) x2503⟩ : lts_edges)).getD (⟨(0 : Int), (0 : Int), (0 : Int), (0 : Int)⟩ : sets_Set)).c1) (((mget x2502 (⟨(gt a0_2 x1680).From, gt ([(gt a0_1 ((gt a0_2 x1680).Action)), ([45] : Bs)] : List Bs) x2503⟩ : lts_edges)).getD (⟨(0 : Int), (0 : Int), (0 : Int), (0 : Int)⟩ : sets_Set)).c2) (((mget x2502 (⟨(gt a0_2 x1680).From, gt ([(gt a0_1 ((gt a0_2 x1680).Action)), ([45] : Bs)] : List Bs) x2503⟩ : lts_edges)).getD (⟨(0 : Int), (0 : Int), (0 : Int), (0 : Int)⟩ : sets_Set)).c3) ((gt a0_2 x1680).To)  hc2722) ?_; rintro _ _ ⟨rfl, rfl⟩; refine At.HO.back (.c .z (.c .z (.c .z (.c .z (.c (.s .z) (.c (.s .z) .n)))))) ?_; refine At.H.all [14] (by kernel_rfl) rfl (all_cons ?_ all_nil)
                                  · · refine At.HO.op rfl ?_
                                      refine At.mapUpdate (k := (⟨(gt a0_2 x1680).From, gt ([(gt a0_1 ((gt a0_2 x1680).Action)), ([45] : Bs)] : List Bs) x2503⟩ : lts_edges)) (v := (⟨t2721.1, t2721.2.1, t2721.2.2.1, t2721.2.2.2⟩ : sets_Set)) rfl (.s (.s (.s (.s .z)))) rfl rfl lts_edges.keyok rfl rfl rfl rfl rfl ?_; refine At.HO.back (.c (.s .z) (.c (.s .z) (.c (.s .z) (.c (.s .z) (.c (.s .z) (.c (.s .z) .n)))))) ?_; refine At.H.done (by kernel_rfl) ?_; refine At.ibn ?_; refine At.thn (At.region (At.run 2 rfl (At.nil (At.drop (.s .z) (At.f5 (At.f5 (At.f2 ?_))))))); refine At.f5 (At.f5 (At.f5 ?_)); have hrun := bnx hf_ hrun; exact fun a w e hs => ⟨m2712, ((mset x2502 (⟨(gt a0_2 x1680).From, gt ([(gt a0_1 ((gt a0_2 x1680).Action)), ([45] : Bs)] : List Bs) x2503⟩ : lts_edges) (⟨t2721.1, t2721.2.1, t2721.2.2.1, t2721.2.2.2⟩ : sets_Set)), IntKind.i64.wrap (x2503 + 1)), hlt2714, hrun, e.sub ⟨rfl, rfl, rfl, rfl, rfl, rfl, rfl, rfl, rfl, trivial⟩, hs⟩
                      · · refine At.condF rfl (decide_eq_false h2716) ?_
                          refine At.exit ?_; refine At.the ?_; refine At.the ?_; exact fun a w e hs => J2715 x2502 (bdn hrun ho2710) a w (e.sub ⟨rfl, rfl, rfl, rfl, rfl, trivial⟩) hs
              · · refine At.condF rfl (decide_eq_false h1893) ?_
                  refine At.exit ?_; refine At.the ?_; refine At.the ?_; exact fun a w e hs => J1892 x1679 (bdn hrun ho1887) a w (e.sub ⟨rfl, trivial⟩) hs
      · clear hit1074 m1072; rintro m1072 ⟨x863, x864⟩ hit1074; obtain ⟨m1073, f_, hlt1075, hf_, hrun⟩ := bit hit1074; clear hit1074; have hrun : (lts_New.l0b a0_3 x863 x864).bind _ = some o1069 := hrun; unfold lts_New.l0b at hrun
        · refine At.seq (At.region (At.run 1 rfl (At.nil (At.thn (At.seq ?_))))); rcases bite hrun with ⟨h2723, hrun⟩ | ⟨h2723, hrun⟩
          · · refine At.condT rfl (decide_eq_true h2723) ?_
              refine At.skip (At.thn (At.seq ?_)); refine At.block ?_; refine At.seq (At.region ?_); obtain ⟨h2724, hrun⟩ := bnone hrun; refine At.y (Y.ixRd hr0_3 rfl rfl rfl rfl rfl rfl rfl h2724.1 h2724.2) rfl rfl rfl ?_; obtain ⟨cs2725, hK2726, hy2727⟩ := RdS.whole (P := Go.Proofs.Tryz.prog) hr0_3 (Sub.refl _) rfl h2724.1 h2724.2; obtain ⟨_, _, rfl, rfl, ⟨A2728, c2729, rfl, hc2730, hr2731⟩⟩ := hK2726; refine At.y (hy2727 rfl rfl rfl rfl) rfl rfl rfl ?_; refine At.alloc rfl rfl rfl (fun b2732 => ?_); refine At.store rfl rfl rfl rfl .z rfl rfl rfl (.c (.c .n)) ?_; refine At.nil (At.thn ?_); refine At.held [pt b2732 (.cells [.string ⟨((gt a0_3 x864).Name).toArray⟩, .slice A2728 ((gt a0_3 x864).States.length) c2729].toArray 57), pt b260 (.cells [.int .i64 a0_0, .map (some b258), .map (some b259)].toArray 74), mapo lts_edges.fl.av sets_Set.fl.av b259 ([] : List (lts_edges × sets_Set)), pt b254 (.cells [.int .i64 a0_0, .slice A0_1 a0_1.length c0_1, .slice A0_2 a0_2.length c0_2, .slice A0_3 a0_3.length c0_3].toArray 26)] 10 rfl ?_; refine At.H.pv 0 rfl (by kernel_rfl) (by kernel_rfl) (by kernel_rfl) rfl rfl rfl rfl (.c .z (.c .z (.c .z (.c (.s .z) .n)))) ?_; refine At.H.pv 1 rfl (by kernel_rfl) (by kernel_rfl) (by kernel_rfl) rfl rfl rfl rfl (.c .z (.c .z (.c .z (.c (.s .z) .n)))) ?_; refine At.H.pv 2 rfl (by kernel_rfl) (by kernel_rfl) (by kernel_rfl) rfl rfl rfl rfl (.c .z (.c .z (.c .z (.c (.s .z) .n)))) ?_; refine At.H.take 3 rfl (by kernel_rfl) (by kernel_rfl) (by kernel_rfl) (Y.load rfl rfl (.s .z) rfl rfl rfl) rfl rfl rfl (.c .z (.c .z (.c .z (.c (.s .z) .n)))) ?_; refine At.H.pv 4 rfl (by kernel_rfl) (by kernel_rfl) (by kernel_rfl) rfl rfl rfl rfl (.c .z (.c .z (.c .z (.c (.s .z) .n)))) ?_; refine At.H.take 5 rfl (by kernel_rfl) (by kernel_rfl) (by kernel_rfl) (Y.load rfl rfl .z rfl rfl rfl) rfl rfl rfl (.c .z (.c .z (.c .z (.c (.s .z) .n)))) ?_; refine At.H.pv 6 rfl (by kernel_rfl) (by kernel_rfl) (by kernel_rfl) rfl rfl rfl rfl (.c .z (.c .z (.c .z (.c (.s .z) .n)))) ?_; refine At.H.take 7 rfl (by kernel_rfl) (by kernel_rfl) (by kernel_rfl) (Y.load rfl rfl .z rfl rfl rfl) rfl rfl rfl (.c .z (.c .z (.c .z (.c (.s .z) .n)))) ?_; refine At.H.all [8] (by kernel_rfl) rfl (all_cons ?_ all_nil)
              · · refine At.HO.op rfl ?_
                  obtain ⟨t2735, hc2736, hrun⟩ := bbind hrun; refine At.call rfl sets_Of.callee rfl rfl rfl (sets_Of.spec _ _ A2728 ((gt a0_3 x864).States.length) c2729 ((gt a0_3 x864).States) hr2731 rfl hc2730 hc2736) ?_; rintro _ _ ⟨rfl, rfl⟩; refine At.HO.back (.c .z (.c .z (.c .z (.c (.s .z) .n)))) ?_; refine At.H.all [9] (by kernel_rfl) rfl (all_cons ?_ all_nil)
                  · · refine At.HO.op rfl ?_
                      refine At.mapUpdate (k := ((gt a0_3 x864).Name)) (v := (⟨t2735.1, t2735.2.1, t2735.2.2.1, t2735.2.2.2⟩ : sets_Set)) rfl (.s (.s (.s .z))) rfl rfl (KeyOk.str rfl rfl) rfl rfl rfl rfl rfl ?_; refine At.HO.back (.c (.s .z) (.c (.s .z) (.c (.s .z) (.c (.s .z) .n)))) ?_; refine At.H.done (by kernel_rfl) ?_; refine At.ibn ?_; refine At.thn (At.region (At.run 2 rfl (At.nil (At.drop (.s .z) (At.f3 (At.f1 (At.f3 ?_))))))); refine At.f3 ?_; have hrun := bnx hf_ hrun; exact fun a w e hs => ⟨m1073, ((mset x863 ((gt a0_3 x864).Name) (⟨t2735.1, t2735.2.1, t2735.2.2.1, t2735.2.2.2⟩ : sets_Set)), IntKind.i64.wrap (x864 + 1)), hlt1075, hrun, e.sub ⟨rfl, rfl, rfl, rfl, rfl, trivial⟩, hs⟩
          · · refine At.condF rfl (decide_eq_false h2723) ?_
              refine At.exit ?_; refine At.the ?_; refine At.the ?_; exact fun a w e hs => J1076 x863 (bdn hrun ho1071) a w (e.sub ⟨rfl, rfl, trivial⟩) hs
  · · refine At.condT rfl (nt (bn h257)) ?_
      refine At.seq (At.region (At.run 1 rfl (At.nil (At.thn (At.ret (At.thr ?_)))))); refine At.optNone lts_Table.ow 74 ?_; refine At.drop (.s .z) ?_; obtain rfl := (bret hrun).symm; exact At.res (.inl rfl) rfl rfl ⟨none, rfl, rfl⟩

noncomputable def bailiffref03_Holds.l1b (a0_3 : List api_Prop) (x857 : Int) (x1880 : Int) (x1881 : Int) : Option ((Int × Int) ⊕ ((Int) ⊕ ((Int) ⊕ ((Int × Int) ⊕ ((Int) ⊕ (Int)))))) :=
 if x1881 < ((gt a0_3 x857).States.length : Int) then
 if (0 : Int) ≤ x1881 ∧ x1881 < ((gt a0_3 x857).States.length : Int) then
 if (0 : Int) ≤ IntKind.u64.wrap (gt ((gt a0_3 x857).States) x1881) then
 nx (bor .u64 x1880 (Bw.shl .u64 1 (IntKind.u64.wrap (gt ((gt a0_3 x857).States) x1881))), IntKind.i64.wrap (x1881 + 1))
 else none
 else none
 else
 dn (.inl x1880)
noncomputable def bailiffref03_Holds.l1 (a0_3 : List api_Prop) (x857 : Int) (x1880 : Int) (x1881 : Int) : Option ((Int) ⊕ ((Int) ⊕ ((Int × Int) ⊕ ((Int) ⊕ (Int))))) := iter (fun t_ : Int × Int => bailiffref03_Holds.l1b a0_3 x857 t_.1 t_.2) (x1880, x1881)
noncomputable def bailiffref03_Holds.l0b (a0_3 : List api_Prop) (a1 : Bs) (x856 : Int) (x857 : Int) : Option ((Int × Int) ⊕ ((Int) ⊕ (Int))) :=
 if x857 < (a0_3.length : Int) then
 jn (
 if (0 : Int) ≤ x857 ∧ x857 < (a0_3.length : Int) then
 if bseq ((gt a0_3 x857).Name) a1 = true then
 jn (bailiffref03_Holds.l1 a0_3 x857 x856 0) (fun (x2082 : Int) =>
 some (.inl x2082))
 else
 some (.inl x856)
 else none) (fun (x1275 : Int) =>
 nx (x1275, IntKind.i64.wrap (x857 + 1)))
 else
 dn (.inl x856)
noncomputable def bailiffref03_Holds.l0 (a0_3 : List api_Prop) (a1 : Bs) (x856 : Int) (x857 : Int) : Option ((Int) ⊕ (Int)) := iter (fun t_ : Int × Int => bailiffref03_Holds.l0b a0_3 a1 t_.1 t_.2) (x856, x857)
noncomputable def bailiffref03_Holds.f (a0_0 : Int) (a0_1 : List Bs) (a0_2 : List api_Edge) (a0_3 : List api_Prop) (a1 : Bs) : Option Int :=
 jn (bailiffref03_Holds.l0 a0_3 a1 0 0) (fun (x1058 : Int) =>
 some x1058)
theorem bailiffref03_Holds.callee : Callee Go.Proofs.Tryz.prog 13 := ⟨_, Go.Proofs.Tryz.func13, by kernel_rfl, by kernel_rfl⟩
set_option maxRecDepth 100000 in
set_option maxHeartbeats 2000000 in
theorem bailiffref03_Holds.spec (R : Res) (Fr : List HProp) (A0_1 : Option Addr) (n0_1 : Nat) (c0_1 : Nat) (A0_2 : Option Addr) (n0_2 : Nat) (c0_2 : Nat) (A0_3 : Option Addr) (n0_3 : Nat) (c0_3 : Nat) (a0_0 : Int) (a0_1 : List Bs) (a0_2 : List api_Edge) (a0_3 : List api_Prop) (a1 : Bs) (hr0_1 : RdS Fl.bs.rep R.heap A0_1 a0_1) (hn0_1 : a0_1.length = n0_1) (hc0_1 : n0_1 ≤ c0_1) (hr0_2 : RdS api_Edge.fl.rep R.heap A0_2 a0_2) (hn0_2 : a0_2.length = n0_2) (hc0_2 : n0_2 ≤ c0_2) (hr0_3 : RdS api_Prop.rep R.heap A0_3 a0_3) (hn0_3 : a0_3.length = n0_3) (hc0_3 : n0_3 ≤ c0_3) {r : Int} (hrun : bailiffref03_Holds.f a0_0 a0_1 a0_2 a0_3 a1 = some r) :
    Spec Go.Proofs.Tryz.prog 13 [.agg #[.int .i64 a0_0, .slice A0_1 n0_1 c0_1, .slice A0_2 n0_2 c0_2, .slice A0_3 n0_3 c0_3], .string ⟨(a1).toArray⟩] R (Fr) (fun v l' => v = .int .u64 r ∧ Fr = l') := by
  subst hn0_1; subst hn0_2; subst hn0_3; refine Spec.of Go.Proofs.Tryz.func13 rfl rfl ?_; unfold bailiffref03_Holds.f at hrun; have hrun := brun hrun; refine At.seq (At.region ?_); refine At.box rfl rfl (cs := [.int .i64 a0_0, .slice A0_1 a0_1.length c0_1, .slice A0_2 a0_2.length c0_2, .slice A0_3 a0_3.length c0_3]) rfl rfl (fun b253 => ?_); refine At.run 1 rfl (At.nil (At.thn (At.seq (At.region (At.run 1 rfl (At.nil (At.thn ?_))))))); refine At.seq (At.seq (At.region (At.run 1 rfl (At.nil (At.thn ?_))))); refine At.block ?_; obtain ⟨G1059, hl1060, hr1061, hrun⟩ := bjoin hrun; obtain ⟨o1062, hlo1063, ho1064⟩ := bsome hrun; clear hrun; unfold bailiffref03_Holds.l0 at hlo1063; obtain ⟨m1065, hit1067⟩ := iter_some.1 hlo1063; clear hlo1063; refine At.loopJ (X := Int × Int) (Y := Int) (e0 := 0) (fun s_ => [(1, .string ⟨(a1).toArray⟩), (2, .pointer (some ⟨b253, 0, none⟩)), (5, .int .u64 s_.1), (6, .int .i64 s_.2)]) (fun s_ => pt b253 (.cells [.int .i64 a0_0, .slice A0_1 a0_1.length c0_1, .slice A0_2 a0_2.length c0_2, .slice A0_3 a0_3.length c0_3].toArray 26) :: Fr) (fun m_ => fun s_ => iterN (fun t_ : Int × Int => bailiffref03_Holds.l0b a0_3 a1 t_.1 t_.2) m_ (s_.1, s_.2) = some o1062) m1065 (0, 0) hit1067 (fun x1058 => [(5, .int .u64 x1058)]) (fun x1058 => pt b253 (.cells [.int .i64 a0_0, .slice A0_1 a0_1.length c0_1, .slice A0_2 a0_2.length c0_2, .slice A0_3 a0_3.length c0_3].toArray 26) :: Fr) (fun x1058 => G1059 (.inl x1058) = some r) (fun a w e hs => ⟨e.sub ⟨rfl, rfl, rfl, rfl, trivial⟩, (by exact hs)⟩) ?_ (fun J1069 => ?_)
  · rintro x1058 hrun; have hrun := (hl1060 _).symm.trans hrun
    · refine At.ibx ?_; refine At.thn (At.seq (At.region (At.run 2 rfl (At.nil (At.thn (At.ret (At.drop .z ?_))))))); obtain rfl := (bret hrun).symm; exact At.res (.inl rfl) rfl rfl ⟨rfl, rfl⟩
  · clear hit1067 m1065; rintro m1065 ⟨x856, x857⟩ hit1067; obtain ⟨m1066, f_, hlt1068, hf_, hrun⟩ := bit hit1067; clear hit1067; have hrun : (bailiffref03_Holds.l0b a0_3 a1 x856 x857).bind _ = some o1062 := hrun; unfold bailiffref03_Holds.l0b at hrun
    · refine At.seq (At.seq (At.region (At.run 2 rfl ?_))); refine At.y (Y.load rfl rfl .z rfl rfl rfl) rfl rfl rfl ?_; refine At.run 2 rfl (At.nil (At.thn ?_)); rcases bite hrun with ⟨h1070, hrun⟩ | ⟨h1070, hrun⟩
      · · refine At.condT rfl (decide_eq_true h1070) ?_
          refine At.skip (At.thn (At.seq ?_)); obtain ⟨G1071, hl1072, hr1073, hrun⟩ := bjoin hrun; refine At.join (X := Int) (fun x1275 => [(1, .string ⟨(a1).toArray⟩), (2, .pointer (some ⟨b253, 0, none⟩)), (5, .int .u64 x1275), (6, .int .i64 x857)]) (fun x1275 => pt b253 (.cells [.int .i64 a0_0, .slice A0_1 a0_1.length c0_1, .slice A0_2 a0_2.length c0_2, .slice A0_3 a0_3.length c0_3].toArray 26) :: Fr) (fun x1275 => G1071 (.inl x1275) = some o1062) ?_ (fun J1074 => ?_)
          · rintro x1275 hrun; have hrun := (hl1072 _).symm.trans hrun
            · refine At.region (At.run 3 rfl (At.nil ?_)); have hrun := bnx hf_ hrun; exact fun a w e hs => ⟨m1066, (x1275, IntKind.i64.wrap (x857 + 1)), hlt1068, hrun, e.sub ⟨rfl, rfl, rfl, rfl, trivial⟩, hs⟩
          · · refine At.block ?_
              refine At.seq (At.region (At.run 1 rfl ?_)); refine At.y (Y.load rfl rfl .z rfl rfl rfl) rfl rfl rfl ?_; refine At.run 1 rfl ?_; obtain ⟨h1276, hrun⟩ := bnone hrun; refine At.y (Y.ixRd hr0_3 rfl rfl rfl rfl rfl rfl rfl h1276.1 h1276.2) rfl rfl rfl ?_; refine At.y (Y.fa (RdS.some_ hr0_3 rfl h1276.1 h1276.2) rfl rfl rfl rfl rfl rfl) rfl rfl rfl ?_; refine At.y (Y.ldPrj api_Prop.prj_Name hr0_3 rfl rfl rfl h1276.1 h1276.2 rfl rfl) rfl rfl rfl ?_; refine At.run 2 rfl (At.nil (At.thn ?_)); rcases bite hrun with ⟨h1277, hrun⟩ | ⟨h1277, hrun⟩
              · · refine At.condT rfl h1277 ?_
                  refine At.seq (At.region (At.run 1 rfl (At.nil (At.thn ?_)))); refine At.block ?_; obtain ⟨G2083, hl2084, hr2085, hrun⟩ := bjoin hrun; obtain ⟨o2086, hlo2087, ho2088⟩ := bsome hrun; clear hrun; unfold bailiffref03_Holds.l1 at hlo2087; obtain ⟨m2089, hit2091⟩ := iter_some.1 hlo2087; clear hlo2087; refine At.loopJ (X := Int × Int) (Y := Int) (e0 := 2) (fun s_ => [(1, .string ⟨(a1).toArray⟩), (2, .pointer (some ⟨b253, 0, none⟩)), (5, .int .u64 s_.1), (6, .int .i64 x857), (7, .int .i64 s_.2)]) (fun s_ => pt b253 (.cells [.int .i64 a0_0, .slice A0_1 a0_1.length c0_1, .slice A0_2 a0_2.length c0_2, .slice A0_3 a0_3.length c0_3].toArray 26) :: Fr) (fun m_ => fun s_ => iterN (fun t_ : Int × Int => bailiffref03_Holds.l1b a0_3 x857 t_.1 t_.2) m_ (s_.1, s_.2) = some o2086) m2089 (x856, 0) hit2091 (fun x2082 => [(1, .string ⟨(a1).toArray⟩), (2, .pointer (some ⟨b253, 0, none⟩)), (5, .int .u64 x2082), (6, .int .i64 x857)]) (fun x2082 => pt b253 (.cells [.int .i64 a0_0, .slice A0_1 a0_1.length c0_1, .slice A0_2 a0_2.length c0_2, .slice A0_3 a0_3.length c0_3].toArray 26) :: Fr) (fun x2082 => G2083 (.inl x2082) = some o1062) (fun a w e hs => ⟨e.sub ⟨rfl, rfl, rfl, rfl, rfl, trivial⟩, (by exact hs)⟩) ?_ (fun J2093 => ?_)
                  · rintro x2082 hrun; have hrun := (hl2084 _).symm.trans hrun
                    · refine At.ibx ?_; refine At.ibn ?_; refine At.thn ?_; exact fun a w e hs => J1074 x2082 hrun a w (e.sub ⟨rfl, rfl, rfl, rfl, trivial⟩) hs
                  · clear hit2091 m2089; rintro m2089 ⟨x1880, x1881⟩ hit2091; obtain ⟨m2090, f_, hlt2092, hf_, hrun⟩ := bit hit2091; clear hit2091; have hrun : (bailiffref03_Holds.l1b a0_3 x857 x1880 x1881).bind _ = some o2086 := hrun; unfold bailiffref03_Holds.l1b at hrun
                    · refine At.seq (At.seq (At.region (At.run 2 rfl ?_))); refine At.y (Y.load rfl rfl .z rfl rfl rfl) rfl rfl rfl ?_; refine At.run 1 rfl ?_; refine At.y (Y.ixRd hr0_3 rfl rfl rfl rfl rfl rfl rfl h1276.1 h1276.2) rfl rfl rfl ?_; refine At.y (Y.fa (RdS.some_ hr0_3 rfl h1276.1 h1276.2) rfl rfl rfl rfl rfl rfl) rfl rfl rfl ?_; obtain ⟨A2094, c2095, hc2096, hr2097, hy2098⟩ := RdS.prjSl (P := Go.Proofs.Tryz.prog) api_Prop.prj_States hr0_3 (Sub.refl _) rfl h1276.1 h1276.2; refine At.y (hy2098 rfl rfl rfl rfl) rfl rfl rfl ?_; refine At.run 2 rfl (At.nil (At.thn ?_)); rcases bite hrun with ⟨h2099, hrun⟩ | ⟨h2099, hrun⟩
                      · · refine At.condT rfl (decide_eq_true h2099) ?_
                          refine At.skip (At.thn (At.seq ?_)); refine At.block ?_; refine At.region (At.run 2 rfl ?_); refine At.y (Y.load rfl rfl .z rfl rfl rfl) rfl rfl rfl ?_; refine At.run 1 rfl ?_; refine At.y (Y.ixRd hr0_3 rfl rfl rfl rfl rfl rfl rfl h1276.1 h1276.2) rfl rfl rfl ?_; refine At.y (Y.fa (RdS.some_ hr0_3 rfl h1276.1 h1276.2) rfl rfl rfl rfl rfl rfl) rfl rfl rfl ?_; obtain ⟨A2100, c2101, hc2102, hr2103, hy2104⟩ := RdS.prjSl (P := Go.Proofs.Tryz.prog) api_Prop.prj_States hr0_3 (Sub.refl _) rfl h1276.1 h1276.2; refine At.y (hy2104 rfl rfl rfl rfl) rfl rfl rfl ?_; refine At.run 1 rfl ?_; obtain ⟨h2105, hrun⟩ := bnone hrun; refine At.y (Y.ixRd hr2103 rfl rfl rfl rfl rfl rfl rfl h2105.1 h2105.2) rfl rfl rfl ?_; refine At.y (Y.ldFl hr2103 rfl (q := 0) rfl rfl h2105.1 h2105.2 rfl rfl rfl) rfl rfl rfl ?_; refine At.run 1 rfl ?_; obtain ⟨h2106, hrun⟩ := bnone hrun; refine At.y (Y.shl rfl rfl h2106) rfl rfl rfl ?_; refine At.run 2 rfl (At.nil ?_); refine At.ibn ?_; refine At.thn (At.region (At.run 3 rfl (At.nil ?_))); have hrun := bnx hf_ hrun; exact fun a w e hs => ⟨m2090, (bor .u64 x1880 (Bw.shl .u64 1 (IntKind.u64.wrap (gt ((gt a0_3 x857).States) x1881))), IntKind.i64.wrap (x1881 + 1)), hlt2092, hrun, e.sub ⟨rfl, rfl, rfl, rfl, rfl, trivial⟩, hs⟩
                      · · refine At.condF rfl (decide_eq_false h2099) ?_
                          refine At.exit ?_; refine At.the ?_; refine At.the ?_; exact fun a w e hs => J2093 x1880 (bdn hrun ho2088) a w (e.sub ⟨rfl, rfl, rfl, rfl, trivial⟩) hs
              · · refine At.condF rfl (bn h1277) ?_
                  refine At.skip ?_; refine At.ibn ?_; refine At.thn ?_; exact fun a w e hs => J1074 x856 hrun a w (e.sub ⟨rfl, rfl, rfl, rfl, trivial⟩) hs
      · · refine At.condF rfl (decide_eq_false h1070) ?_
          refine At.exit ?_; refine At.the ?_; refine At.the ?_; exact fun a w e hs => J1069 x856 (bdn hrun ho1064) a w (e.sub ⟨rfl, trivial⟩) hs

noncomputable def bailiffref03_by.f (a0_0 : Int) (a0_1 : List Bs) (a0_2 : List api_Edge) (a0_3 : List api_Prop) (a1_0 : Int) (a1_1 : Int) (a1_2 : Int) (a2 : Bs) : Option Bool :=
 jn (
 if bseq a2 ([45] : Bs) = true then
 some (.inl true)
 else
 if (0 : Int) ≤ a1_1 ∧ a1_1 < (a0_1.length : Int) then
 some (.inl (bseq (gt a0_1 a1_1) a2))
 else none) (fun (x456 : Bool) =>
 some x456)
theorem bailiffref03_by.callee : Callee Go.Proofs.Tryz.prog 39 := ⟨_, Go.Proofs.Tryz.func39, by kernel_rfl, by kernel_rfl⟩
set_option maxRecDepth 100000 in
set_option maxHeartbeats 2000000 in
theorem bailiffref03_by.spec (R : Res) (Fr : List HProp) (A0_1 : Option Addr) (n0_1 : Nat) (c0_1 : Nat) (A0_2 : Option Addr) (n0_2 : Nat) (c0_2 : Nat) (A0_3 : Option Addr) (n0_3 : Nat) (c0_3 : Nat) (a0_0 : Int) (a0_1 : List Bs) (a0_2 : List api_Edge) (a0_3 : List api_Prop) (a1_0 : Int) (a1_1 : Int) (a1_2 : Int) (a2 : Bs) (hr0_1 : RdS Fl.bs.rep R.heap A0_1 a0_1) (hn0_1 : a0_1.length = n0_1) (hc0_1 : n0_1 ≤ c0_1) (hr0_2 : RdS api_Edge.fl.rep R.heap A0_2 a0_2) (hn0_2 : a0_2.length = n0_2) (hc0_2 : n0_2 ≤ c0_2) (hr0_3 : RdS api_Prop.rep R.heap A0_3 a0_3) (hn0_3 : a0_3.length = n0_3) (hc0_3 : n0_3 ≤ c0_3) {r : Bool} (hrun : bailiffref03_by.f a0_0 a0_1 a0_2 a0_3 a1_0 a1_1 a1_2 a2 = some r) :
    Spec Go.Proofs.Tryz.prog 39 [.agg #[.int .i64 a0_0, .slice A0_1 n0_1 c0_1, .slice A0_2 n0_2 c0_2, .slice A0_3 n0_3 c0_3], .agg #[.int .i64 a1_0, .int .i64 a1_1, .int .i64 a1_2], .string ⟨(a2).toArray⟩] R (Fr) (fun v l' => v = .bool r ∧ Fr = l') := by
  subst hn0_1; subst hn0_2; subst hn0_3; refine Spec.of Go.Proofs.Tryz.func39 rfl rfl ?_; unfold bailiffref03_by.f at hrun
  have hrun := brun hrun; refine At.seq (At.region ?_); refine At.box rfl rfl (cs := [.int .i64 a0_0, .slice A0_1 a0_1.length c0_1, .slice A0_2 a0_2.length c0_2, .slice A0_3 a0_3.length c0_3]) rfl rfl (fun b254 => ?_); refine At.box rfl rfl (cs := [.int .i64 a1_0, .int .i64 a1_1, .int .i64 a1_2]) rfl rfl (fun b255 => ?_); refine At.run 1 rfl (At.nil (At.thn (At.seq (At.region (At.run 3 rfl ?_))))); obtain ⟨G457, hl458, hr459, hrun⟩ := bjoin hrun; refine At.joinO 9 (X := Bool) (fun x456 => [(18, .bool x456)]) (fun x456 => pt b255 (.cells [.int .i64 a1_0, .int .i64 a1_1, .int .i64 a1_2].toArray 54) :: pt b254 (.cells [.int .i64 a0_0, .slice A0_1 a0_1.length c0_1, .slice A0_2 a0_2.length c0_2, .slice A0_3 a0_3.length c0_3].toArray 26) :: Fr) (fun x456 => G457 (.inl x456) = some r) ?_ (fun J460 => ?_)
  · rintro x456 hrun; have hrun := (hl458 _).symm.trans hrun
    · refine At.run 1 rfl (At.nil (At.thn (At.ret (At.drop .z (At.drop .z ?_))))); obtain rfl := (bret hrun).symm; exact At.res (.inl rfl) rfl rfl ⟨rfl, rfl⟩
  · · rcases bite hrun with ⟨h461, hrun⟩ | ⟨h461, hrun⟩
      · · refine At.know (t := 9) rfl h461 ?_
          refine At.run 9 rfl ?_; exact At.of (J460 true hrun) ⟨rfl, trivial⟩
      · · refine At.know (t := 9) rfl (bn h461) ?_
          refine At.run 1 rfl ?_; refine At.y (Y.load rfl rfl (.s .z) rfl rfl rfl) rfl rfl rfl ?_; refine At.run 1 rfl ?_; refine At.y (Y.load rfl rfl .z rfl rfl rfl) rfl rfl rfl ?_; obtain ⟨h462, hrun⟩ := bnone hrun; refine At.y (Y.ixRd hr0_1 rfl rfl rfl rfl rfl rfl rfl h462.1 h462.2) rfl rfl rfl ?_; refine At.y (Y.ldFl hr0_1 rfl (q := 0) rfl rfl h462.1 h462.2 rfl rfl rfl) rfl rfl rfl ?_; refine At.run 3 rfl ?_; exact At.of (J460 (bseq (gt a0_1 a1_1) a2) hrun) ⟨rfl, trivial⟩

noncomputable def bailiffref03_Next.l0b (a0_0 : Int) (a0_1 : List Bs) (a0_2 : List api_Edge) (a0_3 : List api_Prop) (a1 : Int) (a2 : Bs) (x856 : Int) (x857 : Int) : Option ((Int × Int) ⊕ ((Int) ⊕ (Int))) :=
 if x857 < (a0_2.length : Int) then
 jn (
 if (0 : Int) ≤ x857 ∧ x857 < (a0_2.length : Int) then
 (bailiffref03_by.f a0_0 a0_1 a0_2 a0_3 ((gt a0_2 x857).From) ((gt a0_2 x857).Action) ((gt a0_2 x857).To) a2).bind fun t1277 =>
 jn (
 if t1277 = true then
 some (.inl (decide ((gt a0_2 x857).From = a1)))
 else
 some (.inl false)) (fun (x1479 : Bool) =>
 if x1479 = true then
 if (0 : Int) ≤ IntKind.u64.wrap ((gt a0_2 x857).To) then
 some (.inl (bor .u64 x856 (Bw.shl .u64 1 (IntKind.u64.wrap ((gt a0_2 x857).To)))))
 else none
 else
 some (.inl x856))
 else none) (fun (x1275 : Int) =>
 nx (x1275, IntKind.i64.wrap (x857 + 1)))
 else
 dn (.inl x856)
noncomputable def bailiffref03_Next.l0 (a0_0 : Int) (a0_1 : List Bs) (a0_2 : List api_Edge) (a0_3 : List api_Prop) (a1 : Int) (a2 : Bs) (x856 : Int) (x857 : Int) : Option ((Int) ⊕ (Int)) := iter (fun t_ : Int × Int => bailiffref03_Next.l0b a0_0 a0_1 a0_2 a0_3 a1 a2 t_.1 t_.2) (x856, x857)
noncomputable def bailiffref03_Next.f (a0_0 : Int) (a0_1 : List Bs) (a0_2 : List api_Edge) (a0_3 : List api_Prop) (a1 : Int) (a2 : Bs) : Option Int :=
 jn (bailiffref03_Next.l0 a0_0 a0_1 a0_2 a0_3 a1 a2 0 0) (fun (x1058 : Int) =>
 some x1058)
theorem bailiffref03_Next.callee : Callee Go.Proofs.Tryz.prog 15 := ⟨_, Go.Proofs.Tryz.func15, by kernel_rfl, by kernel_rfl⟩
set_option maxRecDepth 100000 in
set_option maxHeartbeats 2000000 in
theorem bailiffref03_Next.spec (R : Res) (Fr : List HProp) (A0_1 : Option Addr) (n0_1 : Nat) (c0_1 : Nat) (A0_2 : Option Addr) (n0_2 : Nat) (c0_2 : Nat) (A0_3 : Option Addr) (n0_3 : Nat) (c0_3 : Nat) (a0_0 : Int) (a0_1 : List Bs) (a0_2 : List api_Edge) (a0_3 : List api_Prop) (a1 : Int) (a2 : Bs) (hr0_1 : RdS Fl.bs.rep R.heap A0_1 a0_1) (hn0_1 : a0_1.length = n0_1) (hc0_1 : n0_1 ≤ c0_1) (hr0_2 : RdS api_Edge.fl.rep R.heap A0_2 a0_2) (hn0_2 : a0_2.length = n0_2) (hc0_2 : n0_2 ≤ c0_2) (hr0_3 : RdS api_Prop.rep R.heap A0_3 a0_3) (hn0_3 : a0_3.length = n0_3) (hc0_3 : n0_3 ≤ c0_3) {r : Int} (hrun : bailiffref03_Next.f a0_0 a0_1 a0_2 a0_3 a1 a2 = some r) :
    Spec Go.Proofs.Tryz.prog 15 [.agg #[.int .i64 a0_0, .slice A0_1 n0_1 c0_1, .slice A0_2 n0_2 c0_2, .slice A0_3 n0_3 c0_3], .int .i64 a1, .string ⟨(a2).toArray⟩] R (Fr) (fun v l' => v = .int .u64 r ∧ Fr = l') := by
  subst hn0_1; subst hn0_2; subst hn0_3; refine Spec.of Go.Proofs.Tryz.func15 rfl rfl ?_; unfold bailiffref03_Next.f at hrun; have hrun := brun hrun; refine At.seq (At.region ?_); refine At.box rfl rfl (cs := [.int .i64 a0_0, .slice A0_1 a0_1.length c0_1, .slice A0_2 a0_2.length c0_2, .slice A0_3 a0_3.length c0_3]) rfl rfl (fun b253 => ?_); refine At.run 1 rfl (At.nil (At.thn (At.seq (At.region (At.run 1 rfl (At.nil (At.thn ?_))))))); refine At.seq (At.seq (At.region (At.run 1 rfl (At.nil (At.thn ?_))))); refine At.block ?_; obtain ⟨G1059, hl1060, hr1061, hrun⟩ := bjoin hrun; obtain ⟨o1062, hlo1063, ho1064⟩ := bsome hrun; clear hrun; unfold bailiffref03_Next.l0 at hlo1063; obtain ⟨m1065, hit1067⟩ := iter_some.1 hlo1063; clear hlo1063; refine At.loopJ (X := Int × Int) (Y := Int) (e0 := 0) (fun s_ => [(1, .int .i64 a1), (2, .string ⟨(a2).toArray⟩), (3, .pointer (some ⟨b253, 0, none⟩)), (7, .int .u64 s_.1), (8, .int .i64 s_.2)]) (fun s_ => pt b253 (.cells [.int .i64 a0_0, .slice A0_1 a0_1.length c0_1, .slice A0_2 a0_2.length c0_2, .slice A0_3 a0_3.length c0_3].toArray 26) :: Fr) (fun m_ => fun s_ => iterN (fun t_ : Int × Int => bailiffref03_Next.l0b a0_0 a0_1 a0_2 a0_3 a1 a2 t_.1 t_.2) m_ (s_.1, s_.2) = some o1062) m1065 (0, 0) hit1067 (fun x1058 => [(7, .int .u64 x1058)]) (fun x1058 => pt b253 (.cells [.int .i64 a0_0, .slice A0_1 a0_1.length c0_1, .slice A0_2 a0_2.length c0_2, .slice A0_3 a0_3.length c0_3].toArray 26) :: Fr) (fun x1058 => G1059 (.inl x1058) = some r) (fun a w e hs => ⟨e.sub ⟨rfl, rfl, rfl, rfl, rfl, trivial⟩, (by exact hs)⟩) ?_ (fun J1069 => ?_)
  · rintro x1058 hrun; have hrun := (hl1060 _).symm.trans hrun
    · refine At.ibx ?_; refine At.thn (At.seq (At.region (At.run 2 rfl (At.nil (At.thn (At.ret (At.drop .z ?_))))))); obtain rfl := (bret hrun).symm; exact At.res (.inl rfl) rfl rfl ⟨rfl, rfl⟩
  · clear hit1067 m1065; rintro m1065 ⟨x856, x857⟩ hit1067; obtain ⟨m1066, f_, hlt1068, hf_, hrun⟩ := bit hit1067; clear hit1067; have hrun : (bailiffref03_Next.l0b a0_0 a0_1 a0_2 a0_3 a1 a2 x856 x857).bind _ = some o1062 := hrun; unfold bailiffref03_Next.l0b at hrun
    · refine At.seq (At.seq (At.region (At.run 2 rfl ?_))); refine At.y (Y.load rfl rfl .z rfl rfl rfl) rfl rfl rfl ?_; refine At.run 2 rfl (At.nil (At.thn ?_)); rcases bite hrun with ⟨h1070, hrun⟩ | ⟨h1070, hrun⟩
      · · refine At.condT rfl (decide_eq_true h1070) ?_
          refine At.skip (At.thn (At.seq ?_)); obtain ⟨G1071, hl1072, hr1073, hrun⟩ := bjoin hrun; refine At.join (X := Int) (fun x1275 => [(1, .int .i64 a1), (2, .string ⟨(a2).toArray⟩), (3, .pointer (some ⟨b253, 0, none⟩)), (7, .int .u64 x1275), (8, .int .i64 x857)]) (fun x1275 => pt b253 (.cells [.int .i64 a0_0, .slice A0_1 a0_1.length c0_1, .slice A0_2 a0_2.length c0_2, .slice A0_3 a0_3.length c0_3].toArray 26) :: Fr) (fun x1275 => G1071 (.inl x1275) = some o1062) ?_ (fun J1074 => ?_)
          · rintro x1275 hrun; have hrun := (hl1072 _).symm.trans hrun
            · refine At.region (At.run 3 rfl (At.nil ?_)); have hrun := bnx hf_ hrun; exact fun a w e hs => ⟨m1066, (x1275, IntKind.i64.wrap (x857 + 1)), hlt1068, hrun, e.sub ⟨rfl, rfl, rfl, rfl, rfl, trivial⟩, hs⟩
          · · refine At.block ?_
              refine At.seq ?_; refine At.quiet (by kernel_rfl) ?_; refine At.Quiet.y (Y.load rfl rfl .z rfl rfl rfl) rfl rfl rfl ?_; refine At.Quiet.run 1 rfl ?_; refine At.Quiet.y (Y.load rfl rfl .z rfl rfl rfl) rfl rfl rfl ?_; refine At.Quiet.run 1 rfl ?_; obtain ⟨h1276, hrun⟩ := bnone hrun; refine At.Quiet.y (Y.ixRd hr0_2 rfl rfl rfl rfl rfl rfl rfl h1276.1 h1276.2) rfl rfl rfl ?_; refine At.Quiet.y (Y.ldFl hr0_2 rfl (q := 0) rfl rfl h1276.1 h1276.2 rfl rfl rfl) rfl rfl rfl ?_; refine At.Quiet.run 1 rfl ?_; obtain ⟨t1277, hc1278, hrun⟩ := bbind hrun; refine At.Quiet.call rfl bailiffref03_by.callee rfl rfl rfl (bailiffref03_by.spec _ _ A0_1 a0_1.length c0_1 A0_2 a0_2.length c0_2 A0_3 a0_3.length c0_3 a0_0 a0_1 a0_2 a0_3 ((gt a0_2 x857).From) ((gt a0_2 x857).Action) ((gt a0_2 x857).To) a2 hr0_1 rfl hc0_1 hr0_2 rfl hc0_2 hr0_3 rfl hc0_3 hc1278) (fun _ _ h_ => ⟨h_.1, fun _ hs => h_.2 ▸ hs⟩) ?_
              refine At.Quiet.run 1 rfl ?_; refine At.Quiet.nil ?_; refine At.thn (At.seq (At.region (At.run 2 rfl ?_))); obtain ⟨G1480, hl1481, hr1482, hrun⟩ := bjoin hrun; refine At.joinO 9 (X := Bool) (fun x1479 => [(1, .int .i64 a1), (2, .string ⟨(a2).toArray⟩), (3, .pointer (some ⟨b253, 0, none⟩)), (7, .int .u64 x856), (8, .int .i64 x857), (35, .bool x1479)]) (fun x1479 => pt b253 (.cells [.int .i64 a0_0, .slice A0_1 a0_1.length c0_1, .slice A0_2 a0_2.length c0_2, .slice A0_3 a0_3.length c0_3].toArray 26) :: Fr) (fun x1479 => G1480 (.inl x1479) = some o1062) ?_ (fun J1483 => ?_)
              · rintro x1479 hrun; have hrun := (hl1481 _).symm.trans hrun
                · refine At.nil (At.thn ?_); rcases bite hrun with ⟨h1484, hrun⟩ | ⟨h1484, hrun⟩
                  · · refine At.condT rfl h1484 ?_
                      refine At.region (At.run 2 rfl ?_); refine At.y (Y.load rfl rfl .z rfl rfl rfl) rfl rfl rfl ?_; refine At.run 1 rfl ?_; refine At.y (Y.ixRd hr0_2 rfl rfl rfl rfl rfl rfl rfl h1276.1 h1276.2) rfl rfl rfl ?_; refine At.y (Y.fa (RdS.some_ hr0_2 rfl h1276.1 h1276.2) rfl rfl rfl rfl rfl rfl) rfl rfl rfl ?_; refine At.y (Y.ldFl hr0_2 rfl (q := 2) rfl rfl h1276.1 h1276.2 rfl rfl rfl) rfl rfl rfl ?_; refine At.run 1 rfl ?_; obtain ⟨h1485, hrun⟩ := bnone hrun; refine At.y (Y.shl rfl rfl h1485) rfl rfl rfl ?_; refine At.run 2 rfl (At.nil ?_); refine At.ibn ?_; refine At.thn ?_; exact fun a w e hs => J1074 (bor .u64 x856 (Bw.shl .u64 1 (IntKind.u64.wrap ((gt a0_2 x857).To)))) hrun a w (e.sub ⟨rfl, rfl, rfl, rfl, rfl, trivial⟩) hs
                  · · refine At.condF rfl (bn h1484) ?_
                      refine At.skip ?_; refine At.ibn ?_; refine At.thn ?_; exact fun a w e hs => J1074 x856 hrun a w (e.sub ⟨rfl, rfl, rfl, rfl, rfl, trivial⟩) hs
              · · rcases bite hrun with ⟨h1486, hrun⟩ | ⟨h1486, hrun⟩
                  · · refine At.know (t := 26) rfl h1486 ?_
                      refine At.run 1 rfl ?_; refine At.y (Y.load rfl rfl .z rfl rfl rfl) rfl rfl rfl ?_; refine At.run 1 rfl ?_; refine At.y (Y.ixRd hr0_2 rfl rfl rfl rfl rfl rfl rfl h1276.1 h1276.2) rfl rfl rfl ?_; refine At.y (Y.fa (RdS.some_ hr0_2 rfl h1276.1 h1276.2) rfl rfl rfl rfl rfl rfl) rfl rfl rfl ?_; refine At.y (Y.ldFl hr0_2 rfl (q := 0) rfl rfl h1276.1 h1276.2 rfl rfl rfl) rfl rfl rfl ?_; refine At.run 3 rfl ?_; exact At.of (J1483 (decide ((gt a0_2 x857).From = a1)) hrun) ⟨rfl, rfl, rfl, rfl, rfl, rfl, trivial⟩
                  · · refine At.know (t := 26) rfl (bn h1486) ?_
                      refine At.run 9 rfl ?_; exact At.of (J1483 false hrun) ⟨rfl, rfl, rfl, rfl, rfl, rfl, trivial⟩
      · · refine At.condF rfl (decide_eq_false h1070) ?_
          refine At.exit ?_; refine At.the ?_; refine At.the ?_; exact fun a w e hs => J1069 x856 (bdn hrun ho1064) a w (e.sub ⟨rfl, trivial⟩) hs

noncomputable def bailiffref03_Back.l0b (a0_0 : Int) (a0_1 : List Bs) (a0_2 : List api_Edge) (a0_3 : List api_Prop) (a1 : Int) (a2 : Bs) (x856 : Int) (x857 : Int) : Option ((Int × Int) ⊕ ((Int) ⊕ (Int))) :=
 if x857 < (a0_2.length : Int) then
 jn (
 if (0 : Int) ≤ x857 ∧ x857 < (a0_2.length : Int) then
 (bailiffref03_by.f a0_0 a0_1 a0_2 a0_3 ((gt a0_2 x857).From) ((gt a0_2 x857).Action) ((gt a0_2 x857).To) a2).bind fun t1277 =>
 jn (
 if t1277 = true then
 if (0 : Int) ≤ IntKind.u64.wrap ((gt a0_2 x857).To) then
 some (.inl (decide (band .u64 (Bw.shr .u64 a1 (IntKind.u64.wrap ((gt a0_2 x857).To))) 1 = 1)))
 else none
 else
 some (.inl false)) (fun (x1479 : Bool) =>
 if x1479 = true then
 if (0 : Int) ≤ IntKind.u64.wrap ((gt a0_2 x857).From) then
 some (.inl (bor .u64 x856 (Bw.shl .u64 1 (IntKind.u64.wrap ((gt a0_2 x857).From)))))
 else none
 else
 some (.inl x856))
 else none) (fun (x1275 : Int) =>
 nx (x1275, IntKind.i64.wrap (x857 + 1)))
 else
 dn (.inl x856)
noncomputable def bailiffref03_Back.l0 (a0_0 : Int) (a0_1 : List Bs) (a0_2 : List api_Edge) (a0_3 : List api_Prop) (a1 : Int) (a2 : Bs) (x856 : Int) (x857 : Int) : Option ((Int) ⊕ (Int)) := iter (fun t_ : Int × Int => bailiffref03_Back.l0b a0_0 a0_1 a0_2 a0_3 a1 a2 t_.1 t_.2) (x856, x857)
noncomputable def bailiffref03_Back.f (a0_0 : Int) (a0_1 : List Bs) (a0_2 : List api_Edge) (a0_3 : List api_Prop) (a1 : Int) (a2 : Bs) : Option Int :=
 jn (bailiffref03_Back.l0 a0_0 a0_1 a0_2 a0_3 a1 a2 0 0) (fun (x1058 : Int) =>
 some x1058)
theorem bailiffref03_Back.callee : Callee Go.Proofs.Tryz.prog 17 := ⟨_, Go.Proofs.Tryz.func17, by kernel_rfl, by kernel_rfl⟩
set_option maxRecDepth 100000 in
set_option maxHeartbeats 2000000 in
theorem bailiffref03_Back.spec (R : Res) (Fr : List HProp) (A0_1 : Option Addr) (n0_1 : Nat) (c0_1 : Nat) (A0_2 : Option Addr) (n0_2 : Nat) (c0_2 : Nat) (A0_3 : Option Addr) (n0_3 : Nat) (c0_3 : Nat) (a0_0 : Int) (a0_1 : List Bs) (a0_2 : List api_Edge) (a0_3 : List api_Prop) (a1 : Int) (a2 : Bs) (hr0_1 : RdS Fl.bs.rep R.heap A0_1 a0_1) (hn0_1 : a0_1.length = n0_1) (hc0_1 : n0_1 ≤ c0_1) (hr0_2 : RdS api_Edge.fl.rep R.heap A0_2 a0_2) (hn0_2 : a0_2.length = n0_2) (hc0_2 : n0_2 ≤ c0_2) (hr0_3 : RdS api_Prop.rep R.heap A0_3 a0_3) (hn0_3 : a0_3.length = n0_3) (hc0_3 : n0_3 ≤ c0_3) {r : Int} (hrun : bailiffref03_Back.f a0_0 a0_1 a0_2 a0_3 a1 a2 = some r) :
    Spec Go.Proofs.Tryz.prog 17 [.agg #[.int .i64 a0_0, .slice A0_1 n0_1 c0_1, .slice A0_2 n0_2 c0_2, .slice A0_3 n0_3 c0_3], .int .u64 a1, .string ⟨(a2).toArray⟩] R (Fr) (fun v l' => v = .int .u64 r ∧ Fr = l') := by
  subst hn0_1; subst hn0_2; subst hn0_3; refine Spec.of Go.Proofs.Tryz.func17 rfl rfl ?_; unfold bailiffref03_Back.f at hrun; have hrun := brun hrun; refine At.seq (At.region ?_); refine At.box rfl rfl (cs := [.int .i64 a0_0, .slice A0_1 a0_1.length c0_1, .slice A0_2 a0_2.length c0_2, .slice A0_3 a0_3.length c0_3]) rfl rfl (fun b253 => ?_); refine At.run 1 rfl (At.nil (At.thn (At.seq (At.region (At.run 1 rfl (At.nil (At.thn ?_))))))); refine At.seq (At.seq (At.region (At.run 1 rfl (At.nil (At.thn ?_))))); refine At.block ?_; obtain ⟨G1059, hl1060, hr1061, hrun⟩ := bjoin hrun; obtain ⟨o1062, hlo1063, ho1064⟩ := bsome hrun; clear hrun; unfold bailiffref03_Back.l0 at hlo1063; obtain ⟨m1065, hit1067⟩ := iter_some.1 hlo1063; clear hlo1063; refine At.loopJ (X := Int × Int) (Y := Int) (e0 := 0) (fun s_ => [(1, .int .u64 a1), (2, .string ⟨(a2).toArray⟩), (3, .pointer (some ⟨b253, 0, none⟩)), (7, .int .u64 s_.1), (8, .int .i64 s_.2)]) (fun s_ => pt b253 (.cells [.int .i64 a0_0, .slice A0_1 a0_1.length c0_1, .slice A0_2 a0_2.length c0_2, .slice A0_3 a0_3.length c0_3].toArray 26) :: Fr) (fun m_ => fun s_ => iterN (fun t_ : Int × Int => bailiffref03_Back.l0b a0_0 a0_1 a0_2 a0_3 a1 a2 t_.1 t_.2) m_ (s_.1, s_.2) = some o1062) m1065 (0, 0) hit1067 (fun x1058 => [(7, .int .u64 x1058)]) (fun x1058 => pt b253 (.cells [.int .i64 a0_0, .slice A0_1 a0_1.length c0_1, .slice A0_2 a0_2.length c0_2, .slice A0_3 a0_3.length c0_3].toArray 26) :: Fr) (fun x1058 => G1059 (.inl x1058) = some r) (fun a w e hs => ⟨e.sub ⟨rfl, rfl, rfl, rfl, rfl, trivial⟩, (by exact hs)⟩) ?_ (fun J1069 => ?_)
  · rintro x1058 hrun; have hrun := (hl1060 _).symm.trans hrun
    · refine At.ibx ?_; refine At.thn (At.seq (At.region (At.run 2 rfl (At.nil (At.thn (At.ret (At.drop .z ?_))))))); obtain rfl := (bret hrun).symm; exact At.res (.inl rfl) rfl rfl ⟨rfl, rfl⟩
  · clear hit1067 m1065; rintro m1065 ⟨x856, x857⟩ hit1067; obtain ⟨m1066, f_, hlt1068, hf_, hrun⟩ := bit hit1067; clear hit1067; have hrun : (bailiffref03_Back.l0b a0_0 a0_1 a0_2 a0_3 a1 a2 x856 x857).bind _ = some o1062 := hrun; unfold bailiffref03_Back.l0b at hrun
    · refine At.seq (At.seq (At.region (At.run 2 rfl ?_))); refine At.y (Y.load rfl rfl .z rfl rfl rfl) rfl rfl rfl ?_; refine At.run 2 rfl (At.nil (At.thn ?_)); rcases bite hrun with ⟨h1070, hrun⟩ | ⟨h1070, hrun⟩
      · · refine At.condT rfl (decide_eq_true h1070) ?_
          refine At.skip (At.thn (At.seq ?_)); obtain ⟨G1071, hl1072, hr1073, hrun⟩ := bjoin hrun; refine At.join (X := Int) (fun x1275 => [(1, .int .u64 a1), (2, .string ⟨(a2).toArray⟩), (3, .pointer (some ⟨b253, 0, none⟩)), (7, .int .u64 x1275), (8, .int .i64 x857)]) (fun x1275 => pt b253 (.cells [.int .i64 a0_0, .slice A0_1 a0_1.length c0_1, .slice A0_2 a0_2.length c0_2, .slice A0_3 a0_3.length c0_3].toArray 26) :: Fr) (fun x1275 => G1071 (.inl x1275) = some o1062) ?_ (fun J1074 => ?_)
          · rintro x1275 hrun; have hrun := (hl1072 _).symm.trans hrun
            · refine At.region (At.run 3 rfl (At.nil ?_)); have hrun := bnx hf_ hrun; exact fun a w e hs => ⟨m1066, (x1275, IntKind.i64.wrap (x857 + 1)), hlt1068, hrun, e.sub ⟨rfl, rfl, rfl, rfl, rfl, trivial⟩, hs⟩
          · · refine At.block ?_
              refine At.seq ?_; refine At.quiet (by kernel_rfl) ?_; refine At.Quiet.y (Y.load rfl rfl .z rfl rfl rfl) rfl rfl rfl ?_; refine At.Quiet.run 1 rfl ?_; refine At.Quiet.y (Y.load rfl rfl .z rfl rfl rfl) rfl rfl rfl ?_; refine At.Quiet.run 1 rfl ?_; obtain ⟨h1276, hrun⟩ := bnone hrun; refine At.Quiet.y (Y.ixRd hr0_2 rfl rfl rfl rfl rfl rfl rfl h1276.1 h1276.2) rfl rfl rfl ?_; refine At.Quiet.y (Y.ldFl hr0_2 rfl (q := 0) rfl rfl h1276.1 h1276.2 rfl rfl rfl) rfl rfl rfl ?_; refine At.Quiet.run 1 rfl ?_; obtain ⟨t1277, hc1278, hrun⟩ := bbind hrun; refine At.Quiet.call rfl bailiffref03_by.callee rfl rfl rfl (bailiffref03_by.spec _ _ A0_1 a0_1.length c0_1 A0_2 a0_2.length c0_2 A0_3 a0_3.length c0_3 a0_0 a0_1 a0_2 a0_3 ((gt a0_2 x857).From) ((gt a0_2 x857).Action) ((gt a0_2 x857).To) a2 hr0_1 rfl hc0_1 hr0_2 rfl hc0_2 hr0_3 rfl hc0_3 hc1278) (fun _ _ h_ => ⟨h_.1, fun _ hs => h_.2 ▸ hs⟩) ?_
              refine At.Quiet.run 1 rfl ?_; refine At.Quiet.nil ?_; refine At.thn (At.seq (At.region (At.run 2 rfl ?_))); obtain ⟨G1480, hl1481, hr1482, hrun⟩ := bjoin hrun; refine At.joinO 12 (X := Bool) (fun x1479 => [(1, .int .u64 a1), (2, .string ⟨(a2).toArray⟩), (3, .pointer (some ⟨b253, 0, none⟩)), (7, .int .u64 x856), (8, .int .i64 x857), (38, .bool x1479)]) (fun x1479 => pt b253 (.cells [.int .i64 a0_0, .slice A0_1 a0_1.length c0_1, .slice A0_2 a0_2.length c0_2, .slice A0_3 a0_3.length c0_3].toArray 26) :: Fr) (fun x1479 => G1480 (.inl x1479) = some o1062) ?_ (fun J1483 => ?_)
              · rintro x1479 hrun; have hrun := (hl1481 _).symm.trans hrun
                · refine At.nil (At.thn ?_); rcases bite hrun with ⟨h1484, hrun⟩ | ⟨h1484, hrun⟩
                  · · refine At.condT rfl h1484 ?_
                      refine At.region (At.run 2 rfl ?_); refine At.y (Y.load rfl rfl .z rfl rfl rfl) rfl rfl rfl ?_; refine At.run 1 rfl ?_; refine At.y (Y.ixRd hr0_2 rfl rfl rfl rfl rfl rfl rfl h1276.1 h1276.2) rfl rfl rfl ?_; refine At.y (Y.fa (RdS.some_ hr0_2 rfl h1276.1 h1276.2) rfl rfl rfl rfl rfl rfl) rfl rfl rfl ?_; refine At.y (Y.ldFl hr0_2 rfl (q := 0) rfl rfl h1276.1 h1276.2 rfl rfl rfl) rfl rfl rfl ?_; refine At.run 1 rfl ?_; obtain ⟨h1485, hrun⟩ := bnone hrun; refine At.y (Y.shl rfl rfl h1485) rfl rfl rfl ?_; refine At.run 2 rfl (At.nil ?_); refine At.ibn ?_; refine At.thn ?_; exact fun a w e hs => J1074 (bor .u64 x856 (Bw.shl .u64 1 (IntKind.u64.wrap ((gt a0_2 x857).From)))) hrun a w (e.sub ⟨rfl, rfl, rfl, rfl, rfl, trivial⟩) hs
                  · · refine At.condF rfl (bn h1484) ?_
                      refine At.skip ?_; refine At.ibn ?_; refine At.thn ?_; exact fun a w e hs => J1074 x856 hrun a w (e.sub ⟨rfl, rfl, rfl, rfl, rfl, trivial⟩) hs
              · · rcases bite hrun with ⟨h1486, hrun⟩ | ⟨h1486, hrun⟩
                  · · refine At.know (t := 26) rfl h1486 ?_
                      refine At.run 2 rfl ?_; refine At.y (Y.load rfl rfl .z rfl rfl rfl) rfl rfl rfl ?_; refine At.run 1 rfl ?_; refine At.y (Y.ixRd hr0_2 rfl rfl rfl rfl rfl rfl rfl h1276.1 h1276.2) rfl rfl rfl ?_; refine At.y (Y.fa (RdS.some_ hr0_2 rfl h1276.1 h1276.2) rfl rfl rfl rfl rfl rfl) rfl rfl rfl ?_; refine At.y (Y.ldFl hr0_2 rfl (q := 2) rfl rfl h1276.1 h1276.2 rfl rfl rfl) rfl rfl rfl ?_; refine At.run 1 rfl ?_; obtain ⟨h1487, hrun⟩ := bnone hrun; refine At.y (Y.shr rfl rfl h1487) rfl rfl rfl ?_; refine At.run 3 rfl ?_; exact At.of (J1483 (decide (band .u64 (Bw.shr .u64 a1 (IntKind.u64.wrap ((gt a0_2 x857).To))) 1 = 1)) hrun) ⟨rfl, rfl, rfl, rfl, rfl, rfl, trivial⟩
                  · · refine At.know (t := 26) rfl (bn h1486) ?_
                      refine At.run 12 rfl ?_; exact At.of (J1483 false hrun) ⟨rfl, rfl, rfl, rfl, rfl, rfl, trivial⟩
      · · refine At.condF rfl (decide_eq_false h1070) ?_
          refine At.exit ?_; refine At.the ?_; refine At.the ?_; exact fun a w e hs => J1069 x856 (bdn hrun ho1064) a w (e.sub ⟨rfl, trivial⟩) hs

end Go.Bw
namespace Go.Proofs
open Go.Shelf
def Tryz.sort68_ren : Go.Shelf.Ren := ⟨fun | 53 => 68 | 64 => 83 | 63 => 82 | 78 => 98 | 79 => 99 | 70 => 89 | 71 => 90 | 72 => 91 | 73 => 92 | 74 => 93 | 75 => 94 | 59 => 95 | 76 => 96 | 77 => 97 | 88 => 125 | 89 => 126 | 90 => 127 | 91 => 128 | 92 => 129 | 68 => 51 | 96 => 140 | n => n, fun | 22 => 55 | 23 => 3 | 3 => 3 | 51 => 47 | 0 => 0 | 67 => 146 | 69 => 34 | 4 => 4 | 61 => 139 | 60 => 138 | 44 => 126 | 5 => 5 | 9 => 9 | 75 => 164 | 79 => 168 | 83 => 176 | 84 => 177 | n => n, fun | n => n⟩
theorem Tryz.sort68 : Go.Proofs.SlLaysN.n53 Tryz.prog Tryz.sort68_ren := {
  mixed := by kernel_rfl
  f53 := ⟨Tryz.f68.name, by decide, Tryz.func68.trans (congrArg some (by kernel_rfl))⟩
  f59 := ⟨Tryz.f95.name, by decide, Tryz.func95.trans (congrArg some (by kernel_rfl))⟩
  f63 := ⟨Tryz.f82.name, by decide, Tryz.func82.trans (congrArg some (by kernel_rfl))⟩
  f64 := Tryz.func83.trans (congrArg some (by kernel_rfl))
  f68 := ⟨Tryz.f51.name, by decide, Tryz.func51.trans (congrArg some (by kernel_rfl))⟩
  f70 := ⟨Tryz.f89.name, by decide, Tryz.func89.trans (congrArg some (by kernel_rfl))⟩
  f71 := ⟨Tryz.f90.name, by decide, Tryz.func90.trans (congrArg some (by kernel_rfl))⟩
  f72 := ⟨Tryz.f91.name, by decide, Tryz.func91.trans (congrArg some (by kernel_rfl))⟩
  f73 := ⟨Tryz.f92.name, by decide, Tryz.func92.trans (congrArg some (by kernel_rfl))⟩
  f74 := ⟨Tryz.f93.name, by decide, Tryz.func93.trans (congrArg some (by kernel_rfl))⟩
  f75 := ⟨Tryz.f94.name, by decide, Tryz.func94.trans (congrArg some (by kernel_rfl))⟩
  f76 := ⟨Tryz.f96.name, by decide, Tryz.func96.trans (congrArg some (by kernel_rfl))⟩
  f77 := ⟨Tryz.f97.name, by decide, Tryz.func97.trans (congrArg some (by kernel_rfl))⟩
  f78 := Tryz.func98.trans (congrArg some (by kernel_rfl))
  f79 := Tryz.func99.trans (congrArg some (by kernel_rfl))
  f88 := ⟨Tryz.f125.name, by decide, Tryz.func125.trans (congrArg some (by kernel_rfl))⟩
  f89 := Tryz.func126.trans (congrArg some (by kernel_rfl))
  f90 := Tryz.func127.trans (congrArg some (by kernel_rfl))
  f91 := ⟨Tryz.f128.name, by decide, Tryz.func128.trans (congrArg some (by kernel_rfl))⟩
  f92 := ⟨Tryz.f129.name, by decide, Tryz.func129.trans (congrArg some (by kernel_rfl))⟩
  f96 := ⟨Tryz.f140.name, by decide, Tryz.func140.trans (congrArg some (by kernel_rfl))⟩
  t0 := Tryz.underlying0
  a0 := Tryz.isAgg0
  z0 := Tryz.sizeOf0
  v0 := Tryz.zeroValue0
  t3 := Tryz.underlying3
  a3 := Tryz.isAgg3
  z3 := Tryz.sizeOf3
  v3 := Tryz.zeroValue3
  t4 := Tryz.underlying4
  a4 := Tryz.isAgg4
  z4 := Tryz.sizeOf4
  v4 := Tryz.zeroValue4
  t5 := Tryz.underlying5
  a5 := Tryz.isAgg5
  z5 := Tryz.sizeOf5
  v5 := Tryz.zeroValue5
  t9 := Tryz.underlying9
  a9 := Tryz.isAgg9
  z9 := Tryz.sizeOf9
  v9 := Tryz.zeroValue9
  t22 := Tryz.underlying55
  a22 := Tryz.isAgg55
  z22 := Tryz.sizeOf55
  v22 := Tryz.zeroValue55
  t23 := Tryz.underlying3
  a23 := Tryz.isAgg3
  z23 := Tryz.sizeOf3
  v23 := Tryz.zeroValue3
  t44 := Tryz.underlying126
  a44 := Tryz.isAgg126
  z44 := Tryz.sizeOf126
  v44 := Tryz.zeroValue126
  t51 := Tryz.underlying47
  a51 := Tryz.isAgg47
  z51 := Tryz.sizeOf47
  v51 := Tryz.zeroValue47
  t60 := Tryz.underlying138
  a60 := Tryz.isAgg138
  z60 := Tryz.sizeOf138
  v60 := Tryz.zeroValue138
  t61 := Tryz.underlying139
  a61 := Tryz.isAgg139
  z61 := Tryz.sizeOf139
  v61 := Tryz.zeroValue139
  t67 := Tryz.underlying146
  a67 := Tryz.isAgg146
  z67 := Tryz.sizeOf146
  v67 := Tryz.zeroValue146
  t69 := Tryz.underlying34
  a69 := Tryz.isAgg34
  z69 := Tryz.sizeOf34
  v69 := Tryz.zeroValue34
  t75 := Tryz.underlying164
  a75 := Tryz.isAgg164
  z75 := Tryz.sizeOf164
  v75 := Tryz.zeroValue164
  t79 := Tryz.underlying168
  a79 := Tryz.isAgg168
  z79 := Tryz.sizeOf168
  v79 := Tryz.zeroValue168
  t83 := Tryz.underlying176
  a83 := Tryz.isAgg176
  z83 := Tryz.sizeOf176
  v83 := Tryz.zeroValue176
  t84 := Tryz.underlying177
  a84 := Tryz.isAgg177
  z84 := Tryz.sizeOf177
  v84 := Tryz.zeroValue177 }
def Tryz.sort69_ren : Go.Shelf.Ren := ⟨fun | 54 => 69 | 64 => 83 | 65 => 84 | 78 => 98 | 79 => 99 | 80 => 100 | 81 => 101 | 82 => 102 | 83 => 103 | 84 => 104 | 85 => 105 | 61 => 106 | 86 => 107 | 87 => 108 | 93 => 130 | 89 => 126 | 90 => 127 | 94 => 131 | 95 => 132 | 69 => 133 | 97 => 141 | n => n, fun | 25 => 22 | 26 => 9 | 3 => 3 | 51 => 47 | 0 => 0 | 67 => 146 | 69 => 34 | 4 => 4 | 61 => 139 | 60 => 138 | 44 => 126 | 5 => 5 | 9 => 9 | 75 => 164 | 79 => 168 | 83 => 176 | 84 => 177 | n => n, fun | n => n⟩
theorem Tryz.sort69 : Go.Proofs.SlLaysN.n54 Tryz.prog Tryz.sort69_ren := {
  mixed := by kernel_rfl
  f54 := ⟨Tryz.f69.name, by decide, Tryz.func69.trans (congrArg some (by kernel_rfl))⟩
  f61 := ⟨Tryz.f106.name, by decide, Tryz.func106.trans (congrArg some (by kernel_rfl))⟩
  f64 := Tryz.func83.trans (congrArg some (by kernel_rfl))
  f65 := ⟨Tryz.f84.name, by decide, Tryz.func84.trans (congrArg some (by kernel_rfl))⟩
  f69 := ⟨Tryz.f133.name, by decide, Tryz.func133.trans (congrArg some (by kernel_rfl))⟩
  f78 := Tryz.func98.trans (congrArg some (by kernel_rfl))
  f79 := Tryz.func99.trans (congrArg some (by kernel_rfl))
  f80 := ⟨Tryz.f100.name, by decide, Tryz.func100.trans (congrArg some (by kernel_rfl))⟩
  f81 := ⟨Tryz.f101.name, by decide, Tryz.func101.trans (congrArg some (by kernel_rfl))⟩
  f82 := ⟨Tryz.f102.name, by decide, Tryz.func102.trans (congrArg some (by kernel_rfl))⟩
  f83 := ⟨Tryz.f103.name, by decide, Tryz.func103.trans (congrArg some (by kernel_rfl))⟩
  f84 := ⟨Tryz.f104.name, by decide, Tryz.func104.trans (congrArg some (by kernel_rfl))⟩
  f85 := ⟨Tryz.f105.name, by decide, Tryz.func105.trans (congrArg some (by kernel_rfl))⟩
  f86 := ⟨Tryz.f107.name, by decide, Tryz.func107.trans (congrArg some (by kernel_rfl))⟩
  f87 := ⟨Tryz.f108.name, by decide, Tryz.func108.trans (congrArg some (by kernel_rfl))⟩
  f89 := Tryz.func126.trans (congrArg some (by kernel_rfl))
  f90 := Tryz.func127.trans (congrArg some (by kernel_rfl))
  f93 := ⟨Tryz.f130.name, by decide, Tryz.func130.trans (congrArg some (by kernel_rfl))⟩
  f94 := ⟨Tryz.f131.name, by decide, Tryz.func131.trans (congrArg some (by kernel_rfl))⟩
  f95 := ⟨Tryz.f132.name, by decide, Tryz.func132.trans (congrArg some (by kernel_rfl))⟩
  f97 := ⟨Tryz.f141.name, by decide, Tryz.func141.trans (congrArg some (by kernel_rfl))⟩
  t0 := Tryz.underlying0
  a0 := Tryz.isAgg0
  z0 := Tryz.sizeOf0
  v0 := Tryz.zeroValue0
  t3 := Tryz.underlying3
  a3 := Tryz.isAgg3
  z3 := Tryz.sizeOf3
  v3 := Tryz.zeroValue3
  t4 := Tryz.underlying4
  a4 := Tryz.isAgg4
  z4 := Tryz.sizeOf4
  v4 := Tryz.zeroValue4
  t5 := Tryz.underlying5
  a5 := Tryz.isAgg5
  z5 := Tryz.sizeOf5
  v5 := Tryz.zeroValue5
  t9 := Tryz.underlying9
  a9 := Tryz.isAgg9
  z9 := Tryz.sizeOf9
  v9 := Tryz.zeroValue9
  t25 := Tryz.underlying22
  a25 := Tryz.isAgg22
  z25 := Tryz.sizeOf22
  v25 := Tryz.zeroValue22
  t26 := Tryz.underlying9
  a26 := Tryz.isAgg9
  z26 := Tryz.sizeOf9
  v26 := Tryz.zeroValue9
  t44 := Tryz.underlying126
  a44 := Tryz.isAgg126
  z44 := Tryz.sizeOf126
  v44 := Tryz.zeroValue126
  t51 := Tryz.underlying47
  a51 := Tryz.isAgg47
  z51 := Tryz.sizeOf47
  v51 := Tryz.zeroValue47
  t60 := Tryz.underlying138
  a60 := Tryz.isAgg138
  z60 := Tryz.sizeOf138
  v60 := Tryz.zeroValue138
  t61 := Tryz.underlying139
  a61 := Tryz.isAgg139
  z61 := Tryz.sizeOf139
  v61 := Tryz.zeroValue139
  t67 := Tryz.underlying146
  a67 := Tryz.isAgg146
  z67 := Tryz.sizeOf146
  v67 := Tryz.zeroValue146
  t69 := Tryz.underlying34
  a69 := Tryz.isAgg34
  z69 := Tryz.sizeOf34
  v69 := Tryz.zeroValue34
  t75 := Tryz.underlying164
  a75 := Tryz.isAgg164
  z75 := Tryz.sizeOf164
  v75 := Tryz.zeroValue164
  t79 := Tryz.underlying168
  a79 := Tryz.isAgg168
  z79 := Tryz.sizeOf168
  v79 := Tryz.zeroValue168
  t83 := Tryz.underlying176
  a83 := Tryz.isAgg176
  z83 := Tryz.sizeOf176
  v83 := Tryz.zeroValue176
  t84 := Tryz.underlying177
  a84 := Tryz.isAgg177
  z84 := Tryz.sizeOf177
  v84 := Tryz.zeroValue177 }
def Tryz.sort71_ren : Go.Shelf.Ren := ⟨fun | 6 => 71 | 15 => 83 | 14 => 85 | 28 => 98 | 29 => 99 | 20 => 109 | 21 => 110 | 22 => 111 | 23 => 112 | 24 => 113 | 25 => 114 | 26 => 115 | 27 => 116 | 46 => 134 | 47 => 126 | 48 => 127 | 49 => 135 | 50 => 136 | 57 => 142 | n => n, fun | 22 => 23 | 24 => 54 | 25 => 65 | 3 => 3 | 39 => 47 | 0 => 0 | 53 => 146 | 55 => 34 | 4 => 4 | 46 => 139 | 45 => 138 | 50 => 126 | 5 => 5 | 9 => 9 | 66 => 164 | 70 => 168 | 76 => 176 | 77 => 177 | n => n, fun | n => n⟩
theorem Tryz.sort71 : Go.Proofs.SlLaysF0.n6 Tryz.prog Tryz.sort71_ren := {
  mixed := by kernel_rfl
  f6 := ⟨Tryz.f71.name, by decide, Tryz.func71.trans (congrArg some (by kernel_rfl))⟩
  f14 := ⟨Tryz.f85.name, by decide, Tryz.func85.trans (congrArg some (by kernel_rfl))⟩
  f15 := Tryz.func83.trans (congrArg some (by kernel_rfl))
  f20 := ⟨Tryz.f109.name, by decide, Tryz.func109.trans (congrArg some (by kernel_rfl))⟩
  f21 := ⟨Tryz.f110.name, by decide, Tryz.func110.trans (congrArg some (by kernel_rfl))⟩
  f22 := ⟨Tryz.f111.name, by decide, Tryz.func111.trans (congrArg some (by kernel_rfl))⟩
  f23 := ⟨Tryz.f112.name, by decide, Tryz.func112.trans (congrArg some (by kernel_rfl))⟩
  f24 := ⟨Tryz.f113.name, by decide, Tryz.func113.trans (congrArg some (by kernel_rfl))⟩
  f25 := ⟨Tryz.f114.name, by decide, Tryz.func114.trans (congrArg some (by kernel_rfl))⟩
  f26 := ⟨Tryz.f115.name, by decide, Tryz.func115.trans (congrArg some (by kernel_rfl))⟩
  f27 := ⟨Tryz.f116.name, by decide, Tryz.func116.trans (congrArg some (by kernel_rfl))⟩
  f28 := Tryz.func98.trans (congrArg some (by kernel_rfl))
  f29 := Tryz.func99.trans (congrArg some (by kernel_rfl))
  f46 := ⟨Tryz.f134.name, by decide, Tryz.func134.trans (congrArg some (by kernel_rfl))⟩
  f47 := Tryz.func126.trans (congrArg some (by kernel_rfl))
  f48 := Tryz.func127.trans (congrArg some (by kernel_rfl))
  f49 := ⟨Tryz.f135.name, by decide, Tryz.func135.trans (congrArg some (by kernel_rfl))⟩
  f50 := ⟨Tryz.f136.name, by decide, Tryz.func136.trans (congrArg some (by kernel_rfl))⟩
  f57 := ⟨Tryz.f142.name, by decide, Tryz.func142.trans (congrArg some (by kernel_rfl))⟩
  t0 := Tryz.underlying0
  a0 := Tryz.isAgg0
  z0 := Tryz.sizeOf0
  v0 := Tryz.zeroValue0
  t3 := Tryz.underlying3
  a3 := Tryz.isAgg3
  z3 := Tryz.sizeOf3
  v3 := Tryz.zeroValue3
  t4 := Tryz.underlying4
  a4 := Tryz.isAgg4
  z4 := Tryz.sizeOf4
  v4 := Tryz.zeroValue4
  t5 := Tryz.underlying5
  a5 := Tryz.isAgg5
  z5 := Tryz.sizeOf5
  v5 := Tryz.zeroValue5
  t9 := Tryz.underlying9
  a9 := Tryz.isAgg9
  z9 := Tryz.sizeOf9
  v9 := Tryz.zeroValue9
  t22 := Tryz.underlying23
  a22 := Tryz.isAgg23
  z22 := Tryz.sizeOf23
  v22 := Tryz.zeroValue23
  t25 := Tryz.underlying65
  a25 := Tryz.isAgg65
  z25 := Tryz.sizeOf65
  v25 := Tryz.zeroValue65
  t39 := Tryz.underlying47
  a39 := Tryz.isAgg47
  z39 := Tryz.sizeOf47
  v39 := Tryz.zeroValue47
  t45 := Tryz.underlying138
  a45 := Tryz.isAgg138
  z45 := Tryz.sizeOf138
  v45 := Tryz.zeroValue138
  t46 := Tryz.underlying139
  a46 := Tryz.isAgg139
  z46 := Tryz.sizeOf139
  v46 := Tryz.zeroValue139
  t50 := Tryz.underlying126
  a50 := Tryz.isAgg126
  z50 := Tryz.sizeOf126
  v50 := Tryz.zeroValue126
  t53 := Tryz.underlying146
  a53 := Tryz.isAgg146
  z53 := Tryz.sizeOf146
  v53 := Tryz.zeroValue146
  t55 := Tryz.underlying34
  a55 := Tryz.isAgg34
  z55 := Tryz.sizeOf34
  v55 := Tryz.zeroValue34
  t66 := Tryz.underlying164
  a66 := Tryz.isAgg164
  z66 := Tryz.sizeOf164
  v66 := Tryz.zeroValue164
  t70 := Tryz.underlying168
  a70 := Tryz.isAgg168
  z70 := Tryz.sizeOf168
  v70 := Tryz.zeroValue168
  t76 := Tryz.underlying176
  a76 := Tryz.isAgg176
  z76 := Tryz.sizeOf176
  v76 := Tryz.zeroValue176
  t77 := Tryz.underlying177
  a77 := Tryz.isAgg177
  z77 := Tryz.sizeOf177
  v77 := Tryz.zeroValue177 }
def Tryz.sort72_ren : Go.Shelf.Ren := ⟨fun | 6 => 72 | 15 => 83 | 14 => 86 | 28 => 98 | 29 => 99 | 20 => 117 | 21 => 118 | 22 => 119 | 23 => 120 | 24 => 121 | 25 => 122 | 26 => 123 | 27 => 124 | 46 => 137 | 47 => 126 | 48 => 127 | 49 => 138 | 50 => 139 | 57 => 143 | n => n, fun | 22 => 24 | 24 => 57 | 25 => 69 | 3 => 3 | 39 => 47 | 0 => 0 | 53 => 146 | 55 => 34 | 4 => 4 | 46 => 139 | 45 => 138 | 50 => 126 | 5 => 5 | 9 => 9 | 66 => 164 | 70 => 168 | 76 => 176 | 77 => 177 | n => n, fun | n => n⟩
theorem Tryz.sort72 : Go.Proofs.SlLaysF0.n6 Tryz.prog Tryz.sort72_ren := {
  mixed := by kernel_rfl
  f6 := ⟨Tryz.f72.name, by decide, Tryz.func72.trans (congrArg some (by kernel_rfl))⟩
  f14 := ⟨Tryz.f86.name, by decide, Tryz.func86.trans (congrArg some (by kernel_rfl))⟩
  f15 := Tryz.func83.trans (congrArg some (by kernel_rfl))
  f20 := ⟨Tryz.f117.name, by decide, Tryz.func117.trans (congrArg some (by kernel_rfl))⟩
  f21 := ⟨Tryz.f118.name, by decide, Tryz.func118.trans (congrArg some (by kernel_rfl))⟩
  f22 := ⟨Tryz.f119.name, by decide, Tryz.func119.trans (congrArg some (by kernel_rfl))⟩
  f23 := ⟨Tryz.f120.name, by decide, Tryz.func120.trans (congrArg some (by kernel_rfl))⟩
  f24 := ⟨Tryz.f121.name, by decide, Tryz.func121.trans (congrArg some (by kernel_rfl))⟩
  f25 := ⟨Tryz.f122.name, by decide, Tryz.func122.trans (congrArg some (by kernel_rfl))⟩
  f26 := ⟨Tryz.f123.name, by decide, Tryz.func123.trans (congrArg some (by kernel_rfl))⟩
  f27 := ⟨Tryz.f124.name, by decide, Tryz.func124.trans (congrArg some (by kernel_rfl))⟩
  f28 := Tryz.func98.trans (congrArg some (by kernel_rfl))
  f29 := Tryz.func99.trans (congrArg some (by kernel_rfl))
  f46 := ⟨Tryz.f137.name, by decide, Tryz.func137.trans (congrArg some (by kernel_rfl))⟩
  f47 := Tryz.func126.trans (congrArg some (by kernel_rfl))
  f48 := Tryz.func127.trans (congrArg some (by kernel_rfl))
  f49 := ⟨Tryz.f138.name, by decide, Tryz.func138.trans (congrArg some (by kernel_rfl))⟩
  f50 := ⟨Tryz.f139.name, by decide, Tryz.func139.trans (congrArg some (by kernel_rfl))⟩
  f57 := ⟨Tryz.f143.name, by decide, Tryz.func143.trans (congrArg some (by kernel_rfl))⟩
  t0 := Tryz.underlying0
  a0 := Tryz.isAgg0
  z0 := Tryz.sizeOf0
  v0 := Tryz.zeroValue0
  t3 := Tryz.underlying3
  a3 := Tryz.isAgg3
  z3 := Tryz.sizeOf3
  v3 := Tryz.zeroValue3
  t4 := Tryz.underlying4
  a4 := Tryz.isAgg4
  z4 := Tryz.sizeOf4
  v4 := Tryz.zeroValue4
  t5 := Tryz.underlying5
  a5 := Tryz.isAgg5
  z5 := Tryz.sizeOf5
  v5 := Tryz.zeroValue5
  t9 := Tryz.underlying9
  a9 := Tryz.isAgg9
  z9 := Tryz.sizeOf9
  v9 := Tryz.zeroValue9
  t22 := Tryz.underlying24
  a22 := Tryz.isAgg24
  z22 := Tryz.sizeOf24
  v22 := Tryz.zeroValue24
  t25 := Tryz.underlying69
  a25 := Tryz.isAgg69
  z25 := Tryz.sizeOf69
  v25 := Tryz.zeroValue69
  t39 := Tryz.underlying47
  a39 := Tryz.isAgg47
  z39 := Tryz.sizeOf47
  v39 := Tryz.zeroValue47
  t45 := Tryz.underlying138
  a45 := Tryz.isAgg138
  z45 := Tryz.sizeOf138
  v45 := Tryz.zeroValue138
  t46 := Tryz.underlying139
  a46 := Tryz.isAgg139
  z46 := Tryz.sizeOf139
  v46 := Tryz.zeroValue139
  t50 := Tryz.underlying126
  a50 := Tryz.isAgg126
  z50 := Tryz.sizeOf126
  v50 := Tryz.zeroValue126
  t53 := Tryz.underlying146
  a53 := Tryz.isAgg146
  z53 := Tryz.sizeOf146
  v53 := Tryz.zeroValue146
  t55 := Tryz.underlying34
  a55 := Tryz.isAgg34
  z55 := Tryz.sizeOf34
  v55 := Tryz.zeroValue34
  t66 := Tryz.underlying164
  a66 := Tryz.isAgg164
  z66 := Tryz.sizeOf164
  v66 := Tryz.zeroValue164
  t70 := Tryz.underlying168
  a70 := Tryz.isAgg168
  z70 := Tryz.sizeOf168
  v70 := Tryz.zeroValue168
  t76 := Tryz.underlying176
  a76 := Tryz.isAgg176
  z76 := Tryz.sizeOf176
  v76 := Tryz.zeroValue176
  t77 := Tryz.underlying177
  a77 := Tryz.isAgg177
  z77 := Tryz.sizeOf177
  v77 := Tryz.zeroValue177 }
end Go.Proofs
namespace Go.Bw
open Go Go.RowKit Go.Sort Go.Proofs Go.Shelf

theorem flat_str (xs : List Bs) : xs.flatMap Fl.bs.enc = xs.map encStr := by
  induction xs with
  | nil => rfl
  | cons x xs ih => rw [List.flatMap_cons, ih]; rfl
theorem row_str (e : Nat) (A : Option Addr) (n c : Nat) (xs : List Bs) : row Fl.bs e A n c xs = own e 1 A n c (xs.map encStr) := by
  unfold row
  rw [flat_str]
  rfl
theorem sort_str_spec {P : Program} {ρ : Ren} (Ly : SlLaysN.n54 P ρ) (R : Res) (l : List HProp) {e n c : Nat} {A : Option Addr} {xs : List Bs} (hb : xs.length < 4611686018427387904) :
    Spec P (ρ.f 54) [.slice A n c] R (row Fl.bs e A n c xs :: l) (fun v l' => v = .tuple #[] ∧ row Fl.bs e A n c (xs.mergeSort fun x y => decide (x ≤ y)) :: l = l') := fun w hs => by
  obtain ⟨h, o, s⟩ := hs.head
  have hn := row_len o
  subst hn
  rw [row_str] at o hs
  rcases o.2 with ⟨rfl, h0, rfl⟩ | ⟨g, cur, rfl, hg, h3, h4, h5, h6⟩
  · have hx : xs = [] := List.eq_nil_of_length_eq_zero h0
    subst hx
    refine (AnyG.slices_Sort_string_none Ly none 0 w).mono fun e w' ⟨he, hw⟩ => ⟨_, _, he, ⟨rfl, rfl⟩, ?_⟩
    subst hw
    rw [row_str]
    simpa using hs
  · have hgw : w.heap[g]? = some (.cells cur e) := s g _ hg
    have hH : Holds encStr w g 0 xs.toArray := holds_block hgw (by rw [Nat.mul_one] at h6; exact h6)
    refine (AnyG.slices_Sort_string Ly g 0 c xs w hH (Array.getElem?_eq_some_iff.1 hgw).1 hb).mono fun e' w' ⟨he, n, os, hw⟩ => ⟨_, _, he, ⟨rfl, rfl⟩, ?_⟩
    subst hw
    rw [row_str]
    exact sat.sorted hs (by simp)

theorem grown_of {W w : World} (h : sat (Res.of W) [] w) : ∃ q os, w = Sort.grow (W.drewN q) os := by
  obtain ⟨ok, _⟩ := h
  obtain ⟨s, h1, h2, h3, h4⟩ := ok
  refine ⟨w.drawn - W.drawn, w.heap.extract W.heap.size w.heap.size, ?_⟩
  have h4' : W.drawn ≤ w.drawn := h4
  have hsz : W.heap.size ≤ w.heap.size := by
    rcases Nat.eq_zero_or_pos W.heap.size with h0 | h0
    · omega
    · have := s (W.heap.size - 1) _ (Array.getElem?_eq_getElem (by omega))
      have := (Array.getElem?_eq_some_iff.1 this).1
      omega
  have hh : w.heap = W.heap ++ w.heap.extract W.heap.size w.heap.size := by
    apply Array.ext_getElem?
    intro i
    by_cases hi : i < W.heap.size
    · rw [Array.getElem?_append_left hi]
      exact (s i _ (Array.getElem?_eq_getElem hi)).trans (Array.getElem?_eq_getElem hi).symm
    · rw [Array.getElem?_append_right (by omega), Array.getElem?_extract]
      by_cases h2 : i < w.heap.size
      · rw [if_pos (by omega)]
        congr 1
        omega
      · rw [if_neg (by omega), Array.getElem?_eq_none (by omega)]
  have hd : W.drawn + (w.drawn - W.drawn) = w.drawn := by omega
  cases w
  simp only [Sort.grow, World.drewN] at *
  simp only [World.mk.injEq]
  exact ⟨hh, h2, hd.symm, h1, h3⟩
theorem Spec.reads {P : Program} {f : Nat} {args : List Value} {W : World} {u : Value} (h : Spec P f args (Res.of W) [] (fun v l' => v = u ∧ [] = l')) :
    Calls P f args.toArray W fun e w' => e = .returned u ∧ ∃ q os', w' = Sort.grow (W.drewN q) os' :=
  (h W (sat_of W)).mono fun e w' ⟨v, l', he, ⟨hv, hl⟩, hs⟩ => by
    subst hv hl
    exact ⟨he, grown_of hs⟩

section
variable {β : Type} [Inhabited β] {enc : β → List Value} {k : Nat}
theorem flatK_flat (hk : ∀ x, (enc x).length = k) (hk0 : 0 < k) : ∀ (xs : List β), (flatK enc k xs.toArray).toList = xs.flatMap enc := fun xs => by
  have hl : ∀ (ys : List β), (ys.flatMap enc).length = ys.length * k := fun ys => by
    induction ys with
    | nil => simp
    | cons y ys ih => rw [List.flatMap_cons, List.length_append, ih, hk, List.length_cons, Nat.succ_mul]; omega
  have hg : ∀ (ys : List β) (t : Nat), t < ys.length * k → (ys.flatMap enc)[t]? = (enc (ys[t / k]!))[t % k]? := fun ys => by
    induction ys with
    | nil => intro t ht; simp at ht
    | cons y ys ih =>
      intro t ht
      rw [List.flatMap_cons]
      by_cases h : t < k
      · rw [List.getElem?_append_left (by rw [hk]; exact h), Nat.div_eq_of_lt h, Nat.mod_eq_of_lt h]
        rfl
      · rw [List.length_cons, Nat.succ_mul] at ht
        rw [List.getElem?_append_right (by rw [hk]; omega), hk, ih (t - k) (by omega)]
        have h1 : t / k = (t - k) / k + 1 := by rw [Nat.div_eq, if_pos ⟨hk0, by omega⟩]
        have h2 : t % k = (t - k) % k := by rw [Nat.mod_eq_sub_mod (by omega)]
        rw [h1, h2]
        rfl
  apply List.ext_getElem?
  intro t
  by_cases ht : t < xs.length * k
  · rw [hg xs t ht]
    have hm : t % k < k := Nat.mod_lt _ hk0
    have hq : t / k < xs.length := Nat.div_lt_of_lt_mul (by rw [Nat.mul_comm]; exact ht)
    have : t < (flatK enc k xs.toArray).size := by rw [size_flatK]; simpa using ht
    rw [Array.getElem?_toList, Array.getElem?_eq_getElem this]
    have h1 := get_flatK enc k xs.toArray t (by simpa using ht)
    rw [getElem!_pos _ t this] at h1
    rw [h1]
    have : xs.toArray[t / k]! = xs[t / k]! := by simp
    rw [this, getElem!_pos _ (t % k) (by rw [hk]; exact hm), List.getElem?_eq_getElem (by rw [hk]; exact hm)]
  · have h1 : (xs.flatMap enc).length ≤ t := by rw [hl]; omega
    rw [List.getElem?_eq_none (l := xs.flatMap enc) h1, List.getElem?_eq_none (by rw [Array.length_toList, size_flatK]; simpa using ht)]
variable {R : Res} {l : List HProp} {w : World} {g n c e : Nat} {os : Array Obj} {cur : Array Value} {xs ys : List β}
theorem holdsK_block (hk : ∀ x, (enc x).length = k) (hk0 : 0 < k) (hb : w.heap[g]? = some (.cells cur e (0, 0))) (ht : cur.toList.take (xs.length * k) = xs.flatMap enc) : HoldsK enc k w g 0 xs.toArray := by
  unfold HoldsK
  have h1 := holds_block (enc := (id : Value → Value)) (xs := xs.flatMap enc) hb (by
    rw [List.map_id, ← ht, List.length_take]
    have hlen : (xs.flatMap enc).length = xs.length * k := by rw [← flatK_flat hk hk0]; simp
    have : (cur.toList.take (xs.length * k)).length = xs.length * k := by rw [ht, hlen]
    rw [List.length_take] at this
    rw [this])
  rw [← flatK_flat hk hk0] at h1
  exact h1
theorem sat.sortedK (hk : ∀ x, (enc x).length = k) (hk0 : 0 < k) (hs : sat R (own e k (some ⟨g, 0, none⟩) xs.length c (xs.flatMap enc) :: l) w) (hl : ys.length = xs.length) :
    sat R (own e k (some ⟨g, 0, none⟩) xs.length c (ys.flatMap enc) :: l) (sortWorldK enc k w g 0 n ys.toArray os) := by
  have hf : ∀ zs : List β, (zs.flatMap enc).length = zs.length * k := fun zs => by rw [← flatK_flat hk hk0]; simp
  obtain ⟨h, o, s⟩ := hs.head
  rcases o.2 with ⟨h0, _⟩ | ⟨g', cur, h1, hg, h3, h4, h5, h6⟩
  · cases h0
  · cases h1
    have hgw : w.heap[g]? = some (.cells cur e) := s g _ hg
    have hfl : flatK enc k ys.toArray = (ys.flatMap enc).toArray := by apply Array.ext'; rw [flatK_flat hk hk0]
    have hq : (ys.flatMap enc).length ≤ cur.size := by rw [hf, hl, h5]; exact Nat.mul_le_mul_right _ h3
    unfold sortWorldK putRowK
    rw [hfl]
    obtain ⟨A', c', hv, hs'⟩ := hs.grown (v' := .slice (some ⟨g, 0, none⟩) xs.length c) (m' := xs.length) (ys := ys.flatMap enc) (grownBy_sorted (enc := (id : Value → Value)) (n := n) (os := os) (ys.flatMap enc).toArray) (Nat.le_add_right _ _)
      ⟨by rw [hf, hl], .inr ⟨g, c, _, rfl, Nat.zero_le _, heap_sorted (enc := (id : Value → Value)) _ hgw, h3, h4, by simp [putCells, h5], by
        rw [← hl, ← hf]
        have := take_putCells (enc := (id : Value → Value)) cur (ys.flatMap enc) hq
        rw [List.map_id] at this
        exact this⟩⟩ (.inl rfl)
    cases hv
    exact hs'
theorem sortk {P : Program} {ρ : Ren} (L : SlLaysF0.n6 P ρ) (hk : ∀ x, (enc x).length = k) (hk0 : 0 < k) (h1 : ∀ x, ∀ v ∈ enc x, v.oneCell' = true) (aE : ∀ w, (isAgg (ρ.t 24)).run P w = .ok true w) (zE : ∀ w, (Go.sizeOf (ρ.t 24)).run P w = .ok k w)
    (cf : β → β → Int) (hO : SWO (ltOf cf)) (hT : ∀ x y, (ltOf cf) x y = false → (ltOf cf) y x = false → x = y) (gf : Nat) (eg : ∀ args w, (callFunc gf args).run P w = .ok (.enter gf args) w) (hb : xs.length < 4611686018427387904)
    (hcmp : ∀ W : World, (∀ b o, b ≠ g → w.heap[b]? = some o → W.heap[b]? = some o) → ∀ x y, Calls P gf #[.agg (enc x).toArray, .agg (enc y).toArray] W fun e w' => e = .returned (.int .i64 (cf x y)) ∧ ∃ q os', w' = Sort.grow (W.drewN q) os')
    (hs : sat R (own e k (some ⟨g, 0, none⟩) xs.length c (xs.flatMap enc) :: l) w) :
    Calls P (ρ.f 6) #[.slice (some ⟨g, 0, none⟩) xs.length c, .func (.func gf) #[] #[]] w fun e' w' => e' = .returned (.tuple #[]) ∧ sat R (own e k (some ⟨g, 0, none⟩) xs.length c ((xs.mergeSort fun x y => !(ltOf cf) y x).flatMap enc) :: l) w' := by
  obtain ⟨h, o, s⟩ := hs.head
  rcases o.2 with ⟨h0, _⟩ | ⟨g', cur, h1', hg, h3, h4, h5, h6⟩
  · cases h0
  · cases h1'
    have hgw : w.heap[g]? = some (.cells cur e) := s g _ hg
    have hsz : xs.toArray.size = xs.length := by simp
    have hrun := AnyQ.slices_SortFunc_total L k aE zE enc hk h1 cf hO gf #[] g 0 c xs.toArray w eg (fun m os dk hdk x y => by
      have := hcmp (sortWorldK enc k w g 0 m dk os) (fun b o hb ho => by
        have hw := (grownBy_sorted (w := w) (enc := (id : Value → Value)) (g := g) (n := m) (os := os) (flatK enc k dk)).block b (Array.getElem?_eq_some_iff.1 ho).1 (fun e => hb (by cases e; rfl))
        exact hw.trans ho) x y
      simpa using this) (holdsK_block hk hk0 hgw h6) (Array.getElem?_eq_some_iff.1 hgw).1 (by rw [hsz]; exact hb) hT
    rw [hsz] at hrun
    refine hrun.mono fun e' w' ⟨he, m, os, hw⟩ => ⟨he, ?_⟩
    subst hw
    exact sat.sortedK hk hk0 hs (by simp)
end
section
variable {P : Program} {ρ : Ren} {α : Type}
theorem sortf_fl_spec [Inhabited α] (L : SlLaysF0.n6 P ρ) (F : Fl α) (aE : ∀ w, (isAgg (ρ.t 24)).run P w = .ok true w) (zE : ∀ w, (Go.sizeOf (ρ.t 24)).run P w = .ok F.sz w)
    (cf : α → α → Int) (hO : SWO (ltOf cf)) (hT : ∀ x y, (ltOf cf) x y = false → (ltOf cf) y x = false → x = y) (gf : Nat) (eg : ∀ args w, (callFunc gf args).run P w = .ok (.enter gf args) w)
    (hcmp : ∀ R x y, Spec P gf [.agg (F.enc x).toArray, .agg (F.enc y).toArray] R [] (fun v l' => v = .int .i64 (cf x y) ∧ [] = l')) (R : Res) (l : List HProp) {e n c : Nat} {A : Option Addr} {xs : List α} (hb : xs.length < 4611686018427387904) :
    Spec P (ρ.f 6) [.slice A n c, .func (.func gf) #[] #[]] R (row F e A n c xs :: l) (fun v l' => v = .tuple #[] ∧ row F e A n c (xs.mergeSort fun x y => !(ltOf cf) y x) :: l = l') := fun w hs => by
  have hn : xs.length = n := let ⟨_, o, _⟩ := hs.head; row_len o
  subst hn
  obtain ⟨h, o, s⟩ := hs.head
  rcases o.2 with ⟨rfl, h0, rfl⟩ | ⟨g, cur, rfl, hg, h3, h4, h5, h6⟩
  · have hx : xs = [] := List.eq_nil_of_length_eq_zero h0
    subst hx
    refine (AnyF.slices_SortFunc_none L none 0 _ w).mono fun e' w' ⟨he, hw⟩ => ⟨_, _, he, ⟨rfl, rfl⟩, ?_⟩
    subst hw
    simpa using hs
  · refine (sortk L F.len F.pos F.one aE zE cf hO hT gf eg hb (fun W _ x y => (hcmp _ x y).reads) hs).mono fun e' w' ⟨he, h7⟩ => ⟨_, _, he, ⟨rfl, rfl⟩, ?_⟩
    have : (xs.mergeSort fun x y => !(ltOf cf) y x).length = xs.length := by simp
    exact h7.imp fun h o => o
theorem sortf_grow_spec (L : SlLaysF0.n6 P ρ) (T : Ow α) (aE : ∀ w, (isAgg (ρ.t 24)).run P w = .ok true w) (zE : ∀ w, (Go.sizeOf (ρ.t 24)).run P w = .ok T.sz w)
    (cf : α → α → Int) (hO : SWO (ltOf cf)) (gf : Nat) (eg : ∀ args w, (callFunc gf args).run P w = .ok (.enter gf args) w)
    (hcmp : ∀ R x y cs cs', T.rep.K R.heap x cs → T.rep.K R.heap y cs' → Spec P gf [.agg cs.toArray, .agg cs'.toArray] R [] (fun v l' => v = .int .i64 (cf x y) ∧ [] = l')) (R : Res) (l : List HProp) {e n c : Nat} {A : Option Addr} {xs : List α} (hb : xs.length < 4611686018427387904)
    (hT : xs.Pairwise fun x y => ¬ ((ltOf cf) x y = false ∧ (ltOf cf) y x = false)) :
    Spec P (ρ.f 6) [.slice A n c, .func (.func gf) #[] #[]] R (Bw.grow T e A n c xs :: l) (fun v l' => v = .tuple #[] ∧ Bw.grow T e A n c (xs.mergeSort fun x y => !(ltOf cf) y x) :: l = l') := fun w hs => by
  have hn : xs.length = n := let ⟨_, o, _⟩ := hs.head; (grow_len o).1
  subst hn
  obtain ⟨css, hbl, h2⟩ := sat.grow.1 hs
  rw [← hbl] at h2
  obtain ⟨h, o, s⟩ := h2.head
  rcases o.2 with ⟨rfl, h0, rfl⟩ | ⟨g, cur, rfl, hg, h3, h4, h5, h6⟩
  · have hx : xs = [] := List.eq_nil_of_length_eq_zero (hbl.symm.trans h0)
    subst hx
    refine (AnyF.slices_SortFunc_none L none 0 _ w).mono fun e' w' ⟨he, hw⟩ => ⟨_, _, he, ⟨rfl, rfl⟩, ?_⟩
    subst hw
    simpa using hs
  · by_cases hne : xs.length = 0
    · have : xs = [] := List.eq_nil_of_length_eq_zero hne
      subst this
      refine (AnyF.slices_SortFunc_none L (some ⟨g, 0, none⟩) c _ w).mono fun e' w' ⟨he, hw⟩ => ⟨_, _, he, ⟨rfl, rfl⟩, ?_⟩
      subst hw
      simpa using hs
    have hpos : 0 < xs.length := Nat.pos_of_ne_zero hne
    have hinh : Inhabited (Fin xs.length) := ⟨⟨0, hpos⟩⟩
    let ci : Fin xs.length → Raw T.sz := fun i => css[i.1]'(by rw [hbl]; exact i.2)
    let enc : Fin xs.length → List Value := fun i => (ci i).1
    let cf' : Fin xs.length → Fin xs.length → Int := fun i j => cf xs[i.1] xs[j.1]
    have hO' : SWO (ltOf cf') := ⟨fun x => hO.irrefl _, fun x y z => hO.trans _ _ _, fun x y z => hO.ntrans _ _ _⟩
    have hT' : ∀ x y, ltOf cf' x y = false → ltOf cf' y x = false → x = y := fun x y h1 h2 => by
      have hp := List.pairwise_iff_getElem.1 hT
      rcases Nat.lt_trichotomy x.1 y.1 with h3 | h3 | h3
      · exact absurd ⟨h1, h2⟩ (hp x.1 y.1 x.2 y.2 h3)
      · exact Fin.ext h3
      · exact absurd ⟨h2, h1⟩ (hp y.1 x.1 y.2 x.2 h3)
    have hcss : css = (List.finRange xs.length).map ci := by
      apply List.ext_getElem
      · simp [hbl]
      · intro i h1 h2
        simp [ci]
    have hfl : css.flatMap (Fl.raw T.sz T.pos).enc = (List.finRange xs.length).flatMap enc := by
      rw [hcss, List.flatMap_map]
      rfl
    have hgins : gins T xs css = (List.finRange xs.length).map fun i => T.own xs[i.1] (ci i).1 := by
      apply List.ext_getElem
      · simp [gins, hbl]
      · intro i h1 h2
        simp [gins, ci]
    have hlen : (List.finRange xs.length).length = css.length := by rw [List.length_finRange, hbl]
    have h2' : sat R (own e T.sz (some ⟨g, 0, none⟩) (List.finRange xs.length).length c ((List.finRange xs.length).flatMap enc) :: (gins T xs css ++ l)) w := by
      rw [hlen, ← hfl]; exact h2
    have hgw : w.heap[g]? = some (.cells cur e) := s g _ hg
    have hrun := sortk L (enc := enc) (fun x => (ci x).2.1) T.pos (fun x => (ci x).2.2) aE zE cf' hO' hT' gf eg (by simpa using hb) (fun W hW x y => by
      have hK : ∀ i : Fin xs.length, T.rep.K (wh W) xs[i.1] (ci i).1 := fun i => by
        obtain ⟨ok, k, ⟨k1, k2, ow, inn, dd, t1, t2⟩, dR, ss⟩ := h2
        obtain ⟨h', ro, sr⟩ := stars_get (stars_append.1 inn).choose_spec.choose_spec.1 (gins_get (T := T) (xs := xs) (css := css) (i := i.1) (List.getElem?_eq_getElem i.2) (List.getElem?_eq_getElem (by rw [hbl]; exact i.2)))
        have s3 : Sub h' k2 := sr.trans (stars_append.1 inn).choose_spec.choose_spec.2.2.2.1
        refine T.rd ro fun b ob hob => hW b ob (fun hbg => ?_) (ss b ob (t2 b ob (s3 b ob hob)))
        subst hbg
        have hgk : ∃ ob', k1 b = some ob' := by
          rcases ow.2 with ⟨e0, _⟩ | ⟨g2, cur2, e2, hg2, _⟩
          · cases e0
          · cases e2
            exact ⟨_, hg2⟩
        exact dd b _ _ hgk.choose_spec (s3 b ob hob)
      exact (hcmp (Res.of W) _ _ _ _ (hK x) (hK y)).reads) h2'
    rw [hlen, hbl] at hrun
    refine hrun.mono fun e' w' ⟨he, h7⟩ => ⟨_, _, he, ⟨rfl, rfl⟩, ?_⟩
    let ys := (List.finRange xs.length).mergeSort fun x y => !(ltOf cf') y x
    have hperm : ys.Perm (List.finRange xs.length) := List.mergeSort_perm _ _
    have hxs : (xs.mergeSort fun x y => !(ltOf cf) y x) = ys.map fun i => xs[i.1] := by
      show _ = ((List.finRange xs.length).mergeSort fun x y => !(ltOf cf') y x).map fun i => xs[i.1]
      rw [List.map_mergeSort (r := fun x y => !(ltOf cf') y x) (s := fun x y => !(ltOf cf) y x) (f := fun i : Fin xs.length => xs[i.1]) (fun a _ b _ => rfl)]
      congr 1
      apply List.ext_getElem
      · simp
      · intro i h1 h2
        simp
    rw [hxs]
    refine sat.grow.2 ⟨ys.map ci, by simp, ?_⟩
    have e1 : (ys.map ci).flatMap (Fl.raw T.sz T.pos).enc = ys.flatMap enc := by rw [List.flatMap_map]; rfl
    have e2 : gins T (ys.map fun i => xs[i.1]) (ys.map ci) = ys.map fun i => T.own xs[i.1] (ci i).1 := by
      apply List.ext_getElem
      · simp [gins]
      · intro i h1 h2
        simp [gins]
    have h8 : sat R (own e T.sz (some ⟨g, 0, none⟩) xs.length c (ys.flatMap enc) :: (gins T xs css ++ l)) w' := h7
    rw [e2]
    rw [hgins] at h8
    obtain ⟨ok, k, ⟨k1, k2, a, b, d, t1, t2⟩, dR, ss⟩ := h8
    refine ⟨ok, k, ⟨k1, k2, ?_, stars_perm (hperm.symm.map _) b, d, t1, t2⟩, dR, ss⟩
    show own e T.sz (some ⟨g, 0, none⟩) xs.length c ((ys.map ci).flatMap (Fl.raw T.sz T.pos).enc) k1
    rw [e1]
    exact a
end
def gcf {α : Type} (c : α → α → Option Int) (x y : α) : Int := (c x y).getD 0
def CmpSwo {α : Type} (c : α → α → Option Int) : Prop := (∀ x y, (c x y).isSome = true) ∧ SWO (ltOf (gcf c))
def CmpTot {α : Type} (c : α → α → Option Int) : Prop := CmpSwo c ∧ ∀ x y, ltOf (gcf c) x y = false → ltOf (gcf c) y x = false → x = y
def CmpParts {α : Type} (c : α → α → Option Int) (xs : List α) : Prop := xs.Pairwise fun x y => ¬ (ltOf (gcf c) x y = false ∧ ltOf (gcf c) y x = false)
def byCmp {α : Type} (c : α → α → Option Int) (xs : List α) : List α := xs.mergeSort fun x y => !(ltOf (gcf c)) y x
theorem gcf_eq {α : Type} {c : α → α → Option Int} (h : CmpSwo c) (x y : α) : c x y = some (gcf c x y) := by
  have := h.1 x y
  unfold gcf
  cases hc : c x y with
  | none => rw [hc] at this; cases this
  | some v => rfl
end Go.Bw
namespace Go.Bw
open Go Go.RowKit Go.Proofs
structure api_Token where
  Kind : Int
  At : Int
  Text : Bs
  Number : Int
deriving Inhabited, DecidableEq
def api_Token.fl : Fl api_Token := ⟨4, fun x => [.int .i64 x.Kind, .int .i64 x.At, .string ⟨(x.Text).toArray⟩, .int .i64 x.Number], fun _ => rfl, fun x u hu => by simp at hu; rcases hu with rfl | rfl | rfl | rfl <;> rfl, by decide⟩
structure api_Fault where
  At : Int
  Err : Int
deriving Inhabited, DecidableEq
def api_Fault.fl : Fl api_Fault := ⟨2, fun x => [.int .i64 x.At, .int .i64 x.Err], fun _ => rfl, fun x u hu => by simp at hu; rcases hu with rfl | rfl <;> rfl, by decide⟩
structure lts_step where
  from_ : Int
  action : Bs
  to : Int
deriving Inhabited, DecidableEq
def lts_step.fl : Fl lts_step := ⟨3, fun x => [.int .i64 x.from_, .string ⟨(x.action).toArray⟩, .int .i64 x.to], fun _ => rfl, fun x u hu => by simp at hu; rcases hu with rfl | rfl | rfl <;> rfl, by decide⟩
theorem bytealg_IndexByteString.ext : ExtOk Go.Proofs.Tryz.prog 88 Extern.BytealgIndexByte.indexByte := ⟨_, Go.Proofs.Tryz.func88, by kernel_rfl, by kernel_rfl, by kernel_rfl, by kernel_rfl⟩

noncomputable def stringslite_IndexByte.f (a0 : Bs) (a1 : Int) : Option Int :=
 some (Lib.indexByte a0 a1.toNat.toUInt8)
theorem stringslite_IndexByte.callee : Callee Go.Proofs.Tryz.prog 75 := ⟨_, Go.Proofs.Tryz.func75, by kernel_rfl, by kernel_rfl⟩
set_option maxRecDepth 100000 in
set_option maxHeartbeats 2000000 in
theorem stringslite_IndexByte.spec (R : Res) (Fr : List HProp)  (a0 : Bs) (a1 : Int)  {r : Int} (hrun : stringslite_IndexByte.f a0 a1 = some r) :
    Spec Go.Proofs.Tryz.prog 75 [.string ⟨(a0).toArray⟩, .int .u8 a1] R (Fr) (fun v l' => v = .int .i64 r ∧ Fr = l') := by
  refine Spec.of Go.Proofs.Tryz.func75 rfl rfl ?_; unfold stringslite_IndexByte.f at hrun; have hrun := brun hrun; refine At.seq (At.region (At.run 1 rfl (At.nil (At.thn (At.seq (At.region (At.run 2 rfl ?_))))))); refine At.y (Y.ext bytealg_IndexByteString.ext rfl rfl (fun w => run_ixbyte _ _ w)) rfl rfl rfl ?_; refine At.run 1 rfl (At.nil (At.thn (At.ret ?_))); obtain rfl := (bret hrun).symm; exact At.res (.inl rfl) rfl rfl ⟨rfl, rfl⟩

noncomputable def strings_IndexByte.f (a0 : Bs) (a1 : Int) : Option Int :=
 (stringslite_IndexByte.f a0 a1).bind fun t252 =>
 some t252
theorem strings_IndexByte.callee : Callee Go.Proofs.Tryz.prog 58 := ⟨_, Go.Proofs.Tryz.func58, by kernel_rfl, by kernel_rfl⟩
set_option maxRecDepth 100000 in
set_option maxHeartbeats 2000000 in
theorem strings_IndexByte.spec (R : Res) (Fr : List HProp)  (a0 : Bs) (a1 : Int)  {r : Int} (hrun : strings_IndexByte.f a0 a1 = some r) :
    Spec Go.Proofs.Tryz.prog 58 [.string ⟨(a0).toArray⟩, .int .u8 a1] R (Fr) (fun v l' => v = .int .i64 r ∧ Fr = l') := by
  refine Spec.of Go.Proofs.Tryz.func58 rfl rfl ?_; unfold strings_IndexByte.f at hrun; have hrun := brun hrun; refine At.seq (At.region (At.run 1 rfl (At.nil (At.thn (At.seq (At.region (At.run 2 rfl ?_))))))); obtain ⟨t252, hc253, hrun⟩ := bbind hrun; refine At.call rfl stringslite_IndexByte.callee rfl rfl rfl (stringslite_IndexByte.spec _ _  a0 a1  hc253) ?_; rintro _ _ ⟨rfl, rfl⟩; refine At.run 1 rfl (At.nil (At.thn (At.ret ?_))); obtain rfl := (bret hrun).symm; exact At.res (.inl rfl) rfl rfl ⟨rfl, rfl⟩

noncomputable def scan_kind.f (a0 : Int) : Option Int :=
 if a0 = 10 then
 some 1
 else
 jn (
 if 97 ≤ a0 then
 some (.inl (decide (a0 ≤ 122)))
 else
 some (.inl false)) (fun (x453 : Bool) =>
 if x453 = true then
 some 2
 else
 jn (
 if 65 ≤ a0 then
 some (.inl (decide (a0 ≤ 90)))
 else
 some (.inl false)) (fun (x659 : Bool) =>
 if x659 = true then
 some 3
 else
 jn (
 if 48 ≤ a0 then
 some (.inl (decide (a0 ≤ 57)))
 else
 some (.inl false)) (fun (x865 : Bool) =>
 if x865 = true then
 some 4
 else
 jn (
 if 32 < a0 then
 some (.inl (decide (a0 < 127)))
 else
 some (.inl false)) (fun (x1071 : Bool) =>
 jn (
 if x1071 = true then
 some (.inl (!(decide (a0 = 95))))
 else
 some (.inl false)) (fun (x1276 : Bool) =>
 if x1276 = true then
 some 5
 else
 some 0)))))
theorem scan_kind.callee : Callee Go.Proofs.Tryz.prog 76 := ⟨_, Go.Proofs.Tryz.func76, by kernel_rfl, by kernel_rfl⟩
set_option maxRecDepth 100000 in
set_option maxHeartbeats 2000000 in
theorem scan_kind.spec (R : Res) (Fr : List HProp)  (a0 : Int)  {r : Int} (hrun : scan_kind.f a0 = some r) :
    Spec Go.Proofs.Tryz.prog 76 [.int .u8 a0] R (Fr) (fun v l' => v = .int .i64 r ∧ Fr = l') := by
  refine Spec.of Go.Proofs.Tryz.func76 rfl rfl ?_; unfold scan_kind.f at hrun; have hrun := brun hrun; refine At.seq (At.region (At.run 1 rfl (At.nil (At.thn (At.seq ?_))))); refine At.block ?_; refine At.seq (At.region (At.run 3 rfl (At.nil (At.thn ?_)))); rcases bite hrun with ⟨h252, hrun⟩ | ⟨h252, hrun⟩
  · · refine At.condT rfl (decide_eq_true h252) ?_
      refine At.seq (At.region (At.run 1 rfl (At.nil (At.thn (At.ret ?_))))); refine At.ibr ?_; refine At.thr ?_; obtain rfl := (bret hrun).symm; exact At.res (.inl rfl) rfl rfl ⟨rfl, rfl⟩
  · · refine At.condF rfl (decide_eq_false h252) ?_
      refine At.seq (At.region (At.run 3 rfl ?_)); obtain ⟨G454, hl455, hr456, hrun⟩ := bjoin hrun; refine At.joinO 3 (X := Bool) (fun x453 => [(0, .int .u8 a0), (12, .bool x453)]) (fun x453 => Fr) (fun x453 => G454 (.inl x453) = some r) ?_ (fun J457 => ?_)
      · rintro x453 hrun; have hrun := (hl455 _).symm.trans hrun
        · refine At.run 1 rfl (At.nil (At.thn ?_)); rcases bite hrun with ⟨h458, hrun⟩ | ⟨h458, hrun⟩
          · · refine At.condT rfl h458 ?_
              refine At.seq (At.region (At.run 1 rfl (At.nil (At.thn (At.ret ?_))))); refine At.ibr ?_; refine At.thr ?_; obtain rfl := (bret hrun).symm; exact At.res (.inl rfl) rfl rfl ⟨rfl, rfl⟩
          · · refine At.condF rfl (bn h458) ?_
              refine At.seq (At.region (At.run 3 rfl ?_)); obtain ⟨G660, hl661, hr662, hrun⟩ := bjoin hrun; refine At.joinO 3 (X := Bool) (fun x659 => [(0, .int .u8 a0), (19, .bool x659)]) (fun x659 => Fr) (fun x659 => G660 (.inl x659) = some r) ?_ (fun J663 => ?_)
              · rintro x659 hrun; have hrun := (hl661 _).symm.trans hrun
                · refine At.run 1 rfl (At.nil (At.thn ?_)); rcases bite hrun with ⟨h664, hrun⟩ | ⟨h664, hrun⟩
                  · · refine At.condT rfl h664 ?_
                      refine At.seq (At.region (At.run 1 rfl (At.nil (At.thn (At.ret ?_))))); refine At.ibr ?_; refine At.thr ?_; obtain rfl := (bret hrun).symm; exact At.res (.inl rfl) rfl rfl ⟨rfl, rfl⟩
                  · · refine At.condF rfl (bn h664) ?_
                      refine At.seq (At.region (At.run 3 rfl ?_)); obtain ⟨G866, hl867, hr868, hrun⟩ := bjoin hrun; refine At.joinO 3 (X := Bool) (fun x865 => [(0, .int .u8 a0), (26, .bool x865)]) (fun x865 => Fr) (fun x865 => G866 (.inl x865) = some r) ?_ (fun J869 => ?_)
                      · rintro x865 hrun; have hrun := (hl867 _).symm.trans hrun
                        · refine At.run 1 rfl (At.nil (At.thn ?_)); rcases bite hrun with ⟨h870, hrun⟩ | ⟨h870, hrun⟩
                          · · refine At.condT rfl h870 ?_
                              refine At.seq (At.region (At.run 1 rfl (At.nil (At.thn (At.ret ?_))))); refine At.ibr ?_; refine At.thr ?_; obtain rfl := (bret hrun).symm; exact At.res (.inl rfl) rfl rfl ⟨rfl, rfl⟩
                          · · refine At.condF rfl (bn h870) ?_
                              refine At.seq (At.region (At.run 3 rfl ?_)); obtain ⟨G1072, hl1073, hr1074, hrun⟩ := bjoin hrun; refine At.joinO 3 (X := Bool) (fun x1071 => [(0, .int .u8 a0), (33, .bool x1071)]) (fun x1071 => Fr) (fun x1071 => G1072 (.inl x1071) = some r) ?_ (fun J1075 => ?_)
                              · rintro x1071 hrun; have hrun := (hl1073 _).symm.trans hrun
                                · refine At.run 1 rfl ?_; obtain ⟨G1277, hl1278, hr1279, hrun⟩ := bjoin hrun; refine At.joinO 3 (X := Bool) (fun x1276 => [(37, .bool x1276)]) (fun x1276 => Fr) (fun x1276 => G1277 (.inl x1276) = some r) ?_ (fun J1280 => ?_)
                                  · rintro x1276 hrun; have hrun := (hl1278 _).symm.trans hrun
                                    · refine At.run 1 rfl (At.nil (At.thn ?_)); rcases bite hrun with ⟨h1281, hrun⟩ | ⟨h1281, hrun⟩
                                      · · refine At.condT rfl h1281 ?_
                                          refine At.seq (At.region (At.run 1 rfl (At.nil (At.thn (At.ret ?_))))); refine At.ibr ?_; refine At.thr ?_; obtain rfl := (bret hrun).symm; exact At.res (.inl rfl) rfl rfl ⟨rfl, rfl⟩
                                      · · refine At.condF rfl (bn h1281) ?_
                                          refine At.skip ?_; refine At.ibn ?_; refine At.thn (At.seq (At.region (At.run 1 rfl (At.nil (At.thn (At.ret ?_)))))); obtain rfl := (bret hrun).symm; exact At.res (.inl rfl) rfl rfl ⟨rfl, rfl⟩
                                  · · rcases bite hrun with ⟨h1282, hrun⟩ | ⟨h1282, hrun⟩
                                      · · refine At.know (t := 34) rfl h1282 ?_
                                          refine At.run 3 rfl ?_; exact At.of (J1280 (!(decide (a0 = 95))) hrun) ⟨rfl, trivial⟩
                                      · · refine At.know (t := 34) rfl (bn h1282) ?_
                                          refine At.run 3 rfl ?_; exact At.of (J1280 false hrun) ⟨rfl, trivial⟩
                              · · rcases bite hrun with ⟨h1283, hrun⟩ | ⟨h1283, hrun⟩
                                  · · refine At.know (t := 30) rfl (decide_eq_true h1283) ?_
                                      refine At.run 3 rfl ?_; exact At.of (J1075 (decide (a0 < 127)) hrun) ⟨rfl, rfl, trivial⟩
                                  · · refine At.know (t := 30) rfl (decide_eq_false h1283) ?_
                                      refine At.run 3 rfl ?_; exact At.of (J1075 false hrun) ⟨rfl, rfl, trivial⟩
                      · · rcases bite hrun with ⟨h1284, hrun⟩ | ⟨h1284, hrun⟩
                          · · refine At.know (t := 23) rfl (decide_eq_true h1284) ?_
                              refine At.run 3 rfl ?_; exact At.of (J869 (decide (a0 ≤ 57)) hrun) ⟨rfl, rfl, trivial⟩
                          · · refine At.know (t := 23) rfl (decide_eq_false h1284) ?_
                              refine At.run 3 rfl ?_; exact At.of (J869 false hrun) ⟨rfl, rfl, trivial⟩
              · · rcases bite hrun with ⟨h1285, hrun⟩ | ⟨h1285, hrun⟩
                  · · refine At.know (t := 16) rfl (decide_eq_true h1285) ?_
                      refine At.run 3 rfl ?_; exact At.of (J663 (decide (a0 ≤ 90)) hrun) ⟨rfl, rfl, trivial⟩
                  · · refine At.know (t := 16) rfl (decide_eq_false h1285) ?_
                      refine At.run 3 rfl ?_; exact At.of (J663 false hrun) ⟨rfl, rfl, trivial⟩
      · · rcases bite hrun with ⟨h1286, hrun⟩ | ⟨h1286, hrun⟩
          · · refine At.know (t := 9) rfl (decide_eq_true h1286) ?_
              refine At.run 3 rfl ?_; exact At.of (J457 (decide (a0 ≤ 122)) hrun) ⟨rfl, rfl, trivial⟩
          · · refine At.know (t := 9) rfl (decide_eq_false h1286) ?_
              refine At.run 3 rfl ?_; exact At.of (J457 false hrun) ⟨rfl, rfl, trivial⟩

noncomputable def scan_long.l0b (a1 : Bs) (x854 : Int) : Option ((Int) ⊕ ((Int) ⊕ (Int))) :=
 jn (
 if x854 < (a1.length : Int) then
 if (0 : Int) ≤ x854 ∧ x854 < (a1.length : Int) then
 some (.inl (decide (48 ≤ bat a1 x854)))
 else none
 else
 some (.inl false)) (fun (x1267 : Bool) =>
 jn (
 if x1267 = true then
 if (0 : Int) ≤ x854 ∧ x854 < (a1.length : Int) then
 some (.inl (decide (bat a1 x854 ≤ 57)))
 else none
 else
 some (.inl false)) (fun (x1472 : Bool) =>
 if x1472 = true then
 nx (IntKind.i64.wrap (x854 + 1))
 else
 dn (.inl x854)))
noncomputable def scan_long.l0 (a1 : Bs) (x854 : Int) : Option ((Int) ⊕ (Int)) := iter (fun t_ : Int => scan_long.l0b a1 t_) x854
noncomputable def scan_long.l1b (a1 : Bs) (x2085 : Int) : Option ((Int) ⊕ ((Int) ⊕ (Int))) :=
 jn (
 if x2085 < (a1.length : Int) then
 if (0 : Int) ≤ x2085 ∧ x2085 < (a1.length : Int) then
 jn (
 if bat a1 x2085 = 95 then
 some (.inl (true, true))
 else
 jn (
 if 97 ≤ bat a1 x2085 then
 some (.inl (true, decide (bat a1 x2085 ≤ 122)))
 else
 some (.inl (false, false))) (fun (s_ : Bool × Bool) =>
 some (.inl (false, s_.2)))) (fun (s_ : Bool × Bool) =>
 jn (
 if s_.2 = true then
 some (.inl (true, true))
 else
 jn (
 if 65 ≤ bat a1 x2085 then
 some (.inl (true, decide (bat a1 x2085 ≤ 90)))
 else
 some (.inl (false, false))) (fun (s_ : Bool × Bool) =>
 some (.inl (false, s_.2)))) (fun (s_ : Bool × Bool) =>
 jn (
 if s_.2 = true then
 some (.inl (true, true))
 else
 jn (
 if 48 ≤ bat a1 x2085 then
 some (.inl (true, decide (bat a1 x2085 ≤ 57)))
 else
 some (.inl (false, false))) (fun (s_ : Bool × Bool) =>
 some (.inl (false, s_.2)))) (fun (s_ : Bool × Bool) =>
 some (.inl s_.2))))
 else none
 else
 some (.inl false)) (fun (x2498 : Bool) =>
 if x2498 = true then
 nx (IntKind.i64.wrap (x2085 + 1))
 else
 dn (.inl x2085))
noncomputable def scan_long.l1 (a1 : Bs) (x2085 : Int) : Option ((Int) ⊕ (Int)) := iter (fun t_ : Int => scan_long.l1b a1 t_) x2085
noncomputable def scan_long.l2b (a1 : Bs) (x4350 : Int) : Option ((Int) ⊕ ((Int) ⊕ (Int))) :=
 jn (
 if x4350 < (a1.length : Int) then
 if (0 : Int) ≤ x4350 ∧ x4350 < (a1.length : Int) then
 jn (
 if bat a1 x4350 = 95 then
 some (.inl (true, true))
 else
 jn (
 if 97 ≤ bat a1 x4350 then
 some (.inl (true, decide (bat a1 x4350 ≤ 122)))
 else
 some (.inl (false, false))) (fun (s_ : Bool × Bool) =>
 some (.inl (false, s_.2)))) (fun (s_ : Bool × Bool) =>
 jn (
 if s_.2 = true then
 some (.inl (true, true))
 else
 jn (
 if 65 ≤ bat a1 x4350 then
 some (.inl (true, decide (bat a1 x4350 ≤ 90)))
 else
 some (.inl (false, false))) (fun (s_ : Bool × Bool) =>
 some (.inl (false, s_.2)))) (fun (s_ : Bool × Bool) =>
 jn (
 if s_.2 = true then
 some (.inl (true, true))
 else
 jn (
 if 48 ≤ bat a1 x4350 then
 some (.inl (true, decide (bat a1 x4350 ≤ 57)))
 else
 some (.inl (false, false))) (fun (s_ : Bool × Bool) =>
 some (.inl (false, s_.2)))) (fun (s_ : Bool × Bool) =>
 some (.inl s_.2))))
 else none
 else
 some (.inl false)) (fun (x4763 : Bool) =>
 if x4763 = true then
 nx (IntKind.i64.wrap (x4350 + 1))
 else
 dn (.inl x4350))
noncomputable def scan_long.l2 (a1 : Bs) (x4350 : Int) : Option ((Int) ⊕ (Int)) := iter (fun t_ : Int => scan_long.l2b a1 t_) x4350
noncomputable def scan_long.f (a0 : Int) (a1 : Bs) : Option Int :=
 if a0 = 4 then
 jn (scan_long.l0 a1 1) (fun (x1055 : Int) =>
 some x1055)
 else
 if a0 = 2 then
 jn (scan_long.l1 a1 1) (fun (x2286 : Int) =>
 some x2286)
 else
 if a0 = 3 then
 jn (scan_long.l2 a1 1) (fun (x4551 : Int) =>
 some x4551)
 else
 some 1
theorem scan_long.callee : Callee Go.Proofs.Tryz.prog 77 := ⟨_, Go.Proofs.Tryz.func77, by kernel_rfl, by kernel_rfl⟩
set_option maxRecDepth 100000 in
set_option maxHeartbeats 2000000 in
theorem scan_long.spec (R : Res) (Fr : List HProp)  (a0 : Int) (a1 : Bs)  {r : Int} (hrun : scan_long.f a0 a1 = some r) :
    Spec Go.Proofs.Tryz.prog 77 [.int .i64 a0, .string ⟨(a1).toArray⟩] R (Fr) (fun v l' => v = .int .i64 r ∧ Fr = l') := by
  refine Spec.of Go.Proofs.Tryz.func77 rfl rfl ?_; unfold scan_long.f at hrun; have hrun := brun hrun; refine At.seq (At.region (At.run 1 rfl (At.nil (At.thn (At.seq (At.region (At.run 1 rfl ?_))))))); refine At.nil (At.thn (At.seq (At.seq (At.region (At.run 1 rfl (At.nil (At.thn ?_))))))); refine At.block ?_; refine At.seq (At.region (At.run 2 rfl (At.nil (At.thn ?_)))); rcases bite hrun with ⟨h252, hrun⟩ | ⟨h252, hrun⟩
  · · refine At.condT rfl (decide_eq_true h252) ?_
      refine At.block ?_; obtain ⟨G1056, hl1057, hr1058, hrun⟩ := bjoin hrun; obtain ⟨o1059, hlo1060, ho1061⟩ := bsome hrun; clear hrun; unfold scan_long.l0 at hlo1060; obtain ⟨m1062, hit1064⟩ := iter_some.1 hlo1060; clear hlo1060; refine At.loopJ (X := Int) (Y := Int) (e0 := 1) (fun x854 => [(1, .string ⟨(a1).toArray⟩), (5, .int .i64 x854)]) (fun x854 => Fr) (fun m_ => fun x854 => iterN (fun t_ : Int => scan_long.l0b a1 t_) m_ x854 = some o1059) m1062 1 hit1064 (fun x1055 => [(5, .int .i64 x1055)]) (fun x1055 => Fr) (fun x1055 => G1056 (.inl x1055) = some r) (fun a w e hs => ⟨e.sub ⟨rfl, rfl, trivial⟩, (by exact hs)⟩) ?_ (fun J1066 => ?_)
      · rintro x1055 hrun; have hrun := (hl1057 _).symm.trans hrun
        · refine At.ibx ?_; refine At.ibn ?_; refine At.thn (At.seq (At.region (At.run 2 rfl (At.nil (At.thn (At.ret ?_)))))); obtain rfl := (bret hrun).symm; exact At.res (.inl rfl) rfl rfl ⟨rfl, rfl⟩
      · clear hit1064 m1062; rintro m1062 x854 hit1064; obtain ⟨m1063, f_, hlt1065, hf_, hrun⟩ := bit hit1064; clear hit1064; have hrun : (scan_long.l0b a1 x854).bind _ = some o1059 := hrun; unfold scan_long.l0b at hrun
        · refine At.seq (At.seq (At.region (At.run 5 rfl ?_))); obtain ⟨G1268, hl1269, hr1270, hrun⟩ := bjoin hrun; refine At.joinO 5 (X := Bool) (fun x1267 => [(1, .string ⟨(a1).toArray⟩), (5, .int .i64 x854), (18, .bool x1267)]) (fun x1267 => Fr) (fun x1267 => G1268 (.inl x1267) = some o1059) ?_ (fun J1271 => ?_)
          · rintro x1267 hrun; have hrun := (hl1269 _).symm.trans hrun
            · refine At.run 1 rfl ?_; obtain ⟨G1473, hl1474, hr1475, hrun⟩ := bjoin hrun; refine At.joinO 5 (X := Bool) (fun x1472 => [(1, .string ⟨(a1).toArray⟩), (5, .int .i64 x854), (24, .bool x1472)]) (fun x1472 => Fr) (fun x1472 => G1473 (.inl x1472) = some o1059) ?_ (fun J1476 => ?_)
              · rintro x1472 hrun; have hrun := (hl1474 _).symm.trans hrun
                · refine At.nil (At.thn ?_); rcases bite hrun with ⟨h1477, hrun⟩ | ⟨h1477, hrun⟩
                  · · refine At.condT rfl h1477 ?_
                      refine At.skip (At.thn ?_); refine At.block ?_; refine At.region (At.run 3 rfl (At.nil ?_)); refine At.ibn ?_; have hrun := bnx hf_ hrun; exact fun a w e hs => ⟨m1063, (IntKind.i64.wrap (x854 + 1)), hlt1065, hrun, e.sub ⟨rfl, rfl, trivial⟩, hs⟩
                  · · refine At.condF rfl (bn h1477) ?_
                      refine At.exit ?_; refine At.the ?_; refine At.the ?_; exact fun a w e hs => J1066 x854 (bdn hrun ho1061) a w (e.sub ⟨rfl, trivial⟩) hs
              · · rcases bite hrun with ⟨h1478, hrun⟩ | ⟨h1478, hrun⟩
                  · · refine At.know (t := 19) rfl h1478 ?_
                      refine At.run 2 rfl ?_; obtain ⟨h1479, hrun⟩ := bnone hrun; refine At.y (Y.ixStr rfl rfl rfl rfl h1479.1 h1479.2) rfl rfl rfl ?_; refine At.run 2 rfl ?_; exact At.of (J1476 (decide (bat a1 x854 ≤ 57)) hrun) ⟨rfl, rfl, rfl, trivial⟩
                  · · refine At.know (t := 19) rfl (bn h1478) ?_
                      refine At.run 5 rfl ?_; exact At.of (J1476 false hrun) ⟨rfl, rfl, rfl, trivial⟩
          · · rcases bite hrun with ⟨h1480, hrun⟩ | ⟨h1480, hrun⟩
              · · refine At.know (t := 13) rfl (decide_eq_true h1480) ?_
                  refine At.run 2 rfl ?_; obtain ⟨h1481, hrun⟩ := bnone hrun; refine At.y (Y.ixStr rfl rfl rfl rfl h1481.1 h1481.2) rfl rfl rfl ?_; refine At.run 2 rfl ?_; exact At.of (J1271 (decide (48 ≤ bat a1 x854)) hrun) ⟨rfl, rfl, rfl, trivial⟩
              · · refine At.know (t := 13) rfl (decide_eq_false h1480) ?_
                  refine At.run 5 rfl ?_; exact At.of (J1271 false hrun) ⟨rfl, rfl, rfl, trivial⟩
  · · refine At.condF rfl (decide_eq_false h252) ?_
      refine At.seq (At.seq (At.region (At.run 2 rfl (At.nil (At.thn ?_))))); rcases bite hrun with ⟨h1482, hrun⟩ | ⟨h1482, hrun⟩
      · · refine At.condT rfl (decide_eq_true h1482) ?_
          refine At.skip (At.thn ?_); refine At.condT rfl (decide_eq_true h1482) ?_; refine At.block ?_; obtain ⟨G2287, hl2288, hr2289, hrun⟩ := bjoin hrun; obtain ⟨o2290, hlo2291, ho2292⟩ := bsome hrun; clear hrun; unfold scan_long.l1 at hlo2291; obtain ⟨m2293, hit2295⟩ := iter_some.1 hlo2291; clear hlo2291; refine At.loopJ (X := Int) (Y := Int) (e0 := 3) (fun x2085 => [(1, .string ⟨(a1).toArray⟩), (5, .int .i64 x2085)]) (fun x2085 => Fr) (fun m_ => fun x2085 => iterN (fun t_ : Int => scan_long.l1b a1 t_) m_ x2085 = some o2290) m2293 1 hit2295 (fun x2286 => [(5, .int .i64 x2286)]) (fun x2286 => Fr) (fun x2286 => G2287 (.inl x2286) = some r) (fun a w e hs => ⟨e.sub ⟨rfl, rfl, trivial⟩, (by exact hs)⟩) ?_ (fun J2297 => ?_)
          · rintro x2286 hrun; have hrun := (hl2288 _).symm.trans hrun
            · refine At.ibx ?_; refine At.ibn ?_; refine At.thn (At.seq (At.region (At.run 2 rfl (At.nil (At.thn (At.ret ?_)))))); obtain rfl := (bret hrun).symm; exact At.res (.inl rfl) rfl rfl ⟨rfl, rfl⟩
          · clear hit2295 m2293; rintro m2293 x2085 hit2295; obtain ⟨m2294, f_, hlt2296, hf_, hrun⟩ := bit hit2295; clear hit2295; have hrun : (scan_long.l1b a1 x2085).bind _ = some o2290 := hrun; unfold scan_long.l1b at hrun
            · refine At.seq (At.seq (At.region (At.run 5 rfl ?_))); obtain ⟨G2499, hl2500, hr2501, hrun⟩ := bjoin hrun; refine At.joinO 41 (X := Bool) (fun x2498 => [(1, .string ⟨(a1).toArray⟩), (5, .int .i64 x2085), (75, .bool x2498)]) (fun x2498 => Fr) (fun x2498 => G2499 (.inl x2498) = some o2290) ?_ (fun J2502 => ?_)
              · rintro x2498 hrun; have hrun := (hl2500 _).symm.trans hrun
                · refine At.nil (At.thn ?_); rcases bite hrun with ⟨h2503, hrun⟩ | ⟨h2503, hrun⟩
                  · · refine At.condT rfl h2503 ?_
                      refine At.skip (At.thn ?_); refine At.block ?_; refine At.region (At.run 3 rfl (At.nil ?_)); refine At.ibn ?_; have hrun := bnx hf_ hrun; exact fun a w e hs => ⟨m2294, (IntKind.i64.wrap (x2085 + 1)), hlt2296, hrun, e.sub ⟨rfl, rfl, trivial⟩, hs⟩
                  · · refine At.condF rfl (bn h2503) ?_
                      refine At.exit ?_; refine At.the ?_; refine At.the ?_; exact fun a w e hs => J2297 x2085 (bdn hrun ho2292) a w (e.sub ⟨rfl, trivial⟩) hs
              · · rcases bite hrun with ⟨h2504, hrun⟩ | ⟨h2504, hrun⟩
                  · · refine At.know (t := 34) rfl (decide_eq_true h2504) ?_
                      refine At.run 2 rfl ?_; obtain ⟨h2505, hrun⟩ := bnone hrun; refine At.y (Y.ixStr rfl rfl rfl rfl h2505.1 h2505.2) rfl rfl rfl ?_; refine At.run 2 rfl ?_; obtain ⟨G2708, hl2709, hr2710, hrun⟩ := bjoin hrun; refine At.joinO 11 (X := Bool × Bool) (fun s_ => [(1, .string ⟨(a1).toArray⟩), (5, .int .i64 x2085), (34, .bool true), (35, .string ⟨(a1).toArray⟩), (36, .int .i64 x2085), (37, .int .u8 (bat a1 x2085)), (38, .bool (decide (bat a1 x2085 = 95))), (39, .bool s_.1), (50, .bool s_.2)]) (fun s_ => Fr) (fun s_ => G2708 (.inl (s_.1, s_.2)) = some o2290) ?_ (fun J2711 => ?_)
                      · rintro ⟨x2706, x2707⟩ hrun; have hrun := (hl2709 _).symm.trans hrun
                        · refine At.run 1 rfl ?_; obtain ⟨G2914, hl2915, hr2916, hrun⟩ := bjoin hrun; refine At.joinO 11 (X := Bool × Bool) (fun s_ => [(1, .string ⟨(a1).toArray⟩), (5, .int .i64 x2085), (34, .bool true), (35, .string ⟨(a1).toArray⟩), (36, .int .i64 x2085), (37, .int .u8 (bat a1 x2085)), (38, .bool (decide (bat a1 x2085 = 95))), (39, .bool x2706), (50, .bool x2707), (51, .bool s_.1), (62, .bool s_.2)]) (fun s_ => Fr) (fun s_ => G2914 (.inl (s_.1, s_.2)) = some o2290) ?_ (fun J2917 => ?_)
                          · rintro ⟨x2912, x2913⟩ hrun; have hrun := (hl2915 _).symm.trans hrun
                            · refine At.run 1 rfl ?_; obtain ⟨G3120, hl3121, hr3122, hrun⟩ := bjoin hrun; refine At.joinO 11 (X := Bool × Bool) (fun s_ => [(1, .string ⟨(a1).toArray⟩), (5, .int .i64 x2085), (34, .bool true), (35, .string ⟨(a1).toArray⟩), (36, .int .i64 x2085), (37, .int .u8 (bat a1 x2085)), (38, .bool (decide (bat a1 x2085 = 95))), (39, .bool x2706), (50, .bool x2707), (51, .bool x2912), (62, .bool x2913), (63, .bool s_.1), (74, .bool s_.2)]) (fun s_ => Fr) (fun s_ => G3120 (.inl (s_.1, s_.2)) = some o2290) ?_ (fun J3123 => ?_)
                              · rintro ⟨x3118, x3119⟩ hrun; have hrun := (hl3121 _).symm.trans hrun
                                · refine At.run 1 rfl ?_; exact At.of (J2502 x3119 hrun) ⟨rfl, rfl, rfl, trivial⟩
                              · · rcases bite hrun with ⟨h3124, hrun⟩ | ⟨h3124, hrun⟩
                                  · · refine At.know (t := 63) rfl h3124 ?_
                                      refine At.run 11 rfl ?_; exact At.of (J3123 (true, true) hrun) ⟨rfl, rfl, rfl, rfl, rfl, rfl, rfl, rfl, rfl, rfl, rfl, rfl, rfl, trivial⟩
                                  · · refine At.know (t := 63) rfl (bn h3124) ?_
                                      refine At.run 2 rfl ?_; refine At.y (Y.ixStr rfl rfl rfl rfl h2505.1 h2505.2) rfl rfl rfl ?_; refine At.run 2 rfl ?_; obtain ⟨G3327, hl3328, hr3329, hrun⟩ := bjoin hrun; refine At.joinO 5 (X := Bool × Bool) (fun s_ => [(1, .string ⟨(a1).toArray⟩), (5, .int .i64 x2085), (34, .bool true), (35, .string ⟨(a1).toArray⟩), (36, .int .i64 x2085), (37, .int .u8 (bat a1 x2085)), (38, .bool (decide (bat a1 x2085 = 95))), (39, .bool x2706), (50, .bool x2707), (51, .bool x2912), (62, .bool x2913), (63, .bool false), (64, .string ⟨(a1).toArray⟩), (65, .int .i64 x2085), (66, .int .u8 (bat a1 x2085)), (67, .bool (decide (48 ≤ bat a1 x2085))), (68, .bool s_.1), (73, .bool s_.2)]) (fun s_ => Fr) (fun s_ => G3327 (.inl (s_.1, s_.2)) = some o2290) ?_ (fun J3330 => ?_)
                                      · rintro ⟨x3325, x3326⟩ hrun; have hrun := (hl3328 _).symm.trans hrun
                                        · refine At.run 1 rfl ?_; exact At.of (J3123 (false, x3326) hrun) ⟨rfl, rfl, rfl, rfl, rfl, rfl, rfl, rfl, rfl, rfl, rfl, rfl, rfl, trivial⟩
                                      · · rcases bite hrun with ⟨h3331, hrun⟩ | ⟨h3331, hrun⟩
                                          · · refine At.know (t := 68) rfl (decide_eq_true h3331) ?_
                                              refine At.run 2 rfl ?_; refine At.y (Y.ixStr rfl rfl rfl rfl h2505.1 h2505.2) rfl rfl rfl ?_; refine At.run 2 rfl ?_; exact At.of (J3330 (true, decide (bat a1 x2085 ≤ 57)) hrun) ⟨rfl, rfl, rfl, rfl, rfl, rfl, rfl, rfl, rfl, rfl, rfl, rfl, rfl, rfl, rfl, rfl, rfl, rfl, trivial⟩
                                          · · refine At.know (t := 68) rfl (decide_eq_false h3331) ?_
                                              refine At.run 5 rfl ?_; exact At.of (J3330 (false, false) hrun) ⟨rfl, rfl, rfl, rfl, rfl, rfl, rfl, rfl, rfl, rfl, rfl, rfl, rfl, rfl, rfl, rfl, rfl, rfl, trivial⟩
                          · · rcases bite hrun with ⟨h3332, hrun⟩ | ⟨h3332, hrun⟩
                              · · refine At.know (t := 51) rfl h3332 ?_
                                  refine At.run 11 rfl ?_; exact At.of (J2917 (true, true) hrun) ⟨rfl, rfl, rfl, rfl, rfl, rfl, rfl, rfl, rfl, rfl, rfl, trivial⟩
                              · · refine At.know (t := 51) rfl (bn h3332) ?_
                                  refine At.run 2 rfl ?_; refine At.y (Y.ixStr rfl rfl rfl rfl h2505.1 h2505.2) rfl rfl rfl ?_; refine At.run 2 rfl ?_; obtain ⟨G3535, hl3536, hr3537, hrun⟩ := bjoin hrun; refine At.joinO 5 (X := Bool × Bool) (fun s_ => [(1, .string ⟨(a1).toArray⟩), (5, .int .i64 x2085), (34, .bool true), (35, .string ⟨(a1).toArray⟩), (36, .int .i64 x2085), (37, .int .u8 (bat a1 x2085)), (38, .bool (decide (bat a1 x2085 = 95))), (39, .bool x2706), (50, .bool x2707), (51, .bool false), (52, .string ⟨(a1).toArray⟩), (53, .int .i64 x2085), (54, .int .u8 (bat a1 x2085)), (55, .bool (decide (65 ≤ bat a1 x2085))), (56, .bool s_.1), (61, .bool s_.2)]) (fun s_ => Fr) (fun s_ => G3535 (.inl (s_.1, s_.2)) = some o2290) ?_ (fun J3538 => ?_)
                                  · rintro ⟨x3533, x3534⟩ hrun; have hrun := (hl3536 _).symm.trans hrun
                                    · refine At.run 1 rfl ?_; exact At.of (J2917 (false, x3534) hrun) ⟨rfl, rfl, rfl, rfl, rfl, rfl, rfl, rfl, rfl, rfl, rfl, trivial⟩
                                  · · rcases bite hrun with ⟨h3539, hrun⟩ | ⟨h3539, hrun⟩
                                      · · refine At.know (t := 56) rfl (decide_eq_true h3539) ?_
                                          refine At.run 2 rfl ?_; refine At.y (Y.ixStr rfl rfl rfl rfl h2505.1 h2505.2) rfl rfl rfl ?_; refine At.run 2 rfl ?_; exact At.of (J3538 (true, decide (bat a1 x2085 ≤ 90)) hrun) ⟨rfl, rfl, rfl, rfl, rfl, rfl, rfl, rfl, rfl, rfl, rfl, rfl, rfl, rfl, rfl, rfl, trivial⟩
                                      · · refine At.know (t := 56) rfl (decide_eq_false h3539) ?_
                                          refine At.run 5 rfl ?_; exact At.of (J3538 (false, false) hrun) ⟨rfl, rfl, rfl, rfl, rfl, rfl, rfl, rfl, rfl, rfl, rfl, rfl, rfl, rfl, rfl, rfl, trivial⟩
                      · · rcases bite hrun with ⟨h3540, hrun⟩ | ⟨h3540, hrun⟩
                          · · refine At.know (t := 39) rfl (decide_eq_true h3540) ?_
                              refine At.run 11 rfl ?_; exact At.of (J2711 (true, true) hrun) ⟨rfl, rfl, rfl, rfl, rfl, rfl, rfl, rfl, rfl, trivial⟩
                          · · refine At.know (t := 39) rfl (decide_eq_false h3540) ?_
                              refine At.run 2 rfl ?_; refine At.y (Y.ixStr rfl rfl rfl rfl h2505.1 h2505.2) rfl rfl rfl ?_; refine At.run 2 rfl ?_; obtain ⟨G3743, hl3744, hr3745, hrun⟩ := bjoin hrun; refine At.joinO 5 (X := Bool × Bool) (fun s_ => [(1, .string ⟨(a1).toArray⟩), (5, .int .i64 x2085), (34, .bool true), (35, .string ⟨(a1).toArray⟩), (36, .int .i64 x2085), (37, .int .u8 (bat a1 x2085)), (38, .bool (decide (bat a1 x2085 = 95))), (39, .bool false), (40, .string ⟨(a1).toArray⟩), (41, .int .i64 x2085), (42, .int .u8 (bat a1 x2085)), (43, .bool (decide (97 ≤ bat a1 x2085))), (44, .bool s_.1), (49, .bool s_.2)]) (fun s_ => Fr) (fun s_ => G3743 (.inl (s_.1, s_.2)) = some o2290) ?_ (fun J3746 => ?_)
                              · rintro ⟨x3741, x3742⟩ hrun; have hrun := (hl3744 _).symm.trans hrun
                                · refine At.run 1 rfl ?_; exact At.of (J2711 (false, x3742) hrun) ⟨rfl, rfl, rfl, rfl, rfl, rfl, rfl, rfl, rfl, trivial⟩
                              · · rcases bite hrun with ⟨h3747, hrun⟩ | ⟨h3747, hrun⟩
                                  · · refine At.know (t := 44) rfl (decide_eq_true h3747) ?_
                                      refine At.run 2 rfl ?_; refine At.y (Y.ixStr rfl rfl rfl rfl h2505.1 h2505.2) rfl rfl rfl ?_; refine At.run 2 rfl ?_; exact At.of (J3746 (true, decide (bat a1 x2085 ≤ 122)) hrun) ⟨rfl, rfl, rfl, rfl, rfl, rfl, rfl, rfl, rfl, rfl, rfl, rfl, rfl, rfl, trivial⟩
                                  · · refine At.know (t := 44) rfl (decide_eq_false h3747) ?_
                                      refine At.run 5 rfl ?_; exact At.of (J3746 (false, false) hrun) ⟨rfl, rfl, rfl, rfl, rfl, rfl, rfl, rfl, rfl, rfl, rfl, rfl, rfl, rfl, trivial⟩
                  · · refine At.know (t := 34) rfl (decide_eq_false h2504) ?_
                      refine At.run 41 rfl ?_; exact At.of (J2502 false hrun) ⟨rfl, rfl, rfl, trivial⟩
      · · refine At.condF rfl (decide_eq_false h1482) ?_
          refine At.region (At.run 2 rfl (At.nil (At.thn ?_))); rcases bite hrun with ⟨h3748, hrun⟩ | ⟨h3748, hrun⟩
          · · refine At.condT rfl (decide_eq_true h3748) ?_
              refine At.block ?_; obtain ⟨G4552, hl4553, hr4554, hrun⟩ := bjoin hrun; obtain ⟨o4555, hlo4556, ho4557⟩ := bsome hrun; clear hrun; unfold scan_long.l2 at hlo4556; obtain ⟨m4558, hit4560⟩ := iter_some.1 hlo4556; clear hlo4556; refine At.loopJ (X := Int) (Y := Int) (e0 := 3) (fun x4350 => [(1, .string ⟨(a1).toArray⟩), (5, .int .i64 x4350)]) (fun x4350 => Fr) (fun m_ => fun x4350 => iterN (fun t_ : Int => scan_long.l2b a1 t_) m_ x4350 = some o4555) m4558 1 hit4560 (fun x4551 => [(5, .int .i64 x4551)]) (fun x4551 => Fr) (fun x4551 => G4552 (.inl x4551) = some r) (fun a w e hs => ⟨e.sub ⟨rfl, rfl, trivial⟩, (by exact hs)⟩) ?_ (fun J4562 => ?_)
              · rintro x4551 hrun; have hrun := (hl4553 _).symm.trans hrun
                · refine At.ibx ?_; refine At.ibn ?_; refine At.thn (At.seq (At.region (At.run 2 rfl (At.nil (At.thn (At.ret ?_)))))); obtain rfl := (bret hrun).symm; exact At.res (.inl rfl) rfl rfl ⟨rfl, rfl⟩
              · clear hit4560 m4558; rintro m4558 x4350 hit4560; obtain ⟨m4559, f_, hlt4561, hf_, hrun⟩ := bit hit4560; clear hit4560; have hrun : (scan_long.l2b a1 x4350).bind _ = some o4555 := hrun; unfold scan_long.l2b at hrun
                · refine At.seq (At.seq (At.region (At.run 5 rfl ?_))); obtain ⟨G4764, hl4765, hr4766, hrun⟩ := bjoin hrun; refine At.joinO 41 (X := Bool) (fun x4763 => [(1, .string ⟨(a1).toArray⟩), (5, .int .i64 x4350), (75, .bool x4763)]) (fun x4763 => Fr) (fun x4763 => G4764 (.inl x4763) = some o4555) ?_ (fun J4767 => ?_)
                  · rintro x4763 hrun; have hrun := (hl4765 _).symm.trans hrun
                    · refine At.nil (At.thn ?_); rcases bite hrun with ⟨h4768, hrun⟩ | ⟨h4768, hrun⟩
                      · · refine At.condT rfl h4768 ?_
                          refine At.skip (At.thn ?_); refine At.block ?_; refine At.region (At.run 3 rfl (At.nil ?_)); refine At.ibn ?_; have hrun := bnx hf_ hrun; exact fun a w e hs => ⟨m4559, (IntKind.i64.wrap (x4350 + 1)), hlt4561, hrun, e.sub ⟨rfl, rfl, trivial⟩, hs⟩
                      · · refine At.condF rfl (bn h4768) ?_
                          refine At.exit ?_; refine At.the ?_; refine At.the ?_; exact fun a w e hs => J4562 x4350 (bdn hrun ho4557) a w (e.sub ⟨rfl, trivial⟩) hs
                  · · rcases bite hrun with ⟨h4769, hrun⟩ | ⟨h4769, hrun⟩
                      · · refine At.know (t := 34) rfl (decide_eq_true h4769) ?_
                          refine At.run 2 rfl ?_; obtain ⟨h4770, hrun⟩ := bnone hrun; refine At.y (Y.ixStr rfl rfl rfl rfl h4770.1 h4770.2) rfl rfl rfl ?_; refine At.run 2 rfl ?_; obtain ⟨G4973, hl4974, hr4975, hrun⟩ := bjoin hrun; refine At.joinO 11 (X := Bool × Bool) (fun s_ => [(1, .string ⟨(a1).toArray⟩), (5, .int .i64 x4350), (34, .bool true), (35, .string ⟨(a1).toArray⟩), (36, .int .i64 x4350), (37, .int .u8 (bat a1 x4350)), (38, .bool (decide (bat a1 x4350 = 95))), (39, .bool s_.1), (50, .bool s_.2)]) (fun s_ => Fr) (fun s_ => G4973 (.inl (s_.1, s_.2)) = some o4555) ?_ (fun J4976 => ?_)
                          · rintro ⟨x4971, x4972⟩ hrun; have hrun := (hl4974 _).symm.trans hrun
                            · refine At.run 1 rfl ?_; obtain ⟨G5179, hl5180, hr5181, hrun⟩ := bjoin hrun; refine At.joinO 11 (X := Bool × Bool) (fun s_ => [(1, .string ⟨(a1).toArray⟩), (5, .int .i64 x4350), (34, .bool true), (35, .string ⟨(a1).toArray⟩), (36, .int .i64 x4350), (37, .int .u8 (bat a1 x4350)), (38, .bool (decide (bat a1 x4350 = 95))), (39, .bool x4971), (50, .bool x4972), (51, .bool s_.1), (62, .bool s_.2)]) (fun s_ => Fr) (fun s_ => G5179 (.inl (s_.1, s_.2)) = some o4555) ?_ (fun J5182 => ?_)
                              · rintro ⟨x5177, x5178⟩ hrun; have hrun := (hl5180 _).symm.trans hrun
                                · refine At.run 1 rfl ?_; obtain ⟨G5385, hl5386, hr5387, hrun⟩ := bjoin hrun; refine At.joinO 11 (X := Bool × Bool) (fun s_ => [(1, .string ⟨(a1).toArray⟩), (5, .int .i64 x4350), (34, .bool true), (35, .string ⟨(a1).toArray⟩), (36, .int .i64 x4350), (37, .int .u8 (bat a1 x4350)), (38, .bool (decide (bat a1 x4350 = 95))), (39, .bool x4971), (50, .bool x4972), (51, .bool x5177), (62, .bool x5178), (63, .bool s_.1), (74, .bool s_.2)]) (fun s_ => Fr) (fun s_ => G5385 (.inl (s_.1, s_.2)) = some o4555) ?_ (fun J5388 => ?_)
                                  · rintro ⟨x5383, x5384⟩ hrun; have hrun := (hl5386 _).symm.trans hrun
                                    · refine At.run 1 rfl ?_; exact At.of (J4767 x5384 hrun) ⟨rfl, rfl, rfl, trivial⟩
                                  · · rcases bite hrun with ⟨h5389, hrun⟩ | ⟨h5389, hrun⟩
                                      · · refine At.know (t := 63) rfl h5389 ?_
                                          refine At.run 11 rfl ?_; exact At.of (J5388 (true, true) hrun) ⟨rfl, rfl, rfl, rfl, rfl, rfl, rfl, rfl, rfl, rfl, rfl, rfl, rfl, trivial⟩
                                      · · refine At.know (t := 63) rfl (bn h5389) ?_
                                          refine At.run 2 rfl ?_; refine At.y (Y.ixStr rfl rfl rfl rfl h4770.1 h4770.2) rfl rfl rfl ?_; refine At.run 2 rfl ?_; obtain ⟨G5592, hl5593, hr5594, hrun⟩ := bjoin hrun; refine At.joinO 5 (X := Bool × Bool) (fun s_ => [(1, .string ⟨(a1).toArray⟩), (5, .int .i64 x4350), (34, .bool true), (35, .string ⟨(a1).toArray⟩), (36, .int .i64 x4350), (37, .int .u8 (bat a1 x4350)), (38, .bool (decide (bat a1 x4350 = 95))), (39, .bool x4971), (50, .bool x4972), (51, .bool x5177), (62, .bool x5178), (63, .bool false), (64, .string ⟨(a1).toArray⟩), (65, .int .i64 x4350), (66, .int .u8 (bat a1 x4350)), (67, .bool (decide (48 ≤ bat a1 x4350))), (68, .bool s_.1), (73, .bool s_.2)]) (fun s_ => Fr) (fun s_ => G5592 (.inl (s_.1, s_.2)) = some o4555) ?_ (fun J5595 => ?_)
                                          · rintro ⟨x5590, x5591⟩ hrun; have hrun := (hl5593 _).symm.trans hrun
                                            · refine At.run 1 rfl ?_; exact At.of (J5388 (false, x5591) hrun) ⟨rfl, rfl, rfl, rfl, rfl, rfl, rfl, rfl, rfl, rfl, rfl, rfl, rfl, trivial⟩
                                          · · rcases bite hrun with ⟨h5596, hrun⟩ | ⟨h5596, hrun⟩
                                              · · refine At.know (t := 68) rfl (decide_eq_true h5596) ?_
                                                  refine At.run 2 rfl ?_; refine At.y (Y.ixStr rfl rfl rfl rfl h4770.1 h4770.2) rfl rfl rfl ?_; refine At.run 2 rfl ?_; exact At.of (J5595 (true, decide (bat a1 x4350 ≤ 57)) hrun) ⟨rfl, rfl, rfl, rfl, rfl, rfl, rfl, rfl, rfl, rfl, rfl, rfl, rfl, rfl, rfl, rfl, rfl, rfl, trivial⟩
                                              · · refine At.know (t := 68) rfl (decide_eq_false h5596) ?_
                                                  refine At.run 5 rfl ?_; exact At.of (J5595 (false, false) hrun) ⟨rfl, rfl, rfl, rfl, rfl, rfl, rfl, rfl, rfl, rfl, rfl, rfl, rfl, rfl, rfl, rfl, rfl, rfl, trivial⟩
                              · · rcases bite hrun with ⟨h5597, hrun⟩ | ⟨h5597, hrun⟩
                                  · · refine At.know (t := 51) rfl h5597 ?_
                                      refine At.run 11 rfl ?_; exact At.of (J5182 (true, true) hrun) ⟨rfl, rfl, rfl, rfl, rfl, rfl, rfl, rfl, rfl, rfl, rfl, trivial⟩
                                  · · refine At.know (t := 51) rfl (bn h5597) ?_
                                      refine At.run 2 rfl ?_; refine At.y (Y.ixStr rfl rfl rfl rfl h4770.1 h4770.2) rfl rfl rfl ?_; refine At.run 2 rfl ?_; obtain ⟨G5800, hl5801, hr5802, hrun⟩ := bjoin hrun; refine At.joinO 5 (X := Bool × Bool) (fun s_ => [(1, .string ⟨(a1).toArray⟩), (5, .int .i64 x4350), (34, .bool true), (35, .string ⟨(a1).toArray⟩), (36, .int .i64 x4350), (37, .int .u8 (bat a1 x4350)), (38, .bool (decide (bat a1 x4350 = 95))), (39, .bool x4971), (50, .bool x4972), (51, .bool false), (52, .string ⟨(a1).toArray⟩), (53, .int .i64 x4350), (54, .int .u8 (bat a1 x4350)), (55, .bool (decide (65 ≤ bat a1 x4350))), (56, .bool s_.1), (61, .bool s_.2)]) (fun s_ => Fr) (fun s_ => G5800 (.inl (s_.1, s_.2)) = some o4555) ?_ (fun J5803 => ?_)
                                      · rintro ⟨x5798, x5799⟩ hrun; have hrun := (hl5801 _).symm.trans hrun
                                        · refine At.run 1 rfl ?_; exact At.of (J5182 (false, x5799) hrun) ⟨rfl, rfl, rfl, rfl, rfl, rfl, rfl, rfl, rfl, rfl, rfl, trivial⟩
                                      · · rcases bite hrun with ⟨h5804, hrun⟩ | ⟨h5804, hrun⟩
                                          · · refine At.know (t := 56) rfl (decide_eq_true h5804) ?_
                                              refine At.run 2 rfl ?_; refine At.y (Y.ixStr rfl rfl rfl rfl h4770.1 h4770.2) rfl rfl rfl ?_; refine At.run 2 rfl ?_; exact At.of (J5803 (true, decide (bat a1 x4350 ≤ 90)) hrun) ⟨rfl, rfl, rfl, rfl, rfl, rfl, rfl, rfl, rfl, rfl, rfl, rfl, rfl, rfl, rfl, rfl, trivial⟩
                                          · · refine At.know (t := 56) rfl (decide_eq_false h5804) ?_
                                              refine At.run 5 rfl ?_; exact At.of (J5803 (false, false) hrun) ⟨rfl, rfl, rfl, rfl, rfl, rfl, rfl, rfl, rfl, rfl, rfl, rfl, rfl, rfl, rfl, rfl, trivial⟩
                          · · rcases bite hrun with ⟨h5805, hrun⟩ | ⟨h5805, hrun⟩
                              · · refine At.know (t := 39) rfl (decide_eq_true h5805) ?_
                                  refine At.run 11 rfl ?_; exact At.of (J4976 (true, true) hrun) ⟨rfl, rfl, rfl, rfl, rfl, rfl, rfl, rfl, rfl, trivial⟩
                              · · refine At.know (t := 39) rfl (decide_eq_false h5805) ?_
                                  refine At.run 2 rfl ?_; refine At.y (Y.ixStr rfl rfl rfl rfl h4770.1 h4770.2) rfl rfl rfl ?_; refine At.run 2 rfl ?_; obtain ⟨G6008, hl6009, hr6010, hrun⟩ := bjoin hrun; refine At.joinO 5 (X := Bool × Bool) (fun s_ => [(1, .string ⟨(a1).toArray⟩), (5, .int .i64 x4350), (34, .bool true), (35, .string ⟨(a1).toArray⟩), (36, .int .i64 x4350), (37, .int .u8 (bat a1 x4350)), (38, .bool (decide (bat a1 x4350 = 95))), (39, .bool false), (40, .string ⟨(a1).toArray⟩), (41, .int .i64 x4350), (42, .int .u8 (bat a1 x4350)), (43, .bool (decide (97 ≤ bat a1 x4350))), (44, .bool s_.1), (49, .bool s_.2)]) (fun s_ => Fr) (fun s_ => G6008 (.inl (s_.1, s_.2)) = some o4555) ?_ (fun J6011 => ?_)
                                  · rintro ⟨x6006, x6007⟩ hrun; have hrun := (hl6009 _).symm.trans hrun
                                    · refine At.run 1 rfl ?_; exact At.of (J4976 (false, x6007) hrun) ⟨rfl, rfl, rfl, rfl, rfl, rfl, rfl, rfl, rfl, trivial⟩
                                  · · rcases bite hrun with ⟨h6012, hrun⟩ | ⟨h6012, hrun⟩
                                      · · refine At.know (t := 44) rfl (decide_eq_true h6012) ?_
                                          refine At.run 2 rfl ?_; refine At.y (Y.ixStr rfl rfl rfl rfl h4770.1 h4770.2) rfl rfl rfl ?_; refine At.run 2 rfl ?_; exact At.of (J6011 (true, decide (bat a1 x4350 ≤ 122)) hrun) ⟨rfl, rfl, rfl, rfl, rfl, rfl, rfl, rfl, rfl, rfl, rfl, rfl, rfl, rfl, trivial⟩
                                      · · refine At.know (t := 44) rfl (decide_eq_false h6012) ?_
                                          refine At.run 5 rfl ?_; exact At.of (J6011 (false, false) hrun) ⟨rfl, rfl, rfl, rfl, rfl, rfl, rfl, rfl, rfl, rfl, rfl, rfl, rfl, rfl, trivial⟩
                      · · refine At.know (t := 34) rfl (decide_eq_false h4769) ?_
                          refine At.run 41 rfl ?_; exact At.of (J4767 false hrun) ⟨rfl, rfl, rfl, trivial⟩
          · · refine At.condF rfl (decide_eq_false h3748) ?_
              refine At.skip ?_; refine At.ibn ?_; refine At.thn (At.seq (At.region (At.run 2 rfl (At.nil (At.thn (At.ret ?_)))))); obtain rfl := (bret hrun).symm; exact At.res (.inl rfl) rfl rfl ⟨rfl, rfl⟩

noncomputable def scan_value.l0b (a0 : Bs) (x1061 : Int) (x1062 : Int) : Option ((Int × Int) ⊕ ((Int) ⊕ (Bool × Int))) :=
 if x1062 < (a0.length : Int) then
 if (0 : Int) ≤ x1062 ∧ x1062 < (a0.length : Int) then
 nx (IntKind.i64.wrap (IntKind.i64.wrap (10 * x1061) + (IntKind.i64.wrap (IntKind.u8.wrap (bat a0 x1062 - 48)))), IntKind.i64.wrap (x1062 + 1))
 else none
 else
 dn (.inl x1061)
noncomputable def scan_value.l0 (a0 : Bs) (x1061 : Int) (x1062 : Int) : Option ((Int) ⊕ (Bool × Int)) := iter (fun t_ : Int × Int => scan_value.l0b a0 t_.1 t_.2) (x1061, x1062)
noncomputable def scan_value.f (a0 : Bs) : Option (Bool × Int) :=
 jn (
 if 4 < (a0.length : Int) then
 some (.inl true)
 else
 jn (
 if 1 < (a0.length : Int) then
 if (0 : Int) ≤ 0 ∧ 0 < (a0.length : Int) then
 some (.inl (decide (bat a0 0 = 48)))
 else none
 else
 some (.inl false)) (fun (x1478 : Bool) =>
 some (.inl x1478))) (fun (x453 : Bool) =>
 if x453 = true then
 some (false, 0)
 else
 jn (scan_value.l0 a0 0 0) (fun (x1263 : Int) =>
 some (decide (x1263 ≤ 9999), x1263)))
theorem scan_value.callee : Callee Go.Proofs.Tryz.prog 78 := ⟨_, Go.Proofs.Tryz.func78, by kernel_rfl, by kernel_rfl⟩
set_option maxRecDepth 100000 in
set_option maxHeartbeats 2000000 in
theorem scan_value.spec (R : Res) (Fr : List HProp)  (a0 : Bs)  {r : Bool × Int} (hrun : scan_value.f a0 = some r) :
    Spec Go.Proofs.Tryz.prog 78 [.string ⟨(a0).toArray⟩] R (Fr) (fun v l' => v = .tuple #[.int .i64 r.2, .bool r.1] ∧ Fr = l') := by
  refine Spec.of Go.Proofs.Tryz.func78 rfl rfl ?_; unfold scan_value.f at hrun; have hrun := brun hrun; refine At.seq (At.region (At.run 2 rfl (At.nil (At.thn (At.seq (At.seq (At.region ?_))))))); refine At.run 4 rfl ?_; obtain ⟨G454, hl455, hr456, hrun⟩ := bjoin hrun; refine At.joinO 9 (X := Bool) (fun x453 => [(0, .string ⟨(a0).toArray⟩), (18, .bool x453)]) (fun x453 => Fr) (fun x453 => G454 (.inl x453) = some r) ?_ (fun J457 => ?_)
  · rintro x453 hrun; have hrun := (hl455 _).symm.trans hrun
    · refine At.nil (At.thn ?_); rcases bite hrun with ⟨h458, hrun⟩ | ⟨h458, hrun⟩
      · · refine At.condT rfl h458 ?_
          refine At.seq (At.region (At.run 2 rfl (At.nil (At.thn (At.ret (At.thr ?_)))))); obtain rfl := (bret hrun).symm; exact At.res (.inl rfl) rfl rfl ⟨rfl, rfl⟩
      · · refine At.condF rfl (bn h458) ?_
          refine At.skip (At.thn (At.seq (At.region (At.run 1 rfl (At.nil (At.thn (At.seq ?_))))))); refine At.seq (At.region (At.run 3 rfl (At.nil (At.thn ?_)))); refine At.block ?_; obtain ⟨G1264, hl1265, hr1266, hrun⟩ := bjoin hrun; obtain ⟨o1267, hlo1268, ho1269⟩ := bsome hrun; clear hrun; unfold scan_value.l0 at hlo1268; obtain ⟨m1270, hit1272⟩ := iter_some.1 hlo1268; clear hlo1268; refine At.loopJ (X := Int × Int) (Y := Int) (e0 := 0) (fun s_ => [(0, .string ⟨(a0).toArray⟩), (4, .int .i64 s_.1), (20, .int .i64 (a0.length : Int)), (21, .int .i64 s_.2)]) (fun s_ => Fr) (fun m_ => fun s_ => iterN (fun t_ : Int × Int => scan_value.l0b a0 t_.1 t_.2) m_ (s_.1, s_.2) = some o1267) m1270 (0, 0) hit1272 (fun x1263 => [(4, .int .i64 x1263)]) (fun x1263 => Fr) (fun x1263 => G1264 (.inl x1263) = some r) (fun a w e hs => ⟨e.sub ⟨rfl, rfl, rfl, rfl, trivial⟩, (by exact hs)⟩) ?_ (fun J1274 => ?_)
          · rintro x1263 hrun; have hrun := (hl1265 _).symm.trans hrun
            · refine At.ibx ?_; refine At.thn (At.seq (At.region (At.run 5 rfl (At.nil (At.thn (At.ret ?_)))))); obtain rfl := (bret hrun).symm; exact At.res (.inl rfl) rfl rfl ⟨rfl, rfl⟩
          · clear hit1272 m1270; rintro m1270 ⟨x1061, x1062⟩ hit1272; obtain ⟨m1271, f_, hlt1273, hf_, hrun⟩ := bit hit1272; clear hit1272; have hrun : (scan_value.l0b a0 x1061 x1062).bind _ = some o1267 := hrun; unfold scan_value.l0b at hrun
            · refine At.seq (At.region (At.run 1 rfl (At.nil (At.thn (At.seq ?_))))); rcases bite hrun with ⟨h1275, hrun⟩ | ⟨h1275, hrun⟩
              · · refine At.condT rfl (decide_eq_true h1275) ?_
                  refine At.skip (At.thn (At.seq ?_)); refine At.block ?_; refine At.seq (At.region (At.run 2 rfl (At.nil (At.thn (At.region (At.run 4 rfl ?_)))))); obtain ⟨h1276, hrun⟩ := bnone hrun; refine At.y (Y.ixStr rfl rfl rfl rfl h1276.1 h1276.2) rfl rfl rfl ?_; refine At.run 4 rfl (At.nil ?_); refine At.ibn ?_; refine At.thn (At.region (At.run 2 rfl (At.nil ?_))); have hrun := bnx hf_ hrun; exact fun a w e hs => ⟨m1271, (IntKind.i64.wrap (IntKind.i64.wrap (10 * x1061) + (IntKind.i64.wrap (IntKind.u8.wrap (bat a0 x1062 - 48)))), IntKind.i64.wrap (x1062 + 1)), hlt1273, hrun, e.sub ⟨rfl, rfl, rfl, rfl, trivial⟩, hs⟩
              · · refine At.condF rfl (decide_eq_false h1275) ?_
                  refine At.exit ?_; refine At.the ?_; refine At.the ?_; exact fun a w e hs => J1274 x1061 (bdn hrun ho1269) a w (e.sub ⟨rfl, trivial⟩) hs
  · · rcases bite hrun with ⟨h1277, hrun⟩ | ⟨h1277, hrun⟩
      · · refine At.know (t := 9) rfl (decide_eq_true h1277) ?_
          refine At.run 9 rfl ?_; exact At.of (J457 true hrun) ⟨rfl, rfl, trivial⟩
      · · refine At.know (t := 9) rfl (decide_eq_false h1277) ?_
          refine At.run 4 rfl ?_; obtain ⟨G1479, hl1480, hr1481, hrun⟩ := bjoin hrun; refine At.joinO 4 (X := Bool) (fun x1478 => [(0, .string ⟨(a0).toArray⟩), (9, .bool false), (17, .bool x1478)]) (fun x1478 => Fr) (fun x1478 => G1479 (.inl x1478) = some r) ?_ (fun J1482 => ?_)
          · rintro x1478 hrun; have hrun := (hl1480 _).symm.trans hrun
            · refine At.run 1 rfl ?_; exact At.of (J457 x1478 hrun) ⟨rfl, rfl, trivial⟩
          · · rcases bite hrun with ⟨h1483, hrun⟩ | ⟨h1483, hrun⟩
              · · refine At.know (t := 13) rfl (decide_eq_true h1483) ?_
                  refine At.run 1 rfl ?_; obtain ⟨h1484, hrun⟩ := bnone hrun; refine At.y (Y.ixStr rfl rfl rfl rfl h1484.1 h1484.2) rfl rfl rfl ?_; refine At.run 2 rfl ?_; exact At.of (J1482 (decide (bat a0 0 = 48)) hrun) ⟨rfl, rfl, rfl, trivial⟩
              · · refine At.know (t := 13) rfl (decide_eq_false h1483) ?_
                  refine At.run 4 rfl ?_; exact At.of (J1482 false hrun) ⟨rfl, rfl, rfl, trivial⟩

noncomputable def scan_token.f (a0 : Bs) (a1 : Int) : Option (Int × Int × Int × Bs × Int) :=
 if (0 : Int) ≤ a1 ∧ a1 < (a0.length : Int) then
 (scan_kind.f (bat a0 a1)).bind fun t266 =>
 if (0 : Int) ≤ a1 ∧ a1 ≤ (a0.length : Int) then
 (scan_long.f t266 (a0.drop a1.toNat)).bind fun t272 =>
 if (0 : Int) ≤ a1 ∧ a1 ≤ IntKind.i64.wrap (a1 + t272) ∧ IntKind.i64.wrap (a1 + t272) ≤ (a0.length : Int) then
 if t266 = 0 then
 some (3, t266, a1, (bsl a0 a1 (IntKind.i64.wrap (a1 + t272))), 0)
 else
 if t266 = 2 then
 if 8 < ((bsl a0 a1 (IntKind.i64.wrap (a1 + t272))).length : Int) then
 some (5, t266, a1, (bsl a0 a1 (IntKind.i64.wrap (a1 + t272))), 0)
 else
 some (0, t266, a1, (bsl a0 a1 (IntKind.i64.wrap (a1 + t272))), 0)
 else
 if t266 = 3 then
 if 8 < ((bsl a0 a1 (IntKind.i64.wrap (a1 + t272))).length : Int) then
 some (5, t266, a1, (bsl a0 a1 (IntKind.i64.wrap (a1 + t272))), 0)
 else
 some (0, t266, a1, (bsl a0 a1 (IntKind.i64.wrap (a1 + t272))), 0)
 else
 if t266 = 4 then
 (scan_value.f (bsl a0 a1 (IntKind.i64.wrap (a1 + t272)))).bind fun t282 =>
 if t282.1 = true then
 some (0, t266, a1, (bsl a0 a1 (IntKind.i64.wrap (a1 + t272))), t282.2)
 else
 some (4, t266, a1, (bsl a0 a1 (IntKind.i64.wrap (a1 + t272))), 0)
 else
 some (0, t266, a1, (bsl a0 a1 (IntKind.i64.wrap (a1 + t272))), 0)
 else none
 else none
 else none
theorem scan_token.callee : Callee Go.Proofs.Tryz.prog 59 := ⟨_, Go.Proofs.Tryz.func59, by kernel_rfl, by kernel_rfl⟩
set_option maxRecDepth 100000 in
set_option maxHeartbeats 2000000 in
theorem scan_token.spec (R : Res) (Fr : List HProp)  (a0 : Bs) (a1 : Int)  {r : Int × Int × Int × Bs × Int} (hrun : scan_token.f a0 a1 = some r) :
    Spec Go.Proofs.Tryz.prog 59 [.string ⟨(a0).toArray⟩, .int .i64 a1] R (Fr) (fun v l' => v = .tuple #[.agg #[.int .i64 r.2.1, .int .i64 r.2.2.1, .string ⟨(r.2.2.2.1).toArray⟩, .int .i64 r.2.2.2.2], .int .i64 r.1] ∧ Fr = l') := by
  refine Spec.of Go.Proofs.Tryz.func59 rfl rfl ?_; unfold scan_token.f at hrun; have hrun := brun hrun; refine At.seq (At.region ?_); refine At.alloc rfl rfl rfl (fun b264 => ?_); refine At.run 1 rfl (At.nil (At.thn (At.seq (At.region (At.run 2 rfl ?_))))); obtain ⟨h265, hrun⟩ := bnone hrun; refine At.y (Y.ixStr rfl rfl rfl rfl h265.1 h265.2) rfl rfl rfl ?_; obtain ⟨t266, hc267, hrun⟩ := bbind hrun; refine At.call rfl scan_kind.callee rfl rfl rfl (scan_kind.spec _ _  (bat a0 a1)  hc267) ?_; rintro _ _ ⟨rfl, rfl⟩; refine At.run 1 rfl ?_; refine At.y (Y.build (is := [0, 1]) (xo := [.tmp 12, .tmp 13]) (vs := [.int .i64 t266, .int .i64 a1]) (cs := [.int .i64 t266, .int .i64 a1, .string ⟨(([] : Bs)).toArray⟩, .int .i64 0]) rfl rfl rfl rfl rfl rfl) rfl rfl rfl ?_; refine At.alloc rfl rfl rfl (fun b268 => ?_); refine At.store rfl rfl rfl rfl .z rfl rfl rfl (.c (.c (.c (.c .n)))) ?_; refine At.nil (At.thn (At.seq ?_)); refine At.held [pt b264 (.cells [.int .i64 0, .int .i64 0, .string ⟨(([] : Bs)).toArray⟩, .int .i64 0].toArray 91)] 13 rfl ?_; refine At.H.pv 0 rfl (by kernel_rfl) (by kernel_rfl) (by kernel_rfl) rfl rfl rfl rfl (.c (.s .z) .n) ?_; refine At.H.pv 1 rfl (by kernel_rfl) (by kernel_rfl) (by kernel_rfl) rfl rfl rfl rfl (.c (.s .z) .n) ?_; refine At.H.pv 2 rfl (by kernel_rfl) (by kernel_rfl) (by kernel_rfl) rfl rfl rfl rfl (.c (.s .z) .n) ?_; refine At.H.pv 3 rfl (by kernel_rfl) (by kernel_rfl) (by kernel_rfl) rfl rfl rfl rfl (.c (.s .z) .n) ?_; refine At.H.pv 5 rfl (by kernel_rfl) (by kernel_rfl) (by kernel_rfl) rfl rfl rfl rfl (.c (.s .z) .n) ?_; refine At.H.pv 6 rfl (by kernel_rfl) (by kernel_rfl) (by kernel_rfl) rfl rfl rfl rfl (.c (.s .z) .n) ?_; obtain ⟨h271, hrun⟩ := bnone hrun; refine At.H.take 7 rfl (by kernel_rfl) (by kernel_rfl) (by kernel_rfl) (Y.slStrL rfl rfl rfl rfl h271.1 h271.2) rfl rfl rfl (.c (.s .z) .n) ?_; refine At.H.all [4] (by kernel_rfl) rfl (all_cons ?_ all_nil)
  · · refine At.HO.op rfl ?_
      refine At.y (Y.load rfl rfl .z rfl rfl rfl) rfl rfl rfl ?_; refine At.HO.back (.c (.s .z) .n) ?_; refine At.H.all [8] (by kernel_rfl) rfl (all_cons ?_ all_nil)
      · · refine At.HO.op rfl ?_
          obtain ⟨t272, hc273, hrun⟩ := bbind hrun; refine At.call rfl scan_long.callee rfl rfl rfl (scan_long.spec _ _  t266 (a0.drop a1.toNat)  hc273) ?_; rintro _ _ ⟨rfl, rfl⟩; refine At.HO.back (.c (.s .z) .n) ?_; refine At.H.pv 9 rfl (by kernel_rfl) (by kernel_rfl) (by kernel_rfl) rfl rfl rfl rfl (.c (.s .z) .n) ?_; obtain ⟨h274, hrun⟩ := bnone hrun; refine At.H.take 10 rfl (by kernel_rfl) (by kernel_rfl) (by kernel_rfl) (Y.slStrLH rfl rfl rfl rfl rfl h274.1 h274.2.1 h274.2.2) rfl rfl rfl (.c (.s .z) .n) ?_; refine At.H.pv 11 rfl (by kernel_rfl) (by kernel_rfl) (by kernel_rfl) rfl rfl rfl rfl (.c (.s .z) .n) ?_; refine At.H.all [12] (by kernel_rfl) rfl (all_cons ?_ all_nil)
          · · refine At.HO.op rfl ?_
              refine At.store rfl rfl rfl rfl .z rfl rfl rfl (.s (.s (.c .n))) ?_; refine At.HO.back (.c (.s .z) .n) ?_; refine At.H.done (by kernel_rfl) ?_; refine At.thn (At.seq (At.seq (At.region (At.run 1 rfl ?_)))); refine At.y (Y.load rfl rfl .z rfl rfl rfl) rfl rfl rfl ?_; refine At.nil (At.thn ?_); refine At.block ?_; refine At.seq (At.region (At.run 2 rfl (At.nil (At.thn ?_)))); rcases bite hrun with ⟨h275, hrun⟩ | ⟨h275, hrun⟩
              · · refine At.condT rfl (decide_eq_true h275) ?_
                  refine At.seq (At.region ?_); refine At.y (Y.load rfl rfl .z rfl rfl rfl) rfl rfl rfl ?_; refine At.store rfl rfl rfl rfl (.s .z) rfl rfl rfl (.c (.c (.c (.c .n)))) ?_; refine At.run 1 rfl (At.nil (At.thn (At.ret ?_))); refine At.ibr ?_; refine At.thr ?_; refine At.resM (.inl rfl) rfl (RV.cell rfl rfl .z rfl rfl rfl (RV.tmp rfl RV.nil)) ?_; refine At.drop .z (At.drop .z ?_); obtain rfl := (bret hrun).symm; exact fun a w e hs => ⟨_, ⟨rfl, rfl⟩, hs⟩
              · · refine At.condF rfl (decide_eq_false h275) ?_
                  refine At.seq (At.seq (At.region (At.run 2 rfl (At.nil (At.thn ?_))))); rcases bite hrun with ⟨h276, hrun⟩ | ⟨h276, hrun⟩
                  · · refine At.condT rfl (decide_eq_true h276) ?_
                      refine At.skip (At.thn ?_); refine At.condT rfl (decide_eq_true h276) ?_; refine At.seq (At.region (At.run 1 rfl ?_)); refine At.y (Y.load rfl rfl .z rfl rfl rfl) rfl rfl rfl ?_; refine At.run 2 rfl (At.nil (At.thn ?_)); rcases bite hrun with ⟨h278, hrun⟩ | ⟨h278, hrun⟩
                      · · refine At.condT rfl (decide_eq_true h278) ?_
                          refine At.seq (At.region ?_); refine At.y (Y.load rfl rfl .z rfl rfl rfl) rfl rfl rfl ?_; refine At.store rfl rfl rfl rfl (.s .z) rfl rfl rfl (.c (.c (.c (.c .n)))) ?_; refine At.run 1 rfl (At.nil (At.thn (At.ret ?_))); refine At.ibr ?_; refine At.thr ?_; refine At.resM (.inl rfl) rfl (RV.cell rfl rfl .z rfl rfl rfl (RV.tmp rfl RV.nil)) ?_; refine At.drop .z (At.drop .z ?_); obtain rfl := (bret hrun).symm; exact fun a w e hs => ⟨_, ⟨rfl, rfl⟩, hs⟩
                      · · refine At.condF rfl (decide_eq_false h278) ?_
                          refine At.skip ?_; refine At.ibn ?_; refine At.thn (At.seq (At.region ?_)); refine At.y (Y.load rfl rfl .z rfl rfl rfl) rfl rfl rfl ?_; refine At.store rfl rfl rfl rfl (.s .z) rfl rfl rfl (.c (.c (.c (.c .n)))) ?_; refine At.run 1 rfl (At.nil (At.thn (At.ret ?_))); refine At.resM (.inl rfl) rfl (RV.cell rfl rfl .z rfl rfl rfl (RV.tmp rfl RV.nil)) ?_; refine At.drop .z (At.drop .z ?_); obtain rfl := (bret hrun).symm; exact fun a w e hs => ⟨_, ⟨rfl, rfl⟩, hs⟩
                  · · refine At.condF rfl (decide_eq_false h276) ?_
                      refine At.region (At.run 2 rfl (At.nil (At.thn ?_))); rcases bite hrun with ⟨h279, hrun⟩ | ⟨h279, hrun⟩
                      · · refine At.condT rfl (decide_eq_true h279) ?_
                          refine At.seq (At.region (At.run 1 rfl ?_)); refine At.y (Y.load rfl rfl .z rfl rfl rfl) rfl rfl rfl ?_; refine At.run 2 rfl (At.nil (At.thn ?_)); rcases bite hrun with ⟨h280, hrun⟩ | ⟨h280, hrun⟩
                          · · refine At.condT rfl (decide_eq_true h280) ?_
                              refine At.seq (At.region ?_); refine At.y (Y.load rfl rfl .z rfl rfl rfl) rfl rfl rfl ?_; refine At.store rfl rfl rfl rfl (.s .z) rfl rfl rfl (.c (.c (.c (.c .n)))) ?_; refine At.run 1 rfl (At.nil (At.thn (At.ret ?_))); refine At.ibr ?_; refine At.thr ?_; refine At.resM (.inl rfl) rfl (RV.cell rfl rfl .z rfl rfl rfl (RV.tmp rfl RV.nil)) ?_; refine At.drop .z (At.drop .z ?_); obtain rfl := (bret hrun).symm; exact fun a w e hs => ⟨_, ⟨rfl, rfl⟩, hs⟩
                          · · refine At.condF rfl (decide_eq_false h280) ?_
                              refine At.skip ?_; refine At.ibn ?_; refine At.thn (At.seq (At.region ?_)); refine At.y (Y.load rfl rfl .z rfl rfl rfl) rfl rfl rfl ?_; refine At.store rfl rfl rfl rfl (.s .z) rfl rfl rfl (.c (.c (.c (.c .n)))) ?_; refine At.run 1 rfl (At.nil (At.thn (At.ret ?_))); refine At.resM (.inl rfl) rfl (RV.cell rfl rfl .z rfl rfl rfl (RV.tmp rfl RV.nil)) ?_; refine At.drop .z (At.drop .z ?_); obtain rfl := (bret hrun).symm; exact fun a w e hs => ⟨_, ⟨rfl, rfl⟩, hs⟩
                      · · refine At.condF rfl (decide_eq_false h279) ?_
                          refine At.seq (At.region (At.run 2 rfl (At.nil (At.thn ?_)))); rcases bite hrun with ⟨h281, hrun⟩ | ⟨h281, hrun⟩
                          · · refine At.condT rfl (decide_eq_true h281) ?_
                              refine At.seq (At.region (At.run 1 rfl ?_)); refine At.y (Y.load rfl rfl .z rfl rfl rfl) rfl rfl rfl ?_; obtain ⟨t282, hc283, hrun⟩ := bbind hrun; refine At.call rfl scan_value.callee rfl rfl rfl (scan_value.spec _ _  (bsl a0 a1 (IntKind.i64.wrap (a1 + t272)))  hc283) ?_; rintro _ _ ⟨rfl, rfl⟩; refine At.run 5 rfl (At.nil (At.thn (At.seq (At.seq (At.region (At.run 2 rfl (At.nil ?_))))))); refine At.thn ?_; rcases bite hrun with ⟨h284, hrun⟩ | ⟨h284, hrun⟩
                              · · refine At.condF rfl (nf h284) ?_
                                  refine At.skip (At.thn (At.region (At.run 2 rfl ?_))); refine At.store rfl rfl rfl rfl .z rfl rfl rfl (.s (.s (.s (.c .n)))) ?_; refine At.nil ?_; refine At.ibn ?_; refine At.thn (At.seq (At.region ?_)); refine At.y (Y.load rfl rfl .z rfl rfl rfl) rfl rfl rfl ?_; refine At.store rfl rfl rfl rfl (.s .z) rfl rfl rfl (.c (.c (.c (.c .n)))) ?_; refine At.run 1 rfl (At.nil (At.thn (At.ret ?_))); refine At.resM (.inl rfl) rfl (RV.cell rfl rfl .z rfl rfl rfl (RV.tmp rfl RV.nil)) ?_; refine At.drop .z (At.drop .z ?_); obtain rfl := (bret hrun).symm; exact fun a w e hs => ⟨_, ⟨rfl, rfl⟩, hs⟩
                              · · refine At.condT rfl (nt (bn h284)) ?_
                                  refine At.seq (At.region ?_); refine At.y (Y.load rfl rfl .z rfl rfl rfl) rfl rfl rfl ?_; refine At.store rfl rfl rfl rfl (.s .z) rfl rfl rfl (.c (.c (.c (.c .n)))) ?_; refine At.run 1 rfl (At.nil (At.thn (At.ret (At.thr ?_)))); refine At.ibr ?_; refine At.thr ?_; refine At.resM (.inl rfl) rfl (RV.cell rfl rfl .z rfl rfl rfl (RV.tmp rfl RV.nil)) ?_; refine At.drop .z (At.drop .z ?_); obtain rfl := (bret hrun).symm; exact fun a w e hs => ⟨_, ⟨rfl, rfl⟩, hs⟩
                          · · refine At.condF rfl (decide_eq_false h281) ?_
                              refine At.skip ?_; refine At.ibn ?_; refine At.thn (At.seq (At.region ?_)); refine At.y (Y.load rfl rfl .z rfl rfl rfl) rfl rfl rfl ?_; refine At.store rfl rfl rfl rfl (.s .z) rfl rfl rfl (.c (.c (.c (.c .n)))) ?_; refine At.run 1 rfl (At.nil (At.thn (At.ret ?_))); refine At.resM (.inl rfl) rfl (RV.cell rfl rfl .z rfl rfl rfl (RV.tmp rfl RV.nil)) ?_; refine At.drop .z (At.drop .z ?_); obtain rfl := (bret hrun).symm; exact fun a w e hs => ⟨_, ⟨rfl, rfl⟩, hs⟩

noncomputable def scan_All.l0b (a0 : Bs) (x867 : List api_Token) (x872 : Int) : Option (((List api_Token) × Int) ⊕ (((List api_Token)) ⊕ ((Option api_Fault) × (List api_Token)))) :=
 if x872 < (a0.length : Int) then
 if (0 : Int) ≤ x872 ∧ x872 < (a0.length : Int) then
 jn (
 if bat a0 x872 = 32 then
 some (.inl true)
 else
 some (.inl (decide (bat a0 x872 = 9)))) (fun (x1297 : Bool) =>
 if x1297 = true then
 nx (x867, IntKind.i64.wrap (x872 + 1))
 else
 if bat a0 x872 = 35 then
 if (0 : Int) ≤ x872 ∧ x872 ≤ (a0.length : Int) then
 (strings_IndexByte.f (a0.drop x872.toNat) 10).bind fun t1305 =>
 if t1305 < 0 then
 nx (x867, IntKind.i64.wrap (x872 + (IntKind.i64.wrap ((a0.length : Int) - x872))))
 else
 nx (x867, IntKind.i64.wrap (x872 + t1305))
 else none
 else
 (scan_token.f a0 x872).bind fun t1308 =>
 if t1308.1 = 0 then
 if (x867.length + ([(⟨t1308.2.1, t1308.2.2.1, t1308.2.2.2.1, t1308.2.2.2.2⟩ : api_Token)] : List api_Token).length) * 40 ≤ 140737488355328 then
 nx ((x867 ++ ([(⟨t1308.2.1, t1308.2.2.1, t1308.2.2.2.1, t1308.2.2.2.2⟩ : api_Token)] : List api_Token)), IntKind.i64.wrap (x872 + (t1308.2.2.2.1.length : Int)))
 else none
 else
 upL (some ((some (⟨x872, t1308.1⟩ : api_Fault)), ([] : List api_Token))))
 else none
 else
 dn (.inl x867)
noncomputable def scan_All.l0 (a0 : Bs) (x867 : List api_Token) (x872 : Int) : Option (((List api_Token)) ⊕ ((Option api_Fault) × (List api_Token))) := iter (fun t_ : (List api_Token) × Int => scan_All.l0b a0 t_.1 t_.2) (x867, x872)
noncomputable def scan_All.f (a0 : Bs) : Option ((Option api_Fault) × (List api_Token)) :=
 if 262144 < (a0.length : Int) then
 some ((some (⟨262144, 2⟩ : api_Fault)), ([] : List api_Token))
 else
 jn (scan_All.l0 a0 ([] : List api_Token) 0) (fun (x1073 : List api_Token) =>
 if (x1073.length + ([(⟨0, (a0.length : Int), ([] : Bs), 0⟩ : api_Token)] : List api_Token).length) * 40 ≤ 140737488355328 then
 some (none, (x1073 ++ ([(⟨0, (a0.length : Int), ([] : Bs), 0⟩ : api_Token)] : List api_Token)))
 else none)
theorem scan_All.callee : Callee Go.Proofs.Tryz.prog 41 := ⟨_, Go.Proofs.Tryz.func41, by kernel_rfl, by kernel_rfl⟩
set_option maxRecDepth 100000 in
set_option maxHeartbeats 2000000 in
theorem scan_All.spec (R : Res) (Fr : List HProp)  (a0 : Bs)  {r : (Option api_Fault) × (List api_Token)} (hrun : scan_All.f a0 = some r) :
    Spec Go.Proofs.Tryz.prog 41 [.string ⟨(a0).toArray⟩] R (Fr) (fun v l' => ∃ (w251 : Option Nat) (w254 : Nat) (w256 : Option Addr) (w257 : Nat), v = .tuple #[.slice w256 w254 w257, opti 86 w251] ∧ row api_Token.fl 91 w256 w254 w257 r.2 :: optb (Ow.fl api_Fault.fl) 105 w251 r.1 :: Fr = l' ∧ r.2.length = w254) := by
  refine Spec.of Go.Proofs.Tryz.func41 rfl rfl ?_; unfold scan_All.f at hrun; have hrun := brun hrun; refine At.seq (At.region (At.run 2 rfl (At.nil (At.thn (At.seq (At.seq (At.region ?_))))))); refine At.run 3 rfl (At.nil (At.thn ?_)); rcases bite hrun with ⟨h258, hrun⟩ | ⟨h258, hrun⟩
  · · refine At.condT rfl (decide_eq_true h258) ?_
      refine At.seq (At.region ?_); refine At.y (Y.build (is := [0, 1]) (xo := [.const (.int .i64 262144), .const (.int .i64 2)]) (vs := [.int .i64 262144, .int .i64 2]) (cs := [.int .i64 262144, .int .i64 2]) rfl rfl rfl rfl rfl rfl) rfl rfl rfl ?_; refine At.box rfl rfl (cs := [.int .i64 262144, .int .i64 2]) rfl rfl (fun b259 => ?_); refine At.run 3 rfl (At.nil (At.thn (At.ret (At.thr ?_)))); refine At.nilRow api_Token.fl 91 ?_; refine At.f1 ?_; refine At.optSome (x := (⟨262144, 2⟩ : api_Fault)) (Ent.fl api_Fault.fl (x := (⟨262144, 2⟩ : api_Fault)) rfl) ?_; refine At.f1 ?_; obtain rfl := (bret hrun).symm; exact At.res (.inl rfl) rfl rfl ⟨(some b259), 0, none, 0, rfl, rfl, rfl⟩
  · · refine At.condF rfl (decide_eq_false h258) ?_
      refine At.skip (At.thn (At.seq (At.region (At.run 1 rfl (At.nil (At.thn (At.seq ?_))))))); refine At.seq (At.region (At.run 1 rfl (At.nil (At.thn ?_)))); refine At.block ?_; obtain ⟨G1078, hl1079, hr1080, hrun⟩ := bjoin hrun; obtain ⟨o1081, hlo1082, ho1083⟩ := bsome hrun; clear hrun; unfold scan_All.l0 at hlo1082; obtain ⟨m1084, hit1086⟩ := iter_some.1 hlo1082; clear hlo1082; refine At.nilRow api_Token.fl 91 ?_; refine At.loopJ (X := (List api_Token) × Int × Nat × (Option Addr) × Nat) (Y := (List api_Token) × Nat × (Option Addr) × Nat) (e0 := 0) (fun s_ => [(0, .string ⟨(a0).toArray⟩), (4, .slice s_.2.2.2.1 s_.2.2.1 s_.2.2.2.2), (5, .int .i64 s_.2.1)]) (fun s_ => row api_Token.fl 91 s_.2.2.2.1 s_.2.2.1 s_.2.2.2.2 s_.1 :: Fr) (fun m_ => fun s_ => iterN (fun t_ : (List api_Token) × Int => scan_All.l0b a0 t_.1 t_.2) m_ (s_.1, s_.2.1) = some o1081 ∧ s_.1.length = s_.2.2.1) m1084 (([] : List api_Token), 0, 0, none, 0) ⟨hit1086, rfl⟩ (fun s_ => [(0, .string ⟨(a0).toArray⟩), (4, .slice s_.2.2.1 s_.2.1 s_.2.2.2)]) (fun s_ => row api_Token.fl 91 s_.2.2.1 s_.2.1 s_.2.2.2 s_.1 :: Fr) (fun s_ => G1078 (.inl s_.1) = some r ∧ s_.1.length = s_.2.1) (fun a w e hs => ⟨e.sub ⟨rfl, rfl, rfl, trivial⟩, (by exact hs)⟩) ?_ (fun J1088 => ?_)
      · rintro ⟨x1073, w1074, w1076, w1077⟩ ⟨hrun, hn1075⟩; obtain rfl : x1073.length = w1074 := hn1075; have hrun := (hl1079 _).symm.trans hrun
        · refine At.ibx ?_; refine At.thn (At.seq (At.region (At.run 3 rfl ?_))); refine At.y (Y.build (is := [0, 1]) (xo := [.const (.int .i64 0), .tmp 72]) (vs := [.int .i64 0, .int .i64 (a0.length : Int)]) (cs := [.int .i64 0, .int .i64 (a0.length : Int), .string ⟨(([] : Bs)).toArray⟩, .int .i64 0]) rfl rfl rfl rfl rfl rfl) rfl rfl rfl ?_; refine At.lit rfl (xo := [.tmp 73]) (ys := ([(⟨0, (a0.length : Int), ([] : Bs), 0⟩ : api_Token)] : List api_Token)) api_Token.fl rfl rfl rfl rfl rfl rfl rfl rfl rfl rfl rfl (fun A1089 c1090 => ?_); obtain ⟨h1092, hrun⟩ := bnone hrun; refine At.append rfl (.s .z) (Src.own .z (by simp)) rfl rfl rfl rfl rfl rfl rfl rfl h1092 (by decide) rfl (fun A1093 c1094 => ?_); refine At.drop (.s .z) (At.run 2 rfl (At.nil (At.thn (At.ret ?_)))); refine At.optNone (Ow.fl api_Fault.fl) 105 ?_; refine At.f1 ?_; obtain rfl := (bret hrun).symm; exact At.res (.inl rfl) rfl rfl ⟨none, (x1073 ++ ([(⟨0, (a0.length : Int), ([] : Bs), 0⟩ : api_Token)] : List api_Token)).length, A1093, c1094, rfl, rfl, rfl⟩
      · clear hit1086 m1084; rintro m1084 ⟨x867, x872, w868, w870, w871⟩ ⟨hit1086, hn869⟩; obtain rfl : x867.length = w868 := hn869; obtain ⟨m1085, f_, hlt1087, hf_, hrun⟩ := bit hit1086; clear hit1086; have hrun : (scan_All.l0b a0 x867 x872).bind _ = some o1081 := hrun; unfold scan_All.l0b at hrun
        · refine At.seq (At.seq (At.region (At.run 4 rfl (At.nil (At.thn ?_))))); rcases bite hrun with ⟨h1095, hrun⟩ | ⟨h1095, hrun⟩
          · · refine At.condT rfl (decide_eq_true h1095) ?_
              refine At.skip (At.thn ?_); refine At.block ?_; refine At.seq (At.region (At.run 2 rfl ?_)); obtain ⟨h1096, hrun⟩ := bnone hrun; refine At.y (Y.ixStr rfl rfl rfl rfl h1096.1 h1096.2) rfl rfl rfl ?_; refine At.run 1 rfl (At.nil (At.thn ?_)); refine At.block ?_; refine At.seq (At.region (At.run 3 rfl ?_)); obtain ⟨G1298, hl1299, hr1300, hrun⟩ := bjoin hrun; refine At.joinO 3 (X := Bool) (fun x1297 => [(0, .string ⟨(a0).toArray⟩), (4, .slice w870 x867.length w871), (5, .int .i64 x872), (6, .int .u8 (bat a0 x872)), (51, .bool x1297)]) (fun x1297 => row api_Token.fl 91 w870 x867.length w871 x867 :: Fr) (fun x1297 => G1298 (.inl x1297) = some o1081) ?_ (fun J1301 => ?_)
              · rintro x1297 hrun; have hrun := (hl1299 _).symm.trans hrun
                · refine At.run 1 rfl (At.nil (At.thn ?_)); rcases bite hrun with ⟨h1302, hrun⟩ | ⟨h1302, hrun⟩
                  · · refine At.condT rfl h1302 ?_
                      refine At.region (At.run 3 rfl (At.nil ?_)); refine At.ibn ?_; refine At.ibn ?_; have hrun := bnx hf_ hrun; exact fun a w e hs => ⟨m1085, (x867, IntKind.i64.wrap (x872 + 1), x867.length, w870, w871), hlt1087, ⟨hrun, rfl⟩, e.sub ⟨rfl, rfl, rfl, trivial⟩, hs⟩
                  · · refine At.condF rfl (bn h1302) ?_
                      refine At.seq (At.region (At.run 3 rfl (At.nil (At.thn ?_)))); rcases bite hrun with ⟨h1303, hrun⟩ | ⟨h1303, hrun⟩
                      · · refine At.condT rfl (decide_eq_true h1303) ?_
                          refine At.seq (At.region (At.run 2 rfl ?_)); obtain ⟨h1304, hrun⟩ := bnone hrun; refine At.y (Y.slStrL rfl rfl rfl rfl h1304.1 h1304.2) rfl rfl rfl ?_; obtain ⟨t1305, hc1306, hrun⟩ := bbind hrun; refine At.call rfl strings_IndexByte.callee rfl rfl rfl (strings_IndexByte.spec _ _  (a0.drop x872.toNat) 10  hc1306) ?_; rintro _ _ ⟨rfl, rfl⟩; refine At.run 1 rfl (At.nil (At.thn (At.seq (At.seq (At.region (At.run 2 rfl (At.nil ?_))))))); refine At.thn ?_; rcases bite hrun with ⟨h1307, hrun⟩ | ⟨h1307, hrun⟩
                          · · refine At.condT rfl (decide_eq_true h1307) ?_
                              refine At.region (At.run 5 rfl (At.nil (At.thn (At.region (At.run 4 rfl (At.nil ?_)))))); refine At.ibn ?_; refine At.ibn ?_; have hrun := bnx hf_ hrun; exact fun a w e hs => ⟨m1085, (x867, IntKind.i64.wrap (x872 + (IntKind.i64.wrap ((a0.length : Int) - x872))), x867.length, w870, w871), hlt1087, ⟨hrun, rfl⟩, e.sub ⟨rfl, rfl, rfl, trivial⟩, hs⟩
                          · · refine At.condF rfl (decide_eq_false h1307) ?_
                              refine At.skip (At.thn (At.region (At.run 4 rfl (At.nil ?_)))); refine At.ibn ?_; refine At.ibn ?_; have hrun := bnx hf_ hrun; exact fun a w e hs => ⟨m1085, (x867, IntKind.i64.wrap (x872 + t1305), x867.length, w870, w871), hlt1087, ⟨hrun, rfl⟩, e.sub ⟨rfl, rfl, rfl, trivial⟩, hs⟩
                      · · refine At.condF rfl (decide_eq_false h1303) ?_
                          refine At.seq (At.region (At.run 2 rfl ?_)); obtain ⟨t1308, hc1309, hrun⟩ := bbind hrun; refine At.call rfl scan_token.callee rfl rfl rfl (scan_token.spec _ _  a0 x872  hc1309) ?_; rintro _ _ ⟨rfl, rfl⟩; refine At.run 3 rfl ?_; refine At.alloc rfl rfl rfl (fun b1310 => ?_); refine At.store rfl rfl rfl rfl .z rfl rfl rfl (.c (.c (.c (.c .n)))) ?_; refine At.run 1 rfl (At.nil (At.thn (At.seq (At.seq (At.region (At.run 2 rfl (At.nil ?_))))))); refine At.thn ?_; rcases bite hrun with ⟨h1311, hrun⟩ | ⟨h1311, hrun⟩
                          · · refine At.condF rfl (nf (decide_eq_true h1311)) ?_
                              refine At.skip (At.thn (At.seq (At.region (At.run 1 rfl ?_)))); refine At.y (Y.load rfl rfl .z rfl rfl rfl) rfl rfl rfl ?_; refine At.lit rfl (xo := [.tmp 37]) (ys := ([(⟨t1308.2.1, t1308.2.2.1, t1308.2.2.2.1, t1308.2.2.2.2⟩ : api_Token)] : List api_Token)) api_Token.fl rfl rfl rfl rfl rfl rfl rfl rfl rfl rfl rfl (fun A1312 c1313 => ?_); obtain ⟨h1315, hrun⟩ := bnone hrun; refine At.append rfl (.s (.s .z)) (Src.own .z (by simp)) rfl rfl rfl rfl rfl rfl rfl rfl h1315 (by decide) rfl (fun A1316 c1317 => ?_); refine At.drop (.s .z) (At.run 1 rfl (At.nil (At.thn (At.region (At.run 2 rfl ?_))))); refine At.y (Y.load rfl rfl (.s .z) rfl rfl rfl) rfl rfl rfl ?_; refine At.run 3 rfl (At.nil ?_); refine At.ibn ?_; refine At.ibn ?_; refine At.drop (.s .z) ?_; have hrun := bnx hf_ hrun; exact fun a w e hs => ⟨m1085, ((x867 ++ ([(⟨t1308.2.1, t1308.2.2.1, t1308.2.2.2.1, t1308.2.2.2.2⟩ : api_Token)] : List api_Token)), IntKind.i64.wrap (x872 + (t1308.2.2.2.1.length : Int)), (x867 ++ ([(⟨t1308.2.1, t1308.2.2.1, t1308.2.2.2.1, t1308.2.2.2.2⟩ : api_Token)] : List api_Token)).length, A1316, c1317), hlt1087, ⟨hrun, rfl⟩, e.sub ⟨rfl, rfl, rfl, trivial⟩, hs⟩
                          · · refine At.condT rfl (nt (decide_eq_false h1311)) ?_
                              refine At.seq (At.region (At.run 2 rfl ?_)); refine At.y (Y.build (is := [0, 1]) (xo := [.tmp 31, .tmp 32]) (vs := [.int .i64 x872, .int .i64 t1308.1]) (cs := [.int .i64 x872, .int .i64 t1308.1]) rfl rfl rfl rfl rfl rfl) rfl rfl rfl ?_; refine At.box rfl rfl (cs := [.int .i64 x872, .int .i64 t1308.1]) rfl rfl (fun b1318 => ?_); refine At.run 3 rfl (At.nil (At.thn (At.ret (At.thr ?_)))); refine At.ibr ?_; refine At.ibr ?_; have hrun := bupL hr1080 ho1083 hrun; refine At.thr ?_; refine At.ibr ?_; refine At.thr ?_; refine At.nilRow api_Token.fl 91 ?_; refine At.f1 ?_; refine At.optSome (x := (⟨x872, t1308.1⟩ : api_Fault)) (Ent.fl api_Fault.fl (x := (⟨x872, t1308.1⟩ : api_Fault)) rfl) ?_; refine At.drop (.s (.s .z)) (At.drop (.s (.s .z)) (At.f1 ?_)); obtain rfl := (bret hrun).symm; exact At.res (.inl rfl) rfl rfl ⟨(some b1318), 0, none, 0, rfl, rfl, rfl⟩
              · · rcases bite hrun with ⟨h1320, hrun⟩ | ⟨h1320, hrun⟩
                  · · refine At.know (t := 48) rfl (decide_eq_true h1320) ?_
                      refine At.run 3 rfl ?_; exact At.of (J1301 true hrun) ⟨rfl, rfl, rfl, rfl, rfl, trivial⟩
                  · · refine At.know (t := 48) rfl (decide_eq_false h1320) ?_
                      refine At.run 3 rfl ?_; exact At.of (J1301 (decide (bat a0 x872 = 9)) hrun) ⟨rfl, rfl, rfl, rfl, rfl, trivial⟩
          · · refine At.condF rfl (decide_eq_false h1095) ?_
              refine At.exit ?_; refine At.the ?_; refine At.the ?_; exact fun a w e hs => J1088 (x867, x867.length, w870, w871) ⟨(bdn hrun ho1083), rfl⟩ a w (e.sub ⟨rfl, rfl, trivial⟩) hs

noncomputable def lts_reader_blank.l0b  (x868 : List api_Token) : Option (((List api_Token)) ⊕ (((List api_Token)) ⊕ ((List api_Token)))) :=
 if (0 : Int) ≤ 0 ∧ 0 < (x868.length : Int) then
 if (gt x868 0).Kind = 1 then
 if (0 : Int) ≤ 1 ∧ 1 ≤ (x868.length : Int) then
 nx (x868.drop (1 : Int).toNat)
 else none
 else
 dn (.inl x868)
 else none
noncomputable def lts_reader_blank.l0  (x868 : List api_Token) : Option (((List api_Token)) ⊕ ((List api_Token))) := iter (fun t_ : (List api_Token) => lts_reader_blank.l0b  t_) x868
noncomputable def lts_reader_blank.f (a0_0 : List api_Token) (a0_1 : Option api_Fault) (a0_2 : Int) (a0_3 : List Bs) (a0_4 : List api_Edge) (a0_5 : List api_Prop) (a0_6 : List lts_step) (a0_7 : List (Bs × Bool)) : Option (List api_Token) :=
 jn (lts_reader_blank.l0  a0_0) (fun (x1075 : List api_Token) =>
 some x1075)
theorem lts_reader_blank.callee : Callee Go.Proofs.Tryz.prog 43 := ⟨_, Go.Proofs.Tryz.func43, by kernel_rfl, by kernel_rfl⟩
set_option maxRecDepth 100000 in
set_option maxHeartbeats 2000000 in
theorem lts_reader_blank.spec (R : Res) (Fr : List HProp) (b0 : Nat) (A0_0 : Option Addr) (n0_0 : Nat) (c0_0 : Nat) (p0_1 : Option Nat) (A0_3 : Option Addr) (n0_3 : Nat) (c0_3 : Nat) (A0_4 : Option Addr) (n0_4 : Nat) (c0_4 : Nat) (A0_5 : Option Addr) (n0_5 : Nat) (c0_5 : Nat) (A0_6 : Option Addr) (n0_6 : Nat) (c0_6 : Nat) (b0_7 : Nat) (a0_0 : List api_Token) (a0_1 : Option api_Fault) (a0_2 : Int) (a0_3 : List Bs) (a0_4 : List api_Edge) (a0_5 : List api_Prop) (a0_6 : List lts_step) (a0_7 : List (Bs × Bool)) (hr0_0 : RdS api_Token.fl.rep R.heap A0_0 a0_0) (hn0_0 : a0_0.length = n0_0) (hc0_0 : n0_0 ≤ c0_0) (hn0_3 : a0_3.length = n0_3) (hn0_4 : a0_4.length = n0_4) (hn0_5 : a0_5.length = n0_5) (hn0_6 : a0_6.length = n0_6) {r : (List api_Token)} (hrun : lts_reader_blank.f a0_0 a0_1 a0_2 a0_3 a0_4 a0_5 a0_6 a0_7 = some r) :
    Spec Go.Proofs.Tryz.prog 43 [.pointer (some ⟨b0, 0, none⟩)] R (pt b0 (.cells [.slice A0_0 n0_0 c0_0, optp p0_1, .int .i64 a0_2, .slice A0_3 n0_3 c0_3, .slice A0_4 n0_4 c0_4, .slice A0_5 n0_5 c0_5, .slice A0_6 n0_6 c0_6, .map (some b0_7)].toArray 89) :: optb (Ow.fl api_Fault.fl) 105 p0_1 a0_1 :: row Fl.bs 9 A0_3 n0_3 c0_3 a0_3 :: row api_Edge.fl 54 A0_4 n0_4 c0_4 a0_4 :: grow api_Prop.ow 57 A0_5 n0_5 c0_5 a0_5 :: row lts_step.fl 113 A0_6 n0_6 c0_6 a0_6 :: mapo Fl.bs.ov Fl.bool.ov b0_7 a0_7 :: Fr) (fun v l' => ∃ (w251 : Option Addr) (w252 : Nat) (w253 : Nat), v = .tuple #[] ∧ pt b0 (.cells [.slice w251 w252 w253, optp p0_1, .int .i64 a0_2, .slice A0_3 n0_3 c0_3, .slice A0_4 n0_4 c0_4, .slice A0_5 n0_5 c0_5, .slice A0_6 n0_6 c0_6, .map (some b0_7)].toArray 89) :: optb (Ow.fl api_Fault.fl) 105 p0_1 a0_1 :: row Fl.bs 9 A0_3 n0_3 c0_3 a0_3 :: row api_Edge.fl 54 A0_4 n0_4 c0_4 a0_4 :: grow api_Prop.ow 57 A0_5 n0_5 c0_5 a0_5 :: row lts_step.fl 113 A0_6 n0_6 c0_6 a0_6 :: mapo Fl.bs.ov Fl.bool.ov b0_7 a0_7 :: Fr = l' ∧ RdS api_Token.fl.rep R.heap w251 r ∧ r.length = w252 ∧ w252 ≤ w253) := by
  subst hn0_0; subst hn0_3; subst hn0_4; subst hn0_5; subst hn0_6; refine Spec.of Go.Proofs.Tryz.func43 rfl rfl ?_; unfold lts_reader_blank.f at hrun; have hrun := brun hrun; refine At.block ?_; obtain ⟨G1079, hl1080, hr1081, hrun⟩ := bjoin hrun; obtain ⟨o1082, hlo1083, ho1084⟩ := bsome hrun; clear hrun; unfold lts_reader_blank.l0 at hlo1083; obtain ⟨m1085, hit1087⟩ := iter_some.1 hlo1083; clear hlo1083; refine At.loopJ (X := (List api_Token) × (Option Addr) × Nat × Nat) (Y := (List api_Token) × (Option Addr) × Nat × Nat) (e0 := 0) (fun s_ => [(0, .pointer (some ⟨b0, 0, none⟩))]) (fun s_ => pt b0 (.cells [.slice s_.2.1 s_.2.2.1 s_.2.2.2, optp p0_1, .int .i64 a0_2, .slice A0_3 a0_3.length c0_3, .slice A0_4 a0_4.length c0_4, .slice A0_5 a0_5.length c0_5, .slice A0_6 a0_6.length c0_6, .map (some b0_7)].toArray 89) :: optb (Ow.fl api_Fault.fl) 105 p0_1 a0_1 :: row Fl.bs 9 A0_3 a0_3.length c0_3 a0_3 :: row api_Edge.fl 54 A0_4 a0_4.length c0_4 a0_4 :: grow api_Prop.ow 57 A0_5 a0_5.length c0_5 a0_5 :: row lts_step.fl 113 A0_6 a0_6.length c0_6 a0_6 :: mapo Fl.bs.ov Fl.bool.ov b0_7 a0_7 :: Fr) (fun m_ => fun s_ => iterN (fun t_ : (List api_Token) => lts_reader_blank.l0b  t_) m_ s_.1 = some o1082 ∧ RdS api_Token.fl.rep R.heap s_.2.1 s_.1 ∧ s_.1.length = s_.2.2.1 ∧ s_.2.2.1 ≤ s_.2.2.2) m1085 (a0_0, A0_0, a0_0.length, c0_0) ⟨hit1087, hr0_0, rfl, hc0_0⟩ (fun s_ => []) (fun s_ => pt b0 (.cells [.slice s_.2.1 s_.2.2.1 s_.2.2.2, optp p0_1, .int .i64 a0_2, .slice A0_3 a0_3.length c0_3, .slice A0_4 a0_4.length c0_4, .slice A0_5 a0_5.length c0_5, .slice A0_6 a0_6.length c0_6, .map (some b0_7)].toArray 89) :: optb (Ow.fl api_Fault.fl) 105 p0_1 a0_1 :: row Fl.bs 9 A0_3 a0_3.length c0_3 a0_3 :: row api_Edge.fl 54 A0_4 a0_4.length c0_4 a0_4 :: grow api_Prop.ow 57 A0_5 a0_5.length c0_5 a0_5 :: row lts_step.fl 113 A0_6 a0_6.length c0_6 a0_6 :: mapo Fl.bs.ov Fl.bool.ov b0_7 a0_7 :: Fr) (fun s_ => G1079 (.inl s_.1) = some r ∧ RdS api_Token.fl.rep R.heap s_.2.1 s_.1 ∧ s_.1.length = s_.2.2.1 ∧ s_.2.2.1 ≤ s_.2.2.2) (fun a w e hs => ⟨e.sub ⟨rfl, trivial⟩, (by exact hs)⟩) ?_ (fun J1089 => ?_)
  · rintro ⟨x1075, w1072, w1073, w1074⟩ ⟨hrun, hr1076, hn1077, hc1078⟩; obtain rfl : x1075.length = w1073 := hn1077; have hrun := (hl1080 _).symm.trans hrun
    · refine At.ibx ?_; obtain rfl := (bret hrun).symm; exact At.res (.inr rfl) rfl rfl ⟨w1072, x1075.length, w1074, rfl, rfl, hr1076, rfl, hc1078⟩
  · clear hit1087 m1085; rintro m1085 ⟨x868, w865, w866, w867⟩ ⟨hit1087, hr869, hn870, hc871⟩; obtain rfl : x868.length = w866 := hn870; obtain ⟨m1086, f_, hlt1088, hf_, hrun⟩ := bit hit1087; clear hit1087; have hrun : (lts_reader_blank.l0b  x868).bind _ = some o1082 := hrun; unfold lts_reader_blank.l0b at hrun
    · refine At.seq (At.seq (At.region (At.run 3 rfl ?_))); refine At.y (Y.load rfl rfl .z rfl rfl rfl) rfl rfl rfl ?_; obtain ⟨h1090, hrun⟩ := bnone hrun; refine At.y (Y.ixRd hr869 rfl rfl rfl rfl rfl rfl rfl h1090.1 h1090.2) rfl rfl rfl ?_; refine At.y (Y.fa (RdS.some_ hr869 rfl h1090.1 h1090.2) rfl rfl rfl rfl rfl rfl) rfl rfl rfl ?_; refine At.y (Y.ldFl hr869 rfl (q := 0) rfl rfl h1090.1 h1090.2 rfl rfl rfl) rfl rfl rfl ?_; refine At.run 1 rfl (At.nil (At.thn ?_)); rcases bite hrun with ⟨h1091, hrun⟩ | ⟨h1091, hrun⟩
      · · refine At.condT rfl (decide_eq_true h1091) ?_
          refine At.skip (At.thn ?_); refine At.block ?_; refine At.region (At.run 4 rfl ?_); refine At.y (Y.load rfl rfl .z rfl rfl rfl) rfl rfl rfl ?_; obtain ⟨h1092, hrun⟩ := bnone hrun; obtain ⟨A1093, hr1094, hc1095, hy1096⟩ := Y.slFromAt (P := Go.Proofs.Tryz.prog) (R := R) rfl hr869 hc871 h1092.1 h1092.2; refine At.y (hy1096 rfl rfl rfl rfl rfl rfl) rfl rfl rfl ?_; refine At.run 2 rfl ?_; refine At.store rfl rfl rfl rfl .z rfl rfl rfl (.c .n) ?_; refine At.nil ?_; refine At.ibn ?_; have hrun := bnx hf_ hrun; exact fun a w e hs => ⟨m1086, ((x868.drop (1 : Int).toNat), A1093, (x868.drop (1 : Int).toNat).length, (w867 - (1 : Int).toNat)), hlt1088, ⟨hrun, hr1094, rfl, hc1095⟩, e.sub ⟨rfl, trivial⟩, hs⟩
      · · refine At.condF rfl (decide_eq_false h1091) ?_
          refine At.exit ?_; refine At.the ?_; refine At.the ?_; exact fun a w e hs => J1089 (x868, w865, x868.length, w867) ⟨(bdn hrun ho1084), hr869, rfl, hc871⟩ a w (e.sub trivial) hs

noncomputable def lts_reader_fail.f (a0_0 : List api_Token) (a0_1 : Option api_Fault) (a0_2 : Int) (a0_3 : List Bs) (a0_4 : List api_Edge) (a0_5 : List api_Prop) (a0_6 : List lts_step) (a0_7 : List (Bs × Bool)) (a1_0 : Int) (a1_1 : Int) (a1_2 : Bs) (a1_3 : Int) (a2 : Int) : Option (Option api_Fault) :=
 if a0_1.isNone = true then
 some (some (⟨a1_1, a2⟩ : api_Fault))
 else
 some a0_1
theorem lts_reader_fail.callee : Callee Go.Proofs.Tryz.prog 47 := ⟨_, Go.Proofs.Tryz.func47, by kernel_rfl, by kernel_rfl⟩
set_option maxRecDepth 100000 in
set_option maxHeartbeats 2000000 in
theorem lts_reader_fail.spec (R : Res) (Fr : List HProp) (b0 : Nat) (A0_0 : Option Addr) (n0_0 : Nat) (c0_0 : Nat) (p0_1 : Option Nat) (A0_3 : Option Addr) (n0_3 : Nat) (c0_3 : Nat) (A0_4 : Option Addr) (n0_4 : Nat) (c0_4 : Nat) (A0_5 : Option Addr) (n0_5 : Nat) (c0_5 : Nat) (A0_6 : Option Addr) (n0_6 : Nat) (c0_6 : Nat) (b0_7 : Nat) (a0_0 : List api_Token) (a0_1 : Option api_Fault) (a0_2 : Int) (a0_3 : List Bs) (a0_4 : List api_Edge) (a0_5 : List api_Prop) (a0_6 : List lts_step) (a0_7 : List (Bs × Bool)) (a1_0 : Int) (a1_1 : Int) (a1_2 : Bs) (a1_3 : Int) (a2 : Int) (hr0_0 : RdS api_Token.fl.rep R.heap A0_0 a0_0) (hn0_0 : a0_0.length = n0_0) (hc0_0 : n0_0 ≤ c0_0) (hn0_3 : a0_3.length = n0_3) (hn0_4 : a0_4.length = n0_4) (hn0_5 : a0_5.length = n0_5) (hn0_6 : a0_6.length = n0_6) {r : (Option api_Fault)} (hrun : lts_reader_fail.f a0_0 a0_1 a0_2 a0_3 a0_4 a0_5 a0_6 a0_7 a1_0 a1_1 a1_2 a1_3 a2 = some r) :
    Spec Go.Proofs.Tryz.prog 47 [.pointer (some ⟨b0, 0, none⟩), .agg #[.int .i64 a1_0, .int .i64 a1_1, .string ⟨(a1_2).toArray⟩, .int .i64 a1_3], .int .i64 a2] R (pt b0 (.cells [.slice A0_0 n0_0 c0_0, optp p0_1, .int .i64 a0_2, .slice A0_3 n0_3 c0_3, .slice A0_4 n0_4 c0_4, .slice A0_5 n0_5 c0_5, .slice A0_6 n0_6 c0_6, .map (some b0_7)].toArray 89) :: optb (Ow.fl api_Fault.fl) 105 p0_1 a0_1 :: row Fl.bs 9 A0_3 n0_3 c0_3 a0_3 :: row api_Edge.fl 54 A0_4 n0_4 c0_4 a0_4 :: grow api_Prop.ow 57 A0_5 n0_5 c0_5 a0_5 :: row lts_step.fl 113 A0_6 n0_6 c0_6 a0_6 :: mapo Fl.bs.ov Fl.bool.ov b0_7 a0_7 :: Fr) (fun v l' => ∃ (w251 : Option Nat), v = .tuple #[] ∧ optb (Ow.fl api_Fault.fl) 105 w251 r :: pt b0 (.cells [.slice A0_0 n0_0 c0_0, optp w251, .int .i64 a0_2, .slice A0_3 n0_3 c0_3, .slice A0_4 n0_4 c0_4, .slice A0_5 n0_5 c0_5, .slice A0_6 n0_6 c0_6, .map (some b0_7)].toArray 89) :: row Fl.bs 9 A0_3 n0_3 c0_3 a0_3 :: row api_Edge.fl 54 A0_4 n0_4 c0_4 a0_4 :: grow api_Prop.ow 57 A0_5 n0_5 c0_5 a0_5 :: row lts_step.fl 113 A0_6 n0_6 c0_6 a0_6 :: mapo Fl.bs.ov Fl.bool.ov b0_7 a0_7 :: Fr = l') := by
  subst hn0_0; subst hn0_3; subst hn0_4; subst hn0_5; subst hn0_6; refine Spec.of Go.Proofs.Tryz.func47 rfl rfl ?_; unfold lts_reader_fail.f at hrun; have hrun := brun hrun; refine At.seq (At.region ?_); refine At.box rfl rfl (cs := [.int .i64 a1_0, .int .i64 a1_1, .string ⟨(a1_2).toArray⟩, .int .i64 a1_3]) rfl rfl (fun b254 => ?_); refine At.nil (At.thn (At.seq (At.region (At.run 3 rfl ?_)))); refine At.y (Y.load rfl rfl (.s .z) rfl rfl rfl) rfl rfl rfl ?_; refine At.y (Y.eqOpt (.s (.s .z)) rfl rfl rfl rfl) rfl rfl rfl ?_; refine At.nil (At.thn ?_); rcases bite hrun with ⟨h255, hrun⟩ | ⟨h255, hrun⟩
  · · refine At.condT rfl h255 ?_
      refine At.region (At.run 2 rfl ?_); refine At.y (Y.load rfl rfl .z rfl rfl rfl) rfl rfl rfl ?_; refine At.run 1 rfl ?_; refine At.y (Y.build (is := [0, 1]) (xo := [.tmp 13, .tmp 14]) (vs := [.int .i64 a1_1, .int .i64 a2]) (cs := [.int .i64 a1_1, .int .i64 a2]) rfl rfl rfl rfl rfl rfl) rfl rfl rfl ?_; refine At.box rfl rfl (cs := [.int .i64 a1_1, .int .i64 a2]) rfl rfl (fun b256 => ?_); refine At.run 2 rfl ?_; refine At.store rfl rfl rfl rfl (.s (.s .z)) rfl rfl rfl (.s (.c .n)) ?_; refine At.nil (At.f1 ?_); refine At.optSome (x := (⟨a1_1, a2⟩ : api_Fault)) (Ent.fl api_Fault.fl (x := (⟨a1_1, a2⟩ : api_Fault)) rfl) ?_; refine At.drop (.s (.s .z)) (At.drop (.s (.s .z)) ?_); obtain rfl := (bret hrun).symm; exact At.res (.inr rfl) rfl rfl ⟨(some b256), rfl, rfl⟩
  · · refine At.condF rfl (bn h255) ?_
      refine At.skip (At.drop .z (At.f6 (At.f6 (At.f6 (At.f6 (At.f6 (At.f5 ?_))))))); refine At.f6 ?_; obtain rfl := (bret hrun).symm; exact At.res (.inr rfl) rfl rfl ⟨p0_1, rfl, rfl⟩

noncomputable def lts_reader_want.f (a0_0 : List api_Token) (a0_1 : Option api_Fault) (a0_2 : Int) (a0_3 : List Bs) (a0_4 : List api_Edge) (a0_5 : List api_Prop) (a0_6 : List lts_step) (a0_7 : List (Bs × Bool)) (a1 : Int) : Option ((Option api_Fault) × (List api_Token) × Int × Int × Bs × Int) :=
 if a0_1.isNone = true then
 if (0 : Int) ≤ 0 ∧ 0 < (a0_0.length : Int) then
 jn (
 if (gt a0_0 0).Kind = a1 then
 if (0 : Int) ≤ 1 ∧ 1 ≤ (a0_0.length : Int) then
 up (some (a0_1, (a0_0.drop (1 : Int).toNat), (gt a0_0 0).Kind, (gt a0_0 0).At, (gt a0_0 0).Text, (gt a0_0 0).Number))
 else none
 else
 if (gt a0_0 0).Kind = 0 then
 (lts_reader_fail.f a0_0 a0_1 a0_2 a0_3 a0_4 a0_5 a0_6 a0_7 ((gt a0_0 0).Kind) ((gt a0_0 0).At) ((gt a0_0 0).Text) ((gt a0_0 0).Number) 6).bind fun t485 =>
 some (.inl t485)
 else
 (lts_reader_fail.f a0_0 a0_1 a0_2 a0_3 a0_4 a0_5 a0_6 a0_7 ((gt a0_0 0).Kind) ((gt a0_0 0).At) ((gt a0_0 0).Text) ((gt a0_0 0).Number) 7).bind fun t489 =>
 some (.inl t489)) (fun (x477 : Option api_Fault) =>
 some (x477, a0_0, 0, 0, ([] : Bs), 0))
 else none
 else
 some (a0_1, a0_0, 0, 0, ([] : Bs), 0)
theorem lts_reader_want.callee : Callee Go.Proofs.Tryz.prog 44 := ⟨_, Go.Proofs.Tryz.func44, by kernel_rfl, by kernel_rfl⟩
set_option maxRecDepth 100000 in
set_option maxHeartbeats 2000000 in
theorem lts_reader_want.spec (R : Res) (Fr : List HProp) (b0 : Nat) (A0_0 : Option Addr) (n0_0 : Nat) (c0_0 : Nat) (p0_1 : Option Nat) (A0_3 : Option Addr) (n0_3 : Nat) (c0_3 : Nat) (A0_4 : Option Addr) (n0_4 : Nat) (c0_4 : Nat) (A0_5 : Option Addr) (n0_5 : Nat) (c0_5 : Nat) (A0_6 : Option Addr) (n0_6 : Nat) (c0_6 : Nat) (b0_7 : Nat) (a0_0 : List api_Token) (a0_1 : Option api_Fault) (a0_2 : Int) (a0_3 : List Bs) (a0_4 : List api_Edge) (a0_5 : List api_Prop) (a0_6 : List lts_step) (a0_7 : List (Bs × Bool)) (a1 : Int) (hr0_0 : RdS api_Token.fl.rep R.heap A0_0 a0_0) (hn0_0 : a0_0.length = n0_0) (hc0_0 : n0_0 ≤ c0_0) (hn0_3 : a0_3.length = n0_3) (hn0_4 : a0_4.length = n0_4) (hn0_5 : a0_5.length = n0_5) (hn0_6 : a0_6.length = n0_6) {r : (Option api_Fault) × (List api_Token) × Int × Int × Bs × Int} (hrun : lts_reader_want.f a0_0 a0_1 a0_2 a0_3 a0_4 a0_5 a0_6 a0_7 a1 = some r) :
    Spec Go.Proofs.Tryz.prog 44 [.pointer (some ⟨b0, 0, none⟩), .int .i64 a1] R (pt b0 (.cells [.slice A0_0 n0_0 c0_0, optp p0_1, .int .i64 a0_2, .slice A0_3 n0_3 c0_3, .slice A0_4 n0_4 c0_4, .slice A0_5 n0_5 c0_5, .slice A0_6 n0_6 c0_6, .map (some b0_7)].toArray 89) :: optb (Ow.fl api_Fault.fl) 105 p0_1 a0_1 :: row Fl.bs 9 A0_3 n0_3 c0_3 a0_3 :: row api_Edge.fl 54 A0_4 n0_4 c0_4 a0_4 :: grow api_Prop.ow 57 A0_5 n0_5 c0_5 a0_5 :: row lts_step.fl 113 A0_6 n0_6 c0_6 a0_6 :: mapo Fl.bs.ov Fl.bool.ov b0_7 a0_7 :: Fr) (fun v l' => ∃ (w252 : Option Nat) (w258 : Option Addr) (w259 : Nat) (w260 : Nat), v = .agg #[.int .i64 r.2.2.1, .int .i64 r.2.2.2.1, .string ⟨(r.2.2.2.2.1).toArray⟩, .int .i64 r.2.2.2.2.2] ∧ optb (Ow.fl api_Fault.fl) 105 w252 r.1 :: pt b0 (.cells [.slice w258 w259 w260, optp w252, .int .i64 a0_2, .slice A0_3 n0_3 c0_3, .slice A0_4 n0_4 c0_4, .slice A0_5 n0_5 c0_5, .slice A0_6 n0_6 c0_6, .map (some b0_7)].toArray 89) :: row Fl.bs 9 A0_3 n0_3 c0_3 a0_3 :: row api_Edge.fl 54 A0_4 n0_4 c0_4 a0_4 :: grow api_Prop.ow 57 A0_5 n0_5 c0_5 a0_5 :: row lts_step.fl 113 A0_6 n0_6 c0_6 a0_6 :: mapo Fl.bs.ov Fl.bool.ov b0_7 a0_7 :: Fr = l' ∧ RdS api_Token.fl.rep R.heap w258 r.2.1 ∧ r.2.1.length = w259 ∧ w259 ≤ w260) := by
  subst hn0_0; subst hn0_3; subst hn0_4; subst hn0_5; subst hn0_6; refine Spec.of Go.Proofs.Tryz.func44 rfl rfl ?_; unfold lts_reader_want.f at hrun; have hrun := brun hrun; refine At.seq (At.region ?_); refine At.alloc rfl rfl rfl (fun b269 => ?_); refine At.nil (At.thn (At.seq (At.seq (At.region (At.run 3 rfl ?_))))); refine At.y (Y.load rfl rfl (.s .z) rfl rfl rfl) rfl rfl rfl ?_; refine At.y (Y.neOpt (.s (.s .z)) rfl rfl rfl rfl) rfl rfl rfl ?_; refine At.nil (At.thn ?_); rcases bite hrun with ⟨h270, hrun⟩ | ⟨h270, hrun⟩
  · · refine At.condF rfl (nf h270) ?_
      refine At.skip (At.thn (At.seq (At.region (At.run 3 rfl ?_)))); refine At.y (Y.load rfl rfl (.s .z) rfl rfl rfl) rfl rfl rfl ?_; obtain ⟨h271, hrun⟩ := bnone hrun; refine At.y (Y.ixRd hr0_0 rfl rfl rfl rfl rfl rfl rfl h271.1 h271.2) rfl rfl rfl ?_; refine At.y (Y.ldFl hr0_0 rfl (q := 0) rfl rfl h271.1 h271.2 rfl rfl rfl) rfl rfl rfl ?_; refine At.store rfl rfl rfl rfl .z rfl rfl rfl (.c (.c (.c (.c .n)))) ?_; refine At.nil (At.thn (At.seq ?_)); obtain ⟨G272, hl273, hr274, hrun⟩ := bjoin hrun; refine At.join (X := (Option api_Fault) × (Option Nat)) (fun s_ => [(4, .pointer (some ⟨b269, 0, none⟩))]) (fun s_ => optb (Ow.fl api_Fault.fl) 105 s_.2 s_.1 :: pt b0 (.cells [.slice A0_0 a0_0.length c0_0, optp s_.2, .int .i64 a0_2, .slice A0_3 a0_3.length c0_3, .slice A0_4 a0_4.length c0_4, .slice A0_5 a0_5.length c0_5, .slice A0_6 a0_6.length c0_6, .map (some b0_7)].toArray 89) :: row Fl.bs 9 A0_3 a0_3.length c0_3 a0_3 :: row api_Edge.fl 54 A0_4 a0_4.length c0_4 a0_4 :: grow api_Prop.ow 57 A0_5 a0_5.length c0_5 a0_5 :: row lts_step.fl 113 A0_6 a0_6.length c0_6 a0_6 :: mapo Fl.bs.ov Fl.bool.ov b0_7 a0_7 :: pt b269 (.cells [.int .i64 ((gt a0_0 0).Kind), .int .i64 ((gt a0_0 0).At), .string ⟨((gt a0_0 0).Text).toArray⟩, .int .i64 ((gt a0_0 0).Number)].toArray 91) :: Fr) (fun s_ => G272 (.inl s_.1) = some r) ?_ (fun J275 => ?_)
      · rintro ⟨x477, w476⟩ hrun; have hrun := (hl273 _).symm.trans hrun
        · refine At.seq (At.region ?_); refine At.y (Y.build (is := []) (xo := []) (vs := []) (cs := [.int .i64 0, .int .i64 0, .string ⟨(([] : Bs)).toArray⟩, .int .i64 0]) rfl rfl rfl rfl rfl rfl) rfl rfl rfl ?_; refine At.store rfl rfl rfl rfl (.s (.s (.s (.s (.s (.s (.s .z))))))) rfl rfl rfl (.c (.c (.c (.c .n)))) ?_; refine At.nil (At.thn (At.ret ?_)); refine At.resM (.inl rfl) rfl (RV.cell rfl rfl .z rfl rfl rfl RV.nil) ?_; refine At.drop .z ?_; obtain rfl := (bret hrun).symm; exact fun a w e hs => ⟨_, ⟨w476, A0_0, a0_0.length, c0_0, rfl, rfl, hr0_0, rfl, hc0_0⟩, hs⟩
      · · refine At.block ?_
          refine At.seq (At.region (At.run 1 rfl ?_)); refine At.y (Y.load rfl rfl .z rfl rfl rfl) rfl rfl rfl ?_; refine At.run 3 rfl (At.nil (At.thn ?_)); rcases bite hrun with ⟨h478, hrun⟩ | ⟨h478, hrun⟩
          · · refine At.condT rfl (decide_eq_true h478) ?_
              refine At.seq (At.region (At.run 4 rfl ?_)); refine At.y (Y.load rfl rfl (.s .z) rfl rfl rfl) rfl rfl rfl ?_; obtain ⟨h479, hrun⟩ := bnone hrun; obtain ⟨A480, hr481, hc482, hy483⟩ := Y.slFromAt (P := Go.Proofs.Tryz.prog) (R := R) rfl hr0_0 hc0_0 h479.1 h479.2; refine At.y (hy483 rfl rfl rfl rfl rfl rfl) rfl rfl rfl ?_; refine At.run 2 rfl ?_; refine At.store rfl rfl rfl rfl (.s .z) rfl rfl rfl (.c .n) ?_; refine At.nil (At.thn (At.seq (At.region ?_))); refine At.y (Y.load rfl rfl (.s .z) rfl rfl rfl) rfl rfl rfl ?_; refine At.store rfl rfl rfl rfl (.s .z) rfl rfl rfl (.c (.c (.c (.c .n)))) ?_; refine At.nil (At.thn (At.ret ?_)); refine At.ibr ?_; have hrun := bup hr274 hrun; refine At.thr ?_; refine At.resM (.inl rfl) rfl (RV.cell rfl rfl .z rfl rfl rfl RV.nil) ?_; refine At.drop .z (At.f6 (At.f6 (At.f6 (At.f6 (At.f6 (At.f5 (At.f6 ?_))))))); obtain rfl := (bret hrun).symm; exact fun a w e hs => ⟨_, ⟨p0_1, A480, (a0_0.drop (1 : Int).toNat).length, (c0_0 - (1 : Int).toNat), rfl, rfl, hr481, rfl, hc482⟩, hs⟩
          · · refine At.condF rfl (decide_eq_false h478) ?_
              refine At.seq (At.region (At.run 1 rfl ?_)); refine At.y (Y.load rfl rfl .z rfl rfl rfl) rfl rfl rfl ?_; refine At.run 2 rfl (At.nil (At.thn ?_)); rcases bite hrun with ⟨h484, hrun⟩ | ⟨h484, hrun⟩
              · · refine At.condT rfl (decide_eq_true h484) ?_
                  refine At.region (At.run 1 rfl ?_); refine At.y (Y.load rfl rfl .z rfl rfl rfl) rfl rfl rfl ?_; refine At.f7 (At.f7 (At.f7 (At.f7 (At.f7 (At.f7 (At.f7 ?_)))))); obtain ⟨t485, hc486, hrun⟩ := bbind hrun; refine At.call rfl lts_reader_fail.callee rfl rfl rfl (lts_reader_fail.spec _ _ b0 A0_0 a0_0.length c0_0 p0_1 A0_3 a0_3.length c0_3 A0_4 a0_4.length c0_4 A0_5 a0_5.length c0_5 A0_6 a0_6.length c0_6 b0_7 a0_0 a0_1 a0_2 a0_3 a0_4 a0_5 a0_6 a0_7 ((gt a0_0 0).Kind) ((gt a0_0 0).At) ((gt a0_0 0).Text) ((gt a0_0 0).Number) 6 hr0_0 rfl hc0_0 rfl rfl rfl rfl hc486) ?_; rintro _ _ ⟨w487, rfl, rfl⟩; refine At.nil ?_; refine At.ibn ?_; refine At.thn ?_; exact fun a w e hs => J275 (t485, w487) hrun a w (e.sub ⟨rfl, trivial⟩) hs
              · · refine At.condF rfl (decide_eq_false h484) ?_
                  refine At.region (At.run 1 rfl ?_); refine At.y (Y.load rfl rfl .z rfl rfl rfl) rfl rfl rfl ?_; refine At.f7 (At.f7 (At.f7 (At.f7 (At.f7 (At.f7 (At.f7 ?_)))))); obtain ⟨t489, hc490, hrun⟩ := bbind hrun; refine At.call rfl lts_reader_fail.callee rfl rfl rfl (lts_reader_fail.spec _ _ b0 A0_0 a0_0.length c0_0 p0_1 A0_3 a0_3.length c0_3 A0_4 a0_4.length c0_4 A0_5 a0_5.length c0_5 A0_6 a0_6.length c0_6 b0_7 a0_0 a0_1 a0_2 a0_3 a0_4 a0_5 a0_6 a0_7 ((gt a0_0 0).Kind) ((gt a0_0 0).At) ((gt a0_0 0).Text) ((gt a0_0 0).Number) 7 hr0_0 rfl hc0_0 rfl rfl rfl rfl hc490) ?_; rintro _ _ ⟨w491, rfl, rfl⟩; refine At.nil ?_; refine At.ibn ?_; refine At.thn ?_; exact fun a w e hs => J275 (t489, w491) hrun a w (e.sub ⟨rfl, trivial⟩) hs
  · · refine At.condT rfl (nt (bn h270)) ?_
      refine At.seq (At.region ?_); refine At.y (Y.load rfl rfl .z rfl rfl rfl) rfl rfl rfl ?_; refine At.store rfl rfl rfl rfl .z rfl rfl rfl (.c (.c (.c (.c .n)))) ?_; refine At.nil (At.thn (At.ret (At.thr ?_))); refine At.resM (.inl rfl) rfl (RV.cell rfl rfl .z rfl rfl rfl RV.nil) ?_; refine At.drop .z (At.f6 (At.f6 (At.f6 (At.f6 (At.f6 (At.f5 (At.f6 ?_))))))); obtain rfl := (bret hrun).symm; exact fun a w e hs => ⟨_, ⟨p0_1, A0_0, a0_0.length, c0_0, rfl, rfl, hr0_0, rfl, hc0_0⟩, hs⟩

noncomputable def lts_reader_ends.f (a0_0 : List api_Token) (a0_1 : Option api_Fault) (a0_2 : Int) (a0_3 : List Bs) (a0_4 : List api_Edge) (a0_5 : List api_Prop) (a0_6 : List lts_step) (a0_7 : List (Bs × Bool)) : Option Bool :=
 if (0 : Int) ≤ 0 ∧ 0 < (a0_0.length : Int) then
 jn (
 if (gt a0_0 0).Kind = 0 then
 some (.inl true)
 else
 some (.inl (decide ((gt a0_0 0).Kind = 1)))) (fun (x453 : Bool) =>
 some x453)
 else none
theorem lts_reader_ends.callee : Callee Go.Proofs.Tryz.prog 66 := ⟨_, Go.Proofs.Tryz.func66, by kernel_rfl, by kernel_rfl⟩
set_option maxRecDepth 100000 in
set_option maxHeartbeats 2000000 in
theorem lts_reader_ends.spec (R : Res) (Fr : List HProp) (b0 : Nat) (A0_0 : Option Addr) (n0_0 : Nat) (c0_0 : Nat) (p0_1 : Option Nat) (A0_3 : Option Addr) (n0_3 : Nat) (c0_3 : Nat) (A0_4 : Option Addr) (n0_4 : Nat) (c0_4 : Nat) (A0_5 : Option Addr) (n0_5 : Nat) (c0_5 : Nat) (A0_6 : Option Addr) (n0_6 : Nat) (c0_6 : Nat) (b0_7 : Nat) (a0_0 : List api_Token) (a0_1 : Option api_Fault) (a0_2 : Int) (a0_3 : List Bs) (a0_4 : List api_Edge) (a0_5 : List api_Prop) (a0_6 : List lts_step) (a0_7 : List (Bs × Bool)) (hr0_0 : RdS api_Token.fl.rep R.heap A0_0 a0_0) (hn0_0 : a0_0.length = n0_0) (hc0_0 : n0_0 ≤ c0_0) (hn0_3 : a0_3.length = n0_3) (hn0_4 : a0_4.length = n0_4) (hn0_5 : a0_5.length = n0_5) (hn0_6 : a0_6.length = n0_6) {r : Bool} (hrun : lts_reader_ends.f a0_0 a0_1 a0_2 a0_3 a0_4 a0_5 a0_6 a0_7 = some r) :
    Spec Go.Proofs.Tryz.prog 66 [.pointer (some ⟨b0, 0, none⟩)] R (pt b0 (.cells [.slice A0_0 n0_0 c0_0, optp p0_1, .int .i64 a0_2, .slice A0_3 n0_3 c0_3, .slice A0_4 n0_4 c0_4, .slice A0_5 n0_5 c0_5, .slice A0_6 n0_6 c0_6, .map (some b0_7)].toArray 89) :: optb (Ow.fl api_Fault.fl) 105 p0_1 a0_1 :: row Fl.bs 9 A0_3 n0_3 c0_3 a0_3 :: row api_Edge.fl 54 A0_4 n0_4 c0_4 a0_4 :: grow api_Prop.ow 57 A0_5 n0_5 c0_5 a0_5 :: row lts_step.fl 113 A0_6 n0_6 c0_6 a0_6 :: mapo Fl.bs.ov Fl.bool.ov b0_7 a0_7 :: Fr) (fun v l' => v = .bool r ∧ pt b0 (.cells [.slice A0_0 n0_0 c0_0, optp p0_1, .int .i64 a0_2, .slice A0_3 n0_3 c0_3, .slice A0_4 n0_4 c0_4, .slice A0_5 n0_5 c0_5, .slice A0_6 n0_6 c0_6, .map (some b0_7)].toArray 89) :: optb (Ow.fl api_Fault.fl) 105 p0_1 a0_1 :: row Fl.bs 9 A0_3 n0_3 c0_3 a0_3 :: row api_Edge.fl 54 A0_4 n0_4 c0_4 a0_4 :: grow api_Prop.ow 57 A0_5 n0_5 c0_5 a0_5 :: row lts_step.fl 113 A0_6 n0_6 c0_6 a0_6 :: mapo Fl.bs.ov Fl.bool.ov b0_7 a0_7 :: Fr = l') := by
  subst hn0_0; subst hn0_3; subst hn0_4; subst hn0_5; subst hn0_6; refine Spec.of Go.Proofs.Tryz.func66 rfl rfl ?_; unfold lts_reader_ends.f at hrun; have hrun := brun hrun; refine At.seq (At.region (At.run 1 rfl (At.nil (At.thn (At.seq (At.region (At.run 3 rfl ?_))))))); refine At.y (Y.load rfl rfl .z rfl rfl rfl) rfl rfl rfl ?_; obtain ⟨h252, hrun⟩ := bnone hrun; refine At.y (Y.ixRd hr0_0 rfl rfl rfl rfl rfl rfl rfl h252.1 h252.2) rfl rfl rfl ?_; refine At.y (Y.fa (RdS.some_ hr0_0 rfl h252.1 h252.2) rfl rfl rfl rfl rfl rfl) rfl rfl rfl ?_; refine At.y (Y.ldFl hr0_0 rfl (q := 0) rfl rfl h252.1 h252.2 rfl rfl rfl) rfl rfl rfl ?_; refine At.run 2 rfl ?_; obtain ⟨G454, hl455, hr456, hrun⟩ := bjoin hrun; refine At.joinO 9 (X := Bool) (fun x453 => [(20, .bool x453)]) (fun x453 => pt b0 (.cells [.slice A0_0 a0_0.length c0_0, optp p0_1, .int .i64 a0_2, .slice A0_3 a0_3.length c0_3, .slice A0_4 a0_4.length c0_4, .slice A0_5 a0_5.length c0_5, .slice A0_6 a0_6.length c0_6, .map (some b0_7)].toArray 89) :: optb (Ow.fl api_Fault.fl) 105 p0_1 a0_1 :: row Fl.bs 9 A0_3 a0_3.length c0_3 a0_3 :: row api_Edge.fl 54 A0_4 a0_4.length c0_4 a0_4 :: grow api_Prop.ow 57 A0_5 a0_5.length c0_5 a0_5 :: row lts_step.fl 113 A0_6 a0_6.length c0_6 a0_6 :: mapo Fl.bs.ov Fl.bool.ov b0_7 a0_7 :: Fr) (fun x453 => G454 (.inl x453) = some r) ?_ (fun J457 => ?_)
  · rintro x453 hrun; have hrun := (hl455 _).symm.trans hrun
    · refine At.run 1 rfl (At.nil (At.thn (At.ret ?_))); obtain rfl := (bret hrun).symm; exact At.res (.inl rfl) rfl rfl ⟨rfl, rfl⟩
  · · rcases bite hrun with ⟨h458, hrun⟩ | ⟨h458, hrun⟩
      · · refine At.know (t := 11) rfl (decide_eq_true h458) ?_
          refine At.run 9 rfl ?_; exact At.of (J457 true hrun) ⟨rfl, trivial⟩
      · · refine At.know (t := 11) rfl (decide_eq_false h458) ?_
          refine At.run 3 rfl ?_; refine At.y (Y.load rfl rfl .z rfl rfl rfl) rfl rfl rfl ?_; refine At.y (Y.ixRd hr0_0 rfl rfl rfl rfl rfl rfl rfl h252.1 h252.2) rfl rfl rfl ?_; refine At.y (Y.fa (RdS.some_ hr0_0 rfl h252.1 h252.2) rfl rfl rfl rfl rfl rfl) rfl rfl rfl ?_; refine At.y (Y.ldFl hr0_0 rfl (q := 0) rfl rfl h252.1 h252.2 rfl rfl rfl) rfl rfl rfl ?_; refine At.run 2 rfl ?_; exact At.of (J457 (decide ((gt a0_0 0).Kind = 1)) hrun) ⟨rfl, trivial⟩

noncomputable def lts_reader_end.f (a0_0 : List api_Token) (a0_1 : Option api_Fault) (a0_2 : Int) (a0_3 : List Bs) (a0_4 : List api_Edge) (a0_5 : List api_Prop) (a0_6 : List lts_step) (a0_7 : List (Bs × Bool)) : Option (Option api_Fault) :=
 (lts_reader_ends.f a0_0 a0_1 a0_2 a0_3 a0_4 a0_5 a0_6 a0_7).bind fun t253 =>
 if t253 = true then
 some a0_1
 else
 if (0 : Int) ≤ 0 ∧ 0 < (a0_0.length : Int) then
 (lts_reader_fail.f a0_0 a0_1 a0_2 a0_3 a0_4 a0_5 a0_6 a0_7 ((gt a0_0 0).Kind) ((gt a0_0 0).At) ((gt a0_0 0).Text) ((gt a0_0 0).Number) 7).bind fun t257 =>
 some t257
 else none
theorem lts_reader_end.callee : Callee Go.Proofs.Tryz.prog 60 := ⟨_, Go.Proofs.Tryz.func60, by kernel_rfl, by kernel_rfl⟩
set_option maxRecDepth 100000 in
set_option maxHeartbeats 2000000 in
theorem lts_reader_end.spec (R : Res) (Fr : List HProp) (b0 : Nat) (A0_0 : Option Addr) (n0_0 : Nat) (c0_0 : Nat) (p0_1 : Option Nat) (A0_3 : Option Addr) (n0_3 : Nat) (c0_3 : Nat) (A0_4 : Option Addr) (n0_4 : Nat) (c0_4 : Nat) (A0_5 : Option Addr) (n0_5 : Nat) (c0_5 : Nat) (A0_6 : Option Addr) (n0_6 : Nat) (c0_6 : Nat) (b0_7 : Nat) (a0_0 : List api_Token) (a0_1 : Option api_Fault) (a0_2 : Int) (a0_3 : List Bs) (a0_4 : List api_Edge) (a0_5 : List api_Prop) (a0_6 : List lts_step) (a0_7 : List (Bs × Bool)) (hr0_0 : RdS api_Token.fl.rep R.heap A0_0 a0_0) (hn0_0 : a0_0.length = n0_0) (hc0_0 : n0_0 ≤ c0_0) (hn0_3 : a0_3.length = n0_3) (hn0_4 : a0_4.length = n0_4) (hn0_5 : a0_5.length = n0_5) (hn0_6 : a0_6.length = n0_6) {r : (Option api_Fault)} (hrun : lts_reader_end.f a0_0 a0_1 a0_2 a0_3 a0_4 a0_5 a0_6 a0_7 = some r) :
    Spec Go.Proofs.Tryz.prog 60 [.pointer (some ⟨b0, 0, none⟩)] R (pt b0 (.cells [.slice A0_0 n0_0 c0_0, optp p0_1, .int .i64 a0_2, .slice A0_3 n0_3 c0_3, .slice A0_4 n0_4 c0_4, .slice A0_5 n0_5 c0_5, .slice A0_6 n0_6 c0_6, .map (some b0_7)].toArray 89) :: optb (Ow.fl api_Fault.fl) 105 p0_1 a0_1 :: row Fl.bs 9 A0_3 n0_3 c0_3 a0_3 :: row api_Edge.fl 54 A0_4 n0_4 c0_4 a0_4 :: grow api_Prop.ow 57 A0_5 n0_5 c0_5 a0_5 :: row lts_step.fl 113 A0_6 n0_6 c0_6 a0_6 :: mapo Fl.bs.ov Fl.bool.ov b0_7 a0_7 :: Fr) (fun v l' => ∃ (w251 : Option Nat), v = .tuple #[] ∧ pt b0 (.cells [.slice A0_0 n0_0 c0_0, optp w251, .int .i64 a0_2, .slice A0_3 n0_3 c0_3, .slice A0_4 n0_4 c0_4, .slice A0_5 n0_5 c0_5, .slice A0_6 n0_6 c0_6, .map (some b0_7)].toArray 89) :: optb (Ow.fl api_Fault.fl) 105 w251 r :: row Fl.bs 9 A0_3 n0_3 c0_3 a0_3 :: row api_Edge.fl 54 A0_4 n0_4 c0_4 a0_4 :: grow api_Prop.ow 57 A0_5 n0_5 c0_5 a0_5 :: row lts_step.fl 113 A0_6 n0_6 c0_6 a0_6 :: mapo Fl.bs.ov Fl.bool.ov b0_7 a0_7 :: Fr = l') := by
  subst hn0_0; subst hn0_3; subst hn0_4; subst hn0_5; subst hn0_6; refine Spec.of Go.Proofs.Tryz.func60 rfl rfl ?_; unfold lts_reader_end.f at hrun; have hrun := brun hrun; refine At.seq (At.region (At.run 1 rfl ?_)); obtain ⟨t253, hc254, hrun⟩ := bbind hrun; refine At.call rfl lts_reader_ends.callee rfl rfl rfl (lts_reader_ends.spec _ _ b0 A0_0 a0_0.length c0_0 p0_1 A0_3 a0_3.length c0_3 A0_4 a0_4.length c0_4 A0_5 a0_5.length c0_5 A0_6 a0_6.length c0_6 b0_7 a0_0 a0_1 a0_2 a0_3 a0_4 a0_5 a0_6 a0_7 hr0_0 rfl hc0_0 rfl rfl rfl rfl hc254) ?_; rintro _ _ ⟨rfl, rfl⟩; refine At.run 1 rfl (At.nil (At.thn ?_)); rcases bite hrun with ⟨h255, hrun⟩ | ⟨h255, hrun⟩
  · · refine At.condF rfl (nf h255) ?_
      refine At.skip ?_; obtain rfl := (bret hrun).symm; exact At.res (.inr rfl) rfl rfl ⟨p0_1, rfl, rfl⟩
  · · refine At.condT rfl (nt (bn h255)) ?_
      refine At.region (At.run 4 rfl ?_); refine At.y (Y.load rfl rfl .z rfl rfl rfl) rfl rfl rfl ?_; obtain ⟨h256, hrun⟩ := bnone hrun; refine At.y (Y.ixRd hr0_0 rfl rfl rfl rfl rfl rfl rfl h256.1 h256.2) rfl rfl rfl ?_; refine At.y (Y.ldFl hr0_0 rfl (q := 0) rfl rfl h256.1 h256.2 rfl rfl rfl) rfl rfl rfl ?_; obtain ⟨t257, hc258, hrun⟩ := bbind hrun; refine At.call rfl lts_reader_fail.callee rfl rfl rfl (lts_reader_fail.spec _ _ b0 A0_0 a0_0.length c0_0 p0_1 A0_3 a0_3.length c0_3 A0_4 a0_4.length c0_4 A0_5 a0_5.length c0_5 A0_6 a0_6.length c0_6 b0_7 a0_0 a0_1 a0_2 a0_3 a0_4 a0_5 a0_6 a0_7 ((gt a0_0 0).Kind) ((gt a0_0 0).At) ((gt a0_0 0).Text) ((gt a0_0 0).Number) 7 hr0_0 rfl hc0_0 rfl rfl rfl rfl hc258) ?_; rintro _ _ ⟨w259, rfl, rfl⟩; refine At.nil (At.f6 (At.f6 (At.f6 (At.f6 (At.f6 (At.f5 (At.f6 ?_))))))); obtain rfl := (bret hrun).symm; exact At.res (.inr rfl) rfl rfl ⟨w259, rfl, rfl⟩

noncomputable def lts_reader_head.f (a0_0 : List api_Token) (a0_1 : Option api_Fault) (a0_2 : Int) (a0_3 : List Bs) (a0_4 : List api_Edge) (a0_5 : List api_Prop) (a0_6 : List lts_step) (a0_7 : List (Bs × Bool)) : Option ((Option api_Fault) × (List api_Token) × Int) :=
 (lts_reader_blank.f a0_0 a0_1 a0_2 a0_3 a0_4 a0_5 a0_6 a0_7).bind fun t266 =>
 (lts_reader_want.f t266 a0_1 a0_2 a0_3 a0_4 a0_5 a0_6 a0_7 2).bind fun t274 =>
 jn (
 if t274.1.isNone = true then
 some (.inl (!(bseq t274.2.2.2.2.1 ([115, 116, 97, 116, 101, 115] : Bs))))
 else
 some (.inl false)) (fun (x485 : Bool) =>
 if x485 = true then
 (lts_reader_fail.f t274.2.1 t274.1 a0_2 a0_3 a0_4 a0_5 a0_6 a0_7 t274.2.2.1 t274.2.2.2.1 t274.2.2.2.2.1 t274.2.2.2.2.2 7).bind fun t491 =>
 (lts_reader_want.f t274.2.1 t491 a0_2 a0_3 a0_4 a0_5 a0_6 a0_7 4).bind fun t495 =>
 jn (
 if t495.1.isNone = true then
 jn (
 if t495.2.2.2.2.2 < 1 then
 some (.inl true)
 else
 some (.inl (decide (24 < t495.2.2.2.2.2)))) (fun (x923 : Bool) =>
 some (.inl x923))
 else
 some (.inl false)) (fun (x706 : Bool) =>
 if x706 = true then
 (lts_reader_fail.f t495.2.1 t495.1 t495.2.2.2.2.2 a0_3 a0_4 a0_5 a0_6 a0_7 t495.2.2.1 t495.2.2.2.1 t495.2.2.2.2.1 t495.2.2.2.2.2 8).bind fun t712 =>
 (lts_reader_end.f t495.2.1 t712 t495.2.2.2.2.2 a0_3 a0_4 a0_5 a0_6 a0_7).bind fun t716 =>
 some (t716, t495.2.1, t495.2.2.2.2.2)
 else
 (lts_reader_end.f t495.2.1 t495.1 t495.2.2.2.2.2 a0_3 a0_4 a0_5 a0_6 a0_7).bind fun t719 =>
 some (t719, t495.2.1, t495.2.2.2.2.2))
 else
 (lts_reader_want.f t274.2.1 t274.1 a0_2 a0_3 a0_4 a0_5 a0_6 a0_7 4).bind fun t929 =>
 jn (
 if t929.1.isNone = true then
 jn (
 if t929.2.2.2.2.2 < 1 then
 some (.inl true)
 else
 some (.inl (decide (24 < t929.2.2.2.2.2)))) (fun (x1357 : Bool) =>
 some (.inl x1357))
 else
 some (.inl false)) (fun (x1140 : Bool) =>
 if x1140 = true then
 (lts_reader_fail.f t929.2.1 t929.1 t929.2.2.2.2.2 a0_3 a0_4 a0_5 a0_6 a0_7 t929.2.2.1 t929.2.2.2.1 t929.2.2.2.2.1 t929.2.2.2.2.2 8).bind fun t1146 =>
 (lts_reader_end.f t929.2.1 t1146 t929.2.2.2.2.2 a0_3 a0_4 a0_5 a0_6 a0_7).bind fun t1150 =>
 some (t1150, t929.2.1, t929.2.2.2.2.2)
 else
 (lts_reader_end.f t929.2.1 t929.1 t929.2.2.2.2.2 a0_3 a0_4 a0_5 a0_6 a0_7).bind fun t1153 =>
 some (t1153, t929.2.1, t929.2.2.2.2.2)))
theorem lts_reader_head.callee : Callee Go.Proofs.Tryz.prog 42 := ⟨_, Go.Proofs.Tryz.func42, by kernel_rfl, by kernel_rfl⟩
set_option maxRecDepth 100000 in
set_option maxHeartbeats 2000000 in
theorem lts_reader_head.spec (R : Res) (Fr : List HProp) (b0 : Nat) (A0_0 : Option Addr) (n0_0 : Nat) (c0_0 : Nat) (p0_1 : Option Nat) (A0_3 : Option Addr) (n0_3 : Nat) (c0_3 : Nat) (A0_4 : Option Addr) (n0_4 : Nat) (c0_4 : Nat) (A0_5 : Option Addr) (n0_5 : Nat) (c0_5 : Nat) (A0_6 : Option Addr) (n0_6 : Nat) (c0_6 : Nat) (b0_7 : Nat) (a0_0 : List api_Token) (a0_1 : Option api_Fault) (a0_2 : Int) (a0_3 : List Bs) (a0_4 : List api_Edge) (a0_5 : List api_Prop) (a0_6 : List lts_step) (a0_7 : List (Bs × Bool)) (hr0_0 : RdS api_Token.fl.rep R.heap A0_0 a0_0) (hn0_0 : a0_0.length = n0_0) (hc0_0 : n0_0 ≤ c0_0) (hn0_3 : a0_3.length = n0_3) (hn0_4 : a0_4.length = n0_4) (hn0_5 : a0_5.length = n0_5) (hn0_6 : a0_6.length = n0_6) {r : (Option api_Fault) × (List api_Token) × Int} (hrun : lts_reader_head.f a0_0 a0_1 a0_2 a0_3 a0_4 a0_5 a0_6 a0_7 = some r) :
    Spec Go.Proofs.Tryz.prog 42 [.pointer (some ⟨b0, 0, none⟩)] R (pt b0 (.cells [.slice A0_0 n0_0 c0_0, optp p0_1, .int .i64 a0_2, .slice A0_3 n0_3 c0_3, .slice A0_4 n0_4 c0_4, .slice A0_5 n0_5 c0_5, .slice A0_6 n0_6 c0_6, .map (some b0_7)].toArray 89) :: optb (Ow.fl api_Fault.fl) 105 p0_1 a0_1 :: row Fl.bs 9 A0_3 n0_3 c0_3 a0_3 :: row api_Edge.fl 54 A0_4 n0_4 c0_4 a0_4 :: grow api_Prop.ow 57 A0_5 n0_5 c0_5 a0_5 :: row lts_step.fl 113 A0_6 n0_6 c0_6 a0_6 :: mapo Fl.bs.ov Fl.bool.ov b0_7 a0_7 :: Fr) (fun v l' => ∃ (w251 : Option Nat) (w254 : Option Addr) (w255 : Nat) (w256 : Nat), v = .tuple #[] ∧ optb (Ow.fl api_Fault.fl) 105 w251 r.1 :: pt b0 (.cells [.slice w254 w255 w256, optp w251, .int .i64 r.2.2, .slice A0_3 n0_3 c0_3, .slice A0_4 n0_4 c0_4, .slice A0_5 n0_5 c0_5, .slice A0_6 n0_6 c0_6, .map (some b0_7)].toArray 89) :: row Fl.bs 9 A0_3 n0_3 c0_3 a0_3 :: row api_Edge.fl 54 A0_4 n0_4 c0_4 a0_4 :: grow api_Prop.ow 57 A0_5 n0_5 c0_5 a0_5 :: row lts_step.fl 113 A0_6 n0_6 c0_6 a0_6 :: mapo Fl.bs.ov Fl.bool.ov b0_7 a0_7 :: Fr = l' ∧ RdS api_Token.fl.rep R.heap w254 r.2.1 ∧ r.2.1.length = w255 ∧ w255 ≤ w256) := by
  subst hn0_0; subst hn0_3; subst hn0_4; subst hn0_5; subst hn0_6; refine Spec.of Go.Proofs.Tryz.func42 rfl rfl ?_; unfold lts_reader_head.f at hrun; have hrun := brun hrun; refine At.seq (At.region (At.run 1 rfl ?_)); obtain ⟨t266, hc267, hrun⟩ := bbind hrun; refine At.call rfl lts_reader_blank.callee rfl rfl rfl (lts_reader_blank.spec _ _ b0 A0_0 a0_0.length c0_0 p0_1 A0_3 a0_3.length c0_3 A0_4 a0_4.length c0_4 A0_5 a0_5.length c0_5 A0_6 a0_6.length c0_6 b0_7 a0_0 a0_1 a0_2 a0_3 a0_4 a0_5 a0_6 a0_7 hr0_0 rfl hc0_0 rfl rfl rfl rfl hc267) ?_; rintro _ _ ⟨w268, w269, w270, rfl, rfl, hr271, rfl, hc273⟩; refine At.nil (At.thn (At.seq (At.seq (At.region (At.run 1 rfl ?_))))); obtain ⟨t274, hc275, hrun⟩ := bbind hrun; refine At.call rfl lts_reader_want.callee rfl rfl rfl (lts_reader_want.spec _ _ b0 w268 t266.length w270 p0_1 A0_3 a0_3.length c0_3 A0_4 a0_4.length c0_4 A0_5 a0_5.length c0_5 A0_6 a0_6.length c0_6 b0_7 t266 a0_1 a0_2 a0_3 a0_4 a0_5 a0_6 a0_7 2 hr271 rfl hc273 rfl rfl rfl rfl hc275) ?_; rintro _ _ ⟨w276, w277, w278, w279, rfl, rfl, hr280, rfl, hc282⟩; refine At.alloc rfl rfl rfl (fun b284 => ?_); refine At.store rfl rfl rfl rfl .z rfl rfl rfl (.c (.c (.c (.c .n)))) ?_; refine At.nil (At.thn (At.seq (At.region (At.run 3 rfl ?_)))); refine At.y (Y.load rfl rfl (.s (.s .z)) rfl rfl rfl) rfl rfl rfl ?_; refine At.y (Y.eqOpt (.s .z) rfl rfl rfl rfl) rfl rfl rfl ?_; refine At.run 1 rfl ?_; obtain ⟨G486, hl487, hr488, hrun⟩ := bjoin hrun; refine At.joinO 4 (X := Bool) (fun x485 => [(0, .pointer (some ⟨b0, 0, none⟩)), (2, .pointer (some ⟨b284, 0, none⟩)), (17, .bool x485)]) (fun x485 => pt b284 (.cells [.int .i64 t274.2.2.1, .int .i64 t274.2.2.2.1, .string ⟨(t274.2.2.2.2.1).toArray⟩, .int .i64 t274.2.2.2.2.2].toArray 91) :: optb (Ow.fl api_Fault.fl) 105 w276 t274.1 :: pt b0 (.cells [.slice w277 t274.2.1.length w279, optp w276, .int .i64 a0_2, .slice A0_3 a0_3.length c0_3, .slice A0_4 a0_4.length c0_4, .slice A0_5 a0_5.length c0_5, .slice A0_6 a0_6.length c0_6, .map (some b0_7)].toArray 89) :: row Fl.bs 9 A0_3 a0_3.length c0_3 a0_3 :: row api_Edge.fl 54 A0_4 a0_4.length c0_4 a0_4 :: grow api_Prop.ow 57 A0_5 a0_5.length c0_5 a0_5 :: row lts_step.fl 113 A0_6 a0_6.length c0_6 a0_6 :: mapo Fl.bs.ov Fl.bool.ov b0_7 a0_7 :: Fr) (fun x485 => G486 (.inl x485) = some r) ?_ (fun J489 => ?_)
  · rintro x485 hrun; have hrun := (hl487 _).symm.trans hrun
    · refine At.nil (At.thn ?_); rcases bite hrun with ⟨h490, hrun⟩ | ⟨h490, hrun⟩
      · · refine At.condT rfl h490 ?_
          refine At.region (At.run 1 rfl ?_); refine At.y (Y.load rfl rfl .z rfl rfl rfl) rfl rfl rfl ?_; refine At.f7 (At.f7 (At.f7 (At.f7 (At.f7 (At.f6 (At.f7 ?_)))))); obtain ⟨t491, hc492, hrun⟩ := bbind hrun; refine At.call rfl lts_reader_fail.callee rfl rfl rfl (lts_reader_fail.spec _ _ b0 w277 t274.2.1.length w279 w276 A0_3 a0_3.length c0_3 A0_4 a0_4.length c0_4 A0_5 a0_5.length c0_5 A0_6 a0_6.length c0_6 b0_7 t274.2.1 t274.1 a0_2 a0_3 a0_4 a0_5 a0_6 a0_7 t274.2.2.1 t274.2.2.2.1 t274.2.2.2.2.1 t274.2.2.2.2.2 7 hr280 rfl hc282 rfl rfl rfl rfl hc492) ?_; rintro _ _ ⟨w493, rfl, rfl⟩; refine At.nil (At.thn (At.seq (At.region (At.run 1 rfl (At.f6 (At.f6 (At.f6 ?_))))))); refine At.f6 (At.f6 (At.f5 (At.f6 ?_))); obtain ⟨t495, hc496, hrun⟩ := bbind hrun; refine At.call rfl lts_reader_want.callee rfl rfl rfl (lts_reader_want.spec _ _ b0 w277 t274.2.1.length w279 w493 A0_3 a0_3.length c0_3 A0_4 a0_4.length c0_4 A0_5 a0_5.length c0_5 A0_6 a0_6.length c0_6 b0_7 t274.2.1 t491 a0_2 a0_3 a0_4 a0_5 a0_6 a0_7 4 hr280 rfl hc282 rfl rfl rfl rfl hc496) ?_; rintro _ _ ⟨w497, w498, w499, w500, rfl, rfl, hr501, rfl, hc503⟩; refine At.alloc rfl rfl rfl (fun b505 => ?_); refine At.store rfl rfl rfl rfl .z rfl rfl rfl (.c (.c (.c (.c .n)))) ?_; refine At.nil (At.thn (At.seq (At.region (At.run 2 rfl ?_)))); refine At.y (Y.load rfl rfl .z rfl rfl rfl) rfl rfl rfl ?_; refine At.run 3 rfl ?_; refine At.store rfl rfl rfl rfl (.s (.s .z)) rfl rfl rfl (.s (.s (.c .n))) ?_; refine At.nil (At.thn (At.seq (At.seq (At.region (At.run 3 rfl ?_))))); refine At.y (Y.load rfl rfl .z rfl rfl rfl) rfl rfl rfl ?_; refine At.y (Y.eqOpt (.s (.s .z)) rfl rfl rfl rfl) rfl rfl rfl ?_; refine At.run 1 rfl ?_; obtain ⟨G707, hl708, hr709, hrun⟩ := bjoin hrun; refine At.joinO 9 (X := Bool) (fun x706 => [(0, .pointer (some ⟨b0, 0, none⟩)), (3, .pointer (some ⟨b505, 0, none⟩)), (43, .bool x706)]) (fun x706 => pt b0 (.cells [.slice w498 t495.2.1.length w500, optp w497, .int .i64 t495.2.2.2.2.2, .slice A0_3 a0_3.length c0_3, .slice A0_4 a0_4.length c0_4, .slice A0_5 a0_5.length c0_5, .slice A0_6 a0_6.length c0_6, .map (some b0_7)].toArray 89) :: pt b505 (.cells [.int .i64 t495.2.2.1, .int .i64 t495.2.2.2.1, .string ⟨(t495.2.2.2.2.1).toArray⟩, .int .i64 t495.2.2.2.2.2].toArray 91) :: optb (Ow.fl api_Fault.fl) 105 w497 t495.1 :: row Fl.bs 9 A0_3 a0_3.length c0_3 a0_3 :: row api_Edge.fl 54 A0_4 a0_4.length c0_4 a0_4 :: grow api_Prop.ow 57 A0_5 a0_5.length c0_5 a0_5 :: row lts_step.fl 113 A0_6 a0_6.length c0_6 a0_6 :: mapo Fl.bs.ov Fl.bool.ov b0_7 a0_7 :: pt b284 (.cells [.int .i64 t274.2.2.1, .int .i64 t274.2.2.2.1, .string ⟨(t274.2.2.2.2.1).toArray⟩, .int .i64 t274.2.2.2.2.2].toArray 91) :: Fr) (fun x706 => G707 (.inl x706) = some r) ?_ (fun J710 => ?_)
          · rintro x706 hrun; have hrun := (hl708 _).symm.trans hrun
            · refine At.nil (At.thn ?_); rcases bite hrun with ⟨h711, hrun⟩ | ⟨h711, hrun⟩
              · · refine At.condT rfl h711 ?_
                  refine At.region (At.run 1 rfl ?_); refine At.y (Y.load rfl rfl (.s .z) rfl rfl rfl) rfl rfl rfl ?_; refine At.f7 (At.f7 (At.f7 (At.f7 (At.f7 (At.f7 (At.f6 ?_)))))); obtain ⟨t712, hc713, hrun⟩ := bbind hrun; refine At.call rfl lts_reader_fail.callee rfl rfl rfl (lts_reader_fail.spec _ _ b0 w498 t495.2.1.length w500 w497 A0_3 a0_3.length c0_3 A0_4 a0_4.length c0_4 A0_5 a0_5.length c0_5 A0_6 a0_6.length c0_6 b0_7 t495.2.1 t495.1 t495.2.2.2.2.2 a0_3 a0_4 a0_5 a0_6 a0_7 t495.2.2.1 t495.2.2.2.1 t495.2.2.2.2.1 t495.2.2.2.2.2 8 hr501 rfl hc503 rfl rfl rfl rfl hc713) ?_; rintro _ _ ⟨w714, rfl, rfl⟩; refine At.nil (At.thn (At.region (At.run 1 rfl (At.f6 (At.f6 (At.f6 (At.f6 ?_))))))); refine At.f6 (At.f5 (At.f6 ?_)); obtain ⟨t716, hc717, hrun⟩ := bbind hrun; refine At.call rfl lts_reader_end.callee rfl rfl rfl (lts_reader_end.spec _ _ b0 w498 t495.2.1.length w500 w714 A0_3 a0_3.length c0_3 A0_4 a0_4.length c0_4 A0_5 a0_5.length c0_5 A0_6 a0_6.length c0_6 b0_7 t495.2.1 t712 t495.2.2.2.2.2 a0_3 a0_4 a0_5 a0_6 a0_7 hr501 rfl hc503 rfl rfl rfl rfl hc717) ?_; rintro _ _ ⟨w718, rfl, rfl⟩; refine At.nil (At.drop (.s (.s (.s (.s (.s (.s (.s .z))))))) (At.drop (.s (.s (.s (.s (.s (.s (.s .z))))))) (At.f6 (At.f6 (At.f6 (At.f6 (At.f6 ?_))))))); refine At.f5 (At.f6 ?_); obtain rfl := (bret hrun).symm; exact At.res (.inr rfl) rfl rfl ⟨w718, w498, t495.2.1.length, w500, rfl, rfl, hr501, rfl, hc503⟩
              · · refine At.condF rfl (bn h711) ?_
                  refine At.skip (At.thn (At.region (At.run 1 rfl (At.f7 (At.f7 (At.f7 (At.f7 ?_))))))); refine At.f7 (At.f7 (At.f6 ?_)); obtain ⟨t719, hc720, hrun⟩ := bbind hrun; refine At.call rfl lts_reader_end.callee rfl rfl rfl (lts_reader_end.spec _ _ b0 w498 t495.2.1.length w500 w497 A0_3 a0_3.length c0_3 A0_4 a0_4.length c0_4 A0_5 a0_5.length c0_5 A0_6 a0_6.length c0_6 b0_7 t495.2.1 t495.1 t495.2.2.2.2.2 a0_3 a0_4 a0_5 a0_6 a0_7 hr501 rfl hc503 rfl rfl rfl rfl hc720) ?_; rintro _ _ ⟨w721, rfl, rfl⟩; refine At.nil (At.drop (.s (.s (.s (.s (.s (.s (.s .z))))))) (At.drop (.s (.s (.s (.s (.s (.s (.s .z))))))) (At.f6 (At.f6 (At.f6 (At.f6 (At.f6 ?_))))))); refine At.f5 (At.f6 ?_); obtain rfl := (bret hrun).symm; exact At.res (.inr rfl) rfl rfl ⟨w721, w498, t495.2.1.length, w500, rfl, rfl, hr501, rfl, hc503⟩
          · · rcases bite hrun with ⟨h722, hrun⟩ | ⟨h722, hrun⟩
              · · refine At.know (t := 34) rfl h722 ?_
                  refine At.run 1 rfl ?_; refine At.y (Y.load rfl rfl (.s .z) rfl rfl rfl) rfl rfl rfl ?_; refine At.run 2 rfl ?_; obtain ⟨G924, hl925, hr926, hrun⟩ := bjoin hrun; refine At.joinO 4 (X := Bool) (fun x923 => [(0, .pointer (some ⟨b0, 0, none⟩)), (3, .pointer (some ⟨b505, 0, none⟩)), (34, .bool true), (42, .bool x923)]) (fun x923 => pt b0 (.cells [.slice w498 t495.2.1.length w500, optp w497, .int .i64 t495.2.2.2.2.2, .slice A0_3 a0_3.length c0_3, .slice A0_4 a0_4.length c0_4, .slice A0_5 a0_5.length c0_5, .slice A0_6 a0_6.length c0_6, .map (some b0_7)].toArray 89) :: pt b505 (.cells [.int .i64 t495.2.2.1, .int .i64 t495.2.2.2.1, .string ⟨(t495.2.2.2.2.1).toArray⟩, .int .i64 t495.2.2.2.2.2].toArray 91) :: optb (Ow.fl api_Fault.fl) 105 w497 t495.1 :: row Fl.bs 9 A0_3 a0_3.length c0_3 a0_3 :: row api_Edge.fl 54 A0_4 a0_4.length c0_4 a0_4 :: grow api_Prop.ow 57 A0_5 a0_5.length c0_5 a0_5 :: row lts_step.fl 113 A0_6 a0_6.length c0_6 a0_6 :: mapo Fl.bs.ov Fl.bool.ov b0_7 a0_7 :: pt b284 (.cells [.int .i64 t274.2.2.1, .int .i64 t274.2.2.2.1, .string ⟨(t274.2.2.2.2.1).toArray⟩, .int .i64 t274.2.2.2.2.2].toArray 91) :: Fr) (fun x923 => G924 (.inl x923) = some r) ?_ (fun J927 => ?_)
                  · rintro x923 hrun; have hrun := (hl925 _).symm.trans hrun
                    · refine At.run 1 rfl ?_; exact At.of (J710 x923 hrun) ⟨rfl, rfl, rfl, trivial⟩
                  · · rcases bite hrun with ⟨h928, hrun⟩ | ⟨h928, hrun⟩
                      · · refine At.know (t := 38) rfl (decide_eq_true h928) ?_
                          refine At.run 4 rfl ?_; exact At.of (J927 true hrun) ⟨rfl, rfl, rfl, rfl, trivial⟩
                      · · refine At.know (t := 38) rfl (decide_eq_false h928) ?_
                          refine At.run 1 rfl ?_; refine At.y (Y.load rfl rfl (.s .z) rfl rfl rfl) rfl rfl rfl ?_; refine At.run 2 rfl ?_; exact At.of (J927 (decide (24 < t495.2.2.2.2.2)) hrun) ⟨rfl, rfl, rfl, rfl, trivial⟩
              · · refine At.know (t := 34) rfl (bn h722) ?_
                  refine At.run 9 rfl ?_; exact At.of (J710 false hrun) ⟨rfl, rfl, rfl, trivial⟩
      · · refine At.condF rfl (bn h490) ?_
          refine At.skip (At.thn (At.seq (At.region (At.run 1 rfl (At.f7 (At.f7 (At.f7 ?_))))))); refine At.f7 (At.f7 (At.f6 (At.f7 ?_))); obtain ⟨t929, hc930, hrun⟩ := bbind hrun; refine At.call rfl lts_reader_want.callee rfl rfl rfl (lts_reader_want.spec _ _ b0 w277 t274.2.1.length w279 w276 A0_3 a0_3.length c0_3 A0_4 a0_4.length c0_4 A0_5 a0_5.length c0_5 A0_6 a0_6.length c0_6 b0_7 t274.2.1 t274.1 a0_2 a0_3 a0_4 a0_5 a0_6 a0_7 4 hr280 rfl hc282 rfl rfl rfl rfl hc930) ?_; rintro _ _ ⟨w931, w932, w933, w934, rfl, rfl, hr935, rfl, hc937⟩; refine At.alloc rfl rfl rfl (fun b939 => ?_); refine At.store rfl rfl rfl rfl .z rfl rfl rfl (.c (.c (.c (.c .n)))) ?_; refine At.nil (At.thn (At.seq (At.region (At.run 2 rfl ?_)))); refine At.y (Y.load rfl rfl .z rfl rfl rfl) rfl rfl rfl ?_; refine At.run 3 rfl ?_; refine At.store rfl rfl rfl rfl (.s (.s .z)) rfl rfl rfl (.s (.s (.c .n))) ?_; refine At.nil (At.thn (At.seq (At.seq (At.region (At.run 3 rfl ?_))))); refine At.y (Y.load rfl rfl .z rfl rfl rfl) rfl rfl rfl ?_; refine At.y (Y.eqOpt (.s (.s .z)) rfl rfl rfl rfl) rfl rfl rfl ?_; refine At.run 1 rfl ?_; obtain ⟨G1141, hl1142, hr1143, hrun⟩ := bjoin hrun; refine At.joinO 9 (X := Bool) (fun x1140 => [(0, .pointer (some ⟨b0, 0, none⟩)), (3, .pointer (some ⟨b939, 0, none⟩)), (43, .bool x1140)]) (fun x1140 => pt b0 (.cells [.slice w932 t929.2.1.length w934, optp w931, .int .i64 t929.2.2.2.2.2, .slice A0_3 a0_3.length c0_3, .slice A0_4 a0_4.length c0_4, .slice A0_5 a0_5.length c0_5, .slice A0_6 a0_6.length c0_6, .map (some b0_7)].toArray 89) :: pt b939 (.cells [.int .i64 t929.2.2.1, .int .i64 t929.2.2.2.1, .string ⟨(t929.2.2.2.2.1).toArray⟩, .int .i64 t929.2.2.2.2.2].toArray 91) :: optb (Ow.fl api_Fault.fl) 105 w931 t929.1 :: row Fl.bs 9 A0_3 a0_3.length c0_3 a0_3 :: row api_Edge.fl 54 A0_4 a0_4.length c0_4 a0_4 :: grow api_Prop.ow 57 A0_5 a0_5.length c0_5 a0_5 :: row lts_step.fl 113 A0_6 a0_6.length c0_6 a0_6 :: mapo Fl.bs.ov Fl.bool.ov b0_7 a0_7 :: pt b284 (.cells [.int .i64 t274.2.2.1, .int .i64 t274.2.2.2.1, .string ⟨(t274.2.2.2.2.1).toArray⟩, .int .i64 t274.2.2.2.2.2].toArray 91) :: Fr) (fun x1140 => G1141 (.inl x1140) = some r) ?_ (fun J1144 => ?_)
          · rintro x1140 hrun; have hrun := (hl1142 _).symm.trans hrun
            · refine At.nil (At.thn ?_); rcases bite hrun with ⟨h1145, hrun⟩ | ⟨h1145, hrun⟩
              · · refine At.condT rfl h1145 ?_
                  refine At.region (At.run 1 rfl ?_); refine At.y (Y.load rfl rfl (.s .z) rfl rfl rfl) rfl rfl rfl ?_; refine At.f7 (At.f7 (At.f7 (At.f7 (At.f7 (At.f7 (At.f6 ?_)))))); obtain ⟨t1146, hc1147, hrun⟩ := bbind hrun; refine At.call rfl lts_reader_fail.callee rfl rfl rfl (lts_reader_fail.spec _ _ b0 w932 t929.2.1.length w934 w931 A0_3 a0_3.length c0_3 A0_4 a0_4.length c0_4 A0_5 a0_5.length c0_5 A0_6 a0_6.length c0_6 b0_7 t929.2.1 t929.1 t929.2.2.2.2.2 a0_3 a0_4 a0_5 a0_6 a0_7 t929.2.2.1 t929.2.2.2.1 t929.2.2.2.2.1 t929.2.2.2.2.2 8 hr935 rfl hc937 rfl rfl rfl rfl hc1147) ?_; rintro _ _ ⟨w1148, rfl, rfl⟩; refine At.nil (At.thn (At.region (At.run 1 rfl (At.f6 (At.f6 (At.f6 (At.f6 ?_))))))); refine At.f6 (At.f5 (At.f6 ?_)); obtain ⟨t1150, hc1151, hrun⟩ := bbind hrun; refine At.call rfl lts_reader_end.callee rfl rfl rfl (lts_reader_end.spec _ _ b0 w932 t929.2.1.length w934 w1148 A0_3 a0_3.length c0_3 A0_4 a0_4.length c0_4 A0_5 a0_5.length c0_5 A0_6 a0_6.length c0_6 b0_7 t929.2.1 t1146 t929.2.2.2.2.2 a0_3 a0_4 a0_5 a0_6 a0_7 hr935 rfl hc937 rfl rfl rfl rfl hc1151) ?_; rintro _ _ ⟨w1152, rfl, rfl⟩; refine At.nil (At.drop (.s (.s (.s (.s (.s (.s (.s .z))))))) (At.drop (.s (.s (.s (.s (.s (.s (.s .z))))))) (At.f6 (At.f6 (At.f6 (At.f6 (At.f6 ?_))))))); refine At.f5 (At.f6 ?_); obtain rfl := (bret hrun).symm; exact At.res (.inr rfl) rfl rfl ⟨w1152, w932, t929.2.1.length, w934, rfl, rfl, hr935, rfl, hc937⟩
              · · refine At.condF rfl (bn h1145) ?_
                  refine At.skip (At.thn (At.region (At.run 1 rfl (At.f7 (At.f7 (At.f7 (At.f7 ?_))))))); refine At.f7 (At.f7 (At.f6 ?_)); obtain ⟨t1153, hc1154, hrun⟩ := bbind hrun; refine At.call rfl lts_reader_end.callee rfl rfl rfl (lts_reader_end.spec _ _ b0 w932 t929.2.1.length w934 w931 A0_3 a0_3.length c0_3 A0_4 a0_4.length c0_4 A0_5 a0_5.length c0_5 A0_6 a0_6.length c0_6 b0_7 t929.2.1 t929.1 t929.2.2.2.2.2 a0_3 a0_4 a0_5 a0_6 a0_7 hr935 rfl hc937 rfl rfl rfl rfl hc1154) ?_; rintro _ _ ⟨w1155, rfl, rfl⟩; refine At.nil (At.drop (.s (.s (.s (.s (.s (.s (.s .z))))))) (At.drop (.s (.s (.s (.s (.s (.s (.s .z))))))) (At.f6 (At.f6 (At.f6 (At.f6 (At.f6 ?_))))))); refine At.f5 (At.f6 ?_); obtain rfl := (bret hrun).symm; exact At.res (.inr rfl) rfl rfl ⟨w1155, w932, t929.2.1.length, w934, rfl, rfl, hr935, rfl, hc937⟩
          · · rcases bite hrun with ⟨h1156, hrun⟩ | ⟨h1156, hrun⟩
              · · refine At.know (t := 34) rfl h1156 ?_
                  refine At.run 1 rfl ?_; refine At.y (Y.load rfl rfl (.s .z) rfl rfl rfl) rfl rfl rfl ?_; refine At.run 2 rfl ?_; obtain ⟨G1358, hl1359, hr1360, hrun⟩ := bjoin hrun; refine At.joinO 4 (X := Bool) (fun x1357 => [(0, .pointer (some ⟨b0, 0, none⟩)), (3, .pointer (some ⟨b939, 0, none⟩)), (34, .bool true), (42, .bool x1357)]) (fun x1357 => pt b0 (.cells [.slice w932 t929.2.1.length w934, optp w931, .int .i64 t929.2.2.2.2.2, .slice A0_3 a0_3.length c0_3, .slice A0_4 a0_4.length c0_4, .slice A0_5 a0_5.length c0_5, .slice A0_6 a0_6.length c0_6, .map (some b0_7)].toArray 89) :: pt b939 (.cells [.int .i64 t929.2.2.1, .int .i64 t929.2.2.2.1, .string ⟨(t929.2.2.2.2.1).toArray⟩, .int .i64 t929.2.2.2.2.2].toArray 91) :: optb (Ow.fl api_Fault.fl) 105 w931 t929.1 :: row Fl.bs 9 A0_3 a0_3.length c0_3 a0_3 :: row api_Edge.fl 54 A0_4 a0_4.length c0_4 a0_4 :: grow api_Prop.ow 57 A0_5 a0_5.length c0_5 a0_5 :: row lts_step.fl 113 A0_6 a0_6.length c0_6 a0_6 :: mapo Fl.bs.ov Fl.bool.ov b0_7 a0_7 :: pt b284 (.cells [.int .i64 t274.2.2.1, .int .i64 t274.2.2.2.1, .string ⟨(t274.2.2.2.2.1).toArray⟩, .int .i64 t274.2.2.2.2.2].toArray 91) :: Fr) (fun x1357 => G1358 (.inl x1357) = some r) ?_ (fun J1361 => ?_)
                  · rintro x1357 hrun; have hrun := (hl1359 _).symm.trans hrun
                    · refine At.run 1 rfl ?_; exact At.of (J1144 x1357 hrun) ⟨rfl, rfl, rfl, trivial⟩
                  · · rcases bite hrun with ⟨h1362, hrun⟩ | ⟨h1362, hrun⟩
                      · · refine At.know (t := 38) rfl (decide_eq_true h1362) ?_
                          refine At.run 4 rfl ?_; exact At.of (J1361 true hrun) ⟨rfl, rfl, rfl, rfl, trivial⟩
                      · · refine At.know (t := 38) rfl (decide_eq_false h1362) ?_
                          refine At.run 1 rfl ?_; refine At.y (Y.load rfl rfl (.s .z) rfl rfl rfl) rfl rfl rfl ?_; refine At.run 2 rfl ?_; exact At.of (J1361 (decide (24 < t929.2.2.2.2.2)) hrun) ⟨rfl, rfl, rfl, rfl, trivial⟩
              · · refine At.know (t := 34) rfl (bn h1156) ?_
                  refine At.run 9 rfl ?_; exact At.of (J1144 false hrun) ⟨rfl, rfl, rfl, trivial⟩
  · · rcases bite hrun with ⟨h1363, hrun⟩ | ⟨h1363, hrun⟩
      · · refine At.know (t := 13) rfl h1363 ?_
          refine At.run 1 rfl ?_; refine At.y (Y.load rfl rfl .z rfl rfl rfl) rfl rfl rfl ?_; refine At.run 2 rfl ?_; exact At.of (J489 (!(bseq t274.2.2.2.2.1 ([115, 116, 97, 116, 101, 115] : Bs))) hrun) ⟨rfl, rfl, rfl, trivial⟩
      · · refine At.know (t := 13) rfl (bn h1363) ?_
          refine At.run 4 rfl ?_; exact At.of (J489 false hrun) ⟨rfl, rfl, rfl, trivial⟩

noncomputable def lts_reader_state.f (a0_0 : List api_Token) (a0_1 : Option api_Fault) (a0_2 : Int) (a0_3 : List Bs) (a0_4 : List api_Edge) (a0_5 : List api_Prop) (a0_6 : List lts_step) (a0_7 : List (Bs × Bool)) : Option ((Option api_Fault) × (List api_Token) × Int × Int × Int × Bs × Int) :=
 (lts_reader_want.f a0_0 a0_1 a0_2 a0_3 a0_4 a0_5 a0_6 a0_7 4).bind fun t276 =>
 jn (
 if t276.1.isNone = true then
 some (.inl (decide (a0_2 ≤ t276.2.2.2.2.2)))
 else
 some (.inl false)) (fun (x487 : Bool) =>
 if x487 = true then
 (lts_reader_fail.f t276.2.1 t276.1 a0_2 a0_3 a0_4 a0_5 a0_6 a0_7 t276.2.2.1 t276.2.2.2.1 t276.2.2.2.2.1 t276.2.2.2.2.2 8).bind fun t493 =>
 some (t493, t276.2.1, t276.2.2.2.2.2, t276.2.2.1, t276.2.2.2.1, t276.2.2.2.2.1, t276.2.2.2.2.2)
 else
 some (t276.1, t276.2.1, t276.2.2.2.2.2, t276.2.2.1, t276.2.2.2.1, t276.2.2.2.2.1, t276.2.2.2.2.2))
theorem lts_reader_state.callee : Callee Go.Proofs.Tryz.prog 61 := ⟨_, Go.Proofs.Tryz.func61, by kernel_rfl, by kernel_rfl⟩
set_option maxRecDepth 100000 in
set_option maxHeartbeats 2000000 in
theorem lts_reader_state.spec (R : Res) (Fr : List HProp) (b0 : Nat) (A0_0 : Option Addr) (n0_0 : Nat) (c0_0 : Nat) (p0_1 : Option Nat) (A0_3 : Option Addr) (n0_3 : Nat) (c0_3 : Nat) (A0_4 : Option Addr) (n0_4 : Nat) (c0_4 : Nat) (A0_5 : Option Addr) (n0_5 : Nat) (c0_5 : Nat) (A0_6 : Option Addr) (n0_6 : Nat) (c0_6 : Nat) (b0_7 : Nat) (a0_0 : List api_Token) (a0_1 : Option api_Fault) (a0_2 : Int) (a0_3 : List Bs) (a0_4 : List api_Edge) (a0_5 : List api_Prop) (a0_6 : List lts_step) (a0_7 : List (Bs × Bool)) (hr0_0 : RdS api_Token.fl.rep R.heap A0_0 a0_0) (hn0_0 : a0_0.length = n0_0) (hc0_0 : n0_0 ≤ c0_0) (hn0_3 : a0_3.length = n0_3) (hn0_4 : a0_4.length = n0_4) (hn0_5 : a0_5.length = n0_5) (hn0_6 : a0_6.length = n0_6) {r : (Option api_Fault) × (List api_Token) × Int × Int × Int × Bs × Int} (hrun : lts_reader_state.f a0_0 a0_1 a0_2 a0_3 a0_4 a0_5 a0_6 a0_7 = some r) :
    Spec Go.Proofs.Tryz.prog 61 [.pointer (some ⟨b0, 0, none⟩)] R (pt b0 (.cells [.slice A0_0 n0_0 c0_0, optp p0_1, .int .i64 a0_2, .slice A0_3 n0_3 c0_3, .slice A0_4 n0_4 c0_4, .slice A0_5 n0_5 c0_5, .slice A0_6 n0_6 c0_6, .map (some b0_7)].toArray 89) :: optb (Ow.fl api_Fault.fl) 105 p0_1 a0_1 :: row Fl.bs 9 A0_3 n0_3 c0_3 a0_3 :: row api_Edge.fl 54 A0_4 n0_4 c0_4 a0_4 :: grow api_Prop.ow 57 A0_5 n0_5 c0_5 a0_5 :: row lts_step.fl 113 A0_6 n0_6 c0_6 a0_6 :: mapo Fl.bs.ov Fl.bool.ov b0_7 a0_7 :: Fr) (fun v l' => ∃ (w252 : Option Nat) (w259 : Option Addr) (w260 : Nat) (w261 : Nat), v = .tuple #[.agg #[.int .i64 r.2.2.2.1, .int .i64 r.2.2.2.2.1, .string ⟨(r.2.2.2.2.2.1).toArray⟩, .int .i64 r.2.2.2.2.2.2], .int .i64 r.2.2.1] ∧ optb (Ow.fl api_Fault.fl) 105 w252 r.1 :: pt b0 (.cells [.slice w259 w260 w261, optp w252, .int .i64 a0_2, .slice A0_3 n0_3 c0_3, .slice A0_4 n0_4 c0_4, .slice A0_5 n0_5 c0_5, .slice A0_6 n0_6 c0_6, .map (some b0_7)].toArray 89) :: row Fl.bs 9 A0_3 n0_3 c0_3 a0_3 :: row api_Edge.fl 54 A0_4 n0_4 c0_4 a0_4 :: grow api_Prop.ow 57 A0_5 n0_5 c0_5 a0_5 :: row lts_step.fl 113 A0_6 n0_6 c0_6 a0_6 :: mapo Fl.bs.ov Fl.bool.ov b0_7 a0_7 :: Fr = l' ∧ RdS api_Token.fl.rep R.heap w259 r.2.1 ∧ r.2.1.length = w260 ∧ w260 ≤ w261) := by
  subst hn0_0; subst hn0_3; subst hn0_4; subst hn0_5; subst hn0_6; refine Spec.of Go.Proofs.Tryz.func61 rfl rfl ?_; unfold lts_reader_state.f at hrun; have hrun := brun hrun; refine At.seq (At.region ?_); refine At.alloc rfl rfl rfl (fun b275 => ?_); refine At.run 1 rfl (At.nil (At.thn (At.seq (At.region (At.run 1 rfl (At.f7 (At.f7 ?_))))))); refine At.f7 (At.f7 (At.f7 (At.f7 (At.f7 ?_)))); obtain ⟨t276, hc277, hrun⟩ := bbind hrun; refine At.call rfl lts_reader_want.callee rfl rfl rfl (lts_reader_want.spec _ _ b0 A0_0 a0_0.length c0_0 p0_1 A0_3 a0_3.length c0_3 A0_4 a0_4.length c0_4 A0_5 a0_5.length c0_5 A0_6 a0_6.length c0_6 b0_7 a0_0 a0_1 a0_2 a0_3 a0_4 a0_5 a0_6 a0_7 4 hr0_0 rfl hc0_0 rfl rfl rfl rfl hc277) ?_; rintro _ _ ⟨w278, w279, w280, w281, rfl, rfl, hr282, rfl, hc284⟩; refine At.alloc rfl rfl rfl (fun b286 => ?_); refine At.store rfl rfl rfl rfl .z rfl rfl rfl (.c (.c (.c (.c .n)))) ?_; refine At.nil (At.thn (At.seq (At.seq ?_))); refine At.quiet (by kernel_rfl) ?_; refine At.Quiet.run 3 rfl ?_; refine At.Quiet.y (Y.load rfl rfl (.s (.s .z)) rfl rfl rfl) rfl rfl rfl ?_; refine At.Quiet.y (Y.eqOpt (.s .z) rfl rfl rfl rfl) rfl rfl rfl ?_; refine At.Quiet.run 1 rfl ?_; obtain ⟨G488, hl489, hr490, hrun⟩ := bjoin hrun; refine At.Quiet.joinO 9 (X := Bool) (fun x487 => [(0, .pointer (some ⟨b0, 0, none⟩)), (2, .pointer (some ⟨b275, 0, none⟩)), (4, .pointer (some ⟨b286, 0, none⟩)), (21, .bool x487)]) (fun x487 => pt b286 (.cells [.int .i64 t276.2.2.1, .int .i64 t276.2.2.2.1, .string ⟨(t276.2.2.2.2.1).toArray⟩, .int .i64 t276.2.2.2.2.2].toArray 91) :: optb (Ow.fl api_Fault.fl) 105 w278 t276.1 :: pt b0 (.cells [.slice w279 t276.2.1.length w281, optp w278, .int .i64 a0_2, .slice A0_3 a0_3.length c0_3, .slice A0_4 a0_4.length c0_4, .slice A0_5 a0_5.length c0_5, .slice A0_6 a0_6.length c0_6, .map (some b0_7)].toArray 89) :: row Fl.bs 9 A0_3 a0_3.length c0_3 a0_3 :: row api_Edge.fl 54 A0_4 a0_4.length c0_4 a0_4 :: grow api_Prop.ow 57 A0_5 a0_5.length c0_5 a0_5 :: row lts_step.fl 113 A0_6 a0_6.length c0_6 a0_6 :: mapo Fl.bs.ov Fl.bool.ov b0_7 a0_7 :: pt b275 (.cells [.int .i64 0, .int .i64 0, .string ⟨(([] : Bs)).toArray⟩, .int .i64 0].toArray 91) :: Fr) (fun x487 => G488 (.inl x487) = some r) ?_ (fun J491 => ?_)
  · rintro x487 hrun; have hrun := (hl489 _).symm.trans hrun
    · refine At.Quiet.nil ?_; refine At.thn ?_; rcases bite hrun with ⟨h492, hrun⟩ | ⟨h492, hrun⟩
      · · refine At.condT rfl h492 ?_
          refine At.region (At.run 1 rfl ?_); refine At.y (Y.load rfl rfl .z rfl rfl rfl) rfl rfl rfl ?_; refine At.f7 (At.f7 (At.f7 (At.f7 (At.f7 (At.f6 (At.f7 ?_)))))); obtain ⟨t493, hc494, hrun⟩ := bbind hrun; refine At.call rfl lts_reader_fail.callee rfl rfl rfl (lts_reader_fail.spec _ _ b0 w279 t276.2.1.length w281 w278 A0_3 a0_3.length c0_3 A0_4 a0_4.length c0_4 A0_5 a0_5.length c0_5 A0_6 a0_6.length c0_6 b0_7 t276.2.1 t276.1 a0_2 a0_3 a0_4 a0_5 a0_6 a0_7 t276.2.2.1 t276.2.2.2.1 t276.2.2.2.2.1 t276.2.2.2.2.2 8 hr282 rfl hc284 rfl rfl rfl rfl hc494) ?_; rintro _ _ ⟨w495, rfl, rfl⟩; refine At.nil (At.thn (At.seq ?_)); refine At.held [optb (Ow.fl api_Fault.fl) 105 w495 t493, pt b0 (.cells [.slice w279 t276.2.1.length w281, optp w495, .int .i64 a0_2, .slice A0_3 a0_3.length c0_3, .slice A0_4 a0_4.length c0_4, .slice A0_5 a0_5.length c0_5, .slice A0_6 a0_6.length c0_6, .map (some b0_7)].toArray 89), row Fl.bs 9 A0_3 a0_3.length c0_3 a0_3, row api_Edge.fl 54 A0_4 a0_4.length c0_4 a0_4, grow api_Prop.ow 57 A0_5 a0_5.length c0_5 a0_5, row lts_step.fl 113 A0_6 a0_6.length c0_6 a0_6, mapo Fl.bs.ov Fl.bool.ov b0_7 a0_7, pt b286 (.cells [.int .i64 t276.2.2.1, .int .i64 t276.2.2.2.1, .string ⟨(t276.2.2.2.2.1).toArray⟩, .int .i64 t276.2.2.2.2.2].toArray 91)] 5 rfl ?_; refine At.H.take 0 rfl (by kernel_rfl) (by kernel_rfl) (by kernel_rfl) (Y.load rfl rfl (.s (.s (.s (.s (.s (.s (.s .z))))))) rfl rfl rfl) rfl rfl rfl (.c .z (.c .z (.c .z (.c .z (.c .z (.c .z (.c .z (.c .z .n)))))))) ?_; refine At.H.pv 1 rfl (by kernel_rfl) (by kernel_rfl) (by kernel_rfl) rfl rfl rfl rfl (.c .z (.c .z (.c .z (.c .z (.c .z (.c .z (.c .z (.c .z .n)))))))) ?_; refine At.H.take 2 rfl (by kernel_rfl) (by kernel_rfl) (by kernel_rfl) (Y.load rfl rfl (.s (.s (.s (.s (.s (.s (.s .z))))))) rfl rfl rfl) rfl rfl rfl (.c .z (.c .z (.c .z (.c .z (.c .z (.c .z (.c .z (.c .z .n)))))))) ?_; refine At.H.all [3] (by kernel_rfl) rfl (all_cons ?_ all_nil)
          · · refine At.HO.op rfl ?_
              refine At.store rfl rfl rfl rfl (.s (.s (.s (.s (.s (.s (.s (.s .z)))))))) rfl rfl rfl (.c (.c (.c (.c .n)))) ?_; refine At.HO.back (.c (.s .z) (.c (.s .z) (.c (.s .z) (.c (.s .z) (.c (.s .z) (.c (.s .z) (.c (.s .z) (.c (.s .z) .n)))))))) ?_; refine At.H.pv 4 rfl (by kernel_rfl) (by kernel_rfl) (by kernel_rfl) rfl rfl rfl rfl (.c (.s .z) (.c (.s .z) (.c (.s .z) (.c (.s .z) (.c (.s .z) (.c (.s .z) (.c (.s .z) (.c (.s .z) .n)))))))) ?_; refine At.H.done (by kernel_rfl) ?_; refine At.thn (At.ret ?_); refine At.resM (.inl rfl) rfl (RV.cell rfl rfl .z rfl rfl rfl (RV.tmp rfl RV.nil)) ?_; refine At.drop .z (At.drop (.s (.s (.s (.s (.s (.s (.s .z))))))) ?_); obtain rfl := (bret hrun).symm; exact fun a w e hs => ⟨_, ⟨w495, w279, t276.2.1.length, w281, rfl, rfl, hr282, rfl, hc284⟩, hs⟩
      · · refine At.condF rfl (bn h492) ?_
          refine At.skip (At.thn (At.seq ?_)); refine At.held [pt b286 (.cells [.int .i64 t276.2.2.1, .int .i64 t276.2.2.2.1, .string ⟨(t276.2.2.2.2.1).toArray⟩, .int .i64 t276.2.2.2.2.2].toArray 91), optb (Ow.fl api_Fault.fl) 105 w278 t276.1, pt b0 (.cells [.slice w279 t276.2.1.length w281, optp w278, .int .i64 a0_2, .slice A0_3 a0_3.length c0_3, .slice A0_4 a0_4.length c0_4, .slice A0_5 a0_5.length c0_5, .slice A0_6 a0_6.length c0_6, .map (some b0_7)].toArray 89), row Fl.bs 9 A0_3 a0_3.length c0_3 a0_3, row api_Edge.fl 54 A0_4 a0_4.length c0_4 a0_4, grow api_Prop.ow 57 A0_5 a0_5.length c0_5 a0_5, row lts_step.fl 113 A0_6 a0_6.length c0_6 a0_6, mapo Fl.bs.ov Fl.bool.ov b0_7 a0_7] 5 rfl ?_; refine At.H.take 0 rfl (by kernel_rfl) (by kernel_rfl) (by kernel_rfl) (Y.load rfl rfl .z rfl rfl rfl) rfl rfl rfl (.c .z (.c .z (.c .z (.c .z (.c .z (.c .z (.c .z (.c .z .n)))))))) ?_; refine At.H.pv 1 rfl (by kernel_rfl) (by kernel_rfl) (by kernel_rfl) rfl rfl rfl rfl (.c .z (.c .z (.c .z (.c .z (.c .z (.c .z (.c .z (.c .z .n)))))))) ?_; refine At.H.take 2 rfl (by kernel_rfl) (by kernel_rfl) (by kernel_rfl) (Y.load rfl rfl .z rfl rfl rfl) rfl rfl rfl (.c .z (.c .z (.c .z (.c .z (.c .z (.c .z (.c .z (.c .z .n)))))))) ?_; refine At.H.all [3] (by kernel_rfl) rfl (all_cons ?_ all_nil)
          · · refine At.HO.op rfl ?_
              refine At.store rfl rfl rfl rfl (.s (.s (.s (.s (.s (.s (.s (.s .z)))))))) rfl rfl rfl (.c (.c (.c (.c .n)))) ?_; refine At.HO.back (.c (.s .z) (.c (.s .z) (.c (.s .z) (.c (.s .z) (.c (.s .z) (.c (.s .z) (.c (.s .z) (.c (.s .z) .n)))))))) ?_; refine At.H.pv 4 rfl (by kernel_rfl) (by kernel_rfl) (by kernel_rfl) rfl rfl rfl rfl (.c (.s .z) (.c (.s .z) (.c (.s .z) (.c (.s .z) (.c (.s .z) (.c (.s .z) (.c (.s .z) (.c (.s .z) .n)))))))) ?_; refine At.H.done (by kernel_rfl) ?_; refine At.thn (At.ret ?_); refine At.resM (.inl rfl) rfl (RV.cell rfl rfl .z rfl rfl rfl (RV.tmp rfl RV.nil)) ?_; refine At.drop .z (At.drop .z ?_); obtain rfl := (bret hrun).symm; exact fun a w e hs => ⟨_, ⟨w278, w279, t276.2.1.length, w281, rfl, rfl, hr282, rfl, hc284⟩, hs⟩
  · · rcases bite hrun with ⟨h497, hrun⟩ | ⟨h497, hrun⟩
      · · refine At.Quiet.know (t := 12) rfl h497 ?_
          refine At.Quiet.run 1 rfl ?_; refine At.Quiet.y (Y.load rfl rfl .z rfl rfl rfl) rfl rfl rfl ?_; refine At.Quiet.run 4 rfl ?_; refine At.Quiet.y (Y.load rfl rfl (.s (.s .z)) rfl rfl rfl) rfl rfl rfl ?_; refine At.Quiet.run 2 rfl ?_; exact At.Quiet.of (J491 (decide (a0_2 ≤ t276.2.2.2.2.2)) hrun) ⟨rfl, rfl, rfl, rfl, trivial⟩
      · · refine At.Quiet.know (t := 12) rfl (bn h497) ?_
          refine At.Quiet.run 9 rfl ?_; exact At.Quiet.of (J491 false hrun) ⟨rfl, rfl, rfl, rfl, trivial⟩

noncomputable def lts_reader_named.f (a0_0 : List api_Token) (a0_1 : Option api_Fault) (a0_2 : Int) (a0_3 : List Bs) (a0_4 : List api_Edge) (a0_5 : List api_Prop) (a0_6 : List lts_step) (a0_7 : List (Bs × Bool)) : Option ((Option api_Fault) × (List api_Token) × Int × Int × Bs × Int) :=
 (lts_reader_want.f a0_0 a0_1 a0_2 a0_3 a0_4 a0_5 a0_6 a0_7 2).bind fun t275 =>
 jn (
 if t275.1.isNone = true then
 (lts_name.f t275.2.2.2.2.1).bind fun t497 =>
 some (.inl (!t497))
 else
 some (.inl false)) (fun (x486 : Bool) =>
 if x486 = true then
 (lts_reader_fail.f t275.2.1 t275.1 a0_2 a0_3 a0_4 a0_5 a0_6 a0_7 t275.2.2.1 t275.2.2.2.1 t275.2.2.2.2.1 t275.2.2.2.2.2 7).bind fun t492 =>
 some (t492, t275.2.1, t275.2.2.1, t275.2.2.2.1, t275.2.2.2.2.1, t275.2.2.2.2.2)
 else
 some (t275.1, t275.2.1, t275.2.2.1, t275.2.2.2.1, t275.2.2.2.2.1, t275.2.2.2.2.2))
theorem lts_reader_named.callee : Callee Go.Proofs.Tryz.prog 62 := ⟨_, Go.Proofs.Tryz.func62, by kernel_rfl, by kernel_rfl⟩
set_option maxRecDepth 100000 in
set_option maxHeartbeats 2000000 in
theorem lts_reader_named.spec (R : Res) (Fr : List HProp) (b0 : Nat) (A0_0 : Option Addr) (n0_0 : Nat) (c0_0 : Nat) (p0_1 : Option Nat) (A0_3 : Option Addr) (n0_3 : Nat) (c0_3 : Nat) (A0_4 : Option Addr) (n0_4 : Nat) (c0_4 : Nat) (A0_5 : Option Addr) (n0_5 : Nat) (c0_5 : Nat) (A0_6 : Option Addr) (n0_6 : Nat) (c0_6 : Nat) (b0_7 : Nat) (a0_0 : List api_Token) (a0_1 : Option api_Fault) (a0_2 : Int) (a0_3 : List Bs) (a0_4 : List api_Edge) (a0_5 : List api_Prop) (a0_6 : List lts_step) (a0_7 : List (Bs × Bool)) (hr0_0 : RdS api_Token.fl.rep R.heap A0_0 a0_0) (hn0_0 : a0_0.length = n0_0) (hc0_0 : n0_0 ≤ c0_0) (hn0_3 : a0_3.length = n0_3) (hn0_4 : a0_4.length = n0_4) (hn0_5 : a0_5.length = n0_5) (hn0_6 : a0_6.length = n0_6) {r : (Option api_Fault) × (List api_Token) × Int × Int × Bs × Int} (hrun : lts_reader_named.f a0_0 a0_1 a0_2 a0_3 a0_4 a0_5 a0_6 a0_7 = some r) :
    Spec Go.Proofs.Tryz.prog 62 [.pointer (some ⟨b0, 0, none⟩)] R (pt b0 (.cells [.slice A0_0 n0_0 c0_0, optp p0_1, .int .i64 a0_2, .slice A0_3 n0_3 c0_3, .slice A0_4 n0_4 c0_4, .slice A0_5 n0_5 c0_5, .slice A0_6 n0_6 c0_6, .map (some b0_7)].toArray 89) :: optb (Ow.fl api_Fault.fl) 105 p0_1 a0_1 :: row Fl.bs 9 A0_3 n0_3 c0_3 a0_3 :: row api_Edge.fl 54 A0_4 n0_4 c0_4 a0_4 :: grow api_Prop.ow 57 A0_5 n0_5 c0_5 a0_5 :: row lts_step.fl 113 A0_6 n0_6 c0_6 a0_6 :: mapo Fl.bs.ov Fl.bool.ov b0_7 a0_7 :: Fr) (fun v l' => ∃ (w252 : Option Nat) (w259 : Option Addr) (w260 : Nat) (w261 : Nat), v = .agg #[.int .i64 r.2.2.1, .int .i64 r.2.2.2.1, .string ⟨(r.2.2.2.2.1).toArray⟩, .int .i64 r.2.2.2.2.2] ∧ optb (Ow.fl api_Fault.fl) 105 w252 r.1 :: pt b0 (.cells [.slice w259 w260 w261, optp w252, .int .i64 a0_2, .slice A0_3 n0_3 c0_3, .slice A0_4 n0_4 c0_4, .slice A0_5 n0_5 c0_5, .slice A0_6 n0_6 c0_6, .map (some b0_7)].toArray 89) :: row Fl.bs 9 A0_3 n0_3 c0_3 a0_3 :: row api_Edge.fl 54 A0_4 n0_4 c0_4 a0_4 :: grow api_Prop.ow 57 A0_5 n0_5 c0_5 a0_5 :: row lts_step.fl 113 A0_6 n0_6 c0_6 a0_6 :: mapo Fl.bs.ov Fl.bool.ov b0_7 a0_7 :: Fr = l' ∧ RdS api_Token.fl.rep R.heap w259 r.2.1 ∧ r.2.1.length = w260 ∧ w260 ≤ w261) := by
  subst hn0_0; subst hn0_3; subst hn0_4; subst hn0_5; subst hn0_6; refine Spec.of Go.Proofs.Tryz.func62 rfl rfl ?_; unfold lts_reader_named.f at hrun; have hrun := brun hrun; refine At.seq (At.region ?_); refine At.alloc rfl rfl rfl (fun b274 => ?_); refine At.nil (At.thn (At.seq (At.region (At.run 1 rfl (At.f7 (At.f7 (At.f7 ?_))))))); refine At.f7 (At.f7 (At.f7 (At.f7 ?_))); obtain ⟨t275, hc276, hrun⟩ := bbind hrun; refine At.call rfl lts_reader_want.callee rfl rfl rfl (lts_reader_want.spec _ _ b0 A0_0 a0_0.length c0_0 p0_1 A0_3 a0_3.length c0_3 A0_4 a0_4.length c0_4 A0_5 a0_5.length c0_5 A0_6 a0_6.length c0_6 b0_7 a0_0 a0_1 a0_2 a0_3 a0_4 a0_5 a0_6 a0_7 2 hr0_0 rfl hc0_0 rfl rfl rfl rfl hc276) ?_; rintro _ _ ⟨w277, w278, w279, w280, rfl, rfl, hr281, rfl, hc283⟩; refine At.alloc rfl rfl rfl (fun b285 => ?_); refine At.store rfl rfl rfl rfl .z rfl rfl rfl (.c (.c (.c (.c .n)))) ?_; refine At.nil (At.thn (At.seq (At.seq (At.region (At.run 3 rfl ?_))))); refine At.y (Y.load rfl rfl (.s (.s .z)) rfl rfl rfl) rfl rfl rfl ?_; refine At.y (Y.eqOpt (.s .z) rfl rfl rfl rfl) rfl rfl rfl ?_; refine At.run 1 rfl ?_; obtain ⟨G487, hl488, hr489, hrun⟩ := bjoin hrun; refine At.joinO 5 (X := Bool) (fun x486 => [(0, .pointer (some ⟨b0, 0, none⟩)), (2, .pointer (some ⟨b274, 0, none⟩)), (3, .pointer (some ⟨b285, 0, none⟩)), (16, .bool x486)]) (fun x486 => pt b285 (.cells [.int .i64 t275.2.2.1, .int .i64 t275.2.2.2.1, .string ⟨(t275.2.2.2.2.1).toArray⟩, .int .i64 t275.2.2.2.2.2].toArray 91) :: optb (Ow.fl api_Fault.fl) 105 w277 t275.1 :: pt b0 (.cells [.slice w278 t275.2.1.length w280, optp w277, .int .i64 a0_2, .slice A0_3 a0_3.length c0_3, .slice A0_4 a0_4.length c0_4, .slice A0_5 a0_5.length c0_5, .slice A0_6 a0_6.length c0_6, .map (some b0_7)].toArray 89) :: row Fl.bs 9 A0_3 a0_3.length c0_3 a0_3 :: row api_Edge.fl 54 A0_4 a0_4.length c0_4 a0_4 :: grow api_Prop.ow 57 A0_5 a0_5.length c0_5 a0_5 :: row lts_step.fl 113 A0_6 a0_6.length c0_6 a0_6 :: mapo Fl.bs.ov Fl.bool.ov b0_7 a0_7 :: pt b274 (.cells [.int .i64 0, .int .i64 0, .string ⟨(([] : Bs)).toArray⟩, .int .i64 0].toArray 91) :: Fr) (fun x486 => G487 (.inl x486) = some r) ?_ (fun J490 => ?_)
  · rintro x486 hrun; have hrun := (hl488 _).symm.trans hrun
    · refine At.nil (At.thn ?_); rcases bite hrun with ⟨h491, hrun⟩ | ⟨h491, hrun⟩
      · · refine At.condT rfl h491 ?_
          refine At.region (At.run 1 rfl ?_); refine At.y (Y.load rfl rfl .z rfl rfl rfl) rfl rfl rfl ?_; refine At.f7 (At.f7 (At.f7 (At.f7 (At.f7 (At.f6 (At.f7 ?_)))))); obtain ⟨t492, hc493, hrun⟩ := bbind hrun; refine At.call rfl lts_reader_fail.callee rfl rfl rfl (lts_reader_fail.spec _ _ b0 w278 t275.2.1.length w280 w277 A0_3 a0_3.length c0_3 A0_4 a0_4.length c0_4 A0_5 a0_5.length c0_5 A0_6 a0_6.length c0_6 b0_7 t275.2.1 t275.1 a0_2 a0_3 a0_4 a0_5 a0_6 a0_7 t275.2.2.1 t275.2.2.2.1 t275.2.2.2.2.1 t275.2.2.2.2.2 7 hr281 rfl hc283 rfl rfl rfl rfl hc493) ?_; rintro _ _ ⟨w494, rfl, rfl⟩; refine At.nil (At.thn (At.seq (At.region ?_))); refine At.y (Y.load rfl rfl (.s (.s (.s (.s (.s (.s (.s .z))))))) rfl rfl rfl) rfl rfl rfl ?_; refine At.store rfl rfl rfl rfl (.s (.s (.s (.s (.s (.s (.s (.s .z)))))))) rfl rfl rfl (.c (.c (.c (.c .n)))) ?_; refine At.nil (At.thn (At.ret ?_)); refine At.resM (.inl rfl) rfl (RV.cell rfl rfl .z rfl rfl rfl RV.nil) ?_; refine At.drop .z (At.drop (.s (.s (.s (.s (.s (.s (.s .z))))))) ?_); obtain rfl := (bret hrun).symm; exact fun a w e hs => ⟨_, ⟨w494, w278, t275.2.1.length, w280, rfl, rfl, hr281, rfl, hc283⟩, hs⟩
      · · refine At.condF rfl (bn h491) ?_
          refine At.skip (At.thn (At.seq (At.region ?_))); refine At.y (Y.load rfl rfl .z rfl rfl rfl) rfl rfl rfl ?_; refine At.store rfl rfl rfl rfl (.s (.s (.s (.s (.s (.s (.s (.s .z)))))))) rfl rfl rfl (.c (.c (.c (.c .n)))) ?_; refine At.nil (At.thn (At.ret ?_)); refine At.resM (.inl rfl) rfl (RV.cell rfl rfl .z rfl rfl rfl RV.nil) ?_; refine At.drop .z (At.drop .z ?_); obtain rfl := (bret hrun).symm; exact fun a w e hs => ⟨_, ⟨w277, w278, t275.2.1.length, w280, rfl, rfl, hr281, rfl, hc283⟩, hs⟩
  · · rcases bite hrun with ⟨h496, hrun⟩ | ⟨h496, hrun⟩
      · · refine At.know (t := 11) rfl h496 ?_
          refine At.run 1 rfl ?_; refine At.y (Y.load rfl rfl .z rfl rfl rfl) rfl rfl rfl ?_; obtain ⟨t497, hc498, hrun⟩ := bbind hrun; refine At.call rfl lts_name.callee rfl rfl rfl (lts_name.spec _ _  t275.2.2.2.2.1  hc498) ?_; rintro _ _ ⟨rfl, rfl⟩; refine At.run 2 rfl ?_; exact At.of (J490 (!t497) hrun) ⟨rfl, rfl, rfl, rfl, trivial⟩
      · · refine At.know (t := 11) rfl (bn h496) ?_
          refine At.run 5 rfl ?_; exact At.of (J490 false hrun) ⟨rfl, rfl, rfl, rfl, trivial⟩

noncomputable def slices_Index_lts_step_lts_step.l0b (a0 : List lts_step) (a1_0 : Int) (a1_1 : Bs) (a1_2 : Int) (x855 : Int) : Option ((Int) ⊕ ((Unit) ⊕ (Int))) :=
 if x855 < (a0.length : Int) then
 if (0 : Int) ≤ x855 ∧ x855 < (a0.length : Int) then
 if (decide (a1_0 = (gt a0 x855).from_) && (bseq a1_1 ((gt a0 x855).action) && (decide (a1_2 = (gt a0 x855).to) && true))) = true then
 upL (some x855)
 else
 nx (IntKind.i64.wrap (x855 + 1))
 else none
 else
 dn (.inl ())
noncomputable def slices_Index_lts_step_lts_step.l0 (a0 : List lts_step) (a1_0 : Int) (a1_1 : Bs) (a1_2 : Int) (x855 : Int) : Option ((Unit) ⊕ (Int)) := iter (fun t_ : Int => slices_Index_lts_step_lts_step.l0b a0 a1_0 a1_1 a1_2 t_) x855
noncomputable def slices_Index_lts_step_lts_step.f (a0 : List lts_step) (a1_0 : Int) (a1_1 : Bs) (a1_2 : Int) : Option Int :=
 jn (slices_Index_lts_step_lts_step.l0 a0 a1_0 a1_1 a1_2 0) (fun (_ : Unit) =>
 some (-1))
theorem slices_Index_lts_step_lts_step.callee : Callee Go.Proofs.Tryz.prog 79 := ⟨_, Go.Proofs.Tryz.func79, by kernel_rfl, by kernel_rfl⟩
set_option maxRecDepth 100000 in
set_option maxHeartbeats 2000000 in
theorem slices_Index_lts_step_lts_step.spec (R : Res) (Fr : List HProp) (A0 : Option Addr) (n0 : Nat) (c0 : Nat) (a0 : List lts_step) (a1_0 : Int) (a1_1 : Bs) (a1_2 : Int) (hr0 : RdS lts_step.fl.rep R.heap A0 a0) (hn0 : a0.length = n0) (hc0 : n0 ≤ c0) {r : Int} (hrun : slices_Index_lts_step_lts_step.f a0 a1_0 a1_1 a1_2 = some r) :
    Spec Go.Proofs.Tryz.prog 79 [.slice A0 n0 c0, .agg #[.int .i64 a1_0, .string ⟨(a1_1).toArray⟩, .int .i64 a1_2]] R (Fr) (fun v l' => v = .int .i64 r ∧ Fr = l') := by
  subst hn0; refine Spec.of Go.Proofs.Tryz.func79 rfl rfl ?_; unfold slices_Index_lts_step_lts_step.f at hrun; have hrun := brun hrun; refine At.seq (At.region ?_); refine At.box rfl rfl (cs := [.int .i64 a1_0, .string ⟨(a1_1).toArray⟩, .int .i64 a1_2]) rfl rfl (fun b253 => ?_); refine At.run 1 rfl (At.nil (At.thn (At.seq (At.seq (At.region (At.run 3 rfl (At.nil ?_))))))); refine At.thn ?_; refine At.block ?_; obtain ⟨G1056, hl1057, hr1058, hrun⟩ := bjoin hrun; obtain ⟨o1059, hlo1060, ho1061⟩ := bsome hrun; clear hrun; unfold slices_Index_lts_step_lts_step.l0 at hlo1060; obtain ⟨m1062, hit1064⟩ := iter_some.1 hlo1060; clear hlo1060; refine At.loopJ (X := Int) (Y := Unit) (e0 := 0) (fun x855 => [(0, .slice A0 a0.length c0), (3, .pointer (some ⟨b253, 0, none⟩)), (7, .int .i64 (a0.length : Int)), (8, .int .i64 x855)]) (fun x855 => pt b253 (.cells [.int .i64 a1_0, .string ⟨(a1_1).toArray⟩, .int .i64 a1_2].toArray 113) :: Fr) (fun m_ => fun x855 => iterN (fun t_ : Int => slices_Index_lts_step_lts_step.l0b a0 a1_0 a1_1 a1_2 t_) m_ x855 = some o1059) m1062 0 hit1064 (fun _ => []) (fun _ => pt b253 (.cells [.int .i64 a1_0, .string ⟨(a1_1).toArray⟩, .int .i64 a1_2].toArray 113) :: Fr) (fun _ => G1056 (.inl ()) = some r) (fun a w e hs => ⟨e.sub ⟨rfl, rfl, rfl, rfl, trivial⟩, (by exact hs)⟩) ?_ (fun J1066 => ?_)
  · rintro _ hrun; have hrun := (hl1057 _).symm.trans hrun
    · refine At.ibx ?_; refine At.thn (At.seq (At.region (At.run 1 rfl (At.nil (At.thn (At.ret (At.drop .z ?_))))))); obtain rfl := (bret hrun).symm; exact At.res (.inl rfl) rfl rfl ⟨rfl, rfl⟩
  · clear hit1064 m1062; rintro m1062 x855 hit1064; obtain ⟨m1063, f_, hlt1065, hf_, hrun⟩ := bit hit1064; clear hit1064; have hrun : (slices_Index_lts_step_lts_step.l0b a0 a1_0 a1_1 a1_2 x855).bind _ = some o1059 := hrun; unfold slices_Index_lts_step_lts_step.l0b at hrun
    · refine At.seq (At.region (At.run 1 rfl (At.nil (At.thn (At.seq ?_))))); rcases bite hrun with ⟨h1067, hrun⟩ | ⟨h1067, hrun⟩
      · · refine At.condT rfl (decide_eq_true h1067) ?_
          refine At.skip (At.thn (At.seq ?_)); refine At.block ?_; refine At.seq (At.region (At.run 2 rfl (At.nil (At.thn (At.seq ?_))))); refine At.quiet (by kernel_rfl) ?_; refine At.Quiet.y (Y.load rfl rfl .z rfl rfl rfl) rfl rfl rfl ?_; refine At.Quiet.run 2 rfl ?_; obtain ⟨h1068, hrun⟩ := bnone hrun; refine At.Quiet.y (Y.ixRd hr0 rfl rfl rfl rfl rfl rfl rfl h1068.1 h1068.2) rfl rfl rfl ?_; refine At.Quiet.y (Y.ldFl hr0 rfl (q := 0) rfl rfl h1068.1 h1068.2 rfl rfl rfl) rfl rfl rfl ?_; refine At.Quiet.y (Y.eqSt (xs := [.int .i64 a1_0, .string ⟨(a1_1).toArray⟩, .int .i64 a1_2]) (ys := [.int .i64 ((gt a0 x855).from_), .string ⟨((gt a0 x855).action).toArray⟩, .int .i64 ((gt a0 x855).to)]) rfl rfl rfl rfl (by kernel_rfl) (by kernel_rfl) (by kernel_rfl) rfl) rfl rfl rfl ?_; refine At.Quiet.nil ?_; refine At.thn ?_; rcases bite hrun with ⟨h1069, hrun⟩ | ⟨h1069, hrun⟩
          · · refine At.condT rfl h1069 ?_
              refine At.seq (At.region (At.run 2 rfl (At.nil (At.thn (At.ret ?_))))); refine At.ibr ?_; refine At.thr ?_; have hrun := bupL hr1058 ho1061 hrun; refine At.thr ?_; refine At.ibr ?_; refine At.thr (At.drop .z ?_); obtain rfl := (bret hrun).symm; exact At.res (.inl rfl) rfl rfl ⟨rfl, rfl⟩
          · · refine At.condF rfl (bn h1069) ?_
              refine At.skip ?_; refine At.ibn ?_; refine At.thn (At.region (At.run 2 rfl (At.nil ?_))); have hrun := bnx hf_ hrun; exact fun a w e hs => ⟨m1063, (IntKind.i64.wrap (x855 + 1)), hlt1065, hrun, e.sub ⟨rfl, rfl, rfl, rfl, trivial⟩, hs⟩
      · · refine At.condF rfl (decide_eq_false h1067) ?_
          refine At.exit ?_; refine At.the ?_; refine At.the ?_; exact fun a w e hs => J1066 () (bdn hrun ho1061) a w (e.sub trivial) hs

noncomputable def slices_Contains_lts_step_lts_step.f (a0 : List lts_step) (a1_0 : Int) (a1_1 : Bs) (a1_2 : Int) : Option Bool :=
 (slices_Index_lts_step_lts_step.f a0 a1_0 a1_1 a1_2).bind fun t254 =>
 some (decide (0 ≤ t254))
theorem slices_Contains_lts_step_lts_step.callee : Callee Go.Proofs.Tryz.prog 63 := ⟨_, Go.Proofs.Tryz.func63, by kernel_rfl, by kernel_rfl⟩
set_option maxRecDepth 100000 in
set_option maxHeartbeats 2000000 in
theorem slices_Contains_lts_step_lts_step.spec (R : Res) (Fr : List HProp) (A0 : Option Addr) (n0 : Nat) (c0 : Nat) (a0 : List lts_step) (a1_0 : Int) (a1_1 : Bs) (a1_2 : Int) (hr0 : RdS lts_step.fl.rep R.heap A0 a0) (hn0 : a0.length = n0) (hc0 : n0 ≤ c0) {r : Bool} (hrun : slices_Contains_lts_step_lts_step.f a0 a1_0 a1_1 a1_2 = some r) :
    Spec Go.Proofs.Tryz.prog 63 [.slice A0 n0 c0, .agg #[.int .i64 a1_0, .string ⟨(a1_1).toArray⟩, .int .i64 a1_2]] R (Fr) (fun v l' => v = .bool r ∧ Fr = l') := by
  subst hn0; refine Spec.of Go.Proofs.Tryz.func63 rfl rfl ?_; unfold slices_Contains_lts_step_lts_step.f at hrun; have hrun := brun hrun; refine At.seq (At.region ?_); refine At.box rfl rfl (cs := [.int .i64 a1_0, .string ⟨(a1_1).toArray⟩, .int .i64 a1_2]) rfl rfl (fun b253 => ?_); refine At.run 1 rfl (At.nil (At.thn (At.seq (At.region (At.run 1 rfl ?_))))); refine At.y (Y.load rfl rfl .z rfl rfl rfl) rfl rfl rfl ?_; obtain ⟨t254, hc255, hrun⟩ := bbind hrun; refine At.call rfl slices_Index_lts_step_lts_step.callee rfl rfl rfl (slices_Index_lts_step_lts_step.spec _ _ A0 a0.length c0 a0 a1_0 a1_1 a1_2 hr0 rfl hc0 hc255) ?_; rintro _ _ ⟨rfl, rfl⟩; refine At.run 2 rfl (At.nil (At.thn (At.ret (At.drop .z ?_)))); obtain rfl := (bret hrun).symm; exact At.res (.inl rfl) rfl rfl ⟨rfl, rfl⟩

end Go.Bw
