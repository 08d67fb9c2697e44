/- DenoteMore, part 5: walks and plain laws. Conditions: none. -/
import Derived.Test.YtfbjkcnefhgodaaGreatDoorProg
import Derived.Deep.QuietTactic
import Derived.LaidMore
import Derived.ProofKit
import Derived.OpenShut
import Derived.Test.YtfbjkcnefhgodaaGreatDoorBwDenoteMoreD
set_option linter.unusedVariables false
set_option linter.unusedSimpArgs false
set_option linter.unusedSectionVars false
set_option maxRecDepth 100000
set_option maxHeartbeats 2000000
namespace Go.Bw
open Go Go.RowKit Go.Proofs
variable {R : Res} {Fr : List HProp} {b0 b0_1 b0_2 b0_0 b0_0_1 b0_0_2 n0_1 c0_1 n0_2 c0_2 n0_7 c0_7 n1 c1 : Nat} {A0_1 A0_2 A0_7 A1 : Option Addr}
noncomputable def Q94.f (p q u D G I J L : Int) : Option (Int × Int × Int × Int) :=
 some (band .u64 p G, band .u64 q I, band .u64 u J, band .u64 D L)
theorem Q94.callee : Callee Tryz.prog 13 := ⟨_, Tryz.func13, by kernel_rfl, by kernel_rfl⟩
theorem Q94.spec {p u D G I J L M : Int} {r : Int × Int × Int × Int} (j : Q94.f p u D G I J L M = some r) :
 Spec Tryz.prog 13 [.agg #[.int .u64 p, .int .u64 u, .int .u64 D, .int .u64 G], .agg #[.int .u64 I, .int .u64 J, .int .u64 L, .int .u64 M]] R (Fr) (fun v l' => v = .agg #[.int .u64 r.1, .int .u64 r.2.1, .int .u64 r.2.2.1, .int .u64 r.2.2.2] ∧ Fr = l') := by
 refine Spec.of Tryz.func13 rfl rfl ?_; unfold Q94.f at j; have j := brun j; refine At.seq (At.region ?_); refine At.box rfl rfl (cs := [.int .u64 p, .int .u64 u, .int .u64 D, .int .u64 G]) rfl rfl (fun O => ?_); refine At.box rfl rfl (cs := [.int .u64 I, .int .u64 J, .int .u64 L, .int .u64 M]) rfl rfl (fun U => ?_); refine At.alloc rfl rfl rfl (fun V => ?_); refine nT (At.seq (sR 1 rfl (nT ?_))); refine At.block ?_; refine At.rounds 5 ?_; refine At.round ?_; refine sR 1 rfl (nT (At.seq ?_)); refine At.condT rfl rfl ?_; refine At.skip (At.thn (At.seq ?_)); refine At.block ?_; refine sR 2 rfl (nT ?_); refine At.still 8 (by kernel_rfl) ?_; refine At.Still.run 1 rfl ?_; refine At.Still.y (Y.ixArrK rfl rfl rfl rfl rfl (show (0 : Int) ≤ 0 ∧ (0 : Int) < 4 by decide).1 (show (0 : Int) ≤ 0 ∧ (0 : Int) < 4 by decide).2 (q := 0) (off := 0) rfl rfl) rfl rfl rfl ?_; refine At.Still.y (Y.load rfl rfl (.s (.s .z)) rfl rfl rfl) rfl rfl rfl ?_; refine At.Still.run 1 rfl ?_; refine At.Still.y (Y.ixArrK rfl rfl rfl rfl rfl (show (0 : Int) ≤ 0 ∧ (0 : Int) < 4 by decide).1 (show (0 : Int) ≤ 0 ∧ (0 : Int) < 4 by decide).2 (q := 0) (off := 0) rfl rfl) rfl rfl rfl ?_; refine At.Still.y (Y.load rfl rfl (.s .z) rfl rfl rfl) rfl rfl rfl ?_; refine At.Still.run 1 rfl ?_; refine At.Still.y (Y.ixArrK rfl rfl rfl rfl rfl (show (0 : Int) ≤ 0 ∧ (0 : Int) < 4 by decide).1 (show (0 : Int) ≤ 0 ∧ (0 : Int) < 4 by decide).2 (q := 0) (off := 0) rfl rfl) rfl rfl rfl ?_; refine At.Still.nil ?_; refine At.store rfl rfl rfl rfl (.s (.s .z)) rfl rfl rfl (.c .n) ?_; refine At.nil ?_; refine At.ibn ?_; refine At.thn (At.region (At.run 2 rfl (nT ?_))); refine At.round ?_; refine sR 1 rfl (nT (At.seq ?_)); refine At.condT rfl rfl ?_; refine At.skip (At.thn (At.seq ?_)); refine At.block ?_; refine sR 2 rfl (nT ?_); refine At.still 8 (by kernel_rfl) ?_; refine At.Still.run 1 rfl ?_; refine At.Still.y (Y.ixArrK rfl rfl rfl rfl rfl (show (0 : Int) ≤ 1 ∧ (1 : Int) < 4 by decide).1 (show (0 : Int) ≤ 1 ∧ (1 : Int) < 4 by decide).2 (q := 1) (off := 1) rfl rfl) rfl rfl rfl ?_; refine At.Still.y (Y.load rfl rfl .z rfl rfl rfl) rfl rfl rfl ?_; refine At.Still.run 1 rfl ?_; refine At.Still.y (Y.ixArrK rfl rfl rfl rfl rfl (show (0 : Int) ≤ 1 ∧ (1 : Int) < 4 by decide).1 (show (0 : Int) ≤ 1 ∧ (1 : Int) < 4 by decide).2 (q := 1) (off := 1) rfl rfl) rfl rfl rfl ?_; refine At.Still.y (Y.load rfl rfl (.s (.s .z)) rfl rfl rfl) rfl rfl rfl ?_; refine At.Still.run 1 rfl ?_; refine At.Still.y (Y.ixArrK rfl rfl rfl rfl rfl (show (0 : Int) ≤ 1 ∧ (1 : Int) < 4 by decide).1 (show (0 : Int) ≤ 1 ∧ (1 : Int) < 4 by decide).2 (q := 1) (off := 1) rfl rfl) rfl rfl rfl ?_; refine At.Still.nil ?_; refine At.store rfl rfl rfl rfl .z rfl rfl rfl (.s (.c .n)) ?_; refine At.nil ?_; refine At.ibn ?_; refine At.thn (At.region (At.run 2 rfl (nT ?_))); refine At.round ?_; refine sR 1 rfl (nT (At.seq ?_)); refine At.condT rfl rfl ?_; refine At.skip (At.thn (At.seq ?_)); refine At.block ?_; refine sR 2 rfl (nT ?_); refine At.still 8 (by kernel_rfl) ?_; refine At.Still.run 1 rfl ?_; refine At.Still.y (Y.ixArrK rfl rfl rfl rfl rfl (show (0 : Int) ≤ 2 ∧ (2 : Int) < 4 by decide).1 (show (0 : Int) ≤ 2 ∧ (2 : Int) < 4 by decide).2 (q := 2) (off := 2) rfl rfl) rfl rfl rfl ?_; refine At.Still.y (Y.load rfl rfl .z rfl rfl rfl) rfl rfl rfl ?_; refine At.Still.run 1 rfl ?_; refine At.Still.y (Y.ixArrK rfl rfl rfl rfl rfl (show (0 : Int) ≤ 2 ∧ (2 : Int) < 4 by decide).1 (show (0 : Int) ≤ 2 ∧ (2 : Int) < 4 by decide).2 (q := 2) (off := 2) rfl rfl) rfl rfl rfl ?_; refine At.Still.y (Y.load rfl rfl (.s (.s .z)) rfl rfl rfl) rfl rfl rfl ?_; refine At.Still.run 1 rfl ?_; refine At.Still.y (Y.ixArrK rfl rfl rfl rfl rfl (show (0 : Int) ≤ 2 ∧ (2 : Int) < 4 by decide).1 (show (0 : Int) ≤ 2 ∧ (2 : Int) < 4 by decide).2 (q := 2) (off := 2) rfl rfl) rfl rfl rfl ?_; refine At.Still.nil ?_; refine At.store rfl rfl rfl rfl .z rfl rfl rfl (.s (.s (.c .n))) ?_; refine At.nil ?_; refine At.ibn ?_; refine At.thn (At.region (At.run 2 rfl (nT ?_))); refine At.round ?_; refine sR 1 rfl (nT (At.seq ?_)); refine At.condT rfl rfl ?_; refine At.skip (At.thn (At.seq ?_)); refine At.block ?_; refine sR 2 rfl (nT ?_); refine At.still 8 (by kernel_rfl) ?_; refine At.Still.run 1 rfl ?_; refine At.Still.y (Y.ixArrK rfl rfl rfl rfl rfl (show (0 : Int) ≤ 3 ∧ (3 : Int) < 4 by decide).1 (show (0 : Int) ≤ 3 ∧ (3 : Int) < 4 by decide).2 (q := 3) (off := 3) rfl rfl) rfl rfl rfl ?_; refine At.Still.y (Y.load rfl rfl .z rfl rfl rfl) rfl rfl rfl ?_; refine At.Still.run 1 rfl ?_; refine At.Still.y (Y.ixArrK rfl rfl rfl rfl rfl (show (0 : Int) ≤ 3 ∧ (3 : Int) < 4 by decide).1 (show (0 : Int) ≤ 3 ∧ (3 : Int) < 4 by decide).2 (q := 3) (off := 3) rfl rfl) rfl rfl rfl ?_; refine At.Still.y (Y.load rfl rfl (.s (.s .z)) rfl rfl rfl) rfl rfl rfl ?_; refine At.Still.run 1 rfl ?_; refine At.Still.y (Y.ixArrK rfl rfl rfl rfl rfl (show (0 : Int) ≤ 3 ∧ (3 : Int) < 4 by decide).1 (show (0 : Int) ≤ 3 ∧ (3 : Int) < 4 by decide).2 (q := 3) (off := 3) rfl rfl) rfl rfl rfl ?_; refine At.Still.nil ?_; refine At.store rfl rfl rfl rfl .z rfl rfl rfl (.s (.s (.s (.c .n)))) ?_; refine At.nil ?_; refine At.ibn ?_; refine At.thn (At.region (At.run 2 rfl (nT ?_))); refine At.round ?_; refine sR 1 rfl (nT (At.seq ?_)); refine At.condF rfl rfl ?_; refine At.exit ?_; refine At.the ?_; refine At.the ?_; refine At.ibx ?_; refine At.thn (At.seq (At.region (At.y (Y.load rfl rfl .z rfl rfl rfl) rfl rfl rfl ?_))); refine At.store rfl rfl rfl rfl (.s .z) rfl rfl rfl (.c (.c (.c (.c .n)))) ?_; refine nT (At.ret ?_); refine At.resM (.inl rfl) rfl (RV.cell rfl rfl .z rfl rfl rfl RV.nil) ?_; refine At.drop .z (At.drop .z (At.drop .z ?_)); cases bret j; exact fun a w e hs => ⟨_, ⟨rfl, rfl⟩, hs⟩

noncomputable def Q133.f (p q u D G I J L : Int) : Option (Int × Int × Int × Int) :=
 some (bor .u64 p G, bor .u64 q I, bor .u64 u J, bor .u64 D L)
theorem Q133.callee : Callee Tryz.prog 86 := ⟨_, Tryz.func86, by kernel_rfl, by kernel_rfl⟩
theorem Q133.spec {p u D G I J L M : Int} {r : Int × Int × Int × Int} (j : Q133.f p u D G I J L M = some r) :
 Spec Tryz.prog 86 [.agg #[.int .u64 p, .int .u64 u, .int .u64 D, .int .u64 G], .agg #[.int .u64 I, .int .u64 J, .int .u64 L, .int .u64 M]] R (Fr) (fun v l' => v = .agg #[.int .u64 r.1, .int .u64 r.2.1, .int .u64 r.2.2.1, .int .u64 r.2.2.2] ∧ Fr = l') := by
 refine Spec.of Tryz.func86 rfl rfl ?_; unfold Q133.f at j; have j := brun j; refine At.seq (At.region ?_); refine At.box rfl rfl (cs := [.int .u64 p, .int .u64 u, .int .u64 D, .int .u64 G]) rfl rfl (fun O => ?_); refine At.box rfl rfl (cs := [.int .u64 I, .int .u64 J, .int .u64 L, .int .u64 M]) rfl rfl (fun U => ?_); refine At.alloc rfl rfl rfl (fun V => ?_); refine nT (At.seq (sR 1 rfl (nT ?_))); refine At.block ?_; refine At.rounds 5 ?_; refine At.round ?_; refine sR 1 rfl (nT (At.seq ?_)); refine At.condT rfl rfl ?_; refine At.skip (At.thn (At.seq ?_)); refine At.block ?_; refine sR 2 rfl (nT ?_); refine At.still 8 (by kernel_rfl) ?_; refine At.Still.run 1 rfl ?_; refine At.Still.y (Y.ixArrK rfl rfl rfl rfl rfl (show (0 : Int) ≤ 0 ∧ (0 : Int) < 4 by decide).1 (show (0 : Int) ≤ 0 ∧ (0 : Int) < 4 by decide).2 (q := 0) (off := 0) rfl rfl) rfl rfl rfl ?_; refine At.Still.y (Y.load rfl rfl (.s (.s .z)) rfl rfl rfl) rfl rfl rfl ?_; refine At.Still.run 1 rfl ?_; refine At.Still.y (Y.ixArrK rfl rfl rfl rfl rfl (show (0 : Int) ≤ 0 ∧ (0 : Int) < 4 by decide).1 (show (0 : Int) ≤ 0 ∧ (0 : Int) < 4 by decide).2 (q := 0) (off := 0) rfl rfl) rfl rfl rfl ?_; refine At.Still.y (Y.load rfl rfl (.s .z) rfl rfl rfl) rfl rfl rfl ?_; refine At.Still.run 1 rfl ?_; refine At.Still.y (Y.ixArrK rfl rfl rfl rfl rfl (show (0 : Int) ≤ 0 ∧ (0 : Int) < 4 by decide).1 (show (0 : Int) ≤ 0 ∧ (0 : Int) < 4 by decide).2 (q := 0) (off := 0) rfl rfl) rfl rfl rfl ?_; refine At.Still.nil ?_; refine At.store rfl rfl rfl rfl (.s (.s .z)) rfl rfl rfl (.c .n) ?_; refine At.nil ?_; refine At.ibn ?_; refine At.thn (At.region (At.run 2 rfl (nT ?_))); refine At.round ?_; refine sR 1 rfl (nT (At.seq ?_)); refine At.condT rfl rfl ?_; refine At.skip (At.thn (At.seq ?_)); refine At.block ?_; refine sR 2 rfl (nT ?_); refine At.still 8 (by kernel_rfl) ?_; refine At.Still.run 1 rfl ?_; refine At.Still.y (Y.ixArrK rfl rfl rfl rfl rfl (show (0 : Int) ≤ 1 ∧ (1 : Int) < 4 by decide).1 (show (0 : Int) ≤ 1 ∧ (1 : Int) < 4 by decide).2 (q := 1) (off := 1) rfl rfl) rfl rfl rfl ?_; refine At.Still.y (Y.load rfl rfl .z rfl rfl rfl) rfl rfl rfl ?_; refine At.Still.run 1 rfl ?_; refine At.Still.y (Y.ixArrK rfl rfl rfl rfl rfl (show (0 : Int) ≤ 1 ∧ (1 : Int) < 4 by decide).1 (show (0 : Int) ≤ 1 ∧ (1 : Int) < 4 by decide).2 (q := 1) (off := 1) rfl rfl) rfl rfl rfl ?_; refine At.Still.y (Y.load rfl rfl (.s (.s .z)) rfl rfl rfl) rfl rfl rfl ?_; refine At.Still.run 1 rfl ?_; refine At.Still.y (Y.ixArrK rfl rfl rfl rfl rfl (show (0 : Int) ≤ 1 ∧ (1 : Int) < 4 by decide).1 (show (0 : Int) ≤ 1 ∧ (1 : Int) < 4 by decide).2 (q := 1) (off := 1) rfl rfl) rfl rfl rfl ?_; refine At.Still.nil ?_; refine At.store rfl rfl rfl rfl .z rfl rfl rfl (.s (.c .n)) ?_; refine At.nil ?_; refine At.ibn ?_; refine At.thn (At.region (At.run 2 rfl (nT ?_))); refine At.round ?_; refine sR 1 rfl (nT (At.seq ?_)); refine At.condT rfl rfl ?_; refine At.skip (At.thn (At.seq ?_)); refine At.block ?_; refine sR 2 rfl (nT ?_); refine At.still 8 (by kernel_rfl) ?_; refine At.Still.run 1 rfl ?_; refine At.Still.y (Y.ixArrK rfl rfl rfl rfl rfl (show (0 : Int) ≤ 2 ∧ (2 : Int) < 4 by decide).1 (show (0 : Int) ≤ 2 ∧ (2 : Int) < 4 by decide).2 (q := 2) (off := 2) rfl rfl) rfl rfl rfl ?_; refine At.Still.y (Y.load rfl rfl .z rfl rfl rfl) rfl rfl rfl ?_; refine At.Still.run 1 rfl ?_; refine At.Still.y (Y.ixArrK rfl rfl rfl rfl rfl (show (0 : Int) ≤ 2 ∧ (2 : Int) < 4 by decide).1 (show (0 : Int) ≤ 2 ∧ (2 : Int) < 4 by decide).2 (q := 2) (off := 2) rfl rfl) rfl rfl rfl ?_; refine At.Still.y (Y.load rfl rfl (.s (.s .z)) rfl rfl rfl) rfl rfl rfl ?_; refine At.Still.run 1 rfl ?_; refine At.Still.y (Y.ixArrK rfl rfl rfl rfl rfl (show (0 : Int) ≤ 2 ∧ (2 : Int) < 4 by decide).1 (show (0 : Int) ≤ 2 ∧ (2 : Int) < 4 by decide).2 (q := 2) (off := 2) rfl rfl) rfl rfl rfl ?_; refine At.Still.nil ?_; refine At.store rfl rfl rfl rfl .z rfl rfl rfl (.s (.s (.c .n))) ?_; refine At.nil ?_; refine At.ibn ?_; refine At.thn (At.region (At.run 2 rfl (nT ?_))); refine At.round ?_; refine sR 1 rfl (nT (At.seq ?_)); refine At.condT rfl rfl ?_; refine At.skip (At.thn (At.seq ?_)); refine At.block ?_; refine sR 2 rfl (nT ?_); refine At.still 8 (by kernel_rfl) ?_; refine At.Still.run 1 rfl ?_; refine At.Still.y (Y.ixArrK rfl rfl rfl rfl rfl (show (0 : Int) ≤ 3 ∧ (3 : Int) < 4 by decide).1 (show (0 : Int) ≤ 3 ∧ (3 : Int) < 4 by decide).2 (q := 3) (off := 3) rfl rfl) rfl rfl rfl ?_; refine At.Still.y (Y.load rfl rfl .z rfl rfl rfl) rfl rfl rfl ?_; refine At.Still.run 1 rfl ?_; refine At.Still.y (Y.ixArrK rfl rfl rfl rfl rfl (show (0 : Int) ≤ 3 ∧ (3 : Int) < 4 by decide).1 (show (0 : Int) ≤ 3 ∧ (3 : Int) < 4 by decide).2 (q := 3) (off := 3) rfl rfl) rfl rfl rfl ?_; refine At.Still.y (Y.load rfl rfl (.s (.s .z)) rfl rfl rfl) rfl rfl rfl ?_; refine At.Still.run 1 rfl ?_; refine At.Still.y (Y.ixArrK rfl rfl rfl rfl rfl (show (0 : Int) ≤ 3 ∧ (3 : Int) < 4 by decide).1 (show (0 : Int) ≤ 3 ∧ (3 : Int) < 4 by decide).2 (q := 3) (off := 3) rfl rfl) rfl rfl rfl ?_; refine At.Still.nil ?_; refine At.store rfl rfl rfl rfl .z rfl rfl rfl (.s (.s (.s (.c .n)))) ?_; refine At.nil ?_; refine At.ibn ?_; refine At.thn (At.region (At.run 2 rfl (nT ?_))); refine At.round ?_; refine sR 1 rfl (nT (At.seq ?_)); refine At.condF rfl rfl ?_; refine At.exit ?_; refine At.the ?_; refine At.the ?_; refine At.ibx ?_; refine At.thn (At.seq (At.region (At.y (Y.load rfl rfl .z rfl rfl rfl) rfl rfl rfl ?_))); refine At.store rfl rfl rfl rfl (.s .z) rfl rfl rfl (.c (.c (.c (.c .n)))) ?_; refine nT (At.ret ?_); refine At.resM (.inl rfl) rfl (RV.cell rfl rfl .z rfl rfl rfl RV.nil) ?_; refine At.drop .z (At.drop .z (At.drop .z ?_)); cases bret j; exact fun a w e hs => ⟨_, ⟨rfl, rfl⟩, hs⟩

noncomputable def Q39.l0b (M : Int) (q : List (Q7 × Q2)) (O U V X : Int) (a2 : Bs) (G I J L p : Int) : Option ((Int × Int × Int × Int × Int) ⊕ ((Int × Int × Int × Int) ⊕ (Int × Int × Int × Int))) :=
 if p < M then
 jn (
 (Q94.f (((mget q (⟨p, a2⟩ : Q7)).getD (⟨(0 : Int), (0 : Int), (0 : Int), (0 : Int)⟩ : Q2)).c0) (((mget q (⟨p, a2⟩ : Q7)).getD (⟨(0 : Int), (0 : Int), (0 : Int), (0 : Int)⟩ : Q2)).c1) (((mget q (⟨p, a2⟩ : Q7)).getD (⟨(0 : Int), (0 : Int), (0 : Int), (0 : Int)⟩ : Q2)).c2) (((mget q (⟨p, a2⟩ : Q7)).getD (⟨(0 : Int), (0 : Int), (0 : Int), (0 : Int)⟩ : Q2)).c3) O U V X).bind fun u =>
 if (decide (u.1 = 0) && (decide (u.2.1 = 0) && (decide (u.2.2.1 = 0) && (decide (u.2.2.2 = 0) && true)))) = true then
 some (.inl (G, I, J, L))
 else
 (Q45.f G I J L p).bind fun D =>
 some (.inl (D.1, D.2.1, D.2.2.1, D.2.2.2))) (fun (s_ : Int × Int × Int × Int) =>
 nx (s_.1, s_.2.1, s_.2.2.1, s_.2.2.2, IntKind.i64.wrap (p + 1)))
 else
 dn (.inl (G, I, J, L))
noncomputable def Q39.l0 (p : Int) (q : List (Q7 × Q2)) (u D G I : Int) (a2 : Bs) (J L M O U : Int) : Option ((Int × Int × Int × Int) ⊕ (Int × Int × Int × Int)) := iter (fun t_ : Int × Int × Int × Int × Int => Q39.l0b p q u D G I a2 t_.1 t_.2.1 t_.2.2.1 t_.2.2.2.1 t_.2.2.2.2) (J, L, M, O, U)
noncomputable def Q39.f (p : Int) (J : List (Bs × Q2)) (q : List (Q7 × Q2)) (u D G I : Int) (a2 : Bs) : Option (Int × Int × Int × Int) :=
 jn (Q39.l0 p q u D G I a2 0 0 0 0 0) (fun (s_ : Int × Int × Int × Int) =>
 some (s_.1, s_.2.1, s_.2.2.1, s_.2.2.2))
theorem Q39.callee : Callee Tryz.prog 87 := ⟨_, Tryz.func87, by kernel_rfl, by kernel_rfl⟩
theorem Q39.spec {p q u D G : Int} {O : List (Bs × Q2)} {I : List (Q7 × Q2)} {a2 : Bs} {r : Int × Int × Int × Int} (j : Q39.f p O I q u D G a2 = some r) :
 Spec Tryz.prog 87 [bp b0, .agg #[.int .u64 q, .int .u64 u, .int .u64 D, .int .u64 G], .string ⟨(a2).toArray⟩] R (pc b0 [i6 p, .map (some b0_1), .map (some b0_2)] 82 :: mapo Fl.bs.ov Q2.fl.av b0_1 O :: mapo Q7.fl.av Q2.fl.av b0_2 I :: Fr) (fun v l' => v = .agg #[.int .u64 r.1, .int .u64 r.2.1, .int .u64 r.2.2.1, .int .u64 r.2.2.2] ∧ pc b0 [i6 p, .map (some b0_1), .map (some b0_2)] 82 :: mapo Fl.bs.ov Q2.fl.av b0_1 O :: mapo Q7.fl.av Q2.fl.av b0_2 I :: Fr = l') := by
 refine Spec.of Tryz.func87 rfl rfl ?_; unfold Q39.f at j; have j := brun j; refine At.seq (At.region ?_); refine At.box rfl rfl (cs := [.int .u64 q, .int .u64 u, .int .u64 D, .int .u64 G]) rfl rfl (fun a0 => ?_); refine At.alloc rfl rfl rfl (fun U => ?_); refine nT (At.seq (At.region ?_)); refine At.alloc rfl rfl rfl (fun J => ?_); refine nT (At.seq (sR 3 rfl (At.y (Y.load rfl rfl (.s (.s (.s .z))) rfl rfl rfl) rfl rfl rfl (At.run 1 rfl ?_)))); refine nT ?_; refine At.block ?_; obtain ⟨b4, b5, d2, j⟩ := bjoin j; obtain ⟨a1, a3, b6⟩ := bsome j; clear j; unfold Q39.l0 at a3; obtain ⟨a4, M⟩ := Q18.1 a3; clear a3; let T1 : HProp := pt U (.cells ([.int .u64 0, .int .u64 0, .int .u64 0, .int .u64 0] : List Value).toArray 35); let T2 : HProp := pc a0 [.int .u64 q, .int .u64 u, .int .u64 D, .int .u64 G] 35; let T3 : HProp := pc b0 [i6 p, .map (some b0_1), .map (some b0_2)] 82; let T4 : HProp := mapo Fl.bs.ov Q2.fl.av b0_1 O; let T5 : HProp := mapo Q7.fl.av Q2.fl.av b0_2 I; refine At.loopJ (X := Int × Int × Int × Int × Int) (Y := Int × Int × Int × Int) (e0 := 0) (fun s_ => [(0, bp b0), (2, .string ⟨(a2).toArray⟩), (4, bp a0), (6, bp U), (7, bp J), (12, i6 p), (13, i6 s_.2.2.2.2)]) (fun s_ => pc J [.int .u64 s_.1, .int .u64 s_.2.1, .int .u64 s_.2.2.1, .int .u64 s_.2.2.2.1] 35 :: T1 :: T2 :: T3 :: T4 :: T5 :: Fr) (fun m_ => fun s_ => iterN (fun t_ : Int × Int × Int × Int × Int => Q39.l0b p I q u D G a2 t_.1 t_.2.1 t_.2.2.1 t_.2.2.2.1 t_.2.2.2.2) m_ (s_.1, s_.2.1, s_.2.2.1, s_.2.2.2.1, s_.2.2.2.2) = some a1) a4 (0, 0, 0, 0, 0) M (fun s_ => [(6, bp U), (7, bp J)]) (fun s_ => pc J [.int .u64 s_.1, .int .u64 s_.2.1, .int .u64 s_.2.2.1, .int .u64 s_.2.2.2] 35 :: T1 :: T2 :: T3 :: T4 :: T5 :: Fr) (fun s_ => b4 (.inl (s_.1, s_.2.1, s_.2.2.1, s_.2.2.2)) = some r) (fun a w e hs => ⟨e.sub ⟨rfl, rfl, rfl, rfl, rfl, rfl, rfl, trivial⟩, (by exact hs)⟩) ?_ (fun b7 => ?_)
 ·rintro ⟨d3, d4, d5, d6⟩ j; have j := (b5 _).symm.trans j
  ·refine At.ibx ?_; refine At.thn (At.seq (At.region (At.y (Y.load rfl rfl .z rfl rfl rfl) rfl rfl rfl ?_))); refine At.store rfl rfl rfl rfl (.s .z) rfl rfl rfl (.c (.c (.c (.c .n)))) ?_; refine nT (At.ret ?_); refine At.resM (.inl rfl) rfl (RV.cell rfl rfl .z rfl rfl rfl RV.nil) ?_; refine At.drop .z (At.drop .z (At.drop .z ?_)); cases bret j; exact fun a w e hs => ⟨_, ⟨rfl, rfl⟩, hs⟩
 ·clear M a4; rintro a4 ⟨a5, a6, a7, a8, L⟩ M; obtain ⟨b8, f_, b9, hf_, j⟩ := bit M; clear M; have j : (Q39.l0b p I q u D G a2 a5 a6 a7 a8 L).bind _ = some a1 := j; unfold Q39.l0b at j
  ·refine sR 1 rfl (nT (At.seq ?_)); rcases bite j with ⟨a9, j⟩ | ⟨a9, j⟩
   ··refine At.condT rfl (decide_eq_true a9) ?_
     refine At.skip (At.thn (At.seq ?_)); obtain ⟨c4, c5, d7, j⟩ := bjoin j; refine At.join (X := Int × Int × Int × Int) (fun s_ => [(0, bp b0), (2, .string ⟨(a2).toArray⟩), (4, bp a0), (6, bp U), (7, bp J), (12, i6 p), (13, i6 L)]) (fun s_ => pc J [.int .u64 s_.1, .int .u64 s_.2.1, .int .u64 s_.2.2.1, .int .u64 s_.2.2.2] 35 :: T1 :: T2 :: T3 :: T4 :: T5 :: Fr) (fun s_ => c4 (.inl (s_.1, s_.2.1, s_.2.2.1, s_.2.2.2)) = some a1) ?_ (fun b3 => ?_)
     ·rintro ⟨c6, c7, c8, c9⟩ j; have j := (c5 _).symm.trans j
      ·refine At.region (At.run 2 rfl (At.nil ?_)); have j := bnx hf_ j; exact fun a w e hs => ⟨b8, (c6, c7, c8, c9, IntKind.i64.wrap (L + 1)), b9, j, e.sub ⟨rfl, rfl, rfl, rfl, rfl, rfl, rfl, trivial⟩, hs⟩
     ··refine At.block ?_
       refine sR 2 rfl (nT (At.seq ?_)); refine At.quiet (by kernel_rfl) ?_; refine At.Quiet.run 3 rfl ?_; refine At.Quiet.y (Y.load rfl rfl (.s (.s (.s .z))) rfl rfl rfl) rfl rfl rfl ?_; refine At.Quiet.run 2 rfl ?_; refine At.Quiet.y (Y.build (is := [0, 1]) (xo := [.tmp 20, .tmp 21]) (vs := [i6 L, .string ⟨(a2).toArray⟩]) (cs := [i6 L, .string ⟨(a2).toArray⟩]) rfl rfl rfl rfl rfl rfl) rfl rfl rfl ?_; refine At.Quiet.y (Y.lookup (k := (⟨L, a2⟩ : Q7)) (z := (⟨(0 : Int), (0 : Int), (0 : Int), (0 : Int)⟩ : Q2)) (.s (.s (.s (.s (.s .z))))) rfl rfl Q7.keyok (by kernel_rfl) rfl rfl rfl) rfl rfl rfl ?_; refine At.Quiet.y (Y.load rfl rfl (.s (.s .z)) rfl rfl rfl) rfl rfl rfl ?_; obtain ⟨V, d0, j⟩ := bbind j; refine At.Quiet.call rfl Q94.callee rfl rfl rfl (Q94.spec d0) (fun _ _ h_ => ⟨h_.1, fun _ hs => h_.2 ▸ hs⟩) ?_; refine At.Quiet.y (Y.buildA (is := []) (xo := []) (vs := []) (cs := [.int .u64 0, .int .u64 0, .int .u64 0, .int .u64 0]) rfl rfl rfl rfl rfl rfl) rfl rfl rfl ?_; refine At.Quiet.y (Y.neAr (xs := [.int .u64 V.1, .int .u64 V.2.1, .int .u64 V.2.2.1, .int .u64 V.2.2.2]) (ys := [.int .u64 0, .int .u64 0, .int .u64 0, .int .u64 0]) rfl rfl rfl rfl rfl rfl rfl (by kernel_rfl) rfl) rfl rfl rfl ?_; refine At.Quiet.nil (At.thn ?_); rcases bite j with ⟨b2, j⟩ | ⟨b2, j⟩
       ··refine At.condF rfl (nf b2) ?_
         refine At.skip ?_; refine At.ibn ?_; refine At.thn ?_; exact fun a w e hs => b3 (a5, a6, a7, a8) j a w (e.sub ⟨rfl, rfl, rfl, rfl, rfl, rfl, rfl, trivial⟩) hs
       ··refine At.condT rfl (nt (bn b2)) ?_
         refine At.region (At.y (Y.load rfl rfl .z rfl rfl rfl) rfl rfl rfl (At.run 1 rfl ?_)); obtain ⟨Z, d1, j⟩ := bbind j; refine At.call rfl Q45.callee rfl rfl rfl (Q45.spec d1) ?_; rintro _ _ ⟨rfl, rfl⟩; refine At.store rfl rfl rfl rfl .z rfl rfl rfl (.c (.c (.c (.c .n)))) ?_; refine At.nil ?_; refine At.ibn ?_; refine At.thn ?_; exact fun a w e hs => b3 (Z.1, Z.2.1, Z.2.2.1, Z.2.2.2) j a w (e.sub ⟨rfl, rfl, rfl, rfl, rfl, rfl, rfl, trivial⟩) hs
   ··refine At.condF rfl (decide_eq_false a9) ?_
     refine At.exit ?_; refine At.the ?_; refine At.the ?_; exact fun a w e hs => b7 (a5, a6, a7, a8) (bdn j b6) a w (e.sub ⟨rfl, rfl, trivial⟩) hs

theorem Q12.callee : Callee Tryz.prog 35 := ⟨_, Tryz.func35, by kernel_rfl, by kernel_rfl⟩
def Q12.SP (self_ : Int → (List (Bs × Q2)) → (List (Q7 × Q2)) → (List Q1) → (List Int) → Int → Int → Int → Int → (List Q2) → Int → Option ((List Q2) × Int × Int × Int × Int)) : Prop :=
 ∀ (R : Res) (Fr : List HProp) (b0 : Nat) (b0_0 : Nat) (b0_0_1 : Nat) (b0_0_2 : Nat) (A0_1 : Option Addr) (n0_1 : Nat) (c0_1 : Nat) (A0_2 : Option Addr) (n0_2 : Nat) (c0_2 : Nat) (A0_7 : Option Addr) (n0_7 : Nat) (c0_7 : Nat) (a0_0_0 : Int) (a0_0_1 : List (Bs × Q2)) (a0_0_2 : List (Q7 × Q2)) (a0_1 : List Q1) (a0_2 : List Int) (a0_3 : Int) (a0_4 : Int) (a0_5 : Int) (a0_6 : Int) (a0_7 : List Q2) (a1 : Int) (hr0_1 : RdS Q1.fl.rep R.heap A0_1 a0_1) (hn0_1 : a0_1.length = n0_1) (hc0_1 : n0_1 ≤ c0_1) (hn0_2 : a0_2.length = n0_2) (hn0_7 : a0_7.length = n0_7) {r : (List Q2) × Int × Int × Int × Int} (j : self_ a0_0_0 a0_0_1 a0_0_2 a0_1 a0_2 a0_3 a0_4 a0_5 a0_6 a0_7 a1 = some r),
  Spec Tryz.prog 35 [bp b0, i6 a1] R (pc b0 [bp b0_0, .slice A0_1 n0_1 c0_1, .slice A0_2 n0_2 c0_2, .int .u64 a0_3, .int .u64 a0_4, .int .u64 a0_5, .int .u64 a0_6, .slice A0_7 n0_7 c0_7] 145 :: pc b0_0 [i6 a0_0_0, .map (some b0_0_1), .map (some b0_0_2)] 82 :: mapo Fl.bs.ov Q2.fl.av b0_0_1 a0_0_1 :: mapo Q7.fl.av Q2.fl.av b0_0_2 a0_0_2 :: row (Fl.int .i64) 3 A0_2 n0_2 c0_2 a0_2 :: row Q2.fl 35 A0_7 n0_7 c0_7 a0_7 :: Fr) (fun v l' => v = .agg #[.int .u64 r.2.1, .int .u64 r.2.2.1, .int .u64 r.2.2.2.1, .int .u64 r.2.2.2.2] ∧ pc b0 [bp b0_0, .slice A0_1 n0_1 c0_1, .slice A0_2 n0_2 c0_2, .int .u64 a0_3, .int .u64 a0_4, .int .u64 a0_5, .int .u64 a0_6, .slice A0_7 n0_7 c0_7] 145 :: pc b0_0 [i6 a0_0_0, .map (some b0_0_1), .map (some b0_0_2)] 82 :: mapo Fl.bs.ov Q2.fl.av b0_0_1 a0_0_1 :: mapo Q7.fl.av Q2.fl.av b0_0_2 a0_0_2 :: row (Fl.int .i64) 3 A0_2 n0_2 c0_2 a0_2 :: row Q2.fl 35 A0_7 n0_7 c0_7 r.1 :: Fr = l')
theorem Q21.callee : Callee Tryz.prog 88 := ⟨_, Tryz.func88, by kernel_rfl, by kernel_rfl⟩
def Q21.SP (self_ : Int → (List (Bs × Q2)) → (List (Q7 × Q2)) → (List Q1) → (List Int) → Int → Int → Int → Int → (List Q2) → Int → Int → Int → Int → Int → Option ((List Q2) × Int × Int × Int × Int)) : Prop :=
 ∀ (R : Res) (Fr : List HProp) (b0 : Nat) (b0_0 : Nat) (b0_0_1 : Nat) (b0_0_2 : Nat) (A0_1 : Option Addr) (n0_1 : Nat) (c0_1 : Nat) (A0_2 : Option Addr) (n0_2 : Nat) (c0_2 : Nat) (A0_7 : Option Addr) (n0_7 : Nat) (c0_7 : Nat) (a0_0_0 : Int) (a0_0_1 : List (Bs × Q2)) (a0_0_2 : List (Q7 × Q2)) (a0_1 : List Q1) (a0_2 : List Int) (a0_3 : Int) (a0_4 : Int) (a0_5 : Int) (a0_6 : Int) (a0_7 : List Q2) (a1 : Int) (a2_0 : Int) (a2_1 : Int) (a2_2 : Int) (a2_3 : Int) (hr0_1 : RdS Q1.fl.rep R.heap A0_1 a0_1) (hn0_1 : a0_1.length = n0_1) (hc0_1 : n0_1 ≤ c0_1) (hn0_2 : a0_2.length = n0_2) (hn0_7 : a0_7.length = n0_7) {r : (List Q2) × Int × Int × Int × Int} (j : self_ a0_0_0 a0_0_1 a0_0_2 a0_1 a0_2 a0_3 a0_4 a0_5 a0_6 a0_7 a1 a2_0 a2_1 a2_2 a2_3 = some r),
  Spec Tryz.prog 88 [bp b0, i6 a1, .agg #[.int .u64 a2_0, .int .u64 a2_1, .int .u64 a2_2, .int .u64 a2_3]] R (pc b0 [bp b0_0, .slice A0_1 n0_1 c0_1, .slice A0_2 n0_2 c0_2, .int .u64 a0_3, .int .u64 a0_4, .int .u64 a0_5, .int .u64 a0_6, .slice A0_7 n0_7 c0_7] 145 :: pc b0_0 [i6 a0_0_0, .map (some b0_0_1), .map (some b0_0_2)] 82 :: mapo Fl.bs.ov Q2.fl.av b0_0_1 a0_0_1 :: mapo Q7.fl.av Q2.fl.av b0_0_2 a0_0_2 :: row (Fl.int .i64) 3 A0_2 n0_2 c0_2 a0_2 :: row Q2.fl 35 A0_7 n0_7 c0_7 a0_7 :: Fr) (fun v l' => v = .agg #[.int .u64 r.2.1, .int .u64 r.2.2.1, .int .u64 r.2.2.2.1, .int .u64 r.2.2.2.2] ∧ pc b0 [bp b0_0, .slice A0_1 n0_1 c0_1, .slice A0_2 n0_2 c0_2, .int .u64 a0_3, .int .u64 a0_4, .int .u64 a0_5, .int .u64 a0_6, .slice A0_7 n0_7 c0_7] 145 :: pc b0_0 [i6 a0_0_0, .map (some b0_0_1), .map (some b0_0_2)] 82 :: mapo Fl.bs.ov Q2.fl.av b0_0_1 a0_0_1 :: mapo Q7.fl.av Q2.fl.av b0_0_2 a0_0_2 :: row (Fl.int .i64) 3 A0_2 n0_2 c0_2 a0_2 :: row Q2.fl 35 A0_7 n0_7 c0_7 r.1 :: Fr = l')
noncomputable def Q12.g (self_0 : Int → (List (Bs × Q2)) → (List (Q7 × Q2)) → (List Q1) → (List Int) → Int → Int → Int → Int → (List Q2) → Int → Option ((List Q2) × Int × Int × Int × Int)) (self_1 : Int → (List (Bs × Q2)) → (List (Q7 × Q2)) → (List Q1) → (List Int) → Int → Int → Int → Int → (List Q2) → Int → Int → Int → Int → Int → Option ((List Q2) × Int × Int × Int × Int)) (D : Int) (G : List (Bs × Q2)) (I : List (Q7 × Q2)) (p : List Q1) (q : List Int) (J L M O : Int) (u : List Q2) (a1 : Int) : Option ((List Q2) × Int × Int × Int × Int) :=
 if (0 : Int) ≤ a1 ∧ a1 < (p.length : Int) then
 if (gt p a1).Kind = 1 then
 some (u, J, L, M, O)
 else
 if (gt p a1).Kind = 3 then
 (Q65.f D G I ((gt p a1).Name)).bind fun a6 =>
 some (u, a6.1, a6.2.1, a6.2.2.1, a6.2.2.2)
 else
 if (gt p a1).Kind = 12 then
 (Q65.f D G I ((gt p a1).Name)).bind fun a7 =>
 (Q69.f D G I p q J L M O u a7.1 a7.2.1 a7.2.2.1 a7.2.2.2).bind fun a8 =>
 some (u, a8.1, a8.2.1, a8.2.2.1, a8.2.2.2)
 else
 if (gt p a1).Kind = 4 then
 if (0 : Int) ≤ a1 ∧ a1 < (q.length : Int) then
 if (0 : Int) ≤ gt q a1 ∧ gt q a1 < (u.length : Int) then
 some (u, (gt u (gt q a1)).c0, (gt u (gt q a1)).c1, (gt u (gt q a1)).c2, (gt u (gt q a1)).c3)
 else none
 else none
 else
 if (gt p a1).Kind = 5 then
 (self_0 D G I p q J L M O u ((gt p a1).A)).bind fun V =>
 (Q69.f D G I p q J L M O V.1 V.2.1 V.2.2.1 V.2.2.2.1 V.2.2.2.2).bind fun a9 =>
 some (V.1, a9.1, a9.2.1, a9.2.2.1, a9.2.2.2)
 else
 if (gt p a1).Kind = 6 then
 (self_0 D G I p q J L M O u ((gt p a1).A)).bind fun X =>
 (self_0 D G I p q J L M O X.1 ((gt p a1).B)).bind fun Z =>
 (Q94.f X.2.1 X.2.2.1 X.2.2.2.1 X.2.2.2.2 Z.2.1 Z.2.2.1 Z.2.2.2.1 Z.2.2.2.2).bind fun b2 =>
 some (Z.1, b2.1, b2.2.1, b2.2.2.1, b2.2.2.2)
 else
 if (gt p a1).Kind = 7 then
 (self_0 D G I p q J L M O u ((gt p a1).A)).bind fun a0 =>
 (self_0 D G I p q J L M O a0.1 ((gt p a1).B)).bind fun a2 =>
 (Q133.f a0.2.1 a0.2.2.1 a0.2.2.2.1 a0.2.2.2.2 a2.2.1 a2.2.2.1 a2.2.2.2.1 a2.2.2.2.2).bind fun b3 =>
 some (a2.1, b3.1, b3.2.1, b3.2.2.1, b3.2.2.2)
 else
 if (gt p a1).Kind = 8 then
 (self_0 D G I p q J L M O u ((gt p a1).A)).bind fun a3 =>
 (Q39.f D G I a3.2.1 a3.2.2.1 a3.2.2.2.1 a3.2.2.2.2 ((gt p a1).Name)).bind fun b4 =>
 some (a3.1, b4.1, b4.2.1, b4.2.2.1, b4.2.2.2)
 else
 if (gt p a1).Kind = 9 then
 (self_0 D G I p q J L M O u ((gt p a1).A)).bind fun U =>
 (Q69.f D G I p q J L M O U.1 U.2.1 U.2.2.1 U.2.2.2.1 U.2.2.2.2).bind fun b5 =>
 (Q39.f D G I b5.1 b5.2.1 b5.2.2.1 b5.2.2.2 ((gt p a1).Name)).bind fun b6 =>
 (Q69.f D G I p q J L M O U.1 b6.1 b6.2.1 b6.2.2.1 b6.2.2.2).bind fun b7 =>
 some (U.1, b7.1, b7.2.1, b7.2.2.1, b7.2.2.2)
 else
 if (gt p a1).Kind = 10 then
 (self_1 D G I p q J L M O u a1 0 0 0 0).bind fun a4 =>
 some (a4.1, a4.2.1, a4.2.2.1, a4.2.2.2.1, a4.2.2.2.2)
 else
 if (gt p a1).Kind = 11 then
 (self_1 D G I p q J L M O u a1 J L M O).bind fun a5 =>
 some (a5.1, a5.2.1, a5.2.2.1, a5.2.2.2.1, a5.2.2.2.2)
 else
 some (u, 0, 0, 0, 0)
 else none
noncomputable def Q21.l0b (u : Int) (D : List (Bs × Q2)) (G : List (Q7 × Q2)) (q : List Q1) (I : List Int) (J L M O a1 : Int) (self_0 : Int → (List (Bs × Q2)) → (List (Q7 × Q2)) → (List Q1) → (List Int) → Int → Int → Int → Int → (List Q2) → Int → Option ((List Q2) × Int × Int × Int × Int)) (U : List Q2) : Option (((List Q2)) ⊕ ((Unit) ⊕ ((List Q2) × Int × Int × Int × Int))) :=
 if (0 : Int) ≤ a1 ∧ a1 < (q.length : Int) then
 (self_0 u D G q I J L M O U ((gt q a1).A)).bind fun p =>
 if (decide (p.2.1 = (gt p.1 a1).c0) && (decide (p.2.2.1 = (gt p.1 a1).c1) && (decide (p.2.2.2.1 = (gt p.1 a1).c2) && (decide (p.2.2.2.2 = (gt p.1 a1).c3) && true)))) = true then
 upL (some (p.1, p.2.1, p.2.2.1, p.2.2.2.1, p.2.2.2.2))
 else
 nx (st p.1 a1 (⟨p.2.1, p.2.2.1, p.2.2.2.1, p.2.2.2.2⟩ : Q2))
 else none
noncomputable def Q21.l0 (p : Int) (q : List (Bs × Q2)) (u : List (Q7 × Q2)) (D : List Q1) (G : List Int) (I J L M a1 : Int) (self_0 : Int → (List (Bs × Q2)) → (List (Q7 × Q2)) → (List Q1) → (List Int) → Int → Int → Int → Int → (List Q2) → Int → Option ((List Q2) × Int × Int × Int × Int)) (O : List Q2) : Option ((Unit) ⊕ ((List Q2) × Int × Int × Int × Int)) := iter (fun t_ : (List Q2) => Q21.l0b p q u D G I J L M a1 self_0 t_) O
noncomputable def Q21.g (self_0 : Int → (List (Bs × Q2)) → (List (Q7 × Q2)) → (List Q1) → (List Int) → Int → Int → Int → Int → (List Q2) → Int → Option ((List Q2) × Int × Int × Int × Int)) (self_1 : Int → (List (Bs × Q2)) → (List (Q7 × Q2)) → (List Q1) → (List Int) → Int → Int → Int → Int → (List Q2) → Int → Int → Int → Int → Int → Option ((List Q2) × Int × Int × Int × Int)) (q : Int) (u : List (Bs × Q2)) (D : List (Q7 × Q2)) (G : List Q1) (I : List Int) (J L M O : Int) (p : List Q2) (a1 U V X Z : Int) : Option ((List Q2) × Int × Int × Int × Int) :=
 if (0 : Int) ≤ a1 ∧ a1 < (p.length : Int) then
 jn (Q21.l0 q u D G I J L M O a1 self_0 (st p a1 (⟨U, V, X, Z⟩ : Q2))) (fun (_ : Unit) => none)
 else none
noncomputable def Q12.tab : Nat → (Int → (List (Bs × Q2)) → (List (Q7 × Q2)) → (List Q1) → (List Int) → Int → Int → Int → Int → (List Q2) → Int → Option ((List Q2) × Int × Int × Int × Int)) × (Int → (List (Bs × Q2)) → (List (Q7 × Q2)) → (List Q1) → (List Int) → Int → Int → Int → Int → (List Q2) → Int → Int → Int → Int → Int → Option ((List Q2) × Int × Int × Int × Int))
 | 0 => (fun _ _ _ _ _ _ _ _ _ _ _ => none, fun _ _ _ _ _ _ _ _ _ _ _ _ _ _ _ => none)
 | k_ + 1 => (Q12.g ((Q12.tab k_).1) ((Q12.tab k_).2), Q21.g ((Q12.tab k_).1) ((Q12.tab k_).2))
noncomputable def Q12.n (k_ : Nat) : Int → (List (Bs × Q2)) → (List (Q7 × Q2)) → (List Q1) → (List Int) → Int → Int → Int → Int → (List Q2) → Int → Option ((List Q2) × Int × Int × Int × Int) := (Q12.tab k_).1
noncomputable def Q12.f (p : Int) (q : List (Bs × Q2)) (u : List (Q7 × Q2)) (D : List Q1) (G : List Int) (I J L M : Int) (O : List Q2) (a1 : Int) : Option ((List Q2) × Int × Int × Int × Int) := recF fun k_ => Q12.n k_ p q u D G I J L M O a1
noncomputable def Q21.n (k_ : Nat) : Int → (List (Bs × Q2)) → (List (Q7 × Q2)) → (List Q1) → (List Int) → Int → Int → Int → Int → (List Q2) → Int → Int → Int → Int → Int → Option ((List Q2) × Int × Int × Int × Int) := (Q12.tab k_).2
theorem Q12.step (self_0 : Int → (List (Bs × Q2)) → (List (Q7 × Q2)) → (List Q1) → (List Int) → Int → Int → Int → Int → (List Q2) → Int → Option ((List Q2) × Int × Int × Int × Int)) (self_1 : Int → (List (Bs × Q2)) → (List (Q7 × Q2)) → (List Q1) → (List Int) → Int → Int → Int → Int → (List Q2) → Int → Int → Int → Int → Int → Option ((List Q2) × Int × Int × Int × Int)) (ih_0 : Q12.SP self_0) (ih_1 : Q21.SP self_1) :
 Q12.SP (Q12.g self_0 self_1) := by
 intro R Fr b0 b0_0 b0_0_1 b0_0_2 A0_1 n0_1 c0_1 A0_2 n0_2 c0_2 A0_7 n0_7 c0_7 M O U p u G I J L D a1 hr0_1 hn0_1 hc0_1 hn0_2 hn0_7 r j; subst hn0_1; subst hn0_2; subst hn0_7; refine Spec.of Tryz.func35 rfl rfl ?_; unfold Q12.g at j; have j := brun j; refine At.seq (At.region ?_); refine At.alloc rfl rfl rfl (fun e5 => ?_); refine nT (sR 3 rfl (At.y (Y.load rfl rfl (.s .z) rfl rfl rfl) rfl rfl rfl (At.run 1 rfl ?_))); obtain ⟨X, j⟩ := bnone j; refine At.y (Y.ixRd hr0_1 rfl rfl rfl rfl rfl rfl rfl X.1 X.2) rfl rfl rfl (At.y (Y.ldFl hr0_1 rfl (q := 0) rfl rfl X.1 X.2 rfl rfl rfl) rfl rfl rfl ?_); refine At.alloc rfl rfl rfl (fun V => ?_); refine At.store rfl rfl rfl rfl .z rfl rfl rfl (.c (.c (.c (.c (.c .n))))) ?_; refine nT (At.seq (sR 1 rfl (At.y (Y.load rfl rfl .z rfl rfl rfl) rfl rfl rfl (At.nil ?_)))); refine At.thn ?_; refine At.block ?_; refine sR 2 rfl (nT ?_); rcases bite j with ⟨a2, j⟩ | ⟨a2, j⟩
 ··refine At.condT rfl (decide_eq_true a2) ?_
   refine sR 3 rfl (At.y (Y.load rfl rfl (.s (.s .z)) rfl rfl rfl) rfl rfl rfl ?_); refine At.store rfl rfl rfl rfl (.s .z) rfl rfl rfl (.c (.c (.c (.c .n)))) ?_; refine nT (At.ret ?_); refine At.ibr ?_; refine At.thr ?_; refine At.resM (.inl rfl) rfl (RV.cell rfl rfl .z rfl rfl rfl RV.nil) ?_; refine At.drop .z (At.drop .z ?_); cases bret j; exact fun a w e hs => ⟨_, ⟨rfl, rfl⟩, hs⟩
 ··refine At.condF rfl (decide_eq_false a2) ?_
   refine sR 2 rfl (nT ?_); rcases bite j with ⟨a3, j⟩ | ⟨a3, j⟩
   ··refine At.condT rfl (decide_eq_true a3) ?_
     refine At.seq ?_; refine At.held [pc V [i6 ((gt p a1).Kind), i6 ((gt p a1).A), i6 ((gt p a1).B), .string ⟨((gt p a1).Name).toArray⟩, i6 ((gt p a1).At)] 33, pc b0 [bp b0_0, .slice A0_1 p.length c0_1, .slice A0_2 u.length c0_2, .int .u64 G, .int .u64 I, .int .u64 J, .int .u64 L, .slice A0_7 D.length c0_7] 145, pc b0_0 [i6 M, .map (some b0_0_1), .map (some b0_0_2)] 82, mapo Fl.bs.ov Q2.fl.av b0_0_1 O, mapo Q7.fl.av Q2.fl.av b0_0_2 U, row (Fl.int .i64) 3 A0_2 u.length c0_2 u, row Q2.fl 35 A0_7 D.length c0_7 D] 8 rfl ?_; refine At.H.pw 0 rfl rfl rfl rfl rfl (.c .z (.c (.s .z) (.c (.s .z) (.c (.s .z) (.c (.s .z) (.c (.s .z) (.c (.s .z) .n))))))) ?_; refine At.H.pw 1 rfl rfl rfl rfl rfl (.c .z (.c (.s .z) (.c (.s .z) (.c (.s .z) (.c (.s .z) (.c (.s .z) (.c (.s .z) .n))))))) ?_; refine At.H.pw 2 rfl rfl rfl rfl rfl (.c .z (.c (.s .z) (.c (.s .z) (.c (.s .z) (.c (.s .z) (.c (.s .z) (.c (.s .z) .n))))))) ?_; refine At.H.tw 3 rfl (Y.load rfl rfl (.s .z) rfl rfl rfl) rfl rfl rfl (.c .z (.c (.s .z) (.c (.s .z) (.c (.s .z) (.c (.s .z) (.c (.s .z) (.c (.s .z) .n))))))) ?_; refine At.H.pw 4 rfl rfl rfl rfl rfl (.c .z (.c (.s .z) (.c (.s .z) (.c (.s .z) (.c (.s .z) (.c (.s .z) (.c (.s .z) .n))))))) ?_; refine At.H.tw 5 rfl (Y.load rfl rfl .z rfl rfl rfl) rfl rfl rfl (.c .z (.c (.s .z) (.c (.s .z) (.c (.s .z) (.c (.s .z) (.c (.s .z) (.c (.s .z) .n))))))) ?_; refine At.H.al [6] (Q6 ?_ Q8)
     ··refine At.HO.op rfl ?_
       refine At.f5 (At.f5 (At.f5 ?_)); obtain ⟨e6, b5, j⟩ := bbind j; refine At.call rfl Q65.callee rfl rfl rfl (Q65.spec b5) ?_; rintro _ _ ⟨rfl, rfl⟩; refine At.HO.back (.c (.s (.s (.s .z))) (.c (.s (.s (.s (.s .z)))) (.c .z (.c .z (.c .z (.c (.s .z) (.c (.s .z) .n))))))) ?_; refine At.H.al [7] (Q6 ?_ Q8)
       ··refine At.HO.op rfl ?_
         refine At.store rfl rfl rfl rfl (.s (.s (.s (.s .z)))) rfl rfl rfl (.c (.c (.c (.c .n)))) ?_; refine At.HO.back (.c (.s (.s (.s (.s .z)))) (.c (.s (.s (.s (.s .z)))) (.c (.s .z) (.c (.s .z) (.c (.s .z) (.c (.s .z) (.c (.s .z) .n))))))) ?_; refine At.H.done (by kernel_rfl) ?_; refine At.thn (At.ret ?_); refine At.ibr ?_; refine At.thr ?_; refine At.resM (.inl rfl) rfl (RV.cell rfl rfl .z rfl rfl rfl RV.nil) ?_; refine At.drop .z (At.drop (.s (.s (.s .z))) (At.f5 (At.f5 (At.f4 (At.f4 (At.f4 (At.f5 ?_))))))); cases bret j; exact fun a w e hs => ⟨_, ⟨rfl, rfl⟩, hs⟩
   ··refine At.condF rfl (decide_eq_false a3) ?_
     refine sR 2 rfl (nT ?_); rcases bite j with ⟨a4, j⟩ | ⟨a4, j⟩
     ··refine At.condT rfl (decide_eq_true a4) ?_
       refine At.seq ?_; refine At.held [pc V [i6 ((gt p a1).Kind), i6 ((gt p a1).A), i6 ((gt p a1).B), .string ⟨((gt p a1).Name).toArray⟩, i6 ((gt p a1).At)] 33, pc b0 [bp b0_0, .slice A0_1 p.length c0_1, .slice A0_2 u.length c0_2, .int .u64 G, .int .u64 I, .int .u64 J, .int .u64 L, .slice A0_7 D.length c0_7] 145, pc b0_0 [i6 M, .map (some b0_0_1), .map (some b0_0_2)] 82, mapo Fl.bs.ov Q2.fl.av b0_0_1 O, mapo Q7.fl.av Q2.fl.av b0_0_2 U, row (Fl.int .i64) 3 A0_2 u.length c0_2 u, row Q2.fl 35 A0_7 D.length c0_7 D] 10 rfl ?_; refine At.H.pw 0 rfl rfl rfl rfl rfl (.c .z (.c (.s .z) (.c (.s .z) (.c (.s .z) (.c (.s .z) (.c (.s .z) (.c (.s .z) .n))))))) ?_; refine At.H.pw 1 rfl rfl rfl rfl rfl (.c .z (.c (.s .z) (.c (.s .z) (.c (.s .z) (.c (.s .z) (.c (.s .z) (.c (.s .z) .n))))))) ?_; refine At.H.pw 2 rfl rfl rfl rfl rfl (.c .z (.c (.s .z) (.c (.s .z) (.c (.s .z) (.c (.s .z) (.c (.s .z) (.c (.s .z) .n))))))) ?_; refine At.H.pw 3 rfl rfl rfl rfl rfl (.c .z (.c (.s .z) (.c (.s .z) (.c (.s .z) (.c (.s .z) (.c (.s .z) (.c (.s .z) .n))))))) ?_; refine At.H.tw 4 rfl (Y.load rfl rfl (.s .z) rfl rfl rfl) rfl rfl rfl (.c .z (.c (.s .z) (.c (.s .z) (.c (.s .z) (.c (.s .z) (.c (.s .z) (.c (.s .z) .n))))))) ?_; refine At.H.pw 5 rfl rfl rfl rfl rfl (.c .z (.c (.s .z) (.c (.s .z) (.c (.s .z) (.c (.s .z) (.c (.s .z) (.c (.s .z) .n))))))) ?_; refine At.H.tw 6 rfl (Y.load rfl rfl .z rfl rfl rfl) rfl rfl rfl (.c .z (.c (.s .z) (.c (.s .z) (.c (.s .z) (.c (.s .z) (.c (.s .z) (.c (.s .z) .n))))))) ?_; refine At.H.al [7] (Q6 ?_ Q8)
       ··refine At.HO.op rfl ?_
         refine At.f5 (At.f5 (At.f5 ?_)); obtain ⟨e7, b6, j⟩ := bbind j; refine At.call rfl Q65.callee rfl rfl rfl (Q65.spec b6) ?_; rintro _ _ ⟨rfl, rfl⟩; refine At.HO.back (.c (.s (.s (.s .z))) (.c (.s (.s (.s (.s .z)))) (.c .z (.c .z (.c .z (.c (.s .z) (.c (.s .z) .n))))))) ?_; refine At.H.al [8] (Q6 ?_ Q8)
         ··refine At.HO.op rfl ?_
           refine At.f7 (At.f7 (At.f4 (At.f4 (At.f4 (At.f7 ?_))))); obtain ⟨e8, b7, j⟩ := bbind j; refine At.call rfl Q69.callee rfl rfl rfl (Q69.spec hr0_1 rfl hc0_1 rfl rfl b7) ?_; rintro _ _ ⟨rfl, rfl⟩; refine At.HO.back (.c (.s (.s (.s (.s (.s (.s .z)))))) (.c .z (.c .z (.c .z (.c .z (.c .z (.c .z .n))))))) ?_; refine At.H.al [9] (Q6 ?_ Q8)
           ··refine At.HO.op rfl ?_
             refine At.store rfl rfl rfl rfl (.s (.s (.s (.s (.s (.s (.s .z))))))) rfl rfl rfl (.c (.c (.c (.c .n)))) ?_; refine At.HO.back (.c (.s (.s (.s (.s (.s (.s (.s .z))))))) (.c (.s .z) (.c (.s .z) (.c (.s .z) (.c (.s .z) (.c (.s .z) (.c (.s .z) .n))))))) ?_; refine At.H.done (by kernel_rfl) ?_; refine At.thn (At.ret ?_); refine At.ibr ?_; refine At.thr ?_; refine At.resM (.inl rfl) rfl (RV.cell rfl rfl .z rfl rfl rfl RV.nil) ?_; refine At.drop .z (At.drop (.s (.s (.s (.s (.s (.s .z)))))) ?_); cases bret j; exact fun a w e hs => ⟨_, ⟨rfl, rfl⟩, hs⟩
     ··refine At.condF rfl (decide_eq_false a4) ?_
       refine sR 2 rfl (nT ?_); rcases bite j with ⟨a5, j⟩ | ⟨a5, j⟩
       ··refine At.condT rfl (decide_eq_true a5) ?_
         refine At.seq ?_; refine At.still 13 (by kernel_rfl) ?_; refine At.Still.run 3 rfl ?_; refine At.Still.y (Y.load rfl rfl (.s (.s .z)) rfl rfl rfl) rfl rfl rfl ?_; refine At.Still.run 3 rfl ?_; refine At.Still.y (Y.load rfl rfl (.s (.s .z)) rfl rfl rfl) rfl rfl rfl ?_; refine At.Still.run 1 rfl ?_; obtain ⟨Z, j⟩ := bnone j; refine At.Still.y (Y.ix (.s (.s (.s (.s (.s (.s .z)))))) rfl rfl rfl rfl rfl rfl Z.1 Z.2) rfl rfl rfl ?_; refine At.Still.y (Y.ld (.s (.s (.s (.s (.s (.s .z)))))) (q := 0) rfl rfl Z.1 Z.2 rfl rfl rfl) rfl rfl rfl ?_; obtain ⟨a0, j⟩ := bnone j; refine At.Still.y (Y.ix (.s (.s (.s (.s (.s (.s (.s .z))))))) rfl rfl rfl rfl rfl rfl a0.1 a0.2) rfl rfl rfl ?_; refine At.Still.y (Y.ld (.s (.s (.s (.s (.s (.s (.s .z))))))) (q := 0) rfl rfl a0.1 a0.2 rfl rfl rfl) rfl rfl rfl ?_; refine At.Still.nil ?_; refine At.store rfl rfl rfl rfl (.s .z) rfl rfl rfl (.c (.c (.c (.c .n)))) ?_; refine nT (At.ret ?_); refine At.ibr ?_; refine At.thr ?_; refine At.resM (.inl rfl) rfl (RV.cell rfl rfl .z rfl rfl rfl RV.nil) ?_; refine At.drop .z (At.drop .z ?_); cases bret j; exact fun a w e hs => ⟨_, ⟨rfl, rfl⟩, hs⟩
       ··refine At.condF rfl (decide_eq_false a5) ?_
         refine sR 2 rfl (nT ?_); rcases bite j with ⟨a6, j⟩ | ⟨a6, j⟩
         ··refine At.condT rfl (decide_eq_true a6) ?_
           refine sR 3 rfl (At.y (Y.load rfl rfl .z rfl rfl rfl) rfl rfl rfl (At.f7 (At.f7 (At.f7 (At.f7 ?_))))); refine At.f7 (At.f7 ?_); obtain ⟨e9, b8, j⟩ := bbind j; refine At.call rfl Q12.callee rfl rfl rfl (ih_0 _ _ b0 b0_0 b0_0_1 b0_0_2 A0_1 p.length c0_1 A0_2 u.length c0_2 A0_7 D.length c0_7 M O U p u G I J L D ((gt p a1).A) hr0_1 rfl hc0_1 rfl rfl b8) ?_; rintro _ _ ⟨rfl, rfl⟩; refine At.rowLen (.s (.s (.s (.s (.s .z))))) fun b9 => ?_; obtain ⟨f0, c4, j⟩ := bbind j; refine At.call rfl Q69.callee rfl rfl rfl (Q69.spec hr0_1 rfl hc0_1 rfl b9 c4) ?_; rintro _ _ ⟨rfl, rfl⟩; refine At.store rfl rfl rfl rfl (.s (.s (.s (.s (.s (.s (.s .z))))))) rfl rfl rfl (.c (.c (.c (.c .n)))) ?_; refine nT (At.ret ?_); refine At.ibr ?_; refine At.thr ?_; refine At.resM (.inl rfl) rfl (RV.cell rfl rfl .z rfl rfl rfl RV.nil) ?_; refine At.drop .z (At.drop (.s (.s (.s (.s (.s (.s .z)))))) ?_); cases bret j; exact fun a w e hs => ⟨_, ⟨rfl, rfl⟩, hs⟩
         ··refine At.condF rfl (decide_eq_false a6) ?_
           refine sR 2 rfl (nT ?_); rcases bite j with ⟨a7, j⟩ | ⟨a7, j⟩
           ··refine At.condT rfl (decide_eq_true a7) ?_
             refine At.seq ?_; refine At.held [pc V [i6 ((gt p a1).Kind), i6 ((gt p a1).A), i6 ((gt p a1).B), .string ⟨((gt p a1).Name).toArray⟩, i6 ((gt p a1).At)] 33, pc b0 [bp b0_0, .slice A0_1 p.length c0_1, .slice A0_2 u.length c0_2, .int .u64 G, .int .u64 I, .int .u64 J, .int .u64 L, .slice A0_7 D.length c0_7] 145, pc b0_0 [i6 M, .map (some b0_0_1), .map (some b0_0_2)] 82, mapo Fl.bs.ov Q2.fl.av b0_0_1 O, mapo Q7.fl.av Q2.fl.av b0_0_2 U, row (Fl.int .i64) 3 A0_2 u.length c0_2 u] 10 rfl ?_; refine At.H.pw 0 rfl rfl rfl rfl rfl (.c .z (.c (.s .z) (.c (.s .z) (.c (.s .z) (.c (.s .z) (.c (.s .z) .n)))))) ?_; refine At.H.pw 1 rfl rfl rfl rfl rfl (.c .z (.c (.s .z) (.c (.s .z) (.c (.s .z) (.c (.s .z) (.c (.s .z) .n)))))) ?_; refine At.H.tw 2 rfl (Y.load rfl rfl .z rfl rfl rfl) rfl rfl rfl (.c .z (.c (.s .z) (.c (.s .z) (.c (.s .z) (.c (.s .z) (.c (.s .z) .n)))))) ?_; refine At.H.pw 4 rfl rfl rfl rfl rfl (.c .z (.c (.s .z) (.c (.s .z) (.c (.s .z) (.c (.s .z) (.c (.s .z) .n)))))) ?_; refine At.H.pw 5 rfl rfl rfl rfl rfl (.c .z (.c (.s .z) (.c (.s .z) (.c (.s .z) (.c (.s .z) (.c (.s .z) .n)))))) ?_; refine At.H.tw 6 rfl (Y.load rfl rfl .z rfl rfl rfl) rfl rfl rfl (.c .z (.c (.s .z) (.c (.s .z) (.c (.s .z) (.c (.s .z) (.c (.s .z) .n)))))) ?_; refine At.H.al [3] (Q6 ?_ Q8)
             ··refine At.HO.op rfl ?_
               refine At.f7 (At.f7 (At.f7 (At.f7 (At.f7 (At.f7 ?_))))); obtain ⟨c5, c6, j⟩ := bbind j; refine At.call rfl Q12.callee rfl rfl rfl (ih_0 _ _ b0 b0_0 b0_0_1 b0_0_2 A0_1 p.length c0_1 A0_2 u.length c0_2 A0_7 D.length c0_7 M O U p u G I J L D ((gt p a1).A) hr0_1 rfl hc0_1 rfl rfl c6) ?_; rintro _ _ ⟨rfl, rfl⟩; refine At.HO.back (.c (.s (.s (.s (.s (.s (.s .z)))))) (.c .z (.c .z (.c .z (.c .z (.c .z .n)))))) ?_; refine At.H.al [7] (Q6 ?_ Q8)
               ··refine At.HO.op rfl ?_
                 refine At.rowLen (.s (.s (.s (.s (.s .z))))) fun c7 => ?_; obtain ⟨f1, c8, j⟩ := bbind j; refine At.call rfl Q12.callee rfl rfl rfl (ih_0 _ _ b0 b0_0 b0_0_1 b0_0_2 A0_1 p.length c0_1 A0_2 u.length c0_2 A0_7 D.length c0_7 M O U p u G I J L c5.1 ((gt p a1).B) hr0_1 rfl hc0_1 rfl c7 c8) ?_; rintro _ _ ⟨rfl, rfl⟩; refine At.HO.back (.c (.s (.s (.s (.s (.s (.s .z)))))) (.c .z (.c .z (.c .z (.c .z (.c .z .n)))))) ?_; refine At.H.al [8] (Q6 ?_ Q8)
                 ··refine At.HO.op rfl ?_
                   obtain ⟨f2, c9, j⟩ := bbind j; refine At.call rfl Q94.callee rfl rfl rfl (Q94.spec c9) ?_; rintro _ _ ⟨rfl, rfl⟩; refine At.HO.back (.c (.s (.s (.s (.s (.s (.s .z)))))) (.c .z (.c .z (.c .z (.c .z (.c .z .n)))))) ?_; refine At.H.al [9] (Q6 ?_ Q8)
                   ··refine At.HO.op rfl ?_
                     refine At.store rfl rfl rfl rfl (.s (.s (.s (.s (.s (.s (.s .z))))))) rfl rfl rfl (.c (.c (.c (.c .n)))) ?_; refine At.HO.back (.c (.s (.s (.s (.s (.s (.s (.s .z))))))) (.c (.s .z) (.c (.s .z) (.c (.s .z) (.c (.s .z) (.c (.s .z) .n)))))) ?_; refine At.H.done (by kernel_rfl) ?_; refine At.thn (At.ret ?_); refine At.ibr ?_; refine At.thr ?_; refine At.resM (.inl rfl) rfl (RV.cell rfl rfl .z rfl rfl rfl RV.nil) ?_; refine At.drop .z (At.drop (.s (.s (.s (.s (.s (.s .z)))))) ?_); cases bret j; exact fun a w e hs => ⟨_, ⟨rfl, rfl⟩, hs⟩
           ··refine At.condF rfl (decide_eq_false a7) ?_
             refine sR 2 rfl (nT ?_); rcases bite j with ⟨a8, j⟩ | ⟨a8, j⟩
             ··refine At.condT rfl (decide_eq_true a8) ?_
               refine At.seq ?_; refine At.held [pc V [i6 ((gt p a1).Kind), i6 ((gt p a1).A), i6 ((gt p a1).B), .string ⟨((gt p a1).Name).toArray⟩, i6 ((gt p a1).At)] 33, pc b0 [bp b0_0, .slice A0_1 p.length c0_1, .slice A0_2 u.length c0_2, .int .u64 G, .int .u64 I, .int .u64 J, .int .u64 L, .slice A0_7 D.length c0_7] 145, pc b0_0 [i6 M, .map (some b0_0_1), .map (some b0_0_2)] 82, mapo Fl.bs.ov Q2.fl.av b0_0_1 O, mapo Q7.fl.av Q2.fl.av b0_0_2 U, row (Fl.int .i64) 3 A0_2 u.length c0_2 u] 10 rfl ?_; refine At.H.pw 0 rfl rfl rfl rfl rfl (.c .z (.c (.s .z) (.c (.s .z) (.c (.s .z) (.c (.s .z) (.c (.s .z) .n)))))) ?_; refine At.H.pw 1 rfl rfl rfl rfl rfl (.c .z (.c (.s .z) (.c (.s .z) (.c (.s .z) (.c (.s .z) (.c (.s .z) .n)))))) ?_; refine At.H.tw 2 rfl (Y.load rfl rfl .z rfl rfl rfl) rfl rfl rfl (.c .z (.c (.s .z) (.c (.s .z) (.c (.s .z) (.c (.s .z) (.c (.s .z) .n)))))) ?_; refine At.H.pw 4 rfl rfl rfl rfl rfl (.c .z (.c (.s .z) (.c (.s .z) (.c (.s .z) (.c (.s .z) (.c (.s .z) .n)))))) ?_; refine At.H.pw 5 rfl rfl rfl rfl rfl (.c .z (.c (.s .z) (.c (.s .z) (.c (.s .z) (.c (.s .z) (.c (.s .z) .n)))))) ?_; refine At.H.tw 6 rfl (Y.load rfl rfl .z rfl rfl rfl) rfl rfl rfl (.c .z (.c (.s .z) (.c (.s .z) (.c (.s .z) (.c (.s .z) (.c (.s .z) .n)))))) ?_; refine At.H.al [3] (Q6 ?_ Q8)
               ··refine At.HO.op rfl ?_
                 refine At.f7 (At.f7 (At.f7 (At.f7 (At.f7 (At.f7 ?_))))); obtain ⟨d0, d1, j⟩ := bbind j; refine At.call rfl Q12.callee rfl rfl rfl (ih_0 _ _ b0 b0_0 b0_0_1 b0_0_2 A0_1 p.length c0_1 A0_2 u.length c0_2 A0_7 D.length c0_7 M O U p u G I J L D ((gt p a1).A) hr0_1 rfl hc0_1 rfl rfl d1) ?_; rintro _ _ ⟨rfl, rfl⟩; refine At.HO.back (.c (.s (.s (.s (.s (.s (.s .z)))))) (.c .z (.c .z (.c .z (.c .z (.c .z .n)))))) ?_; refine At.H.al [7] (Q6 ?_ Q8)
                 ··refine At.HO.op rfl ?_
                   refine At.rowLen (.s (.s (.s (.s (.s .z))))) fun d2 => ?_; obtain ⟨f6, d3, j⟩ := bbind j; refine At.call rfl Q12.callee rfl rfl rfl (ih_0 _ _ b0 b0_0 b0_0_1 b0_0_2 A0_1 p.length c0_1 A0_2 u.length c0_2 A0_7 D.length c0_7 M O U p u G I J L d0.1 ((gt p a1).B) hr0_1 rfl hc0_1 rfl d2 d3) ?_; rintro _ _ ⟨rfl, rfl⟩; refine At.HO.back (.c (.s (.s (.s (.s (.s (.s .z)))))) (.c .z (.c .z (.c .z (.c .z (.c .z .n)))))) ?_; refine At.H.al [8] (Q6 ?_ Q8)
                   ··refine At.HO.op rfl ?_
                     obtain ⟨f8, d4, j⟩ := bbind j; refine At.call rfl Q133.callee rfl rfl rfl (Q133.spec d4) ?_; rintro _ _ ⟨rfl, rfl⟩; refine At.HO.back (.c (.s (.s (.s (.s (.s (.s .z)))))) (.c .z (.c .z (.c .z (.c .z (.c .z .n)))))) ?_; refine At.H.al [9] (Q6 ?_ Q8)
                     ··refine At.HO.op rfl ?_
                       refine At.store rfl rfl rfl rfl (.s (.s (.s (.s (.s (.s (.s .z))))))) rfl rfl rfl (.c (.c (.c (.c .n)))) ?_; refine At.HO.back (.c (.s (.s (.s (.s (.s (.s (.s .z))))))) (.c (.s .z) (.c (.s .z) (.c (.s .z) (.c (.s .z) (.c (.s .z) .n)))))) ?_; refine At.H.done (by kernel_rfl) ?_; refine At.thn (At.ret ?_); refine At.ibr ?_; refine At.thr ?_; refine At.resM (.inl rfl) rfl (RV.cell rfl rfl .z rfl rfl rfl RV.nil) ?_; refine At.drop .z (At.drop (.s (.s (.s (.s (.s (.s .z)))))) ?_); cases bret j; exact fun a w e hs => ⟨_, ⟨rfl, rfl⟩, hs⟩
             ··refine At.condF rfl (decide_eq_false a8) ?_
               refine sR 2 rfl (nT ?_); rcases bite j with ⟨a9, j⟩ | ⟨a9, j⟩
               ··refine At.condT rfl (decide_eq_true a9) ?_
                 refine At.seq ?_; refine At.held [pc V [i6 ((gt p a1).Kind), i6 ((gt p a1).A), i6 ((gt p a1).B), .string ⟨((gt p a1).Name).toArray⟩, i6 ((gt p a1).At)] 33, pc b0 [bp b0_0, .slice A0_1 p.length c0_1, .slice A0_2 u.length c0_2, .int .u64 G, .int .u64 I, .int .u64 J, .int .u64 L, .slice A0_7 D.length c0_7] 145, pc b0_0 [i6 M, .map (some b0_0_1), .map (some b0_0_2)] 82, mapo Fl.bs.ov Q2.fl.av b0_0_1 O, mapo Q7.fl.av Q2.fl.av b0_0_2 U, row (Fl.int .i64) 3 A0_2 u.length c0_2 u] 12 rfl ?_; refine At.H.pw 0 rfl rfl rfl rfl rfl (.c .z (.c (.s .z) (.c (.s .z) (.c (.s .z) (.c (.s .z) (.c (.s .z) .n)))))) ?_; refine At.H.pw 1 rfl rfl rfl rfl rfl (.c .z (.c (.s .z) (.c (.s .z) (.c (.s .z) (.c (.s .z) (.c (.s .z) .n)))))) ?_; refine At.H.pw 2 rfl rfl rfl rfl rfl (.c .z (.c (.s .z) (.c (.s .z) (.c (.s .z) (.c (.s .z) (.c (.s .z) .n)))))) ?_; refine At.H.tw 3 rfl (Y.load rfl rfl (.s .z) rfl rfl rfl) rfl rfl rfl (.c .z (.c (.s .z) (.c (.s .z) (.c (.s .z) (.c (.s .z) (.c (.s .z) .n)))))) ?_; refine At.H.pw 4 rfl rfl rfl rfl rfl (.c .z (.c (.s .z) (.c (.s .z) (.c (.s .z) (.c (.s .z) (.c (.s .z) .n)))))) ?_; refine At.H.pw 5 rfl rfl rfl rfl rfl (.c .z (.c (.s .z) (.c (.s .z) (.c (.s .z) (.c (.s .z) (.c (.s .z) .n)))))) ?_; refine At.H.tw 6 rfl (Y.load rfl rfl .z rfl rfl rfl) rfl rfl rfl (.c .z (.c (.s .z) (.c (.s .z) (.c (.s .z) (.c (.s .z) (.c (.s .z) .n)))))) ?_; refine At.H.pw 8 rfl rfl rfl rfl rfl (.c .z (.c (.s .z) (.c (.s .z) (.c (.s .z) (.c (.s .z) (.c (.s .z) .n)))))) ?_; refine At.H.tw 9 rfl (Y.load rfl rfl .z rfl rfl rfl) rfl rfl rfl (.c .z (.c (.s .z) (.c (.s .z) (.c (.s .z) (.c (.s .z) (.c (.s .z) .n)))))) ?_; refine At.H.al [7] (Q6 ?_ Q8)
                 ··refine At.HO.op rfl ?_
                   refine At.f7 (At.f7 (At.f7 (At.f7 (At.f7 (At.f7 ?_))))); obtain ⟨f9, d5, j⟩ := bbind j; refine At.call rfl Q12.callee rfl rfl rfl (ih_0 _ _ b0 b0_0 b0_0_1 b0_0_2 A0_1 p.length c0_1 A0_2 u.length c0_2 A0_7 D.length c0_7 M O U p u G I J L D ((gt p a1).A) hr0_1 rfl hc0_1 rfl rfl d5) ?_; rintro _ _ ⟨rfl, rfl⟩; refine At.HO.back (.c (.s (.s (.s (.s (.s (.s .z)))))) (.c .z (.c .z (.c .z (.c .z (.c .z .n)))))) ?_; refine At.H.al [10] (Q6 ?_ Q8)
                   ··refine At.HO.op rfl ?_
                     refine At.f3 (At.f3 (At.f3 ?_)); obtain ⟨g0, d6, j⟩ := bbind j; refine At.call rfl Q39.callee rfl rfl rfl (Q39.spec d6) ?_; rintro _ _ ⟨rfl, rfl⟩; refine At.HO.back (.c (.s (.s (.s (.s (.s (.s .z)))))) (.c (.s (.s (.s .z))) (.c .z (.c .z (.c .z (.c .z .n)))))) ?_; refine At.H.al [11] (Q6 ?_ Q8)
                     ··refine At.HO.op rfl ?_
                       refine At.store rfl rfl rfl rfl (.s (.s (.s (.s (.s (.s (.s .z))))))) rfl rfl rfl (.c (.c (.c (.c .n)))) ?_; refine At.HO.back (.c (.s (.s (.s (.s (.s (.s (.s .z))))))) (.c (.s (.s (.s (.s .z)))) (.c (.s .z) (.c (.s .z) (.c (.s .z) (.c (.s .z) .n)))))) ?_; refine At.H.done (by kernel_rfl) ?_; refine At.thn (At.ret ?_); refine At.ibr ?_; refine At.thr ?_; refine At.resM (.inl rfl) rfl (RV.cell rfl rfl .z rfl rfl rfl RV.nil) ?_; refine At.drop .z (At.drop (.s (.s (.s (.s (.s (.s .z)))))) (At.f5 (At.f5 (At.f4 (At.f4 (At.f4 (At.f5 ?_))))))); cases bret j; exact fun a w e hs => ⟨_, ⟨rfl, rfl⟩, hs⟩
               ··refine At.condF rfl (decide_eq_false a9) ?_
                 refine sR 2 rfl (nT ?_); rcases bite j with ⟨b2, j⟩ | ⟨b2, j⟩
                 ··refine At.condT rfl (decide_eq_true b2) ?_
                   refine At.seq ?_; refine At.held [pc V [i6 ((gt p a1).Kind), i6 ((gt p a1).A), i6 ((gt p a1).B), .string ⟨((gt p a1).Name).toArray⟩, i6 ((gt p a1).At)] 33, pc b0 [bp b0_0, .slice A0_1 p.length c0_1, .slice A0_2 u.length c0_2, .int .u64 G, .int .u64 I, .int .u64 J, .int .u64 L, .slice A0_7 D.length c0_7] 145, pc b0_0 [i6 M, .map (some b0_0_1), .map (some b0_0_2)] 82, mapo Fl.bs.ov Q2.fl.av b0_0_1 O, mapo Q7.fl.av Q2.fl.av b0_0_2 U, row (Fl.int .i64) 3 A0_2 u.length c0_2 u] 16 rfl ?_; refine At.H.pw 0 rfl rfl rfl rfl rfl (.c .z (.c (.s .z) (.c (.s .z) (.c (.s .z) (.c (.s .z) (.c (.s .z) .n)))))) ?_; refine At.H.pw 1 rfl rfl rfl rfl rfl (.c .z (.c (.s .z) (.c (.s .z) (.c (.s .z) (.c (.s .z) (.c (.s .z) .n)))))) ?_; refine At.H.pw 2 rfl rfl rfl rfl rfl (.c .z (.c (.s .z) (.c (.s .z) (.c (.s .z) (.c (.s .z) (.c (.s .z) .n)))))) ?_; refine At.H.pw 3 rfl rfl rfl rfl rfl (.c .z (.c (.s .z) (.c (.s .z) (.c (.s .z) (.c (.s .z) (.c (.s .z) .n)))))) ?_; refine At.H.tw 4 rfl (Y.load rfl rfl (.s .z) rfl rfl rfl) rfl rfl rfl (.c .z (.c (.s .z) (.c (.s .z) (.c (.s .z) (.c (.s .z) (.c (.s .z) .n)))))) ?_; refine At.H.pw 5 rfl rfl rfl rfl rfl (.c .z (.c (.s .z) (.c (.s .z) (.c (.s .z) (.c (.s .z) (.c (.s .z) .n)))))) ?_; refine At.H.pw 6 rfl rfl rfl rfl rfl (.c .z (.c (.s .z) (.c (.s .z) (.c (.s .z) (.c (.s .z) (.c (.s .z) .n)))))) ?_; refine At.H.pw 7 rfl rfl rfl rfl rfl (.c .z (.c (.s .z) (.c (.s .z) (.c (.s .z) (.c (.s .z) (.c (.s .z) .n)))))) ?_; refine At.H.tw 8 rfl (Y.load rfl rfl .z rfl rfl rfl) rfl rfl rfl (.c .z (.c (.s .z) (.c (.s .z) (.c (.s .z) (.c (.s .z) (.c (.s .z) .n)))))) ?_; refine At.H.pw 11 rfl rfl rfl rfl rfl (.c .z (.c (.s .z) (.c (.s .z) (.c (.s .z) (.c (.s .z) (.c (.s .z) .n)))))) ?_; refine At.H.tw 12 rfl (Y.load rfl rfl .z rfl rfl rfl) rfl rfl rfl (.c .z (.c (.s .z) (.c (.s .z) (.c (.s .z) (.c (.s .z) (.c (.s .z) .n)))))) ?_; refine At.H.al [9] (Q6 ?_ Q8)
                   ··refine At.HO.op rfl ?_
                     refine At.f7 (At.f7 (At.f7 (At.f7 (At.f7 (At.f7 ?_))))); obtain ⟨g1, d7, j⟩ := bbind j; refine At.call rfl Q12.callee rfl rfl rfl (ih_0 _ _ b0 b0_0 b0_0_1 b0_0_2 A0_1 p.length c0_1 A0_2 u.length c0_2 A0_7 D.length c0_7 M O U p u G I J L D ((gt p a1).A) hr0_1 rfl hc0_1 rfl rfl d7) ?_; rintro _ _ ⟨rfl, rfl⟩; refine At.HO.back (.c (.s (.s (.s (.s (.s (.s .z)))))) (.c .z (.c .z (.c .z (.c .z (.c .z .n)))))) ?_; refine At.H.al [10] (Q6 ?_ Q8)
                     ··refine At.HO.op rfl ?_
                       refine At.rowLen (.s (.s (.s (.s (.s .z))))) fun d8 => ?_; obtain ⟨g2, d9, j⟩ := bbind j; refine At.call rfl Q69.callee rfl rfl rfl (Q69.spec hr0_1 rfl hc0_1 rfl d8 d9) ?_; rintro _ _ ⟨rfl, rfl⟩; refine At.HO.back (.c (.s (.s (.s (.s (.s (.s .z)))))) (.c .z (.c .z (.c .z (.c .z (.c .z .n)))))) ?_; refine At.H.al [13] (Q6 ?_ Q8)
                       ··refine At.HO.op rfl ?_
                         refine At.f3 (At.f3 (At.f3 ?_)); obtain ⟨g3, e0, j⟩ := bbind j; refine At.call rfl Q39.callee rfl rfl rfl (Q39.spec e0) ?_; rintro _ _ ⟨rfl, rfl⟩; refine At.HO.back (.c (.s (.s (.s (.s (.s (.s .z)))))) (.c (.s (.s (.s .z))) (.c .z (.c .z (.c .z (.c .z .n)))))) ?_; refine At.H.al [14] (Q6 ?_ Q8)
                         ··refine At.HO.op rfl ?_
                           refine At.rowLen (.s (.s (.s (.s (.s .z))))) fun e1 => ?_; refine At.f5 (At.f5 (At.f4 (At.f4 (At.f4 (At.f5 ?_))))); obtain ⟨g4, e2, j⟩ := bbind j; refine At.call rfl Q69.callee rfl rfl rfl (Q69.spec hr0_1 rfl hc0_1 rfl e1 e2) ?_; rintro _ _ ⟨rfl, rfl⟩; refine At.HO.back (.c (.s (.s (.s (.s (.s (.s .z)))))) (.c .z (.c .z (.c .z (.c .z (.c .z .n)))))) ?_; refine At.H.al [15] (Q6 ?_ Q8)
                           ··refine At.HO.op rfl ?_
                             refine At.store rfl rfl rfl rfl (.s (.s (.s (.s (.s (.s (.s .z))))))) rfl rfl rfl (.c (.c (.c (.c .n)))) ?_; refine At.HO.back (.c (.s (.s (.s (.s (.s (.s (.s .z))))))) (.c (.s .z) (.c (.s .z) (.c (.s .z) (.c (.s .z) (.c (.s .z) .n)))))) ?_; refine At.H.done (by kernel_rfl) ?_; refine At.thn (At.ret ?_); refine At.ibr ?_; refine At.thr ?_; refine At.resM (.inl rfl) rfl (RV.cell rfl rfl .z rfl rfl rfl RV.nil) ?_; refine At.drop .z (At.drop (.s (.s (.s (.s (.s (.s .z)))))) ?_); cases bret j; exact fun a w e hs => ⟨_, ⟨rfl, rfl⟩, hs⟩
                 ··refine At.condF rfl (decide_eq_false b2) ?_
                   refine sR 2 rfl (nT ?_); rcases bite j with ⟨b3, j⟩ | ⟨b3, j⟩
                   ··refine At.condT rfl (decide_eq_true b3) ?_
                     refine sR 2 rfl ?_; refine At.y (Y.buildA (is := []) (xo := []) (vs := []) (cs := [.int .u64 0, .int .u64 0, .int .u64 0, .int .u64 0]) rfl rfl rfl rfl rfl rfl) rfl rfl rfl ?_; refine At.f7 (At.f7 (At.f7 (At.f7 (At.f7 (At.f7 ?_))))); obtain ⟨g5, e3, j⟩ := bbind j; refine At.call rfl Q21.callee rfl rfl rfl (ih_1 _ _ b0 b0_0 b0_0_1 b0_0_2 A0_1 p.length c0_1 A0_2 u.length c0_2 A0_7 D.length c0_7 M O U p u G I J L D a1 0 0 0 0 hr0_1 rfl hc0_1 rfl rfl e3) ?_; rintro _ _ ⟨rfl, rfl⟩; refine At.store rfl rfl rfl rfl (.s (.s (.s (.s (.s (.s (.s .z))))))) rfl rfl rfl (.c (.c (.c (.c .n)))) ?_; refine nT (At.ret ?_); refine At.ibr ?_; refine At.thr ?_; refine At.resM (.inl rfl) rfl (RV.cell rfl rfl .z rfl rfl rfl RV.nil) ?_; refine At.drop .z (At.drop (.s (.s (.s (.s (.s (.s .z)))))) ?_); cases bret j; exact fun a w e hs => ⟨_, ⟨rfl, rfl⟩, hs⟩
                   ··refine At.condF rfl (decide_eq_false b3) ?_
                     refine sR 2 rfl (nT ?_); rcases bite j with ⟨b4, j⟩ | ⟨b4, j⟩
                     ··refine At.condT rfl (decide_eq_true b4) ?_
                       refine sR 5 rfl (At.y (Y.load rfl rfl (.s (.s .z)) rfl rfl rfl) rfl rfl rfl (At.f7 (At.f7 (At.f7 (At.f7 ?_))))); refine At.f7 (At.f7 ?_); obtain ⟨g6, e4, j⟩ := bbind j; refine At.call rfl Q21.callee rfl rfl rfl (ih_1 _ _ b0 b0_0 b0_0_1 b0_0_2 A0_1 p.length c0_1 A0_2 u.length c0_2 A0_7 D.length c0_7 M O U p u G I J L D a1 G I J L hr0_1 rfl hc0_1 rfl rfl e4) ?_; rintro _ _ ⟨rfl, rfl⟩; refine At.store rfl rfl rfl rfl (.s (.s (.s (.s (.s (.s (.s .z))))))) rfl rfl rfl (.c (.c (.c (.c .n)))) ?_; refine nT (At.ret ?_); refine At.ibr ?_; refine At.thr ?_; refine At.resM (.inl rfl) rfl (RV.cell rfl rfl .z rfl rfl rfl RV.nil) ?_; refine At.drop .z (At.drop (.s (.s (.s (.s (.s (.s .z)))))) ?_); cases bret j; exact fun a w e hs => ⟨_, ⟨rfl, rfl⟩, hs⟩
                     ··refine At.condF rfl (decide_eq_false b4) ?_
                       refine At.skip ?_; refine At.ibn ?_; refine At.thn (At.seq (At.region ?_)); refine At.y (Y.buildA (is := []) (xo := []) (vs := []) (cs := [.int .u64 0, .int .u64 0, .int .u64 0, .int .u64 0]) rfl rfl rfl rfl rfl rfl) rfl rfl rfl ?_; refine At.store rfl rfl rfl rfl (.s .z) rfl rfl rfl (.c (.c (.c (.c .n)))) ?_; refine nT (At.ret ?_); refine At.resM (.inl rfl) rfl (RV.cell rfl rfl .z rfl rfl rfl RV.nil) ?_; refine At.drop .z (At.drop .z ?_); cases bret j; exact fun a w e hs => ⟨_, ⟨rfl, rfl⟩, hs⟩
theorem Q21.step (self_0 : Int → (List (Bs × Q2)) → (List (Q7 × Q2)) → (List Q1) → (List Int) → Int → Int → Int → Int → (List Q2) → Int → Option ((List Q2) × Int × Int × Int × Int)) (self_1 : Int → (List (Bs × Q2)) → (List (Q7 × Q2)) → (List Q1) → (List Int) → Int → Int → Int → Int → (List Q2) → Int → Int → Int → Int → Int → Option ((List Q2) × Int × Int × Int × Int)) (ih_0 : Q12.SP self_0) (ih_1 : Q21.SP self_1) :
 Q21.SP (Q21.g self_0 self_1) := by
 intro R Fr b0 b0_0 b0_0_1 b0_0_2 A0_1 n0_1 c0_1 A0_2 n0_2 c0_2 A0_7 n0_7 c0_7 M O U I D V Z a0 a2 a3 a1 a4 a5 a6 a7 hr0_1 hn0_1 hc0_1 hn0_2 hn0_7 r j; subst hn0_1; subst hn0_2; subst hn0_7; refine Spec.of Tryz.func88 rfl rfl ?_; unfold Q21.g at j; have j := brun j; refine At.seq (At.region ?_); refine At.box rfl rfl (cs := [.int .u64 a4, .int .u64 a5, .int .u64 a6, .int .u64 a7]) rfl rfl (fun b5 => ?_); refine At.alloc rfl rfl rfl (fun b3 => ?_); refine nT (At.seq ?_); refine At.still 7 (by kernel_rfl) ?_; refine At.Still.run 3 rfl ?_; refine At.Still.y (Y.load rfl rfl (.s (.s .z)) rfl rfl rfl) rfl rfl rfl ?_; refine At.Still.run 1 rfl ?_; refine At.Still.y (Y.load rfl rfl (.s .z) rfl rfl rfl) rfl rfl rfl ?_; obtain ⟨u, j⟩ := bnone j; refine At.Still.y (Y.ix (.s (.s (.s (.s (.s (.s (.s .z))))))) rfl rfl rfl rfl rfl rfl u.1 u.2) rfl rfl rfl ?_; refine At.Still.nil ?_; refine At.st rfl (.s (.s (.s (.s (.s (.s (.s .z))))))) (q := 0) (z := (⟨a4, a5, a6, a7⟩ : Q2)) rfl rfl rfl u.1 u.2 rfl rfl (.c (.c (.c (.c .n)))) ?_; refine nT ?_; refine At.block ?_; obtain ⟨c6, c7, b6, j⟩ := bjoin j; obtain ⟨b4, a8, b7⟩ := bsome j; clear j; unfold Q21.l0 at a8; obtain ⟨a9, L⟩ := Q18.1 a8; clear a8; let T6 : HProp := pt b3 (.cells ([.int .u64 0, .int .u64 0, .int .u64 0, .int .u64 0] : List Value).toArray 35); let T7 : HProp := pc b5 [.int .u64 a4, .int .u64 a5, .int .u64 a6, .int .u64 a7] 35; let T8 : HProp := pc b0 [bp b0_0, .slice A0_1 I.length c0_1, .slice A0_2 D.length c0_2, .int .u64 V, .int .u64 Z, .int .u64 a0, .int .u64 a2, .slice A0_7 a3.length c0_7] 145; let T9 : HProp := pc b0_0 [i6 M, .map (some b0_0_1), .map (some b0_0_2)] 82; refine At.loop (X := (List Q2)) (fun G => [(0, bp b0), (1, i6 a1), (6, bp b3)]) (fun G => row Q2.fl 35 A0_7 a3.length c0_7 G :: T6 :: T7 :: T8 :: T9 :: mapo Fl.bs.ov Q2.fl.av b0_0_1 O :: mapo Q7.fl.av Q2.fl.av b0_0_2 U :: row (Fl.int .i64) 3 A0_2 D.length c0_2 D :: Fr) (fun m_ => fun G => iterN (fun t_ : (List Q2) => Q21.l0b M O U I D V Z a0 a2 a1 self_0 t_) m_ G = some b4) a9 (st a3 a1 (⟨a4, a5, a6, a7⟩ : Q2)) L (fun a w e hs => ⟨e.sub ⟨rfl, rfl, rfl, trivial⟩, (by exact hs)⟩) ?_
 ·clear L a9; rintro a9 G L; obtain ⟨b8, f_, b9, hf_, j⟩ := bit L; clear L; have j : (Q21.l0b M O U I D V Z a0 a2 a1 self_0 G).bind _ = some b4 := j; unfold Q21.l0b at j
  ·refine At.block ?_; refine sR 4 rfl (At.y (Y.load rfl rfl (.s (.s (.s .z))) rfl rfl rfl) rfl rfl rfl (At.run 1 rfl ?_)); obtain ⟨J, j⟩ := bnone j; refine At.y (Y.ixRd hr0_1 rfl rfl rfl rfl rfl rfl rfl J.1 J.2) rfl rfl rfl ?_; refine At.y (Y.fa (RdS.some_ hr0_1 rfl J.1 J.2) rfl rfl rfl rfl rfl rfl) rfl rfl rfl ?_; refine At.y (Y.ldFl hr0_1 rfl (q := 1) rfl rfl J.1 J.2 rfl rfl rfl) rfl rfl rfl ?_; refine At.rowLen .z fun c4 => ?_; refine At.f7 (At.f7 (At.f7 (At.f7 (At.f7 ?_)))); obtain ⟨p, c5, j⟩ := bbind j; refine At.call rfl Q12.callee rfl rfl rfl (ih_0 _ _ b0 b0_0 b0_0_1 b0_0_2 A0_1 I.length c0_1 A0_2 D.length c0_2 A0_7 a3.length c0_7 M O U I D V Z a0 a2 G ((gt I a1).A) hr0_1 rfl hc0_1 rfl c4 c5) ?_; rintro _ _ ⟨rfl, rfl⟩; refine At.alloc rfl rfl rfl (fun c8 => ?_); refine At.store rfl rfl rfl rfl .z rfl rfl rfl (.c (.c (.c (.c .n)))) ?_; refine nT (At.seq (At.seq ?_)); refine At.quiet (by kernel_rfl) ?_; refine At.Quiet.y (Y.load rfl rfl .z rfl rfl rfl) rfl rfl rfl ?_; refine At.Quiet.run 3 rfl ?_; refine At.Quiet.y (Y.load rfl rfl (.s .z) rfl rfl rfl) rfl rfl rfl ?_; refine At.Quiet.run 1 rfl ?_; refine At.Quiet.y (Y.ix (.s (.s (.s (.s (.s (.s .z)))))) rfl rfl rfl rfl rfl rfl u.1 u.2) rfl rfl rfl ?_; refine At.Quiet.y (Y.ld (.s (.s (.s (.s (.s (.s .z)))))) (q := 0) rfl rfl u.1 u.2 rfl rfl rfl) rfl rfl rfl ?_; refine At.Quiet.y (Y.eqAr (xs := [.int .u64 p.2.1, .int .u64 p.2.2.1, .int .u64 p.2.2.2.1, .int .u64 p.2.2.2.2]) (ys := [.int .u64 ((gt p.1 a1).c0), .int .u64 ((gt p.1 a1).c1), .int .u64 ((gt p.1 a1).c2), .int .u64 ((gt p.1 a1).c3)]) rfl rfl rfl rfl rfl rfl rfl (by kernel_rfl) rfl) rfl rfl rfl ?_; refine At.Quiet.nil (At.thn ?_); rcases bite j with ⟨b2, j⟩ | ⟨b2, j⟩
   ··refine At.condT rfl b2 ?_
     refine At.seq (At.region (At.y (Y.load rfl rfl .z rfl rfl rfl) rfl rfl rfl ?_)); refine At.store rfl rfl rfl rfl (.s (.s (.s (.s (.s (.s (.s .z))))))) rfl rfl rfl (.c (.c (.c (.c .n)))) ?_; refine nT (At.ret (At.thr ?_)); refine At.ibr ?_; have j := bupL b6 b7 j; refine At.thr ?_; refine At.ibr ?_; refine At.resM (.inl rfl) rfl (RV.cell rfl rfl .z rfl rfl rfl RV.nil) ?_; refine At.drop .z (At.drop .z (At.drop (.s (.s (.s (.s (.s (.s .z)))))) ?_)); cases bret j; exact fun a w e hs => ⟨_, ⟨rfl, rfl⟩, hs⟩
   ··refine At.condF rfl (bn b2) ?_
     refine At.skip (At.thn ?_); refine At.still 7 (by kernel_rfl) ?_; refine At.Still.run 3 rfl ?_; refine At.Still.y (Y.load rfl rfl (.s .z) rfl rfl rfl) rfl rfl rfl ?_; refine At.Still.run 1 rfl ?_; refine At.Still.y (Y.load rfl rfl .z rfl rfl rfl) rfl rfl rfl ?_; refine At.Still.y (Y.ix (.s (.s (.s (.s (.s (.s .z)))))) rfl rfl rfl rfl rfl rfl u.1 u.2) rfl rfl rfl ?_; refine At.Still.nil ?_; refine At.st rfl (.s (.s (.s (.s (.s (.s .z)))))) (q := 0) (z := (⟨p.2.1, p.2.2.1, p.2.2.2.1, p.2.2.2.2⟩ : Q2)) rfl rfl rfl u.1 u.2 rfl rfl (.c (.c (.c (.c .n)))) ?_; refine At.nil ?_; refine At.ibn ?_; refine At.drop (.s .z) (At.f5 (At.f5 (At.f5 (At.f5 (At.f5 (At.f7 (At.f7 ?_))))))); refine At.f7 ?_; have j := bnx hf_ j; exact fun a w e hs => ⟨b8, (st p.1 a1 (⟨p.2.1, p.2.2.1, p.2.2.2.1, p.2.2.2.2⟩ : Q2)), b9, j, e.sub ⟨rfl, rfl, rfl, trivial⟩, hs⟩
theorem Q12.all : ∀ k_ : Nat, Q12.SP (Q12.n k_) ∧ Q21.SP (Q21.n k_)
 | 0 => ⟨(by intro R Fr b0 b0_0 b0_0_1 b0_0_2 A0_1 n0_1 c0_1 A0_2 n0_2 c0_2 A0_7 n0_7 c0_7 a0_0_0 a0_0_1 a0_0_2 a0_1 a0_2 a0_3 a0_4 a0_5 a0_6 a0_7 a1 hr0_1 hn0_1 hc0_1 hn0_2 hn0_7 r j; cases j), (by intro R Fr b0 b0_0 b0_0_1 b0_0_2 A0_1 n0_1 c0_1 A0_2 n0_2 c0_2 A0_7 n0_7 c0_7 a0_0_0 a0_0_1 a0_0_2 a0_1 a0_2 a0_3 a0_4 a0_5 a0_6 a0_7 a1 a2_0 a2_1 a2_2 a2_3 hr0_1 hn0_1 hc0_1 hn0_2 hn0_7 r j; cases j)⟩
 | k_ + 1 => ⟨Q12.step (Q12.n k_) (Q21.n k_) ((Q12.all k_).1) ((Q12.all k_).2), Q21.step (Q12.n k_) (Q21.n k_) ((Q12.all k_).1) ((Q12.all k_).2)⟩
theorem Q12.spec {q u D G I a1 : Int} {J : List (Bs × Q2)} {L : List (Q7 × Q2)} {M : List Q1} {p : List Int} {O : List Q2} (hr0_1 : RdS Q1.fl.rep R.heap A0_1 M) (hn0_1 : M.length = n0_1) (hc0_1 : n0_1 ≤ c0_1) (hn0_2 : p.length = n0_2) (hn0_7 : O.length = n0_7) {r : (List Q2) × Int × Int × Int × Int} (j : Q12.f q J L M p u D G I O a1 = some r) :
 Spec Tryz.prog 35 [bp b0, i6 a1] R (pc b0 [bp b0_0, .slice A0_1 n0_1 c0_1, .slice A0_2 n0_2 c0_2, .int .u64 u, .int .u64 D, .int .u64 G, .int .u64 I, .slice A0_7 n0_7 c0_7] 145 :: pc b0_0 [i6 q, .map (some b0_0_1), .map (some b0_0_2)] 82 :: mapo Fl.bs.ov Q2.fl.av b0_0_1 J :: mapo Q7.fl.av Q2.fl.av b0_0_2 L :: row (Fl.int .i64) 3 A0_2 n0_2 c0_2 p :: row Q2.fl 35 A0_7 n0_7 c0_7 O :: Fr) (fun v l' => v = .agg #[.int .u64 r.2.1, .int .u64 r.2.2.1, .int .u64 r.2.2.2.1, .int .u64 r.2.2.2.2] ∧ pc b0 [bp b0_0, .slice A0_1 n0_1 c0_1, .slice A0_2 n0_2 c0_2, .int .u64 u, .int .u64 D, .int .u64 G, .int .u64 I, .slice A0_7 n0_7 c0_7] 145 :: pc b0_0 [i6 q, .map (some b0_0_1), .map (some b0_0_2)] 82 :: mapo Fl.bs.ov Q2.fl.av b0_0_1 J :: mapo Q7.fl.av Q2.fl.av b0_0_2 L :: row (Fl.int .i64) 3 A0_2 n0_2 c0_2 p :: row Q2.fl 35 A0_7 n0_7 c0_7 r.1 :: Fr = l') := by
 obtain ⟨k_, hk_⟩ := Q229 j; exact (Q12.all k_).1 R Fr b0 b0_0 b0_0_1 b0_0_2 A0_1 n0_1 c0_1 A0_2 n0_2 c0_2 A0_7 n0_7 c0_7 q J L M p u D G I O a1 hr0_1 hn0_1 hc0_1 hn0_2 hn0_7 hk_

/- told with Q12.f -/

noncomputable def Q70.f (u : Int) (D : List (Bs × Q2)) (G : List (Q7 × Q2)) (a1 : List Q1) : Option (Int × Int × Int × Int × Int) :=
 (Q46.f u D G a1).bind fun p =>
  match p with
  | .inl p =>
   some (1, 0, 0, 0, 0)
  | .inr p =>
   (Q12.f u D G a1 p.1 p.2.1 p.2.2.1 p.2.2.2.1 p.2.2.2.2 (List.replicate (a1.length : Int).toNat ((⟨0, 0, 0, 0⟩ : Q2) : Q2)) (IntKind.i64.wrap ((a1.length : Int) - 1))).bind fun q =>
    some (0, q.2.1, q.2.2.1, q.2.2.2.1, q.2.2.2.2)
theorem Q70.callee : Callee Tryz.prog 12 := ⟨_, Tryz.func12, by kernel_rfl, by kernel_rfl⟩
theorem Q70.spec {p : Int} {q : List (Bs × Q2)} {u : List (Q7 × Q2)} {a1 : List Q1} (hr1 : RdS Q1.fl.rep R.heap A1 a1) (hn1 : a1.length = n1) (hc1 : n1 ≤ c1) {r : Int × Int × Int × Int × Int} (j : Q70.f p q u a1 = some r) :
 Spec Tryz.prog 12 [bp b0, .slice A1 n1 c1] R (pc b0 [i6 p, .map (some b0_1), .map (some b0_2)] 82 :: mapo Fl.bs.ov Q2.fl.av b0_1 q :: mapo Q7.fl.av Q2.fl.av b0_2 u :: Fr) (fun v l' => v = .tuple #[.agg #[.int .u64 r.2.1, .int .u64 r.2.2.1, .int .u64 r.2.2.2.1, .int .u64 r.2.2.2.2], i6 r.1] ∧ pc b0 [i6 p, .map (some b0_1), .map (some b0_2)] 82 :: mapo Fl.bs.ov Q2.fl.av b0_1 q :: mapo Q7.fl.av Q2.fl.av b0_2 u :: Fr = l') := by
 subst hn1; refine Spec.of Tryz.func12 rfl rfl ?_; unfold Q70.f at j; have j := brun j; refine At.seq (At.region ?_); refine At.alloc rfl rfl rfl (fun J => ?_); refine At.run 1 rfl (nT (sR 2 rfl (At.f3 (At.f3 ?_)))); refine At.f3 ?_; obtain ⟨D, G, j⟩ := bbind j; refine At.call rfl Q46.callee rfl rfl rfl (Q46.spec hr1 rfl hc1 G) ?_; rcases D with D | D
 ·rintro _ _ ⟨rfl, rfl⟩; refine At.run 5 rfl (nT (At.seq (sR 2 rfl (At.nil ?_)))); refine At.thn ?_; refine At.condT rfl rfl ?_; refine At.seq (At.region ?_); refine At.y (Y.buildA (is := []) (xo := []) (vs := []) (cs := [.int .u64 0, .int .u64 0, .int .u64 0, .int .u64 0]) rfl rfl rfl rfl rfl rfl) rfl rfl rfl ?_; refine At.run 1 rfl ?_; refine At.store rfl rfl rfl rfl (.s (.s (.s .z))) rfl rfl rfl (.c (.c (.c (.c .n)))) ?_; refine At.run 1 rfl (nT (At.ret (At.thr ?_))); refine At.resM (.inl rfl) rfl (RV.cell rfl rfl .z rfl rfl rfl (RV.tmp rfl RV.nil)) ?_; refine At.drop .z ?_; cases bret j; exact fun a w e hs => ⟨_, ⟨rfl, rfl⟩, hs⟩
 ·rintro _ _ ⟨L, M, O, U, V, X, rfl, rfl, rfl⟩; refine At.run 5 rfl (nT (At.seq (sR 2 rfl (At.nil ?_)))); refine At.thn ?_; refine At.condF rfl rfl ?_; refine At.skip (At.thn (sR 4 rfl (At.f2 (At.f2 (At.f5 ?_))))); refine At.f5 (At.f5 (At.f5 ?_)); obtain ⟨Z, I, j⟩ := bbind j; refine At.call rfl Q12.callee rfl rfl rfl (Q12.spec hr1 rfl hc1 rfl rfl I) ?_; rintro _ _ ⟨rfl, rfl⟩; refine At.store rfl rfl rfl rfl (.s (.s (.s (.s (.s (.s .z)))))) rfl rfl rfl (.c (.c (.c (.c .n)))) ?_; refine At.run 1 rfl (nT (At.ret ?_)); refine At.resM (.inl rfl) rfl (RV.cell rfl rfl .z rfl rfl rfl (RV.tmp rfl RV.nil)) ?_; refine At.drop .z (At.drop .z (At.drop (.s (.s (.s .z))) (At.drop (.s (.s (.s .z))) ?_))); cases bret j; exact fun a w e hs => ⟨_, ⟨rfl, rfl⟩, hs⟩

noncomputable def Q74.f  : Option Bool :=
 (Q23.f ([115, 116, 97, 116, 101, 115, 32, 51, 10, 101, 100, 103, 101, 32, 48, 32, 97, 32, 49, 10, 101, 100, 103, 101, 32, 49, 32, 97, 32, 50, 10, 101, 100, 103, 101, 32, 50, 32, 97, 32, 50, 10, 101, 100, 103, 101, 32, 48, 32, 98, 32, 48, 10, 109, 97, 114, 107, 32, 112, 32, 50, 10] : Bs)).bind fun p =>
 (Q17.f p.2.2.2.2 p.2.1 p.2.2.1 p.2.2.2.1).bind fun q =>
 (Q142.f ([109, 117, 32, 88, 46, 32, 112, 32, 124, 32, 91, 45, 93, 88] : Bs)).bind fun D =>
 jn (
 if p.1.isNone = true then
 some (.inl (!D.1.isNone))
 else
 some (.inl true)) (fun (G : Bool) =>
 jn (
 if G = true then
 some (.inl true)
 else
 some (.inl q.isNone)) (fun (I : Bool) =>
 if I = true then
 some false
 else
 if q.isNone = false then
 (Q70.f ((q.getD default).states) ((q.getD default).holds) ((q.getD default).next) D.2).bind fun u =>
 jn (
 if u.1 = 0 then
 some (.inl (decide (u.2.1 = 6) && (decide (u.2.2.1 = 0) && (decide (u.2.2.2.1 = 0) && (decide (u.2.2.2.2 = 0) && true)))))
 else
 some (.inl false)) (fun (J : Bool) =>
 some J)
 else none))
theorem Q74.callee : Callee Tryz.prog 10 := ⟨_, Tryz.func10, by kernel_rfl, by kernel_rfl⟩
theorem Q74.spec {r : Bool} (j : Q74.f  = some r) :
 Spec Tryz.prog 10 [] R (Fr) (fun v l' => v = .bool r ∧ Fr = l') := by
 refine Spec.of Tryz.func10 rfl rfl ?_; unfold Q74.f at j; have j := brun j; refine sR 1 rfl (nT (At.seq (At.region ?_))); obtain ⟨D, b6, j⟩ := bbind j; refine At.call rfl Q23.callee rfl rfl rfl (Q23.spec b6) ?_; rintro _ _ ⟨V, g2, b7, b8, g3, b9, c4, g4, c5, c6, rfl, rfl, rfl, rfl, rfl⟩; refine At.run 3 rfl ?_; refine At.alloc rfl rfl rfl (fun c7 => ?_); refine At.store rfl rfl rfl rfl .z rfl rfl rfl (.c (.c (.c (.c .n)))) ?_; refine At.run 1 rfl (nT (At.seq (At.region (At.y (Y.load rfl rfl .z rfl rfl rfl) rfl rfl rfl ?_)))); refine At.freeze (.s .z) fun g5 c8 c9 d0 g6 a5 => ?_; refine At.freeze (.s .z) fun g7 d1 d2 d3 d4 a6 => ?_; refine At.freezeGrow (.s .z) fun g8 d5 d6 d7 a7 a8 => ?_; obtain ⟨p, d8, j⟩ := bbind j; refine At.call rfl Q17.callee rfl rfl rfl (Q17.spec (RdS.mono (d4.trans a7) c8) c9 d0 (RdS.mono a7 d1) d2 d3 d5 d6 d7 d8) ?_; rintro _ _ ⟨L, rfl, rfl⟩; refine At.run 1 rfl (nT (At.seq (At.region ?_))); obtain ⟨u, d9, j⟩ := bbind j; refine At.call rfl Q142.callee rfl rfl rfl (Q142.spec d9) ?_; rintro _ _ ⟨Z, g9, M, O, rfl, rfl, rfl⟩; refine At.run 5 rfl (nT (At.seq (sR 1 rfl ?_))); refine At.y (Y.neOptI (.s (.s (.s (.s .z)))) rfl rfl rfl) rfl rfl rfl ?_; refine At.run 1 rfl ?_; obtain ⟨e0, e1, h0, j⟩ := bjoin j; let a0 : HProp := pc c7 [i6 D.2.2.2.2, .slice b7 D.2.1.length b8, .slice b9 D.2.2.1.length c4, .slice c5 D.2.2.2.1.length c6] 26; refine At.joinO 3 (X := Bool) (fun G => [(3, optp L), (4, .slice M u.2.length O), (23, .bool G)]) (fun G => row Q1.fl 33 M u.2.length O u.2 :: optb (Ow.fl Q5.fl) 121 Z u.1 :: optb Q11.ow 82 L p :: a0 :: optb (Ow.fl Q5.fl) 121 V D.1 :: Fr) (fun G => e0 (.inl G) = some r) ?_ (fun a9 => ?_)
 ·rintro G j; have j := (e1 _).symm.trans j
  ·refine At.run 1 rfl ?_; obtain ⟨e2, e3, h1, j⟩ := bjoin j; refine At.joinO 3 (X := Bool) (fun I => [(3, optp L), (4, .slice M u.2.length O), (27, .bool I)]) (fun I => row Q1.fl 33 M u.2.length O u.2 :: optb (Ow.fl Q5.fl) 121 Z u.1 :: optb Q11.ow 82 L p :: a0 :: optb (Ow.fl Q5.fl) 121 V D.1 :: Fr) (fun I => e2 (.inl I) = some r) ?_ (fun b2 => ?_)
   ·rintro I j; have j := (e3 _).symm.trans j
    ·refine nT ?_; rcases bite j with ⟨a1, j⟩ | ⟨a1, j⟩
     ··refine At.condT rfl a1 ?_
       refine sR 1 rfl (nT (At.ret (At.thr ?_))); refine At.thaw a8 ?_; refine At.thaw a6 ?_; refine At.thaw a5 ?_; refine At.drop .z (At.drop .z (At.drop .z (At.drop .z (At.drop .z (At.drop .z (At.drop .z (At.drop .z ?_))))))); cases bret j; exact At.res (.inl rfl) rfl rfl ⟨rfl, rfl⟩
     ··refine At.condF rfl (bn a1) ?_
       refine At.skip (At.thn (sR 2 rfl ?_)); obtain ⟨e4, j⟩ := bnone j; refine At.optOpen (.s (.s .z)) e4 (fun e5 e6 h2 => ?_); have e7 := j; subst e6; have j := e7; refine At.ownPair (T := Ow.fl (Fl.int .i64)) (U := ((Ow.mp Fl.bs.ov Q2.fl.av).pair (Ow.mp Q7.fl.av Q2.fl.av))) (x := ((p.getD default).states, (p.getD default).holds, (p.getD default).next)) (.s .z) ?_; rintro h3 h4 rfl; refine At.ownFl (F := (Fl.int .i64)) (x := (p.getD default).states) .z ?_; rintro rfl; refine At.ownPair (T := Ow.mp Fl.bs.ov Q2.fl.av) (U := (Ow.mp Q7.fl.av Q2.fl.av)) (x := ((p.getD default).holds, (p.getD default).next)) .z ?_; rintro h5 h6 rfl; refine At.ownMp (kv := Fl.bs.ov) (vv := Q2.fl.av) (kvs := (p.getD default).holds) .z ?_; rintro b3 rfl; refine At.ownMp (kv := Q7.fl.av) (vv := Q2.fl.av) (kvs := (p.getD default).next) (.s .z) ?_; rintro b4 rfl; refine At.freeze (.s (.s (.s .z))) fun h7 e8 e9 f0 h8 f3 => ?_; refine At.f1 (At.f2 ?_); obtain ⟨q, f4, j⟩ := bbind j; refine At.call rfl Q70.callee rfl rfl rfl (Q70.spec e8 e9 f0 f4) ?_; rintro _ _ ⟨rfl, rfl⟩; refine At.run 3 rfl ?_; refine At.alloc rfl rfl rfl (fun f5 => ?_); refine At.store rfl rfl rfl rfl .z rfl rfl rfl (.c (.c (.c (.c .n)))) ?_; refine At.run 1 rfl (nT (sR 3 rfl ?_)); obtain ⟨f6, f7, h9, j⟩ := bjoin j; let f8 : HProp := pc f5 [.int .u64 q.2.1, .int .u64 q.2.2.1, .int .u64 q.2.2.2.1, .int .u64 q.2.2.2.2] 35; let f9 : HProp := pc e5 [i6 ((p.getD default).states), .map (some b3), .map (some b4)] 82; let g0 : HProp := mapo Fl.bs.ov Q2.fl.av b3 ((p.getD default).holds); let g1 : HProp := mapo Q7.fl.av Q2.fl.av b4 ((p.getD default).next); refine At.joinO 4 (X := Bool) (fun J => [(40, .bool J)]) (fun J => f8 :: f9 :: g0 :: g1 :: optb (Ow.fl Q5.fl) 121 Z u.1 :: a0 :: optb (Ow.fl Q5.fl) 121 V D.1 :: Fr) (fun J => f6 (.inl J) = some r) ?_ (fun b5 => ?_)
       ·rintro J j; have j := (f7 _).symm.trans j
        ·refine At.run 1 rfl (nT (At.ret ?_)); refine At.thaw f3 ?_; refine At.thaw a8 ?_; refine At.thaw a6 ?_; refine At.thaw a5 ?_; refine At.drop .z (At.drop .z (At.drop .z (At.drop .z (At.drop .z (At.drop .z (At.drop .z (At.drop .z ?_))))))); refine At.drop .z (At.drop .z (At.drop .z ?_)); cases bret j; exact At.res (.inl rfl) rfl rfl ⟨rfl, rfl⟩
       ··rcases bite j with ⟨a2, j⟩ | ⟨a2, j⟩
         ··refine At.know (t := 36) rfl (decide_eq_true a2) ?_
           refine At.y (Y.load rfl rfl .z rfl rfl rfl) rfl rfl rfl ?_; refine At.y (Y.buildA (is := [0]) (xo := [.const (.int .u64 6)]) (vs := [.int .u64 6]) (cs := [.int .u64 6, .int .u64 0, .int .u64 0, .int .u64 0]) rfl rfl rfl rfl rfl rfl) rfl rfl rfl ?_; refine At.y (Y.eqAr (xs := [.int .u64 q.2.1, .int .u64 q.2.2.1, .int .u64 q.2.2.2.1, .int .u64 q.2.2.2.2]) (ys := [.int .u64 6, .int .u64 0, .int .u64 0, .int .u64 0]) rfl rfl rfl rfl rfl rfl rfl (by kernel_rfl) rfl) rfl rfl rfl ?_; refine At.run 1 rfl ?_; exact At.of (b5 (decide (q.2.1 = 6) && (decide (q.2.2.1 = 0) && (decide (q.2.2.2.1 = 0) && (decide (q.2.2.2.2 = 0) && true)))) j) ⟨rfl, trivial⟩
         ··refine At.know (t := 36) rfl (decide_eq_false a2) ?_
           refine At.run 4 rfl ?_; exact At.of (b5 false j) ⟨rfl, trivial⟩
   ··rcases bite j with ⟨a3, j⟩ | ⟨a3, j⟩
     ··refine At.know (t := 24) rfl a3 ?_
       refine At.run 3 rfl ?_; exact At.of (b2 true j) ⟨rfl, rfl, rfl, trivial⟩
     ··refine At.know (t := 24) rfl (bn a3) ?_
       refine At.run 1 rfl ?_; refine At.y (Y.eqOpt (.s (.s .z)) rfl rfl rfl rfl) rfl rfl rfl ?_; refine At.run 1 rfl ?_; exact At.of (b2 p.isNone j) ⟨rfl, rfl, rfl, trivial⟩
 ··rcases bite j with ⟨a4, j⟩ | ⟨a4, j⟩
   ··refine At.know (t := 20) rfl (nf a4) ?_
     refine At.run 1 rfl ?_; refine At.y (Y.neOptI (.s .z) rfl rfl rfl) rfl rfl rfl ?_; refine At.run 1 rfl ?_; exact At.of (a9 (!u.1.isNone) j) ⟨rfl, rfl, rfl, trivial⟩
   ··refine At.know (t := 20) rfl (nt (bn a4)) ?_
     refine At.run 3 rfl ?_; exact At.of (a9 true j) ⟨rfl, rfl, rfl, trivial⟩

end Go.Bw
namespace Go.Bw
open Go Go.RowKit

def Ap {α : Type} (a b : Option α) : Prop := ∀ r, a = some r → b = some r
section
variable {α β σ τ ρ : Type}
theorem Ap.refl (a : Option α) : Ap a a := fun _ h => h
theorem Ap.none {b : Option α} : Ap Option.none b := fun _ h => by cases h
theorem Ap.bind {a b : Option α} {f g : α → Option β} (h : Ap a b) (k : ∀ t, Ap (f t) (g t)) : Ap (a.bind f) (b.bind g) := fun r e => by
 cases ha : a with
 | none => rw [ha] at e; cases e
 | some t => rw [ha] at e; rw [h t ha]; exact k t r e
theorem Ap.ite {c : Prop} [i : Decidable c] [j : Decidable c] {a b a' b' : Option α} (h : Ap a a') (k : Ap b b') : Ap (@_root_.ite _ c i a b) (@_root_.ite _ c j a' b') := fun r e => by
 by_cases hc : c
 ·rw [if_pos hc] at e ⊢; exact h r e
 ·rw [if_neg hc] at e ⊢; exact k r e
theorem Ap.jn {a b : Option (σ ⊕ ρ)} {f g : σ → Option ρ} (h : Ap a b) (k : ∀ t, Ap (f t) (g t)) : Ap (Bw.jn a f) (Bw.jn b g) := fun r e => by
 cases ha : a with
 | none => rw [ha] at e; cases e
 | some t =>
  rw [ha] at e
  rw [h t ha]
  cases t with
  | inl s => exact k s r e
  | inr o => exact e
theorem Ap.up {a b : Option ρ} (h : Ap a b) : Ap (Bw.up a : Option (σ ⊕ ρ)) (Bw.up b) := fun r e => by
 cases ha : a with
 | none => rw [ha] at e; cases e
 | some t => rw [ha] at e; rw [h t ha]; exact e
def iterC (fu : Nat) (body : σ → Option (σ ⊕ ρ)) (s : σ) : Option ρ := iterN body fu s
theorem Q280 {f g : σ → Option (σ ⊕ ρ)} (h : ∀ s, Ap (f s) (g s)) : ∀ {n : Nat} {s : σ}, Ap (iterN f n s) (iterN g n s)
 | 0, _ => fun _ e => by cases e
 | n + 1, s => fun r e => by
  unfold iterN at e ⊢
  cases hf : f s with
  | none => rw [hf] at e; cases e
  | some t =>
   rw [hf] at e
   rw [h s t hf]
   cases t with
   | inl s' => exact Q280 h r e
   | inr o => exact e
theorem Ap.iter {fu : Nat} {f g : σ → Option (σ ⊕ ρ)} {s : σ} (h : ∀ s, Ap (f s) (g s)) : Ap (iterC fu f s) (Bw.iter g s) := fun r e => Q18.2 ⟨fu, Q280 h r e⟩
theorem Q265 {f g : σ → α → Option σ} (h : ∀ s x, Ap (f s x) (g s x)) : ∀ {xs : List α} {s : σ}, Ap (foldO f s xs) (foldO g s xs)
 | [], _ => fun _ e => e
 | x :: xs, s => Ap.bind (h s x) fun t => Q265 h
def soloC (a : List α) : Option (List α) := if a.length ≤ 1 then some a else Option.none
theorem solo_mem {a r : List α} (h : soloC a = some r) : r = a ∧ (a = [] ∨ ∃ x, a = [x]) := by
 unfold soloC at h
 split at h
 ·rename_i hl
  refine ⟨(Option.some.inj h).symm, ?_⟩
  match a, hl with
  | [], _ => exact .inl rfl
  | [x], _ => exact .inr ⟨x, rfl⟩
  | _ :: _ :: _, hl => simp at hl
 ·cases h
end
end Go.Bw
namespace Go.Bw
open Go Go.RowKit Go.Sort Go.Proofs Go.Shelf
section
variable {α : Type}
def insL (le : α → α → Bool) (x : α) : List α → List α
 | [] => [x]
 | y :: ys => if le x y = true then x :: y :: ys else y :: insL le x ys
def insS (le : α → α → Bool) : List α → List α
 | [] => []
 | x :: xs => insL le x (insS le xs)
theorem Q208 (le : α → α → Bool) (x : α) : ∀ l : List α, (insL le x l).Perm (x :: l)
 | [] => List.Perm.refl _
 | y :: ys => by
  unfold insL
  split
  ·exact List.Perm.refl _
  ·exact ((Q208 le x ys).cons y).trans (List.Perm.swap x y ys)
theorem Q150 (le : α → α → Bool) : ∀ l : List α, (insS le l).Perm l
 | [] => List.Perm.refl _
 | x :: xs => (Q208 le x _).trans ((Q150 le xs).cons x)
def pwB (le : α → α → Bool) : List α → Bool
 | [] => true
 | x :: xs => xs.all (le x) && pwB le xs
theorem pwB_mem {le : α → α → Bool} : ∀ {a : List α}, pwB le a = true → a.Pairwise fun x y => le x y = true
 | [], _ => List.Pairwise.nil
 | x :: xs, e => by
  unfold pwB at e
  rw [Bool.and_eq_true, List.all_eq_true] at e
  exact List.Pairwise.cons e.1 (pwB_mem e.2)
theorem Q202 {le : α → α → Bool} (tr : ∀ a b c, le a b = true → le b c = true → le a c = true) (to : ∀ a b, (le a b || le b a) = true) {a r : List α} (an : ∀ x y, x ∈ a → y ∈ a → le x y = true → le y x = true → x = y) (hp : r.Perm a) (hr : r.Pairwise fun x y => le x y = true) :
 a.mergeSort le = r :=
 List.Perm.eq_of_pairwise (le := fun x y => le x y = true) (fun x y hx hy h1 h2 => an x y ((List.mergeSort_perm a le).subset hx) (hp.subset hy) h1 h2) (List.pairwise_mergeSort tr to a) hr ((List.mergeSort_perm a le).trans hp.symm)
def leC (c : α → α → Option Int) (x y : α) : Bool := match c y x with | some v => decide (0 ≤ v) | none => false
def sortC (c : α → α → Option Int) (a : List α) : Option (List α) := let r := insS (leC c) a; if pwB (leC c) r = true then some r else none
theorem leC_mem {c cc : α → α → Option Int} (h : ∀ x y, Ap (cc x y) (c x y)) {x y : α} (e : leC cc x y = true) : (!(ltOf (gcf c)) y x) = true := by
 unfold leC at e
 cases hc : cc y x with
 | none => rw [hc] at e; cases e
 | some v =>
  rw [hc] at e
  have hv := h y x v hc
  unfold ltOf gcf
  rw [hv]
  simpa using e
theorem swo_le {lt : α → α → Bool} (s : SWO lt) : (∀ a b c, (!lt b a) = true → (!lt c b) = true → (!lt c a) = true) ∧ ∀ a b, ((!lt b a) || (!lt a b)) = true := by
 refine ⟨fun a b c h1 h2 => ?_, fun a b => ?_⟩
 ·simp only [Bool.not_eq_true'] at *
  exact s.ntrans _ _ _ h2 h1
 ·cases h : lt b a with
  | false => rfl
  | true =>
   cases h2 : lt a b with
   | false => rfl
   | true => have := s.trans _ _ _ h h2; rw [s.irrefl] at this; cases this
theorem sort_mem {c cc : α → α → Option Int} (h : ∀ x y, Ap (cc x y) (c x y)) {a r : List α} (s : CmpSwo c) (an : ∀ x y, x ∈ a → y ∈ a → ltOf (gcf c) x y = false → ltOf (gcf c) y x = false → x = y) (e : sortC cc a = some r) : byCmp c a = r ∧ r.length = a.length := by
 unfold sortC at e
 dsimp only at e
 split at e
 ·rename_i hp
  obtain rfl := Option.some.inj e
  refine ⟨Q202 (swo_le s.2).1 (swo_le s.2).2 (fun x y hx hy h1 h2 => ?_) (Q150 _ _) ((pwB_mem hp).imp fun {x y} hxy => leC_mem h hxy), (Q150 _ _).length_eq⟩
  simp only [Bool.not_eq_true'] at h1 h2
  exact an x y hx hy h2 h1
 ·cases e
theorem sort_tot {c cc : α → α → Option Int} (h : ∀ x y, Ap (cc x y) (c x y)) {a r : List α} (s : CmpTot c) (e : sortC cc a = some r) : byCmp c a = r ∧ r.length = a.length := sort_mem h s.1 (fun x y _ _ => s.2 x y) e
end
def few2C {α : Type} (o : Option (List α)) : Option (List α) := o.bind fun a => if a.length ≤ 1000 then some a else none
theorem Q218 {α : Type} {o : Option (List α)} {r : List α} (h : few2C o = some r) : o = some r ∧ r.length ≤ 1000 := by
 unfold few2C at h
 cases o with
 | none => cases h
 | some a =>
  simp only [Option.bind_some] at h
  split at h
  ·rename_i hl
   obtain rfl := Option.some.inj h
   exact ⟨rfl, hl⟩
  ·cases h
def sortB (a : List Bs) : Option (List Bs) := some (insS (fun x y => decide (x ≤ y)) a)
def sortI (a : List Int) : Option (List Int) := some (insS (fun x y => decide (x ≤ y)) a)
section
variable {α : Type}
theorem insL_pw {le : α → α → Bool} (tr : ∀ a b c, le a b = true → le b c = true → le a c = true) (to : ∀ a b, (le a b || le b a) = true) (x : α) : ∀ {l : List α}, l.Pairwise (fun x y => le x y = true) → (insL le x l).Pairwise fun x y => le x y = true
 | [], _ => List.pairwise_singleton _ _
 | y :: ys, h => by
  unfold insL
  have h1 := List.pairwise_cons.1 h
  split
  ·rename_i hxy
   exact List.Pairwise.cons (fun z hz => (List.mem_cons.1 hz).elim (fun e => e ▸ hxy) fun hz => tr _ _ _ hxy (h1.1 z hz)) h
  ·rename_i hxy
   refine List.Pairwise.cons (fun z hz => ?_) (insL_pw tr to x h1.2)
   rcases List.mem_cons.1 ((Q208 le x ys).subset hz) with rfl | hz
   ·have := to z y; simp [hxy] at this; exact this
   ·exact h1.1 z hz
theorem Q211 {le : α → α → Bool} (tr : ∀ a b c, le a b = true → le b c = true → le a c = true) (to : ∀ a b, (le a b || le b a) = true) : ∀ (l : List α), (insS le l).Pairwise fun x y => le x y = true
 | [] => List.Pairwise.nil
 | x :: xs => insL_pw tr to x (Q211 tr to xs)
end
theorem sortI_eq {a r : List Int} (h : sortI a = some r) : (a.mergeSort fun x y => decide (x ≤ y)) = r ∧ r.length = a.length := by
 obtain rfl := Option.some.inj h
 have tr : ∀ a b c : Int, decide (a ≤ b) = true → decide (b ≤ c) = true → decide (a ≤ c) = true := fun a b c h1 h2 => by simp only [decide_eq_true_eq] at *; omega
 have to : ∀ a b : Int, (decide (a ≤ b) || decide (b ≤ a)) = true := fun a b => by simp; omega
 exact ⟨Q202 tr to (fun x y _ _ h1 h2 => by simp only [decide_eq_true_eq] at *; omega) (Q150 _ _) (Q211 tr to a), (Q150 _ _).length_eq⟩
theorem sortB_eq {a r : List Bs} (h : sortB a = some r) : (a.mergeSort fun x y => decide (x ≤ y)) = r ∧ r.length = a.length := by
 obtain rfl := Option.some.inj h
 have tr : ∀ a b c : Bs, decide (a ≤ b) = true → decide (b ≤ c) = true → decide (a ≤ c) = true := fun a b c h1 h2 => by simp only [decide_eq_true_eq] at *; exact List.le_trans h1 h2
 have to : ∀ a b : Bs, (decide (a ≤ b) || decide (b ≤ a)) = true := fun a b => by simp only [Bool.or_eq_true, decide_eq_true_eq]; exact List.le_total a b
 exact ⟨Q202 tr to (fun x y _ _ h1 h2 => by simp only [decide_eq_true_eq] at *; exact List.le_antisymm h1 h2) (Q150 _ _) (Q211 tr to a), (Q150 _ _).length_eq⟩
section
variable {α β σ τ : Type}
def insA (x : α) : List α → List (List α)
 | [] => [[x]]
 | y :: ys => (x :: y :: ys) :: (insA x ys).map (y :: ·)
def perms : List α → List (List α)
 | [] => [[]]
 | x :: xs => (perms xs).flatMap (insA x)
theorem Q283 (x : α) (b : List α) : ∀ a : List α, a ++ x :: b ∈ insA x (a ++ b)
 | [] => by cases b <;> simp [insA]
 | y :: a => by
  show y :: (a ++ x :: b) ∈ insA x (y :: (a ++ b))
  unfold insA
  exact List.mem_cons_of_mem _ (List.mem_map_of_mem (Q283 x b a))
theorem Q276 : ∀ {xs ys : List α}, ys.Perm xs → ys ∈ perms xs
 | [], ys, h => by rw [h.eq_nil]; simp [perms]
 | x :: xs, ys, h => by
  obtain ⟨a, b, rfl⟩ := List.append_of_mem (h.symm.subset List.mem_cons_self)
  have h2 : (a ++ b).Perm xs := (List.perm_middle.symm.trans h).cons_inv
  unfold perms
  exact List.mem_flatMap.2 ⟨a ++ b, Q276 h2, Q283 x b a⟩
def orderedP [DecidableEq β] (kvs : List α) (step : σ → α → Option σ) (s0 : σ) (out : σ → τ) (f : τ → Option β) : Option β :=
 match (foldO step s0 kvs).bind fun s => f (out s) with
 | none => none
 | some r => if (perms kvs).all (fun ys => decide (((foldO step s0 ys).bind fun s => f (out s)) = some r)) = true then some r else none
theorem Ap.orderedP [DecidableEq β] {kvs : List α} {f g : σ → α → Option σ} {s0 : σ} {out : σ → τ} {p q : τ → Option β} (h : ∀ s x, Ap (f s x) (g s x)) (k : ∀ t, Ap (p t) (q t)) : Ap (Bw.orderedP kvs f s0 out p) (Bw.ordered kvs g s0 out q) := fun r e => by
 unfold Bw.orderedP at e
 split at e
 ·cases e
 ·rename_i r' hr'
  split at e
  ·rename_i ha
   obtain rfl := Option.some.inj e
   rw [List.all_eq_true] at ha
   refine Q243.2 fun ys hy => ?_
   have := of_decide_eq_true (ha ys (Q276 hy))
   exact Ap.bind (Q265 h) (fun t => k _) _ this
  ·cases e
end
end Go.Bw
namespace Go.Bw
open Go Go.RowKit Go.Proofs Go.Sort

def cmp3 (a b : Int) : Int := if a < b then -1 else if b < a then 1 else 0
theorem Q236 (a b : Int) : Q66.f a b = some (cmp3 a b) := by
 unfold Q66.f Q106.f cmp3
 simp
 split
 ·rfl
 ·split <;> rfl
theorem Q175 {a b : Int} : cmp3 a b < 0 ↔ a < b := by
 unfold cmp3
 split
 ·simp [*]
 ·split <;> simp <;> omega
theorem Q183 {a b : Int} : cmp3 a b = 0 ↔ a = b := by
 unfold cmp3
 split
 ·simp; omega
 ·split <;> simp <;> omega
theorem or_run (a b c : Int) : Q31.f [a, b, c] = some (if a = 0 then if b = 0 then c else b else a) := by
 unfold Q31.f Q31.l0
 by_cases ha : a = 0
 ·by_cases hb : b = 0
  ·by_cases hc : c = 0
   ·subst ha hb hc
    rw [Q71, Q31.l0b]
    simp [nx, gt, IntKind.wrap, IntKind.bits, IntKind.signed]
    rw [Q71, Q31.l0b]
    simp [nx, gt, IntKind.wrap, IntKind.bits, IntKind.signed]
    rw [Q71, Q31.l0b]
    simp [nx, gt, IntKind.wrap, IntKind.bits, IntKind.signed]
    rw [Q71, Q31.l0b]
    simp [dn, jn]
   ·subst ha hb
    rw [Q71, Q31.l0b]
    simp [nx, gt, IntKind.wrap, IntKind.bits, IntKind.signed]
    rw [Q71, Q31.l0b]
    simp [nx, gt, IntKind.wrap, IntKind.bits, IntKind.signed]
    rw [Q71, Q31.l0b]
    simp [nx, gt, hc, upL, jn]
  ·subst ha
   rw [Q71, Q31.l0b]
   simp [nx, gt, IntKind.wrap, IntKind.bits, IntKind.signed]
   rw [Q71, Q31.l0b]
   simp [nx, gt, hb, upL, jn]
 ·rw [Q71, Q31.l0b]
  simp [nx, gt, ha, upL, jn]
def edgeCmp (x y : Q3) : Int := if cmp3 x.From y.From = 0 then if cmp3 x.Action y.Action = 0 then cmp3 x.To y.To else cmp3 x.Action y.Action else cmp3 x.From y.From
theorem Q234 (x y : Q3) : Q97.f x.From x.Action x.To y.From y.Action y.To = some (edgeCmp x y) := by
 unfold Q97.f
 simp only [Q236, Option.bind_some, or_run]
 rfl
theorem Q286 (x y : Q3) : Q37.cmp x y = some (edgeCmp x y) := Q234 x y
def edgeLt (x y : Q3) : Prop := x.From < y.From ∨ x.From = y.From ∧ (x.Action < y.Action ∨ x.Action = y.Action ∧ x.To < y.To)
theorem Q225 {x y : Q3} : edgeCmp x y < 0 ↔ edgeLt x y := by
 unfold edgeCmp edgeLt
 by_cases h1 : x.From = y.From
 ·rw [if_pos (Q183.2 h1)]
  by_cases h2 : x.Action = y.Action
  ·rw [if_pos (Q183.2 h2), Q175]; omega
  ·rw [if_neg (fun h => h2 (Q183.1 h)), Q175]; omega
 ·rw [if_neg (fun h => h1 (Q183.1 h)), Q175]; omega
theorem Q172 (x y : Q3) : ltOf (gcf Q37.cmp) x y = true ↔ edgeLt x y := by
 unfold ltOf gcf
 rw [Q286]
 simp [Q225]
theorem edge_ltOf' (x y : Q3) : ltOf (gcf Q37.cmp) x y = false ↔ ¬ edgeLt x y := by
 rw [← Q172]; simp
theorem Q272 : CmpTot Q37.cmp := by
 refine ⟨⟨fun x y => by rw [Q286]; rfl, fun x => ?_, fun x y z h1 h2 => ?_, fun x y z h1 h2 => ?_⟩, fun x y h1 h2 => ?_⟩
 ·rw [edge_ltOf']; unfold edgeLt; omega
 ·rw [Q172] at *; unfold edgeLt at *; omega
 ·rw [edge_ltOf'] at *; unfold edgeLt at *; omega
 ·rw [edge_ltOf'] at *
  unfold edgeLt at *
  cases x
  cases y
  simp at *
  omega
theorem Q216 : ∀ (x : Bs), Lib.compareBytes x x = 0
 | [] => rfl
 | a :: x => by unfold Lib.compareBytes; rw [if_neg (UInt8.lt_irrefl a), if_neg (UInt8.lt_irrefl a)]; exact Q216 x
theorem cb_eq : ∀ {x y : Bs}, Lib.compareBytes x y = 0 → x = y
 | [], [], _ => rfl
 | [], _ :: _, h => by simp [Lib.compareBytes] at h
 | _ :: _, [], h => by simp [Lib.compareBytes] at h
 | a :: x, b :: y, h => by
  unfold Lib.compareBytes at h
  split at h
  ·simp at h
  ·split at h
   ·simp at h
   ·rename_i h1 h2
    rw [cb_eq h, UInt8.le_antisymm (UInt8.not_lt.1 h2) (UInt8.not_lt.1 h1)]
theorem cb_neg : ∀ {x y : Bs}, Lib.compareBytes y x = - Lib.compareBytes x y
 | [], [] => rfl
 | [], _ :: _ => rfl
 | _ :: _, [] => rfl
 | a :: x, b :: y => by
  unfold Lib.compareBytes
  by_cases h1 : a < b
  ·rw [if_neg (UInt8.lt_asymm h1), if_pos h1, if_pos h1]; rfl
  ·by_cases h2 : b < a
   ·rw [if_pos h2, if_neg h1, if_pos h2]
   ·rw [if_neg h1, if_neg h2, if_neg h2, if_neg h1]; exact cb_neg
theorem Q191 : ∀ {x y z : Bs}, Lib.compareBytes x y < 0 → Lib.compareBytes y z < 0 → Lib.compareBytes x z < 0
 | [], [], _, h, _ => by simp [Lib.compareBytes] at h
 | [], _ :: _, [], _, h => by simp [Lib.compareBytes] at h
 | [], _ :: _, _ :: _, _, _ => by simp [Lib.compareBytes]
 | _ :: _, [], _, h, _ => by simp [Lib.compareBytes] at h
 | _ :: _, _ :: _, [], _, h => by simp [Lib.compareBytes] at h
 | a :: x, b :: y, c :: z, h1, h2 => by
  unfold Lib.compareBytes at h1 h2 ⊢
  by_cases hab : a < b
  ·by_cases hbc : b < c
   ·rw [if_pos (UInt8.lt_trans hab hbc)]; decide
   ·rw [if_neg hbc] at h2
    by_cases hcb : c < b
    ·rw [if_pos hcb] at h2; simp at h2
    ·have : b = c := UInt8.le_antisymm (UInt8.not_lt.1 hcb) (UInt8.not_lt.1 hbc)
     subst this
     rw [if_pos hab]; decide
  ·rw [if_neg hab] at h1
   by_cases hba : b < a
   ·rw [if_pos hba] at h1; simp at h1
   ·have : a = b := UInt8.le_antisymm (UInt8.not_lt.1 hba) (UInt8.not_lt.1 hab)
    subst this
    rw [if_neg hba] at h1
    by_cases hbc : a < c
    ·rw [if_pos hbc]; decide
    ·rw [if_neg hbc] at h2 ⊢
     by_cases hcb : c < a
     ·rw [if_pos hcb] at h2; simp at h2
     ·rw [if_neg hcb] at h2 ⊢
      exact Q191 h1 h2
theorem Q250 (x y : Q4) : Q41.cmp x y = some (Lib.compareBytes x.Name y.Name) := rfl
theorem Q173 (x y : Q4) : ltOf (gcf Q41.cmp) x y = true ↔ Lib.compareBytes x.Name y.Name < 0 := by
 unfold ltOf gcf
 rw [Q250]
 simp
theorem prop_ltOf' (x y : Q4) : ltOf (gcf Q41.cmp) x y = false ↔ 0 ≤ Lib.compareBytes x.Name y.Name := by
 have := Q173 x y
 rw [← Bool.not_eq_true, this]; omega
theorem prop_swo : CmpSwo Q41.cmp := by
 refine ⟨fun x y => by rw [Q250]; rfl, fun x => ?_, fun x y z h1 h2 => ?_, fun x y z h1 h2 => ?_⟩
 ·rw [prop_ltOf', Q216]; decide
 ·rw [Q173] at *; exact Q191 h1 h2
 ·rw [prop_ltOf'] at *
  rw [cb_neg] at h1 h2 ⊢
  have h1' : Lib.compareBytes y.Name x.Name ≤ 0 := by omega
  have h2' : Lib.compareBytes z.Name y.Name ≤ 0 := by omega
  by_cases e1 : Lib.compareBytes y.Name x.Name = 0
  ·rw [← cb_eq e1]; omega
  ·by_cases e2 : Lib.compareBytes z.Name y.Name = 0
   ·rw [cb_eq e2]; omega
   ·have := Q191 (show Lib.compareBytes z.Name y.Name < 0 by omega) (show Lib.compareBytes y.Name x.Name < 0 by omega)
    omega
end Go.Bw
namespace Go.Bw
open Go Go.RowKit
instance : DecidableEq Q4 := fun a b => decidable_of_iff (a.Name = b.Name ∧ a.States = b.States) (by cases a; cases b; simp)
noncomputable def Q84.fc (fu : Nat) (a0 : List Int) : Option (List Int) := few2C (sortI a0)
theorem Q84.f_ap (fu : Nat) (a0 : List Int) : Ap (Q84.fc fu a0) (Q84.f a0) := fun r h => by
 unfold Q84.fc at h
 obtain ⟨h, hl⟩ := Q218 h
 obtain ⟨hb, hl2⟩ := sortI_eq h
 unfold Q84.f
 rw [if_pos (by omega), hb]
noncomputable def Q38.fc (fu : Nat) (L : List Q0) (M : Option Q5) (u : Int) (D : List Bs) (G : List Q3) (q : List Q4) (I : List Q9) (J : List (Bs × Bool)) : Option ((List Q4) × (Option Q5) × (List Q0)) :=
 (Q103.f L M u D G q I J).bind fun p =>
 jn (
 if p.1.isNone = true then
 if 8 ≤ (q.length : Int) then
 (Q20.f p.2.1 p.1 u D G q I J p.2.2.1 p.2.2.2.1 p.2.2.2.2.1 p.2.2.2.2.2 10).bind fun O =>
 some (.inl O)
 else
 (Q131.f q p.2.2.1 p.2.2.2.1 p.2.2.2.2.1 p.2.2.2.2.2).bind fun U =>
 if U = true then
 (Q20.f p.2.1 p.1 u D G q I J p.2.2.1 p.2.2.2.1 p.2.2.2.2.1 p.2.2.2.2.2 9).bind fun V =>
 some (.inl V)
 else
 some (.inl p.1)
 else
 up (some (q, p.1, p.2.1))) (fun (X : Option Q5) =>
 jn (Q38.l0 u D G q I J ([] : List Int) X p.2.1) (fun (s_ : (Option Q5) × (List Int) × (List Q0)) =>
 (Q84.fc fu s_.2.1).bind fun Z =>
 if (q.length + 1) * 40 ≤ 140737488355328 then
 some ((q ++ [(⟨p.2.2.2.2.1, Z⟩ : Q4)]), s_.1, s_.2.2)
 else none))
theorem Q38.f_ap (fu : Nat) (p : List Q0) (q : Option Q5) (u : Int) (D : List Bs) (G : List Q3) (I : List Q4) (J : List Q9) (L : List (Bs × Bool)) : Ap (Q38.fc fu p q u D G I J L) (Q38.f p q u D G I J L) := by
 unfold Q38.fc Q38.f
 repeat' with_reducible first | apply Q84.f_ap | exact Ap.none | apply Ap.jn | apply Ap.ite | apply Ap.up | apply Ap.bind | exact Ap.refl _ | intro
noncomputable def Q72.fc (fu : Nat) (a0 : List Bs) : Option (List Bs) := few2C (sortB a0)
theorem Q72.f_ap (fu : Nat) (a0 : List Bs) : Ap (Q72.fc fu a0) (Q72.f a0) := fun r h => by
 unfold Q72.fc at h
 obtain ⟨h, hl⟩ := Q218 h
 obtain ⟨hb, hl2⟩ := sortB_eq h
 unfold Q72.f
 rw [if_pos (by omega), hb]
noncomputable def Q37.fc (fu : Nat) (a0 : List Q3) : Option (List Q3) := few2C (sortC (fun x y => Q97.f x.From x.Action x.To y.From y.Action y.To) a0)
theorem Q37.f_ap (fu : Nat) (a0 : List Q3) : Ap (Q37.fc fu a0) (Q37.f a0) := fun r h => by
 unfold Q37.fc at h
 obtain ⟨h, hl⟩ := Q218 h
 obtain ⟨hb, hl2⟩ := sort_tot (c := Q37.cmp) (fun x y => Ap.refl _) Q272 h
 unfold Q37.f
 rw [if_pos ⟨by omega, Q272⟩, hb]
noncomputable def Q41.fc (fu : Nat) (a0 : List Q4) : Option (List Q4) := soloC a0
theorem Q41.f_ap (fu : Nat) (a0 : List Q4) : Ap (Q41.fc fu a0) (Q41.f a0) := fun r h => by
 obtain ⟨rfl, h⟩ := solo_mem h
 rcases h with rfl | ⟨x, rfl⟩ <;> simp [Q41.f, byCmp, CmpParts, prop_swo]
noncomputable def Q29.fc (fu : Nat) (X : List Q0) (Z : Option Q5) (q : Int) (u : List Bs) (D : List Q3) (G : List Q4) (I : List Q9) (J : List (Bs × Bool)) : Option ((List Q4) × (List Q3) × (List Bs) × Int) :=
 orderedP J (fun (t_ : (List Bs)) (z_ : Bs × Bool) => Q29.l0b  z_ t_) u (fun L => L) (fun (M : List Bs) =>
 (Q72.fc fu M).bind fun p =>
 jn (Q29.l1 I p D 0) (fun (O : List Q3) =>
 (Q37.fc fu O).bind fun U =>
 (Q41.fc fu G).bind fun V =>
 some (V, U, p, q)))
theorem Q29.f_ap (fu : Nat) (p : List Q0) (q : Option Q5) (u : Int) (D : List Bs) (G : List Q3) (I : List Q4) (J : List Q9) (L : List (Bs × Bool)) : Ap (Q29.fc fu p q u D G I J L) (Q29.f p q u D G I J L) := by
 unfold Q29.fc Q29.f
 repeat' with_reducible first | apply Q72.f_ap | apply Q37.f_ap | apply Q41.f_ap | apply Ap.jn | apply Ap.orderedP | apply Ap.bind | exact Ap.refl _ | intro
noncomputable def Q23.l0bc (fu : Nat) (G : (Option Q5) × (List Q0) × Int) (I : Option Q5) (q : List Q4) (u : List Q9) (D : List (Bs × Bool)) (O : List Q0) : Option (((Option Q5) × (List Q4) × (List Q9) × (List (Bs × Bool)) × (List Q0)) ⊕ (((Option Q5) × (List Q4) × (List Q9) × (List (Bs × Bool)) × (List Q0)) ⊕ ((Option Q5) × (List Bs) × (List Q3) × (List Q4) × Int))) :=
 if I.isNone = true then
 (Q59.f O I G.2.2 ([] : List Bs) ([] : List Q3) q u D).bind fun J =>
 if (0 : Int) ≤ 0 ∧ 0 < (J.length : Int) then
 if (gt J 0).Kind = 0 then
 dn (.inl (I, q, u, D, J))
 else
 (Q49.f J I G.2.2 ([] : List Bs) ([] : List Q3) q u D 2).bind fun p =>
 if p.1.isNone = true then
 if bseq p.2.2.2.2.1 ([101, 100, 103, 101] : Bs) = true then
 (Q141.f p.2.1 p.1 G.2.2 ([] : List Bs) ([] : List Q3) q u D p.2.2.1 p.2.2.2.1 p.2.2.2.2.1 p.2.2.2.2.2).bind fun L =>
 nx (L.2.2.1, q, L.1, L.2.1, L.2.2.2)
 else
 if bseq p.2.2.2.2.1 ([109, 97, 114, 107] : Bs) = true then
 (Q38.fc fu p.2.1 p.1 G.2.2 ([] : List Bs) ([] : List Q3) q u D).bind fun M =>
 nx (M.2.1, M.1, u, D, M.2.2)
 else
 (Q20.f p.2.1 p.1 G.2.2 ([] : List Bs) ([] : List Q3) q u D p.2.2.1 p.2.2.2.1 p.2.2.2.2.1 p.2.2.2.2.2 7).bind fun U =>
 nx (U, q, u, D, p.2.1)
 else
 nx (p.1, q, u, D, p.2.1)
 else none
 else
 dn (.inl (I, q, u, D, O))
theorem Q23.l0b_ap (fu : Nat) (p : (Option Q5) × (List Q0) × Int) (q : Option Q5) (u : List Q4) (D : List Q9) (G : List (Bs × Bool)) (I : List Q0) : Ap (Q23.l0bc fu p q u D G I) (Q23.l0b p q u D G I) := by
 unfold Q23.l0bc Q23.l0b
 repeat' with_reducible first | apply Q38.f_ap | exact Ap.none | apply Ap.ite | apply Ap.bind | exact Ap.refl _ | intro
noncomputable def Q23.l0c (fu : Nat) (p : (Option Q5) × (List Q0) × Int) (q : Option Q5) (u : List Q4) (D : List Q9) (G : List (Bs × Bool)) (I : List Q0) : Option (((Option Q5) × (List Q4) × (List Q9) × (List (Bs × Bool)) × (List Q0)) ⊕ ((Option Q5) × (List Bs) × (List Q3) × (List Q4) × Int)) := iterC fu (fun t_ : (Option Q5) × (List Q4) × (List Q9) × (List (Bs × Bool)) × (List Q0) => Q23.l0bc fu p t_.1 t_.2.1 t_.2.2.1 t_.2.2.2.1 t_.2.2.2.2) (q, u, D, G, I)
theorem Q23.l0_ap (fu : Nat) (p : (Option Q5) × (List Q0) × Int) (q : Option Q5) (u : List Q4) (D : List Q9) (G : List (Bs × Bool)) (I : List Q0) : Ap (Q23.l0c fu p q u D G I) (Q23.l0 p q u D G I) := by
 unfold Q23.l0c Q23.l0
 repeat' with_reducible first | apply Q23.l0b_ap | apply Ap.iter | exact Ap.refl _ | intro
noncomputable def Q23.fc (fu : Nat) (a0 : Bs) : Option ((Option Q5) × (List Bs) × (List Q3) × (List Q4) × Int) :=
 (Q63.f a0).bind fun u =>
 if u.1.isNone = true then
 (Q134.f u.2 (none : Option Q5) 0 ([] : List Bs) ([] : List Q3) ([] : List Q4) ([] : List Q9) ([] : List (Bs × Bool))).bind fun p =>
 jn (Q23.l0c fu p p.1 ([] : List Q4) ([] : List Q9) ([] : List (Bs × Bool)) p.2.1) (fun (s_ : (Option Q5) × (List Q4) × (List Q9) × (List (Bs × Bool)) × (List Q0)) =>
 if s_.1.isNone = true then
 (Q29.fc fu s_.2.2.2.2 s_.1 p.2.2 ([] : List Bs) ([] : List Q3) s_.2.1 s_.2.2.1 s_.2.2.2.1).bind fun q =>
 some (none, q.2.2.1, q.2.1, q.1, q.2.2.2)
 else
 some ((some (⟨(s_.1.getD default).At, (s_.1.getD default).Err⟩ : Q5)), ([] : List Bs), ([] : List Q3), ([] : List Q4), 0))
 else
 some (u.1, ([] : List Bs), ([] : List Q3), ([] : List Q4), 0)
theorem Q23.f_ap (fu : Nat) (a0 : Bs) : Ap (Q23.fc fu a0) (Q23.f a0) := by
 unfold Q23.fc Q23.f
 repeat' with_reducible first | apply Q23.l0_ap | apply Q29.f_ap | exact Ap.none | apply Ap.jn | apply Ap.ite | apply Ap.bind | exact Ap.refl _ | intro
noncomputable def Q74.fc (fu : Nat)  : Option Bool :=
 (Q23.fc fu ([115, 116, 97, 116, 101, 115, 32, 51, 10, 101, 100, 103, 101, 32, 48, 32, 97, 32, 49, 10, 101, 100, 103, 101, 32, 49, 32, 97, 32, 50, 10, 101, 100, 103, 101, 32, 50, 32, 97, 32, 50, 10, 101, 100, 103, 101, 32, 48, 32, 98, 32, 48, 10, 109, 97, 114, 107, 32, 112, 32, 50, 10] : Bs)).bind fun p =>
 (Q17.f p.2.2.2.2 p.2.1 p.2.2.1 p.2.2.2.1).bind fun q =>
 (Q142.f ([109, 117, 32, 88, 46, 32, 112, 32, 124, 32, 91, 45, 93, 88] : Bs)).bind fun D =>
 jn (
 if p.1.isNone = true then
 some (.inl (!D.1.isNone))
 else
 some (.inl true)) (fun (G : Bool) =>
 jn (
 if G = true then
 some (.inl true)
 else
 some (.inl q.isNone)) (fun (I : Bool) =>
 if I = true then
 some false
 else
 if q.isNone = false then
 (Q70.f ((q.getD default).states) ((q.getD default).holds) ((q.getD default).next) D.2).bind fun u =>
 jn (
 if u.1 = 0 then
 some (.inl (decide (u.2.1 = 6) && (decide (u.2.2.1 = 0) && (decide (u.2.2.2.1 = 0) && (decide (u.2.2.2.2 = 0) && true)))))
 else
 some (.inl false)) (fun (J : Bool) =>
 some J)
 else none))
theorem Q74.f_ap (fu : Nat)  : Ap (Q74.fc fu ) (Q74.f ) := by
 unfold Q74.fc Q74.f
 repeat' with_reducible first | apply Q23.f_ap | exact Ap.none | apply Ap.jn | apply Ap.ite | apply Ap.bind | exact Ap.refl _ | intro
theorem Q302 : Q74.f = some true := Q74.f_ap 100 _ (by kernel_rfl)
end Go.Bw
namespace Go.Bw
open Go Go.RowKit

section
variable {P : Program} [Tys P] {n : Nat} {ds : List Deferred} {R : Res} {env : List (Nat × Value)} {l : List HProp} {d ty t e : Nat} {pos : String} {af : Array Edge} {g : Option (Nat × Bool)} {dd : Option Nat}
theorem Y.ixTab {x y : Operand} {i : Int} {k kk : IntKind} {m b : Nat} {ii j : TI} (hi : ti P t = some ii) (hk : ii.k = .array m e) (hx : ev env x = some (.pointer (some ⟨b, 0, none⟩))) (hy : ev env y = some (.int k i)) (hj : ti P e = some j) (hjs : j.size = 1) (h0 : 0 ≤ i) (h1 : i < (m : Int)) :
 Y P n ds R env l ⟨dd, .indexAddr t x y, ty, pos, af, g⟩ (elp (some ⟨b, 0, none⟩) (i.toNat * (Fl.int kk).sz)) := fun a' w e0 hs => by
 have := Y.ixArr (P := P) (n := n) (ds := ds) (R := R) (l := l) (ty := ty) (pos := pos) (af := af) (g := g) (dd := dd) hi hk hx hy hj h0 h1 a' w e0 hs
 rw [hjs] at this
 exact this
end
theorem Q321 {W : World} {b : Nat} {k : IntKind} {tab : List Int} (h : ∀ i : Nat, i < tab.length → W.cell? ⟨b, i, none⟩ = some (.int k (tab.getD i 0))) : RdS (Fl.int k).rep (wh W) (some ⟨b, 0, none⟩) tab := fun i x hx => by
 have hi : i < tab.length := (List.getElem?_eq_some_iff.1 hx).1
 have hd : tab.getD i 0 = x := by rw [List.getD_eq_getElem?_getD, hx]; rfl
 refine ⟨_, _, rfl, rfl, fun j u hu => ?_⟩
 have hj : j = 0 := by
  have : j < 1 := (List.getElem?_eq_some_iff.1 hu).1
  omega
 subst hj
 have hu' : Value.int k x = u := by simpa [Fl.int] using hu
 subst hu'
 have hc := h i hi
 rw [hd] at hc
 simp only [World.cell?] at hc
 have ha : ((⟨b, 0, none⟩ : Addr).add (i * (Fl.int k).rep.sz)).add 0 = ⟨b, i, none⟩ := by
  rw [Q93, Q127]
  simp [show (Fl.int k).rep.sz = 1 from rfl]
 rw [ha]
 dsimp only at hc ⊢
 unfold wh
 cases hb : W.heap[b]? with
 | none => rw [hb] at hc; cases hc
 | some o =>
  rw [hb] at hc
  cases o with
  | cells arr ee fr => exact ⟨arr, ee, fr, rfl, rfl, by simpa using hc⟩
  | _ => simp at hc
end Go.Bw
namespace Go.Bw
open Go Go.RowKit

section
variable {α : Type} {P : Program} [Tys P] {os : List Oper} {Q : Exit → Act → World → Prop} {rest : List Oper} {n : Nat} {ds : List Deferred} {R : Res} {env : List (Nat × Value)} {l l' : List HProp}
variable {d ty t e : Nat} {pos : String} {af : Array Edge} {g : Option (Nat × Bool)}
theorem At.make0 (F : Fl α) {x y : Operand} {m : Int} {k k' : IntKind} {bytes : Nat} {ii j : TI} (hg : grd os env g = some true) (hi : ti P t = some ii) (hk : ii.k = .slice e) (hj : ti P e = some j) (hjs : j.size = F.sz) (hjb : j.bytes = bytes) (hjz : j.zero.length = j.size)
 (hx : ev env x = some (.int k 0)) (hy : ev env y = some (.int k' m)) (h0 : 0 ≤ m) (h1 : (bytes : Int) * m ≤ 281474976710656) (hb0 : 0 < bytes) (hd : Nat.blt d n = true)
 (h : ∀ A c, At n ds R ((d, .slice A ([] : List α).length c) :: env) (row F e A ([] : List α).length c ([] : List α) :: l) (wpList P os.toArray Q rest)) :
 At n ds R env l (wpList P os.toArray Q (⟨some d, .makeSlice t x y, ty, pos, af, g⟩ :: rest)) := Q76 hg rfl hd fun a w e0 hs => by
 obtain ⟨xi, zv, hxi, hsz, hby, hze, hzc⟩ := (Q14 hj).info
 have hm : m ≤ 9223372036854775807 := by
  have := Int.mul_le_mul_of_nonneg_right (show (1 : Int) ≤ (bytes : Int) by omega) h0
  omega
 have hm2 : m ≤ 281474976710656 := by
  have := Int.mul_le_mul_of_nonneg_right (show (1 : Int) ≤ (bytes : Int) by omega) h0
  omega
 have hr := run_make (P := P) w t e xi zv ((Q14 hi).slice hk) hxi hze k k' 0 m (Int.le_refl _) h0 (by rw [hby, hjb]; exact h1) hm
 refine ⟨.slice (some ⟨w.heap.size, 0, none⟩) 0 m.toNat, w.alloc (.cells (madeCells zv.cells (m.toNat * xi.size)) e), row F e (some ⟨w.heap.size, 0, none⟩) 0 m.toNat ([] : List α) :: l, ?_, ?_, h (some ⟨w.heap.size, 0, none⟩) m.toNat⟩
 ·simp only [execOp, e0.ev hx, e0.ev hy, Sem.run_bind, hr, Result.andThen, Sem.run_pure]; rfl
 ·refine (hs.alloc _).imp fun h' o => ?_
  refine ⟨by simp, .inr ⟨w.heap.size, _, rfl, o, by simp, by simp only [maxLen]; omega, ?_, by simp⟩⟩
  simp [madeCells, hsz, hjs]
end
end Go.Bw
namespace Go.Bw
open Go Go.RowKit Go.Proofs
variable {R : Res} {Fr : List HProp}
noncomputable def Q22.o1 (x : Int) : Int := IntKind.u64.wrap (band .u64 (Bw.shr .u64 x 1) 6148914691236517205 + band .u64 x 6148914691236517205)
noncomputable def Q22.o2 (x : Int) : Int := IntKind.u64.wrap (band .u64 (Bw.shr .u64 x 2) 3689348814741910323 + band .u64 x 3689348814741910323)
noncomputable def Q22.o3 (x : Int) : Int := band .u64 (IntKind.u64.wrap (Bw.shr .u64 x 4 + x)) 1085102592571150095
noncomputable def Q22.o4 (x : Int) : Int := IntKind.u64.wrap (x + Bw.shr .u64 x 8)
noncomputable def Q22.o5 (x : Int) : Int := IntKind.u64.wrap (x + Bw.shr .u64 x 16)
noncomputable def Q22.o6 (x : Int) : Int := IntKind.u64.wrap (x + Bw.shr .u64 x 32)
noncomputable def Q22.f (a0 : Int) : Option Int := some (band .i64 (IntKind.i64.wrap (Q22.o6 (Q22.o5 (Q22.o4 (Q22.o3 (Q22.o2 (Q22.o1 a0))))))) 127)
theorem Q22.callee : Callee Tryz.prog 53 := ⟨_, Tryz.func53, by kernel_rfl, by kernel_rfl⟩
theorem Q22.spec {a0 : Int} {r : Int} (j : Q22.f a0 = some r) :
 Spec Tryz.prog 53 [.int .u64 a0] R (Fr) (fun v l' => v = i6 r ∧ Fr = l') := by
 refine Spec.of Tryz.func53 rfl rfl ?_; unfold Q22.f at j; refine sR 1 rfl (nT (sR 1 rfl ?_)); refine At.y (Y.shr rfl rfl (by decide)) rfl rfl rfl (At.run 5 rfl (nT ?_)); refine At.sub (env' := [(0, .int .u64 (Q22.o1 a0))]) ⟨rfl, trivial⟩ ?_; generalize Q22.o1 a0 = z1 at j ⊢; refine sR 1 rfl (At.y (Y.shr rfl rfl (by decide)) rfl rfl rfl (At.run 5 rfl (nT ?_))); refine At.sub (env' := [(0, .int .u64 (Q22.o2 z1))]) ⟨rfl, trivial⟩ ?_; generalize Q22.o2 z1 = z2 at j ⊢; refine sR 1 rfl (At.y (Y.shr rfl rfl (by decide)) rfl rfl rfl (At.run 4 rfl (nT ?_))); refine At.sub (env' := [(0, .int .u64 (Q22.o3 z2))]) ⟨rfl, trivial⟩ ?_; generalize Q22.o3 z2 = z3 at j ⊢; refine sR 2 rfl (At.y (Y.shr rfl rfl (by decide)) rfl rfl rfl (At.run 2 rfl (nT ?_))); refine At.sub (env' := [(0, .int .u64 (Q22.o4 z3))]) ⟨rfl, trivial⟩ ?_; generalize Q22.o4 z3 = z4 at j ⊢; refine sR 2 rfl (At.y (Y.shr rfl rfl (by decide)) rfl rfl rfl (At.run 2 rfl (nT ?_))); refine At.sub (env' := [(0, .int .u64 (Q22.o5 z4))]) ⟨rfl, trivial⟩ ?_; generalize Q22.o5 z4 = z5 at j ⊢; refine sR 2 rfl (At.y (Y.shr rfl rfl (by decide)) rfl rfl rfl (At.run 2 rfl (nT ?_))); refine At.sub (env' := [(0, .int .u64 (Q22.o6 z5))]) ⟨rfl, trivial⟩ ?_; generalize Q22.o6 z5 = z6 at j ⊢; refine sR 4 rfl (nT (At.ret ?_)); obtain rfl := Option.some.inj j; exact At.res (.inl rfl) rfl rfl ⟨rfl, rfl⟩

noncomputable def Q125.f (p q u D : Int) : Option Int :=
 (Q22.f p).bind fun G =>
 (Q22.f q).bind fun I =>
 (Q22.f u).bind fun J =>
 (Q22.f D).bind fun L =>
 some (IntKind.i64.wrap (IntKind.i64.wrap (IntKind.i64.wrap (IntKind.i64.wrap (0 + G) + I) + J) + L))
theorem Q125.callee : Callee Tryz.prog 27 := ⟨_, Tryz.func27, by kernel_rfl, by kernel_rfl⟩
theorem Q125.spec {p q u D : Int} {r : Int} (j : Q125.f p q u D = some r) :
 Spec Tryz.prog 27 [.agg #[.int .u64 p, .int .u64 q, .int .u64 u, .int .u64 D]] R (Fr) (fun v l' => v = i6 r ∧ Fr = l') := by
 refine Spec.of Tryz.func27 rfl rfl ?_; unfold Q125.f at j; have j := brun j; refine At.seq (At.region ?_); refine At.box rfl rfl (cs := [.int .u64 p, .int .u64 q, .int .u64 u, .int .u64 D]) rfl rfl (fun M => ?_); refine At.run 1 rfl (nT (sR 1 rfl (nT ?_))); refine At.seq (At.seq (At.region (At.y (Y.load rfl rfl .z rfl rfl rfl) rfl rfl rfl (At.run 1 rfl (nT ?_))))); refine At.block ?_; refine At.rounds 5 ?_; refine At.round ?_; refine sR 1 rfl (nT (At.seq ?_)); refine At.condT rfl rfl ?_; refine At.skip (At.thn (At.seq ?_)); refine At.block ?_; refine At.seq (At.region ?_); refine At.y (Y.ixA rfl rfl rfl rfl rfl (show (0 : Int) ≤ 0 ∧ (0 : Int) < 4 by decide).1 (show (0 : Int) ≤ 0 ∧ (0 : Int) < 4 by decide).2 rfl) rfl rfl rfl ?_; refine At.run 1 rfl (nT (At.region (At.run 2 rfl ?_))); obtain ⟨O, G, j⟩ := bbind j; refine At.call rfl Q22.callee rfl rfl rfl (Q22.spec G) ?_; rintro _ _ ⟨rfl, rfl⟩; refine At.run 2 rfl (At.nil ?_); refine At.ibn ?_; refine At.thn (At.region (At.run 2 rfl (nT ?_))); refine At.round ?_; refine sR 1 rfl (nT (At.seq ?_)); refine At.condT rfl rfl ?_; refine At.skip (At.thn (At.seq ?_)); refine At.block ?_; refine At.seq (At.region ?_); refine At.y (Y.ixA rfl rfl rfl rfl rfl (show (0 : Int) ≤ 1 ∧ (1 : Int) < 4 by decide).1 (show (0 : Int) ≤ 1 ∧ (1 : Int) < 4 by decide).2 rfl) rfl rfl rfl ?_; refine At.run 1 rfl (nT (At.region (At.run 2 rfl ?_))); obtain ⟨U, I, j⟩ := bbind j; refine At.call rfl Q22.callee rfl rfl rfl (Q22.spec I) ?_; rintro _ _ ⟨rfl, rfl⟩; refine At.run 2 rfl (At.nil ?_); refine At.ibn ?_; refine At.thn (At.region (At.run 2 rfl (nT ?_))); refine At.round ?_; refine sR 1 rfl (nT (At.seq ?_)); refine At.condT rfl rfl ?_; refine At.skip (At.thn (At.seq ?_)); refine At.block ?_; refine At.seq (At.region ?_); refine At.y (Y.ixA rfl rfl rfl rfl rfl (show (0 : Int) ≤ 2 ∧ (2 : Int) < 4 by decide).1 (show (0 : Int) ≤ 2 ∧ (2 : Int) < 4 by decide).2 rfl) rfl rfl rfl ?_; refine At.run 1 rfl (nT (At.region (At.run 2 rfl ?_))); obtain ⟨V, J, j⟩ := bbind j; refine At.call rfl Q22.callee rfl rfl rfl (Q22.spec J) ?_; rintro _ _ ⟨rfl, rfl⟩; refine At.run 2 rfl (At.nil ?_); refine At.ibn ?_; refine At.thn (At.region (At.run 2 rfl (nT ?_))); refine At.round ?_; refine sR 1 rfl (nT (At.seq ?_)); refine At.condT rfl rfl ?_; refine At.skip (At.thn (At.seq ?_)); refine At.block ?_; refine At.seq (At.region ?_); refine At.y (Y.ixA rfl rfl rfl rfl rfl (show (0 : Int) ≤ 3 ∧ (3 : Int) < 4 by decide).1 (show (0 : Int) ≤ 3 ∧ (3 : Int) < 4 by decide).2 rfl) rfl rfl rfl ?_; refine At.run 1 rfl (nT (At.region (At.run 2 rfl ?_))); obtain ⟨X, L, j⟩ := bbind j; refine At.call rfl Q22.callee rfl rfl rfl (Q22.spec L) ?_; rintro _ _ ⟨rfl, rfl⟩; refine At.run 2 rfl (At.nil ?_); refine At.ibn ?_; refine At.thn (At.region (At.run 2 rfl (nT ?_))); refine At.round ?_; refine sR 1 rfl (nT (At.seq ?_)); refine At.condF rfl rfl ?_; refine At.exit ?_; refine At.the ?_; refine At.the ?_; refine At.ibx ?_; refine At.thn (sR 2 rfl (nT (At.ret (At.drop .z ?_)))); cases bret j; exact At.res (.inl rfl) rfl rfl ⟨rfl, rfl⟩

noncomputable def Q33.ix (a0 : Int) : Int := Bw.shr .u64 (IntKind.u64.wrap ((band .u64 a0 (IntKind.u64.wrap (0 - a0))) * 285870213051353865)) 58
noncomputable def Q33.f (a0 : Int) : Option Int :=
 if a0 = 0 then
 some 64
 else
 if (0 : Int) ≤ Q33.ix a0 ∧ Q33.ix a0 < (64 : Int) then
 some (IntKind.i64.wrap (gt Tryz.gtab0 (Q33.ix a0)))
 else none
theorem Q33.callee : Callee Tryz.prog 36 := ⟨_, Tryz.func36, by kernel_rfl, by kernel_rfl⟩
theorem Q33.spec {a0 : Int} (hg0 : RdS (Fl.int .u8).rep R.heap (some ⟨0, 0, none⟩) Tryz.gtab0) {r : Int} (j : Q33.f a0 = some r) :
 Spec Tryz.prog 36 [.int .u64 a0] R (Fr) (fun v l' => v = i6 r ∧ Fr = l') := by
 refine Spec.of Tryz.func36 rfl rfl ?_; unfold Q33.f at j; have j := brun j; have hlen : Tryz.gtab0.length = 64 := rfl; generalize Tryz.gtab0 = tab at hg0 j hlen; obtain ⟨A, hA⟩ : ∃ A : Option Addr, (some ⟨0, 0, none⟩ : Option Addr) = A := ⟨_, rfl⟩; rw [hA] at hg0; refine sR 1 rfl (nT (At.seq (At.seq (At.region ?_)))); refine At.run 2 rfl (nT ?_); rcases bite j with ⟨u, j⟩ | ⟨u, j⟩
 ··refine At.condT rfl (decide_eq_true u) ?_
   refine sR 1 rfl (nT (At.ret (At.thr ?_))); cases bret j; exact At.res (.inl rfl) rfl rfl ⟨rfl, rfl⟩
 ··refine At.condF rfl (decide_eq_false u) ?_
   refine At.skip (At.thn (sR 5 rfl (At.y (Y.shr rfl rfl (by decide)) rfl rfl rfl ?_))); refine At.sub (env' := [(10, .int .u64 (Q33.ix a0))]) ⟨rfl, trivial⟩ ?_; generalize Q33.ix a0 = q at j ⊢; obtain ⟨p, j⟩ := bnone j; refine At.y (v := elp A (q.toNat * (Fl.int .u8).sz)) (by rw [← hA]; exact Y.ixTab (kk := .u8) rfl rfl rfl rfl rfl rfl p.1 p.2) rfl rfl rfl ?_; refine At.y (v := .int .u8 (gt tab q)) (Y.ldFl (ii := Tryz.ti5) hg0 hlen (i := q) (q := 0) rfl ?_ p.1 p.2 ?_ ?_ ?_) rfl rfl rfl ?_
   ·exact congrArg (fun k => some (elp A k)) (Nat.add_zero _).symm
   ·rfl
   ·rfl
   ·rfl
   refine At.run 2 rfl (nT (At.ret ?_)); cases bret j; exact At.res (.inl rfl) rfl rfl ⟨rfl, rfl⟩

noncomputable def Q19.l3b  (q : List Int) (p : Int) : Option (((List Int) × Int) ⊕ (((List Int)) ⊕ ((List Int)))) :=
 if p = 0 then
 dn (.inl q)
 else
 (Q33.f p).bind fun u =>
 if (q.length + ([(IntKind.i64.wrap (192 + u))] : List Int).length) * 8 ≤ 140737488355328 then
 nx ((q ++ ([(IntKind.i64.wrap (192 + u))] : List Int)), band .u64 p (IntKind.u64.wrap (p - 1)))
 else none
noncomputable def Q19.l3  (p : List Int) (q : Int) : Option (((List Int)) ⊕ ((List Int))) := iter (fun t_ : (List Int) × Int => Q19.l3b  t_.1 t_.2) (p, q)
noncomputable def Q19.l2b  (q : List Int) (p : Int) : Option (((List Int) × Int) ⊕ (((List Int)) ⊕ ((List Int)))) :=
 if p = 0 then
 dn (.inl q)
 else
 (Q33.f p).bind fun u =>
 if (q.length + ([(IntKind.i64.wrap (128 + u))] : List Int).length) * 8 ≤ 140737488355328 then
 nx ((q ++ ([(IntKind.i64.wrap (128 + u))] : List Int)), band .u64 p (IntKind.u64.wrap (p - 1)))
 else none
noncomputable def Q19.l2  (p : List Int) (q : Int) : Option (((List Int)) ⊕ ((List Int))) := iter (fun t_ : (List Int) × Int => Q19.l2b  t_.1 t_.2) (p, q)
noncomputable def Q19.l1b  (q : List Int) (p : Int) : Option (((List Int) × Int) ⊕ (((List Int)) ⊕ ((List Int)))) :=
 if p = 0 then
 dn (.inl q)
 else
 (Q33.f p).bind fun u =>
 if (q.length + ([(IntKind.i64.wrap (64 + u))] : List Int).length) * 8 ≤ 140737488355328 then
 nx ((q ++ ([(IntKind.i64.wrap (64 + u))] : List Int)), band .u64 p (IntKind.u64.wrap (p - 1)))
 else none
noncomputable def Q19.l1  (p : List Int) (q : Int) : Option (((List Int)) ⊕ ((List Int))) := iter (fun t_ : (List Int) × Int => Q19.l1b  t_.1 t_.2) (p, q)
noncomputable def Q19.l0b  (q : List Int) (p : Int) : Option (((List Int) × Int) ⊕ (((List Int)) ⊕ ((List Int)))) :=
 if p = 0 then
 dn (.inl q)
 else
 (Q33.f p).bind fun u =>
 if (q.length + ([(IntKind.i64.wrap (0 + u))] : List Int).length) * 8 ≤ 140737488355328 then
 nx ((q ++ ([(IntKind.i64.wrap (0 + u))] : List Int)), band .u64 p (IntKind.u64.wrap (p - 1)))
 else none
noncomputable def Q19.l0  (p : List Int) (q : Int) : Option (((List Int)) ⊕ ((List Int))) := iter (fun t_ : (List Int) × Int => Q19.l0b  t_.1 t_.2) (p, q)
noncomputable def Q19.f (p q u D : Int) : Option (List Int) :=
 (Q125.f p q u D).bind fun G =>
 if (0 : Int) ≤ G ∧ (8 : Int) * G ≤ 281474976710656 then
 jn (Q19.l0  ([] : List Int) p) (fun (I : List Int) =>
 jn (Q19.l1  I q) (fun (J : List Int) =>
 jn (Q19.l2  J u) (fun (L : List Int) =>
 jn (Q19.l3  L D) (fun (M : List Int) =>
 some M))))
 else none
theorem Q19.callee : Callee Tryz.prog 15 := ⟨_, Tryz.func15, by kernel_rfl, by kernel_rfl⟩
theorem Q19.spec {p q u D : Int} (hg0 : RdS (Fl.int .u8).rep R.heap (some ⟨0, 0, none⟩) Tryz.gtab0) {r : (List Int)} (j : Q19.f p q u D = some r) :
 Spec Tryz.prog 15 [.agg #[.int .u64 p, .int .u64 q, .int .u64 u, .int .u64 D]] R (Fr) (fun v l' => ∃ (Z : Nat) (c9 : Option Addr) (d0 : Nat), v = .slice c9 Z d0 ∧ row (Fl.int .i64) 3 c9 Z d0 r :: Fr = l' ∧ r.length = Z) := by
 refine Spec.of Tryz.func15 rfl rfl ?_; unfold Q19.f at j; have j := brun j; refine At.seq (At.region ?_); refine At.box rfl rfl (cs := [.int .u64 p, .int .u64 q, .int .u64 u, .int .u64 D]) rfl rfl (fun d7 => ?_); refine At.run 1 rfl (nT (At.seq (At.region (At.y (Y.load rfl rfl .z rfl rfl rfl) rfl rfl rfl ?_)))); obtain ⟨o7, d8, j⟩ := bbind j; refine At.call rfl Q125.callee rfl rfl rfl (Q125.spec d8) ?_; rintro _ _ ⟨rfl, rfl⟩; obtain ⟨d1, j⟩ := bnone j; refine At.make0 (Fl.int .i64) rfl rfl rfl rfl rfl rfl rfl rfl rfl d1.1 d1.2 (by decide) rfl (fun d9 e1 => ?_); refine At.run 1 rfl (nT (At.seq (At.seq (At.region (At.y (Y.load rfl rfl (.s .z) rfl rfl rfl) rfl rfl rfl (At.run 1 rfl ?_)))))); refine nT ?_; refine At.block ?_; refine At.rounds 5 ?_; refine At.round ?_; refine sR 1 rfl (nT (At.seq ?_)); refine At.condT rfl rfl ?_; refine At.skip (At.thn (At.seq ?_)); refine At.block ?_; refine sR 1 rfl ?_; refine At.y (Y.ixA rfl rfl rfl rfl rfl (show (0 : Int) ≤ 0 ∧ (0 : Int) < 4 by decide).1 (show (0 : Int) ≤ 0 ∧ (0 : Int) < 4 by decide).2 rfl) rfl rfl rfl ?_; refine At.run 2 rfl (nT ?_); refine At.block ?_; obtain ⟨e2, e3, o8, j⟩ := bjoin j; obtain ⟨d2, a0, e4⟩ := bsome j; clear j; unfold Q19.l0 at a0; obtain ⟨a1, M⟩ := Q18.1 a0; clear a0; let T1 : HProp := pc d7 [.int .u64 p, .int .u64 q, .int .u64 u, .int .u64 D] 35; refine At.loopJ (X := (List Int) × Int × Nat × (Option Addr) × Nat) (Y := (List Int) × Nat × (Option Addr) × Nat) (e0 := 2) (fun s_ => [(3, .slice s_.2.2.2.1 s_.2.2.1 s_.2.2.2.2), (4, i6 0), (5, .int .u64 s_.2.1), (9, .agg #[.int .u64 p, .int .u64 q, .int .u64 u, .int .u64 D]), (10, i6 0)]) (fun s_ => row (Fl.int .i64) 3 s_.2.2.2.1 s_.2.2.1 s_.2.2.2.2 s_.1 :: T1 :: Fr) (fun m_ => fun s_ => iterN (fun t_ : (List Int) × Int => Q19.l0b  t_.1 t_.2) m_ (s_.1, s_.2.1) = some d2 ∧ s_.1.length = s_.2.2.1) a1 (([] : List Int), p, ([] : List Int).length, d9, e1) ⟨M, rfl⟩ (fun s_ => [(3, .slice s_.2.2.1 s_.2.1 s_.2.2.2), (9, .agg #[.int .u64 p, .int .u64 q, .int .u64 u, .int .u64 D]), (10, i6 0)]) (fun s_ => row (Fl.int .i64) 3 s_.2.2.1 s_.2.1 s_.2.2.2 s_.1 :: T1 :: Fr) (fun s_ => e2 (.inl s_.1) = some r ∧ s_.1.length = s_.2.1) (fun a w e hs => ⟨e.sub ⟨rfl, rfl, rfl, rfl, rfl, trivial⟩, (by exact hs)⟩) ?_ (fun e5 => ?_)
 ·rintro ⟨a2, e6, e7, e8⟩ ⟨j, e9⟩; obtain rfl : a2.length = e6 := e9; have j := (e3 _).symm.trans j
  ·refine At.ibx ?_; refine At.ibn ?_; refine At.thn (At.region (At.run 2 rfl (nT ?_))); refine At.round ?_; refine sR 1 rfl (nT (At.seq ?_)); refine At.condT rfl rfl ?_; refine At.skip (At.thn (At.seq ?_)); refine At.block ?_; refine sR 1 rfl ?_; refine At.y (Y.ixA rfl rfl rfl rfl rfl (show (0 : Int) ≤ 1 ∧ (1 : Int) < 4 by decide).1 (show (0 : Int) ≤ 1 ∧ (1 : Int) < 4 by decide).2 rfl) rfl rfl rfl ?_; refine At.run 2 rfl (nT ?_); refine At.block ?_; obtain ⟨f0, f1, o9, j⟩ := bjoin j; obtain ⟨d3, a3, f2⟩ := bsome j; clear j; unfold Q19.l1 at a3; obtain ⟨a4, O⟩ := Q18.1 a3; clear a3; refine At.loopJ (X := (List Int) × Int × Nat × (Option Addr) × Nat) (Y := (List Int) × Nat × (Option Addr) × Nat) (e0 := 2) (fun s_ => [(3, .slice s_.2.2.2.1 s_.2.2.1 s_.2.2.2.2), (4, i6 1), (5, .int .u64 s_.2.1), (9, .agg #[.int .u64 p, .int .u64 q, .int .u64 u, .int .u64 D]), (10, i6 1)]) (fun s_ => row (Fl.int .i64) 3 s_.2.2.2.1 s_.2.2.1 s_.2.2.2.2 s_.1 :: T1 :: Fr) (fun m_ => fun s_ => iterN (fun t_ : (List Int) × Int => Q19.l1b  t_.1 t_.2) m_ (s_.1, s_.2.1) = some d3 ∧ s_.1.length = s_.2.2.1) a4 (a2, q, a2.length, e7, e8) ⟨O, rfl⟩ (fun s_ => [(3, .slice s_.2.2.1 s_.2.1 s_.2.2.2), (9, .agg #[.int .u64 p, .int .u64 q, .int .u64 u, .int .u64 D]), (10, i6 1)]) (fun s_ => row (Fl.int .i64) 3 s_.2.2.1 s_.2.1 s_.2.2.2 s_.1 :: T1 :: Fr) (fun s_ => f0 (.inl s_.1) = some r ∧ s_.1.length = s_.2.1) (fun a w e hs => ⟨e.sub ⟨rfl, rfl, rfl, rfl, rfl, trivial⟩, (by exact hs)⟩) ?_ (fun f3 => ?_)
   ·rintro ⟨a5, f4, f5, f6⟩ ⟨j, f7⟩; obtain rfl : a5.length = f4 := f7; have j := (f1 _).symm.trans j
    ·refine At.ibx ?_; refine At.ibn ?_; refine At.thn (At.region (At.run 2 rfl (nT ?_))); refine At.round ?_; refine sR 1 rfl (nT (At.seq ?_)); refine At.condT rfl rfl ?_; refine At.skip (At.thn (At.seq ?_)); refine At.block ?_; refine sR 1 rfl ?_; refine At.y (Y.ixA rfl rfl rfl rfl rfl (show (0 : Int) ≤ 2 ∧ (2 : Int) < 4 by decide).1 (show (0 : Int) ≤ 2 ∧ (2 : Int) < 4 by decide).2 rfl) rfl rfl rfl ?_; refine At.run 2 rfl (nT ?_); refine At.block ?_; obtain ⟨f8, f9, p0, j⟩ := bjoin j; obtain ⟨d4, a6, g0⟩ := bsome j; clear j; unfold Q19.l2 at a6; obtain ⟨a7, U⟩ := Q18.1 a6; clear a6; refine At.loopJ (X := (List Int) × Int × Nat × (Option Addr) × Nat) (Y := (List Int) × Nat × (Option Addr) × Nat) (e0 := 2) (fun s_ => [(3, .slice s_.2.2.2.1 s_.2.2.1 s_.2.2.2.2), (4, i6 2), (5, .int .u64 s_.2.1), (9, .agg #[.int .u64 p, .int .u64 q, .int .u64 u, .int .u64 D]), (10, i6 2)]) (fun s_ => row (Fl.int .i64) 3 s_.2.2.2.1 s_.2.2.1 s_.2.2.2.2 s_.1 :: T1 :: Fr) (fun m_ => fun s_ => iterN (fun t_ : (List Int) × Int => Q19.l2b  t_.1 t_.2) m_ (s_.1, s_.2.1) = some d4 ∧ s_.1.length = s_.2.2.1) a7 (a5, u, a5.length, f5, f6) ⟨U, rfl⟩ (fun s_ => [(3, .slice s_.2.2.1 s_.2.1 s_.2.2.2), (9, .agg #[.int .u64 p, .int .u64 q, .int .u64 u, .int .u64 D]), (10, i6 2)]) (fun s_ => row (Fl.int .i64) 3 s_.2.2.1 s_.2.1 s_.2.2.2 s_.1 :: T1 :: Fr) (fun s_ => f8 (.inl s_.1) = some r ∧ s_.1.length = s_.2.1) (fun a w e hs => ⟨e.sub ⟨rfl, rfl, rfl, rfl, rfl, trivial⟩, (by exact hs)⟩) ?_ (fun g1 => ?_)
     ·rintro ⟨a8, g2, g3, g4⟩ ⟨j, g5⟩; obtain rfl : a8.length = g2 := g5; have j := (f9 _).symm.trans j
      ·refine At.ibx ?_; refine At.ibn ?_; refine At.thn (At.region (At.run 2 rfl (nT ?_))); refine At.round ?_; refine sR 1 rfl (nT (At.seq ?_)); refine At.condT rfl rfl ?_; refine At.skip (At.thn (At.seq ?_)); refine At.block ?_; refine sR 1 rfl ?_; refine At.y (Y.ixA rfl rfl rfl rfl rfl (show (0 : Int) ≤ 3 ∧ (3 : Int) < 4 by decide).1 (show (0 : Int) ≤ 3 ∧ (3 : Int) < 4 by decide).2 rfl) rfl rfl rfl ?_; refine At.run 2 rfl (nT ?_); refine At.block ?_; obtain ⟨g6, g7, p1, j⟩ := bjoin j; obtain ⟨d5, a9, g8⟩ := bsome j; clear j; unfold Q19.l3 at a9; obtain ⟨b2, V⟩ := Q18.1 a9; clear a9; refine At.loopJ (X := (List Int) × Int × Nat × (Option Addr) × Nat) (Y := (List Int) × Nat × (Option Addr) × Nat) (e0 := 2) (fun s_ => [(3, .slice s_.2.2.2.1 s_.2.2.1 s_.2.2.2.2), (4, i6 3), (5, .int .u64 s_.2.1), (9, .agg #[.int .u64 p, .int .u64 q, .int .u64 u, .int .u64 D]), (10, i6 3)]) (fun s_ => row (Fl.int .i64) 3 s_.2.2.2.1 s_.2.2.1 s_.2.2.2.2 s_.1 :: T1 :: Fr) (fun m_ => fun s_ => iterN (fun t_ : (List Int) × Int => Q19.l3b  t_.1 t_.2) m_ (s_.1, s_.2.1) = some d5 ∧ s_.1.length = s_.2.2.1) b2 (a8, D, a8.length, g3, g4) ⟨V, rfl⟩ (fun s_ => [(3, .slice s_.2.2.1 s_.2.1 s_.2.2.2), (9, .agg #[.int .u64 p, .int .u64 q, .int .u64 u, .int .u64 D]), (10, i6 3)]) (fun s_ => row (Fl.int .i64) 3 s_.2.2.1 s_.2.1 s_.2.2.2 s_.1 :: T1 :: Fr) (fun s_ => g6 (.inl s_.1) = some r ∧ s_.1.length = s_.2.1) (fun a w e hs => ⟨e.sub ⟨rfl, rfl, rfl, rfl, rfl, trivial⟩, (by exact hs)⟩) ?_ (fun g9 => ?_)
       ·rintro ⟨d6, h0, h1, h2⟩ ⟨j, h3⟩; obtain rfl : d6.length = h0 := h3; have j := (g7 _).symm.trans j
        ·refine At.ibx ?_; refine At.ibn ?_; refine At.thn (At.region (At.run 2 rfl (nT ?_))); refine At.round ?_; refine sR 1 rfl (nT (At.seq ?_)); refine At.condF rfl rfl ?_; refine At.exit ?_; refine At.the ?_; refine At.the ?_; refine At.ibx ?_; refine At.thn (sR 2 rfl (nT (At.ret (At.drop (.s .z) ?_)))); cases bret j; exact At.res (.inl rfl) rfl rfl ⟨d6.length, h1, h2, rfl, rfl, rfl⟩
       ·clear V b2; rintro b2 ⟨G, b3, h4, h5, h6⟩ ⟨V, h7⟩; obtain rfl : G.length = h4 := h7; obtain ⟨h8, f_, h9, hf_, j⟩ := bit V; clear V; have j : (Q19.l3b  G b3).bind _ = some d5 := j; unfold Q19.l3b at j
        ·refine At.seq (sR 2 rfl (nT ?_)); rcases bite j with ⟨b4, j⟩ | ⟨b4, j⟩
         ··refine At.condF rfl (nf (decide_eq_true b4)) ?_
           refine At.exit ?_; refine At.the ?_; refine At.the ?_; exact fun a w e hs => g9 (G, G.length, h5, h6) ⟨(bdn j g8), rfl⟩ a w (e.sub ⟨rfl, rfl, rfl, trivial⟩) hs
         ··refine At.condT rfl (nt (decide_eq_false b4)) ?_
           refine At.skip (At.thn (At.seq ?_)); refine At.block ?_; refine At.region (At.run 4 rfl ?_); obtain ⟨b5, k0, j⟩ := bbind j; refine At.call rfl Q33.callee rfl rfl rfl (Q33.spec hg0 k0) ?_; rintro _ _ ⟨rfl, rfl⟩; refine At.run 1 rfl ?_; refine At.lit rfl (xo := [.tmp 25]) (ys := ([(IntKind.i64.wrap (192 + b5))] : List Int)) (Fl.int .i64) rfl rfl rfl rfl rfl rfl rfl rfl rfl rfl rfl (fun p2 p3 => ?_); obtain ⟨k1, j⟩ := bnone j; refine At.append rfl (.s .z) (Src.own .z (by simp)) rfl rfl rfl rfl rfl rfl rfl rfl k1 (by decide) rfl (fun k2 k3 => ?_); refine At.drop (.s .z) (At.run 1 rfl (At.nil ?_)); refine At.ibn ?_; refine At.thn (At.region (At.run 5 rfl (At.nil ?_))); have j := bnx hf_ j; exact fun a w e hs => ⟨h8, ((G ++ ([(IntKind.i64.wrap (192 + b5))] : List Int)), band .u64 b3 (IntKind.u64.wrap (b3 - 1)), (G ++ ([(IntKind.i64.wrap (192 + b5))] : List Int)).length, k2, k3), h9, ⟨j, rfl⟩, e.sub ⟨rfl, rfl, rfl, rfl, rfl, trivial⟩, hs⟩
     ·clear U a7; rintro a7 ⟨I, b6, k4, k5, k6⟩ ⟨U, k7⟩; obtain rfl : I.length = k4 := k7; obtain ⟨k8, f_, k9, hf_, j⟩ := bit U; clear U; have j : (Q19.l2b  I b6).bind _ = some d4 := j; unfold Q19.l2b at j
      ·refine At.seq (sR 2 rfl (nT ?_)); rcases bite j with ⟨b7, j⟩ | ⟨b7, j⟩
       ··refine At.condF rfl (nf (decide_eq_true b7)) ?_
         refine At.exit ?_; refine At.the ?_; refine At.the ?_; exact fun a w e hs => g1 (I, I.length, k5, k6) ⟨(bdn j g0), rfl⟩ a w (e.sub ⟨rfl, rfl, rfl, trivial⟩) hs
       ··refine At.condT rfl (nt (decide_eq_false b7)) ?_
         refine At.skip (At.thn (At.seq ?_)); refine At.block ?_; refine At.region (At.run 4 rfl ?_); obtain ⟨b8, l5, j⟩ := bbind j; refine At.call rfl Q33.callee rfl rfl rfl (Q33.spec hg0 l5) ?_; rintro _ _ ⟨rfl, rfl⟩; refine At.run 1 rfl ?_; refine At.lit rfl (xo := [.tmp 25]) (ys := ([(IntKind.i64.wrap (128 + b8))] : List Int)) (Fl.int .i64) rfl rfl rfl rfl rfl rfl rfl rfl rfl rfl rfl (fun p4 p5 => ?_); obtain ⟨l6, j⟩ := bnone j; refine At.append rfl (.s .z) (Src.own .z (by simp)) rfl rfl rfl rfl rfl rfl rfl rfl l6 (by decide) rfl (fun l7 l8 => ?_); refine At.drop (.s .z) (At.run 1 rfl (At.nil ?_)); refine At.ibn ?_; refine At.thn (At.region (At.run 5 rfl (At.nil ?_))); have j := bnx hf_ j; exact fun a w e hs => ⟨k8, ((I ++ ([(IntKind.i64.wrap (128 + b8))] : List Int)), band .u64 b6 (IntKind.u64.wrap (b6 - 1)), (I ++ ([(IntKind.i64.wrap (128 + b8))] : List Int)).length, l7, l8), k9, ⟨j, rfl⟩, e.sub ⟨rfl, rfl, rfl, rfl, rfl, trivial⟩, hs⟩
   ·clear O a4; rintro a4 ⟨J, b9, l9, m0, m1⟩ ⟨O, m2⟩; obtain rfl : J.length = l9 := m2; obtain ⟨m3, f_, m4, hf_, j⟩ := bit O; clear O; have j : (Q19.l1b  J b9).bind _ = some d3 := j; unfold Q19.l1b at j
    ·refine At.seq (sR 2 rfl (nT ?_)); rcases bite j with ⟨c4, j⟩ | ⟨c4, j⟩
     ··refine At.condF rfl (nf (decide_eq_true c4)) ?_
       refine At.exit ?_; refine At.the ?_; refine At.the ?_; exact fun a w e hs => f3 (J, J.length, m0, m1) ⟨(bdn j f2), rfl⟩ a w (e.sub ⟨rfl, rfl, rfl, trivial⟩) hs
     ··refine At.condT rfl (nt (decide_eq_false c4)) ?_
       refine At.skip (At.thn (At.seq ?_)); refine At.block ?_; refine At.region (At.run 4 rfl ?_); obtain ⟨c5, m5, j⟩ := bbind j; refine At.call rfl Q33.callee rfl rfl rfl (Q33.spec hg0 m5) ?_; rintro _ _ ⟨rfl, rfl⟩; refine At.run 1 rfl ?_; refine At.lit rfl (xo := [.tmp 25]) (ys := ([(IntKind.i64.wrap (64 + c5))] : List Int)) (Fl.int .i64) rfl rfl rfl rfl rfl rfl rfl rfl rfl rfl rfl (fun p6 p7 => ?_); obtain ⟨m6, j⟩ := bnone j; refine At.append rfl (.s .z) (Src.own .z (by simp)) rfl rfl rfl rfl rfl rfl rfl rfl m6 (by decide) rfl (fun m7 m8 => ?_); refine At.drop (.s .z) (At.run 1 rfl (At.nil ?_)); refine At.ibn ?_; refine At.thn (At.region (At.run 5 rfl (At.nil ?_))); have j := bnx hf_ j; exact fun a w e hs => ⟨m3, ((J ++ ([(IntKind.i64.wrap (64 + c5))] : List Int)), band .u64 b9 (IntKind.u64.wrap (b9 - 1)), (J ++ ([(IntKind.i64.wrap (64 + c5))] : List Int)).length, m7, m8), m4, ⟨j, rfl⟩, e.sub ⟨rfl, rfl, rfl, rfl, rfl, trivial⟩, hs⟩
 ·clear M a1; rintro a1 ⟨L, c6, m9, n2, n3⟩ ⟨M, n4⟩; obtain rfl : L.length = m9 := n4; obtain ⟨n5, f_, n6, hf_, j⟩ := bit M; clear M; have j : (Q19.l0b  L c6).bind _ = some d2 := j; unfold Q19.l0b at j
  ·refine At.seq (sR 2 rfl (nT ?_)); rcases bite j with ⟨c7, j⟩ | ⟨c7, j⟩
   ··refine At.condF rfl (nf (decide_eq_true c7)) ?_
     refine At.exit ?_; refine At.the ?_; refine At.the ?_; exact fun a w e hs => e5 (L, L.length, n2, n3) ⟨(bdn j e4), rfl⟩ a w (e.sub ⟨rfl, rfl, rfl, trivial⟩) hs
   ··refine At.condT rfl (nt (decide_eq_false c7)) ?_
     refine At.skip (At.thn (At.seq ?_)); refine At.block ?_; refine At.region (At.run 4 rfl ?_); obtain ⟨c8, n7, j⟩ := bbind j; refine At.call rfl Q33.callee rfl rfl rfl (Q33.spec hg0 n7) ?_; rintro _ _ ⟨rfl, rfl⟩; refine At.run 1 rfl ?_; refine At.lit rfl (xo := [.tmp 25]) (ys := ([(IntKind.i64.wrap (0 + c8))] : List Int)) (Fl.int .i64) rfl rfl rfl rfl rfl rfl rfl rfl rfl rfl rfl (fun p8 p9 => ?_); obtain ⟨n8, j⟩ := bnone j; refine At.append rfl (.s .z) (Src.own .z (by simp)) rfl rfl rfl rfl rfl rfl rfl rfl n8 (by decide) rfl (fun n9 o0 => ?_); refine At.drop (.s .z) (At.run 1 rfl (At.nil ?_)); refine At.ibn ?_; refine At.thn (At.region (At.run 5 rfl (At.nil ?_))); have j := bnx hf_ j; exact fun a w e hs => ⟨n5, ((L ++ ([(IntKind.i64.wrap (0 + c8))] : List Int)), band .u64 c6 (IntKind.u64.wrap (c6 - 1)), (L ++ ([(IntKind.i64.wrap (0 + c8))] : List Int)).length, n9, o0), n6, ⟨j, rfl⟩, e.sub ⟨rfl, rfl, rfl, rfl, rfl, trivial⟩, hs⟩

noncomputable def Q129.f (q u D G I J L M : Int) : Option Bool :=
 (Q95.f q u D G I J L M).bind fun p =>
 some (decide (p.1 = 0) && (decide (p.2.1 = 0) && (decide (p.2.2.1 = 0) && (decide (p.2.2.2 = 0) && true))))
theorem Q129.callee : Callee Tryz.prog 16 := ⟨_, Tryz.func16, by kernel_rfl, by kernel_rfl⟩
theorem Q129.spec {q u D G I J L M : Int} {r : Bool} (j : Q129.f q u D G I J L M = some r) :
 Spec Tryz.prog 16 [.agg #[.int .u64 q, .int .u64 u, .int .u64 D, .int .u64 G], .agg #[.int .u64 I, .int .u64 J, .int .u64 L, .int .u64 M]] R (Fr) (fun v l' => v = .bool r ∧ Fr = l') := by
 refine Spec.of Tryz.func16 rfl rfl ?_; unfold Q129.f at j; have j := brun j; refine At.seq (At.region ?_); refine At.box rfl rfl (cs := [.int .u64 q, .int .u64 u, .int .u64 D, .int .u64 G]) rfl rfl (fun U => ?_); refine At.box rfl rfl (cs := [.int .u64 I, .int .u64 J, .int .u64 L, .int .u64 M]) rfl rfl (fun V => ?_); refine At.run 1 rfl (nT (At.seq (At.region (At.y (Y.load rfl rfl (.s .z) rfl rfl rfl) rfl rfl rfl (At.y (Y.load rfl rfl .z rfl rfl rfl) rfl rfl rfl ?_))))); obtain ⟨p, O, j⟩ := bbind j; refine At.call rfl Q95.callee rfl rfl rfl (Q95.spec O) ?_; rintro _ _ ⟨rfl, rfl⟩; refine At.y (Y.buildA (is := []) (xo := []) (vs := []) (cs := [.int .u64 0, .int .u64 0, .int .u64 0, .int .u64 0]) rfl rfl rfl rfl rfl rfl) rfl rfl rfl ?_; refine At.y (Y.eqAr (xs := [.int .u64 p.1, .int .u64 p.2.1, .int .u64 p.2.2.1, .int .u64 p.2.2.2]) (ys := [.int .u64 0, .int .u64 0, .int .u64 0, .int .u64 0]) rfl rfl rfl rfl rfl rfl rfl (by kernel_rfl) rfl) rfl rfl rfl ?_; refine At.run 1 rfl (nT (At.ret (At.drop .z (At.drop .z ?_)))); cases bret j; exact At.res (.inl rfl) rfl rfl ⟨rfl, rfl⟩

noncomputable def Q119.f (p q u D a1 : Int) : Option Bool :=
 jn (
 if 0 ≤ a1 then
 some (.inl (decide (a1 < 256)))
 else
 some (.inl false)) (fun (G : Bool) =>
 jn (
 if G = true then
 if (0 : Int) ≤ (Bw.shr .i64 a1 6) ∧ (Bw.shr .i64 a1 6) < (4 : Int) then
 if (Bw.shr .i64 a1 6) = 0 then
 if (0 : Int) ≤ IntKind.u64.wrap (band .i64 a1 63) then
 some (.inl (decide (band .u64 (Bw.shr .u64 p (IntKind.u64.wrap (band .i64 a1 63))) 1 = 1)))
 else none
 else
 if (Bw.shr .i64 a1 6) = 1 then
 if (0 : Int) ≤ IntKind.u64.wrap (band .i64 a1 63) then
 some (.inl (decide (band .u64 (Bw.shr .u64 q (IntKind.u64.wrap (band .i64 a1 63))) 1 = 1)))
 else none
 else
 if (Bw.shr .i64 a1 6) = 2 then
 if (0 : Int) ≤ IntKind.u64.wrap (band .i64 a1 63) then
 some (.inl (decide (band .u64 (Bw.shr .u64 u (IntKind.u64.wrap (band .i64 a1 63))) 1 = 1)))
 else none
 else
 if (0 : Int) ≤ IntKind.u64.wrap (band .i64 a1 63) then
 some (.inl (decide (band .u64 (Bw.shr .u64 D (IntKind.u64.wrap (band .i64 a1 63))) 1 = 1)))
 else none
 else none
 else
 some (.inl false)) (fun (I : Bool) =>
 some I))
theorem Q119.callee : Callee Tryz.prog 18 := ⟨_, Tryz.func18, by kernel_rfl, by kernel_rfl⟩
theorem Q119.spec {u D G I a1 : Int} {r : Bool} (j : Q119.f u D G I a1 = some r) :
 Spec Tryz.prog 18 [.agg #[.int .u64 u, .int .u64 D, .int .u64 G, .int .u64 I], i6 a1] R (Fr) (fun v l' => v = .bool r ∧ Fr = l') := by
 refine Spec.of Tryz.func18 rfl rfl ?_; unfold Q119.f at j; have j := brun j; refine At.seq (At.region ?_); refine At.box rfl rfl (cs := [.int .u64 u, .int .u64 D, .int .u64 G, .int .u64 I]) rfl rfl (fun V => ?_); refine At.run 1 rfl (nT (sR 3 rfl ?_)); obtain ⟨a4, a5, b5, j⟩ := bjoin j; let T2 : HProp := pc V [.int .u64 u, .int .u64 D, .int .u64 G, .int .u64 I] 35; refine At.joinO 3 (X := Bool) (fun J => [(1, i6 a1), (2, bp V), (10, .bool J)]) (fun J => T2 :: Fr) (fun J => a4 (.inl J) = some r) ?_ (fun Z => ?_)
 ·rintro J j; have j := (a5 _).symm.trans j
  ·refine At.run 1 rfl ?_; obtain ⟨a6, a7, b6, j⟩ := bjoin j; refine At.joinO 11 (X := Bool) (fun L => [(22, .bool L)]) (fun L => T2 :: Fr) (fun L => a6 (.inl L) = some r) ?_ (fun M => ?_)
   ·rintro L j; have j := (a7 _).symm.trans j
    ·refine At.run 1 rfl (nT (At.ret (At.drop .z ?_))); cases bret j; exact At.res (.inl rfl) rfl rfl ⟨rfl, rfl⟩
   ··rcases bite j with ⟨O, j⟩ | ⟨O, j⟩
     ··refine At.know (t := 11) rfl O ?_
       refine At.run 1 rfl (At.y (Y.shr rfl rfl (by decide)) rfl rfl rfl ?_); obtain ⟨p, j⟩ := bnone j; rcases bite j with ⟨a0, j⟩ | ⟨a0, j⟩
       ··refine At.y (Y.ixArrK rfl rfl rfl rfl rfl p.1 p.2 (q := 0) (off := 0) a0 rfl) rfl rfl rfl ?_
         refine At.y (Y.load rfl rfl .z rfl rfl rfl) rfl rfl rfl (At.run 3 rfl ?_); obtain ⟨a8, j⟩ := bnone j; refine At.y (Y.shr rfl rfl a8) rfl rfl rfl (At.run 3 rfl ?_); exact At.of (M (decide (band .u64 (Bw.shr .u64 u (IntKind.u64.wrap (band .i64 a1 63))) 1 = 1)) j) ⟨rfl, trivial⟩
       ··rcases bite j with ⟨a2, j⟩ | ⟨a2, j⟩
         ··refine At.y (Y.ixArrK rfl rfl rfl rfl rfl p.1 p.2 (q := 1) (off := 1) a2 rfl) rfl rfl rfl ?_
           refine At.y (Y.load rfl rfl .z rfl rfl rfl) rfl rfl rfl (At.run 3 rfl ?_); obtain ⟨a9, j⟩ := bnone j; refine At.y (Y.shr rfl rfl a9) rfl rfl rfl (At.run 3 rfl ?_); exact At.of (M (decide (band .u64 (Bw.shr .u64 D (IntKind.u64.wrap (band .i64 a1 63))) 1 = 1)) j) ⟨rfl, trivial⟩
         ··rcases bite j with ⟨a3, j⟩ | ⟨a3, j⟩
           ··refine At.y (Y.ixArrK rfl rfl rfl rfl rfl p.1 p.2 (q := 2) (off := 2) a3 rfl) rfl rfl rfl ?_
             refine At.y (Y.load rfl rfl .z rfl rfl rfl) rfl rfl rfl (At.run 3 rfl ?_); obtain ⟨b2, j⟩ := bnone j; refine At.y (Y.shr rfl rfl b2) rfl rfl rfl (At.run 3 rfl ?_); exact At.of (M (decide (band .u64 (Bw.shr .u64 G (IntKind.u64.wrap (band .i64 a1 63))) 1 = 1)) j) ⟨rfl, trivial⟩
           ··have b3 : (Bw.shr .i64 a1 6) = 3 := by have h1_ := p; omega
             refine At.y (Y.ixArrK rfl rfl rfl rfl rfl p.1 p.2 (q := 3) (off := 3) b3 rfl) rfl rfl rfl (At.y (Y.load rfl rfl .z rfl rfl rfl) rfl rfl rfl (At.run 3 rfl ?_)); obtain ⟨b4, j⟩ := bnone j; refine At.y (Y.shr rfl rfl b4) rfl rfl rfl (At.run 3 rfl ?_); exact At.of (M (decide (band .u64 (Bw.shr .u64 I (IntKind.u64.wrap (band .i64 a1 63))) 1 = 1)) j) ⟨rfl, trivial⟩
     ··refine At.know (t := 11) rfl (bn O) ?_
       refine At.run 11 rfl ?_; exact At.of (M false j) ⟨rfl, trivial⟩
 ··rcases bite j with ⟨U, j⟩ | ⟨U, j⟩
   ··refine At.know (t := 7) rfl (decide_eq_true U) ?_
     refine At.run 3 rfl ?_; exact At.of (Z (decide (a1 < 256)) j) ⟨rfl, rfl, rfl, trivial⟩
   ··refine At.know (t := 7) rfl (decide_eq_false U) ?_
     refine At.run 3 rfl ?_; exact At.of (Z false j) ⟨rfl, rfl, rfl, trivial⟩

end Go.Bw
namespace Go.Bw
open Go Go.RowKit Go.Proofs
variable {R : Res} {Fr : List HProp} {b0 b0_1 b0_2 : Nat}
noncomputable def Q123.f (q : Int) (u : List (Bs × Q2)) (p : List (Q7 × Q2)) (a1 : Int) (a2 : Bs) : Option (Int × Int × Int × Int) :=
 some (((mget p (⟨a1, a2⟩ : Q7)).getD (⟨(0 : Int), (0 : Int), (0 : Int), (0 : Int)⟩ : Q2)).c0, ((mget p (⟨a1, a2⟩ : Q7)).getD (⟨(0 : Int), (0 : Int), (0 : Int), (0 : Int)⟩ : Q2)).c1, ((mget p (⟨a1, a2⟩ : Q7)).getD (⟨(0 : Int), (0 : Int), (0 : Int), (0 : Int)⟩ : Q2)).c2, ((mget p (⟨a1, a2⟩ : Q7)).getD (⟨(0 : Int), (0 : Int), (0 : Int), (0 : Int)⟩ : Q2)).c3)
theorem Q123.callee : Callee Tryz.prog 17 := ⟨_, Tryz.func17, by kernel_rfl, by kernel_rfl⟩
theorem Q123.spec {p a1 : Int} {q : List (Bs × Q2)} {u : List (Q7 × Q2)} {a2 : Bs} {r : Int × Int × Int × Int} (j : Q123.f p q u a1 a2 = some r) :
 Spec Tryz.prog 17 [bp b0, i6 a1, .string ⟨(a2).toArray⟩] R (pc b0 [i6 p, .map (some b0_1), .map (some b0_2)] 82 :: mapo Fl.bs.ov Q2.fl.av b0_1 q :: mapo Q7.fl.av Q2.fl.av b0_2 u :: Fr) (fun v l' => v = .agg #[.int .u64 r.1, .int .u64 r.2.1, .int .u64 r.2.2.1, .int .u64 r.2.2.2] ∧ pc b0 [i6 p, .map (some b0_1), .map (some b0_2)] 82 :: mapo Fl.bs.ov Q2.fl.av b0_1 q :: mapo Q7.fl.av Q2.fl.av b0_2 u :: Fr = l') := by
 refine Spec.of Tryz.func17 rfl rfl ?_; unfold Q123.f at j; have j := brun j; refine At.seq (At.region ?_); refine At.alloc rfl rfl rfl (fun D => ?_); refine nT (sR 3 rfl (At.y (Y.load rfl rfl (.s .z) rfl rfl rfl) rfl rfl rfl (At.run 2 rfl ?_))); refine At.y (Y.build (is := [0, 1]) (xo := [.tmp 11, .tmp 12]) (vs := [i6 a1, .string ⟨(a2).toArray⟩]) (cs := [i6 a1, .string ⟨(a2).toArray⟩]) rfl rfl rfl rfl rfl rfl) rfl rfl rfl ?_; refine At.y (Y.lookup (k := (⟨a1, a2⟩ : Q7)) (z := (⟨(0 : Int), (0 : Int), (0 : Int), (0 : Int)⟩ : Q2)) (.s (.s (.s .z))) rfl rfl Q7.keyok (by kernel_rfl) rfl rfl rfl) rfl rfl rfl ?_; refine At.store rfl rfl rfl rfl .z rfl rfl rfl (.c (.c (.c (.c .n)))) ?_; refine nT (At.ret ?_); refine At.resM (.inl rfl) rfl (RV.cell rfl rfl .z rfl rfl rfl RV.nil) ?_; refine At.drop .z ?_; cases bret j; exact fun a w e hs => ⟨_, ⟨rfl, rfl⟩, hs⟩

noncomputable def Q15.l2b (u : List Q4) (a3 : Int) (I : List Q4) (p : Option Q11) (q : Int) : Option (((List Q4) × (Option Q11) × Int) ⊕ (((List Q4) × (Option Q11)) ⊕ (Bool))) :=
 if q < (u.length : Int) then
 if (0 : Int) ≤ q ∧ q < (u.length : Int) then
 (Q65.f ((p.getD default).states) ((p.getD default).holds) ((p.getD default).next) ((gt u q).Name)).bind fun D =>
 (Q45.f D.1 D.2.1 D.2.2.1 D.2.2.2 a3).bind fun G =>
 (Q19.f G.1 G.2.1 G.2.2.1 G.2.2.2).bind fun J =>
 if p.isNone = false then
 if (I.length + 1) * 40 ≤ 140737488355328 then
 nx ((I ++ [(⟨((gt u q).Name), J⟩ : Q4)]), (some (⟨((p.getD default).states), (p.getD default).holds, (p.getD default).next⟩ : Q11)), IntKind.i64.wrap (q + 1))
 else none
 else none
 else none
 else
 dn (.inl (I, p))
noncomputable def Q15.l2 (p : List Q4) (a3 : Int) (q : List Q4) (u : Option Q11) (D : Int) : Option (((List Q4) × (Option Q11)) ⊕ (Bool)) := iter (fun t_ : (List Q4) × (Option Q11) × Int => Q15.l2b p a3 t_.1 t_.2.1 t_.2.2) (q, u, D)
noncomputable def Q15.l4b (L : Int) (J : List Bs) (a2 a3 D q : Int) (G : List Q3) (p : Option Q11) (u : Int) : Option (((List Q3) × (Option Q11) × Int) ⊕ (((List Q3) × (Option Q11)) ⊕ (((List Q3) × (Option Q11) × Int) ⊕ (((List Q3) × (Option Q11)) ⊕ (((List Q3) × (Option Q11) × Int) ⊕ (((List Q3) × (Option Q11)) ⊕ (Bool))))))) :=
 if u < L then
 jn (
 jn (
 if (decide (D = a2) && (decide (q = 0) && (decide (u = a3) && true))) = true then
 some (.inl (p, true))
 else
 if (0 : Int) ≤ q ∧ q < (J.length : Int) then
 if p.isNone = false then
 (Q123.f ((p.getD default).states) ((p.getD default).holds) ((p.getD default).next) D (gt J q)).bind fun I =>
 (Q119.f I.1 I.2.1 I.2.2.1 I.2.2.2 u).bind fun M =>
 some (.inl ((some (⟨((p.getD default).states), (p.getD default).holds, (p.getD default).next⟩ : Q11)), M))
 else none
 else none) (fun (s_ : (Option Q11) × Bool) =>
 if s_.2 = true then
 if (G.length + ([(⟨D, q, u⟩ : Q3)] : List Q3).length) * 24 ≤ 140737488355328 then
 some (.inl ((G ++ ([(⟨D, q, u⟩ : Q3)] : List Q3)), s_.1))
 else none
 else
 some (.inl (G, s_.1)))) (fun (s_ : (List Q3) × (Option Q11)) =>
 nx (s_.1, s_.2, IntKind.i64.wrap (u + 1)))
 else
 dn (.inl (G, p))
noncomputable def Q15.l4 (p : Int) (q : List Bs) (a2 a3 u D : Int) (G : List Q3) (I : Option Q11) (J : Int) : Option (((List Q3) × (Option Q11)) ⊕ (((List Q3) × (Option Q11) × Int) ⊕ (((List Q3) × (Option Q11)) ⊕ (((List Q3) × (Option Q11) × Int) ⊕ (((List Q3) × (Option Q11)) ⊕ (Bool)))))) := iter (fun t_ : (List Q3) × (Option Q11) × Int => Q15.l4b p q a2 a3 u D t_.1 t_.2.1 t_.2.2) (G, I, J)
noncomputable def Q15.l3b (G : Int) (q : List Bs) (a2 a3 I : Int) (u : List Q3) (D : Option Q11) (p : Int) : Option (((List Q3) × (Option Q11) × Int) ⊕ (((List Q3) × (Option Q11)) ⊕ (((List Q3) × (Option Q11) × Int) ⊕ (((List Q3) × (Option Q11)) ⊕ (Bool))))) :=
 if p < (q.length : Int) then
 jn (Q15.l4 G q a2 a3 I p u D 0) (fun (s_ : (List Q3) × (Option Q11)) =>
 nx (s_.1, s_.2, IntKind.i64.wrap (p + 1)))
 else
 dn (.inl (u, D))
noncomputable def Q15.l3 (p : Int) (q : List Bs) (a2 a3 u : Int) (D : List Q3) (G : Option Q11) (I : Int) : Option (((List Q3) × (Option Q11)) ⊕ (((List Q3) × (Option Q11) × Int) ⊕ (((List Q3) × (Option Q11)) ⊕ (Bool)))) := iter (fun t_ : (List Q3) × (Option Q11) × Int => Q15.l3b p q a2 a3 u t_.1 t_.2.1 t_.2.2) (D, G, I)
noncomputable def Q15.l1b (q : Int) (G : List Bs) (a2 a3 : Int) (u : List Q3) (D : Option Q11) (p : Int) : Option (((List Q3) × (Option Q11) × Int) ⊕ (((List Q3) × (Option Q11)) ⊕ (Bool))) :=
 if p < q then
 jn (Q15.l3 q G a2 a3 p u D 0) (fun (s_ : (List Q3) × (Option Q11)) =>
 nx (s_.1, s_.2, IntKind.i64.wrap (p + 1)))
 else
 dn (.inl (u, D))
noncomputable def Q15.l1 (p : Int) (q : List Bs) (a2 a3 : Int) (u : List Q3) (D : Option Q11) (G : Int) : Option (((List Q3) × (Option Q11)) ⊕ (Bool)) := iter (fun t_ : (List Q3) × (Option Q11) × Int => Q15.l1b p q a2 a3 t_.1 t_.2.1 t_.2.2) (u, D, G)
noncomputable def Q15.l0b (a1 : List Q1) (p : Int) : Option ((Int) ⊕ ((Unit) ⊕ (Bool))) :=
 if p < (a1.length : Int) then
 if (0 : Int) ≤ p ∧ p < (a1.length : Int) then
 jn (
 if (gt a1 p).Kind = 5 then
 some (.inl true)
 else
 some (.inl (decide ((gt a1 p).Kind = 12)))) (fun (q : Bool) =>
 jn (
 if q = true then
 some (.inl true)
 else
 some (.inl (decide ((gt a1 p).Kind = 9)))) (fun (u : Bool) =>
 if u = true then
 upL (some true)
 else
 nx (IntKind.i64.wrap (p + 1))))
 else none
 else
 dn (.inl ())
noncomputable def Q15.l0 (a1 : List Q1) (p : Int) : Option ((Unit) ⊕ (Bool)) := iter (fun t_ : Int => Q15.l0b a1 t_) p
noncomputable def Q15.f (p : Int) (D : List Bs) (M : List Q3) (I : List Q4) (a1 : List Q1) (a2 a3 : Int) : Option Bool :=
 (Q74.f ).bind fun J =>
 (Q17.f p D M I).bind fun L =>
 jn (
 if J = true then
 some (.inl L.isNone)
 else
 some (.inl true)) (fun (O : Bool) =>
 jn (
 if O = true then
 some (.inl true)
 else
 some (.inl (decide ((D.length : Int) = 0)))) (fun (U : Bool) =>
 jn (
 if U = true then
 some (.inl true)
 else
 some (.inl (decide (a2 < 0)))) (fun (V : Bool) =>
 jn (
 if V = true then
 some (.inl true)
 else
 some (.inl (decide (a3 < 0)))) (fun (X : Bool) =>
 jn (
 if X = true then
 some (.inl true)
 else
 some (.inl (decide (p ≤ a2)))) (fun (Z : Bool) =>
 jn (
 if Z = true then
 some (.inl true)
 else
 some (.inl (decide (p ≤ a3)))) (fun (a0 : Bool) =>
 if a0 = true then
 some J
 else
 jn (Q15.l0 a1 0) (fun (_ : Unit) =>
 jn (Q15.l1 p D a2 a3 ([] : List Q3) L 0) (fun (s__ : (List Q3) × (Option Q11)) =>
 jn (Q15.l2 I a3 ([] : List Q4) s__.2 0) (fun (s_ : (List Q4) × (Option Q11)) =>
 (Q17.f p D s__.1 s_.1).bind fun G =>
 if G.isNone = true then
 some (decide (200 < (s__.1.length : Int)))
 else
 if s_.2.isNone = false then
 (Q70.f ((s_.2.getD default).states) ((s_.2.getD default).holds) ((s_.2.getD default).next) a1).bind fun q =>
 (Q70.f ((G.getD default).states) ((G.getD default).holds) ((G.getD default).next) a1).bind fun u =>
 jn (
 if q.1 = u.1 then
 (Q129.f q.2.1 q.2.2.1 q.2.2.2.1 q.2.2.2.2 u.2.1 u.2.2.1 u.2.2.2.1 u.2.2.2.2).bind fun a4 =>
 some (.inl a4)
 else
 some (.inl false)) (fun (a5 : Bool) =>
 some a5)
 else none)))))))))
theorem Q15.spec (R : Res) (Fr : List HProp) (A0_1 : Option Addr) (n0_1 : Nat) (c0_1 : Nat) (A0_2 : Option Addr) (n0_2 : Nat) (c0_2 : Nat) (A0_3 : Option Addr) (n0_3 : Nat) (c0_3 : Nat) (A1 : Option Addr) (n1 : Nat) (c1 : Nat) (u : Int) (D : List Bs) (c4 : List Q3) (G : List Q4) (a1 : List Q1) (a2 : Int) (a3 : Int) (hr0_1 : RdS Fl.bs.rep R.heap A0_1 D) (hn0_1 : D.length = n0_1) (hc0_1 : n0_1 ≤ c0_1) (hr0_2 : RdS Q3.fl.rep R.heap A0_2 c4) (hn0_2 : c4.length = n0_2) (hc0_2 : n0_2 ≤ c0_2) (hr0_3 : RdS Q4.rep R.heap A0_3 G) (hn0_3 : G.length = n0_3) (hc0_3 : n0_3 ≤ c0_3) (hr1 : RdS Q1.fl.rep R.heap A1 a1) (hn1 : a1.length = n1) (hc1 : n1 ≤ c1) (hg0 : RdS (Fl.int .u8).rep R.heap (some ⟨0, 0, none⟩) Tryz.gtab0) {r : Bool} (j : Q15.f u D c4 G a1 a2 a3 = some r) :
 Spec Tryz.prog 4 [.agg #[i6 u, .slice A0_1 n0_1 c0_1, .slice A0_2 n0_2 c0_2, .slice A0_3 n0_3 c0_3], .slice A1 n1 c1, i6 a2, i6 a3] R (Fr) (fun v l' => v = .bool r ∧ Fr = l') := by
 subst hn0_1; subst hn0_2; subst hn0_3; subst hn1; refine Spec.of Tryz.func4 rfl rfl ?_; unfold Q15.f at j; have j := brun j; refine At.seq (At.region ?_); refine At.box rfl rfl (cs := [i6 u, .slice A0_1 D.length c0_1, .slice A0_2 c4.length c0_2, .slice A0_3 G.length c0_3]) rfl rfl (fun J => ?_); refine At.run 1 rfl (nT (At.seq (At.region ?_))); obtain ⟨b7, r2, j⟩ := bbind j; refine At.call rfl Q74.callee rfl rfl rfl (Q74.spec r2) ?_; rintro _ _ ⟨rfl, rfl⟩; refine At.run 1 rfl (nT (At.seq (At.region (At.y (Y.load rfl rfl .z rfl rfl rfl) rfl rfl rfl ?_)))); obtain ⟨a5, r3, j⟩ := bbind j; refine At.call rfl Q17.callee rfl rfl rfl (Q17.spec hr0_1 rfl hc0_1 hr0_2 rfl hc0_2 hr0_3 rfl hc0_3 r3) ?_; rintro _ _ ⟨L, rfl, rfl⟩; refine At.run 1 rfl (nT (At.seq (sR 3 rfl ?_))); obtain ⟨r4, r5, G2, j⟩ := bjoin j; let T1 : HProp := pc J [i6 u, .slice A0_1 D.length c0_1, .slice A0_2 c4.length c0_2, .slice A0_3 G.length c0_3] 26; refine At.joinO 3 (X := Bool) (fun c5 => [(1, .slice A1 a1.length c1), (2, i6 a2), (3, i6 a3), (4, bp J), (9, .bool b7), (10, optp L), (32, .bool c5)]) (fun c5 => optb Q11.ow 82 L a5 :: T1 :: Fr) (fun c5 => r4 (.inl c5) = some r) ?_ (fun n4 => ?_)
 ·rintro c5 j; have j := (r5 _).symm.trans j
  ·refine At.run 1 rfl ?_; obtain ⟨r6, r7, G3, j⟩ := bjoin j; refine At.joinO 5 (X := Bool) (fun c6 => [(1, .slice A1 a1.length c1), (2, i6 a2), (3, i6 a3), (4, bp J), (9, .bool b7), (10, optp L), (38, .bool c6)]) (fun c6 => optb Q11.ow 82 L a5 :: T1 :: Fr) (fun c6 => r6 (.inl c6) = some r) ?_ (fun n5 => ?_)
   ·rintro c6 j; have j := (r7 _).symm.trans j
    ·refine At.run 1 rfl ?_; obtain ⟨r8, r9, G4, j⟩ := bjoin j; refine At.joinO 3 (X := Bool) (fun c7 => [(1, .slice A1 a1.length c1), (2, i6 a2), (3, i6 a3), (4, bp J), (9, .bool b7), (10, optp L), (42, .bool c7)]) (fun c7 => optb Q11.ow 82 L a5 :: T1 :: Fr) (fun c7 => r8 (.inl c7) = some r) ?_ (fun n6 => ?_)
     ·rintro c7 j; have j := (r9 _).symm.trans j
      ·refine At.run 1 rfl ?_; obtain ⟨s0, s1, G5, j⟩ := bjoin j; refine At.joinO 3 (X := Bool) (fun c8 => [(1, .slice A1 a1.length c1), (2, i6 a2), (3, i6 a3), (4, bp J), (9, .bool b7), (10, optp L), (46, .bool c8)]) (fun c8 => optb Q11.ow 82 L a5 :: T1 :: Fr) (fun c8 => s0 (.inl c8) = some r) ?_ (fun n7 => ?_)
       ·rintro c8 j; have j := (s1 _).symm.trans j
        ·refine At.run 1 rfl ?_; obtain ⟨s2, s3, G6, j⟩ := bjoin j; refine At.joinO 5 (X := Bool) (fun c9 => [(1, .slice A1 a1.length c1), (2, i6 a2), (3, i6 a3), (4, bp J), (9, .bool b7), (10, optp L), (52, .bool c9)]) (fun c9 => optb Q11.ow 82 L a5 :: T1 :: Fr) (fun c9 => s2 (.inl c9) = some r) ?_ (fun n8 => ?_)
         ·rintro c9 j; have j := (s3 _).symm.trans j
          ·refine At.run 1 rfl ?_; obtain ⟨s4, s5, G7, j⟩ := bjoin j; refine At.joinO 5 (X := Bool) (fun d0 => [(1, .slice A1 a1.length c1), (2, i6 a2), (3, i6 a3), (4, bp J), (9, .bool b7), (10, optp L), (58, .bool d0)]) (fun d0 => optb Q11.ow 82 L a5 :: T1 :: Fr) (fun d0 => s4 (.inl d0) = some r) ?_ (fun n9 => ?_)
           ·rintro d0 j; have j := (s5 _).symm.trans j
            ·refine nT ?_; rcases bite j with ⟨g4, j⟩ | ⟨g4, j⟩
             ··refine At.condT rfl g4 ?_
               refine sR 2 rfl (nT (At.ret (At.thr (At.drop .z ?_)))); refine At.drop .z ?_; cases bret j; exact At.res (.inl rfl) rfl rfl ⟨rfl, rfl⟩
             ··refine At.condF rfl (bn g4) ?_
               refine At.skip (At.thn (At.seq (sR 1 rfl (nT ?_)))); refine At.block ?_; obtain ⟨s6, s7, s8, j⟩ := bjoin j; obtain ⟨e4, g5, o0⟩ := bsome j; clear j; unfold Q15.l0 at g5; obtain ⟨g6, d1⟩ := Q18.1 g5; clear g5; refine At.loopJ (X := Int) (Y := Unit) (e0 := 0) (fun a7 => [(1, .slice A1 a1.length c1), (2, i6 a2), (3, i6 a3), (4, bp J), (10, optp L), (11, i6 a7)]) (fun a7 => optb Q11.ow 82 L a5 :: T1 :: Fr) (fun m_ => fun a7 => iterN (fun t_ : Int => Q15.l0b a1 t_) m_ a7 = some e4) g6 0 d1 (fun _ => [(1, .slice A1 a1.length c1), (2, i6 a2), (3, i6 a3), (4, bp J), (10, optp L)]) (fun _ => optb Q11.ow 82 L a5 :: T1 :: Fr) (fun _ => s6 (.inl ()) = some r) (fun a w e hs => ⟨e.sub ⟨rfl, rfl, rfl, rfl, rfl, rfl, trivial⟩, (by exact hs)⟩) ?_ (fun s9 => ?_)
               ·rintro _ j; have j := (s7 _).symm.trans j
                ·refine At.ibx ?_; refine At.thn (sR 1 rfl (At.y (Y.load rfl rfl (.s .z) rfl rfl rfl) rfl rfl rfl (At.run 1 rfl (At.y (Y.load rfl rfl (.s .z) rfl rfl rfl) rfl rfl rfl ?_)))); refine At.y (Y.build (is := [0, 1]) (xo := [.tmp 89, .tmp 91]) (vs := [i6 u, .slice A0_1 D.length c0_1]) (cs := [i6 u, .slice A0_1 D.length c0_1, .slice none 0 0, .slice none 0 0]) rfl rfl rfl rfl rfl rfl) rfl rfl rfl ?_; refine At.alloc rfl rfl rfl (fun I => ?_); refine At.store rfl rfl rfl rfl .z rfl rfl rfl (.c (.c (.c (.c .n)))) ?_; refine nT (sR 2 rfl ?_); refine At.y (Y.build (is := [0, 1, 2]) (xo := [.tmp 93, .const (i6 0), .tmp 94]) (vs := [i6 a2, i6 0, i6 a3]) (cs := [i6 a2, i6 0, i6 a3]) rfl rfl rfl rfl rfl rfl) rfl rfl rfl ?_; refine At.alloc rfl rfl rfl (fun b5 => ?_); refine At.store rfl rfl rfl rfl .z rfl rfl rfl (.c (.c (.c .n))) ?_; refine nT (At.seq (sR 1 rfl (nT ?_))); refine At.block ?_; obtain ⟨t0, t1, G8, j⟩ := bjoin j; obtain ⟨g7, g8, t3⟩ := bsome j; clear j; unfold Q15.l1 at g8; obtain ⟨g9, d2⟩ := Q18.1 g8; clear g8; refine At.nilRow Q3.fl 48 ?_; let T2 : HProp := pc b5 [i6 a2, i6 0, i6 a3] 48; refine At.loopJ (X := (List Q3) × (Option Q11) × Int × Nat × (Option Addr) × Nat × (Option Nat)) (Y := (List Q3) × (Option Q11) × Nat × (Option Addr) × Nat × (Option Nat)) (e0 := 2) (fun s_ => [(1, .slice A1 a1.length c1), (3, i6 a3), (4, bp J), (10, optp s_.2.2.2.2.2.2), (12, bp I), (13, bp b5), (14, i6 s_.2.2.1)]) (fun s_ => row Q3.fl 48 s_.2.2.2.2.1 s_.2.2.2.1 s_.2.2.2.2.2.1 s_.1 :: T2 :: pc I [i6 u, .slice A0_1 D.length c0_1, .slice s_.2.2.2.2.1 s_.2.2.2.1 s_.2.2.2.2.2.1, .slice none 0 0] 26 :: optb Q11.ow 82 s_.2.2.2.2.2.2 s_.2.1 :: T1 :: Fr) (fun m_ => fun s_ => iterN (fun t_ : (List Q3) × (Option Q11) × Int => Q15.l1b u D a2 a3 t_.1 t_.2.1 t_.2.2) m_ (s_.1, s_.2.1, s_.2.2.1) = some g7 ∧ s_.1.length = s_.2.2.2.1) g9 (([] : List Q3), a5, 0, 0, none, 0, L) ⟨d2, rfl⟩ (fun s_ => [(1, .slice A1 a1.length c1), (3, i6 a3), (4, bp J), (10, optp s_.2.2.2.2.2), (12, bp I)]) (fun s_ => row Q3.fl 48 s_.2.2.2.1 s_.2.2.1 s_.2.2.2.2.1 s_.1 :: T2 :: pc I [i6 u, .slice A0_1 D.length c0_1, .slice s_.2.2.2.1 s_.2.2.1 s_.2.2.2.2.1, .slice none 0 0] 26 :: optb Q11.ow 82 s_.2.2.2.2.2 s_.2.1 :: T1 :: Fr) (fun s_ => t0 (.inl (s_.1, s_.2.1)) = some r ∧ s_.1.length = s_.2.2.1) (fun a w e hs => ⟨e.sub ⟨rfl, rfl, rfl, rfl, rfl, rfl, rfl, trivial⟩, (by exact hs)⟩) ?_ (fun t4 => ?_)
                 ·rintro ⟨b6, t5, t6, d3, d4, t7⟩ ⟨j, t8⟩; obtain rfl : b6.length = t6 := t8; have j := (t1 _).symm.trans j
                  ·refine At.ibx ?_; refine At.thn (At.seq (sR 1 rfl (nT ?_))); refine At.block ?_; obtain ⟨t9, u0, G9, j⟩ := bjoin j; obtain ⟨o7, h0, u1⟩ := bsome j; clear j; unfold Q15.l2 at h0; obtain ⟨h1, d5⟩ := Q18.1 h0; clear h0; refine At.nilGrow Q4.ow 41 ?_; let T3 : HProp := row Q3.fl 48 d3 b6.length d4 b6; refine At.loopJ (X := (List Q4) × (Option Q11) × Int × Nat × (Option Addr) × Nat × (Option Nat)) (Y := (List Q4) × (Option Q11) × Nat × (Option Addr) × Nat × (Option Nat)) (e0 := 8) (fun s_ => [(1, .slice A1 a1.length c1), (3, i6 a3), (4, bp J), (10, optp s_.2.2.2.2.2.2), (12, bp I), (18, i6 s_.2.2.1)]) (fun s_ => grow Q4.ow 41 s_.2.2.2.2.1 s_.2.2.2.1 s_.2.2.2.2.2.1 s_.1 :: T3 :: T2 :: pc I [i6 u, .slice A0_1 D.length c0_1, .slice d3 b6.length d4, .slice s_.2.2.2.2.1 s_.2.2.2.1 s_.2.2.2.2.2.1] 26 :: optb Q11.ow 82 s_.2.2.2.2.2.2 s_.2.1 :: T1 :: Fr) (fun m_ => fun s_ => iterN (fun t_ : (List Q4) × (Option Q11) × Int => Q15.l2b G a3 t_.1 t_.2.1 t_.2.2) m_ (s_.1, s_.2.1, s_.2.2.1) = some o7 ∧ s_.1.length = s_.2.2.2.1) h1 (([] : List Q4), t5, 0, 0, none, 0, t7) ⟨d5, rfl⟩ (fun s_ => [(1, .slice A1 a1.length c1), (10, optp s_.2.2.2.2.2), (12, bp I)]) (fun s_ => grow Q4.ow 41 s_.2.2.2.1 s_.2.2.1 s_.2.2.2.2.1 s_.1 :: T3 :: T2 :: pc I [i6 u, .slice A0_1 D.length c0_1, .slice d3 b6.length d4, .slice s_.2.2.2.1 s_.2.2.1 s_.2.2.2.2.1] 26 :: optb Q11.ow 82 s_.2.2.2.2.2 s_.2.1 :: T1 :: Fr) (fun s_ => t9 (.inl (s_.1, s_.2.1)) = some r ∧ s_.1.length = s_.2.2.1) (fun a w e hs => ⟨e.sub ⟨rfl, rfl, rfl, rfl, rfl, rfl, trivial⟩, (by exact hs)⟩) ?_ (fun u2 => ?_)
                   ·rintro ⟨o8, a8, u3, u4, u5, H0⟩ ⟨j, u6⟩; obtain rfl : o8.length = u3 := u6; have j := (u0 _).symm.trans j
                    ·refine At.ibx ?_; refine At.thn (At.seq (At.region (At.y (Y.load rfl rfl (.s (.s (.s .z))) rfl rfl rfl) rfl rfl rfl ?_))); refine At.freeze (.s .z) fun H1 u7 u9 v0 h2 o9 => ?_; refine At.freezeGrow .z fun H2 v1 v2 v3 e5 p0 => ?_; obtain ⟨a9, v4, j⟩ := bbind j; refine At.call rfl Q17.callee rfl rfl rfl (Q17.spec (RdS.mono (h2.trans e5) hr0_1) rfl hc0_1 (RdS.mono e5 u7) u9 v0 v1 v2 v3 v4) ?_; rintro _ _ ⟨H3, rfl, rfl⟩; refine At.run 1 rfl (nT (At.seq (sR 1 rfl ?_))); refine At.y (Y.eqOpt .z rfl rfl rfl rfl) rfl rfl rfl ?_; refine nT ?_; rcases bite j with ⟨e6, j⟩ | ⟨e6, j⟩
                     ··refine At.condT rfl e6 ?_
                       refine sR 1 rfl (At.y (Y.load rfl rfl (.s (.s .z)) rfl rfl rfl) rfl rfl rfl (At.run 3 rfl (nT (At.ret ?_)))); refine At.thr ?_; refine At.thaw p0 ?_; refine At.thaw o9 ?_; refine At.drop .z (At.drop .z (At.drop .z (At.drop .z (At.drop .z (At.drop .z (At.drop .z ?_)))))); cases bret j; exact At.res (.inl rfl) rfl rfl ⟨rfl, rfl⟩
                     ··refine At.condF rfl (bn e6) ?_
                       refine At.skip (At.thn (sR 2 rfl ?_)); obtain ⟨v5, j⟩ := bnone j; refine At.optOpen (.s (.s (.s .z))) v5 (fun v6 v7 H4 => ?_); have v8 := j; subst v7; have j := v8; refine At.ownPair (T := Ow.fl (Fl.int .i64)) (U := ((Ow.mp Fl.bs.ov Q2.fl.av).pair (Ow.mp Q7.fl.av Q2.fl.av))) (x := ((a8.getD default).states, (a8.getD default).holds, (a8.getD default).next)) (.s .z) ?_; rintro H5 H6 rfl; refine At.ownFl (F := (Fl.int .i64)) (x := (a8.getD default).states) .z ?_; rintro rfl; refine At.ownPair (T := Ow.mp Fl.bs.ov Q2.fl.av) (U := (Ow.mp Q7.fl.av Q2.fl.av)) (x := ((a8.getD default).holds, (a8.getD default).next)) .z ?_; rintro H7 H8 rfl; refine At.ownMp (kv := Fl.bs.ov) (vv := Q2.fl.av) (kvs := (a8.getD default).holds) .z ?_; rintro p1 rfl; refine At.ownMp (kv := Q7.fl.av) (vv := Q2.fl.av) (kvs := (a8.getD default).next) (.s .z) ?_; rintro p2 rfl; refine At.f1 (At.f2 ?_); obtain ⟨e7, v9, j⟩ := bbind j; refine At.call rfl Q70.callee rfl rfl rfl (Q70.spec (RdS.mono (h2.trans e5) hr1) rfl hc1 v9) ?_; rintro _ _ ⟨rfl, rfl⟩; refine At.run 3 rfl ?_; refine At.alloc rfl rfl rfl (fun w0 => ?_); refine At.store rfl rfl rfl rfl .z rfl rfl rfl (.c (.c (.c (.c .n)))) ?_; refine At.run 1 rfl (nT (sR 2 rfl ?_)); refine At.optOpen (.s (.s (.s (.s .z)))) (bn e6) (fun w1 w2 H9 => ?_); have w3 := j; subst w2; have j := w3; refine At.ownPair (T := Ow.fl (Fl.int .i64)) (U := ((Ow.mp Fl.bs.ov Q2.fl.av).pair (Ow.mp Q7.fl.av Q2.fl.av))) (x := ((a9.getD default).states, (a9.getD default).holds, (a9.getD default).next)) (.s .z) ?_; rintro I0 I1 rfl; refine At.ownFl (F := (Fl.int .i64)) (x := (a9.getD default).states) .z ?_; rintro rfl; refine At.ownPair (T := Ow.mp Fl.bs.ov Q2.fl.av) (U := (Ow.mp Q7.fl.av Q2.fl.av)) (x := ((a9.getD default).holds, (a9.getD default).next)) .z ?_; rintro I2 I3 rfl; refine At.ownMp (kv := Fl.bs.ov) (vv := Q2.fl.av) (kvs := (a9.getD default).holds) .z ?_; rintro p3 rfl; refine At.ownMp (kv := Q7.fl.av) (vv := Q2.fl.av) (kvs := (a9.getD default).next) (.s .z) ?_; rintro p4 rfl; refine At.f1 (At.f2 ?_); obtain ⟨e8, w4, j⟩ := bbind j; refine At.call rfl Q70.callee rfl rfl rfl (Q70.spec (RdS.mono (h2.trans e5) hr1) rfl hc1 w4) ?_; rintro _ _ ⟨rfl, rfl⟩; refine At.run 3 rfl ?_; refine At.alloc rfl rfl rfl (fun w5 => ?_); refine At.store rfl rfl rfl rfl .z rfl rfl rfl (.c (.c (.c (.c .n)))) ?_; refine At.run 1 rfl (nT (sR 4 rfl ?_)); obtain ⟨w6, w7, I4, j⟩ := bjoin j; let T4 : HProp := pc w5 [.int .u64 e8.2.1, .int .u64 e8.2.2.1, .int .u64 e8.2.2.2.1, .int .u64 e8.2.2.2.2] 35; let T5 : HProp := pc w1 [i6 ((a9.getD default).states), .map (some p3), .map (some p4)] 82; let T6 : HProp := mapo Fl.bs.ov Q2.fl.av p3 ((a9.getD default).holds); let T7 : HProp := mapo Q7.fl.av Q2.fl.av p4 ((a9.getD default).next); let T8 : HProp := pc w0 [.int .u64 e7.2.1, .int .u64 e7.2.2.1, .int .u64 e7.2.2.2.1, .int .u64 e7.2.2.2.2] 35; let T9 : HProp := pc v6 [i6 ((a8.getD default).states), .map (some p1), .map (some p2)] 82; let w8 : HProp := mapo Fl.bs.ov Q2.fl.av p1 ((a8.getD default).holds); let w9 : HProp := mapo Q7.fl.av Q2.fl.av p2 ((a8.getD default).next); let x0 : HProp := pc I [i6 u, .slice A0_1 D.length c0_1, .slice d3 b6.length d4, .slice u4 o8.length u5] 26; refine At.joinO 4 (X := Bool) (fun d6 => [(197, .bool d6)]) (fun d6 => T4 :: T5 :: T6 :: T7 :: T8 :: T9 :: w8 :: w9 :: T2 :: x0 :: T1 :: Fr) (fun d6 => w6 (.inl d6) = some r) ?_ (fun p5 => ?_)
                       ·rintro d6 j; have j := (w7 _).symm.trans j
                        ·refine At.run 1 rfl (nT (At.ret ?_)); refine At.thaw p0 ?_; refine At.thaw o9 ?_; refine At.drop .z (At.drop .z (At.drop .z (At.drop .z (At.drop .z (At.drop .z (At.drop .z (At.drop .z ?_))))))); refine At.drop .z (At.drop .z (At.drop .z (At.drop .z (At.drop .z ?_)))); cases bret j; exact At.res (.inl rfl) rfl rfl ⟨rfl, rfl⟩
                       ··rcases bite j with ⟨h3, j⟩ | ⟨h3, j⟩
                         ··refine At.know (t := 193) rfl (decide_eq_true h3) ?_
                           refine At.y (Y.load rfl rfl (.s (.s (.s (.s .z)))) rfl rfl rfl) rfl rfl rfl ?_; refine At.y (Y.load rfl rfl .z rfl rfl rfl) rfl rfl rfl ?_; obtain ⟨x1, x2, j⟩ := bbind j; refine At.call rfl Q129.callee rfl rfl rfl (Q129.spec x2) ?_; rintro _ _ ⟨rfl, rfl⟩; refine At.run 1 rfl ?_; exact At.of (p5 x1 j) ⟨rfl, trivial⟩
                         ··refine At.know (t := 193) rfl (decide_eq_false h3) ?_
                           refine At.run 4 rfl ?_; exact At.of (p5 false j) ⟨rfl, trivial⟩
                   ·clear d5 h1; rintro h1 ⟨b4, p, M, x3, x4, x5, x6⟩ ⟨d5, x7⟩; obtain rfl : b4.length = x3 := x7; obtain ⟨x8, f_, x9, hf_, j⟩ := bit d5; clear d5; have j : (Q15.l2b G a3 b4 p M).bind _ = some o7 := j; unfold Q15.l2b at j
                    ·refine At.seq (sR 2 rfl ?_); refine At.y (Y.load rfl rfl (.s (.s (.s (.s (.s .z))))) rfl rfl rfl) rfl rfl rfl ?_; refine At.run 2 rfl (nT ?_); rcases bite j with ⟨h4, j⟩ | ⟨h4, j⟩
                     ··refine At.condT rfl (decide_eq_true h4) ?_
                       refine At.skip (At.thn (At.seq ?_)); refine At.block ?_; refine At.held [T3, T2, T1] 24 rfl ?_; refine At.H.pw 0 rfl rfl rfl rfl rfl (.c (.s .z) (.c (.s .z) (.c (.s (.s (.s .z))) .n))) ?_; refine At.H.pw 2 rfl rfl rfl rfl rfl (.c (.s .z) (.c (.s .z) (.c (.s (.s (.s .z))) .n))) ?_; refine At.H.tw 3 rfl (Y.load rfl rfl (.s (.s .z)) rfl rfl rfl) rfl rfl rfl (.c (.s .z) (.c (.s .z) (.c (.s (.s (.s .z))) .n))) ?_; refine At.H.pw 4 rfl rfl rfl rfl rfl (.c (.s .z) (.c (.s .z) (.c (.s (.s (.s .z))) .n))) ?_; obtain ⟨a6, j⟩ := bnone j; refine At.H.tw 5 rfl (Y.ixRd hr0_3 rfl rfl rfl rfl rfl rfl rfl a6.1 a6.2) rfl rfl rfl (.c (.s .z) (.c (.s .z) (.c (.s (.s (.s .z))) .n))) ?_; refine At.H.tw 6 rfl (Y.fa (RdS.some_ hr0_3 rfl a6.1 a6.2) rfl rfl rfl rfl rfl rfl) rfl rfl rfl (.c (.s .z) (.c (.s .z) (.c (.s (.s (.s .z))) .n))) ?_; refine At.H.tw 7 rfl (Y.ldPrj Q4.prj_Name hr0_3 rfl rfl rfl a6.1 a6.2 rfl rfl) rfl rfl rfl (.c (.s .z) (.c (.s .z) (.c (.s (.s (.s .z))) .n))) ?_; refine At.H.pw 8 rfl rfl rfl rfl rfl (.c (.s .z) (.c (.s .z) (.c (.s (.s (.s .z))) .n))) ?_; refine At.H.pw 9 rfl rfl rfl rfl rfl (.c (.s .z) (.c (.s .z) (.c (.s (.s (.s .z))) .n))) ?_; refine At.H.tw 10 rfl (Y.load rfl rfl (.s (.s .z)) rfl rfl rfl) rfl rfl rfl (.c (.s .z) (.c (.s .z) (.c (.s (.s (.s .z))) .n))) ?_; refine At.H.pw 11 rfl rfl rfl rfl rfl (.c (.s .z) (.c (.s .z) (.c (.s (.s (.s .z))) .n))) ?_; refine At.H.tw 12 rfl (Y.ixRd hr0_3 rfl rfl rfl rfl rfl rfl rfl a6.1 a6.2) rfl rfl rfl (.c (.s .z) (.c (.s .z) (.c (.s (.s (.s .z))) .n))) ?_; refine At.H.tw 13 rfl (Y.fa (RdS.some_ hr0_3 rfl a6.1 a6.2) rfl rfl rfl rfl rfl rfl) rfl rfl rfl (.c (.s .z) (.c (.s .z) (.c (.s (.s (.s .z))) .n))) ?_; refine At.H.tw 14 rfl (Y.ldPrj Q4.prj_Name hr0_3 rfl rfl rfl a6.1 a6.2 rfl rfl) rfl rfl rfl (.c (.s .z) (.c (.s .z) (.c (.s (.s (.s .z))) .n))) ?_; refine At.H.pw 16 rfl rfl rfl rfl rfl (.c (.s .z) (.c (.s .z) (.c (.s (.s (.s .z))) .n))) ?_; obtain ⟨I5, p6, j⟩ := bbind j; obtain ⟨I6, h5, j⟩ := bbind j; obtain ⟨V, e9, j⟩ := bbind j; obtain ⟨p7, j⟩ := bnone j; obtain ⟨d7, j⟩ := bnone j; refine At.H.joinK (X := (Option Addr) × Nat × Nat × Nat × Nat) (fun s_ => [(1, .slice A1 a1.length c1), (3, i6 a3), (4, bp J), (10, .pointer (some ⟨s_.2.2.1, 0, none⟩)), (12, bp I), (18, i6 M)]) (fun s_ => pc I [i6 u, .slice A0_1 D.length c0_1, .slice d3 b6.length d4, .slice s_.1 ((b4 ++ [(⟨((gt G M).Name), V⟩ : Q4)]).length) s_.2.1] 26 :: grow Q4.ow 41 s_.1 ((b4 ++ [(⟨((gt G M).Name), V⟩ : Q4)]).length) s_.2.1 (b4 ++ [(⟨((gt G M).Name), V⟩ : Q4)]) :: pt s_.2.2.1 (.cells [i6 ((p.getD default).states), .map (some s_.2.2.2.1), .map (some s_.2.2.2.2)].toArray 82) :: mapo Fl.bs.ov Q2.fl.av s_.2.2.2.1 ((p.getD default).holds) :: mapo Q7.fl.av Q2.fl.av s_.2.2.2.2 ((p.getD default).next) :: T3 :: T2 :: T1 :: Fr) (fun s_ => True) ?_ (fun d8 => ?_)
                       ·rintro ⟨y0, y1, y2, I7, I8⟩ -
                        ·refine At.ibn ?_; refine At.thn (At.region (At.run 3 rfl (At.nil (At.f4 (At.f4 (At.f4 ?_)))))); refine At.optSome (x := (⟨((p.getD default).states), (p.getD default).holds, (p.getD default).next⟩ : Q11)) Q11.ent ?_; refine At.f5 (At.f1 (At.f2 (At.f5 (At.f5 (At.f5 ?_))))); have j := bnx hf_ j; exact fun a w e hs => ⟨x8, ((b4 ++ [(⟨((gt G M).Name), V⟩ : Q4)]), (some (⟨((p.getD default).states), (p.getD default).holds, (p.getD default).next⟩ : Q11)), IntKind.i64.wrap (M + 1), (b4 ++ [(⟨((gt G M).Name), V⟩ : Q4)]).length, y0, y1, (some y2)), x9, ⟨j, rfl⟩, e.sub ⟨rfl, rfl, rfl, rfl, rfl, rfl, trivial⟩, hs⟩
                       ·refine At.H.al [1, 15] (Q6 ?_ (Q6 ?_ Q8))
                        ··refine At.HO.op rfl ?_
                          refine At.y (Y.load rfl rfl (.s (.s (.s .z))) rfl rfl rfl) rfl rfl rfl ?_; refine At.HO.back (.c (.s .z) (.c (.s .z) (.c (.s (.s (.s .z))) .n))) ?_; refine At.H.al [15] (Q6 ?_ Q8)
                          ··refine At.HO.op rfl ?_
                            refine At.optOpen (.s (.s (.s (.s .z)))) p7 (fun y3 y4 I9 => ?_); have y5 := j; subst y4; have j := y5; refine At.ownPair (T := Ow.fl (Fl.int .i64)) (U := ((Ow.mp Fl.bs.ov Q2.fl.av).pair (Ow.mp Q7.fl.av Q2.fl.av))) (x := ((p.getD default).states, (p.getD default).holds, (p.getD default).next)) (.s .z) ?_; rintro J0 J1 rfl; refine At.ownFl (F := (Fl.int .i64)) (x := (p.getD default).states) .z ?_; rintro rfl; refine At.ownPair (T := Ow.mp Fl.bs.ov Q2.fl.av) (U := (Ow.mp Q7.fl.av Q2.fl.av)) (x := ((p.getD default).holds, (p.getD default).next)) .z ?_; rintro J2 J3 rfl; refine At.ownMp (kv := Fl.bs.ov) (vv := Q2.fl.av) (kvs := (p.getD default).holds) .z ?_; rintro y6 rfl; refine At.ownMp (kv := Q7.fl.av) (vv := Q2.fl.av) (kvs := (p.getD default).next) (.s .z) ?_; rintro y7 rfl; refine At.f1 (At.f2 ?_); refine At.call rfl Q65.callee rfl rfl rfl (Q65.spec p6) ?_; rintro _ _ ⟨rfl, rfl⟩; refine At.HO.back (.c (.s (.s (.s (.s .z)))) (.c (.s (.s (.s (.s .z)))) (.c (.s (.s (.s (.s (.s .z))))) .n))) ?_; refine At.H.al [17] (Q6 ?_ Q8)
                            ··refine At.HO.op rfl ?_
                              refine At.call rfl Q45.callee rfl rfl rfl (Q45.spec h5) ?_; rintro _ _ ⟨rfl, rfl⟩; refine At.HO.back (.c (.s (.s (.s (.s .z)))) (.c (.s (.s (.s (.s .z)))) (.c (.s (.s (.s (.s (.s .z))))) .n))) ?_; refine At.H.al [18] (Q6 ?_ Q8)
                              ··refine At.HO.op rfl ?_
                                refine At.call rfl Q19.callee rfl rfl rfl (Q19.spec hg0 e9) ?_; rintro _ _ ⟨J4, h6, h7, rfl, rfl, rfl⟩; refine At.HO.back (.c (.s (.s (.s (.s (.s .z))))) (.c (.s (.s (.s (.s (.s .z))))) (.c (.s (.s (.s (.s (.s (.s .z)))))) .n))) ?_; refine At.H.tw 19 rfl (Y.build (is := [0, 1]) (xo := [.tmp 154, .tmp 165]) (vs := [.string ⟨((gt G M).Name).toArray⟩, .slice h6 V.length h7]) (cs := [.string ⟨((gt G M).Name).toArray⟩, .slice h6 V.length h7]) rfl rfl rfl rfl rfl rfl) rfl rfl rfl (.c (.s (.s (.s (.s (.s .z))))) (.c (.s (.s (.s (.s (.s .z))))) (.c (.s (.s (.s (.s (.s (.s .z)))))) .n))) ?_; refine At.H.al [20] (Q6 ?_ Q8)
                                ··refine At.HO.op rfl ?_
                                  refine At.lit rfl (xo := [.tmp 166]) (ys := ([rawOf (Q4.ow).sz [.string ⟨((gt G M).Name).toArray⟩, .slice h6 V.length h7] rfl rfl] : List (Raw (Q4.ow).sz))) (Fl.raw (Q4.ow).sz (Q4.ow).pos) rfl rfl rfl rfl rfl rfl rfl rfl rfl rfl rfl (fun J5 J6 => ?_); refine At.HO.back (.c (.s (.s (.s (.s (.s (.s .z)))))) (.c (.s (.s (.s (.s (.s (.s .z)))))) (.c (.s (.s (.s (.s (.s (.s (.s .z))))))) .n))) ?_; refine At.H.al [21] (Q6 ?_ Q8)
                                  ··refine At.HO.op rfl ?_
                                    refine At.f1 (At.f1 (At.f5 ?_)); refine At.appendGrow (T := Q4.ow) rfl rfl Q4.ent rfl rfl rfl rfl rfl rfl rfl rfl rfl d7 (by decide) rfl (fun y8 y9 => ?_); refine At.HO.back (.c (.s (.s (.s (.s .z)))) (.c (.s (.s (.s (.s .z)))) (.c (.s (.s (.s (.s (.s .z))))) .n))) ?_; refine At.H.pw 22 rfl rfl rfl rfl rfl (.c (.s (.s (.s (.s .z)))) (.c (.s (.s (.s (.s .z)))) (.c (.s (.s (.s (.s (.s .z))))) .n))) ?_; refine At.H.al [23] (Q6 ?_ Q8)
                                    ··refine At.HO.op rfl ?_
                                      refine At.store rfl rfl rfl rfl (.s (.s (.s (.s (.s (.s .z)))))) rfl rfl rfl (.s (.s (.s (.c .n)))) ?_; refine At.HO.back (.c (.s (.s (.s (.s (.s .z))))) (.c (.s (.s (.s (.s (.s .z))))) (.c (.s (.s (.s (.s (.s .z))))) .n))) ?_; refine At.H.done (by kernel_rfl) ?_; exact At.of (d8 (y8, y9, y3, y6, y7) trivial) ⟨rfl, rfl, rfl, rfl, rfl, rfl, trivial⟩
                        ··refine At.HO.op rfl ?_
                          refine At.optOpen (.s (.s (.s (.s .z)))) p7 (fun f0 z0 J7 => ?_); have z1 := j; subst z0; have j := z1; refine At.ownPair (T := Ow.fl (Fl.int .i64)) (U := ((Ow.mp Fl.bs.ov Q2.fl.av).pair (Ow.mp Q7.fl.av Q2.fl.av))) (x := ((p.getD default).states, (p.getD default).holds, (p.getD default).next)) (.s .z) ?_; rintro J8 J9 rfl; refine At.ownFl (F := (Fl.int .i64)) (x := (p.getD default).states) .z ?_; rintro rfl; refine At.ownPair (T := Ow.mp Fl.bs.ov Q2.fl.av) (U := (Ow.mp Q7.fl.av Q2.fl.av)) (x := ((p.getD default).holds, (p.getD default).next)) .z ?_; rintro K0 K2 rfl; refine At.ownMp (kv := Fl.bs.ov) (vv := Q2.fl.av) (kvs := (p.getD default).holds) .z ?_; rintro f6 rfl; refine At.ownMp (kv := Q7.fl.av) (vv := Q2.fl.av) (kvs := (p.getD default).next) (.s .z) ?_; rintro f7 rfl; refine At.f1 (At.f2 ?_); refine At.call rfl Q65.callee rfl rfl rfl (Q65.spec p6) ?_; rintro _ _ ⟨rfl, rfl⟩; refine At.HO.back (.c (.s (.s (.s (.s .z)))) (.c (.s (.s (.s (.s .z)))) (.c (.s (.s (.s (.s (.s .z))))) .n))) ?_; refine At.H.al [1, 17] (Q6 ?_ (Q6 ?_ Q8))
                          ··refine At.HO.op rfl ?_
                            refine At.y (Y.load rfl rfl (.s (.s (.s (.s (.s (.s .z)))))) rfl rfl rfl) rfl rfl rfl ?_; refine At.HO.back (.c (.s (.s (.s (.s .z)))) (.c (.s (.s (.s (.s .z)))) (.c (.s (.s (.s (.s (.s .z))))) .n))) ?_; refine At.H.al [17] (Q6 ?_ Q8)
                            ··refine At.HO.op rfl ?_
                              refine At.call rfl Q45.callee rfl rfl rfl (Q45.spec h5) ?_; rintro _ _ ⟨rfl, rfl⟩; refine At.HO.back (.c (.s (.s (.s (.s .z)))) (.c (.s (.s (.s (.s .z)))) (.c (.s (.s (.s (.s (.s .z))))) .n))) ?_; refine At.H.al [18] (Q6 ?_ Q8)
                              ··refine At.HO.op rfl ?_
                                refine At.call rfl Q19.callee rfl rfl rfl (Q19.spec hg0 e9) ?_; rintro _ _ ⟨K3, h8, h9, rfl, rfl, rfl⟩; refine At.HO.back (.c (.s (.s (.s (.s (.s .z))))) (.c (.s (.s (.s (.s (.s .z))))) (.c (.s (.s (.s (.s (.s (.s .z)))))) .n))) ?_; refine At.H.tw 19 rfl (Y.build (is := [0, 1]) (xo := [.tmp 154, .tmp 165]) (vs := [.string ⟨((gt G M).Name).toArray⟩, .slice h8 V.length h9]) (cs := [.string ⟨((gt G M).Name).toArray⟩, .slice h8 V.length h9]) rfl rfl rfl rfl rfl rfl) rfl rfl rfl (.c (.s (.s (.s (.s (.s .z))))) (.c (.s (.s (.s (.s (.s .z))))) (.c (.s (.s (.s (.s (.s (.s .z)))))) .n))) ?_; refine At.H.al [20] (Q6 ?_ Q8)
                                ··refine At.HO.op rfl ?_
                                  refine At.lit rfl (xo := [.tmp 166]) (ys := ([rawOf (Q4.ow).sz [.string ⟨((gt G M).Name).toArray⟩, .slice h8 V.length h9] rfl rfl] : List (Raw (Q4.ow).sz))) (Fl.raw (Q4.ow).sz (Q4.ow).pos) rfl rfl rfl rfl rfl rfl rfl rfl rfl rfl rfl (fun K4 K5 => ?_); refine At.HO.back (.c (.s (.s (.s (.s (.s (.s .z)))))) (.c (.s (.s (.s (.s (.s (.s .z)))))) (.c (.s (.s (.s (.s (.s (.s (.s .z))))))) .n))) ?_; refine At.H.al [21] (Q6 ?_ Q8)
                                  ··refine At.HO.op rfl ?_
                                    refine At.f1 (At.f1 (At.f5 ?_)); refine At.appendGrow (T := Q4.ow) rfl rfl Q4.ent rfl rfl rfl rfl rfl rfl rfl rfl rfl d7 (by decide) rfl (fun z2 z3 => ?_); refine At.HO.back (.c (.s (.s (.s (.s .z)))) (.c (.s (.s (.s (.s .z)))) (.c (.s (.s (.s (.s (.s .z))))) .n))) ?_; refine At.H.pw 22 rfl rfl rfl rfl rfl (.c (.s (.s (.s (.s .z)))) (.c (.s (.s (.s (.s .z)))) (.c (.s (.s (.s (.s (.s .z))))) .n))) ?_; refine At.H.al [23] (Q6 ?_ Q8)
                                    ··refine At.HO.op rfl ?_
                                      refine At.store rfl rfl rfl rfl (.s (.s (.s (.s (.s (.s .z)))))) rfl rfl rfl (.s (.s (.s (.c .n)))) ?_; refine At.HO.back (.c (.s (.s (.s (.s (.s .z))))) (.c (.s (.s (.s (.s (.s .z))))) (.c (.s (.s (.s (.s (.s .z))))) .n))) ?_; refine At.H.done (by kernel_rfl) ?_; exact At.of (d8 (z2, z3, f0, f6, f7) trivial) ⟨rfl, rfl, rfl, rfl, rfl, rfl, trivial⟩
                          ··refine At.HO.op rfl ?_
                            refine At.call rfl Q45.callee rfl rfl rfl (Q45.spec h5) ?_; rintro _ _ ⟨rfl, rfl⟩; refine At.HO.back (.c (.s (.s (.s (.s .z)))) (.c (.s (.s (.s (.s .z)))) (.c (.s (.s (.s (.s (.s .z))))) .n))) ?_; refine At.H.al [1, 18] (Q6 ?_ (Q6 ?_ Q8))
                            ··refine At.HO.op rfl ?_
                              refine At.y (Y.load rfl rfl (.s (.s (.s (.s (.s (.s .z)))))) rfl rfl rfl) rfl rfl rfl ?_; refine At.HO.back (.c (.s (.s (.s (.s .z)))) (.c (.s (.s (.s (.s .z)))) (.c (.s (.s (.s (.s (.s .z))))) .n))) ?_; refine At.H.al [18] (Q6 ?_ Q8)
                              ··refine At.HO.op rfl ?_
                                refine At.call rfl Q19.callee rfl rfl rfl (Q19.spec hg0 e9) ?_; rintro _ _ ⟨K6, k0, k1, rfl, rfl, rfl⟩; refine At.HO.back (.c (.s (.s (.s (.s (.s .z))))) (.c (.s (.s (.s (.s (.s .z))))) (.c (.s (.s (.s (.s (.s (.s .z)))))) .n))) ?_; refine At.H.tw 19 rfl (Y.build (is := [0, 1]) (xo := [.tmp 154, .tmp 165]) (vs := [.string ⟨((gt G M).Name).toArray⟩, .slice k0 V.length k1]) (cs := [.string ⟨((gt G M).Name).toArray⟩, .slice k0 V.length k1]) rfl rfl rfl rfl rfl rfl) rfl rfl rfl (.c (.s (.s (.s (.s (.s .z))))) (.c (.s (.s (.s (.s (.s .z))))) (.c (.s (.s (.s (.s (.s (.s .z)))))) .n))) ?_; refine At.H.al [20] (Q6 ?_ Q8)
                                ··refine At.HO.op rfl ?_
                                  refine At.lit rfl (xo := [.tmp 166]) (ys := ([rawOf (Q4.ow).sz [.string ⟨((gt G M).Name).toArray⟩, .slice k0 V.length k1] rfl rfl] : List (Raw (Q4.ow).sz))) (Fl.raw (Q4.ow).sz (Q4.ow).pos) rfl rfl rfl rfl rfl rfl rfl rfl rfl rfl rfl (fun K7 K8 => ?_); refine At.HO.back (.c (.s (.s (.s (.s (.s (.s .z)))))) (.c (.s (.s (.s (.s (.s (.s .z)))))) (.c (.s (.s (.s (.s (.s (.s (.s .z))))))) .n))) ?_; refine At.H.al [21] (Q6 ?_ Q8)
                                  ··refine At.HO.op rfl ?_
                                    refine At.f1 (At.f1 (At.f5 ?_)); refine At.appendGrow (T := Q4.ow) rfl rfl Q4.ent rfl rfl rfl rfl rfl rfl rfl rfl rfl d7 (by decide) rfl (fun z4 z5 => ?_); refine At.HO.back (.c (.s (.s (.s (.s .z)))) (.c (.s (.s (.s (.s .z)))) (.c (.s (.s (.s (.s (.s .z))))) .n))) ?_; refine At.H.pw 22 rfl rfl rfl rfl rfl (.c (.s (.s (.s (.s .z)))) (.c (.s (.s (.s (.s .z)))) (.c (.s (.s (.s (.s (.s .z))))) .n))) ?_; refine At.H.al [23] (Q6 ?_ Q8)
                                    ··refine At.HO.op rfl ?_
                                      refine At.store rfl rfl rfl rfl (.s (.s (.s (.s (.s (.s .z)))))) rfl rfl rfl (.s (.s (.s (.c .n)))) ?_; refine At.HO.back (.c (.s (.s (.s (.s (.s .z))))) (.c (.s (.s (.s (.s (.s .z))))) (.c (.s (.s (.s (.s (.s .z))))) .n))) ?_; refine At.H.done (by kernel_rfl) ?_; exact At.of (d8 (z4, z5, f0, f6, f7) trivial) ⟨rfl, rfl, rfl, rfl, rfl, rfl, trivial⟩
                            ··refine At.HO.op rfl ?_
                              refine At.call rfl Q19.callee rfl rfl rfl (Q19.spec hg0 e9) ?_; rintro _ _ ⟨K9, f8, f9, rfl, rfl, rfl⟩; refine At.HO.back (.c (.s (.s (.s (.s (.s .z))))) (.c (.s (.s (.s (.s (.s .z))))) (.c (.s (.s (.s (.s (.s (.s .z)))))) .n))) ?_; refine At.H.tw 19 rfl (Y.build (is := [0, 1]) (xo := [.tmp 154, .tmp 165]) (vs := [.string ⟨((gt G M).Name).toArray⟩, .slice f8 V.length f9]) (cs := [.string ⟨((gt G M).Name).toArray⟩, .slice f8 V.length f9]) rfl rfl rfl rfl rfl rfl) rfl rfl rfl (.c (.s (.s (.s (.s (.s .z))))) (.c (.s (.s (.s (.s (.s .z))))) (.c (.s (.s (.s (.s (.s (.s .z)))))) .n))) ?_; refine At.H.al [1, 20] (Q6 ?_ (Q6 ?_ Q8))
                              ··refine At.HO.op rfl ?_
                                refine At.y (Y.load rfl rfl (.s (.s (.s (.s (.s (.s (.s .z))))))) rfl rfl rfl) rfl rfl rfl ?_; refine At.HO.back (.c (.s (.s (.s (.s (.s .z))))) (.c (.s (.s (.s (.s (.s .z))))) (.c (.s (.s (.s (.s (.s (.s .z)))))) .n))) ?_; refine At.H.al [20] (Q6 ?_ Q8)
                                ··refine At.HO.op rfl ?_
                                  refine At.lit rfl (xo := [.tmp 166]) (ys := ([rawOf (Q4.ow).sz [.string ⟨((gt G M).Name).toArray⟩, .slice f8 V.length f9] rfl rfl] : List (Raw (Q4.ow).sz))) (Fl.raw (Q4.ow).sz (Q4.ow).pos) rfl rfl rfl rfl rfl rfl rfl rfl rfl rfl rfl (fun L0 L1 => ?_); refine At.HO.back (.c (.s (.s (.s (.s (.s (.s .z)))))) (.c (.s (.s (.s (.s (.s (.s .z)))))) (.c (.s (.s (.s (.s (.s (.s (.s .z))))))) .n))) ?_; refine At.H.al [21] (Q6 ?_ Q8)
                                  ··refine At.HO.op rfl ?_
                                    refine At.f1 (At.f1 (At.f5 ?_)); refine At.appendGrow (T := Q4.ow) rfl rfl Q4.ent rfl rfl rfl rfl rfl rfl rfl rfl rfl d7 (by decide) rfl (fun z6 z7 => ?_); refine At.HO.back (.c (.s (.s (.s (.s .z)))) (.c (.s (.s (.s (.s .z)))) (.c (.s (.s (.s (.s (.s .z))))) .n))) ?_; refine At.H.pw 22 rfl rfl rfl rfl rfl (.c (.s (.s (.s (.s .z)))) (.c (.s (.s (.s (.s .z)))) (.c (.s (.s (.s (.s (.s .z))))) .n))) ?_; refine At.H.al [23] (Q6 ?_ Q8)
                                    ··refine At.HO.op rfl ?_
                                      refine At.store rfl rfl rfl rfl (.s (.s (.s (.s (.s (.s .z)))))) rfl rfl rfl (.s (.s (.s (.c .n)))) ?_; refine At.HO.back (.c (.s (.s (.s (.s (.s .z))))) (.c (.s (.s (.s (.s (.s .z))))) (.c (.s (.s (.s (.s (.s .z))))) .n))) ?_; refine At.H.done (by kernel_rfl) ?_; exact At.of (d8 (z6, z7, f0, f6, f7) trivial) ⟨rfl, rfl, rfl, rfl, rfl, rfl, trivial⟩
                              ··refine At.HO.op rfl ?_
                                refine At.lit rfl (xo := [.tmp 166]) (ys := ([rawOf (Q4.ow).sz [.string ⟨((gt G M).Name).toArray⟩, .slice f8 V.length f9] rfl rfl] : List (Raw (Q4.ow).sz))) (Fl.raw (Q4.ow).sz (Q4.ow).pos) rfl rfl rfl rfl rfl rfl rfl rfl rfl rfl rfl (fun L2 L3 => ?_); refine At.HO.back (.c (.s (.s (.s (.s (.s (.s .z)))))) (.c (.s (.s (.s (.s (.s (.s .z)))))) (.c (.s (.s (.s (.s (.s (.s (.s .z))))))) .n))) ?_; refine At.H.al [1] (Q6 ?_ Q8)
                                ··refine At.HO.op rfl ?_
                                  refine At.y (Y.load rfl rfl (.s (.s (.s (.s (.s (.s (.s (.s .z)))))))) rfl rfl rfl) rfl rfl rfl ?_; refine At.HO.back (.c (.s (.s (.s (.s (.s (.s .z)))))) (.c (.s (.s (.s (.s (.s (.s .z)))))) (.c (.s (.s (.s (.s (.s (.s (.s .z))))))) .n))) ?_; refine At.H.al [21] (Q6 ?_ Q8)
                                  ··refine At.HO.op rfl ?_
                                    refine At.f1 (At.f1 (At.f5 ?_)); refine At.appendGrow (T := Q4.ow) rfl rfl Q4.ent rfl rfl rfl rfl rfl rfl rfl rfl rfl d7 (by decide) rfl (fun z8 z9 => ?_); refine At.HO.back (.c (.s (.s (.s (.s .z)))) (.c (.s (.s (.s (.s .z)))) (.c (.s (.s (.s (.s (.s .z))))) .n))) ?_; refine At.H.pw 22 rfl rfl rfl rfl rfl (.c (.s (.s (.s (.s .z)))) (.c (.s (.s (.s (.s .z)))) (.c (.s (.s (.s (.s (.s .z))))) .n))) ?_; refine At.H.al [23] (Q6 ?_ Q8)
                                    ··refine At.HO.op rfl ?_
                                      refine At.store rfl rfl rfl rfl (.s (.s (.s (.s (.s (.s .z)))))) rfl rfl rfl (.s (.s (.s (.c .n)))) ?_; refine At.HO.back (.c (.s (.s (.s (.s (.s .z))))) (.c (.s (.s (.s (.s (.s .z))))) (.c (.s (.s (.s (.s (.s .z))))) .n))) ?_; refine At.H.done (by kernel_rfl) ?_; exact At.of (d8 (z8, z9, f0, f6, f7) trivial) ⟨rfl, rfl, rfl, rfl, rfl, rfl, trivial⟩
                     ··refine At.condF rfl (decide_eq_false h4) ?_
                       refine At.exit ?_; refine At.the ?_; refine At.the ?_; exact fun a w e hs => u2 (b4, p, b4.length, x4, x5, x6) ⟨(bdn j u1), rfl⟩ a w (e.sub ⟨rfl, rfl, rfl, trivial⟩) hs
                 ·clear d2 g9; rintro g9 ⟨b8, k2, O, A2, p8, p9, q0⟩ ⟨d2, A3⟩; obtain rfl : b8.length = A2 := A3; obtain ⟨A4, f_, A5, hf_, j⟩ := bit d2; clear d2; have j : (Q15.l1b u D a2 a3 b8 k2 O).bind _ = some g7 := j; unfold Q15.l1b at j
                  ·refine At.seq (sR 2 rfl ?_); refine At.y (Y.load rfl rfl (.s (.s (.s (.s .z)))) rfl rfl rfl) rfl rfl rfl ?_; refine At.run 1 rfl (nT ?_); rcases bite j with ⟨k3, j⟩ | ⟨k3, j⟩
                   ··refine At.condT rfl (decide_eq_true k3) ?_
                     refine At.skip (At.thn (At.seq ?_)); refine At.block ?_; refine sR 1 rfl (nT ?_); refine At.block ?_; obtain ⟨A6, A7, L4, j⟩ := bjoin j; obtain ⟨k4, k5, A8⟩ := bsome j; clear j; unfold Q15.l3 at k5; obtain ⟨k6, d9⟩ := Q18.1 k5; clear k5; refine At.loopJ (X := (List Q3) × (Option Q11) × Int × Nat × (Option Addr) × Nat × (Option Nat)) (Y := (List Q3) × (Option Q11) × Nat × (Option Addr) × Nat × (Option Nat)) (e0 := 4) (fun s_ => [(1, .slice A1 a1.length c1), (3, i6 a3), (4, bp J), (10, optp s_.2.2.2.2.2.2), (12, bp I), (13, bp b5), (14, i6 O), (15, i6 s_.2.2.1)]) (fun s_ => row Q3.fl 48 s_.2.2.2.2.1 s_.2.2.2.1 s_.2.2.2.2.2.1 s_.1 :: T2 :: pc I [i6 u, .slice A0_1 D.length c0_1, .slice s_.2.2.2.2.1 s_.2.2.2.1 s_.2.2.2.2.2.1, .slice none 0 0] 26 :: optb Q11.ow 82 s_.2.2.2.2.2.2 s_.2.1 :: T1 :: Fr) (fun m_ => fun s_ => iterN (fun t_ : (List Q3) × (Option Q11) × Int => Q15.l3b u D a2 a3 O t_.1 t_.2.1 t_.2.2) m_ (s_.1, s_.2.1, s_.2.2.1) = some k4 ∧ s_.1.length = s_.2.2.2.1) k6 (b8, k2, 0, b8.length, p8, p9, q0) ⟨d9, rfl⟩ (fun s_ => [(1, .slice A1 a1.length c1), (3, i6 a3), (4, bp J), (10, optp s_.2.2.2.2.2), (12, bp I), (13, bp b5), (14, i6 O)]) (fun s_ => row Q3.fl 48 s_.2.2.2.1 s_.2.2.1 s_.2.2.2.2.1 s_.1 :: T2 :: pc I [i6 u, .slice A0_1 D.length c0_1, .slice s_.2.2.2.1 s_.2.2.1 s_.2.2.2.2.1, .slice none 0 0] 26 :: optb Q11.ow 82 s_.2.2.2.2.2 s_.2.1 :: T1 :: Fr) (fun s_ => A6 (.inl (s_.1, s_.2.1)) = some g7 ∧ s_.1.length = s_.2.2.1) (fun a w e hs => ⟨e.sub ⟨rfl, rfl, rfl, rfl, rfl, rfl, rfl, rfl, trivial⟩, (by exact hs)⟩) ?_ (fun A9 => ?_)
                     ·rintro ⟨k7, B0, B1, B2, B3, B4⟩ ⟨j, B5⟩; obtain rfl : k7.length = B1 := B5; have j := (A7 _).symm.trans j
                      ·refine At.ibx ?_; refine At.ibn ?_; refine At.thn (At.region (At.run 3 rfl (At.nil ?_))); have j := bnx hf_ j; exact fun a w e hs => ⟨A4, (k7, B0, IntKind.i64.wrap (O + 1), k7.length, B2, B3, B4), A5, ⟨j, rfl⟩, e.sub ⟨rfl, rfl, rfl, rfl, rfl, rfl, rfl, trivial⟩, hs⟩
                     ·clear d9 k6; rintro k6 ⟨b9, k8, a4, B6, q1, q2, q3⟩ ⟨d9, B7⟩; obtain rfl : b9.length = B6 := B7; obtain ⟨B8, f_, B9, hf_, j⟩ := bit d9; clear d9; have j : (Q15.l3b u D a2 a3 O b9 k8 a4).bind _ = some k4 := j; unfold Q15.l3b at j
                      ·refine At.seq (sR 2 rfl ?_); refine At.y (Y.load rfl rfl (.s (.s (.s (.s .z)))) rfl rfl rfl) rfl rfl rfl ?_; refine At.run 2 rfl (nT ?_); rcases bite j with ⟨k9, j⟩ | ⟨k9, j⟩
                       ··refine At.condT rfl (decide_eq_true k9) ?_
                         refine At.skip (At.thn (At.seq ?_)); refine At.block ?_; refine sR 1 rfl (nT ?_); refine At.block ?_; obtain ⟨C0, C1, L5, j⟩ := bjoin j; obtain ⟨g0, l5, C2⟩ := bsome j; clear j; unfold Q15.l4 at l5; obtain ⟨l6, e1⟩ := Q18.1 l5; clear l5; refine At.loopJ (X := (List Q3) × (Option Q11) × Int × Nat × (Option Addr) × Nat × (Option Nat)) (Y := (List Q3) × (Option Q11) × Nat × (Option Addr) × Nat × (Option Nat)) (e0 := 6) (fun s_ => [(1, .slice A1 a1.length c1), (3, i6 a3), (4, bp J), (10, optp s_.2.2.2.2.2.2), (12, bp I), (13, bp b5), (14, i6 O), (15, i6 a4), (16, i6 s_.2.2.1)]) (fun s_ => row Q3.fl 48 s_.2.2.2.2.1 s_.2.2.2.1 s_.2.2.2.2.2.1 s_.1 :: T2 :: pc I [i6 u, .slice A0_1 D.length c0_1, .slice s_.2.2.2.2.1 s_.2.2.2.1 s_.2.2.2.2.2.1, .slice none 0 0] 26 :: optb Q11.ow 82 s_.2.2.2.2.2.2 s_.2.1 :: T1 :: Fr) (fun m_ => fun s_ => iterN (fun t_ : (List Q3) × (Option Q11) × Int => Q15.l4b u D a2 a3 O a4 t_.1 t_.2.1 t_.2.2) m_ (s_.1, s_.2.1, s_.2.2.1) = some g0 ∧ s_.1.length = s_.2.2.2.1) l6 (b9, k8, 0, b9.length, q1, q2, q3) ⟨e1, rfl⟩ (fun s_ => [(1, .slice A1 a1.length c1), (3, i6 a3), (4, bp J), (10, optp s_.2.2.2.2.2), (12, bp I), (13, bp b5), (14, i6 O), (15, i6 a4)]) (fun s_ => row Q3.fl 48 s_.2.2.2.1 s_.2.2.1 s_.2.2.2.2.1 s_.1 :: T2 :: pc I [i6 u, .slice A0_1 D.length c0_1, .slice s_.2.2.2.1 s_.2.2.1 s_.2.2.2.2.1, .slice none 0 0] 26 :: optb Q11.ow 82 s_.2.2.2.2.2 s_.2.1 :: T1 :: Fr) (fun s_ => C0 (.inl (s_.1, s_.2.1)) = some k4 ∧ s_.1.length = s_.2.2.1) (fun a w e hs => ⟨e.sub ⟨rfl, rfl, rfl, rfl, rfl, rfl, rfl, rfl, rfl, trivial⟩, (by exact hs)⟩) ?_ (fun C3 => ?_)
                         ·rintro ⟨l7, C4, C5, C6, C7, C8⟩ ⟨j, C9⟩; obtain rfl : l7.length = C5 := C9; have j := (C1 _).symm.trans j
                          ·refine At.ibx ?_; refine At.ibn ?_; refine At.thn (At.region (At.run 3 rfl (At.nil ?_))); have j := bnx hf_ j; exact fun a w e hs => ⟨B8, (l7, C4, IntKind.i64.wrap (a4 + 1), l7.length, C6, C7, C8), B9, ⟨j, rfl⟩, e.sub ⟨rfl, rfl, rfl, rfl, rfl, rfl, rfl, rfl, trivial⟩, hs⟩
                         ·clear e1 l6; rintro l6 ⟨b2, a0, b3, D0, g1, g2, q4⟩ ⟨e1, D1⟩; obtain rfl : b2.length = D0 := D1; obtain ⟨D2, f_, D3, hf_, j⟩ := bit e1; clear e1; have j : (Q15.l4b u D a2 a3 O a4 b2 a0 b3).bind _ = some g0 := j; unfold Q15.l4b at j
                          ·refine At.seq (sR 2 rfl ?_); refine At.y (Y.load rfl rfl (.s (.s (.s (.s .z)))) rfl rfl rfl) rfl rfl rfl ?_; refine At.run 1 rfl (nT ?_); rcases bite j with ⟨l8, j⟩ | ⟨l8, j⟩
                           ··refine At.condT rfl (decide_eq_true l8) ?_
                             refine At.skip (At.thn (At.seq ?_)); obtain ⟨D4, D5, L6, j⟩ := bjoin j; refine At.join (X := (List Q3) × (Option Q11) × Nat × (Option Addr) × Nat × (Option Nat)) (fun s_ => [(1, .slice A1 a1.length c1), (3, i6 a3), (4, bp J), (10, optp s_.2.2.2.2.2), (12, bp I), (13, bp b5), (14, i6 O), (15, i6 a4), (16, i6 b3)]) (fun s_ => pc I [i6 u, .slice A0_1 D.length c0_1, .slice s_.2.2.2.1 s_.2.2.1 s_.2.2.2.2.1, .slice none 0 0] 26 :: row Q3.fl 48 s_.2.2.2.1 s_.2.2.1 s_.2.2.2.2.1 s_.1 :: T2 :: optb Q11.ow 82 s_.2.2.2.2.2 s_.2.1 :: T1 :: Fr) (fun s_ => D4 (.inl (s_.1, s_.2.1)) = some g0 ∧ s_.1.length = s_.2.2.1) ?_ (fun q5 => ?_)
                             ·rintro ⟨l9, D6, D7, D8, D9, E0⟩ ⟨j, E1⟩; obtain rfl : l9.length = D7 := E1; have j := (D5 _).symm.trans j
                              ·refine At.region (At.run 3 rfl (At.nil (At.f4 (At.f4 (At.f2 (At.f4 (At.f4 ?_))))))); have j := bnx hf_ j; exact fun a w e hs => ⟨D2, (l9, D6, IntKind.i64.wrap (b3 + 1), l9.length, D8, D9, E0), D3, ⟨j, rfl⟩, e.sub ⟨rfl, rfl, rfl, rfl, rfl, rfl, rfl, rfl, rfl, trivial⟩, hs⟩
                             ··refine At.block ?_
                               refine sR 3 rfl ?_; refine At.y (Y.build (is := [0, 1, 2]) (xo := [.tmp 115, .tmp 116, .tmp 117]) (vs := [i6 O, i6 a4, i6 b3]) (cs := [i6 O, i6 a4, i6 b3]) rfl rfl rfl rfl rfl rfl) rfl rfl rfl ?_; refine At.alloc rfl rfl rfl (fun q6 => ?_); refine At.store rfl rfl rfl rfl .z rfl rfl rfl (.c (.c (.c .n))) ?_; refine nT (At.seq (At.region (At.y (Y.load rfl rfl .z rfl rfl rfl) rfl rfl rfl (At.y (Y.load rfl rfl (.s (.s .z)) rfl rfl rfl) rfl rfl rfl ?_)))); refine At.y (Y.eqSt (xs := [i6 O, i6 a4, i6 b3]) (ys := [i6 a2, i6 0, i6 a3]) rfl rfl rfl rfl (by kernel_rfl) (by kernel_rfl) (by kernel_rfl) rfl) rfl rfl rfl ?_; refine At.run 1 rfl ?_; obtain ⟨E2, E3, L7, j⟩ := bjoin j; let E4 : HProp := pc q6 [i6 O, i6 a4, i6 b3] 48; let E5 : HProp := pc I [i6 u, .slice A0_1 D.length c0_1, .slice g1 b2.length g2, .slice none 0 0] 26; refine At.joinO 11 (X := (Option Q11) × Bool × (Option Nat)) (fun s_ => [(1, .slice A1 a1.length c1), (3, i6 a3), (4, bp J), (10, optp s_.2.2), (12, bp I), (13, bp b5), (14, i6 O), (15, i6 a4), (16, i6 b3), (17, bp q6), (133, .bool s_.2.1)]) (fun s_ => E4 :: row Q3.fl 48 g1 b2.length g2 b2 :: T2 :: E5 :: optb Q11.ow 82 s_.2.2 s_.1 :: T1 :: Fr) (fun s_ => E2 (.inl (s_.1, s_.2.1)) = some g0) ?_ (fun q7 => ?_)
                               ·rintro ⟨q8, L8, q9⟩ j; have j := (E3 _).symm.trans j
                                ·refine nT ?_; rcases bite j with ⟨m0, j⟩ | ⟨m0, j⟩
                                 ··refine At.condT rfl m0 ?_
                                   refine At.region (At.run 1 rfl (At.y (Y.load rfl rfl (.s (.s (.s .z))) rfl rfl rfl) rfl rfl rfl (At.y (Y.load rfl rfl .z rfl rfl rfl) rfl rfl rfl ?_))); refine At.lit rfl (xo := [.tmp 136]) (ys := ([(⟨O, a4, b3⟩ : Q3)] : List Q3)) Q3.fl rfl rfl rfl rfl rfl rfl rfl rfl rfl rfl rfl (fun L9 M0 => ?_); obtain ⟨E6, j⟩ := bnone j; refine At.append rfl (.s (.s .z)) (Src.own .z (by simp)) rfl rfl rfl rfl rfl rfl rfl rfl E6 (by decide) rfl (fun E7 E8 => ?_); refine At.drop (.s .z) (At.run 1 rfl ?_); refine At.store rfl rfl rfl rfl (.s (.s (.s .z))) rfl rfl rfl (.s (.s (.c .n))) ?_; refine At.nil ?_; refine At.ibn ?_; refine At.thn (At.drop (.s (.s .z)) ?_); exact fun a w e hs => q5 ((b2 ++ ([(⟨O, a4, b3⟩ : Q3)] : List Q3)), q8, (b2 ++ ([(⟨O, a4, b3⟩ : Q3)] : List Q3)).length, E7, E8, q9) ⟨j, rfl⟩ a w (e.sub ⟨rfl, rfl, rfl, rfl, rfl, rfl, rfl, rfl, rfl, trivial⟩) hs
                                 ··refine At.condF rfl (bn m0) ?_
                                   refine At.skip ?_; refine At.ibn ?_; refine At.thn (At.drop .z (At.f4 (At.f4 (At.f3 (At.f3 (At.f4 ?_)))))); exact fun a w e hs => q5 (b2, q8, b2.length, g1, g2, q9) ⟨j, rfl⟩ a w (e.sub ⟨rfl, rfl, rfl, rfl, rfl, rfl, rfl, rfl, rfl, trivial⟩) hs
                               ··rcases bite j with ⟨m1, j⟩ | ⟨m1, j⟩
                                 ··refine At.know (t := 122) rfl m1 ?_
                                   refine At.run 11 rfl ?_; exact At.of (q7 (a0, true, q4) j) ⟨rfl, rfl, rfl, rfl, rfl, rfl, rfl, rfl, rfl, rfl, rfl, trivial⟩
                                 ··refine At.know (t := 122) rfl (bn m1) ?_
                                   refine At.run 3 rfl ?_; refine At.y (Y.load rfl rfl (.s (.s (.s (.s (.s .z))))) rfl rfl rfl) rfl rfl rfl ?_; refine At.run 1 rfl ?_; obtain ⟨g3, j⟩ := bnone j; refine At.y (Y.ixRd hr0_1 rfl rfl rfl rfl rfl rfl rfl g3.1 g3.2) rfl rfl rfl (At.y (Y.ldFl hr0_1 rfl (q := 0) rfl rfl g3.1 g3.2 rfl rfl rfl) rfl rfl rfl ?_); obtain ⟨E9, j⟩ := bnone j; refine At.optOpen (.s (.s (.s (.s .z)))) E9 (fun F0 F1 M1 => ?_); have F2 := j; subst F1; have j := F2; refine At.ownPair (T := Ow.fl (Fl.int .i64)) (U := ((Ow.mp Fl.bs.ov Q2.fl.av).pair (Ow.mp Q7.fl.av Q2.fl.av))) (x := ((a0.getD default).states, (a0.getD default).holds, (a0.getD default).next)) (.s .z) ?_; rintro M2 M3 rfl; refine At.ownFl (F := (Fl.int .i64)) (x := (a0.getD default).states) .z ?_; rintro rfl; refine At.ownPair (T := Ow.mp Fl.bs.ov Q2.fl.av) (U := (Ow.mp Q7.fl.av Q2.fl.av)) (x := ((a0.getD default).holds, (a0.getD default).next)) .z ?_; rintro M4 M5 rfl; refine At.ownMp (kv := Fl.bs.ov) (vv := Q2.fl.av) (kvs := (a0.getD default).holds) .z ?_; rintro M6 rfl; refine At.ownMp (kv := Q7.fl.av) (vv := Q2.fl.av) (kvs := (a0.getD default).next) (.s .z) ?_; rintro M7 rfl; refine At.f1 (At.f2 ?_); obtain ⟨M8, F3, j⟩ := bbind j; refine At.call rfl Q123.callee rfl rfl rfl (Q123.spec F3) ?_; rintro _ _ ⟨rfl, rfl⟩; refine At.run 1 rfl ?_; obtain ⟨F4, F5, j⟩ := bbind j; refine At.call rfl Q119.callee rfl rfl rfl (Q119.spec F5) ?_; rintro _ _ ⟨rfl, rfl⟩; refine At.run 1 rfl ?_; refine At.optSome (x := (⟨((a0.getD default).states), (a0.getD default).holds, (a0.getD default).next⟩ : Q11)) Q11.ent ?_; refine At.f5 (At.f1 (At.f5 (At.f5 (At.f5 (At.f5 ?_))))); exact At.of (q7 ((some (⟨((a0.getD default).states), (a0.getD default).holds, (a0.getD default).next⟩ : Q11)), F4, (some F0)) j) ⟨rfl, rfl, rfl, rfl, rfl, rfl, rfl, rfl, rfl, rfl, rfl, trivial⟩
                           ··refine At.condF rfl (decide_eq_false l8) ?_
                             refine At.exit ?_; refine At.the ?_; refine At.the ?_; exact fun a w e hs => C3 (b2, a0, b2.length, g1, g2, q4) ⟨(bdn j C2), rfl⟩ a w (e.sub ⟨rfl, rfl, rfl, rfl, rfl, rfl, rfl, rfl, trivial⟩) hs
                       ··refine At.condF rfl (decide_eq_false k9) ?_
                         refine At.exit ?_; refine At.the ?_; refine At.the ?_; exact fun a w e hs => A9 (b9, k8, b9.length, q1, q2, q3) ⟨(bdn j A8), rfl⟩ a w (e.sub ⟨rfl, rfl, rfl, rfl, rfl, rfl, rfl, trivial⟩) hs
                   ··refine At.condF rfl (decide_eq_false k3) ?_
                     refine At.exit ?_; refine At.the ?_; refine At.the ?_; exact fun a w e hs => t4 (b8, k2, b8.length, p8, p9, q0) ⟨(bdn j t3), rfl⟩ a w (e.sub ⟨rfl, rfl, rfl, rfl, rfl, trivial⟩) hs
               ·clear d1 g6; rintro g6 a7 d1; obtain ⟨F6, f_, F7, hf_, j⟩ := bit d1; clear d1; have j : (Q15.l0b a1 a7).bind _ = some e4 := j; unfold Q15.l0b at j
                ·refine At.seq (sR 4 rfl (nT ?_)); rcases bite j with ⟨m2, j⟩ | ⟨m2, j⟩
                 ··refine At.condT rfl (decide_eq_true m2) ?_
                   refine At.skip (At.thn (At.seq ?_)); refine At.block ?_; refine sR 2 rfl ?_; obtain ⟨Z, j⟩ := bnone j; refine At.y (Y.ixRd hr1 rfl rfl rfl rfl rfl rfl rfl Z.1 Z.2) rfl rfl rfl ?_; refine At.y (Y.fa (RdS.some_ hr1 rfl Z.1 Z.2) rfl rfl rfl rfl rfl rfl) rfl rfl rfl ?_; refine At.y (Y.ldFl hr1 rfl (q := 0) rfl rfl Z.1 Z.2 rfl rfl rfl) rfl rfl rfl (At.run 2 rfl ?_); obtain ⟨F8, F9, M9, j⟩ := bjoin j; refine At.joinO 7 (X := Bool) (fun e2 => [(1, .slice A1 a1.length c1), (2, i6 a2), (3, i6 a3), (4, bp J), (10, optp L), (11, i6 a7), (79, .bool e2)]) (fun e2 => optb Q11.ow 82 L a5 :: T1 :: Fr) (fun e2 => F8 (.inl e2) = some e4) ?_ (fun r0 => ?_)
                   ·rintro e2 j; have j := (F9 _).symm.trans j
                    ·refine At.run 1 rfl ?_; obtain ⟨G0, G1, N0, j⟩ := bjoin j; refine At.joinO 7 (X := Bool) (fun e3 => [(1, .slice A1 a1.length c1), (2, i6 a2), (3, i6 a3), (4, bp J), (10, optp L), (11, i6 a7), (87, .bool e3)]) (fun e3 => optb Q11.ow 82 L a5 :: T1 :: Fr) (fun e3 => G0 (.inl e3) = some e4) ?_ (fun r1 => ?_)
                     ·rintro e3 j; have j := (G1 _).symm.trans j
                      ·refine nT ?_; rcases bite j with ⟨m3, j⟩ | ⟨m3, j⟩
                       ··refine At.condT rfl m3 ?_
                         refine sR 1 rfl (nT (At.ret ?_)); refine At.ibr ?_; refine At.thr ?_; have j := bupL s8 o0 j; refine At.thr ?_; refine At.ibr ?_; refine At.thr (At.drop .z (At.drop .z ?_)); cases bret j; exact At.res (.inl rfl) rfl rfl ⟨rfl, rfl⟩
                       ··refine At.condF rfl (bn m3) ?_
                         refine At.skip ?_; refine At.ibn ?_; refine At.thn (At.region (At.run 3 rfl (At.nil ?_))); have j := bnx hf_ j; exact fun a w e hs => ⟨F6, (IntKind.i64.wrap (a7 + 1)), F7, j, e.sub ⟨rfl, rfl, rfl, rfl, rfl, rfl, trivial⟩, hs⟩
                     ··rcases bite j with ⟨m4, j⟩ | ⟨m4, j⟩
                       ··refine At.know (t := 80) rfl m4 ?_
                         refine At.run 7 rfl ?_; exact At.of (r1 true j) ⟨rfl, rfl, rfl, rfl, rfl, rfl, rfl, trivial⟩
                       ··refine At.know (t := 80) rfl (bn m4) ?_
                         refine At.run 2 rfl (At.y (Y.ixRd hr1 rfl rfl rfl rfl rfl rfl rfl Z.1 Z.2) rfl rfl rfl ?_); refine At.y (Y.fa (RdS.some_ hr1 rfl Z.1 Z.2) rfl rfl rfl rfl rfl rfl) rfl rfl rfl ?_; refine At.y (Y.ldFl hr1 rfl (q := 0) rfl rfl Z.1 Z.2 rfl rfl rfl) rfl rfl rfl (At.run 2 rfl ?_); exact At.of (r1 (decide ((gt a1 a7).Kind = 9)) j) ⟨rfl, rfl, rfl, rfl, rfl, rfl, rfl, trivial⟩
                   ··rcases bite j with ⟨m5, j⟩ | ⟨m5, j⟩
                     ··refine At.know (t := 72) rfl (decide_eq_true m5) ?_
                       refine At.run 7 rfl ?_; exact At.of (r0 true j) ⟨rfl, rfl, rfl, rfl, rfl, rfl, rfl, trivial⟩
                     ··refine At.know (t := 72) rfl (decide_eq_false m5) ?_
                       refine At.run 2 rfl (At.y (Y.ixRd hr1 rfl rfl rfl rfl rfl rfl rfl Z.1 Z.2) rfl rfl rfl ?_); refine At.y (Y.fa (RdS.some_ hr1 rfl Z.1 Z.2) rfl rfl rfl rfl rfl rfl) rfl rfl rfl ?_; refine At.y (Y.ldFl hr1 rfl (q := 0) rfl rfl Z.1 Z.2 rfl rfl rfl) rfl rfl rfl (At.run 2 rfl ?_); exact At.of (r0 (decide ((gt a1 a7).Kind = 12)) j) ⟨rfl, rfl, rfl, rfl, rfl, rfl, rfl, trivial⟩
                 ··refine At.condF rfl (decide_eq_false m2) ?_
                   refine At.exit ?_; refine At.the ?_; refine At.the ?_; exact fun a w e hs => s9 () (bdn j o0) a w (e.sub ⟨rfl, rfl, rfl, rfl, rfl, trivial⟩) hs
           ··rcases bite j with ⟨m6, j⟩ | ⟨m6, j⟩
             ··refine At.know (t := 53) rfl m6 ?_
               refine At.run 5 rfl ?_; exact At.of (n9 true j) ⟨rfl, rfl, rfl, rfl, rfl, rfl, rfl, trivial⟩
             ··refine At.know (t := 53) rfl (bn m6) ?_
               refine At.run 2 rfl (At.y (Y.load rfl rfl (.s .z) rfl rfl rfl) rfl rfl rfl (At.run 2 rfl ?_)); exact At.of (n9 (decide (u ≤ a3)) j) ⟨rfl, rfl, rfl, rfl, rfl, rfl, rfl, trivial⟩
         ··rcases bite j with ⟨m7, j⟩ | ⟨m7, j⟩
           ··refine At.know (t := 47) rfl m7 ?_
             refine At.run 5 rfl ?_; exact At.of (n8 true j) ⟨rfl, rfl, rfl, rfl, rfl, rfl, rfl, trivial⟩
           ··refine At.know (t := 47) rfl (bn m7) ?_
             refine At.run 2 rfl (At.y (Y.load rfl rfl (.s .z) rfl rfl rfl) rfl rfl rfl (At.run 2 rfl ?_)); exact At.of (n8 (decide (u ≤ a2)) j) ⟨rfl, rfl, rfl, rfl, rfl, rfl, rfl, trivial⟩
       ··rcases bite j with ⟨m8, j⟩ | ⟨m8, j⟩
         ··refine At.know (t := 43) rfl m8 ?_
           refine At.run 3 rfl ?_; exact At.of (n7 true j) ⟨rfl, rfl, rfl, rfl, rfl, rfl, rfl, trivial⟩
         ··refine At.know (t := 43) rfl (bn m8) ?_
           refine At.run 3 rfl ?_; exact At.of (n7 (decide (a3 < 0)) j) ⟨rfl, rfl, rfl, rfl, rfl, rfl, rfl, trivial⟩
     ··rcases bite j with ⟨m9, j⟩ | ⟨m9, j⟩
       ··refine At.know (t := 39) rfl m9 ?_
         refine At.run 3 rfl ?_; exact At.of (n6 true j) ⟨rfl, rfl, rfl, rfl, rfl, rfl, rfl, trivial⟩
       ··refine At.know (t := 39) rfl (bn m9) ?_
         refine At.run 3 rfl ?_; exact At.of (n6 (decide (a2 < 0)) j) ⟨rfl, rfl, rfl, rfl, rfl, rfl, rfl, trivial⟩
   ··rcases bite j with ⟨n2, j⟩ | ⟨n2, j⟩
     ··refine At.know (t := 33) rfl n2 ?_
       refine At.run 5 rfl ?_; exact At.of (n5 true j) ⟨rfl, rfl, rfl, rfl, rfl, rfl, rfl, trivial⟩
     ··refine At.know (t := 33) rfl (bn n2) ?_
       refine At.run 1 rfl (At.y (Y.load rfl rfl (.s .z) rfl rfl rfl) rfl rfl rfl (At.run 3 rfl ?_)); exact At.of (n5 (decide ((D.length : Int) = 0)) j) ⟨rfl, rfl, rfl, rfl, rfl, rfl, rfl, trivial⟩
 ··rcases bite j with ⟨n3, j⟩ | ⟨n3, j⟩
   ··refine At.know (t := 29) rfl (nf n3) ?_
     refine At.run 1 rfl ?_; refine At.y (Y.eqOpt .z rfl rfl rfl rfl) rfl rfl rfl ?_; refine At.run 1 rfl ?_; exact At.of (n4 a5.isNone j) ⟨rfl, rfl, rfl, rfl, rfl, rfl, rfl, trivial⟩
   ··refine At.know (t := 29) rfl (nt (bn n3)) ?_
     refine At.run 3 rfl ?_; exact At.of (n4 true j) ⟨rfl, rfl, rfl, rfl, rfl, rfl, rfl, trivial⟩

end Go.Bw
namespace Go.Bw
open Go Go.RowKit

theorem Q68 {σ ρ : Type} {body : σ → Option (σ ⊕ ρ)} (I : σ → Prop) (Q : ρ → Prop) (μ : σ → Nat) (h : ∀ s, I s → (∃ r, body s = some (.inr r) ∧ Q r) ∨ ∃ s', body s = some (.inl s') ∧ I s' ∧ μ s' < μ s) :
 ∀ s, I s → ∃ r, iter body s = some r ∧ Q r := by
 have key : ∀ n s, μ s < n → I s → ∃ r, iter body s = some r ∧ Q r := by
  intro n
  induction n with
  | zero => intro s hn; omega
  | succ n ih =>
   intro s hn hI
   rw [Q71]
   rcases h s hI with ⟨r, hr, hq⟩ | ⟨s', hs, hI', hlt⟩
   ·exact ⟨r, by rw [hr]; rfl, hq⟩
   ·obtain ⟨r, hr, hq⟩ := ih s' (by omega) hI'
    exact ⟨r, by rw [hs]; exact hr, hq⟩
 exact fun s hI => key _ s (Nat.lt_succ_self _) hI
theorem wrap64 {x : Int} (h0 : -9223372036854775808 ≤ x) (h1 : x ≤ 9223372036854775807) : IntKind.i64.wrap x = x := by
 simp [IntKind.wrap, IntKind.bits, IntKind.signed]
 omega
section
variable {α : Type} [Inhabited α]
theorem Q102 (xs : List α) (i : Int) (x : α) : (st xs i x).length = xs.length := by simp [st]
theorem Q90 {xs : List α} {i j : Int} {x : α} (hi : 0 ≤ i) (hi' : i < (xs.length : Int)) (hj : 0 ≤ j) : gt (st xs i x) j = if j = i then x else gt xs j := by
 unfold gt st
 rw [List.getD_eq_getElem?_getD, List.getD_eq_getElem?_getD, List.getElem?_set]
 by_cases h : j = i
 ·subst h
  have : j.toNat < xs.length := by omega
  simp [this]
 ·have : ¬ i.toNat = j.toNat := by omega
  simp [this, h]
theorem Q105 {xs : List α} {i : Int} (h0 : 0 ≤ i) (h1 : i < (xs.length : Int)) : gt xs i ∈ xs := List.mem_of_getElem? (Q101 h0 h1)
theorem Q126 {xs : List α} {i : Nat} {x : α} (h : xs[i]? = some x) : gt xs (i : Int) = x := by
 unfold gt
 simp [List.getD_eq_getElem?_getD, h]
end
end Go.Bw
namespace Go.Bw
open Go Go.RowKit

theorem up_loop {ρ : Type} {body : Int → Option (Int ⊕ ρ)} {N : Int} {Q : ρ → Prop} (hN : N ≤ 9223372036854775807) (k0 : Int) (h0 : -9223372036854775808 ≤ k0) (h : ∀ i, k0 ≤ i → (∃ r, body i = some (.inr r) ∧ Q r) ∨ i < N ∧ body i = some (.inl (IntKind.i64.wrap (i + 1)))) :
 ∃ r, iter body k0 = some r ∧ Q r := by
 refine Q68 (fun i => k0 ≤ i) Q (fun i => (N - i).toNat) (fun i hi => ?_) k0 (Int.le_refl _)
 rcases h i hi with h | ⟨h1, h2⟩
 ·exact .inl h
 ·right
  rw [wrap64 (by omega) (by omega)] at h2
  exact ⟨_, h2, by omega, by omega⟩
theorem jn_true {x : Option (Unit ⊕ Bool)} (h : ∃ r, x = some r ∧ True) : ∃ b, jn x (fun _ => some true) = some b := by
 obtain ⟨r, rfl, _⟩ := h
 cases r <;> exact ⟨_, rfl⟩
theorem jn_int {x : Option (Unit ⊕ Int)} (h : ∃ r, x = some r ∧ True) : ∃ b, jn x (fun _ => some (-1)) = some b := by
 obtain ⟨r, rfl, _⟩ := h
 cases r <;> exact ⟨_, rfl⟩
theorem in_run (a n : Int) (x : List Bs) (y : List Q3) (z : List Q4) : Q81.f a n x y z = some (decide (0 ≤ a ∧ a < n)) := by
 unfold Q81.f
 by_cases h : 0 ≤ a <;> simp [h, jn]
theorem Q156 {σ ρ : Type} {x : Option (σ ⊕ ρ)} {f : σ → Option ρ} (hx : ∃ t, x = some t) (hf : ∀ s, ∃ r, f s = some r) : ∃ r, jn x f = some r := by
 obtain ⟨t, rfl⟩ := hx
 cases t with
 | inl s => exact hf s
 | inr r => exact ⟨r, rfl⟩
theorem rune_name (r : Int) : ∃ b, Q107.f r = some b := by
 unfold Q107.f
 repeat' first
  | exact ⟨_, rfl⟩
  | refine Q156 ?_ fun _ => ?_
  | split
def EdgeIn (n : Int) (m : Nat) (e : Q3) : Prop := 0 ≤ e.From ∧ e.From < n ∧ 0 ≤ e.To ∧ e.To < n ∧ 0 ≤ e.Action ∧ e.Action < (m : Int)
end Go.Bw
namespace Go.Bw
open Go Go.RowKit

theorem Q176 {ρ : Type} {body : Int → Option (Int ⊕ (Unit ⊕ ρ))} {N : Int} {p : Int → Prop} {bad : ρ} (hN : N ≤ 9223372036854775807) (k0 : Int) (h0 : 0 ≤ k0)
 (h : ∀ i, k0 ≤ i → i < N → (p i ∧ body i = some (.inl (IntKind.i64.wrap (i + 1)))) ∨ (¬ p i ∧ body i = some (.inr (.inr bad)))) (he : ∀ i, ¬ i < N → body i = some (.inr (.inl ()))) :
 (iter body k0 = some (.inl ()) ∧ ∀ i, k0 ≤ i → i < N → p i) ∨ (iter body k0 = some (.inr bad) ∧ ∃ i, k0 ≤ i ∧ i < N ∧ ¬ p i) := by
 obtain ⟨r, hr, hq⟩ := Q68 (body := body) (fun i => k0 ≤ i ∧ ∀ j, k0 ≤ j → j < i → p j) (fun r => (r = .inl () ∧ ∀ i, k0 ≤ i → i < N → p i) ∨ (r = .inr bad ∧ ∃ i, k0 ≤ i ∧ i < N ∧ ¬ p i)) (fun i => (N - i).toNat) (fun i ⟨h1, h2⟩ => by
  by_cases hi : i < N
  ·rcases h i h1 hi with ⟨hp, hb⟩ | ⟨hp, hb⟩
   ·right
    rw [wrap64 (by omega) (by omega)] at hb
    refine ⟨_, hb, ⟨by omega, fun j j0 j1 => ?_⟩, by omega⟩
    by_cases hj : j = i
    ·subst hj; exact hp
    ·exact h2 j j0 (by omega)
   ·left; exact ⟨_, hb, .inr ⟨rfl, i, h1, hi, hp⟩⟩
  ·left; exact ⟨_, he i hi, .inl ⟨rfl, fun j j0 j1 => h2 j j0 (by omega)⟩⟩) k0 ⟨Int.le_refl _, fun j j0 j1 => by omega⟩
 rcases hq with ⟨rfl, hq⟩ | ⟨rfl, hq⟩
 ·exact .inl ⟨hr, hq⟩
 ·exact .inr ⟨hr, hq⟩
def OkB (c : Int) : Prop := 97 ≤ c ∧ c ≤ 122 ∨ 65 ≤ c ∧ c ≤ 90 ∨ 48 ≤ c ∧ c ≤ 57 ∨ c = 95
theorem rune_run (r : Int) : ∃ b, Q107.f r = some b ∧ (b = true ↔ ¬ OkB r) := by
 obtain ⟨b, hb⟩ := rune_name r
 refine ⟨b, hb, ?_⟩
 unfold Q107.f at hb
 unfold OkB
 by_cases h1 : 97 ≤ r <;> by_cases h2 : 65 ≤ r <;> by_cases h3 : 48 ≤ r <;> simp [h1, h2, h3, jn] at hb <;> (try omega) <;>
  (by_cases h4 : r ≤ 122 <;> by_cases h5 : r ≤ 90 <;> by_cases h6 : r ≤ 57 <;> by_cases h7 : r = 95 <;> simp [h4, h5, h6, h7] at hb <;> first | omega | (subst hb; simp; omega))
theorem rune_low {s : Bs} {k : Nat} (hk : k < s.length) (h : bat s k < 128) : runeAt s k = bat s k ∧ runeLen s k = 1 := by
 have hg : ((ByteArray.mk s.toArray).get! k).toNat = (s.getD k 0).toNat := by
  simp [ByteArray.get!, List.getD_eq_getElem?_getD, hk]
 have h' : (s.getD k 0).toNat < 128 := by
  have : bat s k = ((s.getD k 0).toNat : Int) := by simp [bat]
  omega
 unfold runeAt runeLen Utf8.decode
 simp only [Nat.add_zero, hg, if_pos (show (s.getD k 0).toNat < 0x80 from h')]
 simp [bat]
theorem rune_high {s : Bs} {k : Nat} (hk : k < s.length) (h : 128 ≤ bat s k) : 128 ≤ runeAt s k := by
 have hg : ((ByteArray.mk s.toArray).get! k).toNat = (s.getD k 0).toNat := by
  simp [ByteArray.get!, List.getD_eq_getElem?_getD, hk]
 have h' : ¬ (s.getD k 0).toNat < 0x80 := by
  have : bat s k = ((s.getD k 0).toNat : Int) := by simp [bat]
  omega
 unfold runeAt Utf8.decode
 simp only [Nat.add_zero, hg, if_neg h']
 have e : (Utf8.runeError : Nat) = 65533 := rfl
 repeat' split
 all_goals try dsimp only
 all_goals first
  | omega
  | (rename_i hc; simp only [Bool.and_eq_true, decide_eq_true_eq] at hc; omega)
  | (rw [e]; omega)
theorem okB_low {c : Int} (h : OkB c) : c < 128 := by unfold OkB at h; omega
def NameS (s : Bs) : Prop := 1 ≤ s.length ∧ s.length ≤ 8 ∧ 97 ≤ bat s 0 ∧ bat s 0 ≤ 122 ∧ s ≠ [116, 116] ∧ s ≠ [102, 102] ∧ s ≠ [109, 117] ∧ s ≠ [110, 117] ∧ ∀ i : Int, 0 ≤ i → i < (s.length : Int) → OkB (bat s i)
theorem Q325 (s : Bs) : ∃ b, Q122.f s = some b ∧ (b = true ↔ ¬ ∀ i : Int, 0 ≤ i → i < (s.length : Int) → OkB (bat s i)) := by
 obtain ⟨r, hr, hq⟩ := Q68 (body := fun t_ : Nat => Q57.l0b s true t_) (fun k => ∀ i : Int, 0 ≤ i → i < (k : Int) → i < (s.length : Int) → OkB (bat s i))
  (fun r => (∃ k, r = .inl k ∧ ∀ i : Int, 0 ≤ i → i < (s.length : Int) → OkB (bat s i)) ∨ ∃ k : Nat, r = .inr (k : Int) ∧ ¬ ∀ i : Int, 0 ≤ i → i < (s.length : Int) → OkB (bat s i)) (fun k => s.length - k) (fun k hI => by
   unfold Q57.l0b
   by_cases hk : k < s.length
   ·obtain ⟨b, hb, hb2⟩ := rune_run (runeAt s k)
    rw [if_pos hk, hb]
    simp only [Option.bind_some]
    by_cases hl : bat s k < 128
    ·obtain ⟨e1, e2⟩ := rune_low hk hl
     rw [e1] at hb2
     rw [e2]
     cases b with
     | true =>
      left
      refine ⟨_, rfl, .inr ⟨k, rfl, fun hall => hb2.1 rfl (hall k (by omega) (by omega))⟩⟩
     | false =>
      right
      have hok : OkB (bat s k) := Classical.not_not.1 fun h => by have := hb2.2 h; cases this
      refine ⟨_, rfl, fun i i0 i1 i2 => ?_, by omega⟩
      by_cases hi : i = (k : Int)
      ·subst hi; exact hok
      ·exact hI i i0 (by omega) i2
    ·have hh := rune_high hk (by omega)
     have hbt : b = true := hb2.2 fun h => by have := okB_low h; omega
     subst hbt
     left
     exact ⟨_, rfl, .inr ⟨k, rfl, fun hall => by have := okB_low (hall k (by omega) (by omega)); omega⟩⟩
   ·left; rw [if_neg hk]; exact ⟨_, rfl, .inl ⟨k, rfl, fun i i0 i1 => hI i i0 (by omega) i1⟩⟩) 0 (fun i i0 i1 => by omega)
 unfold Q122.f Q132.f Q57.f Q57.l0
 rw [hr]
 rcases hq with ⟨k, rfl, hq⟩ | ⟨k, rfl, hq⟩
 ·exact ⟨false, rfl, by simp; exact hq⟩
 ·exact ⟨true, by simp [jn], by simp only [true_iff]; exact hq⟩
end Go.Bw
namespace Go.Bw
open Go Go.RowKit

theorem Q179 {x : Option (Unit ⊕ Bool)} {p : Prop} (h : (x = some (.inl ()) ∧ p) ∨ (x = some (.inr false) ∧ ¬ p)) : ∃ b, jn x (fun _ => some true) = some b ∧ (b = true ↔ p) := by
 rcases h with ⟨rfl, h⟩ | ⟨rfl, h⟩
 ·exact ⟨true, rfl, by simp [h]⟩
 ·exact ⟨false, rfl, by simp [h]⟩
theorem Q253 (s : Bs) : ∃ b, Q85.f s = some b ∧ (b = true ↔ NameS s) := by
 obtain ⟨c, hc, hc2⟩ := Q325 s
 unfold Q85.f NameS
 by_cases h1 : (s.length : Int) < 1
 ·exact ⟨false, by simp [h1, jn], by simp; omega⟩
 by_cases h2 : 8 < (s.length : Int)
 ·exact ⟨false, by simp [h1, h2, jn], by simp; omega⟩
 have h0 : (0 : Int) ≤ 0 ∧ 0 < (s.length : Int) := by omega
 simp only [if_neg h1, Q13, decide_eq_false h2, Bool.false_eq_true, if_false, if_pos h0]
 by_cases h3 : bat s 0 < 97
 ·exact ⟨false, by simp [h3, jn], by simp; omega⟩
 by_cases h4 : 122 < bat s 0
 ·exact ⟨false, by simp [h3, h4, jn], by simp; omega⟩
 simp only [decide_eq_false h3, decide_eq_false h4, Bool.false_eq_true, if_false, Q13, Q166, hc, Option.bind_some]
 by_cases k1 : s = [116, 116]
 ·exact ⟨false, by simp [k1], by simp [k1]⟩
 by_cases k2 : s = [102, 102]
 ·exact ⟨false, by simp [k2], by simp [k2]⟩
 by_cases k3 : s = [109, 117]
 ·exact ⟨false, by simp [k3], by simp [k3]⟩
 by_cases k4 : s = [110, 117]
 ·exact ⟨false, by simp [k4], by simp [k4]⟩
 refine ⟨!c, by simp [k1, k2, k3, k4], ?_⟩
 have hc3 : (!c) = true ↔ ∀ i : Int, 0 ≤ i → i < (s.length : Int) → OkB (bat s i) := by
  cases c with
  | true => simp only [Bool.not_true, Bool.false_eq_true, false_iff]; exact hc2.1 rfl
  | false =>
   simp only [Bool.not_false, true_iff]
   exact Classical.not_not.1 fun h => by have := hc2.2 h; cases this
 rw [hc3]
 exact ⟨fun h => ⟨by omega, by omega, by omega, by omega, k1, k2, k3, k4, h⟩, fun h => h.2.2.2.2.2.2.2.2⟩
def Rise {α : Type} [Inhabited α] (lt : α → α → Prop) (a : List α) : Prop := ∀ i : Int, 1 ≤ i → i < (a.length : Int) → lt (gt a (i - 1)) (gt a i)
theorem Q310 (a : List Int) (ha : (a.length : Int) ≤ 9223372036854775807) : ∃ b, Q64.f a = some b ∧ (b = true ↔ Rise (· < ·) a) := by
 refine Q179 ?_
 rcases Q176 (body := fun t_ : Int => Q64.l0b a t_) (N := a.length) (p := fun i => gt a (i - 1) < gt a i) (bad := false) ha 1 (by decide) (fun i h0 h1 => by
  simp only [Q64.l0b]
  rw [if_pos h1, wrap64 (x := i - 1) (by omega) (by omega), if_pos (by omega), if_pos (by omega), Q236]
  simp only [Option.bind_some]
  by_cases hp : gt a (i - 1) < gt a i
  ·left; rw [if_neg (by have := Q175.2 hp; omega)]; exact ⟨hp, rfl⟩
  ·right; rw [if_pos (by have : ¬ cmp3 (gt a (i - 1)) (gt a i) < 0 := fun h => hp (Q175.1 h); omega)]; exact ⟨hp, rfl⟩) (fun i h => by simp only [Q64.l0b]; rw [if_neg h]; rfl) with ⟨h, q⟩ | ⟨h, i, i0, i1, i2⟩
 ·exact .inl ⟨h, q⟩
 ·exact .inr ⟨h, fun hr => i2 (hr i i0 i1)⟩
def BLt (x y : Bs) : Prop := Lib.compareBytes x y < 0
theorem Q319 (a : List Bs) (ha : (a.length : Int) ≤ 9223372036854775807) : ∃ b, Q55.f a = some b ∧ (b = true ↔ Rise BLt a) := by
 refine Q179 ?_
 rcases Q176 (body := fun t_ : Int => Q55.l0b a t_) (N := a.length) (p := fun i => BLt (gt a (i - 1)) (gt a i)) (bad := false) ha 1 (by decide) (fun i h0 h1 => by
  simp only [Q55.l0b]
  rw [if_pos h1, wrap64 (x := i - 1) (by omega) (by omega), if_pos (by omega), if_pos (by omega)]
  simp only [Q99.f, Q117.f, Option.bind_some]
  by_cases hp : BLt (gt a (i - 1)) (gt a i)
  ·left; rw [if_neg (by unfold BLt at hp; omega)]; exact ⟨hp, rfl⟩
  ·right; rw [if_pos (by unfold BLt at hp; omega)]; exact ⟨hp, rfl⟩) (fun i h => by simp only [Q55.l0b]; rw [if_neg h]; rfl) with ⟨h, q⟩ | ⟨h, i, i0, i1, i2⟩
 ·exact .inl ⟨h, q⟩
 ·exact .inr ⟨h, fun hr => i2 (hr i i0 i1)⟩
theorem Q327 (a : List Q4) (ha : (a.length : Int) ≤ 9223372036854775807) : ∃ b, Q56.f a = some b ∧ (b = true ↔ Rise (fun p q => BLt p.Name q.Name) a) := by
 refine Q179 ?_
 rcases Q176 (body := fun t_ : Int => Q56.l0b a t_) (N := a.length) (p := fun i => BLt (gt a (i - 1)).Name (gt a i).Name) (bad := false) ha 1 (by decide) (fun i h0 h1 => by
  simp only [Q56.l0b]
  rw [if_pos h1, wrap64 (x := i - 1) (by omega) (by omega), if_pos (by omega), if_pos (by omega)]
  simp only [Q114.f, Q99.f, Q117.f, Option.bind_some]
  by_cases hp : BLt (gt a (i - 1)).Name (gt a i).Name
  ·left; rw [if_neg (by unfold BLt at hp; omega)]; exact ⟨hp, rfl⟩
  ·right; rw [if_pos (by unfold BLt at hp; omega)]; exact ⟨hp, rfl⟩) (fun i h => by simp only [Q56.l0b]; rw [if_neg h]; rfl) with ⟨h, q⟩ | ⟨h, i, i0, i1, i2⟩
 ·exact .inl ⟨h, q⟩
 ·exact .inr ⟨h, fun hr => i2 (hr i i0 i1)⟩
theorem Q295 (a : List Q3) (ha : (a.length : Int) ≤ 9223372036854775807) : ∃ b, Q61.f a = some b ∧ (b = true ↔ Rise edgeLt a) := by
 refine Q179 ?_
 rcases Q176 (body := fun t_ : Int => Q61.l0b a t_) (N := a.length) (p := fun i => edgeLt (gt a (i - 1)) (gt a i)) (bad := false) ha 1 (by decide) (fun i h0 h1 => by
  simp only [Q61.l0b]
  rw [if_pos h1, wrap64 (x := i - 1) (by omega) (by omega), if_pos (by omega), if_pos (by omega), Q234]
  simp only [Option.bind_some]
  by_cases hp : edgeLt (gt a (i - 1)) (gt a i)
  ·left; rw [if_neg (by have := Q225.2 hp; omega)]; exact ⟨hp, rfl⟩
  ·right; rw [if_pos (by have : ¬ edgeCmp (gt a (i - 1)) (gt a i) < 0 := fun h => hp (Q225.1 h); omega)]; exact ⟨hp, rfl⟩) (fun i h => by simp only [Q61.l0b]; rw [if_neg h]; rfl) with ⟨h, q⟩ | ⟨h, i, i0, i1, i2⟩
 ·exact .inl ⟨h, q⟩
 ·exact .inr ⟨h, fun hr => i2 (hr i i0 i1)⟩
end Go.Bw
namespace Go.Bw
open Go Go.RowKit

theorem names_iff (a : List Bs) (ha : (a.length : Int) ≤ 9223372036854775807) : ∃ b, Q124.f a = some b ∧ (b = true ↔ ¬ ∀ s ∈ a, NameS s) := by
 -- all that is passed is a name
 have key := Q68 (body := fun t_ : Int => Q53.l0b a t_) (fun i => 0 ≤ i ∧ ∀ j : Int, 0 ≤ j → j < i → j < (a.length : Int) → NameS (gt a j)) (fun r => r = .inl () ∧ (∀ s ∈ a, NameS s) ∨ ∃ k : Int, 0 ≤ k ∧ r = .inr k ∧ ¬ ∀ s ∈ a, NameS s) (fun i => ((a.length : Int) - i).toNat) (fun i ⟨h0, h2⟩ => by
  unfold Q53.l0b Q139.f
  by_cases h1 : i < (a.length : Int)
  ·obtain ⟨c, hc, hc2⟩ := Q253 (gt a i)
   rw [if_pos h1, if_pos ⟨h0, h1⟩, hc]
   simp only [Option.bind_some]
   cases c with
   | true =>
    right
    rw [wrap64 (x := i + 1) (by omega) (by omega)]
    refine ⟨_, rfl, ⟨by omega, fun j j0 j1 j2 => ?_⟩, by omega⟩
    by_cases hj : j = i
    ·subst hj; exact hc2.1 rfl
    ·exact h2 j j0 (by omega) j2
   | false => left; exact ⟨_, rfl, .inr ⟨i, h0, rfl, fun h => by have := hc2.2 (h _ (Q105 h0 h1)); cases this⟩⟩
  ·left; rw [if_neg h1]
   refine ⟨_, rfl, .inl ⟨rfl, fun s hs => ?_⟩⟩
   obtain ⟨k, hk, rfl⟩ := List.getElem_of_mem hs
   have := h2 k (by omega) (by omega) (by omega)
   rwa [Q126 (List.getElem?_eq_getElem hk)] at this) 0 ⟨Int.le_refl _, fun j j0 j1 => by omega⟩
 obtain ⟨r', hr', hq'⟩ := key
 unfold Q124.f Q53.f Q53.l0
 rw [hr']
 rcases hq' with ⟨rfl, h⟩ | ⟨k, k0, rfl, h⟩
 ·exact ⟨false, rfl, by simp; exact h⟩
 ·exact ⟨true, by simp [jn, k0], by simp only [true_iff]; exact h⟩
def StatesS (n : Int) (a : List Int) : Prop := (∀ s ∈ a, 0 ≤ s ∧ s < n) ∧ Rise (· < ·) a
theorem inS_iff (a : List Int) (n : Int) (x : List Bs) (y : List Q3) (z : List Q4) (ha : (a.length : Int) ≤ 9223372036854775807) : ∃ b, Q121.f a n x y z = some b ∧ (b = true ↔ ¬ ∀ s ∈ a, 0 ≤ s ∧ s < n) := by
 have key := Q68 (body := fun t_ : Int => Q62.l0b a n x y z t_) (fun i => 0 ≤ i ∧ ∀ j : Int, 0 ≤ j → j < i → j < (a.length : Int) → 0 ≤ gt a j ∧ gt a j < n) (fun r => r = .inl () ∧ (∀ s ∈ a, 0 ≤ s ∧ s < n) ∨ ∃ k : Int, 0 ≤ k ∧ r = .inr k ∧ ¬ ∀ s ∈ a, 0 ≤ s ∧ s < n) (fun i => ((a.length : Int) - i).toNat) (fun i ⟨h0, h2⟩ => by
  unfold Q62.l0b Q138.f
  by_cases h1 : i < (a.length : Int)
  ·rw [if_pos h1, if_pos ⟨h0, h1⟩, in_run]
   simp only [Option.bind_some]
   by_cases hp : 0 ≤ gt a i ∧ gt a i < n
   ·right
    rw [wrap64 (x := i + 1) (by omega) (by omega)]
    refine ⟨i + 1, by simp [hp, nx], ⟨by omega, fun j j0 j1 j2 => ?_⟩, by omega⟩
    by_cases hj : j = i
    ·subst hj; exact hp
    ·exact h2 j j0 (by omega) j2
   ·left; exact ⟨.inr i, by simp [hp, upL], .inr ⟨i, h0, rfl, fun h => hp (h _ (Q105 h0 h1))⟩⟩
  ·left; rw [if_neg h1]
   refine ⟨_, rfl, .inl ⟨rfl, fun s hs => ?_⟩⟩
   obtain ⟨k, hk, rfl⟩ := List.getElem_of_mem hs
   have := h2 k (by omega) (by omega) (by omega)
   rwa [Q126 (List.getElem?_eq_getElem hk)] at this) 0 ⟨Int.le_refl _, fun j j0 j1 => by omega⟩
 obtain ⟨r', hr', hq'⟩ := key
 unfold Q121.f Q62.f Q62.l0
 rw [hr']
 rcases hq' with ⟨rfl, h⟩ | ⟨k, k0, rfl, h⟩
 ·exact ⟨false, rfl, by simp; exact h⟩
 ·exact ⟨true, by simp [jn, k0], by simp only [true_iff]; exact h⟩
end Go.Bw
namespace Go.Bw
open Go Go.RowKit

def W8 (v : BitVec 8) : Int := (v.toNat : Int)
theorem Q178 (v : BitVec 8) : BitVec.ofInt 8 (W8 v) = v := by
 unfold W8
 apply BitVec.eq_of_toNat_eq
 simp
theorem W8.inj {u v : BitVec 8} (h : W8 u = W8 v) : u = v := by rw [← Q178 u, h, Q178]
theorem wrap8 {x : Int} (h0 : 0 ≤ x) (h1 : x < 256) : IntKind.u8.wrap x = x := by
 simp [IntKind.wrap, IntKind.bits, IntKind.signed]
 omega
theorem wrap_w8 (v : BitVec 8) : IntKind.u8.wrap (v.toNat : Int) = W8 v := by
 have := v.isLt
 exact wrap8 (by omega) (by omega)
theorem bor_w8 (u v : BitVec 8) : bor .u8 (W8 u) (W8 v) = W8 (u ||| v) := by
 show IntKind.u8.wrap ((BitVec.ofInt 8 (W8 u) ||| BitVec.ofInt 8 (W8 v)).toNat : Int) = _
 rw [Q178, Q178, wrap_w8]
theorem shl8 {k : Int} (h0 : 0 ≤ k) (h1 : k < 8) : Bw.shl .u8 1 k = W8 (BitVec.twoPow 8 k.toNat) := by
 obtain ⟨m, rfl⟩ := Int.eq_ofNat_of_zero_le h0
 have hm : m < 8 := by omega
 match m, hm with
 | 0, _ => rfl
 | 1, _ => rfl
 | 2, _ => rfl
 | 3, _ => rfl
 | 4, _ => rfl
 | 5, _ => rfl
 | 6, _ => rfl
 | 7, _ => rfl
def full8 (m : Nat) : BitVec 8 := BitVec.allOnes 8 >>> (8 - m)
theorem full_run {m : Nat} (hm : m ≤ 8) : IntKind.u8.wrap (Bw.shl .u8 1 (m : Int) - 1) = W8 (full8 m) := by
 match m, hm with
 | 0, _ => rfl
 | 1, _ => rfl
 | 2, _ => rfl
 | 3, _ => rfl
 | 4, _ => rfl
 | 5, _ => rfl
 | 6, _ => rfl
 | 7, _ => rfl
 | 8, _ => rfl
theorem Q270 {m k : Nat} (hm : m ≤ 8) (hk : k < 8) : (full8 m).getLsbD k = decide (k < m) := by
 unfold full8
 rw [BitVec.getLsbD_ushiftRight, BitVec.getLsbD_allOnes]
 rw [decide_eq_decide]
 omega
def UsedS (m : Nat) (y : List Q3) : Prop := ∀ k : Int, 0 ≤ k → k < (m : Int) → ∃ e ∈ y, e.Action = k
def Mask (v : BitVec 8) (y : List Q3) : Prop := ∀ k : Nat, k < 8 → (v.getLsbD k = true ↔ ∃ e ∈ y, e.Action = (k : Int))
theorem Q258 {v : BitVec 8} {y : List Q3} {n : Int} {m : Nat} (hv : Mask v y) (hm : m ≤ 8) (he : ∀ e ∈ y, EdgeIn n m e) : v = full8 m ↔ UsedS m y := by
 constructor
 ·rintro rfl k k0 k1
  have := (hv k.toNat (by omega)).1 (by rw [Q270 hm (by omega)]; simp; omega)
  obtain ⟨e, h1, h2⟩ := this
  exact ⟨e, h1, by omega⟩
 ·intro h
  apply BitVec.eq_of_getLsbD_eq
  intro k hk
  rw [Q270 hm hk, Bool.eq_iff_iff, hv k hk, decide_eq_true_eq]
  constructor
  ·rintro ⟨e, h1, h2⟩
   have := (he e h1).2.2.2.2.2
   omega
  ·intro hkm
   exact h k (by omega) (by omega)
theorem edges_iff (n : Int) (x : List Bs) (y : List Q3) (z : List Q4) (hy : (y.length : Int) ≤ 9223372036854775807) (hx : x.length ≤ 8) :
 (∃ v, Q25.l0 n x y z 0 0 = some (.inl (W8 v)) ∧ Mask v y ∧ ∀ e ∈ y, EdgeIn n x.length e) ∨ (Q25.l0 n x y z 0 0 = some (.inr false) ∧ ¬ ∀ e ∈ y, EdgeIn n x.length e) := by
 obtain ⟨r, hr, hq⟩ := Q68 (body := fun t_ : Int × Int => Q25.l0b n x y z t_.1 t_.2) (fun s => 0 ≤ s.2 ∧ s.2 ≤ (y.length : Int) ∧ (∀ e ∈ y.take s.2.toNat, EdgeIn n x.length e) ∧ ∃ v, s.1 = W8 v ∧ Mask v (y.take s.2.toNat))
  (fun r => (∃ v, r = .inl (W8 v) ∧ Mask v y ∧ ∀ e ∈ y, EdgeIn n x.length e) ∨ (r = .inr false ∧ ¬ ∀ e ∈ y, EdgeIn n x.length e)) (fun s => ((y.length : Int) - s.2).toNat) (fun ⟨u, i⟩ ⟨h0, h1, h2, v, h3, h4⟩ => by
   dsimp only at h0 h1 h2 h3 h4 ⊢
   subst h3
   unfold Q25.l0b
   by_cases hi : i < (y.length : Int)
   ·have hm := Q105 h0 hi
    rw [if_pos hi, if_pos ⟨h0, hi⟩, in_run, in_run]
    simp only [Option.bind_some]
    by_cases e1 : 0 ≤ (gt y i).From ∧ (gt y i).From < n
    ·by_cases e2 : 0 ≤ (gt y i).To ∧ (gt y i).To < n
     ·by_cases e3 : (gt y i).Action < 0
      ·left; exact ⟨_, by simp [e1, e2, e3, jn, upL], .inr ⟨rfl, fun h => by have := (h _ hm).2.2.2.2.1; omega⟩⟩
      ·by_cases e4 : (x.length : Int) ≤ (gt y i).Action
       ·left; exact ⟨_, by simp [e1, e2, e3, e4, jn, upL], .inr ⟨rfl, fun h => by have := (h _ hm).2.2.2.2.2; omega⟩⟩
       ·right
        have e5 : 0 ≤ (gt y i).Action := by omega
        have hw : IntKind.i64.wrap (i + 1) = i + 1 := wrap64 (by omega) (by omega)
        have ht : y.take (i + 1).toNat = y.take i.toNat ++ [gt y i] := by
         rw [show (i + 1).toNat = i.toNat + 1 from by omega, List.take_add_one, Q101 h0 hi]; rfl
        refine ⟨(W8 (v ||| BitVec.twoPow 8 (gt y i).Action.toNat), i + 1), by simp [e1, e2, e3, e4, e5, jn, nx, hw, shl8 e5 (by omega), bor_w8], ⟨by dsimp only; omega, by dsimp only; omega, fun e he => ?_, _, rfl, fun k hk => ?_⟩, by dsimp only; omega⟩
        ·dsimp only at he
         rw [ht] at he
         rcases List.mem_append.1 he with he | he
         ·exact h2 e he
         ·simp at he; subst he
          exact ⟨e1.1, e1.2, e2.1, e2.2, e5, by omega⟩
        ·dsimp only
         rw [ht, BitVec.getLsbD_or, Bool.or_eq_true, h4 k hk, BitVec.getLsbD_twoPow]
         constructor
         ·rintro (⟨e, a, b⟩ | h)
          ·exact ⟨e, by simp [a], b⟩
          ·simp at h
           exact ⟨gt y i, by simp, by omega⟩
         ·rintro ⟨e, a, b⟩
          rcases List.mem_append.1 a with a | a
          ·exact .inl ⟨e, a, b⟩
          ·simp at a
           subst a
           right
           simp
           omega
     ·left; exact ⟨_, by simp [e1, e2, jn, upL], .inr ⟨rfl, fun h => e2 ⟨(h _ hm).2.2.1, (h _ hm).2.2.2.1⟩⟩⟩
    ·left; exact ⟨_, by simp [e1, jn, upL], .inr ⟨rfl, fun h => e1 ⟨(h _ hm).1, (h _ hm).2.1⟩⟩⟩
   ·left
    rw [if_neg hi]
    rw [List.take_of_length_le (by omega)] at h2 h4
    exact ⟨_, rfl, .inl ⟨v, rfl, h4, h2⟩⟩) (0, 0) ⟨Int.le_refl _, by dsimp only; omega, by simp, 0#8, rfl, fun k hk => by simp⟩
 rcases hq with ⟨v, rfl, h⟩ | ⟨rfl, h⟩
 ·exact .inl ⟨v, hr, h⟩
 ·exact .inr ⟨hr, h⟩
def PropS (n : Int) (p : Q4) : Prop := NameS p.Name ∧ StatesS n p.States
theorem props_iff (n : Int) (x : List Bs) (y : List Q3) (z : List Q4) (hz : (z.length : Int) ≤ 9223372036854775807) (hs : ∀ p ∈ z, (p.States.length : Int) ≤ 9223372036854775807) :
 (Q25.l1 n x y z 0 = some (.inl ()) ∧ ∀ p ∈ z, PropS n p) ∨ (Q25.l1 n x y z 0 = some (.inr false) ∧ ¬ ∀ p ∈ z, PropS n p) := by
 have key := Q176 (body := fun t_ : Int => Q25.l1b n x y z t_) (N := z.length) (p := fun i => PropS n (gt z i)) (bad := false) hz 0 (by decide) (fun i hi h1 => by
  simp only [Q25.l1b]
  obtain ⟨b1, hb1, c1⟩ := Q253 (gt z i).Name
  obtain ⟨b2, hb2, c2⟩ := Q310 (gt z i).States (hs _ (Q105 hi h1))
  obtain ⟨b3, hb3, c3⟩ := inS_iff (gt z i).States n x y z (hs _ (Q105 hi h1))
  rw [if_pos h1, if_pos ⟨hi, h1⟩, hb1, hb2, hb3]
  unfold PropS StatesS
  rw [← c1, ← c2]
  have c3' : (∀ s ∈ (gt z i).States, 0 ≤ s ∧ s < n) ↔ b3 = false := by
   cases b3 with
   | true => simp only [Bool.true_eq_false, iff_false]; exact c3.1 rfl
   | false => simp only [iff_true]; exact Classical.not_not.1 fun h => by have := c3.2 h; cases this
  rw [c3']
  cases b1 <;> cases b2 <;> cases b3 <;> simp [jn, nx, upL]) (fun i h => by simp only [Q25.l1b]; rw [if_neg h]; rfl)
 have hiff : (∀ i : Int, 0 ≤ i → i < (z.length : Int) → PropS n (gt z i)) ↔ ∀ p ∈ z, PropS n p := by
  constructor
  ·intro h p hp
   obtain ⟨k, hk, rfl⟩ := List.getElem_of_mem hp
   have := h k (by omega) (by omega)
   rwa [Q126 (List.getElem?_eq_getElem hk)] at this
  ·exact fun h i i0 i1 => h _ (Q105 i0 i1)
 rcases key with ⟨h, q⟩ | ⟨h, i, i0, i1, i2⟩
 ·exact .inl ⟨h, hiff.1 q⟩
 ·exact .inr ⟨h, fun hr => i2 (hiff.2 hr i i0 i1)⟩
structure RightS (n : Int) (x : List Bs) (y : List Q3) (z : List Q4) : Prop where
 n0 : 1 ≤ n
 n1 : n ≤ 24
 nx : x.length ≤ 8
 nz : z.length ≤ 8
 ny : y.length ≤ 200
 ed : ∀ e ∈ y, EdgeIn n x.length e
 pr : ∀ p ∈ z, PropS n p
 nm : ∀ s ∈ x, NameS s
 us : UsedS x.length y
 re : Rise edgeLt y
 rx : Rise BLt x
 rz : Rise (fun p q => BLt p.Name q.Name) z
theorem Q220 (n : Int) (x : List Bs) (y : List Q3) (z : List Q4) (hs : ∀ p ∈ z, (p.States.length : Int) ≤ 9223372036854775807) : ∃ b, Q25.f n x y z = some b ∧ (b = true ↔ RightS n x y z) := by
 have no : ∀ {P : Prop}, ¬ P → (false = true ↔ P) := fun h => ⟨fun e => (by cases e), fun p => absurd p h⟩
 unfold Q25.f
 by_cases h1 : n < 1
 ·exact ⟨false, by simp [h1, jn], no fun h => by have := h.n0; omega⟩
 by_cases h2 : 24 < n
 ·exact ⟨false, by simp [h1, h2, jn], no fun h => by have := h.n1; omega⟩
 by_cases h3 : 8 < (x.length : Int)
 ·exact ⟨false, by simp [h1, h2, h3, jn], no fun h => by have := h.nx; omega⟩
 by_cases h4 : 8 < (z.length : Int)
 ·exact ⟨false, by simp [h1, h2, h3, h4, jn], no fun h => by have := h.nz; omega⟩
 by_cases h5 : 200 < (y.length : Int)
 ·exact ⟨false, by simp [h1, h2, h3, h4, h5, jn], no fun h => by have := h.ny; omega⟩
 simp only [if_neg h1, Q13, decide_eq_false h2, decide_eq_false h3, decide_eq_false h4, decide_eq_false h5, Bool.false_eq_true, if_false]
 rcases edges_iff n x y z (by omega) (by omega) with ⟨v, hr, hm, he⟩ | ⟨hr, he⟩
 ·rw [hr, Q13]
  rcases props_iff n x y z (by omega) hs with ⟨hp, hpp⟩ | ⟨hp, hpp⟩
  ·rw [hp, Q13]
   obtain ⟨b1, hb1, c1⟩ := names_iff x (by omega)
   obtain ⟨b2, hb2, c2⟩ := Q295 y (by omega)
   obtain ⟨b3, hb3, c3⟩ := Q319 x (by omega)
   obtain ⟨b4, hb4, c4⟩ := Q327 z (by omega)
   have h0 : (0 : Int) ≤ (x.length : Int) := by omega
   have hu : (W8 v = W8 (full8 x.length)) ↔ UsedS x.length y := ⟨fun h => (Q258 hm (by omega) he).1 (W8.inj h), fun h => by rw [(Q258 hm (by omega) he).2 h]⟩
   simp only [hb1, hb2, hb3, hb4, Option.bind_some, if_pos h0, full_run (show x.length ≤ 8 by omega)]
   by_cases k1 : b1 = true
   ·subst k1
    exact ⟨false, by simp [jn], no fun h => c1.1 rfl h.nm⟩
   ·have k1' : b1 = false := by simpa using k1
    subst k1'
    have hnm : ∀ s ∈ x, NameS s := Classical.not_not.1 fun h => by have := c1.2 h; cases this
    by_cases k2 : W8 v = W8 (full8 x.length)
    ·cases b2 with
     | false => exact ⟨false, by simp [jn, k2], no fun h => by have := c2.2 h.re; cases this⟩
     | true =>
      cases b3 with
      | false => exact ⟨false, by simp [jn, k2], no fun h => by have := c3.2 h.rx; cases this⟩
      | true =>
       cases b4 with
       | false => exact ⟨false, by simp [jn, k2], no fun h => by have := c4.2 h.rz; cases this⟩
       | true => exact ⟨true, by simp [jn, k2], by simp only [true_iff]; exact ⟨by omega, by omega, by omega, by omega, by omega, he, hpp, hnm, hu.1 k2, c2.1 rfl, c3.1 rfl, c4.1 rfl⟩⟩
    ·exact ⟨false, by simp [jn, k2], no fun h => k2 (hu.2 h.us)⟩
  ·rw [hp]
   exact ⟨false, rfl, no fun h => hpp h.pr⟩
 ·rw [hr]
  exact ⟨false, rfl, no fun h => he h.ed⟩
end Go.Bw
namespace Go.Bw
open Go Go.RowKit

theorem rise_ne {z : List Q4} (h : Rise (fun p q => BLt p.Name q.Name) z) {i j : Int} (h0 : 0 ≤ i) (h1 : i < j) (h2 : j < (z.length : Int)) : (gt z i).Name ≠ (gt z j).Name := by
 have key : ∀ k : Nat, i + k + 1 < (z.length : Int) → BLt (gt z i).Name (gt z (i + k + 1)).Name := fun k => by
  induction k with
  | zero =>
   intro hk
   have := h (i + 1) (by omega) (by omega)
   rw [show i + 1 - 1 = i from by omega] at this
   rw [show i + ((0 : Nat) : Int) + 1 = i + 1 from by omega]
   exact this
  | succ k ih =>
   intro hk
   have h3 := ih (by omega)
   have h4 := h (i + (k + 1 : Nat) + 1) (by omega) (by omega)
   rw [show i + ((k + 1 : Nat) : Int) + 1 - 1 = i + k + 1 from by omega] at h4
   exact Q191 h3 h4
 have := key (j - i - 1).toNat (by omega)
 rw [show i + ((j - i - 1).toNat : Int) + 1 = j from by omega] at this
 intro e
 rw [e] at this
 unfold BLt at this
 rw [Q216] at this
 omega
end Go.Bw
namespace Go.Bw
open Go Go.RowKit
theorem Q193 {σ ρ : Type} {body : σ → Option (σ ⊕ ρ)} {s s' : σ} (h : body s = some (.inl s')) : iter body s = iter body s' := by rw [Q71, h]; rfl
theorem Q196 {σ ρ : Type} {body : σ → Option (σ ⊕ ρ)} {s : σ} {r : ρ} (h : body s = some (.inr r)) : iter body s = some r := by rw [Q71, h]; rfl
end Go.Bw
namespace Go.Bw
open Go Go.RowKit

theorem gt_map {α β : Type} [Inhabited α] [Inhabited β] {xs : List α} (f : α → β) {i : Int} (h0 : 0 ≤ i) (h1 : i < (xs.length : Int)) : gt (xs.map f) i = f (gt xs i) := by
 have h := Q101 h0 h1
 have h2 : (xs.map f)[i.toNat]? = some (f (gt xs i)) := by rw [List.getElem?_map, h]; rfl
 have := Q126 h2
 rwa [show ((i.toNat : Nat) : Int) = i from by omega] at this
theorem rise_mapp {α β : Type} [Inhabited α] [Inhabited β] {lt : α → α → Prop} {lt' : β → β → Prop} {a : List α} (f : α → β) (ha : Rise lt a) (hf : ∀ u v, lt u v → lt' (f u) (f v)) : Rise lt' (a.map f) := fun i i0 i1 => by
 rw [List.length_map] at i1
 rw [gt_map f (by omega) (by omega), gt_map f (by omega) i1]
 exact hf _ _ (ha i i0 i1)
section
variable {n : Int} {x : List Bs} {y : List Q3} {z : List Q4}
end
end Go.Bw
namespace Go.Bw
open Go Go.RowKit

def Wd (v : BitVec 64) : Int := (v.toNat : Int)
theorem Wd.lt (v : BitVec 64) : 0 ≤ Wd v ∧ Wd v < 18446744073709551616 := by
 unfold Wd
 have := v.isLt
 omega
theorem wrapu {x : Int} (h0 : 0 ≤ x) (h1 : x < 18446744073709551616) : IntKind.u64.wrap x = x := by
 simp [IntKind.wrap, IntKind.bits, IntKind.signed]
 omega
theorem Q136 (v : BitVec 64) : BitVec.ofInt 64 (Wd v) = v := by
 unfold Wd
 apply BitVec.eq_of_toNat_eq
 simp
theorem Wd.inj {u v : BitVec 64} (h : Wd u = Wd v) : u = v := by rw [← Q136 u, h, Q136]
theorem Q212 (v : BitVec 64) : IntKind.u64.wrap (v.toNat : Int) = Wd v := wrapu (Wd.lt v).1 (Wd.lt v).2
theorem bor_wd (u v : BitVec 64) : bor .u64 (Wd u) (Wd v) = Wd (u ||| v) := by
 show IntKind.u64.wrap ((BitVec.ofInt 64 (Wd u) ||| BitVec.ofInt 64 (Wd v)).toNat : Int) = _
 rw [Q136, Q136, Q212]
theorem Q157 (u v : BitVec 64) : band .u64 (Wd u) (Wd v) = Wd (u &&& v) := by
 show IntKind.u64.wrap ((BitVec.ofInt 64 (Wd u) &&& BitVec.ofInt 64 (Wd v)).toNat : Int) = _
 rw [Q136, Q136, Q212]
theorem Q237 (u v : BitVec 64) : bandnot .u64 (Wd u) (Wd v) = Wd (u &&& ~~~ v) := by
 show IntKind.u64.wrap ((BitVec.ofInt 64 (Wd u) &&& ~~~ BitVec.ofInt 64 (Wd v)).toNat : Int) = _
 rw [Q136, Q136, Q212]
theorem shl_one {s : Int} (h0 : 0 ≤ s) (h1 : s < 64) : Bw.shl .u64 1 s = Wd (BitVec.twoPow 64 s.toNat) := by
 have hs : min s.toNat IntKind.u64.bits = s.toNat := Nat.min_eq_left (show s.toNat ≤ 64 by omega)
 have hp : 2 ^ s.toNat < 2 ^ 64 := Nat.pow_lt_pow_right (by decide) (by omega)
 unfold Bw.shl Wd
 have e : (2 : Int) ^ s.toNat = ((2 ^ s.toNat : Nat) : Int) := by rw [Int.natCast_pow]; rfl
 rw [hs, Int.one_mul, BitVec.toNat_twoPow, Nat.mod_eq_of_lt hp, e]
 have h2 : (2 : Nat) ^ 64 = 18446744073709551616 := by rfl
 rw [h2] at hp
 generalize (2 : Nat) ^ s.toNat = q at hp
 exact wrapu (by omega) (by omega)
theorem shr6 {n : Int} (h0 : 0 ≤ n) : Bw.shr .i64 n 6 = n / 64 := by
 show n.fdiv (2 ^ 6) = n / 64
 rw [Int.fdiv_eq_ediv_of_nonneg _ (by decide)]
 rfl
theorem band63 {n : Int} (h0 : 0 ≤ n) (h1 : n ≤ 9223372036854775807) : band .i64 n 63 = n % 64 := by
 show IntKind.i64.wrap ((BitVec.ofInt 64 n &&& BitVec.ofInt 64 63).toNat : Int) = _
 have e1 : (BitVec.ofInt 64 n).toNat = n.toNat := by rw [BitVec.toNat_ofInt]; omega
 have e2 : (BitVec.ofInt 64 63).toNat = 2 ^ 6 - 1 := by rfl
 rw [BitVec.toNat_and, e1, e2, Nat.and_two_pow_sub_one_eq_mod, wrap64 (by omega) (by omega)]
 omega
structure W4 where
 a : BitVec 64
 b : BitVec 64
 c : BitVec 64
 d : BitVec 64
def W4.sel (u : W4) (k : Int) : BitVec 64 := if k = 0 then u.a else if k = 1 then u.b else if k = 2 then u.c else u.d
def W4.has (u : W4) (n : Int) : Bool := (u.sel (n / 64)).getLsbD (n % 64).toNat
def W4.Rep (u : W4) (S : Int → Prop) : Prop := ∀ n, 0 ≤ n → n < 256 → (u.has n = true ↔ S n)
def W4.z : W4 := ⟨0#64, 0#64, 0#64, 0#64⟩
theorem W4.z_rep : W4.z.Rep (fun _ => False) := fun n h0 h1 => by
 unfold W4.has W4.sel W4.z
 dsimp only
 split
 ·simp
 ·split
  ·simp
  ·split <;> simp
theorem W4.ext4 {u v : W4} (h : ∀ n, 0 ≤ n → n < 256 → u.has n = v.has n) : u = v := by
 have key : ∀ k : Int, 0 ≤ k → k < 4 → u.sel k = v.sel k := fun k h0 h1 => by
  apply BitVec.eq_of_getLsbD_eq
  intro i hi
  have := h (64 * k + i) (by omega) (by omega)
  unfold W4.has at this
  rwa [show (64 * k + (i : Int)) / 64 = k from by omega, show ((64 * k + (i : Int)) % 64).toNat = i from by omega] at this
 have k0 := key 0 (by decide) (by decide)
 have k1 := key 1 (by decide) (by decide)
 have k2 := key 2 (by decide) (by decide)
 have k3 := key 3 (by decide) (by decide)
 cases u
 cases v
 simp [W4.sel] at k0 k1 k2 k3
 rw [k0, k1, k2, k3]
def W4.put (u : W4) (n : Int) : W4 :=
 if n / 64 = 0 then { u with a := u.a ||| BitVec.twoPow 64 (n % 64).toNat } else if n / 64 = 1 then { u with b := u.b ||| BitVec.twoPow 64 (n % 64).toNat }
 else if n / 64 = 2 then { u with c := u.c ||| BitVec.twoPow 64 (n % 64).toNat } else { u with d := u.d ||| BitVec.twoPow 64 (n % 64).toNat }
theorem W4.put_rep {u : W4} {S : Int → Prop} (h : u.Rep S) {n : Int} (h0 : 0 ≤ n) (h1 : n < 256) : (u.put n).Rep (fun m => S m ∨ m = n) := fun m m0 m1 => by
 show _ ↔ S m ∨ m = n
 rw [← h m m0 m1]
 have key : ∀ (w : BitVec 64), (w ||| BitVec.twoPow 64 (n % 64).toNat).getLsbD (m % 64).toNat = (w.getLsbD (m % 64).toNat || decide (m % 64 = n % 64)) := fun w => by
  rw [BitVec.getLsbD_or, BitVec.getLsbD_twoPow]
  congr 1
  have : (m % 64).toNat < 64 := by omega
  rw [Bool.eq_iff_iff]
  simp [this]
  omega
 unfold W4.put W4.has W4.sel
 have hn : n / 64 = 0 ∨ n / 64 = 1 ∨ n / 64 = 2 ∨ n / 64 = 3 := by omega
 have hm : m / 64 = 0 ∨ m / 64 = 1 ∨ m / 64 = 2 ∨ m / 64 = 3 := by omega
 by_cases e : m / 64 = n / 64
 ·have hmn : (m = n) ↔ m % 64 = n % 64 := by omega
  rw [e, hmn]
  rcases hn with hn | hn | hn | hn <;> simp [hn, key]
 ·have hmn : ¬ m = n := fun h => e (by rw [h])
  rw [or_iff_left hmn]
  rcases hn with hn | hn | hn | hn <;> rcases hm with hm | hm | hm | hm <;> first
   | exact absurd (hm.trans hn.symm) e
   | simp [hn, hm]
def W4.t (u : W4) : Int × Int × Int × Int := (Wd u.a, Wd u.b, Wd u.c, Wd u.d)
end Go.Bw
namespace Go.Bw
open Go Go.RowKit

theorem Q177 {u : W4} {n : Int} : Q45.f (Wd u.a) (Wd u.b) (Wd u.c) (Wd u.d) n = some (if 0 ≤ n ∧ n < 256 then u.put n else u).t := by
 unfold Q45.f
 by_cases h0 : 0 ≤ n
 ·rw [if_pos h0, Q13]
  by_cases h1 : n < 256
  ·have hm : IntKind.u64.wrap (band .i64 n 63) = n % 64 := by rw [band63 h0 (by omega), wrapu (by omega) (by omega)]
   rw [if_pos (decide_eq_true h1), shr6 h0, hm, shl_one (by omega) (by omega), if_pos (by omega), if_pos (show 0 ≤ n ∧ n < 256 from ⟨h0, h1⟩)]
   have hn : (0 : Int) ≤ n % 64 := by omega
   simp only [if_pos hn, bor_wd]
   unfold W4.put W4.t
   by_cases k0 : n / 64 = 0
   ·rw [if_pos k0, if_pos k0]
   ·by_cases k1 : n / 64 = 1
    ·rw [if_neg k0, if_neg k0, if_pos k1, if_pos k1]
    ·by_cases k2 : n / 64 = 2
     ·rw [if_neg k0, if_neg k0, if_neg k1, if_neg k1, if_pos k2, if_pos k2]
     ·rw [if_neg k0, if_neg k0, if_neg k1, if_neg k1, if_neg k2, if_neg k2]
  ·rw [if_neg (by simp; omega), if_neg (by omega)]
   rfl
 ·rw [if_neg h0, Q13, if_neg (by simp), if_neg (by omega)]
  rfl
theorem of_run4 {l : List Int} (hl : (l.length : Int) ≤ 9223372036854775807) : ∃ u : W4, Q51.f l = some u.t ∧ u.Rep (· ∈ l) := by
 obtain ⟨r, hr, u, rfl, h⟩ := Q68 (body := fun t_ : Int × Int × Int × Int × Int => Q51.l0b l t_.1 t_.2.1 t_.2.2.1 t_.2.2.2.1 t_.2.2.2.2)
  (fun s => 0 ≤ s.2.2.2.2 ∧ s.2.2.2.2 ≤ (l.length : Int) ∧ ∃ u : W4, (s.1, s.2.1, s.2.2.1, s.2.2.2.1) = u.t ∧ u.Rep (· ∈ l.take s.2.2.2.2.toNat))
  (fun r => ∃ u : W4, r = .inl u.t ∧ u.Rep (· ∈ l)) (fun s => (l.length - s.2.2.2.2).toNat)
  (fun ⟨w0, w1, w2, w3, i⟩ ⟨a0, a1, u, a2, a3⟩ => by
   dsimp only at a0 a1 a2 a3 ⊢
   simp only [W4.t, Prod.mk.injEq] at a2
   obtain ⟨rfl, rfl, rfl, rfl⟩ := a2
   unfold Q51.l0b
   by_cases hi : i < (l.length : Int)
   ·right
    rw [if_pos hi, if_pos ⟨a0, hi⟩, Q177, wrap64 (x := i + 1) (by omega) (by omega)]
    refine ⟨_, rfl, ⟨by dsimp only; omega, by dsimp only; omega, _, rfl, fun n n0 n1 => ?_⟩, by dsimp only; omega⟩
    dsimp only
    rw [show (i + 1).toNat = i.toNat + 1 from by omega, List.take_add_one, Q101 a0 hi, List.mem_append]
    simp only [Option.toList_some, List.mem_singleton]
    by_cases hg : 0 ≤ gt l i ∧ gt l i < 256
    ·rw [if_pos hg]
     exact W4.put_rep a3 hg.1 hg.2 n n0 n1
    ·rw [if_neg hg, a3 n n0 n1]
     exact ⟨.inl, fun h => h.elim id fun h => absurd (h ▸ ⟨n0, n1⟩) hg⟩
   ·left
    rw [if_neg hi]
    refine ⟨_, rfl, u, rfl, ?_⟩
    rwa [List.take_of_length_le (by omega)] at a3) (0, 0, 0, 0, 0) ⟨Int.le_refl _, by dsimp only; omega, W4.z, rfl, fun n n0 n1 => by
     dsimp only
     rw [W4.z_rep n n0 n1]
     simp⟩
 refine ⟨u, ?_, h⟩
 unfold Q51.f
 have hl : Q51.l0 l 0 0 0 0 0 = some (.inl u.t) := hr
 rw [hl, Q13]
end Go.Bw
namespace Go.Bw
open Go Go.RowKit

theorem shr_wd (v : BitVec 64) {s : Int} (h0 : 0 ≤ s) (h1 : s < 64) : Bw.shr .u64 (Wd v) s = Wd (v >>> s.toNat) := by
 have hs : min s.toNat IntKind.u64.bits = s.toNat := Nat.min_eq_left (show s.toNat ≤ 64 by omega)
 unfold Bw.shr Wd
 rw [hs, Int.fdiv_eq_ediv_of_nonneg _ (Int.pow_nonneg (by decide)), BitVec.toNat_ushiftRight, Nat.shiftRight_eq_div_pow]
 have : (2 : Int) ^ s.toNat = ((2 ^ s.toNat : Nat) : Int) := by rw [Int.natCast_pow]; rfl
 rw [this]
 rfl
theorem wd_zero {v : BitVec 64} : Wd v = 0 ↔ v = 0#64 := by
 constructor
 ·intro h; exact Wd.inj (h.trans rfl)
 ·rintro rfl; rfl
theorem bit_wd (v : BitVec 64) {s : Int} (h0 : 0 ≤ s) (h1 : s < 64) : band .u64 (Bw.shr .u64 (Wd v) s) 1 = 1 ↔ v.getLsbD s.toNat = true := by
 rw [shr_wd v h0 h1, show (1 : Int) = Wd 1#64 from rfl, Q157]
 constructor
 ·intro h
  have := Wd.inj h
  have h2 := congrArg (fun z => z.getLsbD 0) this
  simpa using h2
 ·intro h
  congr 1
  apply BitVec.eq_of_getLsbD_eq
  intro i hi
  rw [BitVec.getLsbD_and, BitVec.getLsbD_ushiftRight]
  by_cases hi0 : i = 0
  ·subst hi0; simp [h]
  ·have : (1#64).getLsbD i = false := by simp [hi0]
   rw [this]; simp
theorem Q221 {κ ν : Type} [DecidableEq κ] : ∀ (m : List (κ × ν)) (k k' : κ) (v : ν), mget (mset m k v) k' = if k = k' then some v else mget m k'
 | [], k, k', v => by unfold mset mget; split <;> rfl
 | p :: r, k, k', v => by
  unfold mset
  by_cases h : p.1 = k
  ·rw [if_pos h]
   unfold mget
   by_cases h2 : k = k'
   ·simp [h2]
   ·rw [if_neg h2, if_neg h2, if_neg (fun h3 => h2 (h.symm.trans h3))]
  ·rw [if_neg h]
   unfold mget
   by_cases h2 : p.1 = k'
   ·rw [if_pos h2, if_pos h2, if_neg (fun h3 => h (h2.trans h3.symm))]
   ·rw [if_neg h2, if_neg h2, Q221 r k k' v]
def Hit (x : List Bs) (E : List Q3) (k : Q7) (t : Int) : Prop := ∃ e ∈ E, e.From = k.from_ ∧ e.To = t ∧ (gt x e.Action = k.action ∨ k.action = [45])
abbrev set0 : Q2 := ⟨(0 : Int), (0 : Int), (0 : Int), (0 : Int)⟩
def W4.s (u : W4) : Q2 := ⟨Wd u.a, Wd u.b, Wd u.c, Wd u.d⟩
def Nx (x : List Bs) (E : List Q3) (m : List (Q7 × Q2)) : Prop := ∀ k, ∃ u : W4, (mget m k).getD set0 = u.s ∧ u.Rep (Hit x E k)
theorem put_hit {m : List (Q7 × Q2)} {S : Q7 → Int → Prop} (h : ∀ k, ∃ u : W4, (mget m k).getD set0 = u.s ∧ u.Rep (S k)) {k0 : Q7} {t : Int} (h0 : 0 ≤ t) (h1 : t < 256) {u : W4} (hu : (mget m k0).getD set0 = u.s) :
 ∀ k, ∃ u' : W4, (mget (mset m k0 (u.put t).s) k).getD set0 = u'.s ∧ u'.Rep (fun n => S k n ∨ k0 = k ∧ n = t) := fun k => by
 rw [Q221]
 by_cases hk : k0 = k
 ·subst hk
  rw [if_pos rfl]
  obtain ⟨v, hv, hr⟩ := h k0
  rw [hu] at hv
  have : u = v := by
   cases u; cases v
   simp only [W4.s, Q2.mk.injEq] at hv
   rw [Wd.inj hv.1, Wd.inj hv.2.1, Wd.inj hv.2.2.1, Wd.inj hv.2.2.2]
  subst this
  refine ⟨u.put t, rfl, fun n n0 n1 => ?_⟩
  rw [W4.put_rep hr h0 h1 n n0 n1]
  simp
 ·rw [if_neg hk]
  obtain ⟨v, hv, hr⟩ := h k
  refine ⟨v, hv, fun n n0 n1 => ?_⟩
  rw [hr n n0 n1]
  simp [hk]
theorem l2_run (x : List Bs) (y : List Q3) {j : Int} (hj : 0 ≤ j) (hj2 : j < (y.length : Int)) {E : List Q3} {m : List (Q7 × Q2)} (hm : Nx x E m) (ht : 0 ≤ (gt y j).To ∧ (gt y j).To < 256) :
 ∃ m', Q17.l2 x y j m 0 = some (.inl m') ∧ Nx x (E ++ [gt y j]) m' := by
 unfold Q17.l2
 rw [Q71]
 have w1 : IntKind.i64.wrap (0 + 1) = 1 := wrap64 (by decide) (by decide)
 have w2 : IntKind.i64.wrap (1 + 1) = 2 := wrap64 (by decide) (by decide)
 have g0 : gt [gt x (gt y j).Action, ([45] : Bs)] 0 = gt x (gt y j).Action := rfl
 have g1 : gt [gt x (gt y j).Action, ([45] : Bs)] 1 = [45] := rfl
 obtain ⟨u1, e1, r1⟩ := hm ⟨(gt y j).From, gt x (gt y j).Action⟩
 have s1 := put_hit hm ht.1 ht.2 e1
 obtain ⟨u2, e2, r2⟩ := s1 ⟨(gt y j).From, [45]⟩
 have s2 := put_hit s1 ht.1 ht.2 e2
 refine ⟨mset (mset m ⟨(gt y j).From, gt x (gt y j).Action⟩ (u1.put (gt y j).To).s) ⟨(gt y j).From, [45]⟩ (u2.put (gt y j).To).s, ?_, fun k => ?_⟩
 rotate_left
 ·obtain ⟨u3, e3, r3⟩ := s2 k
  refine ⟨u3, e3, fun n n0 n1 => ?_⟩
  rw [r3 n n0 n1]
  unfold Hit
  constructor
  ·rintro ((⟨e, he, q⟩ | ⟨rfl, rfl⟩) | ⟨rfl, rfl⟩)
   ·exact ⟨e, by simp [he], q⟩
   ·exact ⟨gt y j, by simp, rfl, rfl, .inl rfl⟩
   ·exact ⟨gt y j, by simp, rfl, rfl, .inr rfl⟩
  ·rintro ⟨e, he, q1, q2, q3⟩
   rcases List.mem_append.1 he with he | he
   ·exact .inl (.inl ⟨e, he, q1, q2, q3⟩)
   ·simp at he
    subst he
    rcases q3 with q3 | q3
    ·exact .inl (.inr ⟨by rw [q1, q3], q2.symm⟩)
    ·exact .inr ⟨by rw [q1, ← q3], q2.symm⟩
 ·simp only [Q17.l2b]
  rw [if_pos (by simp), if_pos (by simp), g0, e1]
  simp only [W4.s, Q177, if_pos ht, Option.bind_some, nx, w1]
  rw [Q71]
  simp only [Q17.l2b]
  rw [if_pos (by simp), if_pos (by simp), g1]
  have e2' : (mget (mset m ({ from_ := (gt y j).From, action := gt x (gt y j).Action } : Q7) ({ c0 := (u1.put (gt y j).To).t.1, c1 := (u1.put (gt y j).To).t.2.1, c2 := (u1.put (gt y j).To).t.2.2.1, c3 := (u1.put (gt y j).To).t.2.2.2 } : Q2)) { from_ := (gt y j).From, action := [45] }).getD set0 = u2.s := e2
  rw [e2']
  simp only [W4.s, Q177, if_pos ht, Option.bind_some, nx, w2]
  rw [Q71]
  simp only [Q17.l2b]
  rw [if_neg (by simp)]
  rfl
theorem l1_run (n : Int) (x : List Bs) (y : List Q3) (hy : (y.length : Int) ≤ 9223372036854775807) (he : ∀ e ∈ y, EdgeIn n x.length e) (hn : n ≤ 24) :
 ∃ m, Q17.l1 x y [] 0 = some (.inl m) ∧ Nx x y m := by
 obtain ⟨r, hr, m, rfl, hm⟩ := Q68 (body := fun t_ : List (Q7 × Q2) × Int => Q17.l1b x y t_.1 t_.2) (fun s => 0 ≤ s.2 ∧ s.2 ≤ (y.length : Int) ∧ Nx x (y.take s.2.toNat) s.1)
  (fun r => ∃ m, r = .inl m ∧ Nx x y m) (fun s => ((y.length : Int) - s.2).toNat) (fun ⟨m, i⟩ ⟨h0, h1, h2⟩ => by
   dsimp only at h0 h1 h2 ⊢
   unfold Q17.l1b
   by_cases hi : i < (y.length : Int)
   ·right
    have hE := he _ (Q105 h0 hi)
    obtain ⟨m', hm', hx⟩ := l2_run x y h0 hi h2 ⟨hE.2.2.1, by have := hE.2.2.2.1; omega⟩
    rw [if_pos hi, if_pos ⟨h0, hi⟩, if_pos hE.2.2.2.2, hm', Q13, wrap64 (x := i + 1) (by omega) (by omega)]
    refine ⟨_, rfl, ⟨by dsimp only; omega, by dsimp only; omega, ?_⟩, by dsimp only; omega⟩
    dsimp only
    rw [show (i + 1).toNat = i.toNat + 1 from by omega, List.take_add_one, Q101 h0 hi]
    exact hx
   ·left
    rw [if_neg hi]
    refine ⟨_, rfl, m, rfl, ?_⟩
    rwa [List.take_of_length_le (by omega)] at h2) ([], 0) ⟨Int.le_refl _, by dsimp only; omega, fun k => ⟨W4.z, rfl, fun n n0 n1 => by
     rw [W4.z_rep n n0 n1]
     simp [Hit]⟩⟩
 exact ⟨m, hr, hm⟩
end Go.Bw
namespace Go.Bw
open Go Go.RowKit

def Hx (z : List Q4) (m : List (Bs × Q2)) : Prop := ∀ k, ∃ u : W4, (mget m k).getD set0 = u.s ∧ u.Rep (fun t => ∃ p ∈ z, p.Name = k ∧ t ∈ p.States)
theorem Q271 (z : List Q4) (hz : (z.length : Int) ≤ 9223372036854775807) (hs : ∀ p ∈ z, (p.States.length : Int) ≤ 9223372036854775807) (hd : ∀ i j : Int, 0 ≤ i → i < j → j < (z.length : Int) → (gt z i).Name ≠ (gt z j).Name) :
 ∃ m, Q17.l0 z [] 0 = some (.inl m) ∧ Hx z m := by
 obtain ⟨r, hr, m, rfl, hm⟩ := Q68 (body := fun t_ : List (Bs × Q2) × Int => Q17.l0b z t_.1 t_.2) (fun s => 0 ≤ s.2 ∧ s.2 ≤ (z.length : Int) ∧ Hx (z.take s.2.toNat) s.1)
  (fun r => ∃ m, r = .inl m ∧ Hx z m) (fun s => ((z.length : Int) - s.2).toNat) (fun ⟨m, i⟩ ⟨h0, h1, h2⟩ => by
   dsimp only at h0 h1 h2 ⊢
   unfold Q17.l0b
   by_cases hi : i < (z.length : Int)
   ·right
    obtain ⟨u, hu, hur⟩ := of_run4 (hs _ (Q105 h0 hi))
    rw [if_pos hi, if_pos ⟨h0, hi⟩, hu, wrap64 (x := i + 1) (by omega) (by omega)]
    refine ⟨_, rfl, ⟨by dsimp only; omega, by dsimp only; omega, fun k => ?_⟩, by dsimp only; omega⟩
    dsimp only
    rw [show (i + 1).toNat = i.toNat + 1 from by omega, List.take_add_one, Q101 h0 hi, Q221]
    by_cases hk : (gt z i).Name = k
    ·rw [if_pos hk]
     refine ⟨u, rfl, fun n n0 n1 => ?_⟩
     rw [hur n n0 n1]
     constructor
     ·intro h; exact ⟨gt z i, by simp, hk, h⟩
     ·rintro ⟨p, hp, e1, e2⟩
      rcases List.mem_append.1 hp with hp | hp
      ·obtain ⟨q, hq, rfl⟩ := List.getElem_of_mem hp
       have hq' : q < i.toNat := by simp at hq; omega
       have hq2 : q < z.length := by simp at hq; omega
       have := hd q i (by omega) (by omega) hi
       rw [Q126 (List.getElem?_eq_getElem hq2)] at this
       simp only [List.getElem_take] at e1
       exact absurd (e1.trans hk.symm) this
      ·simp at hp; subst hp; exact e2
    ·rw [if_neg hk]
     obtain ⟨v, hv, hvr⟩ := h2 k
     refine ⟨v, hv, fun n n0 n1 => ?_⟩
     rw [hvr n n0 n1]
     constructor
     ·rintro ⟨p, a, b⟩; exact ⟨p, by simp [a], b⟩
     ·rintro ⟨p, a, b, c⟩
      rcases List.mem_append.1 a with a | a
      ·exact ⟨p, a, b, c⟩
      ·simp at a; subst a; exact absurd b hk
   ·left
    rw [if_neg hi]
    rw [List.take_of_length_le (by omega)] at h2
    exact ⟨_, rfl, m, rfl, h2⟩) ([], 0) ⟨Int.le_refl _, by dsimp only; omega, fun k => ⟨W4.z, rfl, fun n n0 n1 => by
     rw [W4.z_rep n n0 n1]
     simp⟩⟩
 exact ⟨m, hr, hm⟩
end Go.Bw
namespace Go.Bw
open Go Go.RowKit

theorem rise_of {α : Type} [Inhabited α] {lt : α → α → Prop} {a : List α} (h : a.Pairwise lt) : Rise lt a := fun i i0 i1 => by
 have h1 := Q101 (xs := a) (i := i - 1) (by omega) (by omega)
 have h2 := Q101 (xs := a) (i := i) (by omega) i1
 rw [List.getElem?_eq_getElem (by omega)] at h1 h2
 have := List.pairwise_iff_getElem.1 h (i - 1).toNat i.toNat (by omega) (by omega) (by omega)
 rw [Option.some.inj h1, Option.some.inj h2] at this
 exact this
section
variable {n : Int} {x : List Bs} {y : List Q3} {z : List Q4} {next : List (Q7 × Q2)} {holds : List (Bs × Q2)}
noncomputable def nxW (hx : Nx x y next) (s : Int) (a : Bs) : W4 := (hx ⟨s, a⟩).choose
theorem nxW_rep (hx : Nx x y next) (s : Int) (a : Bs) : (nxW hx s a).Rep (Hit x y ⟨s, a⟩) := (hx ⟨s, a⟩).choose_spec.2
theorem nxW_run (hx : Nx x y next) (n : Int) (holds : List (Bs × Q2)) (s : Int) (a : Bs) : Q123.f n holds next s a = some (nxW hx s a).t := by
 have h := (hx ⟨s, a⟩).choose_spec.1
 unfold Q123.f
 rw [h]
 rfl
end
theorem fm_len {α : Type} {f : Nat → List α} {m : Nat} (h : ∀ i, (f i).length ≤ m) : ∀ k : Nat, ((List.range k).flatMap f).length ≤ k * m
 | 0 => by simp
 | k + 1 => by
  rw [List.range_succ, List.flatMap_append, List.length_append, Nat.succ_mul]
  have h1 := fm_len h k
  have h2 := h k
  have e : [k].flatMap f = f k := by simp
  rw [e]
  omega
end Go.Bw
namespace Go.Bw
open Go Go.RowKit

abbrev PS := Int → Prop
def Leafy (k : Int) : Prop := k = 1 ∨ k = 2 ∨ k = 3 ∨ k = 4 ∨ k = 12
def Modal (k : Int) : Prop := k = 8 ∨ k = 9
def Fixy (k : Int) : Prop := k = 10 ∨ k = 11
def Twoy (k : Int) : Prop := k = 6 ∨ k = 7
inductive Sb (f : List Q1) : Int → Int → Prop
 | leaf {n : Int} (h0 : 0 ≤ n) (h1 : n < f.length) (hk : Leafy (gt f n).Kind) : Sb f n n
 | not {l n : Int} (h1 : n < f.length) (hk : (gt f n).Kind = 5) (ha : (gt f n).A = n - 1) (s : Sb f l (n - 1)) : Sb f l n
 | modal {l n : Int} (h1 : n < f.length) (hk : Modal (gt f n).Kind) (ha : (gt f n).A = n - 1) (s : Sb f l (n - 1)) : Sb f l n
 | fix {l n : Int} (h1 : n < f.length) (hk : Fixy (gt f n).Kind) (ha : (gt f n).A = n - 1) (s : Sb f l (n - 1)) : Sb f l n
 | two {l m n : Int} (h1 : n < f.length) (hk : Twoy (gt f n).Kind) (ha : (gt f n).A = m) (hb : (gt f n).B = n - 1) (s : Sb f l m) (t : Sb f (m + 1) (n - 1)) : Sb f l n
theorem Sb.le {f : List Q1} {l n : Int} (s : Sb f l n) : 0 ≤ l ∧ l ≤ n ∧ n < f.length := by
 induction s with
 | leaf h0 h1 hk => omega
 | not h1 hk ha s ih => omega
 | modal h1 hk ha s ih => omega
 | fix h1 hk ha s ih => omega
 | two h1 hk ha hb s t ih1 ih2 => omega
inductive Bd (f : List Q1) (to : List Int) : List (Int × Bool) → Int → Int → Prop
 | var {sc : List (Int × Bool)} {n : Int} (h0 : 0 ≤ n) (h1 : n < f.length) (hk : (gt f n).Kind = 4) (hs : (gt to n, true) ∈ sc) : Bd f to sc n n
 | leaf {sc : List (Int × Bool)} {n : Int} (h0 : 0 ≤ n) (h1 : n < f.length) (hk : Leafy (gt f n).Kind) (h4 : (gt f n).Kind ≠ 4) : Bd f to sc n n
 | not {sc : List (Int × Bool)} {l n : Int} (h1 : n < f.length) (hk : (gt f n).Kind = 5) (ha : (gt f n).A = n - 1) (s : Bd f to (sc.map fun p => (p.1, !p.2)) l (n - 1)) : Bd f to sc l n
 | modal {sc : List (Int × Bool)} {l n : Int} (h1 : n < f.length) (hk : Modal (gt f n).Kind) (ha : (gt f n).A = n - 1) (s : Bd f to sc l (n - 1)) : Bd f to sc l n
 | fix {sc : List (Int × Bool)} {l n : Int} (h1 : n < f.length) (hk : Fixy (gt f n).Kind) (ha : (gt f n).A = n - 1) (s : Bd f to ((n, true) :: sc) l (n - 1)) : Bd f to sc l n
 | two {sc : List (Int × Bool)} {l m n : Int} (h1 : n < f.length) (hk : Twoy (gt f n).Kind) (ha : (gt f n).A = m) (hb : (gt f n).B = n - 1) (s : Bd f to sc l m) (t : Bd f to sc (m + 1) (n - 1)) : Bd f to sc l n
theorem Bd.le {f : List Q1} {to : List Int} {sc : List (Int × Bool)} {l n : Int} (s : Bd f to sc l n) : 0 ≤ l ∧ l ≤ n ∧ n < f.length := by
 induction s with
 | var h0 h1 hk hs => omega
 | leaf h0 h1 hk h4 => omega
 | not h1 hk ha s ih => omega
 | modal h1 hk ha s ih => omega
 | fix h1 hk ha s ih => omega
 | two h1 hk ha hb s t ih1 ih2 => omega
structure Ctx where
 N : Int
 holds : Bs → PS
 edge : Bs → Int → Int → Prop
def Ctx.all (C : Ctx) : PS := fun s => 0 ≤ s ∧ s < C.N
structure Ctx.Ok (C : Ctx) : Prop where
 holds : ∀ a s, C.holds a s → C.all s
 edge : ∀ a s t, C.edge a s t → C.all s ∧ C.all t
def updE (E : Int → PS) (n : Int) (S : PS) : Int → PS := fun m => if m = n then S else E m
theorem Q145 (E : Int → PS) (n : Int) (S : PS) : updE E n S n = S := if_pos rfl
theorem Q154 {E : Int → PS} {n m : Int} {S : PS} (h : m ≠ n) : updE E n S m = E m := if_neg h
def Le (S T : PS) : Prop := ∀ s, S s → T s
def lfp (F : PS → PS) : PS := fun s => ∀ S : PS, Le (F S) S → S s
def gfp (F : PS → PS) : PS := fun s => ∃ S : PS, Le S (F S) ∧ S s
def den (C : Ctx) (f : List Q1) (to : List Int) (n : Int) (E : Int → PS) : PS :=
 if (gt f n).Kind = 1 then C.all
 else if (gt f n).Kind = 3 then C.holds (gt f n).Name
 else if (gt f n).Kind = 12 then fun s => C.all s ∧ ¬ C.holds (gt f n).Name s
 else if (gt f n).Kind = 4 then E (gt to n)
 else if h : 0 ≤ (gt f n).A ∧ (gt f n).A < n then
  if (gt f n).Kind = 5 then fun s => C.all s ∧ ¬ den C f to (gt f n).A E s
  else if (gt f n).Kind = 8 then fun s => ∃ t, C.edge (gt f n).Name s t ∧ den C f to (gt f n).A E t
  else if (gt f n).Kind = 9 then fun s => C.all s ∧ ∀ t, C.edge (gt f n).Name s t → den C f to (gt f n).A E t
  else if (gt f n).Kind = 10 then lfp fun S => den C f to (gt f n).A (updE E n S)
  else if (gt f n).Kind = 11 then gfp fun S s => C.all s ∧ den C f to (gt f n).A (updE E n S) s
  else if h2 : 0 ≤ (gt f n).B ∧ (gt f n).B < n then
   if (gt f n).Kind = 6 then fun s => den C f to (gt f n).A E s ∧ den C f to (gt f n).B E s
   else if (gt f n).Kind = 7 then fun s => den C f to (gt f n).A E s ∨ den C f to (gt f n).B E s
   else fun _ => False
  else fun _ => False
 else fun _ => False
termination_by n.toNat
decreasing_by all_goals omega
section
variable {C : Ctx} {f : List Q1} {to : List Int} {n : Int} {E : Int → PS}
theorem Q168 (hk : (gt f n).Kind = 1) : den C f to n E = C.all := by rw [den, if_pos hk]
theorem Q163 (hk : (gt f n).Kind = 2) : den C f to n E = fun _ => False := by
 rw [den, hk]
 simp
theorem Q162 (hk : (gt f n).Kind = 3) : den C f to n E = C.holds (gt f n).Name := by rw [den, hk]; simp
theorem Q186 (hk : (gt f n).Kind = 12) : den C f to n E = fun s => C.all s ∧ ¬ C.holds (gt f n).Name s := by rw [den, hk]; simp
theorem Q161 (hk : (gt f n).Kind = 4) : den C f to n E = E (gt to n) := by rw [den, hk]; simp
theorem Q190 (hk : (gt f n).Kind = 5) (ha : (gt f n).A = n - 1) (h : 0 ≤ n - 1) : den C f to n E = fun s => C.all s ∧ ¬ den C f to (n - 1) E s := by
 rw [den, hk, ha]
 simp [show 1 ≤ n by omega, show ¬ n ≤ n - 1 by omega]
theorem Q170 (hk : (gt f n).Kind = 8) (ha : (gt f n).A = n - 1) (h : 0 ≤ n - 1) : den C f to n E = fun s => ∃ t, C.edge (gt f n).Name s t ∧ den C f to (n - 1) E t := by
 rw [den, hk, ha]
 simp [show 1 ≤ n by omega, show ¬ n ≤ n - 1 by omega]
theorem Q194 (hk : (gt f n).Kind = 9) (ha : (gt f n).A = n - 1) (h : 0 ≤ n - 1) : den C f to n E = fun s => C.all s ∧ ∀ t, C.edge (gt f n).Name s t → den C f to (n - 1) E t := by
 rw [den, hk, ha]
 simp [show 1 ≤ n by omega, show ¬ n ≤ n - 1 by omega]
theorem Q160 (hk : (gt f n).Kind = 10) (ha : (gt f n).A = n - 1) (h : 0 ≤ n - 1) : den C f to n E = lfp fun S => den C f to (n - 1) (updE E n S) := by
 rw [den, hk, ha]
 simp [show 1 ≤ n by omega, show ¬ n ≤ n - 1 by omega]
theorem Q167 (hk : (gt f n).Kind = 11) (ha : (gt f n).A = n - 1) (h : 0 ≤ n - 1) : den C f to n E = gfp fun S s => C.all s ∧ den C f to (n - 1) (updE E n S) s := by
 rw [den, hk, ha]
 simp [show 1 ≤ n by omega, show ¬ n ≤ n - 1 by omega]
theorem Q164 {m : Int} (hk : (gt f n).Kind = 6) (ha : (gt f n).A = m) (hb : (gt f n).B = n - 1) (h : 0 ≤ m) (h2 : m < n) : den C f to n E = fun s => den C f to m E s ∧ den C f to (n - 1) E s := by
 rw [den, hk, ha, hb]
 simp [h, h2, show 1 ≤ n by omega, show ¬ n ≤ n - 1 by omega]
theorem Q158 {m : Int} (hk : (gt f n).Kind = 7) (ha : (gt f n).A = m) (hb : (gt f n).B = n - 1) (h : 0 ≤ m) (h2 : m < n) : den C f to n E = fun s => den C f to m E s ∨ den C f to (n - 1) E s := by
 rw [den, hk, ha, hb]
 simp [h, h2, show 1 ≤ n by omega, show ¬ n ≤ n - 1 by omega]
end
def Way (sc : List (Int × Bool)) (E E' : Int → PS) : Prop := ∀ p ∈ sc, if p.2 = true then Le (E p.1) (E' p.1) else Le (E' p.1) (E p.1)
theorem Way.flip {sc : List (Int × Bool)} {E E' : Int → PS} (h : Way sc E E') : Way (sc.map fun p => (p.1, !p.2)) E' E := fun p hp => by
 obtain ⟨q, hq, rfl⟩ := List.mem_map.1 hp
 have := h q hq
 cases hb : q.2 <;> simp [hb] at this ⊢ <;> exact this
theorem Way.cons {sc : List (Int × Bool)} {E E' : Int → PS} (h : Way sc E E') {n : Int} (hn : ∀ p ∈ sc, p.1 ≠ n) {S S' : PS} (hS : Le S S') : Way ((n, true) :: sc) (updE E n S) (updE E' n S') := fun p hp => by
 rcases List.mem_cons.1 hp with rfl | hp
 ·simp [Q145]
  exact hS
 ·rw [Q154 (hn p hp), Q154 (hn p hp)]
  exact h p hp
theorem Way.rfl (sc : List (Int × Bool)) (E : Int → PS) : Way sc E E := fun p _ => by split <;> exact fun _ h => h
theorem Q254 {F G : PS → PS} (h : ∀ S, Le (F S) (G S)) : Le (lfp F) (lfp G) := fun s hs S hS => hs S fun t ht => hS t (h S t ht)
theorem Q249 {F G : PS → PS} (h : ∀ S, Le (F S) (G S)) : Le (gfp F) (gfp G) := fun s ⟨S, hS, hs⟩ => ⟨S, fun t ht => h S t (hS t ht), hs⟩
theorem lfp_pre {F : PS → PS} (hF : ∀ S T, Le S T → Le (F S) (F T)) : Le (F (lfp F)) (lfp F) := fun s hs S hS => hS s (hF _ _ (fun t ht => ht S hS) s hs)
theorem gfp_post {F : PS → PS} (hF : ∀ S T, Le S T → Le (F S) (F T)) : Le (gfp F) (F (gfp F)) := fun s ⟨S, hS, hs⟩ => hF _ _ (fun t ht => ⟨S, hS, ht⟩) s (hS s hs)
theorem den_mono {C : Ctx} {f : List Q1} {to : List Int} {sc : List (Int × Bool)} {l n : Int} (b : Bd f to sc l n) : ∀ {E E' : Int → PS}, (∀ p ∈ sc, n < p.1) → Way sc E E' → Le (den C f to n E) (den C f to n E') := by
 induction b with
 | @var sc n h0 h1 hk hs => intro E E' hn h; rw [Q161 hk, Q161 hk]; simpa using h _ hs
 | @leaf sc n h0 h1 hk h4 =>
  intro E E' hn h
  rcases hk with hk | hk | hk | hk | hk
  ·rw [Q168 hk, Q168 hk]; exact fun _ h => h
  ·rw [Q163 hk, Q163 hk]; exact fun _ h => h
  ·rw [Q162 hk, Q162 hk]; exact fun _ h => h
  ·exact absurd hk h4
  ·rw [Q186 hk, Q186 hk]; exact fun _ h => h
 | @not sc l n h1 hk ha s ih =>
  intro E E' hn h
  have := s.le
  rw [Q190 hk ha (by omega), Q190 hk ha (by omega)]
  exact fun s hs => ⟨hs.1, fun hd => hs.2 (ih (fun p hp => by obtain ⟨q, hq, rfl⟩ := List.mem_map.1 hp; have := hn q hq; dsimp only; omega) h.flip s hd)⟩
 | @modal sc l n h1 hk ha s ih =>
  intro E E' hn h
  have := s.le
  have ih := ih (fun p hp => by have := hn p hp; omega) h
  rcases hk with hk | hk
  ·rw [Q170 hk ha (by omega), Q170 hk ha (by omega)]
   exact fun s ⟨t, h1, h2⟩ => ⟨t, h1, ih t h2⟩
  ·rw [Q194 hk ha (by omega), Q194 hk ha (by omega)]
   exact fun s ⟨h0, h⟩ => ⟨h0, fun t ht => ih t (h t ht)⟩
 | @fix sc l n h1 hk ha s ih =>
  intro E E' hn h
  have := s.le
  have ih : ∀ S, Le (den C f to (n - 1) (updE E n S)) (den C f to (n - 1) (updE E' n S)) := fun S => ih (fun p hp => by
   rcases List.mem_cons.1 hp with rfl | hp
   ·dsimp only; omega
   ·have := hn p hp; omega) (h.cons (fun p hp => by have := hn p hp; omega) fun _ h => h)
  rcases hk with hk | hk
  ·rw [Q160 hk ha (by omega), Q160 hk ha (by omega)]
   exact Q254 ih
  ·rw [Q167 hk ha (by omega), Q167 hk ha (by omega)]
   exact Q249 fun S s hs => ⟨hs.1, ih S s hs.2⟩
 | @two sc l m n h1 hk ha hb s t ih1 ih2 =>
  intro E E' hn h
  have := s.le
  have := t.le
  have ih1 := ih1 (fun p hp => by have := hn p hp; omega) h
  have ih2 := ih2 (fun p hp => by have := hn p hp; omega) h
  rcases hk with hk | hk
  ·rw [Q164 hk ha hb (by omega) (by omega), Q164 hk ha hb (by omega) (by omega)]
   exact fun s hs => ⟨ih1 s hs.1, ih2 s hs.2⟩
  ·rw [Q158 hk ha hb (by omega) (by omega), Q158 hk ha hb (by omega) (by omega)]
   exact fun s hs => hs.imp (ih1 s) (ih2 s)
theorem den_in {C : Ctx} (hC : C.Ok) {f : List Q1} {to : List Int} {sc : List (Int × Bool)} {l n : Int} (b : Bd f to sc l n) : ∀ {E : Int → PS}, (∀ p ∈ sc, Le (E p.1) C.all) → (∀ p ∈ sc, n < p.1) → Le (den C f to n E) C.all := by
 induction b with
 | @var sc n h0 h1 hk hs => intro E h hn; rw [Q161 hk]; exact h _ hs
 | @leaf sc n h0 h1 hk h4 =>
  intro E h hn
  rcases hk with hk | hk | hk | hk | hk
  ·rw [Q168 hk]; exact fun _ h => h
  ·rw [Q163 hk]; exact fun _ h => h.elim
  ·rw [Q162 hk]; exact fun _ h => hC.holds _ _ h
  ·exact absurd hk h4
  ·rw [Q186 hk]; exact fun _ h => h.1
 | @not sc l n h1 hk ha s ih =>
  intro E h hn
  have := s.le
  rw [Q190 hk ha (by omega)]
  exact fun _ h => h.1
 | @modal sc l n h1 hk ha s ih =>
  intro E h hn
  have := s.le
  rcases hk with hk | hk
  ·rw [Q170 hk ha (by omega)]
   exact fun s ⟨t, h1, h2⟩ => (hC.edge _ _ _ h1).1
  ·rw [Q194 hk ha (by omega)]
   exact fun s h => h.1
 | @fix sc l n h1 hk ha s ih =>
  intro E h hn
  have := s.le
  rcases hk with hk | hk
  ·rw [Q160 hk ha (by omega)]
   refine fun s hs => hs C.all (ih (fun p hp => ?_) fun p hp => ?_)
   ·rcases List.mem_cons.1 hp with rfl | hp
    ·rw [Q145]; exact fun _ h => h
    ·rw [Q154 (by have := hn p hp; omega)]; exact h p hp
   ·rcases List.mem_cons.1 hp with rfl | hp
    ·dsimp only; omega
    ·have := hn p hp; omega
  ·rw [Q167 hk ha (by omega)]
   exact fun s ⟨S, hS, hs⟩ => (hS s hs).1
 | @two sc l m n h1 hk ha hb s t ih1 ih2 =>
  intro E h hn
  have := s.le
  have := t.le
  rcases hk with hk | hk
  ·rw [Q164 hk ha hb (by omega) (by omega)]
   exact fun s hs => ih1 h (fun p hp => by have := hn p hp; omega) s hs.1
  ·rw [Q158 hk ha hb (by omega) (by omega)]
   exact fun s hs => hs.elim (ih1 h (fun p hp => by have := hn p hp; omega) s) (ih2 h (fun p hp => by have := hn p hp; omega) s)
end Go.Bw
namespace Go.Bw
open Go Go.RowKit

theorem ext_gt {α : Type} [Inhabited α] {l l' : List α} (hn : l.length = l'.length) (h : ∀ k : Nat, k < l.length → gt l k = gt l' k) : l = l' := by
 refine List.ext_getElem hn fun k h1 h2 => ?_
 have := h k h1
 rwa [Q126 (List.getElem?_eq_getElem h1), Q126 (List.getElem?_eq_getElem h2)] at this

section
variable (H : Nat → Int → Prop) (E : Nat → Int → Int → Prop)
variable {H E}
end
end Go.Bw
namespace Go.Bw
open Go Go.RowKit

theorem low_ex {v : BitVec 64} (h : v ≠ 0#64) : ∃ k : Nat, k < 64 ∧ v.getLsbD k = true ∧ ∀ i, i < k → v.getLsbD i = false := by
 have h1 : ∃ k, v.getLsbD k = true := Classical.byContradiction fun hn => h (BitVec.eq_of_getLsbD_eq fun i _ => by
  cases hv : v.getLsbD i with
  | false => simp
  | true => exact absurd ⟨i, hv⟩ hn)
 obtain ⟨k, hk⟩ := h1
 induction k using Nat.strongRecOn with
 | _ k ih =>
  by_cases hl : ∃ i, i < k ∧ v.getLsbD i = true
  ·obtain ⟨i, hi, hv⟩ := hl; exact ih i hi hv
  ·refine ⟨k, BitVec.lt_of_getLsbD hk, hk, fun i hi => ?_⟩
   cases hv : v.getLsbD i with
   | false => rfl
   | true => exact absurd ⟨i, hi, hv⟩ hl
theorem low_nat {v : BitVec 64} {k : Nat} (hk : v.getLsbD k = true) (hb : ∀ i, i < k → v.getLsbD i = false) : v.toNat = 2 ^ (k + 1) * (v.toNat / 2 ^ (k + 1)) + 2 ^ k := by
 have e : v.toNat % 2 ^ (k + 1) = 2 ^ k := by
  apply Nat.eq_of_testBit_eq
  intro i
  rw [Nat.testBit_mod_two_pow, Nat.testBit_two_pow]
  by_cases h1 : i < k
  ·have := hb i h1
   rw [BitVec.getLsbD] at this
   rw [this]; simp; omega
  ·by_cases h2 : i = k
   ·subst h2
    rw [BitVec.getLsbD] at hk
    rw [hk]; simp
   ·rw [decide_eq_false (by omega), decide_eq_false (by omega)]; rfl
 have := Nat.div_add_mod v.toNat (2 ^ (k + 1))
 omega
theorem Q290 {v : BitVec 64} {k : Nat} (hk : v.getLsbD k = true) (hb : ∀ i, i < k → v.getLsbD i = false) (i : Nat) :
 (v - 1#64).getLsbD i = if i < k then true else if i = k then false else v.getLsbD i := by
 have hn := low_nat hk hb
 have hk64 := BitVec.lt_of_getLsbD hk
 have hp : 0 < 2 ^ k := Nat.two_pow_pos k
 have hv := v.isLt
 have e1 : (v - 1#64).toNat = 2 ^ (k + 1) * (v.toNat / 2 ^ (k + 1)) + (2 ^ k - 1) := by
  rw [BitVec.toNat_sub]
  have : (1#64).toNat = 1 := rfl
  rw [this]
  generalize 2 ^ (k + 1) * (v.toNat / 2 ^ (k + 1)) = q at hn
  omega
 have hlt : 2 ^ k - 1 < 2 ^ (k + 1) := by rw [Nat.pow_succ]; omega
 have hlt2 : 2 ^ k < 2 ^ (k + 1) := by rw [Nat.pow_succ]; omega
 have ev : v.getLsbD i = if i < k + 1 then (2 ^ k).testBit i else (v.toNat / 2 ^ (k + 1)).testBit (i - (k + 1)) := by
  have : v.getLsbD i = v.toNat.testBit i := rfl
  rw [this]
  have h3 := Nat.testBit_two_pow_mul_add (v.toNat / 2 ^ (k + 1)) hlt2 i
  rw [← hn] at h3
  exact h3
 have ep : (v - 1#64).getLsbD i = if i < k + 1 then (2 ^ k - 1).testBit i else (v.toNat / 2 ^ (k + 1)).testBit (i - (k + 1)) := by
  have : (v - 1#64).getLsbD i = (v - 1#64).toNat.testBit i := rfl
  rw [this, e1]
  exact Nat.testBit_two_pow_mul_add _ hlt i
 rw [ep]
 by_cases h1 : i < k
 ·rw [if_pos (show i < k + 1 by omega), if_pos h1, Nat.testBit_two_pow_sub_one]; simp [h1]
 ·by_cases h2 : i = k
  ·subst h2
   rw [if_pos (show i < i + 1 by omega), if_neg h1, if_pos rfl, Nat.testBit_two_pow_sub_one]; simp
  ·rw [if_neg (show ¬ i < k + 1 by omega), if_neg h1, if_neg h2, ev, if_neg (show ¬ i < k + 1 by omega)]
theorem Q204 {v : BitVec 64} {k : Nat} (hk : v.getLsbD k = true) (hb : ∀ i, i < k → v.getLsbD i = false) (i : Nat) : (v &&& (v - 1#64)).getLsbD i = (v.getLsbD i && !decide (i = k)) := by
 rw [BitVec.getLsbD_and, Q290 hk hb]
 by_cases h1 : i < k
 ·rw [hb i h1]; rfl
 ·by_cases h2 : i = k
  ·subst h2; simp
  ·simp [h1, h2]
theorem low_only {v : BitVec 64} {k : Nat} (hk : v.getLsbD k = true) (hb : ∀ i, i < k → v.getLsbD i = false) : v &&& -v = BitVec.twoPow 64 k := by
 have e : -v = ~~~(v - 1#64) := by
  apply BitVec.eq_of_toNat_eq
  have hv := v.isLt
  have hn := low_nat hk hb
  have hp : 0 < 2 ^ k := Nat.two_pow_pos k
  rw [BitVec.toNat_not, BitVec.toNat_neg, BitVec.toNat_sub]
  have : (1#64).toNat = 1 := rfl
  rw [this]
  generalize 2 ^ (k + 1) * (v.toNat / 2 ^ (k + 1)) = q at hn
  omega
 apply BitVec.eq_of_getLsbD_eq
 intro i hi
 rw [e, BitVec.getLsbD_and, BitVec.getLsbD_not, Q290 hk hb, BitVec.getLsbD_twoPow]
 by_cases h1 : i < k
 ·rw [hb i h1]; simp; omega
 ·by_cases h2 : i = k
  ·subst h2; simp [hk, hi]
  ·rw [if_neg h1, if_neg h2]
   have : decide (k = i) = false := decide_eq_false (by omega)
   cases v.getLsbD i <;> simp [this, hi]
end Go.Bw
