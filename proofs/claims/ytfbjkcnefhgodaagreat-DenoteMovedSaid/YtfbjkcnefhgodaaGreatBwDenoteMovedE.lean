/- DenoteMoved, part 5: walks and plain laws. Conditions: none. -/
import Derived.Test.YtfbjkcnefhgodaaGreatProg
import Derived.Deep.QuietTactic
import Derived.Test.YtfbjkcnefhgodaaGreatBwDenoteMovedD
set_option linter.unusedVariables false
set_option linter.unusedSimpArgs false
set_option linter.unusedSectionVars false
set_option maxRecDepth 100000
set_option maxHeartbeats 2000000
namespace Go.Bw
open Go Go.RowKit Go.Proofs
variable {R : Res} {Fr : List HProp} {b0 b0_1 b0_2 b0_0 b0_0_1 b0_0_2 n0_1 c0_1 n0_2 c0_2 n0_7 c0_7 n1 c1 : Nat} {A0_1 A0_2 A0_7 A1 : Option Addr}
noncomputable def Q101.f (p q u D G I J L : Int) : Option (Int × Int × Int × Int) :=
 some (band .u64 p G, band .u64 q I, band .u64 u J, band .u64 D L)
theorem Q101.callee : Callee Tryz.prog 19 := ⟨_, Tryz.func19, by kernel_rfl, by kernel_rfl⟩
theorem Q101.spec {p u D G I J L M : Int} {r : Int × Int × Int × Int} (j : Q101.f p u D G I J L M = some r) :
 Spec Tryz.prog 19 [.agg #[.int .u64 p, .int .u64 u, .int .u64 D, .int .u64 G], .agg #[.int .u64 I, .int .u64 J, .int .u64 L, .int .u64 M]] R (Fr) (fun v l' => v = .agg #[.int .u64 r.1, .int .u64 r.2.1, .int .u64 r.2.2.1, .int .u64 r.2.2.2] ∧ Fr = l') := by
 refine Spec.of Tryz.func19 rfl rfl ?_; unfold Q101.f at j; have j := brun j; refine At.seq (At.region ?_); refine At.box rfl rfl (cs := [.int .u64 p, .int .u64 u, .int .u64 D, .int .u64 G]) rfl rfl (fun O => ?_); refine At.box rfl rfl (cs := [.int .u64 I, .int .u64 J, .int .u64 L, .int .u64 M]) rfl rfl (fun U => ?_); refine At.alloc rfl rfl rfl (fun V => ?_); refine nT (At.seq (sR 1 rfl (nT ?_))); refine At.block ?_; refine At.rounds 5 ?_; refine At.round ?_; refine sR 1 rfl (nT (At.seq ?_)); refine At.condT rfl rfl ?_; refine At.skip (At.thn (At.seq ?_)); refine At.block ?_; refine sR 2 rfl (nT ?_); refine At.still 8 (by kernel_rfl) ?_; refine At.Still.run 1 rfl ?_; refine At.Still.y (Y.ixArrK rfl rfl rfl rfl rfl (show (0 : Int) ≤ 0 ∧ (0 : Int) < 4 by decide).1 (show (0 : Int) ≤ 0 ∧ (0 : Int) < 4 by decide).2 (q := 0) (off := 0) rfl rfl) rfl rfl rfl ?_; refine At.Still.y (Y.load rfl rfl (.s (.s .z)) rfl rfl rfl) rfl rfl rfl ?_; refine At.Still.run 1 rfl ?_; refine At.Still.y (Y.ixArrK rfl rfl rfl rfl rfl (show (0 : Int) ≤ 0 ∧ (0 : Int) < 4 by decide).1 (show (0 : Int) ≤ 0 ∧ (0 : Int) < 4 by decide).2 (q := 0) (off := 0) rfl rfl) rfl rfl rfl ?_; refine At.Still.y (Y.load rfl rfl (.s .z) rfl rfl rfl) rfl rfl rfl ?_; refine At.Still.run 1 rfl ?_; refine At.Still.y (Y.ixArrK rfl rfl rfl rfl rfl (show (0 : Int) ≤ 0 ∧ (0 : Int) < 4 by decide).1 (show (0 : Int) ≤ 0 ∧ (0 : Int) < 4 by decide).2 (q := 0) (off := 0) rfl rfl) rfl rfl rfl ?_; refine At.Still.nil ?_; refine At.store rfl rfl rfl rfl (.s (.s .z)) rfl rfl rfl (.c .n) ?_; refine At.nil ?_; refine At.ibn ?_; refine At.thn (At.region (At.run 2 rfl (nT ?_))); refine At.round ?_; refine sR 1 rfl (nT (At.seq ?_)); refine At.condT rfl rfl ?_; refine At.skip (At.thn (At.seq ?_)); refine At.block ?_; refine sR 2 rfl (nT ?_); refine At.still 8 (by kernel_rfl) ?_; refine At.Still.run 1 rfl ?_; refine At.Still.y (Y.ixArrK rfl rfl rfl rfl rfl (show (0 : Int) ≤ 1 ∧ (1 : Int) < 4 by decide).1 (show (0 : Int) ≤ 1 ∧ (1 : Int) < 4 by decide).2 (q := 1) (off := 1) rfl rfl) rfl rfl rfl ?_; refine At.Still.y (Y.load rfl rfl .z rfl rfl rfl) rfl rfl rfl ?_; refine At.Still.run 1 rfl ?_; refine At.Still.y (Y.ixArrK rfl rfl rfl rfl rfl (show (0 : Int) ≤ 1 ∧ (1 : Int) < 4 by decide).1 (show (0 : Int) ≤ 1 ∧ (1 : Int) < 4 by decide).2 (q := 1) (off := 1) rfl rfl) rfl rfl rfl ?_; refine At.Still.y (Y.load rfl rfl (.s (.s .z)) rfl rfl rfl) rfl rfl rfl ?_; refine At.Still.run 1 rfl ?_; refine At.Still.y (Y.ixArrK rfl rfl rfl rfl rfl (show (0 : Int) ≤ 1 ∧ (1 : Int) < 4 by decide).1 (show (0 : Int) ≤ 1 ∧ (1 : Int) < 4 by decide).2 (q := 1) (off := 1) rfl rfl) rfl rfl rfl ?_; refine At.Still.nil ?_; refine At.store rfl rfl rfl rfl .z rfl rfl rfl (.s (.c .n)) ?_; refine At.nil ?_; refine At.ibn ?_; refine At.thn (At.region (At.run 2 rfl (nT ?_))); refine At.round ?_; refine sR 1 rfl (nT (At.seq ?_)); refine At.condT rfl rfl ?_; refine At.skip (At.thn (At.seq ?_)); refine At.block ?_; refine sR 2 rfl (nT ?_); refine At.still 8 (by kernel_rfl) ?_; refine At.Still.run 1 rfl ?_; refine At.Still.y (Y.ixArrK rfl rfl rfl rfl rfl (show (0 : Int) ≤ 2 ∧ (2 : Int) < 4 by decide).1 (show (0 : Int) ≤ 2 ∧ (2 : Int) < 4 by decide).2 (q := 2) (off := 2) rfl rfl) rfl rfl rfl ?_; refine At.Still.y (Y.load rfl rfl .z rfl rfl rfl) rfl rfl rfl ?_; refine At.Still.run 1 rfl ?_; refine At.Still.y (Y.ixArrK rfl rfl rfl rfl rfl (show (0 : Int) ≤ 2 ∧ (2 : Int) < 4 by decide).1 (show (0 : Int) ≤ 2 ∧ (2 : Int) < 4 by decide).2 (q := 2) (off := 2) rfl rfl) rfl rfl rfl ?_; refine At.Still.y (Y.load rfl rfl (.s (.s .z)) rfl rfl rfl) rfl rfl rfl ?_; refine At.Still.run 1 rfl ?_; refine At.Still.y (Y.ixArrK rfl rfl rfl rfl rfl (show (0 : Int) ≤ 2 ∧ (2 : Int) < 4 by decide).1 (show (0 : Int) ≤ 2 ∧ (2 : Int) < 4 by decide).2 (q := 2) (off := 2) rfl rfl) rfl rfl rfl ?_; refine At.Still.nil ?_; refine At.store rfl rfl rfl rfl .z rfl rfl rfl (.s (.s (.c .n))) ?_; refine At.nil ?_; refine At.ibn ?_; refine At.thn (At.region (At.run 2 rfl (nT ?_))); refine At.round ?_; refine sR 1 rfl (nT (At.seq ?_)); refine At.condT rfl rfl ?_; refine At.skip (At.thn (At.seq ?_)); refine At.block ?_; refine sR 2 rfl (nT ?_); refine At.still 8 (by kernel_rfl) ?_; refine At.Still.run 1 rfl ?_; refine At.Still.y (Y.ixArrK rfl rfl rfl rfl rfl (show (0 : Int) ≤ 3 ∧ (3 : Int) < 4 by decide).1 (show (0 : Int) ≤ 3 ∧ (3 : Int) < 4 by decide).2 (q := 3) (off := 3) rfl rfl) rfl rfl rfl ?_; refine At.Still.y (Y.load rfl rfl .z rfl rfl rfl) rfl rfl rfl ?_; refine At.Still.run 1 rfl ?_; refine At.Still.y (Y.ixArrK rfl rfl rfl rfl rfl (show (0 : Int) ≤ 3 ∧ (3 : Int) < 4 by decide).1 (show (0 : Int) ≤ 3 ∧ (3 : Int) < 4 by decide).2 (q := 3) (off := 3) rfl rfl) rfl rfl rfl ?_; refine At.Still.y (Y.load rfl rfl (.s (.s .z)) rfl rfl rfl) rfl rfl rfl ?_; refine At.Still.run 1 rfl ?_; refine At.Still.y (Y.ixArrK rfl rfl rfl rfl rfl (show (0 : Int) ≤ 3 ∧ (3 : Int) < 4 by decide).1 (show (0 : Int) ≤ 3 ∧ (3 : Int) < 4 by decide).2 (q := 3) (off := 3) rfl rfl) rfl rfl rfl ?_; refine At.Still.nil ?_; refine At.store rfl rfl rfl rfl .z rfl rfl rfl (.s (.s (.s (.c .n)))) ?_; refine At.nil ?_; refine At.ibn ?_; refine At.thn (At.region (At.run 2 rfl (nT ?_))); refine At.round ?_; refine sR 1 rfl (nT (At.seq ?_)); refine At.condF rfl rfl ?_; refine At.exit ?_; refine At.the ?_; refine At.the ?_; refine At.ibx ?_; refine At.thn (At.seq (At.region (At.y (Y.load rfl rfl .z rfl rfl rfl) rfl rfl rfl ?_))); refine At.store rfl rfl rfl rfl (.s .z) rfl rfl rfl (.c (.c (.c (.c .n)))) ?_; refine nT (At.ret ?_); refine At.resM (.inl rfl) rfl (RV.cell rfl rfl .z rfl rfl rfl RV.nil) ?_; refine At.drop .z (At.drop .z (At.drop .z ?_)); cases bret j; exact fun a w e hs => ⟨_, ⟨rfl, rfl⟩, hs⟩

noncomputable def Q131.f (p q u D G I J L : Int) : Option (Int × Int × Int × Int) :=
 some (bor .u64 p G, bor .u64 q I, bor .u64 u J, bor .u64 D L)
theorem Q131.callee : Callee Tryz.prog 20 := ⟨_, Tryz.func20, by kernel_rfl, by kernel_rfl⟩
theorem Q131.spec {p u D G I J L M : Int} {r : Int × Int × Int × Int} (j : Q131.f p u D G I J L M = some r) :
 Spec Tryz.prog 20 [.agg #[.int .u64 p, .int .u64 u, .int .u64 D, .int .u64 G], .agg #[.int .u64 I, .int .u64 J, .int .u64 L, .int .u64 M]] R (Fr) (fun v l' => v = .agg #[.int .u64 r.1, .int .u64 r.2.1, .int .u64 r.2.2.1, .int .u64 r.2.2.2] ∧ Fr = l') := by
 refine Spec.of Tryz.func20 rfl rfl ?_; unfold Q131.f at j; have j := brun j; refine At.seq (At.region ?_); refine At.box rfl rfl (cs := [.int .u64 p, .int .u64 u, .int .u64 D, .int .u64 G]) rfl rfl (fun O => ?_); refine At.box rfl rfl (cs := [.int .u64 I, .int .u64 J, .int .u64 L, .int .u64 M]) rfl rfl (fun U => ?_); refine At.alloc rfl rfl rfl (fun V => ?_); refine nT (At.seq (sR 1 rfl (nT ?_))); refine At.block ?_; refine At.rounds 5 ?_; refine At.round ?_; refine sR 1 rfl (nT (At.seq ?_)); refine At.condT rfl rfl ?_; refine At.skip (At.thn (At.seq ?_)); refine At.block ?_; refine sR 2 rfl (nT ?_); refine At.still 8 (by kernel_rfl) ?_; refine At.Still.run 1 rfl ?_; refine At.Still.y (Y.ixArrK rfl rfl rfl rfl rfl (show (0 : Int) ≤ 0 ∧ (0 : Int) < 4 by decide).1 (show (0 : Int) ≤ 0 ∧ (0 : Int) < 4 by decide).2 (q := 0) (off := 0) rfl rfl) rfl rfl rfl ?_; refine At.Still.y (Y.load rfl rfl (.s (.s .z)) rfl rfl rfl) rfl rfl rfl ?_; refine At.Still.run 1 rfl ?_; refine At.Still.y (Y.ixArrK rfl rfl rfl rfl rfl (show (0 : Int) ≤ 0 ∧ (0 : Int) < 4 by decide).1 (show (0 : Int) ≤ 0 ∧ (0 : Int) < 4 by decide).2 (q := 0) (off := 0) rfl rfl) rfl rfl rfl ?_; refine At.Still.y (Y.load rfl rfl (.s .z) rfl rfl rfl) rfl rfl rfl ?_; refine At.Still.run 1 rfl ?_; refine At.Still.y (Y.ixArrK rfl rfl rfl rfl rfl (show (0 : Int) ≤ 0 ∧ (0 : Int) < 4 by decide).1 (show (0 : Int) ≤ 0 ∧ (0 : Int) < 4 by decide).2 (q := 0) (off := 0) rfl rfl) rfl rfl rfl ?_; refine At.Still.nil ?_; refine At.store rfl rfl rfl rfl (.s (.s .z)) rfl rfl rfl (.c .n) ?_; refine At.nil ?_; refine At.ibn ?_; refine At.thn (At.region (At.run 2 rfl (nT ?_))); refine At.round ?_; refine sR 1 rfl (nT (At.seq ?_)); refine At.condT rfl rfl ?_; refine At.skip (At.thn (At.seq ?_)); refine At.block ?_; refine sR 2 rfl (nT ?_); refine At.still 8 (by kernel_rfl) ?_; refine At.Still.run 1 rfl ?_; refine At.Still.y (Y.ixArrK rfl rfl rfl rfl rfl (show (0 : Int) ≤ 1 ∧ (1 : Int) < 4 by decide).1 (show (0 : Int) ≤ 1 ∧ (1 : Int) < 4 by decide).2 (q := 1) (off := 1) rfl rfl) rfl rfl rfl ?_; refine At.Still.y (Y.load rfl rfl .z rfl rfl rfl) rfl rfl rfl ?_; refine At.Still.run 1 rfl ?_; refine At.Still.y (Y.ixArrK rfl rfl rfl rfl rfl (show (0 : Int) ≤ 1 ∧ (1 : Int) < 4 by decide).1 (show (0 : Int) ≤ 1 ∧ (1 : Int) < 4 by decide).2 (q := 1) (off := 1) rfl rfl) rfl rfl rfl ?_; refine At.Still.y (Y.load rfl rfl (.s (.s .z)) rfl rfl rfl) rfl rfl rfl ?_; refine At.Still.run 1 rfl ?_; refine At.Still.y (Y.ixArrK rfl rfl rfl rfl rfl (show (0 : Int) ≤ 1 ∧ (1 : Int) < 4 by decide).1 (show (0 : Int) ≤ 1 ∧ (1 : Int) < 4 by decide).2 (q := 1) (off := 1) rfl rfl) rfl rfl rfl ?_; refine At.Still.nil ?_; refine At.store rfl rfl rfl rfl .z rfl rfl rfl (.s (.c .n)) ?_; refine At.nil ?_; refine At.ibn ?_; refine At.thn (At.region (At.run 2 rfl (nT ?_))); refine At.round ?_; refine sR 1 rfl (nT (At.seq ?_)); refine At.condT rfl rfl ?_; refine At.skip (At.thn (At.seq ?_)); refine At.block ?_; refine sR 2 rfl (nT ?_); refine At.still 8 (by kernel_rfl) ?_; refine At.Still.run 1 rfl ?_; refine At.Still.y (Y.ixArrK rfl rfl rfl rfl rfl (show (0 : Int) ≤ 2 ∧ (2 : Int) < 4 by decide).1 (show (0 : Int) ≤ 2 ∧ (2 : Int) < 4 by decide).2 (q := 2) (off := 2) rfl rfl) rfl rfl rfl ?_; refine At.Still.y (Y.load rfl rfl .z rfl rfl rfl) rfl rfl rfl ?_; refine At.Still.run 1 rfl ?_; refine At.Still.y (Y.ixArrK rfl rfl rfl rfl rfl (show (0 : Int) ≤ 2 ∧ (2 : Int) < 4 by decide).1 (show (0 : Int) ≤ 2 ∧ (2 : Int) < 4 by decide).2 (q := 2) (off := 2) rfl rfl) rfl rfl rfl ?_; refine At.Still.y (Y.load rfl rfl (.s (.s .z)) rfl rfl rfl) rfl rfl rfl ?_; refine At.Still.run 1 rfl ?_; refine At.Still.y (Y.ixArrK rfl rfl rfl rfl rfl (show (0 : Int) ≤ 2 ∧ (2 : Int) < 4 by decide).1 (show (0 : Int) ≤ 2 ∧ (2 : Int) < 4 by decide).2 (q := 2) (off := 2) rfl rfl) rfl rfl rfl ?_; refine At.Still.nil ?_; refine At.store rfl rfl rfl rfl .z rfl rfl rfl (.s (.s (.c .n))) ?_; refine At.nil ?_; refine At.ibn ?_; refine At.thn (At.region (At.run 2 rfl (nT ?_))); refine At.round ?_; refine sR 1 rfl (nT (At.seq ?_)); refine At.condT rfl rfl ?_; refine At.skip (At.thn (At.seq ?_)); refine At.block ?_; refine sR 2 rfl (nT ?_); refine At.still 8 (by kernel_rfl) ?_; refine At.Still.run 1 rfl ?_; refine At.Still.y (Y.ixArrK rfl rfl rfl rfl rfl (show (0 : Int) ≤ 3 ∧ (3 : Int) < 4 by decide).1 (show (0 : Int) ≤ 3 ∧ (3 : Int) < 4 by decide).2 (q := 3) (off := 3) rfl rfl) rfl rfl rfl ?_; refine At.Still.y (Y.load rfl rfl .z rfl rfl rfl) rfl rfl rfl ?_; refine At.Still.run 1 rfl ?_; refine At.Still.y (Y.ixArrK rfl rfl rfl rfl rfl (show (0 : Int) ≤ 3 ∧ (3 : Int) < 4 by decide).1 (show (0 : Int) ≤ 3 ∧ (3 : Int) < 4 by decide).2 (q := 3) (off := 3) rfl rfl) rfl rfl rfl ?_; refine At.Still.y (Y.load rfl rfl (.s (.s .z)) rfl rfl rfl) rfl rfl rfl ?_; refine At.Still.run 1 rfl ?_; refine At.Still.y (Y.ixArrK rfl rfl rfl rfl rfl (show (0 : Int) ≤ 3 ∧ (3 : Int) < 4 by decide).1 (show (0 : Int) ≤ 3 ∧ (3 : Int) < 4 by decide).2 (q := 3) (off := 3) rfl rfl) rfl rfl rfl ?_; refine At.Still.nil ?_; refine At.store rfl rfl rfl rfl .z rfl rfl rfl (.s (.s (.s (.c .n)))) ?_; refine At.nil ?_; refine At.ibn ?_; refine At.thn (At.region (At.run 2 rfl (nT ?_))); refine At.round ?_; refine sR 1 rfl (nT (At.seq ?_)); refine At.condF rfl rfl ?_; refine At.exit ?_; refine At.the ?_; refine At.the ?_; refine At.ibx ?_; refine At.thn (At.seq (At.region (At.y (Y.load rfl rfl .z rfl rfl rfl) rfl rfl rfl ?_))); refine At.store rfl rfl rfl rfl (.s .z) rfl rfl rfl (.c (.c (.c (.c .n)))) ?_; refine nT (At.ret ?_); refine At.resM (.inl rfl) rfl (RV.cell rfl rfl .z rfl rfl rfl RV.nil) ?_; refine At.drop .z (At.drop .z (At.drop .z ?_)); cases bret j; exact fun a w e hs => ⟨_, ⟨rfl, rfl⟩, hs⟩

noncomputable def Q37.l0b (M : Int) (q : List (Q7 × Q2)) (O U V X : Int) (a2 : Bs) (G I J L p : Int) : Option ((Int × Int × Int × Int × Int) ⊕ ((Int × Int × Int × Int) ⊕ (Int × Int × Int × Int))) :=
 if p < M then
 jn (
 (Q101.f (((mget q (⟨p, a2⟩ : Q7)).getD (⟨(0 : Int), (0 : Int), (0 : Int), (0 : Int)⟩ : Q2)).c0) (((mget q (⟨p, a2⟩ : Q7)).getD (⟨(0 : Int), (0 : Int), (0 : Int), (0 : Int)⟩ : Q2)).c1) (((mget q (⟨p, a2⟩ : Q7)).getD (⟨(0 : Int), (0 : Int), (0 : Int), (0 : Int)⟩ : Q2)).c2) (((mget q (⟨p, a2⟩ : Q7)).getD (⟨(0 : Int), (0 : Int), (0 : Int), (0 : Int)⟩ : Q2)).c3) O U V X).bind fun u =>
 if (decide (u.1 = 0) && (decide (u.2.1 = 0) && (decide (u.2.2.1 = 0) && (decide (u.2.2.2 = 0) && true)))) = true then
 some (.inl (G, I, J, L))
 else
 (Q72.f G I J L p).bind fun D =>
 some (.inl (D.1, D.2.1, D.2.2.1, D.2.2.2))) (fun (s_ : Int × Int × Int × Int) =>
 nx (s_.1, s_.2.1, s_.2.2.1, s_.2.2.2, IntKind.i64.wrap (p + 1)))
 else
 dn (.inl (G, I, J, L))
noncomputable def Q37.l0 (p : Int) (q : List (Q7 × Q2)) (u D G I : Int) (a2 : Bs) (J L M O U : Int) : Option ((Int × Int × Int × Int) ⊕ (Int × Int × Int × Int)) := iter (fun t_ : Int × Int × Int × Int × Int => Q37.l0b p q u D G I a2 t_.1 t_.2.1 t_.2.2.1 t_.2.2.2.1 t_.2.2.2.2) (J, L, M, O, U)
noncomputable def Q37.f (p : Int) (J : List (Bs × Q2)) (q : List (Q7 × Q2)) (u D G I : Int) (a2 : Bs) : Option (Int × Int × Int × Int) :=
 jn (Q37.l0 p q u D G I a2 0 0 0 0 0) (fun (s_ : Int × Int × Int × Int) =>
 some (s_.1, s_.2.1, s_.2.2.1, s_.2.2.2))
theorem Q37.callee : Callee Tryz.prog 21 := ⟨_, Tryz.func21, by kernel_rfl, by kernel_rfl⟩
theorem Q37.spec {p q u D G : Int} {O : List (Bs × Q2)} {I : List (Q7 × Q2)} {a2 : Bs} {r : Int × Int × Int × Int} (j : Q37.f p O I q u D G a2 = some r) :
 Spec Tryz.prog 21 [bp b0, .agg #[.int .u64 q, .int .u64 u, .int .u64 D, .int .u64 G], .string ⟨(a2).toArray⟩] R (pc b0 [i6 p, .map (some b0_1), .map (some b0_2)] 72 :: mapo Fl.bs.ov Q2.fl.av b0_1 O :: mapo Q7.fl.av Q2.fl.av b0_2 I :: Fr) (fun v l' => v = .agg #[.int .u64 r.1, .int .u64 r.2.1, .int .u64 r.2.2.1, .int .u64 r.2.2.2] ∧ pc b0 [i6 p, .map (some b0_1), .map (some b0_2)] 72 :: mapo Fl.bs.ov Q2.fl.av b0_1 O :: mapo Q7.fl.av Q2.fl.av b0_2 I :: Fr = l') := by
 refine Spec.of Tryz.func21 rfl rfl ?_; unfold Q37.f at j; have j := brun j; refine At.seq (At.region ?_); refine At.box rfl rfl (cs := [.int .u64 q, .int .u64 u, .int .u64 D, .int .u64 G]) rfl rfl (fun a0 => ?_); refine At.alloc rfl rfl rfl (fun U => ?_); refine nT (At.seq (At.region ?_)); refine At.alloc rfl rfl rfl (fun J => ?_); refine nT (At.seq (sR 3 rfl (At.y (Y.load rfl rfl (.s (.s (.s .z))) rfl rfl rfl) rfl rfl rfl (At.run 1 rfl ?_)))); refine nT ?_; refine At.block ?_; obtain ⟨b4, b5, d2, j⟩ := bjoin j; obtain ⟨a1, a3, b6⟩ := bsome j; clear j; unfold Q37.l0 at a3; obtain ⟨a4, M⟩ := Q19.1 a3; clear a3; let T1 : HProp := pt U (.cells ([.int .u64 0, .int .u64 0, .int .u64 0, .int .u64 0] : List Value).toArray 38); let T2 : HProp := pc a0 [.int .u64 q, .int .u64 u, .int .u64 D, .int .u64 G] 38; let T3 : HProp := pc b0 [i6 p, .map (some b0_1), .map (some b0_2)] 72; let T4 : HProp := mapo Fl.bs.ov Q2.fl.av b0_1 O; let T5 : HProp := mapo Q7.fl.av Q2.fl.av b0_2 I; refine At.loopJ (X := Int × Int × Int × Int × Int) (Y := Int × Int × Int × Int) (e0 := 0) (fun s_ => [(0, bp b0), (2, .string ⟨(a2).toArray⟩), (4, bp a0), (6, bp U), (7, bp J), (12, i6 p), (13, i6 s_.2.2.2.2)]) (fun s_ => pc J [.int .u64 s_.1, .int .u64 s_.2.1, .int .u64 s_.2.2.1, .int .u64 s_.2.2.2.1] 38 :: T1 :: T2 :: T3 :: T4 :: T5 :: Fr) (fun m_ => fun s_ => iterN (fun t_ : Int × Int × Int × Int × Int => Q37.l0b p I q u D G a2 t_.1 t_.2.1 t_.2.2.1 t_.2.2.2.1 t_.2.2.2.2) m_ (s_.1, s_.2.1, s_.2.2.1, s_.2.2.2.1, s_.2.2.2.2) = some a1) a4 (0, 0, 0, 0, 0) M (fun s_ => [(6, bp U), (7, bp J)]) (fun s_ => pc J [.int .u64 s_.1, .int .u64 s_.2.1, .int .u64 s_.2.2.1, .int .u64 s_.2.2.2] 38 :: T1 :: T2 :: T3 :: T4 :: T5 :: Fr) (fun s_ => b4 (.inl (s_.1, s_.2.1, s_.2.2.1, s_.2.2.2)) = some r) (fun a w e hs => ⟨e.sub ⟨rfl, rfl, rfl, rfl, rfl, rfl, rfl, trivial⟩, (by exact hs)⟩) ?_ (fun b7 => ?_)
 ·rintro ⟨d3, d4, d5, d6⟩ j; have j := (b5 _).symm.trans j
  ·refine At.ibx ?_; refine At.thn (At.seq (At.region (At.y (Y.load rfl rfl .z rfl rfl rfl) rfl rfl rfl ?_))); refine At.store rfl rfl rfl rfl (.s .z) rfl rfl rfl (.c (.c (.c (.c .n)))) ?_; refine nT (At.ret ?_); refine At.resM (.inl rfl) rfl (RV.cell rfl rfl .z rfl rfl rfl RV.nil) ?_; refine At.drop .z (At.drop .z (At.drop .z ?_)); cases bret j; exact fun a w e hs => ⟨_, ⟨rfl, rfl⟩, hs⟩
 ·clear M a4; rintro a4 ⟨a5, a6, a7, a8, L⟩ M; obtain ⟨b8, f_, b9, hf_, j⟩ := bit M; clear M; have j : (Q37.l0b p I q u D G a2 a5 a6 a7 a8 L).bind _ = some a1 := j; unfold Q37.l0b at j
  ·refine sR 1 rfl (nT (At.seq ?_)); rcases bite j with ⟨a9, j⟩ | ⟨a9, j⟩
   ··refine At.condT rfl (decide_eq_true a9) ?_
     refine At.skip (At.thn (At.seq ?_)); obtain ⟨c4, c5, d7, j⟩ := bjoin j; refine At.join (X := Int × Int × Int × Int) (fun s_ => [(0, bp b0), (2, .string ⟨(a2).toArray⟩), (4, bp a0), (6, bp U), (7, bp J), (12, i6 p), (13, i6 L)]) (fun s_ => pc J [.int .u64 s_.1, .int .u64 s_.2.1, .int .u64 s_.2.2.1, .int .u64 s_.2.2.2] 38 :: T1 :: T2 :: T3 :: T4 :: T5 :: Fr) (fun s_ => c4 (.inl (s_.1, s_.2.1, s_.2.2.1, s_.2.2.2)) = some a1) ?_ (fun b3 => ?_)
     ·rintro ⟨c6, c7, c8, c9⟩ j; have j := (c5 _).symm.trans j
      ·refine At.region (At.run 2 rfl (At.nil ?_)); have j := bnx hf_ j; exact fun a w e hs => ⟨b8, (c6, c7, c8, c9, IntKind.i64.wrap (L + 1)), b9, j, e.sub ⟨rfl, rfl, rfl, rfl, rfl, rfl, rfl, trivial⟩, hs⟩
     ··refine At.block ?_
       refine sR 2 rfl (nT (At.seq ?_)); refine At.quiet (by kernel_rfl) ?_; refine At.Quiet.run 3 rfl ?_; refine At.Quiet.y (Y.load rfl rfl (.s (.s (.s .z))) rfl rfl rfl) rfl rfl rfl ?_; refine At.Quiet.run 2 rfl ?_; refine At.Quiet.y (Y.build (is := [0, 1]) (xo := [.tmp 20, .tmp 21]) (vs := [i6 L, .string ⟨(a2).toArray⟩]) (cs := [i6 L, .string ⟨(a2).toArray⟩]) rfl rfl rfl rfl rfl rfl) rfl rfl rfl ?_; refine At.Quiet.y (Y.lookup (k := (⟨L, a2⟩ : Q7)) (z := (⟨(0 : Int), (0 : Int), (0 : Int), (0 : Int)⟩ : Q2)) (.s (.s (.s (.s (.s .z))))) rfl rfl Q7.keyok (by kernel_rfl) rfl rfl rfl) rfl rfl rfl ?_; refine At.Quiet.y (Y.load rfl rfl (.s (.s .z)) rfl rfl rfl) rfl rfl rfl ?_; obtain ⟨V, d0, j⟩ := bbind j; refine At.Quiet.call rfl Q101.callee rfl rfl rfl (Q101.spec d0) (fun _ _ h_ => ⟨h_.1, fun _ hs => h_.2 ▸ hs⟩) ?_; refine At.Quiet.y (Y.buildA (is := []) (xo := []) (vs := []) (cs := [.int .u64 0, .int .u64 0, .int .u64 0, .int .u64 0]) rfl rfl rfl rfl rfl rfl) rfl rfl rfl ?_; refine At.Quiet.y (Y.neAr (xs := [.int .u64 V.1, .int .u64 V.2.1, .int .u64 V.2.2.1, .int .u64 V.2.2.2]) (ys := [.int .u64 0, .int .u64 0, .int .u64 0, .int .u64 0]) rfl rfl rfl rfl rfl rfl rfl (by kernel_rfl) rfl) rfl rfl rfl ?_; refine At.Quiet.nil (At.thn ?_); rcases bite j with ⟨b2, j⟩ | ⟨b2, j⟩
       ··refine At.condF rfl (nf b2) ?_
         refine At.skip ?_; refine At.ibn ?_; refine At.thn ?_; exact fun a w e hs => b3 (a5, a6, a7, a8) j a w (e.sub ⟨rfl, rfl, rfl, rfl, rfl, rfl, rfl, trivial⟩) hs
       ··refine At.condT rfl (nt (bn b2)) ?_
         refine At.region (At.y (Y.load rfl rfl .z rfl rfl rfl) rfl rfl rfl (At.run 1 rfl ?_)); obtain ⟨Z, d1, j⟩ := bbind j; refine At.call rfl Q72.callee rfl rfl rfl (Q72.spec d1) ?_; rintro _ _ ⟨rfl, rfl⟩; refine At.store rfl rfl rfl rfl .z rfl rfl rfl (.c (.c (.c (.c .n)))) ?_; refine At.nil ?_; refine At.ibn ?_; refine At.thn ?_; exact fun a w e hs => b3 (Z.1, Z.2.1, Z.2.2.1, Z.2.2.2) j a w (e.sub ⟨rfl, rfl, rfl, rfl, rfl, rfl, rfl, trivial⟩) hs
   ··refine At.condF rfl (decide_eq_false a9) ?_
     refine At.exit ?_; refine At.the ?_; refine At.the ?_; exact fun a w e hs => b7 (a5, a6, a7, a8) (bdn j b6) a w (e.sub ⟨rfl, rfl, trivial⟩) hs

theorem Q11.callee : Callee Tryz.prog 33 := ⟨_, Tryz.func33, by kernel_rfl, by kernel_rfl⟩
def Q11.SP (self_ : Int → (List (Bs × Q2)) → (List (Q7 × Q2)) → (List Q1) → (List Int) → Int → Int → Int → Int → (List Q2) → Int → Option ((List Q2) × Int × Int × Int × Int)) : Prop :=
 ∀ (R : Res) (Fr : List HProp) (b0 : Nat) (b0_0 : Nat) (b0_0_1 : Nat) (b0_0_2 : Nat) (A0_1 : Option Addr) (n0_1 : Nat) (c0_1 : Nat) (A0_2 : Option Addr) (n0_2 : Nat) (c0_2 : Nat) (A0_7 : Option Addr) (n0_7 : Nat) (c0_7 : Nat) (a0_0_0 : Int) (a0_0_1 : List (Bs × Q2)) (a0_0_2 : List (Q7 × Q2)) (a0_1 : List Q1) (a0_2 : List Int) (a0_3 : Int) (a0_4 : Int) (a0_5 : Int) (a0_6 : Int) (a0_7 : List Q2) (a1 : Int) (hr0_1 : RdS Q1.fl.rep R.heap A0_1 a0_1) (hn0_1 : a0_1.length = n0_1) (hc0_1 : n0_1 ≤ c0_1) (hn0_2 : a0_2.length = n0_2) (hn0_7 : a0_7.length = n0_7) {r : (List Q2) × Int × Int × Int × Int} (j : self_ a0_0_0 a0_0_1 a0_0_2 a0_1 a0_2 a0_3 a0_4 a0_5 a0_6 a0_7 a1 = some r),
  Spec Tryz.prog 33 [bp b0, i6 a1] R (pc b0 [bp b0_0, .slice A0_1 n0_1 c0_1, .slice A0_2 n0_2 c0_2, .int .u64 a0_3, .int .u64 a0_4, .int .u64 a0_5, .int .u64 a0_6, .slice A0_7 n0_7 c0_7] 88 :: pc b0_0 [i6 a0_0_0, .map (some b0_0_1), .map (some b0_0_2)] 72 :: mapo Fl.bs.ov Q2.fl.av b0_0_1 a0_0_1 :: mapo Q7.fl.av Q2.fl.av b0_0_2 a0_0_2 :: row (Fl.int .i64) 3 A0_2 n0_2 c0_2 a0_2 :: row Q2.fl 38 A0_7 n0_7 c0_7 a0_7 :: Fr) (fun v l' => v = .agg #[.int .u64 r.2.1, .int .u64 r.2.2.1, .int .u64 r.2.2.2.1, .int .u64 r.2.2.2.2] ∧ pc b0 [bp b0_0, .slice A0_1 n0_1 c0_1, .slice A0_2 n0_2 c0_2, .int .u64 a0_3, .int .u64 a0_4, .int .u64 a0_5, .int .u64 a0_6, .slice A0_7 n0_7 c0_7] 88 :: pc b0_0 [i6 a0_0_0, .map (some b0_0_1), .map (some b0_0_2)] 72 :: mapo Fl.bs.ov Q2.fl.av b0_0_1 a0_0_1 :: mapo Q7.fl.av Q2.fl.av b0_0_2 a0_0_2 :: row (Fl.int .i64) 3 A0_2 n0_2 c0_2 a0_2 :: row Q2.fl 38 A0_7 n0_7 c0_7 r.1 :: Fr = l')
theorem Q21.callee : Callee Tryz.prog 73 := ⟨_, Tryz.func73, by kernel_rfl, by kernel_rfl⟩
def Q21.SP (self_ : Int → (List (Bs × Q2)) → (List (Q7 × Q2)) → (List Q1) → (List Int) → Int → Int → Int → Int → (List Q2) → Int → Int → Int → Int → Int → Option ((List Q2) × Int × Int × Int × Int)) : Prop :=
 ∀ (R : Res) (Fr : List HProp) (b0 : Nat) (b0_0 : Nat) (b0_0_1 : Nat) (b0_0_2 : Nat) (A0_1 : Option Addr) (n0_1 : Nat) (c0_1 : Nat) (A0_2 : Option Addr) (n0_2 : Nat) (c0_2 : Nat) (A0_7 : Option Addr) (n0_7 : Nat) (c0_7 : Nat) (a0_0_0 : Int) (a0_0_1 : List (Bs × Q2)) (a0_0_2 : List (Q7 × Q2)) (a0_1 : List Q1) (a0_2 : List Int) (a0_3 : Int) (a0_4 : Int) (a0_5 : Int) (a0_6 : Int) (a0_7 : List Q2) (a1 : Int) (a2_0 : Int) (a2_1 : Int) (a2_2 : Int) (a2_3 : Int) (hr0_1 : RdS Q1.fl.rep R.heap A0_1 a0_1) (hn0_1 : a0_1.length = n0_1) (hc0_1 : n0_1 ≤ c0_1) (hn0_2 : a0_2.length = n0_2) (hn0_7 : a0_7.length = n0_7) {r : (List Q2) × Int × Int × Int × Int} (j : self_ a0_0_0 a0_0_1 a0_0_2 a0_1 a0_2 a0_3 a0_4 a0_5 a0_6 a0_7 a1 a2_0 a2_1 a2_2 a2_3 = some r),
  Spec Tryz.prog 73 [bp b0, i6 a1, .agg #[.int .u64 a2_0, .int .u64 a2_1, .int .u64 a2_2, .int .u64 a2_3]] R (pc b0 [bp b0_0, .slice A0_1 n0_1 c0_1, .slice A0_2 n0_2 c0_2, .int .u64 a0_3, .int .u64 a0_4, .int .u64 a0_5, .int .u64 a0_6, .slice A0_7 n0_7 c0_7] 88 :: pc b0_0 [i6 a0_0_0, .map (some b0_0_1), .map (some b0_0_2)] 72 :: mapo Fl.bs.ov Q2.fl.av b0_0_1 a0_0_1 :: mapo Q7.fl.av Q2.fl.av b0_0_2 a0_0_2 :: row (Fl.int .i64) 3 A0_2 n0_2 c0_2 a0_2 :: row Q2.fl 38 A0_7 n0_7 c0_7 a0_7 :: Fr) (fun v l' => v = .agg #[.int .u64 r.2.1, .int .u64 r.2.2.1, .int .u64 r.2.2.2.1, .int .u64 r.2.2.2.2] ∧ pc b0 [bp b0_0, .slice A0_1 n0_1 c0_1, .slice A0_2 n0_2 c0_2, .int .u64 a0_3, .int .u64 a0_4, .int .u64 a0_5, .int .u64 a0_6, .slice A0_7 n0_7 c0_7] 88 :: pc b0_0 [i6 a0_0_0, .map (some b0_0_1), .map (some b0_0_2)] 72 :: mapo Fl.bs.ov Q2.fl.av b0_0_1 a0_0_1 :: mapo Q7.fl.av Q2.fl.av b0_0_2 a0_0_2 :: row (Fl.int .i64) 3 A0_2 n0_2 c0_2 a0_2 :: row Q2.fl 38 A0_7 n0_7 c0_7 r.1 :: Fr = l')
noncomputable def Q11.g (self_0 : Int → (List (Bs × Q2)) → (List (Q7 × Q2)) → (List Q1) → (List Int) → Int → Int → Int → Int → (List Q2) → Int → Option ((List Q2) × Int × Int × Int × Int)) (self_1 : Int → (List (Bs × Q2)) → (List (Q7 × Q2)) → (List Q1) → (List Int) → Int → Int → Int → Int → (List Q2) → Int → Int → Int → Int → Int → Option ((List Q2) × Int × Int × Int × Int)) (D : Int) (G : List (Bs × Q2)) (I : List (Q7 × Q2)) (p : List Q1) (q : List Int) (J L M O : Int) (u : List Q2) (a1 : Int) : Option ((List Q2) × Int × Int × Int × Int) :=
 if (0 : Int) ≤ a1 ∧ a1 < (p.length : Int) then
 if (gt p a1).Kind = 1 then
 some (u, J, L, M, O)
 else
 if (gt p a1).Kind = 3 then
 (Q93.f D G I ((gt p a1).Name)).bind fun a6 =>
 some (u, a6.1, a6.2.1, a6.2.2.1, a6.2.2.2)
 else
 if (gt p a1).Kind = 12 then
 (Q93.f D G I ((gt p a1).Name)).bind fun a7 =>
 (Q63.f D G I p q J L M O u a7.1 a7.2.1 a7.2.2.1 a7.2.2.2).bind fun a8 =>
 some (u, a8.1, a8.2.1, a8.2.2.1, a8.2.2.2)
 else
 if (gt p a1).Kind = 4 then
 if (0 : Int) ≤ a1 ∧ a1 < (q.length : Int) then
 if (0 : Int) ≤ gt q a1 ∧ gt q a1 < (u.length : Int) then
 some (u, (gt u (gt q a1)).c0, (gt u (gt q a1)).c1, (gt u (gt q a1)).c2, (gt u (gt q a1)).c3)
 else none
 else none
 else
 if (gt p a1).Kind = 5 then
 (self_0 D G I p q J L M O u ((gt p a1).A)).bind fun V =>
 (Q63.f D G I p q J L M O V.1 V.2.1 V.2.2.1 V.2.2.2.1 V.2.2.2.2).bind fun a9 =>
 some (V.1, a9.1, a9.2.1, a9.2.2.1, a9.2.2.2)
 else
 if (gt p a1).Kind = 6 then
 (self_0 D G I p q J L M O u ((gt p a1).A)).bind fun X =>
 (self_0 D G I p q J L M O X.1 ((gt p a1).B)).bind fun Z =>
 (Q101.f X.2.1 X.2.2.1 X.2.2.2.1 X.2.2.2.2 Z.2.1 Z.2.2.1 Z.2.2.2.1 Z.2.2.2.2).bind fun b2 =>
 some (Z.1, b2.1, b2.2.1, b2.2.2.1, b2.2.2.2)
 else
 if (gt p a1).Kind = 7 then
 (self_0 D G I p q J L M O u ((gt p a1).A)).bind fun a0 =>
 (self_0 D G I p q J L M O a0.1 ((gt p a1).B)).bind fun a2 =>
 (Q131.f a0.2.1 a0.2.2.1 a0.2.2.2.1 a0.2.2.2.2 a2.2.1 a2.2.2.1 a2.2.2.2.1 a2.2.2.2.2).bind fun b3 =>
 some (a2.1, b3.1, b3.2.1, b3.2.2.1, b3.2.2.2)
 else
 if (gt p a1).Kind = 8 then
 (self_0 D G I p q J L M O u ((gt p a1).A)).bind fun a3 =>
 (Q37.f D G I a3.2.1 a3.2.2.1 a3.2.2.2.1 a3.2.2.2.2 ((gt p a1).Name)).bind fun b4 =>
 some (a3.1, b4.1, b4.2.1, b4.2.2.1, b4.2.2.2)
 else
 if (gt p a1).Kind = 9 then
 (self_0 D G I p q J L M O u ((gt p a1).A)).bind fun U =>
 (Q63.f D G I p q J L M O U.1 U.2.1 U.2.2.1 U.2.2.2.1 U.2.2.2.2).bind fun b5 =>
 (Q37.f D G I b5.1 b5.2.1 b5.2.2.1 b5.2.2.2 ((gt p a1).Name)).bind fun b6 =>
 (Q63.f D G I p q J L M O U.1 b6.1 b6.2.1 b6.2.2.1 b6.2.2.2).bind fun b7 =>
 some (U.1, b7.1, b7.2.1, b7.2.2.1, b7.2.2.2)
 else
 if (gt p a1).Kind = 10 then
 (self_1 D G I p q J L M O u a1 0 0 0 0).bind fun a4 =>
 some (a4.1, a4.2.1, a4.2.2.1, a4.2.2.2.1, a4.2.2.2.2)
 else
 if (gt p a1).Kind = 11 then
 (self_1 D G I p q J L M O u a1 J L M O).bind fun a5 =>
 some (a5.1, a5.2.1, a5.2.2.1, a5.2.2.2.1, a5.2.2.2.2)
 else
 some (u, 0, 0, 0, 0)
 else none
noncomputable def Q21.l0b (u : Int) (D : List (Bs × Q2)) (G : List (Q7 × Q2)) (q : List Q1) (I : List Int) (J L M O a1 : Int) (self_0 : Int → (List (Bs × Q2)) → (List (Q7 × Q2)) → (List Q1) → (List Int) → Int → Int → Int → Int → (List Q2) → Int → Option ((List Q2) × Int × Int × Int × Int)) (U : List Q2) : Option (((List Q2)) ⊕ ((Unit) ⊕ ((List Q2) × Int × Int × Int × Int))) :=
 if (0 : Int) ≤ a1 ∧ a1 < (q.length : Int) then
 (self_0 u D G q I J L M O U ((gt q a1).A)).bind fun p =>
 if (decide (p.2.1 = (gt p.1 a1).c0) && (decide (p.2.2.1 = (gt p.1 a1).c1) && (decide (p.2.2.2.1 = (gt p.1 a1).c2) && (decide (p.2.2.2.2 = (gt p.1 a1).c3) && true)))) = true then
 upL (some (p.1, p.2.1, p.2.2.1, p.2.2.2.1, p.2.2.2.2))
 else
 nx (st p.1 a1 (⟨p.2.1, p.2.2.1, p.2.2.2.1, p.2.2.2.2⟩ : Q2))
 else none
noncomputable def Q21.l0 (p : Int) (q : List (Bs × Q2)) (u : List (Q7 × Q2)) (D : List Q1) (G : List Int) (I J L M a1 : Int) (self_0 : Int → (List (Bs × Q2)) → (List (Q7 × Q2)) → (List Q1) → (List Int) → Int → Int → Int → Int → (List Q2) → Int → Option ((List Q2) × Int × Int × Int × Int)) (O : List Q2) : Option ((Unit) ⊕ ((List Q2) × Int × Int × Int × Int)) := iter (fun t_ : (List Q2) => Q21.l0b p q u D G I J L M a1 self_0 t_) O
noncomputable def Q21.g (self_0 : Int → (List (Bs × Q2)) → (List (Q7 × Q2)) → (List Q1) → (List Int) → Int → Int → Int → Int → (List Q2) → Int → Option ((List Q2) × Int × Int × Int × Int)) (self_1 : Int → (List (Bs × Q2)) → (List (Q7 × Q2)) → (List Q1) → (List Int) → Int → Int → Int → Int → (List Q2) → Int → Int → Int → Int → Int → Option ((List Q2) × Int × Int × Int × Int)) (q : Int) (u : List (Bs × Q2)) (D : List (Q7 × Q2)) (G : List Q1) (I : List Int) (J L M O : Int) (p : List Q2) (a1 U V X Z : Int) : Option ((List Q2) × Int × Int × Int × Int) :=
 if (0 : Int) ≤ a1 ∧ a1 < (p.length : Int) then
 jn (Q21.l0 q u D G I J L M O a1 self_0 (st p a1 (⟨U, V, X, Z⟩ : Q2))) (fun (_ : Unit) => none)
 else none
noncomputable def Q11.tab : Nat → (Int → (List (Bs × Q2)) → (List (Q7 × Q2)) → (List Q1) → (List Int) → Int → Int → Int → Int → (List Q2) → Int → Option ((List Q2) × Int × Int × Int × Int)) × (Int → (List (Bs × Q2)) → (List (Q7 × Q2)) → (List Q1) → (List Int) → Int → Int → Int → Int → (List Q2) → Int → Int → Int → Int → Int → Option ((List Q2) × Int × Int × Int × Int))
 | 0 => (fun _ _ _ _ _ _ _ _ _ _ _ => none, fun _ _ _ _ _ _ _ _ _ _ _ _ _ _ _ => none)
 | k_ + 1 => (Q11.g ((Q11.tab k_).1) ((Q11.tab k_).2), Q21.g ((Q11.tab k_).1) ((Q11.tab k_).2))
noncomputable def Q11.n (k_ : Nat) : Int → (List (Bs × Q2)) → (List (Q7 × Q2)) → (List Q1) → (List Int) → Int → Int → Int → Int → (List Q2) → Int → Option ((List Q2) × Int × Int × Int × Int) := (Q11.tab k_).1
noncomputable def Q11.f (p : Int) (q : List (Bs × Q2)) (u : List (Q7 × Q2)) (D : List Q1) (G : List Int) (I J L M : Int) (O : List Q2) (a1 : Int) : Option ((List Q2) × Int × Int × Int × Int) := recF fun k_ => Q11.n k_ p q u D G I J L M O a1
noncomputable def Q21.n (k_ : Nat) : Int → (List (Bs × Q2)) → (List (Q7 × Q2)) → (List Q1) → (List Int) → Int → Int → Int → Int → (List Q2) → Int → Int → Int → Int → Int → Option ((List Q2) × Int × Int × Int × Int) := (Q11.tab k_).2
theorem Q11.step (self_0 : Int → (List (Bs × Q2)) → (List (Q7 × Q2)) → (List Q1) → (List Int) → Int → Int → Int → Int → (List Q2) → Int → Option ((List Q2) × Int × Int × Int × Int)) (self_1 : Int → (List (Bs × Q2)) → (List (Q7 × Q2)) → (List Q1) → (List Int) → Int → Int → Int → Int → (List Q2) → Int → Int → Int → Int → Int → Option ((List Q2) × Int × Int × Int × Int)) (ih_0 : Q11.SP self_0) (ih_1 : Q21.SP self_1) :
 Q11.SP (Q11.g self_0 self_1) := by
 intro R Fr b0 b0_0 b0_0_1 b0_0_2 A0_1 n0_1 c0_1 A0_2 n0_2 c0_2 A0_7 n0_7 c0_7 M O U p u G I J L D a1 hr0_1 hn0_1 hc0_1 hn0_2 hn0_7 r j; subst hn0_1; subst hn0_2; subst hn0_7; refine Spec.of Tryz.func33 rfl rfl ?_; unfold Q11.g at j; have j := brun j; refine At.seq (At.region ?_); refine At.alloc rfl rfl rfl (fun e5 => ?_); refine nT (sR 3 rfl (At.y (Y.load rfl rfl (.s .z) rfl rfl rfl) rfl rfl rfl (At.run 1 rfl ?_))); obtain ⟨X, j⟩ := bnone j; refine At.y (Y.ixRd hr0_1 rfl rfl rfl rfl rfl rfl rfl X.1 X.2) rfl rfl rfl (At.y (Y.ldFl hr0_1 rfl (q := 0) rfl rfl X.1 X.2 rfl rfl rfl) rfl rfl rfl ?_); refine At.alloc rfl rfl rfl (fun V => ?_); refine At.store rfl rfl rfl rfl .z rfl rfl rfl (.c (.c (.c (.c (.c .n))))) ?_; refine nT (At.seq (sR 1 rfl (At.y (Y.load rfl rfl .z rfl rfl rfl) rfl rfl rfl (At.nil ?_)))); refine At.thn ?_; refine At.block ?_; refine sR 2 rfl (nT ?_); rcases bite j with ⟨a2, j⟩ | ⟨a2, j⟩
 ··refine At.condT rfl (decide_eq_true a2) ?_
   refine sR 3 rfl (At.y (Y.load rfl rfl (.s (.s .z)) rfl rfl rfl) rfl rfl rfl ?_); refine At.store rfl rfl rfl rfl (.s .z) rfl rfl rfl (.c (.c (.c (.c .n)))) ?_; refine nT (At.ret ?_); refine At.ibr ?_; refine At.thr ?_; refine At.resM (.inl rfl) rfl (RV.cell rfl rfl .z rfl rfl rfl RV.nil) ?_; refine At.drop .z (At.drop .z ?_); cases bret j; exact fun a w e hs => ⟨_, ⟨rfl, rfl⟩, hs⟩
 ··refine At.condF rfl (decide_eq_false a2) ?_
   refine sR 2 rfl (nT ?_); rcases bite j with ⟨a3, j⟩ | ⟨a3, j⟩
   ··refine At.condT rfl (decide_eq_true a3) ?_
     refine At.seq ?_; refine At.held [pc V [i6 ((gt p a1).Kind), i6 ((gt p a1).A), i6 ((gt p a1).B), .string ⟨((gt p a1).Name).toArray⟩, i6 ((gt p a1).At)] 51, pc b0 [bp b0_0, .slice A0_1 p.length c0_1, .slice A0_2 u.length c0_2, .int .u64 G, .int .u64 I, .int .u64 J, .int .u64 L, .slice A0_7 D.length c0_7] 88, pc b0_0 [i6 M, .map (some b0_0_1), .map (some b0_0_2)] 72, mapo Fl.bs.ov Q2.fl.av b0_0_1 O, mapo Q7.fl.av Q2.fl.av b0_0_2 U, row (Fl.int .i64) 3 A0_2 u.length c0_2 u, row Q2.fl 38 A0_7 D.length c0_7 D] 8 rfl ?_; refine At.H.pw 0 rfl rfl rfl rfl rfl (.c .z (.c (.s .z) (.c (.s .z) (.c (.s .z) (.c (.s .z) (.c (.s .z) (.c (.s .z) .n))))))) ?_; refine At.H.pw 1 rfl rfl rfl rfl rfl (.c .z (.c (.s .z) (.c (.s .z) (.c (.s .z) (.c (.s .z) (.c (.s .z) (.c (.s .z) .n))))))) ?_; refine At.H.pw 2 rfl rfl rfl rfl rfl (.c .z (.c (.s .z) (.c (.s .z) (.c (.s .z) (.c (.s .z) (.c (.s .z) (.c (.s .z) .n))))))) ?_; refine At.H.tw 3 rfl (Y.load rfl rfl (.s .z) rfl rfl rfl) rfl rfl rfl (.c .z (.c (.s .z) (.c (.s .z) (.c (.s .z) (.c (.s .z) (.c (.s .z) (.c (.s .z) .n))))))) ?_; refine At.H.pw 4 rfl rfl rfl rfl rfl (.c .z (.c (.s .z) (.c (.s .z) (.c (.s .z) (.c (.s .z) (.c (.s .z) (.c (.s .z) .n))))))) ?_; refine At.H.tw 5 rfl (Y.load rfl rfl .z rfl rfl rfl) rfl rfl rfl (.c .z (.c (.s .z) (.c (.s .z) (.c (.s .z) (.c (.s .z) (.c (.s .z) (.c (.s .z) .n))))))) ?_; refine At.H.al [6] (Q6 ?_ Q8)
     ··refine At.HO.op rfl ?_
       refine At.f5 (At.f5 (At.f5 ?_)); obtain ⟨e6, b5, j⟩ := bbind j; refine At.call rfl Q93.callee rfl rfl rfl (Q93.spec b5) ?_; rintro _ _ ⟨rfl, rfl⟩; refine At.HO.back (.c (.s (.s (.s .z))) (.c (.s (.s (.s (.s .z)))) (.c .z (.c .z (.c .z (.c (.s .z) (.c (.s .z) .n))))))) ?_; refine At.H.al [7] (Q6 ?_ Q8)
       ··refine At.HO.op rfl ?_
         refine At.store rfl rfl rfl rfl (.s (.s (.s (.s .z)))) rfl rfl rfl (.c (.c (.c (.c .n)))) ?_; refine At.HO.back (.c (.s (.s (.s (.s .z)))) (.c (.s (.s (.s (.s .z)))) (.c (.s .z) (.c (.s .z) (.c (.s .z) (.c (.s .z) (.c (.s .z) .n))))))) ?_; refine At.H.done (by kernel_rfl) ?_; refine At.thn (At.ret ?_); refine At.ibr ?_; refine At.thr ?_; refine At.resM (.inl rfl) rfl (RV.cell rfl rfl .z rfl rfl rfl RV.nil) ?_; refine At.drop .z (At.drop (.s (.s (.s .z))) (At.f5 (At.f5 (At.f4 (At.f4 (At.f4 (At.f5 ?_))))))); cases bret j; exact fun a w e hs => ⟨_, ⟨rfl, rfl⟩, hs⟩
   ··refine At.condF rfl (decide_eq_false a3) ?_
     refine sR 2 rfl (nT ?_); rcases bite j with ⟨a4, j⟩ | ⟨a4, j⟩
     ··refine At.condT rfl (decide_eq_true a4) ?_
       refine At.seq ?_; refine At.held [pc V [i6 ((gt p a1).Kind), i6 ((gt p a1).A), i6 ((gt p a1).B), .string ⟨((gt p a1).Name).toArray⟩, i6 ((gt p a1).At)] 51, pc b0 [bp b0_0, .slice A0_1 p.length c0_1, .slice A0_2 u.length c0_2, .int .u64 G, .int .u64 I, .int .u64 J, .int .u64 L, .slice A0_7 D.length c0_7] 88, pc b0_0 [i6 M, .map (some b0_0_1), .map (some b0_0_2)] 72, mapo Fl.bs.ov Q2.fl.av b0_0_1 O, mapo Q7.fl.av Q2.fl.av b0_0_2 U, row (Fl.int .i64) 3 A0_2 u.length c0_2 u, row Q2.fl 38 A0_7 D.length c0_7 D] 10 rfl ?_; refine At.H.pw 0 rfl rfl rfl rfl rfl (.c .z (.c (.s .z) (.c (.s .z) (.c (.s .z) (.c (.s .z) (.c (.s .z) (.c (.s .z) .n))))))) ?_; refine At.H.pw 1 rfl rfl rfl rfl rfl (.c .z (.c (.s .z) (.c (.s .z) (.c (.s .z) (.c (.s .z) (.c (.s .z) (.c (.s .z) .n))))))) ?_; refine At.H.pw 2 rfl rfl rfl rfl rfl (.c .z (.c (.s .z) (.c (.s .z) (.c (.s .z) (.c (.s .z) (.c (.s .z) (.c (.s .z) .n))))))) ?_; refine At.H.pw 3 rfl rfl rfl rfl rfl (.c .z (.c (.s .z) (.c (.s .z) (.c (.s .z) (.c (.s .z) (.c (.s .z) (.c (.s .z) .n))))))) ?_; refine At.H.tw 4 rfl (Y.load rfl rfl (.s .z) rfl rfl rfl) rfl rfl rfl (.c .z (.c (.s .z) (.c (.s .z) (.c (.s .z) (.c (.s .z) (.c (.s .z) (.c (.s .z) .n))))))) ?_; refine At.H.pw 5 rfl rfl rfl rfl rfl (.c .z (.c (.s .z) (.c (.s .z) (.c (.s .z) (.c (.s .z) (.c (.s .z) (.c (.s .z) .n))))))) ?_; refine At.H.tw 6 rfl (Y.load rfl rfl .z rfl rfl rfl) rfl rfl rfl (.c .z (.c (.s .z) (.c (.s .z) (.c (.s .z) (.c (.s .z) (.c (.s .z) (.c (.s .z) .n))))))) ?_; refine At.H.al [7] (Q6 ?_ Q8)
       ··refine At.HO.op rfl ?_
         refine At.f5 (At.f5 (At.f5 ?_)); obtain ⟨e7, b6, j⟩ := bbind j; refine At.call rfl Q93.callee rfl rfl rfl (Q93.spec b6) ?_; rintro _ _ ⟨rfl, rfl⟩; refine At.HO.back (.c (.s (.s (.s .z))) (.c (.s (.s (.s (.s .z)))) (.c .z (.c .z (.c .z (.c (.s .z) (.c (.s .z) .n))))))) ?_; refine At.H.al [8] (Q6 ?_ Q8)
         ··refine At.HO.op rfl ?_
           refine At.f7 (At.f7 (At.f4 (At.f4 (At.f4 (At.f7 ?_))))); obtain ⟨e8, b7, j⟩ := bbind j; refine At.call rfl Q63.callee rfl rfl rfl (Q63.spec hr0_1 rfl hc0_1 rfl rfl b7) ?_; rintro _ _ ⟨rfl, rfl⟩; refine At.HO.back (.c (.s (.s (.s (.s (.s (.s .z)))))) (.c .z (.c .z (.c .z (.c .z (.c .z (.c .z .n))))))) ?_; refine At.H.al [9] (Q6 ?_ Q8)
           ··refine At.HO.op rfl ?_
             refine At.store rfl rfl rfl rfl (.s (.s (.s (.s (.s (.s (.s .z))))))) rfl rfl rfl (.c (.c (.c (.c .n)))) ?_; refine At.HO.back (.c (.s (.s (.s (.s (.s (.s (.s .z))))))) (.c (.s .z) (.c (.s .z) (.c (.s .z) (.c (.s .z) (.c (.s .z) (.c (.s .z) .n))))))) ?_; refine At.H.done (by kernel_rfl) ?_; refine At.thn (At.ret ?_); refine At.ibr ?_; refine At.thr ?_; refine At.resM (.inl rfl) rfl (RV.cell rfl rfl .z rfl rfl rfl RV.nil) ?_; refine At.drop .z (At.drop (.s (.s (.s (.s (.s (.s .z)))))) ?_); cases bret j; exact fun a w e hs => ⟨_, ⟨rfl, rfl⟩, hs⟩
     ··refine At.condF rfl (decide_eq_false a4) ?_
       refine sR 2 rfl (nT ?_); rcases bite j with ⟨a5, j⟩ | ⟨a5, j⟩
       ··refine At.condT rfl (decide_eq_true a5) ?_
         refine At.seq ?_; refine At.still 13 (by kernel_rfl) ?_; refine At.Still.run 3 rfl ?_; refine At.Still.y (Y.load rfl rfl (.s (.s .z)) rfl rfl rfl) rfl rfl rfl ?_; refine At.Still.run 3 rfl ?_; refine At.Still.y (Y.load rfl rfl (.s (.s .z)) rfl rfl rfl) rfl rfl rfl ?_; refine At.Still.run 1 rfl ?_; obtain ⟨Z, j⟩ := bnone j; refine At.Still.y (Y.ix (.s (.s (.s (.s (.s (.s .z)))))) rfl rfl rfl rfl rfl rfl Z.1 Z.2) rfl rfl rfl ?_; refine At.Still.y (Y.ld (.s (.s (.s (.s (.s (.s .z)))))) (q := 0) rfl rfl Z.1 Z.2 rfl rfl rfl) rfl rfl rfl ?_; obtain ⟨a0, j⟩ := bnone j; refine At.Still.y (Y.ix (.s (.s (.s (.s (.s (.s (.s .z))))))) rfl rfl rfl rfl rfl rfl a0.1 a0.2) rfl rfl rfl ?_; refine At.Still.y (Y.ld (.s (.s (.s (.s (.s (.s (.s .z))))))) (q := 0) rfl rfl a0.1 a0.2 rfl rfl rfl) rfl rfl rfl ?_; refine At.Still.nil ?_; refine At.store rfl rfl rfl rfl (.s .z) rfl rfl rfl (.c (.c (.c (.c .n)))) ?_; refine nT (At.ret ?_); refine At.ibr ?_; refine At.thr ?_; refine At.resM (.inl rfl) rfl (RV.cell rfl rfl .z rfl rfl rfl RV.nil) ?_; refine At.drop .z (At.drop .z ?_); cases bret j; exact fun a w e hs => ⟨_, ⟨rfl, rfl⟩, hs⟩
       ··refine At.condF rfl (decide_eq_false a5) ?_
         refine sR 2 rfl (nT ?_); rcases bite j with ⟨a6, j⟩ | ⟨a6, j⟩
         ··refine At.condT rfl (decide_eq_true a6) ?_
           refine sR 3 rfl (At.y (Y.load rfl rfl .z rfl rfl rfl) rfl rfl rfl (At.f7 (At.f7 (At.f7 (At.f7 ?_))))); refine At.f7 (At.f7 ?_); obtain ⟨e9, b8, j⟩ := bbind j; refine At.call rfl Q11.callee rfl rfl rfl (ih_0 _ _ b0 b0_0 b0_0_1 b0_0_2 A0_1 p.length c0_1 A0_2 u.length c0_2 A0_7 D.length c0_7 M O U p u G I J L D ((gt p a1).A) hr0_1 rfl hc0_1 rfl rfl b8) ?_; rintro _ _ ⟨rfl, rfl⟩; refine At.rowLen (.s (.s (.s (.s (.s .z))))) fun b9 => ?_; obtain ⟨f0, c4, j⟩ := bbind j; refine At.call rfl Q63.callee rfl rfl rfl (Q63.spec hr0_1 rfl hc0_1 rfl b9 c4) ?_; rintro _ _ ⟨rfl, rfl⟩; refine At.store rfl rfl rfl rfl (.s (.s (.s (.s (.s (.s (.s .z))))))) rfl rfl rfl (.c (.c (.c (.c .n)))) ?_; refine nT (At.ret ?_); refine At.ibr ?_; refine At.thr ?_; refine At.resM (.inl rfl) rfl (RV.cell rfl rfl .z rfl rfl rfl RV.nil) ?_; refine At.drop .z (At.drop (.s (.s (.s (.s (.s (.s .z)))))) ?_); cases bret j; exact fun a w e hs => ⟨_, ⟨rfl, rfl⟩, hs⟩
         ··refine At.condF rfl (decide_eq_false a6) ?_
           refine sR 2 rfl (nT ?_); rcases bite j with ⟨a7, j⟩ | ⟨a7, j⟩
           ··refine At.condT rfl (decide_eq_true a7) ?_
             refine At.seq ?_; refine At.held [pc V [i6 ((gt p a1).Kind), i6 ((gt p a1).A), i6 ((gt p a1).B), .string ⟨((gt p a1).Name).toArray⟩, i6 ((gt p a1).At)] 51, pc b0 [bp b0_0, .slice A0_1 p.length c0_1, .slice A0_2 u.length c0_2, .int .u64 G, .int .u64 I, .int .u64 J, .int .u64 L, .slice A0_7 D.length c0_7] 88, pc b0_0 [i6 M, .map (some b0_0_1), .map (some b0_0_2)] 72, mapo Fl.bs.ov Q2.fl.av b0_0_1 O, mapo Q7.fl.av Q2.fl.av b0_0_2 U, row (Fl.int .i64) 3 A0_2 u.length c0_2 u] 10 rfl ?_; refine At.H.pw 0 rfl rfl rfl rfl rfl (.c .z (.c (.s .z) (.c (.s .z) (.c (.s .z) (.c (.s .z) (.c (.s .z) .n)))))) ?_; refine At.H.pw 1 rfl rfl rfl rfl rfl (.c .z (.c (.s .z) (.c (.s .z) (.c (.s .z) (.c (.s .z) (.c (.s .z) .n)))))) ?_; refine At.H.tw 2 rfl (Y.load rfl rfl .z rfl rfl rfl) rfl rfl rfl (.c .z (.c (.s .z) (.c (.s .z) (.c (.s .z) (.c (.s .z) (.c (.s .z) .n)))))) ?_; refine At.H.pw 4 rfl rfl rfl rfl rfl (.c .z (.c (.s .z) (.c (.s .z) (.c (.s .z) (.c (.s .z) (.c (.s .z) .n)))))) ?_; refine At.H.pw 5 rfl rfl rfl rfl rfl (.c .z (.c (.s .z) (.c (.s .z) (.c (.s .z) (.c (.s .z) (.c (.s .z) .n)))))) ?_; refine At.H.tw 6 rfl (Y.load rfl rfl .z rfl rfl rfl) rfl rfl rfl (.c .z (.c (.s .z) (.c (.s .z) (.c (.s .z) (.c (.s .z) (.c (.s .z) .n)))))) ?_; refine At.H.al [3] (Q6 ?_ Q8)
             ··refine At.HO.op rfl ?_
               refine At.f7 (At.f7 (At.f7 (At.f7 (At.f7 (At.f7 ?_))))); obtain ⟨c5, c6, j⟩ := bbind j; refine At.call rfl Q11.callee rfl rfl rfl (ih_0 _ _ b0 b0_0 b0_0_1 b0_0_2 A0_1 p.length c0_1 A0_2 u.length c0_2 A0_7 D.length c0_7 M O U p u G I J L D ((gt p a1).A) hr0_1 rfl hc0_1 rfl rfl c6) ?_; rintro _ _ ⟨rfl, rfl⟩; refine At.HO.back (.c (.s (.s (.s (.s (.s (.s .z)))))) (.c .z (.c .z (.c .z (.c .z (.c .z .n)))))) ?_; refine At.H.al [7] (Q6 ?_ Q8)
               ··refine At.HO.op rfl ?_
                 refine At.rowLen (.s (.s (.s (.s (.s .z))))) fun c7 => ?_; obtain ⟨f1, c8, j⟩ := bbind j; refine At.call rfl Q11.callee rfl rfl rfl (ih_0 _ _ b0 b0_0 b0_0_1 b0_0_2 A0_1 p.length c0_1 A0_2 u.length c0_2 A0_7 D.length c0_7 M O U p u G I J L c5.1 ((gt p a1).B) hr0_1 rfl hc0_1 rfl c7 c8) ?_; rintro _ _ ⟨rfl, rfl⟩; refine At.HO.back (.c (.s (.s (.s (.s (.s (.s .z)))))) (.c .z (.c .z (.c .z (.c .z (.c .z .n)))))) ?_; refine At.H.al [8] (Q6 ?_ Q8)
                 ··refine At.HO.op rfl ?_
                   obtain ⟨f2, c9, j⟩ := bbind j; refine At.call rfl Q101.callee rfl rfl rfl (Q101.spec c9) ?_; rintro _ _ ⟨rfl, rfl⟩; refine At.HO.back (.c (.s (.s (.s (.s (.s (.s .z)))))) (.c .z (.c .z (.c .z (.c .z (.c .z .n)))))) ?_; refine At.H.al [9] (Q6 ?_ Q8)
                   ··refine At.HO.op rfl ?_
                     refine At.store rfl rfl rfl rfl (.s (.s (.s (.s (.s (.s (.s .z))))))) rfl rfl rfl (.c (.c (.c (.c .n)))) ?_; refine At.HO.back (.c (.s (.s (.s (.s (.s (.s (.s .z))))))) (.c (.s .z) (.c (.s .z) (.c (.s .z) (.c (.s .z) (.c (.s .z) .n)))))) ?_; refine At.H.done (by kernel_rfl) ?_; refine At.thn (At.ret ?_); refine At.ibr ?_; refine At.thr ?_; refine At.resM (.inl rfl) rfl (RV.cell rfl rfl .z rfl rfl rfl RV.nil) ?_; refine At.drop .z (At.drop (.s (.s (.s (.s (.s (.s .z)))))) ?_); cases bret j; exact fun a w e hs => ⟨_, ⟨rfl, rfl⟩, hs⟩
           ··refine At.condF rfl (decide_eq_false a7) ?_
             refine sR 2 rfl (nT ?_); rcases bite j with ⟨a8, j⟩ | ⟨a8, j⟩
             ··refine At.condT rfl (decide_eq_true a8) ?_
               refine At.seq ?_; refine At.held [pc V [i6 ((gt p a1).Kind), i6 ((gt p a1).A), i6 ((gt p a1).B), .string ⟨((gt p a1).Name).toArray⟩, i6 ((gt p a1).At)] 51, pc b0 [bp b0_0, .slice A0_1 p.length c0_1, .slice A0_2 u.length c0_2, .int .u64 G, .int .u64 I, .int .u64 J, .int .u64 L, .slice A0_7 D.length c0_7] 88, pc b0_0 [i6 M, .map (some b0_0_1), .map (some b0_0_2)] 72, mapo Fl.bs.ov Q2.fl.av b0_0_1 O, mapo Q7.fl.av Q2.fl.av b0_0_2 U, row (Fl.int .i64) 3 A0_2 u.length c0_2 u] 10 rfl ?_; refine At.H.pw 0 rfl rfl rfl rfl rfl (.c .z (.c (.s .z) (.c (.s .z) (.c (.s .z) (.c (.s .z) (.c (.s .z) .n)))))) ?_; refine At.H.pw 1 rfl rfl rfl rfl rfl (.c .z (.c (.s .z) (.c (.s .z) (.c (.s .z) (.c (.s .z) (.c (.s .z) .n)))))) ?_; refine At.H.tw 2 rfl (Y.load rfl rfl .z rfl rfl rfl) rfl rfl rfl (.c .z (.c (.s .z) (.c (.s .z) (.c (.s .z) (.c (.s .z) (.c (.s .z) .n)))))) ?_; refine At.H.pw 4 rfl rfl rfl rfl rfl (.c .z (.c (.s .z) (.c (.s .z) (.c (.s .z) (.c (.s .z) (.c (.s .z) .n)))))) ?_; refine At.H.pw 5 rfl rfl rfl rfl rfl (.c .z (.c (.s .z) (.c (.s .z) (.c (.s .z) (.c (.s .z) (.c (.s .z) .n)))))) ?_; refine At.H.tw 6 rfl (Y.load rfl rfl .z rfl rfl rfl) rfl rfl rfl (.c .z (.c (.s .z) (.c (.s .z) (.c (.s .z) (.c (.s .z) (.c (.s .z) .n)))))) ?_; refine At.H.al [3] (Q6 ?_ Q8)
               ··refine At.HO.op rfl ?_
                 refine At.f7 (At.f7 (At.f7 (At.f7 (At.f7 (At.f7 ?_))))); obtain ⟨d0, d1, j⟩ := bbind j; refine At.call rfl Q11.callee rfl rfl rfl (ih_0 _ _ b0 b0_0 b0_0_1 b0_0_2 A0_1 p.length c0_1 A0_2 u.length c0_2 A0_7 D.length c0_7 M O U p u G I J L D ((gt p a1).A) hr0_1 rfl hc0_1 rfl rfl d1) ?_; rintro _ _ ⟨rfl, rfl⟩; refine At.HO.back (.c (.s (.s (.s (.s (.s (.s .z)))))) (.c .z (.c .z (.c .z (.c .z (.c .z .n)))))) ?_; refine At.H.al [7] (Q6 ?_ Q8)
                 ··refine At.HO.op rfl ?_
                   refine At.rowLen (.s (.s (.s (.s (.s .z))))) fun d2 => ?_; obtain ⟨f6, d3, j⟩ := bbind j; refine At.call rfl Q11.callee rfl rfl rfl (ih_0 _ _ b0 b0_0 b0_0_1 b0_0_2 A0_1 p.length c0_1 A0_2 u.length c0_2 A0_7 D.length c0_7 M O U p u G I J L d0.1 ((gt p a1).B) hr0_1 rfl hc0_1 rfl d2 d3) ?_; rintro _ _ ⟨rfl, rfl⟩; refine At.HO.back (.c (.s (.s (.s (.s (.s (.s .z)))))) (.c .z (.c .z (.c .z (.c .z (.c .z .n)))))) ?_; refine At.H.al [8] (Q6 ?_ Q8)
                   ··refine At.HO.op rfl ?_
                     obtain ⟨f8, d4, j⟩ := bbind j; refine At.call rfl Q131.callee rfl rfl rfl (Q131.spec d4) ?_; rintro _ _ ⟨rfl, rfl⟩; refine At.HO.back (.c (.s (.s (.s (.s (.s (.s .z)))))) (.c .z (.c .z (.c .z (.c .z (.c .z .n)))))) ?_; refine At.H.al [9] (Q6 ?_ Q8)
                     ··refine At.HO.op rfl ?_
                       refine At.store rfl rfl rfl rfl (.s (.s (.s (.s (.s (.s (.s .z))))))) rfl rfl rfl (.c (.c (.c (.c .n)))) ?_; refine At.HO.back (.c (.s (.s (.s (.s (.s (.s (.s .z))))))) (.c (.s .z) (.c (.s .z) (.c (.s .z) (.c (.s .z) (.c (.s .z) .n)))))) ?_; refine At.H.done (by kernel_rfl) ?_; refine At.thn (At.ret ?_); refine At.ibr ?_; refine At.thr ?_; refine At.resM (.inl rfl) rfl (RV.cell rfl rfl .z rfl rfl rfl RV.nil) ?_; refine At.drop .z (At.drop (.s (.s (.s (.s (.s (.s .z)))))) ?_); cases bret j; exact fun a w e hs => ⟨_, ⟨rfl, rfl⟩, hs⟩
             ··refine At.condF rfl (decide_eq_false a8) ?_
               refine sR 2 rfl (nT ?_); rcases bite j with ⟨a9, j⟩ | ⟨a9, j⟩
               ··refine At.condT rfl (decide_eq_true a9) ?_
                 refine At.seq ?_; refine At.held [pc V [i6 ((gt p a1).Kind), i6 ((gt p a1).A), i6 ((gt p a1).B), .string ⟨((gt p a1).Name).toArray⟩, i6 ((gt p a1).At)] 51, pc b0 [bp b0_0, .slice A0_1 p.length c0_1, .slice A0_2 u.length c0_2, .int .u64 G, .int .u64 I, .int .u64 J, .int .u64 L, .slice A0_7 D.length c0_7] 88, pc b0_0 [i6 M, .map (some b0_0_1), .map (some b0_0_2)] 72, mapo Fl.bs.ov Q2.fl.av b0_0_1 O, mapo Q7.fl.av Q2.fl.av b0_0_2 U, row (Fl.int .i64) 3 A0_2 u.length c0_2 u] 12 rfl ?_; refine At.H.pw 0 rfl rfl rfl rfl rfl (.c .z (.c (.s .z) (.c (.s .z) (.c (.s .z) (.c (.s .z) (.c (.s .z) .n)))))) ?_; refine At.H.pw 1 rfl rfl rfl rfl rfl (.c .z (.c (.s .z) (.c (.s .z) (.c (.s .z) (.c (.s .z) (.c (.s .z) .n)))))) ?_; refine At.H.pw 2 rfl rfl rfl rfl rfl (.c .z (.c (.s .z) (.c (.s .z) (.c (.s .z) (.c (.s .z) (.c (.s .z) .n)))))) ?_; refine At.H.tw 3 rfl (Y.load rfl rfl (.s .z) rfl rfl rfl) rfl rfl rfl (.c .z (.c (.s .z) (.c (.s .z) (.c (.s .z) (.c (.s .z) (.c (.s .z) .n)))))) ?_; refine At.H.pw 4 rfl rfl rfl rfl rfl (.c .z (.c (.s .z) (.c (.s .z) (.c (.s .z) (.c (.s .z) (.c (.s .z) .n)))))) ?_; refine At.H.pw 5 rfl rfl rfl rfl rfl (.c .z (.c (.s .z) (.c (.s .z) (.c (.s .z) (.c (.s .z) (.c (.s .z) .n)))))) ?_; refine At.H.tw 6 rfl (Y.load rfl rfl .z rfl rfl rfl) rfl rfl rfl (.c .z (.c (.s .z) (.c (.s .z) (.c (.s .z) (.c (.s .z) (.c (.s .z) .n)))))) ?_; refine At.H.pw 8 rfl rfl rfl rfl rfl (.c .z (.c (.s .z) (.c (.s .z) (.c (.s .z) (.c (.s .z) (.c (.s .z) .n)))))) ?_; refine At.H.tw 9 rfl (Y.load rfl rfl .z rfl rfl rfl) rfl rfl rfl (.c .z (.c (.s .z) (.c (.s .z) (.c (.s .z) (.c (.s .z) (.c (.s .z) .n)))))) ?_; refine At.H.al [7] (Q6 ?_ Q8)
                 ··refine At.HO.op rfl ?_
                   refine At.f7 (At.f7 (At.f7 (At.f7 (At.f7 (At.f7 ?_))))); obtain ⟨f9, d5, j⟩ := bbind j; refine At.call rfl Q11.callee rfl rfl rfl (ih_0 _ _ b0 b0_0 b0_0_1 b0_0_2 A0_1 p.length c0_1 A0_2 u.length c0_2 A0_7 D.length c0_7 M O U p u G I J L D ((gt p a1).A) hr0_1 rfl hc0_1 rfl rfl d5) ?_; rintro _ _ ⟨rfl, rfl⟩; refine At.HO.back (.c (.s (.s (.s (.s (.s (.s .z)))))) (.c .z (.c .z (.c .z (.c .z (.c .z .n)))))) ?_; refine At.H.al [10] (Q6 ?_ Q8)
                   ··refine At.HO.op rfl ?_
                     refine At.f3 (At.f3 (At.f3 ?_)); obtain ⟨g0, d6, j⟩ := bbind j; refine At.call rfl Q37.callee rfl rfl rfl (Q37.spec d6) ?_; rintro _ _ ⟨rfl, rfl⟩; refine At.HO.back (.c (.s (.s (.s (.s (.s (.s .z)))))) (.c (.s (.s (.s .z))) (.c .z (.c .z (.c .z (.c .z .n)))))) ?_; refine At.H.al [11] (Q6 ?_ Q8)
                     ··refine At.HO.op rfl ?_
                       refine At.store rfl rfl rfl rfl (.s (.s (.s (.s (.s (.s (.s .z))))))) rfl rfl rfl (.c (.c (.c (.c .n)))) ?_; refine At.HO.back (.c (.s (.s (.s (.s (.s (.s (.s .z))))))) (.c (.s (.s (.s (.s .z)))) (.c (.s .z) (.c (.s .z) (.c (.s .z) (.c (.s .z) .n)))))) ?_; refine At.H.done (by kernel_rfl) ?_; refine At.thn (At.ret ?_); refine At.ibr ?_; refine At.thr ?_; refine At.resM (.inl rfl) rfl (RV.cell rfl rfl .z rfl rfl rfl RV.nil) ?_; refine At.drop .z (At.drop (.s (.s (.s (.s (.s (.s .z)))))) (At.f5 (At.f5 (At.f4 (At.f4 (At.f4 (At.f5 ?_))))))); cases bret j; exact fun a w e hs => ⟨_, ⟨rfl, rfl⟩, hs⟩
               ··refine At.condF rfl (decide_eq_false a9) ?_
                 refine sR 2 rfl (nT ?_); rcases bite j with ⟨b2, j⟩ | ⟨b2, j⟩
                 ··refine At.condT rfl (decide_eq_true b2) ?_
                   refine At.seq ?_; refine At.held [pc V [i6 ((gt p a1).Kind), i6 ((gt p a1).A), i6 ((gt p a1).B), .string ⟨((gt p a1).Name).toArray⟩, i6 ((gt p a1).At)] 51, pc b0 [bp b0_0, .slice A0_1 p.length c0_1, .slice A0_2 u.length c0_2, .int .u64 G, .int .u64 I, .int .u64 J, .int .u64 L, .slice A0_7 D.length c0_7] 88, pc b0_0 [i6 M, .map (some b0_0_1), .map (some b0_0_2)] 72, mapo Fl.bs.ov Q2.fl.av b0_0_1 O, mapo Q7.fl.av Q2.fl.av b0_0_2 U, row (Fl.int .i64) 3 A0_2 u.length c0_2 u] 16 rfl ?_; refine At.H.pw 0 rfl rfl rfl rfl rfl (.c .z (.c (.s .z) (.c (.s .z) (.c (.s .z) (.c (.s .z) (.c (.s .z) .n)))))) ?_; refine At.H.pw 1 rfl rfl rfl rfl rfl (.c .z (.c (.s .z) (.c (.s .z) (.c (.s .z) (.c (.s .z) (.c (.s .z) .n)))))) ?_; refine At.H.pw 2 rfl rfl rfl rfl rfl (.c .z (.c (.s .z) (.c (.s .z) (.c (.s .z) (.c (.s .z) (.c (.s .z) .n)))))) ?_; refine At.H.pw 3 rfl rfl rfl rfl rfl (.c .z (.c (.s .z) (.c (.s .z) (.c (.s .z) (.c (.s .z) (.c (.s .z) .n)))))) ?_; refine At.H.tw 4 rfl (Y.load rfl rfl (.s .z) rfl rfl rfl) rfl rfl rfl (.c .z (.c (.s .z) (.c (.s .z) (.c (.s .z) (.c (.s .z) (.c (.s .z) .n)))))) ?_; refine At.H.pw 5 rfl rfl rfl rfl rfl (.c .z (.c (.s .z) (.c (.s .z) (.c (.s .z) (.c (.s .z) (.c (.s .z) .n)))))) ?_; refine At.H.pw 6 rfl rfl rfl rfl rfl (.c .z (.c (.s .z) (.c (.s .z) (.c (.s .z) (.c (.s .z) (.c (.s .z) .n)))))) ?_; refine At.H.pw 7 rfl rfl rfl rfl rfl (.c .z (.c (.s .z) (.c (.s .z) (.c (.s .z) (.c (.s .z) (.c (.s .z) .n)))))) ?_; refine At.H.tw 8 rfl (Y.load rfl rfl .z rfl rfl rfl) rfl rfl rfl (.c .z (.c (.s .z) (.c (.s .z) (.c (.s .z) (.c (.s .z) (.c (.s .z) .n)))))) ?_; refine At.H.pw 11 rfl rfl rfl rfl rfl (.c .z (.c (.s .z) (.c (.s .z) (.c (.s .z) (.c (.s .z) (.c (.s .z) .n)))))) ?_; refine At.H.tw 12 rfl (Y.load rfl rfl .z rfl rfl rfl) rfl rfl rfl (.c .z (.c (.s .z) (.c (.s .z) (.c (.s .z) (.c (.s .z) (.c (.s .z) .n)))))) ?_; refine At.H.al [9] (Q6 ?_ Q8)
                   ··refine At.HO.op rfl ?_
                     refine At.f7 (At.f7 (At.f7 (At.f7 (At.f7 (At.f7 ?_))))); obtain ⟨g4, d7, j⟩ := bbind j; refine At.call rfl Q11.callee rfl rfl rfl (ih_0 _ _ b0 b0_0 b0_0_1 b0_0_2 A0_1 p.length c0_1 A0_2 u.length c0_2 A0_7 D.length c0_7 M O U p u G I J L D ((gt p a1).A) hr0_1 rfl hc0_1 rfl rfl d7) ?_; rintro _ _ ⟨rfl, rfl⟩; refine At.HO.back (.c (.s (.s (.s (.s (.s (.s .z)))))) (.c .z (.c .z (.c .z (.c .z (.c .z .n)))))) ?_; refine At.H.al [10] (Q6 ?_ Q8)
                     ··refine At.HO.op rfl ?_
                       refine At.rowLen (.s (.s (.s (.s (.s .z))))) fun d8 => ?_; obtain ⟨g5, d9, j⟩ := bbind j; refine At.call rfl Q63.callee rfl rfl rfl (Q63.spec hr0_1 rfl hc0_1 rfl d8 d9) ?_; rintro _ _ ⟨rfl, rfl⟩; refine At.HO.back (.c (.s (.s (.s (.s (.s (.s .z)))))) (.c .z (.c .z (.c .z (.c .z (.c .z .n)))))) ?_; refine At.H.al [13] (Q6 ?_ Q8)
                       ··refine At.HO.op rfl ?_
                         refine At.f3 (At.f3 (At.f3 ?_)); obtain ⟨g6, e0, j⟩ := bbind j; refine At.call rfl Q37.callee rfl rfl rfl (Q37.spec e0) ?_; rintro _ _ ⟨rfl, rfl⟩; refine At.HO.back (.c (.s (.s (.s (.s (.s (.s .z)))))) (.c (.s (.s (.s .z))) (.c .z (.c .z (.c .z (.c .z .n)))))) ?_; refine At.H.al [14] (Q6 ?_ Q8)
                         ··refine At.HO.op rfl ?_
                           refine At.rowLen (.s (.s (.s (.s (.s .z))))) fun e1 => ?_; refine At.f5 (At.f5 (At.f4 (At.f4 (At.f4 (At.f5 ?_))))); obtain ⟨g7, e2, j⟩ := bbind j; refine At.call rfl Q63.callee rfl rfl rfl (Q63.spec hr0_1 rfl hc0_1 rfl e1 e2) ?_; rintro _ _ ⟨rfl, rfl⟩; refine At.HO.back (.c (.s (.s (.s (.s (.s (.s .z)))))) (.c .z (.c .z (.c .z (.c .z (.c .z .n)))))) ?_; refine At.H.al [15] (Q6 ?_ Q8)
                           ··refine At.HO.op rfl ?_
                             refine At.store rfl rfl rfl rfl (.s (.s (.s (.s (.s (.s (.s .z))))))) rfl rfl rfl (.c (.c (.c (.c .n)))) ?_; refine At.HO.back (.c (.s (.s (.s (.s (.s (.s (.s .z))))))) (.c (.s .z) (.c (.s .z) (.c (.s .z) (.c (.s .z) (.c (.s .z) .n)))))) ?_; refine At.H.done (by kernel_rfl) ?_; refine At.thn (At.ret ?_); refine At.ibr ?_; refine At.thr ?_; refine At.resM (.inl rfl) rfl (RV.cell rfl rfl .z rfl rfl rfl RV.nil) ?_; refine At.drop .z (At.drop (.s (.s (.s (.s (.s (.s .z)))))) ?_); cases bret j; exact fun a w e hs => ⟨_, ⟨rfl, rfl⟩, hs⟩
                 ··refine At.condF rfl (decide_eq_false b2) ?_
                   refine sR 2 rfl (nT ?_); rcases bite j with ⟨b3, j⟩ | ⟨b3, j⟩
                   ··refine At.condT rfl (decide_eq_true b3) ?_
                     refine sR 2 rfl ?_; refine At.y (Y.buildA (is := []) (xo := []) (vs := []) (cs := [.int .u64 0, .int .u64 0, .int .u64 0, .int .u64 0]) rfl rfl rfl rfl rfl rfl) rfl rfl rfl ?_; refine At.f7 (At.f7 (At.f7 (At.f7 (At.f7 (At.f7 ?_))))); obtain ⟨g8, e3, j⟩ := bbind j; refine At.call rfl Q21.callee rfl rfl rfl (ih_1 _ _ b0 b0_0 b0_0_1 b0_0_2 A0_1 p.length c0_1 A0_2 u.length c0_2 A0_7 D.length c0_7 M O U p u G I J L D a1 0 0 0 0 hr0_1 rfl hc0_1 rfl rfl e3) ?_; rintro _ _ ⟨rfl, rfl⟩; refine At.store rfl rfl rfl rfl (.s (.s (.s (.s (.s (.s (.s .z))))))) rfl rfl rfl (.c (.c (.c (.c .n)))) ?_; refine nT (At.ret ?_); refine At.ibr ?_; refine At.thr ?_; refine At.resM (.inl rfl) rfl (RV.cell rfl rfl .z rfl rfl rfl RV.nil) ?_; refine At.drop .z (At.drop (.s (.s (.s (.s (.s (.s .z)))))) ?_); cases bret j; exact fun a w e hs => ⟨_, ⟨rfl, rfl⟩, hs⟩
                   ··refine At.condF rfl (decide_eq_false b3) ?_
                     refine sR 2 rfl (nT ?_); rcases bite j with ⟨b4, j⟩ | ⟨b4, j⟩
                     ··refine At.condT rfl (decide_eq_true b4) ?_
                       refine sR 5 rfl (At.y (Y.load rfl rfl (.s (.s .z)) rfl rfl rfl) rfl rfl rfl (At.f7 (At.f7 (At.f7 (At.f7 ?_))))); refine At.f7 (At.f7 ?_); obtain ⟨g9, e4, j⟩ := bbind j; refine At.call rfl Q21.callee rfl rfl rfl (ih_1 _ _ b0 b0_0 b0_0_1 b0_0_2 A0_1 p.length c0_1 A0_2 u.length c0_2 A0_7 D.length c0_7 M O U p u G I J L D a1 G I J L hr0_1 rfl hc0_1 rfl rfl e4) ?_; rintro _ _ ⟨rfl, rfl⟩; refine At.store rfl rfl rfl rfl (.s (.s (.s (.s (.s (.s (.s .z))))))) rfl rfl rfl (.c (.c (.c (.c .n)))) ?_; refine nT (At.ret ?_); refine At.ibr ?_; refine At.thr ?_; refine At.resM (.inl rfl) rfl (RV.cell rfl rfl .z rfl rfl rfl RV.nil) ?_; refine At.drop .z (At.drop (.s (.s (.s (.s (.s (.s .z)))))) ?_); cases bret j; exact fun a w e hs => ⟨_, ⟨rfl, rfl⟩, hs⟩
                     ··refine At.condF rfl (decide_eq_false b4) ?_
                       refine At.skip ?_; refine At.ibn ?_; refine At.thn (At.seq (At.region ?_)); refine At.y (Y.buildA (is := []) (xo := []) (vs := []) (cs := [.int .u64 0, .int .u64 0, .int .u64 0, .int .u64 0]) rfl rfl rfl rfl rfl rfl) rfl rfl rfl ?_; refine At.store rfl rfl rfl rfl (.s .z) rfl rfl rfl (.c (.c (.c (.c .n)))) ?_; refine nT (At.ret ?_); refine At.resM (.inl rfl) rfl (RV.cell rfl rfl .z rfl rfl rfl RV.nil) ?_; refine At.drop .z (At.drop .z ?_); cases bret j; exact fun a w e hs => ⟨_, ⟨rfl, rfl⟩, hs⟩
theorem Q21.step (self_0 : Int → (List (Bs × Q2)) → (List (Q7 × Q2)) → (List Q1) → (List Int) → Int → Int → Int → Int → (List Q2) → Int → Option ((List Q2) × Int × Int × Int × Int)) (self_1 : Int → (List (Bs × Q2)) → (List (Q7 × Q2)) → (List Q1) → (List Int) → Int → Int → Int → Int → (List Q2) → Int → Int → Int → Int → Int → Option ((List Q2) × Int × Int × Int × Int)) (ih_0 : Q11.SP self_0) (ih_1 : Q21.SP self_1) :
 Q21.SP (Q21.g self_0 self_1) := by
 intro R Fr b0 b0_0 b0_0_1 b0_0_2 A0_1 n0_1 c0_1 A0_2 n0_2 c0_2 A0_7 n0_7 c0_7 M O U I D V Z a0 a2 a3 a1 a4 a5 a6 a7 hr0_1 hn0_1 hc0_1 hn0_2 hn0_7 r j; subst hn0_1; subst hn0_2; subst hn0_7; refine Spec.of Tryz.func73 rfl rfl ?_; unfold Q21.g at j; have j := brun j; refine At.seq (At.region ?_); refine At.box rfl rfl (cs := [.int .u64 a4, .int .u64 a5, .int .u64 a6, .int .u64 a7]) rfl rfl (fun b5 => ?_); refine At.alloc rfl rfl rfl (fun b3 => ?_); refine nT (At.seq ?_); refine At.still 7 (by kernel_rfl) ?_; refine At.Still.run 3 rfl ?_; refine At.Still.y (Y.load rfl rfl (.s (.s .z)) rfl rfl rfl) rfl rfl rfl ?_; refine At.Still.run 1 rfl ?_; refine At.Still.y (Y.load rfl rfl (.s .z) rfl rfl rfl) rfl rfl rfl ?_; obtain ⟨u, j⟩ := bnone j; refine At.Still.y (Y.ix (.s (.s (.s (.s (.s (.s (.s .z))))))) rfl rfl rfl rfl rfl rfl u.1 u.2) rfl rfl rfl ?_; refine At.Still.nil ?_; refine At.st rfl (.s (.s (.s (.s (.s (.s (.s .z))))))) (q := 0) (z := (⟨a4, a5, a6, a7⟩ : Q2)) rfl rfl rfl u.1 u.2 rfl rfl (.c (.c (.c (.c .n)))) ?_; refine nT ?_; refine At.block ?_; obtain ⟨c6, c7, b6, j⟩ := bjoin j; obtain ⟨b4, a8, b7⟩ := bsome j; clear j; unfold Q21.l0 at a8; obtain ⟨a9, L⟩ := Q19.1 a8; clear a8; let T6 : HProp := pt b3 (.cells ([.int .u64 0, .int .u64 0, .int .u64 0, .int .u64 0] : List Value).toArray 38); let T7 : HProp := pc b5 [.int .u64 a4, .int .u64 a5, .int .u64 a6, .int .u64 a7] 38; let T8 : HProp := pc b0 [bp b0_0, .slice A0_1 I.length c0_1, .slice A0_2 D.length c0_2, .int .u64 V, .int .u64 Z, .int .u64 a0, .int .u64 a2, .slice A0_7 a3.length c0_7] 88; let T9 : HProp := pc b0_0 [i6 M, .map (some b0_0_1), .map (some b0_0_2)] 72; refine At.loop (X := (List Q2)) (fun G => [(0, bp b0), (1, i6 a1), (6, bp b3)]) (fun G => row Q2.fl 38 A0_7 a3.length c0_7 G :: T6 :: T7 :: T8 :: T9 :: mapo Fl.bs.ov Q2.fl.av b0_0_1 O :: mapo Q7.fl.av Q2.fl.av b0_0_2 U :: row (Fl.int .i64) 3 A0_2 D.length c0_2 D :: Fr) (fun m_ => fun G => iterN (fun t_ : (List Q2) => Q21.l0b M O U I D V Z a0 a2 a1 self_0 t_) m_ G = some b4) a9 (st a3 a1 (⟨a4, a5, a6, a7⟩ : Q2)) L (fun a w e hs => ⟨e.sub ⟨rfl, rfl, rfl, trivial⟩, (by exact hs)⟩) ?_
 ·clear L a9; rintro a9 G L; obtain ⟨b8, f_, b9, hf_, j⟩ := bit L; clear L; have j : (Q21.l0b M O U I D V Z a0 a2 a1 self_0 G).bind _ = some b4 := j; unfold Q21.l0b at j
  ·refine At.block ?_; refine sR 4 rfl (At.y (Y.load rfl rfl (.s (.s (.s .z))) rfl rfl rfl) rfl rfl rfl (At.run 1 rfl ?_)); obtain ⟨J, j⟩ := bnone j; refine At.y (Y.ixRd hr0_1 rfl rfl rfl rfl rfl rfl rfl J.1 J.2) rfl rfl rfl ?_; refine At.y (Y.fa (RdS.some_ hr0_1 rfl J.1 J.2) rfl rfl rfl rfl rfl rfl) rfl rfl rfl ?_; refine At.y (Y.ldFl hr0_1 rfl (q := 1) rfl rfl J.1 J.2 rfl rfl rfl) rfl rfl rfl ?_; refine At.rowLen .z fun c4 => ?_; refine At.f7 (At.f7 (At.f7 (At.f7 (At.f7 ?_)))); obtain ⟨p, c5, j⟩ := bbind j; refine At.call rfl Q11.callee rfl rfl rfl (ih_0 _ _ b0 b0_0 b0_0_1 b0_0_2 A0_1 I.length c0_1 A0_2 D.length c0_2 A0_7 a3.length c0_7 M O U I D V Z a0 a2 G ((gt I a1).A) hr0_1 rfl hc0_1 rfl c4 c5) ?_; rintro _ _ ⟨rfl, rfl⟩; refine At.alloc rfl rfl rfl (fun c8 => ?_); refine At.store rfl rfl rfl rfl .z rfl rfl rfl (.c (.c (.c (.c .n)))) ?_; refine nT (At.seq (At.seq ?_)); refine At.quiet (by kernel_rfl) ?_; refine At.Quiet.y (Y.load rfl rfl .z rfl rfl rfl) rfl rfl rfl ?_; refine At.Quiet.run 3 rfl ?_; refine At.Quiet.y (Y.load rfl rfl (.s .z) rfl rfl rfl) rfl rfl rfl ?_; refine At.Quiet.run 1 rfl ?_; refine At.Quiet.y (Y.ix (.s (.s (.s (.s (.s (.s .z)))))) rfl rfl rfl rfl rfl rfl u.1 u.2) rfl rfl rfl ?_; refine At.Quiet.y (Y.ld (.s (.s (.s (.s (.s (.s .z)))))) (q := 0) rfl rfl u.1 u.2 rfl rfl rfl) rfl rfl rfl ?_; refine At.Quiet.y (Y.eqAr (xs := [.int .u64 p.2.1, .int .u64 p.2.2.1, .int .u64 p.2.2.2.1, .int .u64 p.2.2.2.2]) (ys := [.int .u64 ((gt p.1 a1).c0), .int .u64 ((gt p.1 a1).c1), .int .u64 ((gt p.1 a1).c2), .int .u64 ((gt p.1 a1).c3)]) rfl rfl rfl rfl rfl rfl rfl (by kernel_rfl) rfl) rfl rfl rfl ?_; refine At.Quiet.nil (At.thn ?_); rcases bite j with ⟨b2, j⟩ | ⟨b2, j⟩
   ··refine At.condT rfl b2 ?_
     refine At.seq (At.region (At.y (Y.load rfl rfl .z rfl rfl rfl) rfl rfl rfl ?_)); refine At.store rfl rfl rfl rfl (.s (.s (.s (.s (.s (.s (.s .z))))))) rfl rfl rfl (.c (.c (.c (.c .n)))) ?_; refine nT (At.ret (At.thr ?_)); refine At.ibr ?_; have j := bupL b6 b7 j; refine At.thr ?_; refine At.ibr ?_; refine At.resM (.inl rfl) rfl (RV.cell rfl rfl .z rfl rfl rfl RV.nil) ?_; refine At.drop .z (At.drop .z (At.drop (.s (.s (.s (.s (.s (.s .z)))))) ?_)); cases bret j; exact fun a w e hs => ⟨_, ⟨rfl, rfl⟩, hs⟩
   ··refine At.condF rfl (bn b2) ?_
     refine At.skip (At.thn ?_); refine At.still 7 (by kernel_rfl) ?_; refine At.Still.run 3 rfl ?_; refine At.Still.y (Y.load rfl rfl (.s .z) rfl rfl rfl) rfl rfl rfl ?_; refine At.Still.run 1 rfl ?_; refine At.Still.y (Y.load rfl rfl .z rfl rfl rfl) rfl rfl rfl ?_; refine At.Still.y (Y.ix (.s (.s (.s (.s (.s (.s .z)))))) rfl rfl rfl rfl rfl rfl u.1 u.2) rfl rfl rfl ?_; refine At.Still.nil ?_; refine At.st rfl (.s (.s (.s (.s (.s (.s .z)))))) (q := 0) (z := (⟨p.2.1, p.2.2.1, p.2.2.2.1, p.2.2.2.2⟩ : Q2)) rfl rfl rfl u.1 u.2 rfl rfl (.c (.c (.c (.c .n)))) ?_; refine At.nil ?_; refine At.ibn ?_; refine At.drop (.s .z) (At.f5 (At.f5 (At.f5 (At.f5 (At.f5 (At.f7 (At.f7 ?_))))))); refine At.f7 ?_; have j := bnx hf_ j; exact fun a w e hs => ⟨b8, (st p.1 a1 (⟨p.2.1, p.2.2.1, p.2.2.2.1, p.2.2.2.2⟩ : Q2)), b9, j, e.sub ⟨rfl, rfl, rfl, trivial⟩, hs⟩
theorem Q11.all : ∀ k_ : Nat, Q11.SP (Q11.n k_) ∧ Q21.SP (Q21.n k_)
 | 0 => ⟨(by intro R Fr b0 b0_0 b0_0_1 b0_0_2 A0_1 n0_1 c0_1 A0_2 n0_2 c0_2 A0_7 n0_7 c0_7 a0_0_0 a0_0_1 a0_0_2 a0_1 a0_2 a0_3 a0_4 a0_5 a0_6 a0_7 a1 hr0_1 hn0_1 hc0_1 hn0_2 hn0_7 r j; cases j), (by intro R Fr b0 b0_0 b0_0_1 b0_0_2 A0_1 n0_1 c0_1 A0_2 n0_2 c0_2 A0_7 n0_7 c0_7 a0_0_0 a0_0_1 a0_0_2 a0_1 a0_2 a0_3 a0_4 a0_5 a0_6 a0_7 a1 a2_0 a2_1 a2_2 a2_3 hr0_1 hn0_1 hc0_1 hn0_2 hn0_7 r j; cases j)⟩
 | k_ + 1 => ⟨Q11.step (Q11.n k_) (Q21.n k_) ((Q11.all k_).1) ((Q11.all k_).2), Q21.step (Q11.n k_) (Q21.n k_) ((Q11.all k_).1) ((Q11.all k_).2)⟩
theorem Q11.spec {q u D G I a1 : Int} {J : List (Bs × Q2)} {L : List (Q7 × Q2)} {M : List Q1} {p : List Int} {O : List Q2} (hr0_1 : RdS Q1.fl.rep R.heap A0_1 M) (hn0_1 : M.length = n0_1) (hc0_1 : n0_1 ≤ c0_1) (hn0_2 : p.length = n0_2) (hn0_7 : O.length = n0_7) {r : (List Q2) × Int × Int × Int × Int} (j : Q11.f q J L M p u D G I O a1 = some r) :
 Spec Tryz.prog 33 [bp b0, i6 a1] R (pc b0 [bp b0_0, .slice A0_1 n0_1 c0_1, .slice A0_2 n0_2 c0_2, .int .u64 u, .int .u64 D, .int .u64 G, .int .u64 I, .slice A0_7 n0_7 c0_7] 88 :: pc b0_0 [i6 q, .map (some b0_0_1), .map (some b0_0_2)] 72 :: mapo Fl.bs.ov Q2.fl.av b0_0_1 J :: mapo Q7.fl.av Q2.fl.av b0_0_2 L :: row (Fl.int .i64) 3 A0_2 n0_2 c0_2 p :: row Q2.fl 38 A0_7 n0_7 c0_7 O :: Fr) (fun v l' => v = .agg #[.int .u64 r.2.1, .int .u64 r.2.2.1, .int .u64 r.2.2.2.1, .int .u64 r.2.2.2.2] ∧ pc b0 [bp b0_0, .slice A0_1 n0_1 c0_1, .slice A0_2 n0_2 c0_2, .int .u64 u, .int .u64 D, .int .u64 G, .int .u64 I, .slice A0_7 n0_7 c0_7] 88 :: pc b0_0 [i6 q, .map (some b0_0_1), .map (some b0_0_2)] 72 :: mapo Fl.bs.ov Q2.fl.av b0_0_1 J :: mapo Q7.fl.av Q2.fl.av b0_0_2 L :: row (Fl.int .i64) 3 A0_2 n0_2 c0_2 p :: row Q2.fl 38 A0_7 n0_7 c0_7 r.1 :: Fr = l') := by
 obtain ⟨k_, hk_⟩ := Q221 j; exact (Q11.all k_).1 R Fr b0 b0_0 b0_0_1 b0_0_2 A0_1 n0_1 c0_1 A0_2 n0_2 c0_2 A0_7 n0_7 c0_7 q J L M p u D G I O a1 hr0_1 hn0_1 hc0_1 hn0_2 hn0_7 hk_

/- told with Q11.f -/

noncomputable def Q65.f (u : Int) (D : List (Bs × Q2)) (G : List (Q7 × Q2)) (a1 : List Q1) : Option (Int × Int × Int × Int × Int) :=
 (Q45.f u D G a1).bind fun p =>
  match p with
  | .inl p =>
   some (1, 0, 0, 0, 0)
  | .inr p =>
   (Q11.f u D G a1 p.1 p.2.1 p.2.2.1 p.2.2.2.1 p.2.2.2.2 (List.replicate (a1.length : Int).toNat ((⟨0, 0, 0, 0⟩ : Q2) : Q2)) (IntKind.i64.wrap ((a1.length : Int) - 1))).bind fun q =>
    some (0, q.2.1, q.2.2.1, q.2.2.2.1, q.2.2.2.2)
theorem Q65.callee : Callee Tryz.prog 10 := ⟨_, Tryz.func10, by kernel_rfl, by kernel_rfl⟩
theorem Q65.spec {p : Int} {q : List (Bs × Q2)} {u : List (Q7 × Q2)} {a1 : List Q1} (hr1 : RdS Q1.fl.rep R.heap A1 a1) (hn1 : a1.length = n1) (hc1 : n1 ≤ c1) {r : Int × Int × Int × Int × Int} (j : Q65.f p q u a1 = some r) :
 Spec Tryz.prog 10 [bp b0, .slice A1 n1 c1] R (pc b0 [i6 p, .map (some b0_1), .map (some b0_2)] 72 :: mapo Fl.bs.ov Q2.fl.av b0_1 q :: mapo Q7.fl.av Q2.fl.av b0_2 u :: Fr) (fun v l' => v = .tuple #[.agg #[.int .u64 r.2.1, .int .u64 r.2.2.1, .int .u64 r.2.2.2.1, .int .u64 r.2.2.2.2], i6 r.1] ∧ pc b0 [i6 p, .map (some b0_1), .map (some b0_2)] 72 :: mapo Fl.bs.ov Q2.fl.av b0_1 q :: mapo Q7.fl.av Q2.fl.av b0_2 u :: Fr = l') := by
 subst hn1; refine Spec.of Tryz.func10 rfl rfl ?_; unfold Q65.f at j; have j := brun j; refine At.seq (At.region ?_); refine At.alloc rfl rfl rfl (fun J => ?_); refine At.run 1 rfl (nT (sR 2 rfl (At.f3 (At.f3 ?_)))); refine At.f3 ?_; obtain ⟨D, G, j⟩ := bbind j; refine At.call rfl Q45.callee rfl rfl rfl (Q45.spec hr1 rfl hc1 G) ?_; rcases D with D | D
 ·rintro _ _ ⟨rfl, rfl⟩; refine At.run 5 rfl (nT (At.seq (sR 2 rfl (At.nil ?_)))); refine At.thn ?_; refine At.condT rfl rfl ?_; refine At.seq (At.region ?_); refine At.y (Y.buildA (is := []) (xo := []) (vs := []) (cs := [.int .u64 0, .int .u64 0, .int .u64 0, .int .u64 0]) rfl rfl rfl rfl rfl rfl) rfl rfl rfl ?_; refine At.run 1 rfl ?_; refine At.store rfl rfl rfl rfl (.s (.s (.s .z))) rfl rfl rfl (.c (.c (.c (.c .n)))) ?_; refine At.run 1 rfl (nT (At.ret (At.thr ?_))); refine At.resM (.inl rfl) rfl (RV.cell rfl rfl .z rfl rfl rfl (RV.tmp rfl RV.nil)) ?_; refine At.drop .z ?_; cases bret j; exact fun a w e hs => ⟨_, ⟨rfl, rfl⟩, hs⟩
 ·rintro _ _ ⟨L, M, O, U, V, X, rfl, rfl, rfl⟩; refine At.run 5 rfl (nT (At.seq (sR 2 rfl (At.nil ?_)))); refine At.thn ?_; refine At.condF rfl rfl ?_; refine At.skip (At.thn (sR 4 rfl (At.f2 (At.f2 (At.f5 ?_))))); refine At.f5 (At.f5 (At.f5 ?_)); obtain ⟨Z, I, j⟩ := bbind j; refine At.call rfl Q11.callee rfl rfl rfl (Q11.spec hr1 rfl hc1 rfl rfl I) ?_; rintro _ _ ⟨rfl, rfl⟩; refine At.store rfl rfl rfl rfl (.s (.s (.s (.s (.s (.s .z)))))) rfl rfl rfl (.c (.c (.c (.c .n)))) ?_; refine At.run 1 rfl (nT (At.ret ?_)); refine At.resM (.inl rfl) rfl (RV.cell rfl rfl .z rfl rfl rfl (RV.tmp rfl RV.nil)) ?_; refine At.drop .z (At.drop .z (At.drop (.s (.s (.s .z))) (At.drop (.s (.s (.s .z))) ?_))); cases bret j; exact fun a w e hs => ⟨_, ⟨rfl, rfl⟩, hs⟩

noncomputable def Q82.f  : Option Bool :=
 (Q22.f ([115, 116, 97, 116, 101, 115, 32, 51, 10, 101, 100, 103, 101, 32, 48, 32, 97, 32, 49, 10, 101, 100, 103, 101, 32, 49, 32, 97, 32, 50, 10, 101, 100, 103, 101, 32, 50, 32, 97, 32, 50, 10, 101, 100, 103, 101, 32, 48, 32, 98, 32, 48, 10, 109, 97, 114, 107, 32, 112, 32, 50, 10] : Bs)).bind fun p =>
 (Q17.f p.2.2.2.2 p.2.1 p.2.2.1 p.2.2.2.1).bind fun q =>
 (Q128.f ([109, 117, 32, 88, 46, 32, 112, 32, 124, 32, 91, 45, 93, 88] : Bs)).bind fun D =>
 jn (
 if p.1.isNone = true then
 some (.inl (!D.1.isNone))
 else
 some (.inl true)) (fun (G : Bool) =>
 jn (
 if G = true then
 some (.inl true)
 else
 some (.inl q.isNone)) (fun (I : Bool) =>
 if I = true then
 some false
 else
 if q.isNone = false then
 (Q65.f ((q.getD default).states) ((q.getD default).holds) ((q.getD default).next) D.2).bind fun u =>
 jn (
 if u.1 = 0 then
 some (.inl (decide (u.2.1 = 6) && (decide (u.2.2.1 = 0) && (decide (u.2.2.2.1 = 0) && (decide (u.2.2.2.2 = 0) && true)))))
 else
 some (.inl false)) (fun (J : Bool) =>
 some J)
 else none))
theorem Q82.callee : Callee Tryz.prog 8 := ⟨_, Tryz.func8, by kernel_rfl, by kernel_rfl⟩
theorem Q82.spec {r : Bool} (j : Q82.f  = some r) :
 Spec Tryz.prog 8 [] R (Fr) (fun v l' => v = .bool r ∧ Fr = l') := by
 refine Spec.of Tryz.func8 rfl rfl ?_; unfold Q82.f at j; have j := brun j; refine sR 1 rfl (nT (At.seq (At.region ?_))); obtain ⟨D, b6, j⟩ := bbind j; refine At.call rfl Q22.callee rfl rfl rfl (Q22.spec b6) ?_; rintro _ _ ⟨V, g5, b7, b8, g6, b9, c4, g7, c5, c6, rfl, rfl, rfl, rfl, rfl⟩; refine At.run 3 rfl ?_; refine At.alloc rfl rfl rfl (fun c7 => ?_); refine At.store rfl rfl rfl rfl .z rfl rfl rfl (.c (.c (.c (.c .n)))) ?_; refine At.run 1 rfl (nT (At.seq (At.region (At.y (Y.load rfl rfl .z rfl rfl rfl) rfl rfl rfl ?_)))); refine At.freeze (.s .z) fun g8 c8 c9 d0 g9 a5 => ?_; refine At.freeze (.s .z) fun h0 d1 d2 d3 d4 a6 => ?_; refine At.freezeGrow (.s .z) fun h1 d5 d6 d7 a7 a8 => ?_; obtain ⟨p, d8, j⟩ := bbind j; refine At.call rfl Q17.callee rfl rfl rfl (Q17.spec (RdS.mono (d4.trans a7) c8) c9 d0 (RdS.mono a7 d1) d2 d3 d5 d6 d7 d8) ?_; rintro _ _ ⟨L, rfl, rfl⟩; refine At.run 1 rfl (nT (At.seq (At.region ?_))); obtain ⟨u, d9, j⟩ := bbind j; refine At.call rfl Q128.callee rfl rfl rfl (Q128.spec d9) ?_; rintro _ _ ⟨Z, h2, M, O, rfl, rfl, rfl⟩; refine At.run 5 rfl (nT (At.seq (sR 1 rfl ?_))); refine At.y (Y.neOptI (.s (.s (.s (.s .z)))) rfl rfl rfl) rfl rfl rfl ?_; refine At.run 1 rfl ?_; obtain ⟨e0, e1, h3, j⟩ := bjoin j; let a0 : HProp := pc c7 [i6 D.2.2.2.2, .slice b7 D.2.1.length b8, .slice b9 D.2.2.1.length c4, .slice c5 D.2.2.2.1.length c6] 26; refine At.joinO 3 (X := Bool) (fun G => [(3, optp L), (4, .slice M u.2.length O), (23, .bool G)]) (fun G => row Q1.fl 51 M u.2.length O u.2 :: optb (Ow.fl Q5.fl) 107 Z u.1 :: optb Q13.ow 72 L p :: a0 :: optb (Ow.fl Q5.fl) 107 V D.1 :: Fr) (fun G => e0 (.inl G) = some r) ?_ (fun a9 => ?_)
 ·rintro G j; have j := (e1 _).symm.trans j
  ·refine At.run 1 rfl ?_; obtain ⟨e2, e3, h4, j⟩ := bjoin j; refine At.joinO 3 (X := Bool) (fun I => [(3, optp L), (4, .slice M u.2.length O), (27, .bool I)]) (fun I => row Q1.fl 51 M u.2.length O u.2 :: optb (Ow.fl Q5.fl) 107 Z u.1 :: optb Q13.ow 72 L p :: a0 :: optb (Ow.fl Q5.fl) 107 V D.1 :: Fr) (fun I => e2 (.inl I) = some r) ?_ (fun b2 => ?_)
   ·rintro I j; have j := (e3 _).symm.trans j
    ·refine nT ?_; rcases bite j with ⟨a1, j⟩ | ⟨a1, j⟩
     ··refine At.condT rfl a1 ?_
       refine sR 1 rfl (nT (At.ret (At.thr ?_))); refine At.thaw a8 ?_; refine At.thaw a6 ?_; refine At.thaw a5 ?_; refine At.drop .z (At.drop .z (At.drop .z (At.drop .z (At.drop .z (At.drop .z (At.drop .z (At.drop .z ?_))))))); cases bret j; exact At.res (.inl rfl) rfl rfl ⟨rfl, rfl⟩
     ··refine At.condF rfl (bn a1) ?_
       refine At.skip (At.thn (sR 2 rfl ?_)); obtain ⟨e4, j⟩ := bnone j; refine At.optOpen (.s (.s .z)) e4 (fun e5 e6 h5 => ?_); have e7 := j; subst e6; have j := e7; refine At.ownPair (T := Ow.fl (Fl.int .i64)) (U := ((Ow.mp Fl.bs.ov Q2.fl.av).pair (Ow.mp Q7.fl.av Q2.fl.av))) (x := ((p.getD default).states, (p.getD default).holds, (p.getD default).next)) (.s .z) ?_; rintro h6 h7 rfl; refine At.ownFl (F := (Fl.int .i64)) (x := (p.getD default).states) .z ?_; rintro rfl; refine At.ownPair (T := Ow.mp Fl.bs.ov Q2.fl.av) (U := (Ow.mp Q7.fl.av Q2.fl.av)) (x := ((p.getD default).holds, (p.getD default).next)) .z ?_; rintro h8 h9 rfl; refine At.ownMp (kv := Fl.bs.ov) (vv := Q2.fl.av) (kvs := (p.getD default).holds) .z ?_; rintro b3 rfl; refine At.ownMp (kv := Q7.fl.av) (vv := Q2.fl.av) (kvs := (p.getD default).next) (.s .z) ?_; rintro b4 rfl; refine At.freeze (.s (.s (.s .z))) fun k0 e8 e9 f0 k1 f3 => ?_; refine At.f1 (At.f2 ?_); obtain ⟨q, f4, j⟩ := bbind j; refine At.call rfl Q65.callee rfl rfl rfl (Q65.spec e8 e9 f0 f4) ?_; rintro _ _ ⟨rfl, rfl⟩; refine At.run 3 rfl ?_; refine At.alloc rfl rfl rfl (fun f5 => ?_); refine At.store rfl rfl rfl rfl .z rfl rfl rfl (.c (.c (.c (.c .n)))) ?_; refine At.run 1 rfl (nT (sR 3 rfl ?_)); obtain ⟨f6, f7, k2, j⟩ := bjoin j; let f8 : HProp := pc f5 [.int .u64 q.2.1, .int .u64 q.2.2.1, .int .u64 q.2.2.2.1, .int .u64 q.2.2.2.2] 38; let f9 : HProp := pc e5 [i6 ((p.getD default).states), .map (some b3), .map (some b4)] 72; let g0 : HProp := mapo Fl.bs.ov Q2.fl.av b3 ((p.getD default).holds); let g4 : HProp := mapo Q7.fl.av Q2.fl.av b4 ((p.getD default).next); refine At.joinO 4 (X := Bool) (fun J => [(40, .bool J)]) (fun J => f8 :: f9 :: g0 :: g4 :: optb (Ow.fl Q5.fl) 107 Z u.1 :: a0 :: optb (Ow.fl Q5.fl) 107 V D.1 :: Fr) (fun J => f6 (.inl J) = some r) ?_ (fun b5 => ?_)
       ·rintro J j; have j := (f7 _).symm.trans j
        ·refine At.run 1 rfl (nT (At.ret ?_)); refine At.thaw f3 ?_; refine At.thaw a8 ?_; refine At.thaw a6 ?_; refine At.thaw a5 ?_; refine At.drop .z (At.drop .z (At.drop .z (At.drop .z (At.drop .z (At.drop .z (At.drop .z (At.drop .z ?_))))))); refine At.drop .z (At.drop .z (At.drop .z ?_)); cases bret j; exact At.res (.inl rfl) rfl rfl ⟨rfl, rfl⟩
       ··rcases bite j with ⟨a2, j⟩ | ⟨a2, j⟩
         ··refine At.know (t := 36) rfl (decide_eq_true a2) ?_
           refine At.y (Y.load rfl rfl .z rfl rfl rfl) rfl rfl rfl ?_; refine At.y (Y.buildA (is := [0]) (xo := [.const (.int .u64 6)]) (vs := [.int .u64 6]) (cs := [.int .u64 6, .int .u64 0, .int .u64 0, .int .u64 0]) rfl rfl rfl rfl rfl rfl) rfl rfl rfl ?_; refine At.y (Y.eqAr (xs := [.int .u64 q.2.1, .int .u64 q.2.2.1, .int .u64 q.2.2.2.1, .int .u64 q.2.2.2.2]) (ys := [.int .u64 6, .int .u64 0, .int .u64 0, .int .u64 0]) rfl rfl rfl rfl rfl rfl rfl (by kernel_rfl) rfl) rfl rfl rfl ?_; refine At.run 1 rfl ?_; exact At.of (b5 (decide (q.2.1 = 6) && (decide (q.2.2.1 = 0) && (decide (q.2.2.2.1 = 0) && (decide (q.2.2.2.2 = 0) && true)))) j) ⟨rfl, trivial⟩
         ··refine At.know (t := 36) rfl (decide_eq_false a2) ?_
           refine At.run 4 rfl ?_; exact At.of (b5 false j) ⟨rfl, trivial⟩
   ··rcases bite j with ⟨a3, j⟩ | ⟨a3, j⟩
     ··refine At.know (t := 24) rfl a3 ?_
       refine At.run 3 rfl ?_; exact At.of (b2 true j) ⟨rfl, rfl, rfl, trivial⟩
     ··refine At.know (t := 24) rfl (bn a3) ?_
       refine At.run 1 rfl ?_; refine At.y (Y.eqOpt (.s (.s .z)) rfl rfl rfl rfl) rfl rfl rfl ?_; refine At.run 1 rfl ?_; exact At.of (b2 p.isNone j) ⟨rfl, rfl, rfl, trivial⟩
 ··rcases bite j with ⟨a4, j⟩ | ⟨a4, j⟩
   ··refine At.know (t := 20) rfl (nf a4) ?_
     refine At.run 1 rfl ?_; refine At.y (Y.neOptI (.s .z) rfl rfl rfl) rfl rfl rfl ?_; refine At.run 1 rfl ?_; exact At.of (a9 (!u.1.isNone) j) ⟨rfl, rfl, rfl, trivial⟩
   ··refine At.know (t := 20) rfl (nt (bn a4)) ?_
     refine At.run 3 rfl ?_; exact At.of (a9 true j) ⟨rfl, rfl, rfl, trivial⟩

end Go.Bw
namespace Go.Bw
open Go Go.RowKit

def Ap {α : Type} (a b : Option α) : Prop := ∀ r, a = some r → b = some r
section
variable {α β σ τ ρ : Type}
theorem Ap.refl (a : Option α) : Ap a a := fun _ h => h
theorem Ap.none {b : Option α} : Ap Option.none b := fun _ h => by cases h
theorem Ap.bind {a b : Option α} {f g : α → Option β} (h : Ap a b) (k : ∀ t, Ap (f t) (g t)) : Ap (a.bind f) (b.bind g) := fun r e => by
 cases ha : a with
 | none => rw [ha] at e; cases e
 | some t => rw [ha] at e; rw [h t ha]; exact k t r e
theorem Ap.ite {c : Prop} [i : Decidable c] [j : Decidable c] {a b a' b' : Option α} (h : Ap a a') (k : Ap b b') : Ap (@_root_.ite _ c i a b) (@_root_.ite _ c j a' b') := fun r e => by
 by_cases hc : c
 ·rw [if_pos hc] at e ⊢; exact h r e
 ·rw [if_neg hc] at e ⊢; exact k r e
theorem Ap.jn {a b : Option (σ ⊕ ρ)} {f g : σ → Option ρ} (h : Ap a b) (k : ∀ t, Ap (f t) (g t)) : Ap (Bw.jn a f) (Bw.jn b g) := fun r e => by
 cases ha : a with
 | none => rw [ha] at e; cases e
 | some t =>
  rw [ha] at e
  rw [h t ha]
  cases t with
  | inl s => exact k s r e
  | inr o => exact e
theorem Ap.up {a b : Option ρ} (h : Ap a b) : Ap (Bw.up a : Option (σ ⊕ ρ)) (Bw.up b) := fun r e => by
 cases ha : a with
 | none => rw [ha] at e; cases e
 | some t => rw [ha] at e; rw [h t ha]; exact e
def iterC (fu : Nat) (body : σ → Option (σ ⊕ ρ)) (s : σ) : Option ρ := iterN body fu s
theorem Q286 {f g : σ → Option (σ ⊕ ρ)} (h : ∀ s, Ap (f s) (g s)) : ∀ {n : Nat} {s : σ}, Ap (iterN f n s) (iterN g n s)
 | 0, _ => fun _ e => by cases e
 | n + 1, s => fun r e => by
  unfold iterN at e ⊢
  cases hf : f s with
  | none => rw [hf] at e; cases e
  | some t =>
   rw [hf] at e
   rw [h s t hf]
   cases t with
   | inl s' => exact Q286 h r e
   | inr o => exact e
theorem Ap.iter {fu : Nat} {f g : σ → Option (σ ⊕ ρ)} {s : σ} (h : ∀ s, Ap (f s) (g s)) : Ap (iterC fu f s) (Bw.iter g s) := fun r e => Q19.2 ⟨fu, Q286 h r e⟩
theorem Q255 {f g : σ → α → Option σ} (h : ∀ s x, Ap (f s x) (g s x)) : ∀ {xs : List α} {s : σ}, Ap (foldO f s xs) (foldO g s xs)
 | [], _ => fun _ e => e
 | x :: xs, s => Ap.bind (h s x) fun t => Q255 h
def soloC (a : List α) : Option (List α) := if a.length ≤ 1 then some a else Option.none
theorem solo_mem {a r : List α} (h : soloC a = some r) : r = a ∧ (a = [] ∨ ∃ x, a = [x]) := by
 unfold soloC at h
 split at h
 ·rename_i hl
  refine ⟨(Option.some.inj h).symm, ?_⟩
  match a, hl with
  | [], _ => exact .inl rfl
  | [x], _ => exact .inr ⟨x, rfl⟩
  | _ :: _ :: _, hl => simp at hl
 ·cases h
end
end Go.Bw
namespace Go.Bw
open Go Go.RowKit Go.Sort Go.Proofs Go.Shelf
section
variable {α : Type}
def insL (le : α → α → Bool) (x : α) : List α → List α
 | [] => [x]
 | y :: ys => if le x y = true then x :: y :: ys else y :: insL le x ys
def insS (le : α → α → Bool) : List α → List α
 | [] => []
 | x :: xs => insL le x (insS le xs)
theorem Q213 (le : α → α → Bool) (x : α) : ∀ l : List α, (insL le x l).Perm (x :: l)
 | [] => List.Perm.refl _
 | y :: ys => by
  unfold insL
  split
  ·exact List.Perm.refl _
  ·exact ((Q213 le x ys).cons y).trans (List.Perm.swap x y ys)
theorem Q143 (le : α → α → Bool) : ∀ l : List α, (insS le l).Perm l
 | [] => List.Perm.refl _
 | x :: xs => (Q213 le x _).trans ((Q143 le xs).cons x)
def pwB (le : α → α → Bool) : List α → Bool
 | [] => true
 | x :: xs => xs.all (le x) && pwB le xs
theorem pwB_mem {le : α → α → Bool} : ∀ {a : List α}, pwB le a = true → a.Pairwise fun x y => le x y = true
 | [], _ => List.Pairwise.nil
 | x :: xs, e => by
  unfold pwB at e
  rw [Bool.and_eq_true, List.all_eq_true] at e
  exact List.Pairwise.cons e.1 (pwB_mem e.2)
theorem Q216 {le : α → α → Bool} (tr : ∀ a b c, le a b = true → le b c = true → le a c = true) (to : ∀ a b, (le a b || le b a) = true) {a r : List α} (an : ∀ x y, x ∈ a → y ∈ a → le x y = true → le y x = true → x = y) (hp : r.Perm a) (hr : r.Pairwise fun x y => le x y = true) :
 a.mergeSort le = r :=
 List.Perm.eq_of_pairwise (le := fun x y => le x y = true) (fun x y hx hy h1 h2 => an x y ((List.mergeSort_perm a le).subset hx) (hp.subset hy) h1 h2) (List.pairwise_mergeSort tr to a) hr ((List.mergeSort_perm a le).trans hp.symm)
def leC (c : α → α → Option Int) (x y : α) : Bool := match c y x with | some v => decide (0 ≤ v) | none => false
def sortC (c : α → α → Option Int) (a : List α) : Option (List α) := let r := insS (leC c) a; if pwB (leC c) r = true then some r else none
theorem leC_mem {c cc : α → α → Option Int} (h : ∀ x y, Ap (cc x y) (c x y)) {x y : α} (e : leC cc x y = true) : (!(ltOf (gcf c)) y x) = true := by
 unfold leC at e
 cases hc : cc y x with
 | none => rw [hc] at e; cases e
 | some v =>
  rw [hc] at e
  have hv := h y x v hc
  unfold ltOf gcf
  rw [hv]
  simpa using e
theorem swo_le {lt : α → α → Bool} (s : SWO lt) : (∀ a b c, (!lt b a) = true → (!lt c b) = true → (!lt c a) = true) ∧ ∀ a b, ((!lt b a) || (!lt a b)) = true := by
 refine ⟨fun a b c h1 h2 => ?_, fun a b => ?_⟩
 ·simp only [Bool.not_eq_true'] at *
  exact s.ntrans _ _ _ h2 h1
 ·cases h : lt b a with
  | false => rfl
  | true =>
   cases h2 : lt a b with
   | false => rfl
   | true => have := s.trans _ _ _ h h2; rw [s.irrefl] at this; cases this
theorem sort_mem {c cc : α → α → Option Int} (h : ∀ x y, Ap (cc x y) (c x y)) {a r : List α} (s : CmpSwo c) (an : ∀ x y, x ∈ a → y ∈ a → ltOf (gcf c) x y = false → ltOf (gcf c) y x = false → x = y) (e : sortC cc a = some r) : byCmp c a = r ∧ r.length = a.length := by
 unfold sortC at e
 dsimp only at e
 split at e
 ·rename_i hp
  obtain rfl := Option.some.inj e
  refine ⟨Q216 (swo_le s.2).1 (swo_le s.2).2 (fun x y hx hy h1 h2 => ?_) (Q143 _ _) ((pwB_mem hp).imp fun {x y} hxy => leC_mem h hxy), (Q143 _ _).length_eq⟩
  simp only [Bool.not_eq_true'] at h1 h2
  exact an x y hx hy h2 h1
 ·cases e
theorem sort_tot {c cc : α → α → Option Int} (h : ∀ x y, Ap (cc x y) (c x y)) {a r : List α} (s : CmpTot c) (e : sortC cc a = some r) : byCmp c a = r ∧ r.length = a.length := sort_mem h s.1 (fun x y _ _ => s.2 x y) e
end
def few2C {α : Type} (o : Option (List α)) : Option (List α) := o.bind fun a => if a.length ≤ 1000 then some a else none
theorem Q229 {α : Type} {o : Option (List α)} {r : List α} (h : few2C o = some r) : o = some r ∧ r.length ≤ 1000 := by
 unfold few2C at h
 cases o with
 | none => cases h
 | some a =>
  simp only [Option.bind_some] at h
  split at h
  ·rename_i hl
   obtain rfl := Option.some.inj h
   exact ⟨rfl, hl⟩
  ·cases h
def sortB (a : List Bs) : Option (List Bs) := some (insS (fun x y => decide (x ≤ y)) a)
def sortI (a : List Int) : Option (List Int) := some (insS (fun x y => decide (x ≤ y)) a)
section
variable {α : Type}
theorem insL_pw {le : α → α → Bool} (tr : ∀ a b c, le a b = true → le b c = true → le a c = true) (to : ∀ a b, (le a b || le b a) = true) (x : α) : ∀ {l : List α}, l.Pairwise (fun x y => le x y = true) → (insL le x l).Pairwise fun x y => le x y = true
 | [], _ => List.pairwise_singleton _ _
 | y :: ys, h => by
  unfold insL
  have h1 := List.pairwise_cons.1 h
  split
  ·rename_i hxy
   exact List.Pairwise.cons (fun z hz => (List.mem_cons.1 hz).elim (fun e => e ▸ hxy) fun hz => tr _ _ _ hxy (h1.1 z hz)) h
  ·rename_i hxy
   refine List.Pairwise.cons (fun z hz => ?_) (insL_pw tr to x h1.2)
   rcases List.mem_cons.1 ((Q213 le x ys).subset hz) with rfl | hz
   ·have := to z y; simp [hxy] at this; exact this
   ·exact h1.1 z hz
theorem Q222 {le : α → α → Bool} (tr : ∀ a b c, le a b = true → le b c = true → le a c = true) (to : ∀ a b, (le a b || le b a) = true) : ∀ (l : List α), (insS le l).Pairwise fun x y => le x y = true
 | [] => List.Pairwise.nil
 | x :: xs => insL_pw tr to x (Q222 tr to xs)
end
theorem sortI_eq {a r : List Int} (h : sortI a = some r) : (a.mergeSort fun x y => decide (x ≤ y)) = r ∧ r.length = a.length := by
 obtain rfl := Option.some.inj h
 have tr : ∀ a b c : Int, decide (a ≤ b) = true → decide (b ≤ c) = true → decide (a ≤ c) = true := fun a b c h1 h2 => by simp only [decide_eq_true_eq] at *; omega
 have to : ∀ a b : Int, (decide (a ≤ b) || decide (b ≤ a)) = true := fun a b => by simp; omega
 exact ⟨Q216 tr to (fun x y _ _ h1 h2 => by simp only [decide_eq_true_eq] at *; omega) (Q143 _ _) (Q222 tr to a), (Q143 _ _).length_eq⟩
theorem sortB_eq {a r : List Bs} (h : sortB a = some r) : (a.mergeSort fun x y => decide (x ≤ y)) = r ∧ r.length = a.length := by
 obtain rfl := Option.some.inj h
 have tr : ∀ a b c : Bs, decide (a ≤ b) = true → decide (b ≤ c) = true → decide (a ≤ c) = true := fun a b c h1 h2 => by simp only [decide_eq_true_eq] at *; exact List.le_trans h1 h2
 have to : ∀ a b : Bs, (decide (a ≤ b) || decide (b ≤ a)) = true := fun a b => by simp only [Bool.or_eq_true, decide_eq_true_eq]; exact List.le_total a b
 exact ⟨Q216 tr to (fun x y _ _ h1 h2 => by simp only [decide_eq_true_eq] at *; exact List.le_antisymm h1 h2) (Q143 _ _) (Q222 tr to a), (Q143 _ _).length_eq⟩
section
variable {α β σ τ : Type}
def insA (x : α) : List α → List (List α)
 | [] => [[x]]
 | y :: ys => (x :: y :: ys) :: (insA x ys).map (y :: ·)
def perms : List α → List (List α)
 | [] => [[]]
 | x :: xs => (perms xs).flatMap (insA x)
theorem Q294 (x : α) (b : List α) : ∀ a : List α, a ++ x :: b ∈ insA x (a ++ b)
 | [] => by cases b <;> simp [insA]
 | y :: a => by
  show y :: (a ++ x :: b) ∈ insA x (y :: (a ++ b))
  unfold insA
  exact List.mem_cons_of_mem _ (List.mem_map_of_mem (Q294 x b a))
theorem Q280 : ∀ {xs ys : List α}, ys.Perm xs → ys ∈ perms xs
 | [], ys, h => by rw [h.eq_nil]; simp [perms]
 | x :: xs, ys, h => by
  obtain ⟨a, b, rfl⟩ := List.append_of_mem (h.symm.subset List.mem_cons_self)
  have h2 : (a ++ b).Perm xs := (List.perm_middle.symm.trans h).cons_inv
  unfold perms
  exact List.mem_flatMap.2 ⟨a ++ b, Q280 h2, Q294 x b a⟩
def orderedP [DecidableEq β] (kvs : List α) (step : σ → α → Option σ) (s0 : σ) (out : σ → τ) (f : τ → Option β) : Option β :=
 match (foldO step s0 kvs).bind fun s => f (out s) with
 | none => none
 | some r => if (perms kvs).all (fun ys => decide (((foldO step s0 ys).bind fun s => f (out s)) = some r)) = true then some r else none
theorem Ap.orderedP [DecidableEq β] {kvs : List α} {f g : σ → α → Option σ} {s0 : σ} {out : σ → τ} {p q : τ → Option β} (h : ∀ s x, Ap (f s x) (g s x)) (k : ∀ t, Ap (p t) (q t)) : Ap (Bw.orderedP kvs f s0 out p) (Bw.ordered kvs g s0 out q) := fun r e => by
 unfold Bw.orderedP at e
 split at e
 ·cases e
 ·rename_i r' hr'
  split at e
  ·rename_i ha
   obtain rfl := Option.some.inj e
   rw [List.all_eq_true] at ha
   refine Q260.2 fun ys hy => ?_
   have := of_decide_eq_true (ha ys (Q280 hy))
   exact Ap.bind (Q255 h) (fun t => k _) _ this
  ·cases e
end
end Go.Bw
namespace Go.Bw
open Go Go.RowKit Go.Proofs Go.Sort

def cmp3 (a b : Int) : Int := if a < b then -1 else if b < a then 1 else 0
theorem Q246 (a b : Int) : Q64.f a b = some (cmp3 a b) := by
 unfold Q64.f Q102.f cmp3
 simp
 split
 ·rfl
 ·split <;> rfl
theorem Q183 {a b : Int} : cmp3 a b < 0 ↔ a < b := by
 unfold cmp3
 split
 ·simp [*]
 ·split <;> simp <;> omega
theorem Q194 {a b : Int} : cmp3 a b = 0 ↔ a = b := by
 unfold cmp3
 split
 ·simp; omega
 ·split <;> simp <;> omega
theorem or_run (a b c : Int) : Q31.f [a, b, c] = some (if a = 0 then if b = 0 then c else b else a) := by
 unfold Q31.f Q31.l0
 by_cases ha : a = 0
 ·by_cases hb : b = 0
  ·by_cases hc : c = 0
   ·subst ha hb hc
    rw [Q67, Q31.l0b]
    simp [nx, gt, IntKind.wrap, IntKind.bits, IntKind.signed]
    rw [Q67, Q31.l0b]
    simp [nx, gt, IntKind.wrap, IntKind.bits, IntKind.signed]
    rw [Q67, Q31.l0b]
    simp [nx, gt, IntKind.wrap, IntKind.bits, IntKind.signed]
    rw [Q67, Q31.l0b]
    simp [dn, jn]
   ·subst ha hb
    rw [Q67, Q31.l0b]
    simp [nx, gt, IntKind.wrap, IntKind.bits, IntKind.signed]
    rw [Q67, Q31.l0b]
    simp [nx, gt, IntKind.wrap, IntKind.bits, IntKind.signed]
    rw [Q67, Q31.l0b]
    simp [nx, gt, hc, upL, jn]
  ·subst ha
   rw [Q67, Q31.l0b]
   simp [nx, gt, IntKind.wrap, IntKind.bits, IntKind.signed]
   rw [Q67, Q31.l0b]
   simp [nx, gt, hb, upL, jn]
 ·rw [Q67, Q31.l0b]
  simp [nx, gt, ha, upL, jn]
def edgeCmp (x y : Q3) : Int := if cmp3 x.From y.From = 0 then if cmp3 x.Action y.Action = 0 then cmp3 x.To y.To else cmp3 x.Action y.Action else cmp3 x.From y.From
theorem Q264 (x y : Q3) : Q97.f x.From x.Action x.To y.From y.Action y.To = some (edgeCmp x y) := by
 unfold Q97.f
 simp only [Q246, Option.bind_some, or_run]
 rfl
theorem Q289 (x y : Q3) : Q36.cmp x y = some (edgeCmp x y) := Q264 x y
def edgeLt (x y : Q3) : Prop := x.From < y.From ∨ x.From = y.From ∧ (x.Action < y.Action ∨ x.Action = y.Action ∧ x.To < y.To)
theorem Q207 {x y : Q3} : edgeCmp x y < 0 ↔ edgeLt x y := by
 unfold edgeCmp edgeLt
 by_cases h1 : x.From = y.From
 ·rw [if_pos (Q194.2 h1)]
  by_cases h2 : x.Action = y.Action
  ·rw [if_pos (Q194.2 h2), Q183]; omega
  ·rw [if_neg (fun h => h2 (Q194.1 h)), Q183]; omega
 ·rw [if_neg (fun h => h1 (Q194.1 h)), Q183]; omega
theorem Q164 (x y : Q3) : ltOf (gcf Q36.cmp) x y = true ↔ edgeLt x y := by
 unfold ltOf gcf
 rw [Q289]
 simp [Q207]
theorem edge_ltOf' (x y : Q3) : ltOf (gcf Q36.cmp) x y = false ↔ ¬ edgeLt x y := by
 rw [← Q164]; simp
theorem Q257 : CmpTot Q36.cmp := by
 refine ⟨⟨fun x y => by rw [Q289]; rfl, fun x => ?_, fun x y z h1 h2 => ?_, fun x y z h1 h2 => ?_⟩, fun x y h1 h2 => ?_⟩
 ·rw [edge_ltOf']; unfold edgeLt; omega
 ·rw [Q164] at *; unfold edgeLt at *; omega
 ·rw [edge_ltOf'] at *; unfold edgeLt at *; omega
 ·rw [edge_ltOf'] at *
  unfold edgeLt at *
  cases x
  cases y
  simp at *
  omega
theorem Q204 : ∀ (x : Bs), Lib.compareBytes x x = 0
 | [] => rfl
 | a :: x => by unfold Lib.compareBytes; rw [if_neg (UInt8.lt_irrefl a), if_neg (UInt8.lt_irrefl a)]; exact Q204 x
theorem cb_eq : ∀ {x y : Bs}, Lib.compareBytes x y = 0 → x = y
 | [], [], _ => rfl
 | [], _ :: _, h => by simp [Lib.compareBytes] at h
 | _ :: _, [], h => by simp [Lib.compareBytes] at h
 | a :: x, b :: y, h => by
  unfold Lib.compareBytes at h
  split at h
  ·simp at h
  ·split at h
   ·simp at h
   ·rename_i h1 h2
    rw [cb_eq h, UInt8.le_antisymm (UInt8.not_lt.1 h2) (UInt8.not_lt.1 h1)]
theorem cb_neg : ∀ {x y : Bs}, Lib.compareBytes y x = - Lib.compareBytes x y
 | [], [] => rfl
 | [], _ :: _ => rfl
 | _ :: _, [] => rfl
 | a :: x, b :: y => by
  unfold Lib.compareBytes
  by_cases h1 : a < b
  ·rw [if_neg (UInt8.lt_asymm h1), if_pos h1, if_pos h1]; rfl
  ·by_cases h2 : b < a
   ·rw [if_pos h2, if_neg h1, if_pos h2]
   ·rw [if_neg h1, if_neg h2, if_neg h2, if_neg h1]; exact cb_neg
theorem Q176 : ∀ {x y z : Bs}, Lib.compareBytes x y < 0 → Lib.compareBytes y z < 0 → Lib.compareBytes x z < 0
 | [], [], _, h, _ => by simp [Lib.compareBytes] at h
 | [], _ :: _, [], _, h => by simp [Lib.compareBytes] at h
 | [], _ :: _, _ :: _, _, _ => by simp [Lib.compareBytes]
 | _ :: _, [], _, h, _ => by simp [Lib.compareBytes] at h
 | _ :: _, _ :: _, [], _, h => by simp [Lib.compareBytes] at h
 | a :: x, b :: y, c :: z, h1, h2 => by
  unfold Lib.compareBytes at h1 h2 ⊢
  by_cases hab : a < b
  ·by_cases hbc : b < c
   ·rw [if_pos (UInt8.lt_trans hab hbc)]; decide
   ·rw [if_neg hbc] at h2
    by_cases hcb : c < b
    ·rw [if_pos hcb] at h2; simp at h2
    ·have : b = c := UInt8.le_antisymm (UInt8.not_lt.1 hcb) (UInt8.not_lt.1 hbc)
     subst this
     rw [if_pos hab]; decide
  ·rw [if_neg hab] at h1
   by_cases hba : b < a
   ·rw [if_pos hba] at h1; simp at h1
   ·have : a = b := UInt8.le_antisymm (UInt8.not_lt.1 hba) (UInt8.not_lt.1 hab)
    subst this
    rw [if_neg hba] at h1
    by_cases hbc : a < c
    ·rw [if_pos hbc]; decide
    ·rw [if_neg hbc] at h2 ⊢
     by_cases hcb : c < a
     ·rw [if_pos hcb] at h2; simp at h2
     ·rw [if_neg hcb] at h2 ⊢
      exact Q176 h1 h2
theorem Q263 (x y : Q4) : Q40.cmp x y = some (Lib.compareBytes x.Name y.Name) := rfl
theorem Q179 (x y : Q4) : ltOf (gcf Q40.cmp) x y = true ↔ Lib.compareBytes x.Name y.Name < 0 := by
 unfold ltOf gcf
 rw [Q263]
 simp
theorem prop_ltOf' (x y : Q4) : ltOf (gcf Q40.cmp) x y = false ↔ 0 ≤ Lib.compareBytes x.Name y.Name := by
 have := Q179 x y
 rw [← Bool.not_eq_true, this]; omega
theorem prop_swo : CmpSwo Q40.cmp := by
 refine ⟨fun x y => by rw [Q263]; rfl, fun x => ?_, fun x y z h1 h2 => ?_, fun x y z h1 h2 => ?_⟩
 ·rw [prop_ltOf', Q204]; decide
 ·rw [Q179] at *; exact Q176 h1 h2
 ·rw [prop_ltOf'] at *
  rw [cb_neg] at h1 h2 ⊢
  have h1' : Lib.compareBytes y.Name x.Name ≤ 0 := by omega
  have h2' : Lib.compareBytes z.Name y.Name ≤ 0 := by omega
  by_cases e1 : Lib.compareBytes y.Name x.Name = 0
  ·rw [← cb_eq e1]; omega
  ·by_cases e2 : Lib.compareBytes z.Name y.Name = 0
   ·rw [cb_eq e2]; omega
   ·have := Q176 (show Lib.compareBytes z.Name y.Name < 0 by omega) (show Lib.compareBytes y.Name x.Name < 0 by omega)
    omega
end Go.Bw
namespace Go.Bw
open Go Go.RowKit
instance : DecidableEq Q4 := fun a b => decidable_of_iff (a.Name = b.Name ∧ a.States = b.States) (by cases a; cases b; simp)
noncomputable def Q78.fc (fu : Nat) (a0 : List Int) : Option (List Int) := few2C (sortI a0)
theorem Q78.f_ap (fu : Nat) (a0 : List Int) : Ap (Q78.fc fu a0) (Q78.f a0) := fun r h => by
 unfold Q78.fc at h
 obtain ⟨h, hl⟩ := Q229 h
 obtain ⟨hb, hl2⟩ := sortI_eq h
 unfold Q78.f
 rw [if_pos (by omega), hb]
noncomputable def Q35.fc (fu : Nat) (L : List Q0) (M : Option Q5) (u : Int) (D : List Bs) (G : List Q3) (q : List Q4) (I : List Q9) (J : List (Bs × Bool)) : Option ((List Q4) × (Option Q5) × (List Q0)) :=
 (Q107.f L M u D G q I J).bind fun p =>
 jn (
 if p.1.isNone = true then
 if 8 ≤ (q.length : Int) then
 (Q20.f p.2.1 p.1 u D G q I J p.2.2.1 p.2.2.2.1 p.2.2.2.2.1 p.2.2.2.2.2 10).bind fun O =>
 some (.inl O)
 else
 (Q133.f q p.2.2.1 p.2.2.2.1 p.2.2.2.2.1 p.2.2.2.2.2).bind fun U =>
 if U = true then
 (Q20.f p.2.1 p.1 u D G q I J p.2.2.1 p.2.2.2.1 p.2.2.2.2.1 p.2.2.2.2.2 9).bind fun V =>
 some (.inl V)
 else
 some (.inl p.1)
 else
 up (some (q, p.1, p.2.1))) (fun (X : Option Q5) =>
 jn (Q35.l0 u D G q I J ([] : List Int) X p.2.1) (fun (s_ : (Option Q5) × (List Int) × (List Q0)) =>
 (Q78.fc fu s_.2.1).bind fun Z =>
 if (q.length + 1) * 40 ≤ 140737488355328 then
 some ((q ++ [(⟨p.2.2.2.2.1, Z⟩ : Q4)]), s_.1, s_.2.2)
 else none))
theorem Q35.f_ap (fu : Nat) (p : List Q0) (q : Option Q5) (u : Int) (D : List Bs) (G : List Q3) (I : List Q4) (J : List Q9) (L : List (Bs × Bool)) : Ap (Q35.fc fu p q u D G I J L) (Q35.f p q u D G I J L) := by
 unfold Q35.fc Q35.f
 repeat' with_reducible first | apply Q78.f_ap | exact Ap.none | apply Ap.jn | apply Ap.ite | apply Ap.up | apply Ap.bind | exact Ap.refl _ | intro
noncomputable def Q75.fc (fu : Nat) (a0 : List Bs) : Option (List Bs) := few2C (sortB a0)
theorem Q75.f_ap (fu : Nat) (a0 : List Bs) : Ap (Q75.fc fu a0) (Q75.f a0) := fun r h => by
 unfold Q75.fc at h
 obtain ⟨h, hl⟩ := Q229 h
 obtain ⟨hb, hl2⟩ := sortB_eq h
 unfold Q75.f
 rw [if_pos (by omega), hb]
noncomputable def Q36.fc (fu : Nat) (a0 : List Q3) : Option (List Q3) := few2C (sortC (fun x y => Q97.f x.From x.Action x.To y.From y.Action y.To) a0)
theorem Q36.f_ap (fu : Nat) (a0 : List Q3) : Ap (Q36.fc fu a0) (Q36.f a0) := fun r h => by
 unfold Q36.fc at h
 obtain ⟨h, hl⟩ := Q229 h
 obtain ⟨hb, hl2⟩ := sort_tot (c := Q36.cmp) (fun x y => Ap.refl _) Q257 h
 unfold Q36.f
 rw [if_pos ⟨by omega, Q257⟩, hb]
noncomputable def Q40.fc (fu : Nat) (a0 : List Q4) : Option (List Q4) := soloC a0
theorem Q40.f_ap (fu : Nat) (a0 : List Q4) : Ap (Q40.fc fu a0) (Q40.f a0) := fun r h => by
 obtain ⟨rfl, h⟩ := solo_mem h
 rcases h with rfl | ⟨x, rfl⟩ <;> simp [Q40.f, byCmp, CmpParts, prop_swo]
noncomputable def Q28.fc (fu : Nat) (X : List Q0) (Z : Option Q5) (q : Int) (u : List Bs) (D : List Q3) (G : List Q4) (I : List Q9) (J : List (Bs × Bool)) : Option ((List Q4) × (List Q3) × (List Bs) × Int) :=
 orderedP J (fun (t_ : (List Bs)) (z_ : Bs × Bool) => Q28.l0b  z_ t_) u (fun L => L) (fun (M : List Bs) =>
 (Q75.fc fu M).bind fun p =>
 jn (Q28.l1 I p D 0) (fun (O : List Q3) =>
 (Q36.fc fu O).bind fun U =>
 (Q40.fc fu G).bind fun V =>
 some (V, U, p, q)))
theorem Q28.f_ap (fu : Nat) (p : List Q0) (q : Option Q5) (u : Int) (D : List Bs) (G : List Q3) (I : List Q4) (J : List Q9) (L : List (Bs × Bool)) : Ap (Q28.fc fu p q u D G I J L) (Q28.f p q u D G I J L) := by
 unfold Q28.fc Q28.f
 repeat' with_reducible first | apply Q75.f_ap | apply Q36.f_ap | apply Q40.f_ap | apply Ap.jn | apply Ap.orderedP | apply Ap.bind | exact Ap.refl _ | intro
noncomputable def Q22.l0bc (fu : Nat) (G : (Option Q5) × (List Q0) × Int) (I : Option Q5) (q : List Q4) (u : List Q9) (D : List (Bs × Bool)) (O : List Q0) : Option (((Option Q5) × (List Q4) × (List Q9) × (List (Bs × Bool)) × (List Q0)) ⊕ (((Option Q5) × (List Q4) × (List Q9) × (List (Bs × Bool)) × (List Q0)) ⊕ ((Option Q5) × (List Bs) × (List Q3) × (List Q4) × Int))) :=
 if I.isNone = true then
 (Q59.f O I G.2.2 ([] : List Bs) ([] : List Q3) q u D).bind fun J =>
 if (0 : Int) ≤ 0 ∧ 0 < (J.length : Int) then
 if (gt J 0).Kind = 0 then
 dn (.inl (I, q, u, D, J))
 else
 (Q48.f J I G.2.2 ([] : List Bs) ([] : List Q3) q u D 2).bind fun p =>
 if p.1.isNone = true then
 if bseq p.2.2.2.2.1 ([101, 100, 103, 101] : Bs) = true then
 (Q141.f p.2.1 p.1 G.2.2 ([] : List Bs) ([] : List Q3) q u D p.2.2.1 p.2.2.2.1 p.2.2.2.2.1 p.2.2.2.2.2).bind fun L =>
 nx (L.2.2.1, q, L.1, L.2.1, L.2.2.2)
 else
 if bseq p.2.2.2.2.1 ([109, 97, 114, 107] : Bs) = true then
 (Q35.fc fu p.2.1 p.1 G.2.2 ([] : List Bs) ([] : List Q3) q u D).bind fun M =>
 nx (M.2.1, M.1, u, D, M.2.2)
 else
 (Q20.f p.2.1 p.1 G.2.2 ([] : List Bs) ([] : List Q3) q u D p.2.2.1 p.2.2.2.1 p.2.2.2.2.1 p.2.2.2.2.2 7).bind fun U =>
 nx (U, q, u, D, p.2.1)
 else
 nx (p.1, q, u, D, p.2.1)
 else none
 else
 dn (.inl (I, q, u, D, O))
theorem Q22.l0b_ap (fu : Nat) (p : (Option Q5) × (List Q0) × Int) (q : Option Q5) (u : List Q4) (D : List Q9) (G : List (Bs × Bool)) (I : List Q0) : Ap (Q22.l0bc fu p q u D G I) (Q22.l0b p q u D G I) := by
 unfold Q22.l0bc Q22.l0b
 repeat' with_reducible first | apply Q35.f_ap | exact Ap.none | apply Ap.ite | apply Ap.bind | exact Ap.refl _ | intro
noncomputable def Q22.l0c (fu : Nat) (p : (Option Q5) × (List Q0) × Int) (q : Option Q5) (u : List Q4) (D : List Q9) (G : List (Bs × Bool)) (I : List Q0) : Option (((Option Q5) × (List Q4) × (List Q9) × (List (Bs × Bool)) × (List Q0)) ⊕ ((Option Q5) × (List Bs) × (List Q3) × (List Q4) × Int)) := iterC fu (fun t_ : (Option Q5) × (List Q4) × (List Q9) × (List (Bs × Bool)) × (List Q0) => Q22.l0bc fu p t_.1 t_.2.1 t_.2.2.1 t_.2.2.2.1 t_.2.2.2.2) (q, u, D, G, I)
theorem Q22.l0_ap (fu : Nat) (p : (Option Q5) × (List Q0) × Int) (q : Option Q5) (u : List Q4) (D : List Q9) (G : List (Bs × Bool)) (I : List Q0) : Ap (Q22.l0c fu p q u D G I) (Q22.l0 p q u D G I) := by
 unfold Q22.l0c Q22.l0
 repeat' with_reducible first | apply Q22.l0b_ap | apply Ap.iter | exact Ap.refl _ | intro
noncomputable def Q22.fc (fu : Nat) (a0 : Bs) : Option ((Option Q5) × (List Bs) × (List Q3) × (List Q4) × Int) :=
 (Q58.f a0).bind fun u =>
 if u.1.isNone = true then
 (Q130.f u.2 (none : Option Q5) 0 ([] : List Bs) ([] : List Q3) ([] : List Q4) ([] : List Q9) ([] : List (Bs × Bool))).bind fun p =>
 jn (Q22.l0c fu p p.1 ([] : List Q4) ([] : List Q9) ([] : List (Bs × Bool)) p.2.1) (fun (s_ : (Option Q5) × (List Q4) × (List Q9) × (List (Bs × Bool)) × (List Q0)) =>
 if s_.1.isNone = true then
 (Q28.fc fu s_.2.2.2.2 s_.1 p.2.2 ([] : List Bs) ([] : List Q3) s_.2.1 s_.2.2.1 s_.2.2.2.1).bind fun q =>
 some (none, q.2.2.1, q.2.1, q.1, q.2.2.2)
 else
 some ((some (⟨(s_.1.getD default).At, (s_.1.getD default).Err⟩ : Q5)), ([] : List Bs), ([] : List Q3), ([] : List Q4), 0))
 else
 some (u.1, ([] : List Bs), ([] : List Q3), ([] : List Q4), 0)
theorem Q22.f_ap (fu : Nat) (a0 : Bs) : Ap (Q22.fc fu a0) (Q22.f a0) := by
 unfold Q22.fc Q22.f
 repeat' with_reducible first | apply Q22.l0_ap | apply Q28.f_ap | exact Ap.none | apply Ap.jn | apply Ap.ite | apply Ap.bind | exact Ap.refl _ | intro
noncomputable def Q82.fc (fu : Nat)  : Option Bool :=
 (Q22.fc fu ([115, 116, 97, 116, 101, 115, 32, 51, 10, 101, 100, 103, 101, 32, 48, 32, 97, 32, 49, 10, 101, 100, 103, 101, 32, 49, 32, 97, 32, 50, 10, 101, 100, 103, 101, 32, 50, 32, 97, 32, 50, 10, 101, 100, 103, 101, 32, 48, 32, 98, 32, 48, 10, 109, 97, 114, 107, 32, 112, 32, 50, 10] : Bs)).bind fun p =>
 (Q17.f p.2.2.2.2 p.2.1 p.2.2.1 p.2.2.2.1).bind fun q =>
 (Q128.f ([109, 117, 32, 88, 46, 32, 112, 32, 124, 32, 91, 45, 93, 88] : Bs)).bind fun D =>
 jn (
 if p.1.isNone = true then
 some (.inl (!D.1.isNone))
 else
 some (.inl true)) (fun (G : Bool) =>
 jn (
 if G = true then
 some (.inl true)
 else
 some (.inl q.isNone)) (fun (I : Bool) =>
 if I = true then
 some false
 else
 if q.isNone = false then
 (Q65.f ((q.getD default).states) ((q.getD default).holds) ((q.getD default).next) D.2).bind fun u =>
 jn (
 if u.1 = 0 then
 some (.inl (decide (u.2.1 = 6) && (decide (u.2.2.1 = 0) && (decide (u.2.2.2.1 = 0) && (decide (u.2.2.2.2 = 0) && true)))))
 else
 some (.inl false)) (fun (J : Bool) =>
 some J)
 else none))
theorem Q82.f_ap (fu : Nat)  : Ap (Q82.fc fu ) (Q82.f ) := by
 unfold Q82.fc Q82.f
 repeat' with_reducible first | apply Q22.f_ap | exact Ap.none | apply Ap.jn | apply Ap.ite | apply Ap.bind | exact Ap.refl _ | intro
theorem Q309 : Q82.f = some true := Q82.f_ap 100 _ (by kernel_rfl)
end Go.Bw
namespace Go.Bw
open Go Go.RowKit Go.Proofs
variable {R : Res} {Fr : List HProp}
noncomputable def Q69.f (p q u D a1 : Int) : Option Bool :=
 jn (
 if 0 ≤ a1 then
 some (.inl (decide (a1 < 256)))
 else
 some (.inl false)) (fun (G : Bool) =>
 jn (
 if G = true then
 if (0 : Int) ≤ (Bw.shr .i64 a1 6) ∧ (Bw.shr .i64 a1 6) < (4 : Int) then
 if (Bw.shr .i64 a1 6) = 0 then
 if (0 : Int) ≤ IntKind.u64.wrap (band .i64 a1 63) then
 some (.inl (decide (band .u64 (Bw.shr .u64 p (IntKind.u64.wrap (band .i64 a1 63))) 1 = 1)))
 else none
 else
 if (Bw.shr .i64 a1 6) = 1 then
 if (0 : Int) ≤ IntKind.u64.wrap (band .i64 a1 63) then
 some (.inl (decide (band .u64 (Bw.shr .u64 q (IntKind.u64.wrap (band .i64 a1 63))) 1 = 1)))
 else none
 else
 if (Bw.shr .i64 a1 6) = 2 then
 if (0 : Int) ≤ IntKind.u64.wrap (band .i64 a1 63) then
 some (.inl (decide (band .u64 (Bw.shr .u64 u (IntKind.u64.wrap (band .i64 a1 63))) 1 = 1)))
 else none
 else
 if (0 : Int) ≤ IntKind.u64.wrap (band .i64 a1 63) then
 some (.inl (decide (band .u64 (Bw.shr .u64 D (IntKind.u64.wrap (band .i64 a1 63))) 1 = 1)))
 else none
 else none
 else
 some (.inl false)) (fun (I : Bool) =>
 some I))
theorem Q69.callee : Callee Tryz.prog 11 := ⟨_, Tryz.func11, by kernel_rfl, by kernel_rfl⟩
theorem Q69.spec {u D G I a1 : Int} {r : Bool} (j : Q69.f u D G I a1 = some r) :
 Spec Tryz.prog 11 [.agg #[.int .u64 u, .int .u64 D, .int .u64 G, .int .u64 I], i6 a1] R (Fr) (fun v l' => v = .bool r ∧ Fr = l') := by
 refine Spec.of Tryz.func11 rfl rfl ?_; unfold Q69.f at j; have j := brun j; refine At.seq (At.region ?_); refine At.box rfl rfl (cs := [.int .u64 u, .int .u64 D, .int .u64 G, .int .u64 I]) rfl rfl (fun V => ?_); refine At.run 1 rfl (nT (sR 3 rfl ?_)); obtain ⟨a4, a5, b5, j⟩ := bjoin j; let T1 : HProp := pc V [.int .u64 u, .int .u64 D, .int .u64 G, .int .u64 I] 38; refine At.joinO 3 (X := Bool) (fun J => [(1, i6 a1), (2, bp V), (10, .bool J)]) (fun J => T1 :: Fr) (fun J => a4 (.inl J) = some r) ?_ (fun Z => ?_)
 ·rintro J j; have j := (a5 _).symm.trans j
  ·refine At.run 1 rfl ?_; obtain ⟨a6, a7, b6, j⟩ := bjoin j; refine At.joinO 11 (X := Bool) (fun L => [(22, .bool L)]) (fun L => T1 :: Fr) (fun L => a6 (.inl L) = some r) ?_ (fun M => ?_)
   ·rintro L j; have j := (a7 _).symm.trans j
    ·refine At.run 1 rfl (nT (At.ret (At.drop .z ?_))); cases bret j; exact At.res (.inl rfl) rfl rfl ⟨rfl, rfl⟩
   ··rcases bite j with ⟨O, j⟩ | ⟨O, j⟩
     ··refine At.know (t := 11) rfl O ?_
       refine At.run 1 rfl (At.y (Y.shr rfl rfl (by decide)) rfl rfl rfl ?_); obtain ⟨p, j⟩ := bnone j; rcases bite j with ⟨a0, j⟩ | ⟨a0, j⟩
       ··refine At.y (Y.ixArrK rfl rfl rfl rfl rfl p.1 p.2 (q := 0) (off := 0) a0 rfl) rfl rfl rfl ?_
         refine At.y (Y.load rfl rfl .z rfl rfl rfl) rfl rfl rfl (At.run 3 rfl ?_); obtain ⟨a8, j⟩ := bnone j; refine At.y (Y.shr rfl rfl a8) rfl rfl rfl (At.run 3 rfl ?_); exact At.of (M (decide (band .u64 (Bw.shr .u64 u (IntKind.u64.wrap (band .i64 a1 63))) 1 = 1)) j) ⟨rfl, trivial⟩
       ··rcases bite j with ⟨a2, j⟩ | ⟨a2, j⟩
         ··refine At.y (Y.ixArrK rfl rfl rfl rfl rfl p.1 p.2 (q := 1) (off := 1) a2 rfl) rfl rfl rfl ?_
           refine At.y (Y.load rfl rfl .z rfl rfl rfl) rfl rfl rfl (At.run 3 rfl ?_); obtain ⟨a9, j⟩ := bnone j; refine At.y (Y.shr rfl rfl a9) rfl rfl rfl (At.run 3 rfl ?_); exact At.of (M (decide (band .u64 (Bw.shr .u64 D (IntKind.u64.wrap (band .i64 a1 63))) 1 = 1)) j) ⟨rfl, trivial⟩
         ··rcases bite j with ⟨a3, j⟩ | ⟨a3, j⟩
           ··refine At.y (Y.ixArrK rfl rfl rfl rfl rfl p.1 p.2 (q := 2) (off := 2) a3 rfl) rfl rfl rfl ?_
             refine At.y (Y.load rfl rfl .z rfl rfl rfl) rfl rfl rfl (At.run 3 rfl ?_); obtain ⟨b2, j⟩ := bnone j; refine At.y (Y.shr rfl rfl b2) rfl rfl rfl (At.run 3 rfl ?_); exact At.of (M (decide (band .u64 (Bw.shr .u64 G (IntKind.u64.wrap (band .i64 a1 63))) 1 = 1)) j) ⟨rfl, trivial⟩
           ··have b3 : (Bw.shr .i64 a1 6) = 3 := by have h1_ := p; omega
             refine At.y (Y.ixArrK rfl rfl rfl rfl rfl p.1 p.2 (q := 3) (off := 3) b3 rfl) rfl rfl rfl (At.y (Y.load rfl rfl .z rfl rfl rfl) rfl rfl rfl (At.run 3 rfl ?_)); obtain ⟨b4, j⟩ := bnone j; refine At.y (Y.shr rfl rfl b4) rfl rfl rfl (At.run 3 rfl ?_); exact At.of (M (decide (band .u64 (Bw.shr .u64 I (IntKind.u64.wrap (band .i64 a1 63))) 1 = 1)) j) ⟨rfl, trivial⟩
     ··refine At.know (t := 11) rfl (bn O) ?_
       refine At.run 11 rfl ?_; exact At.of (M false j) ⟨rfl, trivial⟩
 ··rcases bite j with ⟨U, j⟩ | ⟨U, j⟩
   ··refine At.know (t := 7) rfl (decide_eq_true U) ?_
     refine At.run 3 rfl ?_; exact At.of (Z (decide (a1 < 256)) j) ⟨rfl, rfl, rfl, trivial⟩
   ··refine At.know (t := 7) rfl (decide_eq_false U) ?_
     refine At.run 3 rfl ?_; exact At.of (Z false j) ⟨rfl, rfl, rfl, trivial⟩


noncomputable def Q18.o1 (x : Int) : Int := IntKind.u64.wrap (band .u64 (Bw.shr .u64 x 1) 6148914691236517205 + band .u64 x 6148914691236517205)
noncomputable def Q18.o2 (x : Int) : Int := IntKind.u64.wrap (band .u64 (Bw.shr .u64 x 2) 3689348814741910323 + band .u64 x 3689348814741910323)
noncomputable def Q18.o3 (x : Int) : Int := band .u64 (IntKind.u64.wrap (Bw.shr .u64 x 4 + x)) 1085102592571150095
noncomputable def Q18.o4 (x : Int) : Int := IntKind.u64.wrap (x + Bw.shr .u64 x 8)
noncomputable def Q18.o5 (x : Int) : Int := IntKind.u64.wrap (x + Bw.shr .u64 x 16)
noncomputable def Q18.o6 (x : Int) : Int := IntKind.u64.wrap (x + Bw.shr .u64 x 32)
noncomputable def Q18.f (a0 : Int) : Option Int := some (band .i64 (IntKind.i64.wrap (Q18.o6 (Q18.o5 (Q18.o4 (Q18.o3 (Q18.o2 (Q18.o1 a0))))))) 127)
theorem Q18.callee : Callee Tryz.prog 39 := ⟨_, Tryz.func39, by kernel_rfl, by kernel_rfl⟩
theorem Q18.spec {a0 : Int} {r : Int} (j : Q18.f a0 = some r) :
 Spec Tryz.prog 39 [.int .u64 a0] R (Fr) (fun v l' => v = i6 r ∧ Fr = l') := by
 refine Spec.of Tryz.func39 rfl rfl ?_; unfold Q18.f at j; refine sR 1 rfl (nT (sR 1 rfl ?_)); refine At.y (Y.shr rfl rfl (by decide)) rfl rfl rfl (At.run 5 rfl (nT ?_)); refine At.sub (env' := [(0, .int .u64 (Q18.o1 a0))]) ⟨rfl, trivial⟩ ?_; generalize Q18.o1 a0 = z1 at j ⊢; refine sR 1 rfl (At.y (Y.shr rfl rfl (by decide)) rfl rfl rfl (At.run 5 rfl (nT ?_))); refine At.sub (env' := [(0, .int .u64 (Q18.o2 z1))]) ⟨rfl, trivial⟩ ?_; generalize Q18.o2 z1 = z2 at j ⊢; refine sR 1 rfl (At.y (Y.shr rfl rfl (by decide)) rfl rfl rfl (At.run 4 rfl (nT ?_))); refine At.sub (env' := [(0, .int .u64 (Q18.o3 z2))]) ⟨rfl, trivial⟩ ?_; generalize Q18.o3 z2 = z3 at j ⊢; refine sR 2 rfl (At.y (Y.shr rfl rfl (by decide)) rfl rfl rfl (At.run 2 rfl (nT ?_))); refine At.sub (env' := [(0, .int .u64 (Q18.o4 z3))]) ⟨rfl, trivial⟩ ?_; generalize Q18.o4 z3 = z4 at j ⊢; refine sR 2 rfl (At.y (Y.shr rfl rfl (by decide)) rfl rfl rfl (At.run 2 rfl (nT ?_))); refine At.sub (env' := [(0, .int .u64 (Q18.o5 z4))]) ⟨rfl, trivial⟩ ?_; generalize Q18.o5 z4 = z5 at j ⊢; refine sR 2 rfl (At.y (Y.shr rfl rfl (by decide)) rfl rfl rfl (At.run 2 rfl (nT ?_))); refine At.sub (env' := [(0, .int .u64 (Q18.o6 z5))]) ⟨rfl, trivial⟩ ?_; generalize Q18.o6 z5 = z6 at j ⊢; refine sR 4 rfl (nT (At.ret ?_)); obtain rfl := Option.some.inj j; exact At.res (.inl rfl) rfl rfl ⟨rfl, rfl⟩

noncomputable def Q96.f (p q u D : Int) : Option Int :=
 (Q18.f p).bind fun G =>
 (Q18.f q).bind fun I =>
 (Q18.f u).bind fun J =>
 (Q18.f D).bind fun L =>
 some (IntKind.i64.wrap (IntKind.i64.wrap (IntKind.i64.wrap (IntKind.i64.wrap (0 + G) + I) + J) + L))
theorem Q96.callee : Callee Tryz.prog 24 := ⟨_, Tryz.func24, by kernel_rfl, by kernel_rfl⟩
theorem Q96.spec {p q u D : Int} {r : Int} (j : Q96.f p q u D = some r) :
 Spec Tryz.prog 24 [.agg #[.int .u64 p, .int .u64 q, .int .u64 u, .int .u64 D]] R (Fr) (fun v l' => v = i6 r ∧ Fr = l') := by
 refine Spec.of Tryz.func24 rfl rfl ?_; unfold Q96.f at j; have j := brun j; refine At.seq (At.region ?_); refine At.box rfl rfl (cs := [.int .u64 p, .int .u64 q, .int .u64 u, .int .u64 D]) rfl rfl (fun M => ?_); refine At.run 1 rfl (nT (sR 1 rfl (nT ?_))); refine At.seq (At.seq (At.region (At.y (Y.load rfl rfl .z rfl rfl rfl) rfl rfl rfl (At.run 1 rfl (nT ?_))))); refine At.block ?_; refine At.rounds 5 ?_; refine At.round ?_; refine sR 1 rfl (nT (At.seq ?_)); refine At.condT rfl rfl ?_; refine At.skip (At.thn (At.seq ?_)); refine At.block ?_; refine At.seq (At.region ?_); refine At.y (Y.ixA rfl rfl rfl rfl rfl (show (0 : Int) ≤ 0 ∧ (0 : Int) < 4 by decide).1 (show (0 : Int) ≤ 0 ∧ (0 : Int) < 4 by decide).2 rfl) rfl rfl rfl ?_; refine At.run 1 rfl (nT (At.region (At.run 2 rfl ?_))); obtain ⟨O, G, j⟩ := bbind j; refine At.call rfl Q18.callee rfl rfl rfl (Q18.spec G) ?_; rintro _ _ ⟨rfl, rfl⟩; refine At.run 2 rfl (At.nil ?_); refine At.ibn ?_; refine At.thn (At.region (At.run 2 rfl (nT ?_))); refine At.round ?_; refine sR 1 rfl (nT (At.seq ?_)); refine At.condT rfl rfl ?_; refine At.skip (At.thn (At.seq ?_)); refine At.block ?_; refine At.seq (At.region ?_); refine At.y (Y.ixA rfl rfl rfl rfl rfl (show (0 : Int) ≤ 1 ∧ (1 : Int) < 4 by decide).1 (show (0 : Int) ≤ 1 ∧ (1 : Int) < 4 by decide).2 rfl) rfl rfl rfl ?_; refine At.run 1 rfl (nT (At.region (At.run 2 rfl ?_))); obtain ⟨U, I, j⟩ := bbind j; refine At.call rfl Q18.callee rfl rfl rfl (Q18.spec I) ?_; rintro _ _ ⟨rfl, rfl⟩; refine At.run 2 rfl (At.nil ?_); refine At.ibn ?_; refine At.thn (At.region (At.run 2 rfl (nT ?_))); refine At.round ?_; refine sR 1 rfl (nT (At.seq ?_)); refine At.condT rfl rfl ?_; refine At.skip (At.thn (At.seq ?_)); refine At.block ?_; refine At.seq (At.region ?_); refine At.y (Y.ixA rfl rfl rfl rfl rfl (show (0 : Int) ≤ 2 ∧ (2 : Int) < 4 by decide).1 (show (0 : Int) ≤ 2 ∧ (2 : Int) < 4 by decide).2 rfl) rfl rfl rfl ?_; refine At.run 1 rfl (nT (At.region (At.run 2 rfl ?_))); obtain ⟨V, J, j⟩ := bbind j; refine At.call rfl Q18.callee rfl rfl rfl (Q18.spec J) ?_; rintro _ _ ⟨rfl, rfl⟩; refine At.run 2 rfl (At.nil ?_); refine At.ibn ?_; refine At.thn (At.region (At.run 2 rfl (nT ?_))); refine At.round ?_; refine sR 1 rfl (nT (At.seq ?_)); refine At.condT rfl rfl ?_; refine At.skip (At.thn (At.seq ?_)); refine At.block ?_; refine At.seq (At.region ?_); refine At.y (Y.ixA rfl rfl rfl rfl rfl (show (0 : Int) ≤ 3 ∧ (3 : Int) < 4 by decide).1 (show (0 : Int) ≤ 3 ∧ (3 : Int) < 4 by decide).2 rfl) rfl rfl rfl ?_; refine At.run 1 rfl (nT (At.region (At.run 2 rfl ?_))); obtain ⟨X, L, j⟩ := bbind j; refine At.call rfl Q18.callee rfl rfl rfl (Q18.spec L) ?_; rintro _ _ ⟨rfl, rfl⟩; refine At.run 2 rfl (At.nil ?_); refine At.ibn ?_; refine At.thn (At.region (At.run 2 rfl (nT ?_))); refine At.round ?_; refine sR 1 rfl (nT (At.seq ?_)); refine At.condF rfl rfl ?_; refine At.exit ?_; refine At.the ?_; refine At.the ?_; refine At.ibx ?_; refine At.thn (sR 2 rfl (nT (At.ret (At.drop .z ?_)))); cases bret j; exact At.res (.inl rfl) rfl rfl ⟨rfl, rfl⟩

end Go.Bw
namespace Go.Bw
open Go Go.RowKit Go.Proofs
variable {R : Res} {Fr : List HProp} {b0 b0_1 b0_2 : Nat}
noncomputable def Q119.f (q : Int) (u : List (Bs × Q2)) (p : List (Q7 × Q2)) (a1 : Int) (a2 : Bs) : Option (Int × Int × Int × Int) :=
 some (((mget p (⟨a1, a2⟩ : Q7)).getD (⟨(0 : Int), (0 : Int), (0 : Int), (0 : Int)⟩ : Q2)).c0, ((mget p (⟨a1, a2⟩ : Q7)).getD (⟨(0 : Int), (0 : Int), (0 : Int), (0 : Int)⟩ : Q2)).c1, ((mget p (⟨a1, a2⟩ : Q7)).getD (⟨(0 : Int), (0 : Int), (0 : Int), (0 : Int)⟩ : Q2)).c2, ((mget p (⟨a1, a2⟩ : Q7)).getD (⟨(0 : Int), (0 : Int), (0 : Int), (0 : Int)⟩ : Q2)).c3)
theorem Q119.callee : Callee Tryz.prog 23 := ⟨_, Tryz.func23, by kernel_rfl, by kernel_rfl⟩
theorem Q119.spec {p a1 : Int} {q : List (Bs × Q2)} {u : List (Q7 × Q2)} {a2 : Bs} {r : Int × Int × Int × Int} (j : Q119.f p q u a1 a2 = some r) :
 Spec Tryz.prog 23 [bp b0, i6 a1, .string ⟨(a2).toArray⟩] R (pc b0 [i6 p, .map (some b0_1), .map (some b0_2)] 72 :: mapo Fl.bs.ov Q2.fl.av b0_1 q :: mapo Q7.fl.av Q2.fl.av b0_2 u :: Fr) (fun v l' => v = .agg #[.int .u64 r.1, .int .u64 r.2.1, .int .u64 r.2.2.1, .int .u64 r.2.2.2] ∧ pc b0 [i6 p, .map (some b0_1), .map (some b0_2)] 72 :: mapo Fl.bs.ov Q2.fl.av b0_1 q :: mapo Q7.fl.av Q2.fl.av b0_2 u :: Fr = l') := by
 refine Spec.of Tryz.func23 rfl rfl ?_; unfold Q119.f at j; have j := brun j; refine At.seq (At.region ?_); refine At.alloc rfl rfl rfl (fun D => ?_); refine nT (sR 3 rfl (At.y (Y.load rfl rfl (.s .z) rfl rfl rfl) rfl rfl rfl (At.run 2 rfl ?_))); refine At.y (Y.build (is := [0, 1]) (xo := [.tmp 11, .tmp 12]) (vs := [i6 a1, .string ⟨(a2).toArray⟩]) (cs := [i6 a1, .string ⟨(a2).toArray⟩]) rfl rfl rfl rfl rfl rfl) rfl rfl rfl ?_; refine At.y (Y.lookup (k := (⟨a1, a2⟩ : Q7)) (z := (⟨(0 : Int), (0 : Int), (0 : Int), (0 : Int)⟩ : Q2)) (.s (.s (.s .z))) rfl rfl Q7.keyok (by kernel_rfl) rfl rfl rfl) rfl rfl rfl ?_; refine At.store rfl rfl rfl rfl .z rfl rfl rfl (.c (.c (.c (.c .n)))) ?_; refine nT (At.ret ?_); refine At.resM (.inl rfl) rfl (RV.cell rfl rfl .z rfl rfl rfl RV.nil) ?_; refine At.drop .z ?_; cases bret j; exact fun a w e hs => ⟨_, ⟨rfl, rfl⟩, hs⟩

noncomputable def Q12.l2b (D : Int) (p : Int × Int × Int × Int × Int) (q : Int × Int × Int × Int × Int) (u : Int) : Option ((Int) ⊕ ((Unit) ⊕ (Bool))) :=
 if u < D then
 (Q69.f p.2.1 p.2.2.1 p.2.2.2.1 p.2.2.2.2 u).bind fun G =>
 (Q69.f q.2.1 q.2.2.1 q.2.2.2.1 q.2.2.2.2 (IntKind.i64.wrap (IntKind.i64.wrap (D - 1) - u))).bind fun I =>
 if (G == I) = true then
 nx (IntKind.i64.wrap (u + 1))
 else
 upL (some false)
 else
 dn (.inl ())
noncomputable def Q12.l2 (p : Int) (q : Int × Int × Int × Int × Int) (u : Int × Int × Int × Int × Int) (D : Int) : Option ((Unit) ⊕ (Bool)) := iter (fun t_ : Int => Q12.l2b p q u t_) D
noncomputable def Q12.l3b (G : Int) (q : List Q4) (u : Int) (D : List Int) (p : Int) : Option (((List Int) × Int) ⊕ (((List Int)) ⊕ (((List Q4) × Int) ⊕ (((List Q4)) ⊕ (Bool))))) :=
 if 0 ≤ p then
 if (0 : Int) ≤ p ∧ p < ((gt q u).States.length : Int) then
 if (D.length + ([(IntKind.i64.wrap (IntKind.i64.wrap (G - 1) - (gt ((gt q u).States) p)))] : List Int).length) * 8 ≤ 140737488355328 then
 nx ((D ++ ([(IntKind.i64.wrap (IntKind.i64.wrap (G - 1) - (gt ((gt q u).States) p)))] : List Int)), IntKind.i64.wrap (p - 1))
 else none
 else none
 else
 dn (.inl D)
noncomputable def Q12.l3 (p : Int) (q : List Q4) (u : Int) (D : List Int) (G : Int) : Option (((List Int)) ⊕ (((List Q4) × Int) ⊕ (((List Q4)) ⊕ (Bool)))) := iter (fun t_ : (List Int) × Int => Q12.l3b p q u t_.1 t_.2) (D, G)
noncomputable def Q12.l1b (D : Int) (q u : List Q4) (p : Int) : Option (((List Q4) × Int) ⊕ (((List Q4)) ⊕ (Bool))) :=
 if p < (q.length : Int) then
 if (0 : Int) ≤ p ∧ p < (q.length : Int) then
 jn (Q12.l3 D q p ([] : List Int) (IntKind.i64.wrap (((gt q p).States.length : Int) - 1))) (fun (G : List Int) =>
 if (u.length + 1) * 40 ≤ 140737488355328 then
 nx ((u ++ [(⟨((gt q p).Name), G⟩ : Q4)]), IntKind.i64.wrap (p + 1))
 else none)
 else none
 else
 dn (.inl u)
noncomputable def Q12.l1 (p : Int) (q u : List Q4) (D : Int) : Option (((List Q4)) ⊕ (Bool)) := iter (fun t_ : (List Q4) × Int => Q12.l1b p q t_.1 t_.2) (u, D)
noncomputable def Q12.l5b (D : Int) (L : List Bs) (J q : Int) (G : List Q3) (p : Option Q13) (u : Int) : Option (((List Q3) × (Option Q13) × Int) ⊕ (((List Q3) × (Option Q13)) ⊕ (((List Q3) × (Option Q13) × Int) ⊕ (((List Q3) × (Option Q13)) ⊕ (((List Q3) × (Option Q13) × Int) ⊕ (((List Q3) × (Option Q13)) ⊕ (Bool))))))) :=
 if 0 ≤ u then
 jn (
 if (0 : Int) ≤ q ∧ q < (L.length : Int) then
 if p.isNone = false then
 (Q119.f ((p.getD default).states) ((p.getD default).holds) ((p.getD default).next) J (gt L q)).bind fun I =>
 (Q69.f I.1 I.2.1 I.2.2.1 I.2.2.2 u).bind fun M =>
 if M = true then
 if (G.length + ([(⟨IntKind.i64.wrap (IntKind.i64.wrap (D - 1) - J), q, IntKind.i64.wrap (IntKind.i64.wrap (D - 1) - u)⟩ : Q3)] : List Q3).length) * 24 ≤ 140737488355328 then
 some (.inl (G ++ ([(⟨IntKind.i64.wrap (IntKind.i64.wrap (D - 1) - J), q, IntKind.i64.wrap (IntKind.i64.wrap (D - 1) - u)⟩ : Q3)] : List Q3)))
 else none
 else
 some (.inl G)
 else none
 else none) (fun (O : List Q3) =>
 nx (O, (some (⟨((p.getD default).states), (p.getD default).holds, (p.getD default).next⟩ : Q13)), IntKind.i64.wrap (u - 1)))
 else
 dn (.inl (G, p))
noncomputable def Q12.l5 (p : Int) (q : List Bs) (u D : Int) (G : List Q3) (I : Option Q13) (J : Int) : Option (((List Q3) × (Option Q13)) ⊕ (((List Q3) × (Option Q13) × Int) ⊕ (((List Q3) × (Option Q13)) ⊕ (((List Q3) × (Option Q13) × Int) ⊕ (((List Q3) × (Option Q13)) ⊕ (Bool)))))) := iter (fun t_ : (List Q3) × (Option Q13) × Int => Q12.l5b p q u D t_.1 t_.2.1 t_.2.2) (G, I, J)
noncomputable def Q12.l4b (q : Int) (u : List Bs) (I : Int) (D : List Q3) (G : Option Q13) (p : Int) : Option (((List Q3) × (Option Q13) × Int) ⊕ (((List Q3) × (Option Q13)) ⊕ (((List Q3) × (Option Q13) × Int) ⊕ (((List Q3) × (Option Q13)) ⊕ (Bool))))) :=
 if p < (u.length : Int) then
 jn (Q12.l5 q u I p D G (IntKind.i64.wrap (q - 1))) (fun (s_ : (List Q3) × (Option Q13)) =>
 nx (s_.1, s_.2, IntKind.i64.wrap (p + 1)))
 else
 dn (.inl (D, G))
noncomputable def Q12.l4 (p : Int) (q : List Bs) (u : Int) (D : List Q3) (G : Option Q13) (I : Int) : Option (((List Q3) × (Option Q13)) ⊕ (((List Q3) × (Option Q13) × Int) ⊕ (((List Q3) × (Option Q13)) ⊕ (Bool)))) := iter (fun t_ : (List Q3) × (Option Q13) × Int => Q12.l4b p q u t_.1 t_.2.1 t_.2.2) (D, G, I)
noncomputable def Q12.l0b (D : Int) (G : List Bs) (q : List Q3) (u : Option Q13) (p : Int) : Option (((List Q3) × (Option Q13) × Int) ⊕ (((List Q3) × (Option Q13)) ⊕ (Bool))) :=
 if 0 ≤ p then
 jn (Q12.l4 D G p q u 0) (fun (s_ : (List Q3) × (Option Q13)) =>
 nx (s_.1, s_.2, IntKind.i64.wrap (p - 1)))
 else
 dn (.inl (q, u))
noncomputable def Q12.l0 (p : Int) (q : List Bs) (u : List Q3) (D : Option Q13) (G : Int) : Option (((List Q3) × (Option Q13)) ⊕ (Bool)) := iter (fun t_ : (List Q3) × (Option Q13) × Int => Q12.l0b p q t_.1 t_.2.1 t_.2.2) (u, D, G)
noncomputable def Q12.f (p : Int) (G : List Bs) (M : List Q3) (I : List Q4) (a1 : List Q1) : Option Bool :=
 (Q82.f ).bind fun J =>
 (Q17.f p G M I).bind fun L =>
 jn (
 if J = true then
 some (.inl L.isNone)
 else
 some (.inl true)) (fun (O : Bool) =>
 if O = true then
 some J
 else
 jn (Q12.l0 p G ([] : List Q3) L (IntKind.i64.wrap (p - 1))) (fun (s_ : (List Q3) × (Option Q13)) =>
 jn (Q12.l1 p I ([] : List Q4) 0) (fun (U : List Q4) =>
 (Q17.f p G s_.1 U).bind fun D =>
 if D.isNone = true then
 some false
 else
 if s_.2.isNone = false then
 (Q65.f ((s_.2.getD default).states) ((s_.2.getD default).holds) ((s_.2.getD default).next) a1).bind fun q =>
 (Q65.f ((D.getD default).states) ((D.getD default).holds) ((D.getD default).next) a1).bind fun u =>
 jn (Q12.l2 p q u 0) (fun (_ : Unit) =>
 jn (
 if q.1 = u.1 then
 (Q96.f q.2.1 q.2.2.1 q.2.2.2.1 q.2.2.2.2).bind fun V =>
 (Q96.f u.2.1 u.2.2.1 u.2.2.2.1 u.2.2.2.2).bind fun X =>
 some (.inl (decide (V = X)))
 else
 some (.inl false)) (fun (Z : Bool) =>
 some Z))
 else none)))
theorem Q12.spec (R : Res) (Fr : List HProp) (A0_1 : Option Addr) (n0_1 : Nat) (c0_1 : Nat) (A0_2 : Option Addr) (n0_2 : Nat) (c0_2 : Nat) (A0_3 : Option Addr) (n0_3 : Nat) (c0_3 : Nat) (A1 : Option Addr) (n1 : Nat) (c1 : Nat) (p : Int) (D : List Bs) (b7 : List Q3) (u : List Q4) (a1 : List Q1) (hr0_1 : RdS Fl.bs.rep R.heap A0_1 D) (hn0_1 : D.length = n0_1) (hc0_1 : n0_1 ≤ c0_1) (hr0_2 : RdS Q3.fl.rep R.heap A0_2 b7) (hn0_2 : b7.length = n0_2) (hc0_2 : n0_2 ≤ c0_2) (hr0_3 : RdS Q4.rep R.heap A0_3 u) (hn0_3 : u.length = n0_3) (hc0_3 : n0_3 ≤ c0_3) (hr1 : RdS Q1.fl.rep R.heap A1 a1) (hn1 : a1.length = n1) (hc1 : n1 ≤ c1) {r : Bool} (j : Q12.f p D b7 u a1 = some r) :
 Spec Tryz.prog 6 [.agg #[i6 p, .slice A0_1 n0_1 c0_1, .slice A0_2 n0_2 c0_2, .slice A0_3 n0_3 c0_3], .slice A1 n1 c1] R (Fr) (fun v l' => v = .bool r ∧ Fr = l') := by
 subst hn0_1; subst hn0_2; subst hn0_3; subst hn1; refine Spec.of Tryz.func6 rfl rfl ?_; unfold Q12.f at j; have j := brun j; refine At.seq (At.region ?_); refine At.box rfl rfl (cs := [i6 p, .slice A0_1 D.length c0_1, .slice A0_2 b7.length c0_2, .slice A0_3 u.length c0_3]) rfl rfl (fun O => ?_); refine At.run 1 rfl (nT (At.seq (At.region ?_))); obtain ⟨p2, p3, j⟩ := bbind j; refine At.call rfl Q82.callee rfl rfl rfl (Q82.spec p3) ?_; rintro _ _ ⟨rfl, rfl⟩; refine At.run 1 rfl (nT (At.seq (At.region (At.y (Y.load rfl rfl .z rfl rfl rfl) rfl rfl rfl ?_)))); obtain ⟨d9, p4, j⟩ := bbind j; refine At.call rfl Q17.callee rfl rfl rfl (Q17.spec hr0_1 rfl hc0_1 hr0_2 rfl hc0_2 hr0_3 rfl hc0_3 p4) ?_; rintro _ _ ⟨e1, rfl, rfl⟩; refine At.run 1 rfl (nT (At.seq (sR 3 rfl ?_))); obtain ⟨p5, p6, C1, j⟩ := bjoin j; let T1 : HProp := pc O [i6 p, .slice A0_1 D.length c0_1, .slice A0_2 b7.length c0_2, .slice A0_3 u.length c0_3] 26; refine At.joinO 3 (X := Bool) (fun b8 => [(1, .slice A1 a1.length c1), (2, bp O), (5, .bool p2), (6, optp e1), (29, .bool b8)]) (fun b8 => optb Q13.ow 72 e1 d9 :: T1 :: Fr) (fun b8 => p5 (.inl b8) = some r) ?_ (fun l9 => ?_)
 ·rintro b8 j; have j := (p6 _).symm.trans j
  ·refine nT ?_; rcases bite j with ⟨e2, j⟩ | ⟨e2, j⟩
   ··refine At.condT rfl e2 ?_
     refine sR 2 rfl (nT (At.ret (At.thr (At.drop .z ?_)))); refine At.drop .z ?_; cases bret j; exact At.res (.inl rfl) rfl rfl ⟨rfl, rfl⟩
   ··refine At.condF rfl (bn e2) ?_
     refine At.skip (At.thn (sR 1 rfl (At.y (Y.load rfl rfl (.s .z) rfl rfl rfl) rfl rfl rfl (At.run 1 rfl (At.nil ?_))))); refine At.thn (sR 2 rfl (At.y (Y.load rfl rfl (.s .z) rfl rfl rfl) rfl rfl rfl ?_)); refine At.y (Y.build (is := [0, 1]) (xo := [.tmp 33, .tmp 35]) (vs := [i6 p, .slice A0_1 D.length c0_1]) (cs := [i6 p, .slice A0_1 D.length c0_1, .slice none 0 0, .slice none 0 0]) rfl rfl rfl rfl rfl rfl) rfl rfl rfl ?_; refine At.alloc rfl rfl rfl (fun G => ?_); refine At.store rfl rfl rfl rfl .z rfl rfl rfl (.c (.c (.c (.c .n)))) ?_; refine nT (At.seq (sR 3 rfl (nT ?_))); refine At.block ?_; obtain ⟨p7, p8, C2, j⟩ := bjoin j; obtain ⟨e3, e4, p9⟩ := bsome j; clear j; unfold Q12.l0 at e4; obtain ⟨e5, b9⟩ := Q19.1 e4; clear e4; refine At.nilRow Q3.fl 32 ?_; refine At.loopJ (X := (List Q3) × (Option Q13) × Int × Nat × (Option Addr) × Nat × (Option Nat)) (Y := (List Q3) × (Option Q13) × Nat × (Option Addr) × Nat × (Option Nat)) (e0 := 0) (fun s_ => [(1, .slice A1 a1.length c1), (2, bp O), (6, optp s_.2.2.2.2.2.2), (7, i6 p), (8, bp G), (9, i6 s_.2.2.1)]) (fun s_ => row Q3.fl 32 s_.2.2.2.2.1 s_.2.2.2.1 s_.2.2.2.2.2.1 s_.1 :: pc G [i6 p, .slice A0_1 D.length c0_1, .slice s_.2.2.2.2.1 s_.2.2.2.1 s_.2.2.2.2.2.1, .slice none 0 0] 26 :: optb Q13.ow 72 s_.2.2.2.2.2.2 s_.2.1 :: T1 :: Fr) (fun m_ => fun s_ => iterN (fun t_ : (List Q3) × (Option Q13) × Int => Q12.l0b p D t_.1 t_.2.1 t_.2.2) m_ (s_.1, s_.2.1, s_.2.2.1) = some e3 ∧ s_.1.length = s_.2.2.2.1) e5 (([] : List Q3), d9, IntKind.i64.wrap (p - 1), 0, none, 0, e1) ⟨b9, rfl⟩ (fun s_ => [(1, .slice A1 a1.length c1), (2, bp O), (6, optp s_.2.2.2.2.2), (7, i6 p), (8, bp G)]) (fun s_ => row Q3.fl 32 s_.2.2.2.1 s_.2.2.1 s_.2.2.2.2.1 s_.1 :: pc G [i6 p, .slice A0_1 D.length c0_1, .slice s_.2.2.2.1 s_.2.2.1 s_.2.2.2.2.1, .slice none 0 0] 26 :: optb Q13.ow 72 s_.2.2.2.2.2 s_.2.1 :: T1 :: Fr) (fun s_ => p7 (.inl (s_.1, s_.2.1)) = some r ∧ s_.1.length = s_.2.2.1) (fun a w e hs => ⟨e.sub ⟨rfl, rfl, rfl, rfl, rfl, rfl, trivial⟩, (by exact hs)⟩) ?_ (fun q0 => ?_)
     ·rintro ⟨a9, V, q1, c4, c5, b3⟩ ⟨j, q2⟩; obtain rfl : a9.length = q1 := q2; have j := (p8 _).symm.trans j
      ·refine At.ibx ?_; refine At.thn (At.seq (sR 1 rfl (nT ?_))); refine At.block ?_; obtain ⟨q3, q4, C3, j⟩ := bjoin j; obtain ⟨e6, e7, q5⟩ := bsome j; clear j; unfold Q12.l1 at e7; obtain ⟨e8, c6⟩ := Q19.1 e7; clear e7; refine At.nilGrow Q4.ow 35 ?_; let T2 : HProp := row Q3.fl 32 c4 a9.length c5 a9; let T3 : HProp := optb Q13.ow 72 b3 V; refine At.loopJ (X := (List Q4) × Int × Nat × (Option Addr) × Nat) (Y := (List Q4) × Nat × (Option Addr) × Nat) (e0 := 6) (fun s_ => [(1, .slice A1 a1.length c1), (2, bp O), (6, optp b3), (7, i6 p), (8, bp G), (12, i6 s_.2.1)]) (fun s_ => grow Q4.ow 35 s_.2.2.2.1 s_.2.2.1 s_.2.2.2.2 s_.1 :: T2 :: pc G [i6 p, .slice A0_1 D.length c0_1, .slice c4 a9.length c5, .slice s_.2.2.2.1 s_.2.2.1 s_.2.2.2.2] 26 :: T3 :: T1 :: Fr) (fun m_ => fun s_ => iterN (fun t_ : (List Q4) × Int => Q12.l1b p u t_.1 t_.2) m_ (s_.1, s_.2.1) = some e6 ∧ s_.1.length = s_.2.2.1) e8 (([] : List Q4), 0, 0, none, 0) ⟨c6, rfl⟩ (fun s_ => [(1, .slice A1 a1.length c1), (6, optp b3), (7, i6 p), (8, bp G)]) (fun s_ => grow Q4.ow 35 s_.2.2.1 s_.2.1 s_.2.2.2 s_.1 :: T2 :: pc G [i6 p, .slice A0_1 D.length c0_1, .slice c4 a9.length c5, .slice s_.2.2.1 s_.2.1 s_.2.2.2] 26 :: T3 :: T1 :: Fr) (fun s_ => q3 (.inl s_.1) = some r ∧ s_.1.length = s_.2.1) (fun a w e hs => ⟨e.sub ⟨rfl, rfl, rfl, rfl, rfl, rfl, trivial⟩, (by exact hs)⟩) ?_ (fun q6 => ?_)
       ·rintro ⟨m0, q7, q8, q9⟩ ⟨j, r0⟩; obtain rfl : m0.length = q7 := r0; have j := (q4 _).symm.trans j
        ·refine At.ibx ?_; refine At.thn (At.seq (At.region (At.y (Y.load rfl rfl (.s (.s .z)) rfl rfl rfl) rfl rfl rfl ?_))); refine At.freeze (.s .z) fun C4 r1 r2 r3 e9 f0 => ?_; refine At.freezeGrow .z fun C5 r4 r5 r6 d2 f7 => ?_; obtain ⟨a0, r7, j⟩ := bbind j; refine At.call rfl Q17.callee rfl rfl rfl (Q17.spec (RdS.mono (e9.trans d2) hr0_1) rfl hc0_1 (RdS.mono d2 r1) r2 r3 r4 r5 r6 r7) ?_; rintro _ _ ⟨C6, rfl, rfl⟩; refine At.run 1 rfl (nT (At.seq (sR 1 rfl ?_))); refine At.y (Y.eqOpt .z rfl rfl rfl rfl) rfl rfl rfl ?_; refine nT ?_; rcases bite j with ⟨d3, j⟩ | ⟨d3, j⟩
         ··refine At.condT rfl d3 ?_
           refine sR 1 rfl (nT (At.ret (At.thr ?_))); refine At.thaw f7 ?_; refine At.thaw f0 ?_; refine At.drop .z (At.drop .z (At.drop .z (At.drop .z (At.drop .z (At.drop .z ?_))))); cases bret j; exact At.res (.inl rfl) rfl rfl ⟨rfl, rfl⟩
         ··refine At.condF rfl (bn d3) ?_
           refine At.skip (At.thn (sR 2 rfl ?_)); obtain ⟨r8, j⟩ := bnone j; refine At.optOpen (.s (.s .z)) r8 (fun r9 s0 C7 => ?_); have s1 := j; subst s0; have j := s1; refine At.ownPair (T := Ow.fl (Fl.int .i64)) (U := ((Ow.mp Fl.bs.ov Q2.fl.av).pair (Ow.mp Q7.fl.av Q2.fl.av))) (x := ((V.getD default).states, (V.getD default).holds, (V.getD default).next)) (.s .z) ?_; rintro C8 C9 rfl; refine At.ownFl (F := (Fl.int .i64)) (x := (V.getD default).states) .z ?_; rintro rfl; refine At.ownPair (T := Ow.mp Fl.bs.ov Q2.fl.av) (U := (Ow.mp Q7.fl.av Q2.fl.av)) (x := ((V.getD default).holds, (V.getD default).next)) .z ?_; rintro D0 D1 rfl; refine At.ownMp (kv := Fl.bs.ov) (vv := Q2.fl.av) (kvs := (V.getD default).holds) .z ?_; rintro m1 rfl; refine At.ownMp (kv := Q7.fl.av) (vv := Q2.fl.av) (kvs := (V.getD default).next) (.s .z) ?_; rintro m2 rfl; refine At.f1 (At.f2 ?_); obtain ⟨a5, s2, j⟩ := bbind j; refine At.call rfl Q65.callee rfl rfl rfl (Q65.spec (RdS.mono (e9.trans d2) hr1) rfl hc1 s2) ?_; rintro _ _ ⟨rfl, rfl⟩; refine At.run 3 rfl ?_; refine At.alloc rfl rfl rfl (fun f8 => ?_); refine At.store rfl rfl rfl rfl .z rfl rfl rfl (.c (.c (.c (.c .n)))) ?_; refine At.run 1 rfl (nT (sR 2 rfl ?_)); refine At.optOpen (.s (.s (.s (.s .z)))) (bn d3) (fun s3 s4 D2 => ?_); have s5 := j; subst s4; have j := s5; refine At.ownPair (T := Ow.fl (Fl.int .i64)) (U := ((Ow.mp Fl.bs.ov Q2.fl.av).pair (Ow.mp Q7.fl.av Q2.fl.av))) (x := ((a0.getD default).states, (a0.getD default).holds, (a0.getD default).next)) (.s .z) ?_; rintro D3 D4 rfl; refine At.ownFl (F := (Fl.int .i64)) (x := (a0.getD default).states) .z ?_; rintro rfl; refine At.ownPair (T := Ow.mp Fl.bs.ov Q2.fl.av) (U := (Ow.mp Q7.fl.av Q2.fl.av)) (x := ((a0.getD default).holds, (a0.getD default).next)) .z ?_; rintro D5 D6 rfl; refine At.ownMp (kv := Fl.bs.ov) (vv := Q2.fl.av) (kvs := (a0.getD default).holds) .z ?_; rintro m3 rfl; refine At.ownMp (kv := Q7.fl.av) (vv := Q2.fl.av) (kvs := (a0.getD default).next) (.s .z) ?_; rintro m4 rfl; refine At.f1 (At.f2 ?_); obtain ⟨a6, s6, j⟩ := bbind j; refine At.call rfl Q65.callee rfl rfl rfl (Q65.spec (RdS.mono (e9.trans d2) hr1) rfl hc1 s6) ?_; rintro _ _ ⟨rfl, rfl⟩; refine At.run 3 rfl ?_; refine At.alloc rfl rfl rfl (fun f9 => ?_); refine At.store rfl rfl rfl rfl .z rfl rfl rfl (.c (.c (.c (.c .n)))) ?_; refine At.run 1 rfl (nT (At.seq (sR 1 rfl (At.nil ?_)))); refine At.thn ?_; refine At.block ?_; obtain ⟨s7, s8, s9, j⟩ := bjoin j; obtain ⟨m5, g0, m6⟩ := bsome j; clear j; unfold Q12.l2 at g0; obtain ⟨g4, c7⟩ := Q19.1 g0; clear g0; let T4 : HProp := pc f9 [.int .u64 a6.2.1, .int .u64 a6.2.2.1, .int .u64 a6.2.2.2.1, .int .u64 a6.2.2.2.2] 38; let T5 : HProp := pc s3 [i6 ((a0.getD default).states), .map (some m3), .map (some m4)] 72; let T6 : HProp := mapo Fl.bs.ov Q2.fl.av m3 ((a0.getD default).holds); let T7 : HProp := mapo Q7.fl.av Q2.fl.av m4 ((a0.getD default).next); let T8 : HProp := pc f8 [.int .u64 a5.2.1, .int .u64 a5.2.2.1, .int .u64 a5.2.2.2.1, .int .u64 a5.2.2.2.2] 38; let T9 : HProp := pc r9 [i6 ((V.getD default).states), .map (some m1), .map (some m2)] 72; let g5 : HProp := mapo Fl.bs.ov Q2.fl.av m1 ((V.getD default).holds); let g6 : HProp := mapo Q7.fl.av Q2.fl.av m2 ((V.getD default).next); let g7 : HProp := pc G [i6 p, .slice A0_1 D.length c0_1, .slice c4 a9.length c5, .slice q8 m0.length q9] 26; refine At.loopJ (X := Int) (Y := Unit) (e0 := 10) (fun b2 => [(7, i6 p), (16, bp f8), (17, i6 a5.1), (18, bp f9), (19, i6 a6.1), (20, i6 b2)]) (fun b2 => T4 :: T5 :: T6 :: T7 :: T8 :: T9 :: g5 :: g6 :: g7 :: T1 :: Fr) (fun m_ => fun b2 => iterN (fun t_ : Int => Q12.l2b p a5 a6 t_) m_ b2 = some m5) g4 0 c7 (fun _ => [(16, bp f8), (17, i6 a5.1), (18, bp f9), (19, i6 a6.1)]) (fun _ => T4 :: T5 :: T6 :: T7 :: T8 :: T9 :: g5 :: g6 :: g7 :: T1 :: Fr) (fun _ => s7 (.inl ()) = some r) (fun a w e hs => ⟨e.sub ⟨rfl, rfl, rfl, rfl, rfl, rfl, trivial⟩, (by exact hs)⟩) ?_ (fun t0 => ?_)
           ·rintro _ j; have j := (s8 _).symm.trans j
            ·refine At.ibx ?_; refine At.thn (At.seq ?_); refine At.quiet (by kernel_rfl) ?_; refine At.Quiet.run 4 rfl ?_; obtain ⟨t1, t3, D7, j⟩ := bjoin j; refine At.Quiet.joinO 6 (X := Bool) (fun c8 => [(170, .bool c8)]) (fun c8 => T4 :: T5 :: T6 :: T7 :: T8 :: T9 :: g5 :: g6 :: g7 :: T1 :: Fr) (fun c8 => t1 (.inl c8) = some r) ?_ (fun m7 => ?_)
             ·rintro c8 j; have j := (t3 _).symm.trans j
              ·refine At.Quiet.run 1 rfl (At.Quiet.nil (At.thn (At.ret ?_))); refine At.thaw f7 ?_; refine At.thaw f0 ?_; refine At.drop .z (At.drop .z (At.drop .z (At.drop .z (At.drop .z (At.drop .z (At.drop .z (At.drop .z ?_))))))); refine At.drop .z (At.drop .z (At.drop .z (At.drop .z ?_))); cases bret j; exact At.res (.inl rfl) rfl rfl ⟨rfl, rfl⟩
             ··rcases bite j with ⟨g8, j⟩ | ⟨g8, j⟩
               ··refine At.Quiet.know (t := 164) rfl (decide_eq_true g8) ?_
                 refine At.Quiet.y (Y.load rfl rfl (.s (.s (.s (.s .z)))) rfl rfl rfl) rfl rfl rfl ?_; obtain ⟨t4, t5, j⟩ := bbind j; refine At.Quiet.call rfl Q96.callee rfl rfl rfl (Q96.spec t5) (fun _ _ h_ => ⟨h_.1, fun _ hs => h_.2 ▸ hs⟩) ?_; refine At.Quiet.y (Y.load rfl rfl .z rfl rfl rfl) rfl rfl rfl ?_; obtain ⟨t6, t7, j⟩ := bbind j; refine At.Quiet.call rfl Q96.callee rfl rfl rfl (Q96.spec t7) (fun _ _ h_ => ⟨h_.1, fun _ hs => h_.2 ▸ hs⟩) ?_; refine At.Quiet.run 2 rfl ?_; exact At.Quiet.of (m7 (decide (t4 = t6)) j) ⟨rfl, trivial⟩
               ··refine At.Quiet.know (t := 164) rfl (decide_eq_false g8) ?_
                 refine At.Quiet.run 6 rfl ?_; exact At.Quiet.of (m7 false j) ⟨rfl, trivial⟩
           ·clear c7 g4; rintro g4 b2 c7; obtain ⟨t8, f_, t9, hf_, j⟩ := bit c7; clear c7; have j : (Q12.l2b p a5 a6 b2).bind _ = some m5 := j; unfold Q12.l2b at j
            ·refine At.seq (sR 3 rfl (nT ?_)); rcases bite j with ⟨g9, j⟩ | ⟨g9, j⟩
             ··refine At.condT rfl (decide_eq_true g9) ?_
               refine At.skip (At.thn (At.seq ?_)); refine At.block ?_; refine At.seq ?_; refine At.quiet (by kernel_rfl) ?_; refine At.Quiet.y (Y.load rfl rfl (.s (.s (.s (.s .z)))) rfl rfl rfl) rfl rfl rfl ?_; refine At.Quiet.run 1 rfl ?_; obtain ⟨D8, u0, j⟩ := bbind j; refine At.Quiet.call rfl Q69.callee rfl rfl rfl (Q69.spec u0) (fun _ _ h_ => ⟨h_.1, fun _ hs => h_.2 ▸ hs⟩) ?_; refine At.Quiet.y (Y.load rfl rfl .z rfl rfl rfl) rfl rfl rfl ?_; refine At.Quiet.run 4 rfl ?_; obtain ⟨D9, u1, j⟩ := bbind j; refine At.Quiet.call rfl Q69.callee rfl rfl rfl (Q69.spec u1) (fun _ _ h_ => ⟨h_.1, fun _ hs => h_.2 ▸ hs⟩) ?_; refine At.Quiet.run 1 rfl (At.Quiet.nil (At.thn ?_)); rcases bite j with ⟨h0, j⟩ | ⟨h0, j⟩
               ··refine At.condF rfl (nf h0) ?_
                 refine At.skip ?_; refine At.ibn ?_; refine At.thn (At.region (At.run 3 rfl (At.nil ?_))); have j := bnx hf_ j; exact fun a w e hs => ⟨t8, (IntKind.i64.wrap (b2 + 1)), t9, j, e.sub ⟨rfl, rfl, rfl, rfl, rfl, rfl, trivial⟩, hs⟩
               ··refine At.condT rfl (nt (bn h0)) ?_
                 refine sR 1 rfl (nT (At.ret ?_)); refine At.ibr ?_; refine At.thr ?_; have j := bupL s9 m6 j; refine At.thr ?_; refine At.ibr ?_; refine At.thr ?_; refine At.thaw f7 ?_; refine At.thaw f0 ?_; refine At.drop .z (At.drop .z (At.drop .z (At.drop .z (At.drop .z (At.drop .z (At.drop .z (At.drop .z ?_))))))); refine At.drop .z (At.drop .z (At.drop .z (At.drop .z ?_))); cases bret j; exact At.res (.inl rfl) rfl rfl ⟨rfl, rfl⟩
             ··refine At.condF rfl (decide_eq_false g9) ?_
               refine At.exit ?_; refine At.the ?_; refine At.the ?_; exact fun a w e hs => t0 () (bdn j m6) a w (e.sub ⟨rfl, rfl, rfl, rfl, trivial⟩) hs
       ·clear c6 e8; rintro e8 ⟨a3, I, u2, h1, h2⟩ ⟨c6, u3⟩; obtain rfl : a3.length = u2 := u3; obtain ⟨u4, f_, u5, hf_, j⟩ := bit c6; clear c6; have j : (Q12.l1b p u a3 I).bind _ = some e6 := j; unfold Q12.l1b at j
        ·refine At.seq (sR 2 rfl ?_); refine At.y (Y.load rfl rfl (.s (.s (.s (.s .z)))) rfl rfl rfl) rfl rfl rfl ?_; refine At.run 2 rfl (nT ?_); rcases bite j with ⟨h3, j⟩ | ⟨h3, j⟩
         ··refine At.condT rfl (decide_eq_true h3) ?_
           refine At.skip (At.thn (At.seq ?_)); refine At.block ?_; refine sR 1 rfl ?_; refine At.y (Y.load rfl rfl (.s (.s (.s (.s .z)))) rfl rfl rfl) rfl rfl rfl ?_; refine At.run 1 rfl ?_; obtain ⟨L, j⟩ := bnone j; refine At.y (Y.ixRd hr0_3 rfl rfl rfl rfl rfl rfl rfl L.1 L.2) rfl rfl rfl ?_; refine At.y (Y.fa (RdS.some_ hr0_3 rfl L.1 L.2) rfl rfl rfl rfl rfl rfl) rfl rfl rfl ?_; refine At.y (Y.ldPrj Q4.prj_Name hr0_3 rfl rfl rfl L.1 L.2 rfl rfl) rfl rfl rfl ?_; refine At.y (Y.build (is := [0]) (xo := [.tmp 93]) (vs := [.string ⟨((gt u I).Name).toArray⟩]) (cs := [.string ⟨((gt u I).Name).toArray⟩, .slice none 0 0]) rfl rfl rfl rfl rfl rfl) rfl rfl rfl ?_; refine At.alloc rfl rfl rfl (fun b4 => ?_); refine At.store rfl rfl rfl rfl .z rfl rfl rfl (.c (.c .n)) ?_; refine nT (At.seq (sR 1 rfl ?_)); refine At.y (Y.load rfl rfl (.s (.s (.s (.s (.s .z))))) rfl rfl rfl) rfl rfl rfl ?_; refine At.run 1 rfl (At.y (Y.ixRd hr0_3 rfl rfl rfl rfl rfl rfl rfl L.1 L.2) rfl rfl rfl ?_); refine At.y (Y.fa (RdS.some_ hr0_3 rfl L.1 L.2) rfl rfl rfl rfl rfl rfl) rfl rfl rfl ?_; obtain ⟨E0, E1, E2, E3, u6⟩ := RdS.prjSl (P := Tryz.prog) Q4.prj_States hr0_3 (Sub.refl _) rfl L.1 L.2; refine At.y (u6 rfl rfl rfl rfl) rfl rfl rfl ?_; refine At.run 3 rfl (nT ?_); refine At.block ?_; obtain ⟨u7, u8, E4, j⟩ := bjoin j; obtain ⟨m8, h4, u9⟩ := bsome j; clear j; unfold Q12.l3 at h4; obtain ⟨h5, c9⟩ := Q19.1 h4; clear h4; refine At.nilRow (Fl.int .i64) 3 ?_; let d4 : HProp := grow Q4.ow 35 h1 a3.length h2 a3; let d5 : HProp := pc G [i6 p, .slice A0_1 D.length c0_1, .slice c4 a9.length c5, .slice h1 a3.length h2] 26; refine At.loopJ (X := (List Int) × Int × Nat × (Option Addr) × Nat) (Y := (List Int) × Nat × (Option Addr) × Nat) (e0 := 8) (fun s_ => [(1, .slice A1 a1.length c1), (2, bp O), (6, optp b3), (7, i6 p), (8, bp G), (12, i6 I), (13, bp b4), (14, i6 s_.2.1)]) (fun s_ => row (Fl.int .i64) 3 s_.2.2.2.1 s_.2.2.1 s_.2.2.2.2 s_.1 :: pc b4 [.string ⟨((gt u I).Name).toArray⟩, .slice s_.2.2.2.1 s_.2.2.1 s_.2.2.2.2] 35 :: d4 :: T2 :: d5 :: T3 :: T1 :: Fr) (fun m_ => fun s_ => iterN (fun t_ : (List Int) × Int => Q12.l3b p u I t_.1 t_.2) m_ (s_.1, s_.2.1) = some m8 ∧ s_.1.length = s_.2.2.1) h5 (([] : List Int), IntKind.i64.wrap (((gt u I).States.length : Int) - 1), 0, none, 0) ⟨c9, rfl⟩ (fun s_ => [(1, .slice A1 a1.length c1), (2, bp O), (6, optp b3), (7, i6 p), (8, bp G), (12, i6 I), (13, bp b4)]) (fun s_ => row (Fl.int .i64) 3 s_.2.2.1 s_.2.1 s_.2.2.2 s_.1 :: pc b4 [.string ⟨((gt u I).Name).toArray⟩, .slice s_.2.2.1 s_.2.1 s_.2.2.2] 35 :: d4 :: T2 :: d5 :: T3 :: T1 :: Fr) (fun s_ => u7 (.inl s_.1) = some e6 ∧ s_.1.length = s_.2.1) (fun a w e hs => ⟨e.sub ⟨rfl, rfl, rfl, rfl, rfl, rfl, rfl, rfl, trivial⟩, (by exact hs)⟩) ?_ (fun v0 => ?_)
           ·rintro ⟨d6, v1, v2, v3⟩ ⟨j, v4⟩; obtain rfl : d6.length = v1 := v4; have j := (u8 _).symm.trans j
            ·refine At.ibx ?_; refine At.thn (At.region (At.run 1 rfl ?_)); refine At.y (Y.load rfl rfl (.s (.s (.s (.s .z)))) rfl rfl rfl) rfl rfl rfl ?_; refine At.y (Y.load rfl rfl (.s .z) rfl rfl rfl) rfl rfl rfl ?_; refine At.lit rfl (xo := [.tmp 126]) (ys := ([rawOf (Q4.ow).sz [.string ⟨((gt u I).Name).toArray⟩, .slice v2 d6.length v3] rfl rfl] : List (Raw (Q4.ow).sz))) (Fl.raw (Q4.ow).sz (Q4.ow).pos) rfl rfl rfl rfl rfl rfl rfl rfl rfl rfl rfl (fun E5 E6 => ?_); obtain ⟨v5, j⟩ := bnone j; refine At.f1 (At.f1 (At.f3 ?_)); refine At.appendGrow (T := Q4.ow) rfl rfl Q4.ent rfl rfl rfl rfl rfl rfl rfl rfl rfl v5 (by decide) rfl (fun v6 v7 => ?_); refine At.run 1 rfl ?_; refine At.store rfl rfl rfl rfl (.s (.s (.s .z))) rfl rfl rfl (.s (.s (.s (.c .n)))) ?_; refine At.nil ?_; refine At.ibn ?_; refine At.thn (At.region (At.run 3 rfl (At.nil (At.drop (.s (.s .z)) (At.f4 (At.f4 (At.f2 ?_))))))); refine At.f4 (At.f4 ?_); have j := bnx hf_ j; exact fun a w e hs => ⟨u4, ((a3 ++ [(⟨((gt u I).Name), d6⟩ : Q4)]), IntKind.i64.wrap (I + 1), (a3 ++ [(⟨((gt u I).Name), d6⟩ : Q4)]).length, v6, v7), u5, ⟨j, rfl⟩, e.sub ⟨rfl, rfl, rfl, rfl, rfl, rfl, trivial⟩, hs⟩
           ·clear c9 h5; rintro h5 ⟨a4, a2, v8, v9, w0⟩ ⟨c9, w1⟩; obtain rfl : a4.length = v8 := w1; obtain ⟨w2, f_, w3, hf_, j⟩ := bit c9; clear c9; have j : (Q12.l3b p u I a4 a2).bind _ = some m8 := j; unfold Q12.l3b at j
            ·refine At.seq (sR 2 rfl (nT ?_)); rcases bite j with ⟨h6, j⟩ | ⟨h6, j⟩
             ··refine At.condT rfl (decide_eq_true h6) ?_
               refine At.skip (At.thn (At.seq ?_)); refine At.block ?_; refine At.held [d4, T2, d5, T3, T1] 18 rfl ?_; refine At.H.pw 0 rfl rfl rfl rfl rfl (.c (.s (.s .z)) (.c (.s (.s .z)) (.c (.s (.s .z)) (.c (.s (.s .z)) (.c (.s (.s .z)) .n))))) ?_; refine At.H.pw 2 rfl rfl rfl rfl rfl (.c (.s (.s .z)) (.c (.s (.s .z)) (.c (.s (.s .z)) (.c (.s (.s .z)) (.c (.s (.s .z)) .n))))) ?_; refine At.H.pw 3 rfl rfl rfl rfl rfl (.c (.s (.s .z)) (.c (.s (.s .z)) (.c (.s (.s .z)) (.c (.s (.s .z)) (.c (.s (.s .z)) .n))))) ?_; refine At.H.pw 4 rfl rfl rfl rfl rfl (.c (.s (.s .z)) (.c (.s (.s .z)) (.c (.s (.s .z)) (.c (.s (.s .z)) (.c (.s (.s .z)) .n))))) ?_; refine At.H.tw 5 rfl (Y.load rfl rfl (.s (.s (.s (.s .z)))) rfl rfl rfl) rfl rfl rfl (.c (.s (.s .z)) (.c (.s (.s .z)) (.c (.s (.s .z)) (.c (.s (.s .z)) (.c (.s (.s .z)) .n))))) ?_; refine At.H.pw 6 rfl rfl rfl rfl rfl (.c (.s (.s .z)) (.c (.s (.s .z)) (.c (.s (.s .z)) (.c (.s (.s .z)) (.c (.s (.s .z)) .n))))) ?_; refine At.H.tw 7 rfl (Y.ixRd hr0_3 rfl rfl rfl rfl rfl rfl rfl L.1 L.2) rfl rfl rfl (.c (.s (.s .z)) (.c (.s (.s .z)) (.c (.s (.s .z)) (.c (.s (.s .z)) (.c (.s (.s .z)) .n))))) ?_; refine At.H.tw 8 rfl (Y.fa (RdS.some_ hr0_3 rfl L.1 L.2) rfl rfl rfl rfl rfl rfl) rfl rfl rfl (.c (.s (.s .z)) (.c (.s (.s .z)) (.c (.s (.s .z)) (.c (.s (.s .z)) (.c (.s (.s .z)) .n))))) ?_; obtain ⟨E7, E8, E9, m9, w4⟩ := RdS.prjSl (P := Tryz.prog) Q4.prj_States hr0_3 (Sub.refl _) rfl L.1 L.2; refine At.H.tw 9 rfl (w4 rfl rfl rfl rfl) rfl rfl rfl (.c (.s (.s .z)) (.c (.s (.s .z)) (.c (.s (.s .z)) (.c (.s (.s .z)) (.c (.s (.s .z)) .n))))) ?_; refine At.H.pw 10 rfl rfl rfl rfl rfl (.c (.s (.s .z)) (.c (.s (.s .z)) (.c (.s (.s .z)) (.c (.s (.s .z)) (.c (.s (.s .z)) .n))))) ?_; obtain ⟨d7, j⟩ := bnone j; refine At.H.tw 11 rfl (Y.ixRd m9 rfl rfl rfl rfl rfl rfl rfl d7.1 d7.2) rfl rfl rfl (.c (.s (.s .z)) (.c (.s (.s .z)) (.c (.s (.s .z)) (.c (.s (.s .z)) (.c (.s (.s .z)) .n))))) ?_; refine At.H.tw 12 rfl (Y.ldFl m9 rfl (q := 0) rfl rfl d7.1 d7.2 rfl rfl rfl) rfl rfl rfl (.c (.s (.s .z)) (.c (.s (.s .z)) (.c (.s (.s .z)) (.c (.s (.s .z)) (.c (.s (.s .z)) .n))))) ?_; refine At.H.pw 13 rfl rfl rfl rfl rfl (.c (.s (.s .z)) (.c (.s (.s .z)) (.c (.s (.s .z)) (.c (.s (.s .z)) (.c (.s (.s .z)) .n))))) ?_; obtain ⟨n2, j⟩ := bnone j; refine At.H.joinK (X := (Option Addr) × Nat) (fun s_ => [(1, .slice A1 a1.length c1), (2, bp O), (6, optp b3), (7, i6 p), (8, bp G), (12, i6 I), (13, bp b4), (14, i6 a2)]) (fun s_ => pc b4 [.string ⟨((gt u I).Name).toArray⟩, .slice s_.1 ((a4 ++ ([(IntKind.i64.wrap (IntKind.i64.wrap (p - 1) - (gt ((gt u I).States) a2)))] : List Int)).length) s_.2] 35 :: row (Fl.int .i64) 3 s_.1 ((a4 ++ ([(IntKind.i64.wrap (IntKind.i64.wrap (p - 1) - (gt ((gt u I).States) a2)))] : List Int)).length) s_.2 (a4 ++ ([(IntKind.i64.wrap (IntKind.i64.wrap (p - 1) - (gt ((gt u I).States) a2)))] : List Int)) :: d4 :: T2 :: d5 :: T3 :: T1 :: Fr) (fun s_ => True) ?_ (fun n3 => ?_)
               ·rintro ⟨w5, w6⟩ -
                ·refine At.ibn ?_; refine At.thn (At.region (At.run 3 rfl (At.nil (At.f6 (At.f6 (At.f6 (At.f6 ?_))))))); refine At.f6 (At.f5 (At.f6 ?_)); have j := bnx hf_ j; exact fun a w e hs => ⟨w2, ((a4 ++ ([(IntKind.i64.wrap (IntKind.i64.wrap (p - 1) - (gt ((gt u I).States) a2)))] : List Int)), IntKind.i64.wrap (a2 - 1), (a4 ++ ([(IntKind.i64.wrap (IntKind.i64.wrap (p - 1) - (gt ((gt u I).States) a2)))] : List Int)).length, w5, w6), w3, ⟨j, rfl⟩, e.sub ⟨rfl, rfl, rfl, rfl, rfl, rfl, rfl, rfl, trivial⟩, hs⟩
               ·refine At.H.al [1, 14] (Q6 ?_ (Q6 ?_ Q8))
                ··refine At.HO.op rfl ?_
                  refine At.y (Y.load rfl rfl (.s .z) rfl rfl rfl) rfl rfl rfl ?_; refine At.HO.back (.c (.s (.s .z)) (.c (.s (.s .z)) (.c (.s (.s .z)) (.c (.s (.s .z)) (.c (.s (.s .z)) .n))))) ?_; refine At.H.al [14] (Q6 ?_ Q8)
                  ··refine At.HO.op rfl ?_
                    refine At.lit rfl (xo := [.tmp 120]) (ys := ([(IntKind.i64.wrap (IntKind.i64.wrap (p - 1) - (gt ((gt u I).States) a2)))] : List Int)) (Fl.int .i64) rfl rfl rfl rfl rfl rfl rfl rfl rfl rfl rfl (fun F0 F1 => ?_); refine At.HO.back (.c (.s (.s (.s .z))) (.c (.s (.s (.s .z))) (.c (.s (.s (.s .z))) (.c (.s (.s (.s .z))) (.c (.s (.s (.s .z))) .n))))) ?_; refine At.H.al [15] (Q6 ?_ Q8)
                    ··refine At.HO.op rfl ?_
                      refine At.append rfl (.s .z) (Src.own .z (by simp)) rfl rfl rfl rfl rfl rfl rfl rfl n2 (by decide) rfl (fun w7 w8 => ?_); refine At.drop (.s .z) ?_; refine At.HO.back (.c (.s (.s .z)) (.c (.s (.s .z)) (.c (.s (.s .z)) (.c (.s (.s .z)) (.c (.s (.s .z)) .n))))) ?_; refine At.H.pw 16 rfl rfl rfl rfl rfl (.c (.s (.s .z)) (.c (.s (.s .z)) (.c (.s (.s .z)) (.c (.s (.s .z)) (.c (.s (.s .z)) .n))))) ?_; refine At.H.al [17] (Q6 ?_ Q8)
                      ··refine At.HO.op rfl ?_
                        refine At.store rfl rfl rfl rfl (.s .z) rfl rfl rfl (.s (.c .n)) ?_; refine At.HO.back (.c (.s (.s .z)) (.c (.s (.s .z)) (.c (.s (.s .z)) (.c (.s (.s .z)) (.c (.s (.s .z)) .n))))) ?_; refine At.H.done (by kernel_rfl) ?_; exact At.of (n3 (w7, w8) trivial) ⟨rfl, rfl, rfl, rfl, rfl, rfl, rfl, rfl, trivial⟩
                ··refine At.HO.op rfl ?_
                  refine At.lit rfl (xo := [.tmp 120]) (ys := ([(IntKind.i64.wrap (IntKind.i64.wrap (p - 1) - (gt ((gt u I).States) a2)))] : List Int)) (Fl.int .i64) rfl rfl rfl rfl rfl rfl rfl rfl rfl rfl rfl (fun F2 F3 => ?_); refine At.HO.back (.c (.s (.s (.s .z))) (.c (.s (.s (.s .z))) (.c (.s (.s (.s .z))) (.c (.s (.s (.s .z))) (.c (.s (.s (.s .z))) .n))))) ?_; refine At.H.al [1] (Q6 ?_ Q8)
                  ··refine At.HO.op rfl ?_
                    refine At.y (Y.load rfl rfl (.s (.s .z)) rfl rfl rfl) rfl rfl rfl ?_; refine At.HO.back (.c (.s (.s (.s .z))) (.c (.s (.s (.s .z))) (.c (.s (.s (.s .z))) (.c (.s (.s (.s .z))) (.c (.s (.s (.s .z))) .n))))) ?_; refine At.H.al [15] (Q6 ?_ Q8)
                    ··refine At.HO.op rfl ?_
                      refine At.append rfl (.s .z) (Src.own .z (by simp)) rfl rfl rfl rfl rfl rfl rfl rfl n2 (by decide) rfl (fun w9 x0 => ?_); refine At.drop (.s .z) ?_; refine At.HO.back (.c (.s (.s .z)) (.c (.s (.s .z)) (.c (.s (.s .z)) (.c (.s (.s .z)) (.c (.s (.s .z)) .n))))) ?_; refine At.H.pw 16 rfl rfl rfl rfl rfl (.c (.s (.s .z)) (.c (.s (.s .z)) (.c (.s (.s .z)) (.c (.s (.s .z)) (.c (.s (.s .z)) .n))))) ?_; refine At.H.al [17] (Q6 ?_ Q8)
                      ··refine At.HO.op rfl ?_
                        refine At.store rfl rfl rfl rfl (.s .z) rfl rfl rfl (.s (.c .n)) ?_; refine At.HO.back (.c (.s (.s .z)) (.c (.s (.s .z)) (.c (.s (.s .z)) (.c (.s (.s .z)) (.c (.s (.s .z)) .n))))) ?_; refine At.H.done (by kernel_rfl) ?_; exact At.of (n3 (w9, x0) trivial) ⟨rfl, rfl, rfl, rfl, rfl, rfl, rfl, rfl, trivial⟩
             ··refine At.condF rfl (decide_eq_false h6) ?_
               refine At.exit ?_; refine At.the ?_; refine At.the ?_; exact fun a w e hs => v0 (a4, a4.length, v9, w0) ⟨(bdn j u9), rfl⟩ a w (e.sub ⟨rfl, rfl, rfl, rfl, rfl, rfl, rfl, trivial⟩) hs
         ··refine At.condF rfl (decide_eq_false h3) ?_
           refine At.exit ?_; refine At.the ?_; refine At.the ?_; exact fun a w e hs => q6 (a3, a3.length, h1, h2) ⟨(bdn j q5), rfl⟩ a w (e.sub ⟨rfl, rfl, rfl, rfl, trivial⟩) hs
     ·clear b9 e5; rintro e5 ⟨b5, h7, M, x1, n4, n5, n6⟩ ⟨b9, x2⟩; obtain rfl : b5.length = x1 := x2; obtain ⟨x3, f_, x4, hf_, j⟩ := bit b9; clear b9; have j : (Q12.l0b p D b5 h7 M).bind _ = some e3 := j; unfold Q12.l0b at j
      ·refine At.seq (sR 2 rfl (nT ?_)); rcases bite j with ⟨h8, j⟩ | ⟨h8, j⟩
       ··refine At.condT rfl (decide_eq_true h8) ?_
         refine At.skip (At.thn (At.seq ?_)); refine At.block ?_; refine sR 1 rfl (nT ?_); refine At.block ?_; obtain ⟨x5, x6, F4, j⟩ := bjoin j; obtain ⟨h9, k0, x7⟩ := bsome j; clear j; unfold Q12.l4 at k0; obtain ⟨k1, d0⟩ := Q19.1 k0; clear k0; refine At.loopJ (X := (List Q3) × (Option Q13) × Int × Nat × (Option Addr) × Nat × (Option Nat)) (Y := (List Q3) × (Option Q13) × Nat × (Option Addr) × Nat × (Option Nat)) (e0 := 2) (fun s_ => [(1, .slice A1 a1.length c1), (2, bp O), (6, optp s_.2.2.2.2.2.2), (7, i6 p), (8, bp G), (9, i6 M), (10, i6 s_.2.2.1)]) (fun s_ => row Q3.fl 32 s_.2.2.2.2.1 s_.2.2.2.1 s_.2.2.2.2.2.1 s_.1 :: pc G [i6 p, .slice A0_1 D.length c0_1, .slice s_.2.2.2.2.1 s_.2.2.2.1 s_.2.2.2.2.2.1, .slice none 0 0] 26 :: optb Q13.ow 72 s_.2.2.2.2.2.2 s_.2.1 :: T1 :: Fr) (fun m_ => fun s_ => iterN (fun t_ : (List Q3) × (Option Q13) × Int => Q12.l4b p D M t_.1 t_.2.1 t_.2.2) m_ (s_.1, s_.2.1, s_.2.2.1) = some h9 ∧ s_.1.length = s_.2.2.2.1) k1 (b5, h7, 0, b5.length, n4, n5, n6) ⟨d0, rfl⟩ (fun s_ => [(1, .slice A1 a1.length c1), (2, bp O), (6, optp s_.2.2.2.2.2), (7, i6 p), (8, bp G), (9, i6 M)]) (fun s_ => row Q3.fl 32 s_.2.2.2.1 s_.2.2.1 s_.2.2.2.2.1 s_.1 :: pc G [i6 p, .slice A0_1 D.length c0_1, .slice s_.2.2.2.1 s_.2.2.1 s_.2.2.2.2.1, .slice none 0 0] 26 :: optb Q13.ow 72 s_.2.2.2.2.2 s_.2.1 :: T1 :: Fr) (fun s_ => x5 (.inl (s_.1, s_.2.1)) = some e3 ∧ s_.1.length = s_.2.2.1) (fun a w e hs => ⟨e.sub ⟨rfl, rfl, rfl, rfl, rfl, rfl, rfl, trivial⟩, (by exact hs)⟩) ?_ (fun x8 => ?_)
         ·rintro ⟨k2, x9, y0, y1, y2, y3⟩ ⟨j, y4⟩; obtain rfl : k2.length = y0 := y4; have j := (x6 _).symm.trans j
          ·refine At.ibx ?_; refine At.ibn ?_; refine At.thn (At.region (At.run 3 rfl (At.nil ?_))); have j := bnx hf_ j; exact fun a w e hs => ⟨x3, (k2, x9, IntKind.i64.wrap (M - 1), k2.length, y1, y2, y3), x4, ⟨j, rfl⟩, e.sub ⟨rfl, rfl, rfl, rfl, rfl, rfl, trivial⟩, hs⟩
         ·clear d0 k1; rintro k1 ⟨b6, k3, Z, y5, n7, n8, n9⟩ ⟨d0, y6⟩; obtain rfl : b6.length = y5 := y6; obtain ⟨y7, f_, y8, hf_, j⟩ := bit d0; clear d0; have j : (Q12.l4b p D M b6 k3 Z).bind _ = some h9 := j; unfold Q12.l4b at j
          ·refine At.seq (sR 2 rfl (At.y (Y.load rfl rfl (.s (.s (.s .z))) rfl rfl rfl) rfl rfl rfl (At.run 2 rfl (nT ?_)))); rcases bite j with ⟨k4, j⟩ | ⟨k4, j⟩
           ··refine At.condT rfl (decide_eq_true k4) ?_
             refine At.skip (At.thn (At.seq ?_)); refine At.block ?_; refine sR 3 rfl (nT ?_); refine At.block ?_; obtain ⟨y9, z0, F5, j⟩ := bjoin j; obtain ⟨k5, k6, z1⟩ := bsome j; clear j; unfold Q12.l5 at k6; obtain ⟨k7, d1⟩ := Q19.1 k6; clear k6; refine At.loopJ (X := (List Q3) × (Option Q13) × Int × Nat × (Option Addr) × Nat × (Option Nat)) (Y := (List Q3) × (Option Q13) × Nat × (Option Addr) × Nat × (Option Nat)) (e0 := 4) (fun s_ => [(1, .slice A1 a1.length c1), (2, bp O), (6, optp s_.2.2.2.2.2.2), (7, i6 p), (8, bp G), (9, i6 M), (10, i6 Z), (11, i6 s_.2.2.1)]) (fun s_ => row Q3.fl 32 s_.2.2.2.2.1 s_.2.2.2.1 s_.2.2.2.2.2.1 s_.1 :: pc G [i6 p, .slice A0_1 D.length c0_1, .slice s_.2.2.2.2.1 s_.2.2.2.1 s_.2.2.2.2.2.1, .slice none 0 0] 26 :: optb Q13.ow 72 s_.2.2.2.2.2.2 s_.2.1 :: T1 :: Fr) (fun m_ => fun s_ => iterN (fun t_ : (List Q3) × (Option Q13) × Int => Q12.l5b p D M Z t_.1 t_.2.1 t_.2.2) m_ (s_.1, s_.2.1, s_.2.2.1) = some k5 ∧ s_.1.length = s_.2.2.2.1) k7 (b6, k3, IntKind.i64.wrap (p - 1), b6.length, n7, n8, n9) ⟨d1, rfl⟩ (fun s_ => [(1, .slice A1 a1.length c1), (2, bp O), (6, optp s_.2.2.2.2.2), (7, i6 p), (8, bp G), (9, i6 M), (10, i6 Z)]) (fun s_ => row Q3.fl 32 s_.2.2.2.1 s_.2.2.1 s_.2.2.2.2.1 s_.1 :: pc G [i6 p, .slice A0_1 D.length c0_1, .slice s_.2.2.2.1 s_.2.2.1 s_.2.2.2.2.1, .slice none 0 0] 26 :: optb Q13.ow 72 s_.2.2.2.2.2 s_.2.1 :: T1 :: Fr) (fun s_ => y9 (.inl (s_.1, s_.2.1)) = some h9 ∧ s_.1.length = s_.2.2.1) (fun a w e hs => ⟨e.sub ⟨rfl, rfl, rfl, rfl, rfl, rfl, rfl, rfl, trivial⟩, (by exact hs)⟩) ?_ (fun z2 => ?_)
             ·rintro ⟨k8, z3, z4, z5, z6, z7⟩ ⟨j, z8⟩; obtain rfl : k8.length = z4 := z8; have j := (z0 _).symm.trans j
              ·refine At.ibx ?_; refine At.ibn ?_; refine At.thn (At.region (At.run 3 rfl (At.nil ?_))); have j := bnx hf_ j; exact fun a w e hs => ⟨y7, (k8, z3, IntKind.i64.wrap (Z + 1), k8.length, z5, z6, z7), y8, ⟨j, rfl⟩, e.sub ⟨rfl, rfl, rfl, rfl, rfl, rfl, rfl, trivial⟩, hs⟩
             ·clear d1 k7; rintro k7 ⟨a7, J, a8, z9, o0, o7, A2⟩ ⟨d1, A3⟩; obtain rfl : a7.length = z9 := A3; obtain ⟨A4, f_, A5, hf_, j⟩ := bit d1; clear d1; have j : (Q12.l5b p D M Z a7 J a8).bind _ = some k5 := j; unfold Q12.l5b at j
              ·refine At.seq (sR 2 rfl (nT ?_)); rcases bite j with ⟨k9, j⟩ | ⟨k9, j⟩
               ··refine At.condT rfl (decide_eq_true k9) ?_
                 refine At.skip (At.thn (At.seq ?_)); obtain ⟨A6, A7, F6, j⟩ := bjoin j; refine At.join (X := (List Q3) × Nat × (Option Addr) × Nat × Nat × Nat × Nat) (fun s_ => [(1, .slice A1 a1.length c1), (2, bp O), (6, .pointer (some ⟨s_.2.2.2.2.1, 0, none⟩)), (7, i6 p), (8, bp G), (9, i6 M), (10, i6 Z), (11, i6 a8)]) (fun s_ => pc G [i6 p, .slice A0_1 D.length c0_1, .slice s_.2.2.1 s_.2.1 s_.2.2.2.1, .slice none 0 0] 26 :: row Q3.fl 32 s_.2.2.1 s_.2.1 s_.2.2.2.1 s_.1 :: pt s_.2.2.2.2.1 (.cells [i6 ((J.getD default).states), .map (some s_.2.2.2.2.2.1), .map (some s_.2.2.2.2.2.2)].toArray 72) :: mapo Fl.bs.ov Q2.fl.av s_.2.2.2.2.2.1 ((J.getD default).holds) :: mapo Q7.fl.av Q2.fl.av s_.2.2.2.2.2.2 ((J.getD default).next) :: T1 :: Fr) (fun s_ => A6 (.inl s_.1) = some k5 ∧ s_.1.length = s_.2.1) ?_ (fun o8 => ?_)
                 ·rintro ⟨l6, A8, A9, B0, B1, F7, F8⟩ ⟨j, B2⟩; obtain rfl : l6.length = A8 := B2; have j := (A7 _).symm.trans j
                  ·refine At.region (At.run 3 rfl (At.nil (At.f4 (At.f4 (At.f4 ?_))))); refine At.optSome (x := (⟨((J.getD default).states), (J.getD default).holds, (J.getD default).next⟩ : Q13)) Q13.ent ?_; refine At.f3 (At.f1 (At.f2 (At.f3 ?_))); have j := bnx hf_ j; exact fun a w e hs => ⟨A4, (l6, (some (⟨((J.getD default).states), (J.getD default).holds, (J.getD default).next⟩ : Q13)), IntKind.i64.wrap (a8 - 1), l6.length, A9, B0, (some B1)), A5, ⟨j, rfl⟩, e.sub ⟨rfl, rfl, rfl, rfl, rfl, rfl, rfl, rfl, trivial⟩, hs⟩
                 ··refine At.block ?_
                   refine sR 3 rfl (At.y (Y.load rfl rfl (.s (.s (.s .z))) rfl rfl rfl) rfl rfl rfl (At.run 1 rfl ?_)); obtain ⟨d8, j⟩ := bnone j; refine At.y (Y.ixRd hr0_1 rfl rfl rfl rfl rfl rfl rfl d8.1 d8.2) rfl rfl rfl (At.y (Y.ldFl hr0_1 rfl (q := 0) rfl rfl d8.1 d8.2 rfl rfl rfl) rfl rfl rfl ?_); obtain ⟨B3, j⟩ := bnone j; refine At.optOpen (.s (.s .z)) B3 (fun o9 B4 F9 => ?_); have B5 := j; subst B4; have j := B5; refine At.ownPair (T := Ow.fl (Fl.int .i64)) (U := ((Ow.mp Fl.bs.ov Q2.fl.av).pair (Ow.mp Q7.fl.av Q2.fl.av))) (x := ((J.getD default).states, (J.getD default).holds, (J.getD default).next)) (.s .z) ?_; rintro G0 G1 rfl; refine At.ownFl (F := (Fl.int .i64)) (x := (J.getD default).states) .z ?_; rintro rfl; refine At.ownPair (T := Ow.mp Fl.bs.ov Q2.fl.av) (U := (Ow.mp Q7.fl.av Q2.fl.av)) (x := ((J.getD default).holds, (J.getD default).next)) .z ?_; rintro G2 G3 rfl; refine At.ownMp (kv := Fl.bs.ov) (vv := Q2.fl.av) (kvs := (J.getD default).holds) .z ?_; rintro p0 rfl; refine At.ownMp (kv := Q7.fl.av) (vv := Q2.fl.av) (kvs := (J.getD default).next) (.s .z) ?_; rintro p1 rfl; refine At.f1 (At.f2 ?_); obtain ⟨G4, B6, j⟩ := bbind j; refine At.call rfl Q119.callee rfl rfl rfl (Q119.spec B6) ?_; rintro _ _ ⟨rfl, rfl⟩; refine At.run 1 rfl ?_; obtain ⟨G5, B7, j⟩ := bbind j; refine At.call rfl Q69.callee rfl rfl rfl (Q69.spec B7) ?_; rintro _ _ ⟨rfl, rfl⟩; refine nT ?_; rcases bite j with ⟨l7, j⟩ | ⟨l7, j⟩
                   ··refine At.condT rfl l7 ?_
                     refine At.region (At.run 1 rfl ?_); refine At.y (Y.load rfl rfl (.s (.s (.s (.s .z)))) rfl rfl rfl) rfl rfl rfl ?_; refine At.run 9 rfl ?_; refine At.y (Y.build (is := [0, 1, 2]) (xo := [.tmp 71, .tmp 72, .tmp 76]) (vs := [i6 (IntKind.i64.wrap (IntKind.i64.wrap (p - 1) - M)), i6 Z, i6 (IntKind.i64.wrap (IntKind.i64.wrap (p - 1) - a8))]) (cs := [i6 (IntKind.i64.wrap (IntKind.i64.wrap (p - 1) - M)), i6 Z, i6 (IntKind.i64.wrap (IntKind.i64.wrap (p - 1) - a8))]) rfl rfl rfl rfl rfl rfl) rfl rfl rfl ?_; refine At.lit rfl (xo := [.tmp 77]) (ys := ([(⟨IntKind.i64.wrap (IntKind.i64.wrap (p - 1) - M), Z, IntKind.i64.wrap (IntKind.i64.wrap (p - 1) - a8)⟩ : Q3)] : List Q3)) Q3.fl rfl rfl rfl rfl rfl rfl rfl rfl rfl rfl rfl (fun G6 G7 => ?_); obtain ⟨B8, j⟩ := bnone j; refine At.append rfl (.s (.s (.s (.s .z)))) (Src.own .z (by simp)) rfl rfl rfl rfl rfl rfl rfl rfl B8 (by decide) rfl (fun B9 C0 => ?_); refine At.drop (.s .z) (At.run 1 rfl ?_); refine At.store rfl rfl rfl rfl (.s (.s (.s (.s .z)))) rfl rfl rfl (.s (.s (.c .n))) ?_; refine At.nil ?_; refine At.ibn ?_; refine At.thn ?_; exact fun a w e hs => o8 ((a7 ++ ([(⟨IntKind.i64.wrap (IntKind.i64.wrap (p - 1) - M), Z, IntKind.i64.wrap (IntKind.i64.wrap (p - 1) - a8)⟩ : Q3)] : List Q3)), (a7 ++ ([(⟨IntKind.i64.wrap (IntKind.i64.wrap (p - 1) - M), Z, IntKind.i64.wrap (IntKind.i64.wrap (p - 1) - a8)⟩ : Q3)] : List Q3)).length, B9, C0, o9, p0, p1) ⟨j, rfl⟩ a w (e.sub ⟨rfl, rfl, rfl, rfl, rfl, rfl, rfl, rfl, trivial⟩) hs
                   ··refine At.condF rfl (bn l7) ?_
                     refine At.skip ?_; refine At.ibn ?_; refine At.thn (At.f5 (At.f3 (At.f3 (At.f3 (At.f4 (At.f5 ?_)))))); exact fun a w e hs => o8 (a7, a7.length, o0, o7, o9, p0, p1) ⟨j, rfl⟩ a w (e.sub ⟨rfl, rfl, rfl, rfl, rfl, rfl, rfl, rfl, trivial⟩) hs
               ··refine At.condF rfl (decide_eq_false k9) ?_
                 refine At.exit ?_; refine At.the ?_; refine At.the ?_; exact fun a w e hs => z2 (a7, J, a7.length, o0, o7, A2) ⟨(bdn j z1), rfl⟩ a w (e.sub ⟨rfl, rfl, rfl, rfl, rfl, rfl, rfl, trivial⟩) hs
           ··refine At.condF rfl (decide_eq_false k4) ?_
             refine At.exit ?_; refine At.the ?_; refine At.the ?_; exact fun a w e hs => x8 (b6, k3, b6.length, n7, n8, n9) ⟨(bdn j x7), rfl⟩ a w (e.sub ⟨rfl, rfl, rfl, rfl, rfl, rfl, trivial⟩) hs
       ··refine At.condF rfl (decide_eq_false h8) ?_
         refine At.exit ?_; refine At.the ?_; refine At.the ?_; exact fun a w e hs => q0 (b5, h7, b5.length, n4, n5, n6) ⟨(bdn j p9), rfl⟩ a w (e.sub ⟨rfl, rfl, rfl, rfl, rfl, trivial⟩) hs
 ··rcases bite j with ⟨l8, j⟩ | ⟨l8, j⟩
   ··refine At.know (t := 26) rfl (nf l8) ?_
     refine At.run 1 rfl ?_; refine At.y (Y.eqOpt .z rfl rfl rfl rfl) rfl rfl rfl ?_; refine At.run 1 rfl ?_; exact At.of (l9 d9.isNone j) ⟨rfl, rfl, rfl, rfl, rfl, trivial⟩
   ··refine At.know (t := 26) rfl (nt (bn l8)) ?_
     refine At.run 3 rfl ?_; exact At.of (l9 true j) ⟨rfl, rfl, rfl, rfl, rfl, trivial⟩

end Go.Bw
namespace Go.Bw
open Go Go.RowKit

theorem Q66 {σ ρ : Type} {body : σ → Option (σ ⊕ ρ)} (I : σ → Prop) (Q : ρ → Prop) (μ : σ → Nat) (h : ∀ s, I s → (∃ r, body s = some (.inr r) ∧ Q r) ∨ ∃ s', body s = some (.inl s') ∧ I s' ∧ μ s' < μ s) :
 ∀ s, I s → ∃ r, iter body s = some r ∧ Q r := by
 have key : ∀ n s, μ s < n → I s → ∃ r, iter body s = some r ∧ Q r := by
  intro n
  induction n with
  | zero => intro s hn; omega
  | succ n ih =>
   intro s hn hI
   rw [Q67]
   rcases h s hI with ⟨r, hr, hq⟩ | ⟨s', hs, hI', hlt⟩
   ·exact ⟨r, by rw [hr]; rfl, hq⟩
   ·obtain ⟨r, hr, hq⟩ := ih s' (by omega) hI'
    exact ⟨r, by rw [hs]; exact hr, hq⟩
 exact fun s hI => key _ s (Nat.lt_succ_self _) hI
theorem wrap64 {x : Int} (h0 : -9223372036854775808 ≤ x) (h1 : x ≤ 9223372036854775807) : IntKind.i64.wrap x = x := by
 simp [IntKind.wrap, IntKind.bits, IntKind.signed]
 omega
section
variable {α : Type} [Inhabited α]
theorem Q105 (xs : List α) (i : Int) (x : α) : (st xs i x).length = xs.length := by simp [st]
theorem Q87 {xs : List α} {i j : Int} {x : α} (hi : 0 ≤ i) (hi' : i < (xs.length : Int)) (hj : 0 ≤ j) : gt (st xs i x) j = if j = i then x else gt xs j := by
 unfold gt st
 rw [List.getD_eq_getElem?_getD, List.getD_eq_getElem?_getD, List.getElem?_set]
 by_cases h : j = i
 ·subst h
  have : j.toNat < xs.length := by omega
  simp [this]
 ·have : ¬ i.toNat = j.toNat := by omega
  simp [this, h]
theorem Q68 {xs : List α} {i : Int} (h0 : 0 ≤ i) (h1 : i < (xs.length : Int)) : gt xs i ∈ xs := List.mem_of_getElem? (Q88 h0 h1)
theorem Q106 {xs : List α} {i : Nat} {x : α} (h : xs[i]? = some x) : gt xs (i : Int) = x := by
 unfold gt
 simp [List.getD_eq_getElem?_getD, h]
end
end Go.Bw
namespace Go.Bw
open Go Go.RowKit

theorem up_loop {ρ : Type} {body : Int → Option (Int ⊕ ρ)} {N : Int} {Q : ρ → Prop} (hN : N ≤ 9223372036854775807) (k0 : Int) (h0 : -9223372036854775808 ≤ k0) (h : ∀ i, k0 ≤ i → (∃ r, body i = some (.inr r) ∧ Q r) ∨ i < N ∧ body i = some (.inl (IntKind.i64.wrap (i + 1)))) :
 ∃ r, iter body k0 = some r ∧ Q r := by
 refine Q66 (fun i => k0 ≤ i) Q (fun i => (N - i).toNat) (fun i hi => ?_) k0 (Int.le_refl _)
 rcases h i hi with h | ⟨h1, h2⟩
 ·exact .inl h
 ·right
  rw [wrap64 (by omega) (by omega)] at h2
  exact ⟨_, h2, by omega, by omega⟩
theorem jn_true {x : Option (Unit ⊕ Bool)} (h : ∃ r, x = some r ∧ True) : ∃ b, jn x (fun _ => some true) = some b := by
 obtain ⟨r, rfl, _⟩ := h
 cases r <;> exact ⟨_, rfl⟩
theorem jn_int {x : Option (Unit ⊕ Int)} (h : ∃ r, x = some r ∧ True) : ∃ b, jn x (fun _ => some (-1)) = some b := by
 obtain ⟨r, rfl, _⟩ := h
 cases r <;> exact ⟨_, rfl⟩
theorem in_run (a n : Int) (x : List Bs) (y : List Q3) (z : List Q4) : Q71.f a n x y z = some (decide (0 ≤ a ∧ a < n)) := by
 unfold Q71.f
 by_cases h : 0 ≤ a <;> simp [h, jn]
theorem Q144 {σ ρ : Type} {x : Option (σ ⊕ ρ)} {f : σ → Option ρ} (hx : ∃ t, x = some t) (hf : ∀ s, ∃ r, f s = some r) : ∃ r, jn x f = some r := by
 obtain ⟨t, rfl⟩ := hx
 cases t with
 | inl s => exact hf s
 | inr r => exact ⟨r, rfl⟩
theorem rune_name (r : Int) : ∃ b, Q103.f r = some b := by
 unfold Q103.f
 repeat' first
  | exact ⟨_, rfl⟩
  | refine Q144 ?_ fun _ => ?_
  | split
def EdgeIn (n : Int) (m : Nat) (e : Q3) : Prop := 0 ≤ e.From ∧ e.From < n ∧ 0 ≤ e.To ∧ e.To < n ∧ 0 ≤ e.Action ∧ e.Action < (m : Int)
end Go.Bw
namespace Go.Bw
open Go Go.RowKit

theorem Q184 {ρ : Type} {body : Int → Option (Int ⊕ (Unit ⊕ ρ))} {N : Int} {p : Int → Prop} {bad : ρ} (hN : N ≤ 9223372036854775807) (k0 : Int) (h0 : 0 ≤ k0)
 (h : ∀ i, k0 ≤ i → i < N → (p i ∧ body i = some (.inl (IntKind.i64.wrap (i + 1)))) ∨ (¬ p i ∧ body i = some (.inr (.inr bad)))) (he : ∀ i, ¬ i < N → body i = some (.inr (.inl ()))) :
 (iter body k0 = some (.inl ()) ∧ ∀ i, k0 ≤ i → i < N → p i) ∨ (iter body k0 = some (.inr bad) ∧ ∃ i, k0 ≤ i ∧ i < N ∧ ¬ p i) := by
 obtain ⟨r, hr, hq⟩ := Q66 (body := body) (fun i => k0 ≤ i ∧ ∀ j, k0 ≤ j → j < i → p j) (fun r => (r = .inl () ∧ ∀ i, k0 ≤ i → i < N → p i) ∨ (r = .inr bad ∧ ∃ i, k0 ≤ i ∧ i < N ∧ ¬ p i)) (fun i => (N - i).toNat) (fun i ⟨h1, h2⟩ => by
  by_cases hi : i < N
  ·rcases h i h1 hi with ⟨hp, hb⟩ | ⟨hp, hb⟩
   ·right
    rw [wrap64 (by omega) (by omega)] at hb
    refine ⟨_, hb, ⟨by omega, fun j j0 j1 => ?_⟩, by omega⟩
    by_cases hj : j = i
    ·subst hj; exact hp
    ·exact h2 j j0 (by omega)
   ·left; exact ⟨_, hb, .inr ⟨rfl, i, h1, hi, hp⟩⟩
  ·left; exact ⟨_, he i hi, .inl ⟨rfl, fun j j0 j1 => h2 j j0 (by omega)⟩⟩) k0 ⟨Int.le_refl _, fun j j0 j1 => by omega⟩
 rcases hq with ⟨rfl, hq⟩ | ⟨rfl, hq⟩
 ·exact .inl ⟨hr, hq⟩
 ·exact .inr ⟨hr, hq⟩
def OkB (c : Int) : Prop := 97 ≤ c ∧ c ≤ 122 ∨ 65 ≤ c ∧ c ≤ 90 ∨ 48 ≤ c ∧ c ≤ 57 ∨ c = 95
theorem rune_run (r : Int) : ∃ b, Q103.f r = some b ∧ (b = true ↔ ¬ OkB r) := by
 obtain ⟨b, hb⟩ := rune_name r
 refine ⟨b, hb, ?_⟩
 unfold Q103.f at hb
 unfold OkB
 by_cases h1 : 97 ≤ r <;> by_cases h2 : 65 ≤ r <;> by_cases h3 : 48 ≤ r <;> simp [h1, h2, h3, jn] at hb <;> (try omega) <;>
  (by_cases h4 : r ≤ 122 <;> by_cases h5 : r ≤ 90 <;> by_cases h6 : r ≤ 57 <;> by_cases h7 : r = 95 <;> simp [h4, h5, h6, h7] at hb <;> first | omega | (subst hb; simp; omega))
theorem rune_low {s : Bs} {k : Nat} (hk : k < s.length) (h : bat s k < 128) : runeAt s k = bat s k ∧ runeLen s k = 1 := by
 have hg : ((ByteArray.mk s.toArray).get! k).toNat = (s.getD k 0).toNat := by
  simp [ByteArray.get!, List.getD_eq_getElem?_getD, hk]
 have h' : (s.getD k 0).toNat < 128 := by
  have : bat s k = ((s.getD k 0).toNat : Int) := by simp [bat]
  omega
 unfold runeAt runeLen Utf8.decode
 simp only [Nat.add_zero, hg, if_pos (show (s.getD k 0).toNat < 0x80 from h')]
 simp [bat]
theorem rune_high {s : Bs} {k : Nat} (hk : k < s.length) (h : 128 ≤ bat s k) : 128 ≤ runeAt s k := by
 have hg : ((ByteArray.mk s.toArray).get! k).toNat = (s.getD k 0).toNat := by
  simp [ByteArray.get!, List.getD_eq_getElem?_getD, hk]
 have h' : ¬ (s.getD k 0).toNat < 0x80 := by
  have : bat s k = ((s.getD k 0).toNat : Int) := by simp [bat]
  omega
 unfold runeAt Utf8.decode
 simp only [Nat.add_zero, hg, if_neg h']
 have e : (Utf8.runeError : Nat) = 65533 := rfl
 repeat' split
 all_goals try dsimp only
 all_goals first
  | omega
  | (rename_i hc; simp only [Bool.and_eq_true, decide_eq_true_eq] at hc; omega)
  | (rw [e]; omega)
theorem okB_low {c : Int} (h : OkB c) : c < 128 := by unfold OkB at h; omega
def NameS (s : Bs) : Prop := 1 ≤ s.length ∧ s.length ≤ 8 ∧ 97 ≤ bat s 0 ∧ bat s 0 ≤ 122 ∧ s ≠ [116, 116] ∧ s ≠ [102, 102] ∧ s ≠ [109, 117] ∧ s ≠ [110, 117] ∧ ∀ i : Int, 0 ≤ i → i < (s.length : Int) → OkB (bat s i)
theorem Q314 (s : Bs) : ∃ b, Q122.f s = some b ∧ (b = true ↔ ¬ ∀ i : Int, 0 ≤ i → i < (s.length : Int) → OkB (bat s i)) := by
 obtain ⟨r, hr, hq⟩ := Q66 (body := fun t_ : Nat => Q54.l0b s true t_) (fun k => ∀ i : Int, 0 ≤ i → i < (k : Int) → i < (s.length : Int) → OkB (bat s i))
  (fun r => (∃ k, r = .inl k ∧ ∀ i : Int, 0 ≤ i → i < (s.length : Int) → OkB (bat s i)) ∨ ∃ k : Nat, r = .inr (k : Int) ∧ ¬ ∀ i : Int, 0 ≤ i → i < (s.length : Int) → OkB (bat s i)) (fun k => s.length - k) (fun k hI => by
   unfold Q54.l0b
   by_cases hk : k < s.length
   ·obtain ⟨b, hb, hb2⟩ := rune_run (runeAt s k)
    rw [if_pos hk, hb]
    simp only [Option.bind_some]
    by_cases hl : bat s k < 128
    ·obtain ⟨e1, e2⟩ := rune_low hk hl
     rw [e1] at hb2
     rw [e2]
     cases b with
     | true =>
      left
      refine ⟨_, rfl, .inr ⟨k, rfl, fun hall => hb2.1 rfl (hall k (by omega) (by omega))⟩⟩
     | false =>
      right
      have hok : OkB (bat s k) := Classical.not_not.1 fun h => by have := hb2.2 h; cases this
      refine ⟨_, rfl, fun i i0 i1 i2 => ?_, by omega⟩
      by_cases hi : i = (k : Int)
      ·subst hi; exact hok
      ·exact hI i i0 (by omega) i2
    ·have hh := rune_high hk (by omega)
     have hbt : b = true := hb2.2 fun h => by have := okB_low h; omega
     subst hbt
     left
     exact ⟨_, rfl, .inr ⟨k, rfl, fun hall => by have := okB_low (hall k (by omega) (by omega)); omega⟩⟩
   ·left; rw [if_neg hk]; exact ⟨_, rfl, .inl ⟨k, rfl, fun i i0 i1 => hI i i0 (by omega) i1⟩⟩) 0 (fun i i0 i1 => by omega)
 unfold Q122.f Q140.f Q54.f Q54.l0
 rw [hr]
 rcases hq with ⟨k, rfl, hq⟩ | ⟨k, rfl, hq⟩
 ·exact ⟨false, rfl, by simp; exact hq⟩
 ·exact ⟨true, by simp [jn], by simp only [true_iff]; exact hq⟩
end Go.Bw
namespace Go.Bw
open Go Go.RowKit

theorem Q188 {x : Option (Unit ⊕ Bool)} {p : Prop} (h : (x = some (.inl ()) ∧ p) ∨ (x = some (.inr false) ∧ ¬ p)) : ∃ b, jn x (fun _ => some true) = some b ∧ (b = true ↔ p) := by
 rcases h with ⟨rfl, h⟩ | ⟨rfl, h⟩
 ·exact ⟨true, rfl, by simp [h]⟩
 ·exact ⟨false, rfl, by simp [h]⟩
theorem Q281 (s : Bs) : ∃ b, Q80.f s = some b ∧ (b = true ↔ NameS s) := by
 obtain ⟨c, hc, hc2⟩ := Q314 s
 unfold Q80.f NameS
 by_cases h1 : (s.length : Int) < 1
 ·exact ⟨false, by simp [h1, jn], by simp; omega⟩
 by_cases h2 : 8 < (s.length : Int)
 ·exact ⟨false, by simp [h1, h2, jn], by simp; omega⟩
 have h0 : (0 : Int) ≤ 0 ∧ 0 < (s.length : Int) := by omega
 simp only [if_neg h1, Q16, decide_eq_false h2, Bool.false_eq_true, if_false, if_pos h0]
 by_cases h3 : bat s 0 < 97
 ·exact ⟨false, by simp [h3, jn], by simp; omega⟩
 by_cases h4 : 122 < bat s 0
 ·exact ⟨false, by simp [h3, h4, jn], by simp; omega⟩
 simp only [decide_eq_false h3, decide_eq_false h4, Bool.false_eq_true, if_false, Q16, Q159, hc, Option.bind_some]
 by_cases k1 : s = [116, 116]
 ·exact ⟨false, by simp [k1], by simp [k1]⟩
 by_cases k2 : s = [102, 102]
 ·exact ⟨false, by simp [k2], by simp [k2]⟩
 by_cases k3 : s = [109, 117]
 ·exact ⟨false, by simp [k3], by simp [k3]⟩
 by_cases k4 : s = [110, 117]
 ·exact ⟨false, by simp [k4], by simp [k4]⟩
 refine ⟨!c, by simp [k1, k2, k3, k4], ?_⟩
 have hc3 : (!c) = true ↔ ∀ i : Int, 0 ≤ i → i < (s.length : Int) → OkB (bat s i) := by
  cases c with
  | true => simp only [Bool.not_true, Bool.false_eq_true, false_iff]; exact hc2.1 rfl
  | false =>
   simp only [Bool.not_false, true_iff]
   exact Classical.not_not.1 fun h => by have := hc2.2 h; cases this
 rw [hc3]
 exact ⟨fun h => ⟨by omega, by omega, by omega, by omega, k1, k2, k3, k4, h⟩, fun h => h.2.2.2.2.2.2.2.2⟩
def Rise {α : Type} [Inhabited α] (lt : α → α → Prop) (a : List α) : Prop := ∀ i : Int, 1 ≤ i → i < (a.length : Int) → lt (gt a (i - 1)) (gt a i)
theorem Q331 (a : List Int) (ha : (a.length : Int) ≤ 9223372036854775807) : ∃ b, Q52.f a = some b ∧ (b = true ↔ Rise (· < ·) a) := by
 refine Q188 ?_
 rcases Q184 (body := fun t_ : Int => Q52.l0b a t_) (N := a.length) (p := fun i => gt a (i - 1) < gt a i) (bad := false) ha 1 (by decide) (fun i h0 h1 => by
  simp only [Q52.l0b]
  rw [if_pos h1, wrap64 (x := i - 1) (by omega) (by omega), if_pos (by omega), if_pos (by omega), Q246]
  simp only [Option.bind_some]
  by_cases hp : gt a (i - 1) < gt a i
  ·left; rw [if_neg (by have := Q183.2 hp; omega)]; exact ⟨hp, rfl⟩
  ·right; rw [if_pos (by have : ¬ cmp3 (gt a (i - 1)) (gt a i) < 0 := fun h => hp (Q183.1 h); omega)]; exact ⟨hp, rfl⟩) (fun i h => by simp only [Q52.l0b]; rw [if_neg h]; rfl) with ⟨h, q⟩ | ⟨h, i, i0, i1, i2⟩
 ·exact .inl ⟨h, q⟩
 ·exact .inr ⟨h, fun hr => i2 (hr i i0 i1)⟩
def BLt (x y : Bs) : Prop := Lib.compareBytes x y < 0
theorem Q316 (a : List Bs) (ha : (a.length : Int) ≤ 9223372036854775807) : ∃ b, Q50.f a = some b ∧ (b = true ↔ Rise BLt a) := by
 refine Q188 ?_
 rcases Q184 (body := fun t_ : Int => Q50.l0b a t_) (N := a.length) (p := fun i => BLt (gt a (i - 1)) (gt a i)) (bad := false) ha 1 (by decide) (fun i h0 h1 => by
  simp only [Q50.l0b]
  rw [if_pos h1, wrap64 (x := i - 1) (by omega) (by omega), if_pos (by omega), if_pos (by omega)]
  simp only [Q99.f, Q124.f, Option.bind_some]
  by_cases hp : BLt (gt a (i - 1)) (gt a i)
  ·left; rw [if_neg (by unfold BLt at hp; omega)]; exact ⟨hp, rfl⟩
  ·right; rw [if_pos (by unfold BLt at hp; omega)]; exact ⟨hp, rfl⟩) (fun i h => by simp only [Q50.l0b]; rw [if_neg h]; rfl) with ⟨h, q⟩ | ⟨h, i, i0, i1, i2⟩
 ·exact .inl ⟨h, q⟩
 ·exact .inr ⟨h, fun hr => i2 (hr i i0 i1)⟩
theorem Q310 (a : List Q4) (ha : (a.length : Int) ≤ 9223372036854775807) : ∃ b, Q56.f a = some b ∧ (b = true ↔ Rise (fun p q => BLt p.Name q.Name) a) := by
 refine Q188 ?_
 rcases Q184 (body := fun t_ : Int => Q56.l0b a t_) (N := a.length) (p := fun i => BLt (gt a (i - 1)).Name (gt a i).Name) (bad := false) ha 1 (by decide) (fun i h0 h1 => by
  simp only [Q56.l0b]
  rw [if_pos h1, wrap64 (x := i - 1) (by omega) (by omega), if_pos (by omega), if_pos (by omega)]
  simp only [Q109.f, Q99.f, Q124.f, Option.bind_some]
  by_cases hp : BLt (gt a (i - 1)).Name (gt a i).Name
  ·left; rw [if_neg (by unfold BLt at hp; omega)]; exact ⟨hp, rfl⟩
  ·right; rw [if_pos (by unfold BLt at hp; omega)]; exact ⟨hp, rfl⟩) (fun i h => by simp only [Q56.l0b]; rw [if_neg h]; rfl) with ⟨h, q⟩ | ⟨h, i, i0, i1, i2⟩
 ·exact .inl ⟨h, q⟩
 ·exact .inr ⟨h, fun hr => i2 (hr i i0 i1)⟩
theorem Q307 (a : List Q3) (ha : (a.length : Int) ≤ 9223372036854775807) : ∃ b, Q51.f a = some b ∧ (b = true ↔ Rise edgeLt a) := by
 refine Q188 ?_
 rcases Q184 (body := fun t_ : Int => Q51.l0b a t_) (N := a.length) (p := fun i => edgeLt (gt a (i - 1)) (gt a i)) (bad := false) ha 1 (by decide) (fun i h0 h1 => by
  simp only [Q51.l0b]
  rw [if_pos h1, wrap64 (x := i - 1) (by omega) (by omega), if_pos (by omega), if_pos (by omega), Q264]
  simp only [Option.bind_some]
  by_cases hp : edgeLt (gt a (i - 1)) (gt a i)
  ·left; rw [if_neg (by have := Q207.2 hp; omega)]; exact ⟨hp, rfl⟩
  ·right; rw [if_pos (by have : ¬ edgeCmp (gt a (i - 1)) (gt a i) < 0 := fun h => hp (Q207.1 h); omega)]; exact ⟨hp, rfl⟩) (fun i h => by simp only [Q51.l0b]; rw [if_neg h]; rfl) with ⟨h, q⟩ | ⟨h, i, i0, i1, i2⟩
 ·exact .inl ⟨h, q⟩
 ·exact .inr ⟨h, fun hr => i2 (hr i i0 i1)⟩
end Go.Bw
namespace Go.Bw
open Go Go.RowKit

theorem names_iff (a : List Bs) (ha : (a.length : Int) ≤ 9223372036854775807) : ∃ b, Q121.f a = some b ∧ (b = true ↔ ¬ ∀ s ∈ a, NameS s) := by
 -- all that is passed is a name
 have key := Q66 (body := fun t_ : Int => Q61.l0b a t_) (fun i => 0 ≤ i ∧ ∀ j : Int, 0 ≤ j → j < i → j < (a.length : Int) → NameS (gt a j)) (fun r => r = .inl () ∧ (∀ s ∈ a, NameS s) ∨ ∃ k : Int, 0 ≤ k ∧ r = .inr k ∧ ¬ ∀ s ∈ a, NameS s) (fun i => ((a.length : Int) - i).toNat) (fun i ⟨h0, h2⟩ => by
  unfold Q61.l0b Q142.f
  by_cases h1 : i < (a.length : Int)
  ·obtain ⟨c, hc, hc2⟩ := Q281 (gt a i)
   rw [if_pos h1, if_pos ⟨h0, h1⟩, hc]
   simp only [Option.bind_some]
   cases c with
   | true =>
    right
    rw [wrap64 (x := i + 1) (by omega) (by omega)]
    refine ⟨_, rfl, ⟨by omega, fun j j0 j1 j2 => ?_⟩, by omega⟩
    by_cases hj : j = i
    ·subst hj; exact hc2.1 rfl
    ·exact h2 j j0 (by omega) j2
   | false => left; exact ⟨_, rfl, .inr ⟨i, h0, rfl, fun h => by have := hc2.2 (h _ (Q68 h0 h1)); cases this⟩⟩
  ·left; rw [if_neg h1]
   refine ⟨_, rfl, .inl ⟨rfl, fun s hs => ?_⟩⟩
   obtain ⟨k, hk, rfl⟩ := List.getElem_of_mem hs
   have := h2 k (by omega) (by omega) (by omega)
   rwa [Q106 (List.getElem?_eq_getElem hk)] at this) 0 ⟨Int.le_refl _, fun j j0 j1 => by omega⟩
 obtain ⟨r', hr', hq'⟩ := key
 unfold Q121.f Q61.f Q61.l0
 rw [hr']
 rcases hq' with ⟨rfl, h⟩ | ⟨k, k0, rfl, h⟩
 ·exact ⟨false, rfl, by simp; exact h⟩
 ·exact ⟨true, by simp [jn, k0], by simp only [true_iff]; exact h⟩
def StatesS (n : Int) (a : List Int) : Prop := (∀ s ∈ a, 0 ≤ s ∧ s < n) ∧ Rise (· < ·) a
theorem inS_iff (a : List Int) (n : Int) (x : List Bs) (y : List Q3) (z : List Q4) (ha : (a.length : Int) ≤ 9223372036854775807) : ∃ b, Q118.f a n x y z = some b ∧ (b = true ↔ ¬ ∀ s ∈ a, 0 ≤ s ∧ s < n) := by
 have key := Q66 (body := fun t_ : Int => Q53.l0b a n x y z t_) (fun i => 0 ≤ i ∧ ∀ j : Int, 0 ≤ j → j < i → j < (a.length : Int) → 0 ≤ gt a j ∧ gt a j < n) (fun r => r = .inl () ∧ (∀ s ∈ a, 0 ≤ s ∧ s < n) ∨ ∃ k : Int, 0 ≤ k ∧ r = .inr k ∧ ¬ ∀ s ∈ a, 0 ≤ s ∧ s < n) (fun i => ((a.length : Int) - i).toNat) (fun i ⟨h0, h2⟩ => by
  unfold Q53.l0b Q127.f
  by_cases h1 : i < (a.length : Int)
  ·rw [if_pos h1, if_pos ⟨h0, h1⟩, in_run]
   simp only [Option.bind_some]
   by_cases hp : 0 ≤ gt a i ∧ gt a i < n
   ·right
    rw [wrap64 (x := i + 1) (by omega) (by omega)]
    refine ⟨i + 1, by simp [hp, nx], ⟨by omega, fun j j0 j1 j2 => ?_⟩, by omega⟩
    by_cases hj : j = i
    ·subst hj; exact hp
    ·exact h2 j j0 (by omega) j2
   ·left; exact ⟨.inr i, by simp [hp, upL], .inr ⟨i, h0, rfl, fun h => hp (h _ (Q68 h0 h1))⟩⟩
  ·left; rw [if_neg h1]
   refine ⟨_, rfl, .inl ⟨rfl, fun s hs => ?_⟩⟩
   obtain ⟨k, hk, rfl⟩ := List.getElem_of_mem hs
   have := h2 k (by omega) (by omega) (by omega)
   rwa [Q106 (List.getElem?_eq_getElem hk)] at this) 0 ⟨Int.le_refl _, fun j j0 j1 => by omega⟩
 obtain ⟨r', hr', hq'⟩ := key
 unfold Q118.f Q53.f Q53.l0
 rw [hr']
 rcases hq' with ⟨rfl, h⟩ | ⟨k, k0, rfl, h⟩
 ·exact ⟨false, rfl, by simp; exact h⟩
 ·exact ⟨true, by simp [jn, k0], by simp only [true_iff]; exact h⟩
end Go.Bw
namespace Go.Bw
open Go Go.RowKit

def W8 (v : BitVec 8) : Int := (v.toNat : Int)
theorem Q203 (v : BitVec 8) : BitVec.ofInt 8 (W8 v) = v := by
 unfold W8
 apply BitVec.eq_of_toNat_eq
 simp
theorem W8.inj {u v : BitVec 8} (h : W8 u = W8 v) : u = v := by rw [← Q203 u, h, Q203]
theorem wrap8 {x : Int} (h0 : 0 ≤ x) (h1 : x < 256) : IntKind.u8.wrap x = x := by
 simp [IntKind.wrap, IntKind.bits, IntKind.signed]
 omega
theorem wrap_w8 (v : BitVec 8) : IntKind.u8.wrap (v.toNat : Int) = W8 v := by
 have := v.isLt
 exact wrap8 (by omega) (by omega)
theorem bor_w8 (u v : BitVec 8) : bor .u8 (W8 u) (W8 v) = W8 (u ||| v) := by
 show IntKind.u8.wrap ((BitVec.ofInt 8 (W8 u) ||| BitVec.ofInt 8 (W8 v)).toNat : Int) = _
 rw [Q203, Q203, wrap_w8]
theorem shl8 {k : Int} (h0 : 0 ≤ k) (h1 : k < 8) : Bw.shl .u8 1 k = W8 (BitVec.twoPow 8 k.toNat) := by
 obtain ⟨m, rfl⟩ := Int.eq_ofNat_of_zero_le h0
 have hm : m < 8 := by omega
 match m, hm with
 | 0, _ => rfl
 | 1, _ => rfl
 | 2, _ => rfl
 | 3, _ => rfl
 | 4, _ => rfl
 | 5, _ => rfl
 | 6, _ => rfl
 | 7, _ => rfl
def full8 (m : Nat) : BitVec 8 := BitVec.allOnes 8 >>> (8 - m)
theorem full_run {m : Nat} (hm : m ≤ 8) : IntKind.u8.wrap (Bw.shl .u8 1 (m : Int) - 1) = W8 (full8 m) := by
 match m, hm with
 | 0, _ => rfl
 | 1, _ => rfl
 | 2, _ => rfl
 | 3, _ => rfl
 | 4, _ => rfl
 | 5, _ => rfl
 | 6, _ => rfl
 | 7, _ => rfl
 | 8, _ => rfl
theorem Q278 {m k : Nat} (hm : m ≤ 8) (hk : k < 8) : (full8 m).getLsbD k = decide (k < m) := by
 unfold full8
 rw [BitVec.getLsbD_ushiftRight, BitVec.getLsbD_allOnes]
 rw [decide_eq_decide]
 omega
def UsedS (m : Nat) (y : List Q3) : Prop := ∀ k : Int, 0 ≤ k → k < (m : Int) → ∃ e ∈ y, e.Action = k
def Mask (v : BitVec 8) (y : List Q3) : Prop := ∀ k : Nat, k < 8 → (v.getLsbD k = true ↔ ∃ e ∈ y, e.Action = (k : Int))
theorem Q245 {v : BitVec 8} {y : List Q3} {n : Int} {m : Nat} (hv : Mask v y) (hm : m ≤ 8) (he : ∀ e ∈ y, EdgeIn n m e) : v = full8 m ↔ UsedS m y := by
 constructor
 ·rintro rfl k k0 k1
  have := (hv k.toNat (by omega)).1 (by rw [Q278 hm (by omega)]; simp; omega)
  obtain ⟨e, h1, h2⟩ := this
  exact ⟨e, h1, by omega⟩
 ·intro h
  apply BitVec.eq_of_getLsbD_eq
  intro k hk
  rw [Q278 hm hk, Bool.eq_iff_iff, hv k hk, decide_eq_true_eq]
  constructor
  ·rintro ⟨e, h1, h2⟩
   have := (he e h1).2.2.2.2.2
   omega
  ·intro hkm
   exact h k (by omega) (by omega)
theorem edges_iff (n : Int) (x : List Bs) (y : List Q3) (z : List Q4) (hy : (y.length : Int) ≤ 9223372036854775807) (hx : x.length ≤ 8) :
 (∃ v, Q25.l0 n x y z 0 0 = some (.inl (W8 v)) ∧ Mask v y ∧ ∀ e ∈ y, EdgeIn n x.length e) ∨ (Q25.l0 n x y z 0 0 = some (.inr false) ∧ ¬ ∀ e ∈ y, EdgeIn n x.length e) := by
 obtain ⟨r, hr, hq⟩ := Q66 (body := fun t_ : Int × Int => Q25.l0b n x y z t_.1 t_.2) (fun s => 0 ≤ s.2 ∧ s.2 ≤ (y.length : Int) ∧ (∀ e ∈ y.take s.2.toNat, EdgeIn n x.length e) ∧ ∃ v, s.1 = W8 v ∧ Mask v (y.take s.2.toNat))
  (fun r => (∃ v, r = .inl (W8 v) ∧ Mask v y ∧ ∀ e ∈ y, EdgeIn n x.length e) ∨ (r = .inr false ∧ ¬ ∀ e ∈ y, EdgeIn n x.length e)) (fun s => ((y.length : Int) - s.2).toNat) (fun ⟨u, i⟩ ⟨h0, h1, h2, v, h3, h4⟩ => by
   dsimp only at h0 h1 h2 h3 h4 ⊢
   subst h3
   unfold Q25.l0b
   by_cases hi : i < (y.length : Int)
   ·have hm := Q68 h0 hi
    rw [if_pos hi, if_pos ⟨h0, hi⟩, in_run, in_run]
    simp only [Option.bind_some]
    by_cases e1 : 0 ≤ (gt y i).From ∧ (gt y i).From < n
    ·by_cases e2 : 0 ≤ (gt y i).To ∧ (gt y i).To < n
     ·by_cases e3 : (gt y i).Action < 0
      ·left; exact ⟨_, by simp [e1, e2, e3, jn, upL], .inr ⟨rfl, fun h => by have := (h _ hm).2.2.2.2.1; omega⟩⟩
      ·by_cases e4 : (x.length : Int) ≤ (gt y i).Action
       ·left; exact ⟨_, by simp [e1, e2, e3, e4, jn, upL], .inr ⟨rfl, fun h => by have := (h _ hm).2.2.2.2.2; omega⟩⟩
       ·right
        have e5 : 0 ≤ (gt y i).Action := by omega
        have hw : IntKind.i64.wrap (i + 1) = i + 1 := wrap64 (by omega) (by omega)
        have ht : y.take (i + 1).toNat = y.take i.toNat ++ [gt y i] := by
         rw [show (i + 1).toNat = i.toNat + 1 from by omega, List.take_add_one, Q88 h0 hi]; rfl
        refine ⟨(W8 (v ||| BitVec.twoPow 8 (gt y i).Action.toNat), i + 1), by simp [e1, e2, e3, e4, e5, jn, nx, hw, shl8 e5 (by omega), bor_w8], ⟨by dsimp only; omega, by dsimp only; omega, fun e he => ?_, _, rfl, fun k hk => ?_⟩, by dsimp only; omega⟩
        ·dsimp only at he
         rw [ht] at he
         rcases List.mem_append.1 he with he | he
         ·exact h2 e he
         ·simp at he; subst he
          exact ⟨e1.1, e1.2, e2.1, e2.2, e5, by omega⟩
        ·dsimp only
         rw [ht, BitVec.getLsbD_or, Bool.or_eq_true, h4 k hk, BitVec.getLsbD_twoPow]
         constructor
         ·rintro (⟨e, a, b⟩ | h)
          ·exact ⟨e, by simp [a], b⟩
          ·simp at h
           exact ⟨gt y i, by simp, by omega⟩
         ·rintro ⟨e, a, b⟩
          rcases List.mem_append.1 a with a | a
          ·exact .inl ⟨e, a, b⟩
          ·simp at a
           subst a
           right
           simp
           omega
     ·left; exact ⟨_, by simp [e1, e2, jn, upL], .inr ⟨rfl, fun h => e2 ⟨(h _ hm).2.2.1, (h _ hm).2.2.2.1⟩⟩⟩
    ·left; exact ⟨_, by simp [e1, jn, upL], .inr ⟨rfl, fun h => e1 ⟨(h _ hm).1, (h _ hm).2.1⟩⟩⟩
   ·left
    rw [if_neg hi]
    rw [List.take_of_length_le (by omega)] at h2 h4
    exact ⟨_, rfl, .inl ⟨v, rfl, h4, h2⟩⟩) (0, 0) ⟨Int.le_refl _, by dsimp only; omega, by simp, 0#8, rfl, fun k hk => by simp⟩
 rcases hq with ⟨v, rfl, h⟩ | ⟨rfl, h⟩
 ·exact .inl ⟨v, hr, h⟩
 ·exact .inr ⟨hr, h⟩
def PropS (n : Int) (p : Q4) : Prop := NameS p.Name ∧ StatesS n p.States
theorem props_iff (n : Int) (x : List Bs) (y : List Q3) (z : List Q4) (hz : (z.length : Int) ≤ 9223372036854775807) (hs : ∀ p ∈ z, (p.States.length : Int) ≤ 9223372036854775807) :
 (Q25.l1 n x y z 0 = some (.inl ()) ∧ ∀ p ∈ z, PropS n p) ∨ (Q25.l1 n x y z 0 = some (.inr false) ∧ ¬ ∀ p ∈ z, PropS n p) := by
 have key := Q184 (body := fun t_ : Int => Q25.l1b n x y z t_) (N := z.length) (p := fun i => PropS n (gt z i)) (bad := false) hz 0 (by decide) (fun i hi h1 => by
  simp only [Q25.l1b]
  obtain ⟨b1, hb1, c1⟩ := Q281 (gt z i).Name
  obtain ⟨b2, hb2, c2⟩ := Q331 (gt z i).States (hs _ (Q68 hi h1))
  obtain ⟨b3, hb3, c3⟩ := inS_iff (gt z i).States n x y z (hs _ (Q68 hi h1))
  rw [if_pos h1, if_pos ⟨hi, h1⟩, hb1, hb2, hb3]
  unfold PropS StatesS
  rw [← c1, ← c2]
  have c3' : (∀ s ∈ (gt z i).States, 0 ≤ s ∧ s < n) ↔ b3 = false := by
   cases b3 with
   | true => simp only [Bool.true_eq_false, iff_false]; exact c3.1 rfl
   | false => simp only [iff_true]; exact Classical.not_not.1 fun h => by have := c3.2 h; cases this
  rw [c3']
  cases b1 <;> cases b2 <;> cases b3 <;> simp [jn, nx, upL]) (fun i h => by simp only [Q25.l1b]; rw [if_neg h]; rfl)
 have hiff : (∀ i : Int, 0 ≤ i → i < (z.length : Int) → PropS n (gt z i)) ↔ ∀ p ∈ z, PropS n p := by
  constructor
  ·intro h p hp
   obtain ⟨k, hk, rfl⟩ := List.getElem_of_mem hp
   have := h k (by omega) (by omega)
   rwa [Q106 (List.getElem?_eq_getElem hk)] at this
  ·exact fun h i i0 i1 => h _ (Q68 i0 i1)
 rcases key with ⟨h, q⟩ | ⟨h, i, i0, i1, i2⟩
 ·exact .inl ⟨h, hiff.1 q⟩
 ·exact .inr ⟨h, fun hr => i2 (hiff.2 hr i i0 i1)⟩
structure RightS (n : Int) (x : List Bs) (y : List Q3) (z : List Q4) : Prop where
 n0 : 1 ≤ n
 n1 : n ≤ 24
 nx : x.length ≤ 8
 nz : z.length ≤ 8
 ny : y.length ≤ 200
 ed : ∀ e ∈ y, EdgeIn n x.length e
 pr : ∀ p ∈ z, PropS n p
 nm : ∀ s ∈ x, NameS s
 us : UsedS x.length y
 re : Rise edgeLt y
 rx : Rise BLt x
 rz : Rise (fun p q => BLt p.Name q.Name) z
theorem Q235 (n : Int) (x : List Bs) (y : List Q3) (z : List Q4) (hs : ∀ p ∈ z, (p.States.length : Int) ≤ 9223372036854775807) : ∃ b, Q25.f n x y z = some b ∧ (b = true ↔ RightS n x y z) := by
 have no : ∀ {P : Prop}, ¬ P → (false = true ↔ P) := fun h => ⟨fun e => (by cases e), fun p => absurd p h⟩
 unfold Q25.f
 by_cases h1 : n < 1
 ·exact ⟨false, by simp [h1, jn], no fun h => by have := h.n0; omega⟩
 by_cases h2 : 24 < n
 ·exact ⟨false, by simp [h1, h2, jn], no fun h => by have := h.n1; omega⟩
 by_cases h3 : 8 < (x.length : Int)
 ·exact ⟨false, by simp [h1, h2, h3, jn], no fun h => by have := h.nx; omega⟩
 by_cases h4 : 8 < (z.length : Int)
 ·exact ⟨false, by simp [h1, h2, h3, h4, jn], no fun h => by have := h.nz; omega⟩
 by_cases h5 : 200 < (y.length : Int)
 ·exact ⟨false, by simp [h1, h2, h3, h4, h5, jn], no fun h => by have := h.ny; omega⟩
 simp only [if_neg h1, Q16, decide_eq_false h2, decide_eq_false h3, decide_eq_false h4, decide_eq_false h5, Bool.false_eq_true, if_false]
 rcases edges_iff n x y z (by omega) (by omega) with ⟨v, hr, hm, he⟩ | ⟨hr, he⟩
 ·rw [hr, Q16]
  rcases props_iff n x y z (by omega) hs with ⟨hp, hpp⟩ | ⟨hp, hpp⟩
  ·rw [hp, Q16]
   obtain ⟨b1, hb1, c1⟩ := names_iff x (by omega)
   obtain ⟨b2, hb2, c2⟩ := Q307 y (by omega)
   obtain ⟨b3, hb3, c3⟩ := Q316 x (by omega)
   obtain ⟨b4, hb4, c4⟩ := Q310 z (by omega)
   have h0 : (0 : Int) ≤ (x.length : Int) := by omega
   have hu : (W8 v = W8 (full8 x.length)) ↔ UsedS x.length y := ⟨fun h => (Q245 hm (by omega) he).1 (W8.inj h), fun h => by rw [(Q245 hm (by omega) he).2 h]⟩
   simp only [hb1, hb2, hb3, hb4, Option.bind_some, if_pos h0, full_run (show x.length ≤ 8 by omega)]
   by_cases k1 : b1 = true
   ·subst k1
    exact ⟨false, by simp [jn], no fun h => c1.1 rfl h.nm⟩
   ·have k1' : b1 = false := by simpa using k1
    subst k1'
    have hnm : ∀ s ∈ x, NameS s := Classical.not_not.1 fun h => by have := c1.2 h; cases this
    by_cases k2 : W8 v = W8 (full8 x.length)
    ·cases b2 with
     | false => exact ⟨false, by simp [jn, k2], no fun h => by have := c2.2 h.re; cases this⟩
     | true =>
      cases b3 with
      | false => exact ⟨false, by simp [jn, k2], no fun h => by have := c3.2 h.rx; cases this⟩
      | true =>
       cases b4 with
       | false => exact ⟨false, by simp [jn, k2], no fun h => by have := c4.2 h.rz; cases this⟩
       | true => exact ⟨true, by simp [jn, k2], by simp only [true_iff]; exact ⟨by omega, by omega, by omega, by omega, by omega, he, hpp, hnm, hu.1 k2, c2.1 rfl, c3.1 rfl, c4.1 rfl⟩⟩
    ·exact ⟨false, by simp [jn, k2], no fun h => k2 (hu.2 h.us)⟩
  ·rw [hp]
   exact ⟨false, rfl, no fun h => hpp h.pr⟩
 ·rw [hr]
  exact ⟨false, rfl, no fun h => he h.ed⟩
end Go.Bw
namespace Go.Bw
open Go Go.RowKit

theorem rise_ne {z : List Q4} (h : Rise (fun p q => BLt p.Name q.Name) z) {i j : Int} (h0 : 0 ≤ i) (h1 : i < j) (h2 : j < (z.length : Int)) : (gt z i).Name ≠ (gt z j).Name := by
 have key : ∀ k : Nat, i + k + 1 < (z.length : Int) → BLt (gt z i).Name (gt z (i + k + 1)).Name := fun k => by
  induction k with
  | zero =>
   intro hk
   have := h (i + 1) (by omega) (by omega)
   rw [show i + 1 - 1 = i from by omega] at this
   rw [show i + ((0 : Nat) : Int) + 1 = i + 1 from by omega]
   exact this
  | succ k ih =>
   intro hk
   have h3 := ih (by omega)
   have h4 := h (i + (k + 1 : Nat) + 1) (by omega) (by omega)
   rw [show i + ((k + 1 : Nat) : Int) + 1 - 1 = i + k + 1 from by omega] at h4
   exact Q176 h3 h4
 have := key (j - i - 1).toNat (by omega)
 rw [show i + ((j - i - 1).toNat : Int) + 1 = j from by omega] at this
 intro e
 rw [e] at this
 unfold BLt at this
 rw [Q204] at this
 omega
end Go.Bw
namespace Go.Bw
open Go Go.RowKit
theorem Q181 {σ ρ : Type} {body : σ → Option (σ ⊕ ρ)} {s s' : σ} (h : body s = some (.inl s')) : iter body s = iter body s' := by rw [Q67, h]; rfl
theorem Q185 {σ ρ : Type} {body : σ → Option (σ ⊕ ρ)} {s : σ} {r : ρ} (h : body s = some (.inr r)) : iter body s = some r := by rw [Q67, h]; rfl
end Go.Bw
namespace Go.Bw
open Go Go.RowKit

theorem gt_map {α β : Type} [Inhabited α] [Inhabited β] {xs : List α} (f : α → β) {i : Int} (h0 : 0 ≤ i) (h1 : i < (xs.length : Int)) : gt (xs.map f) i = f (gt xs i) := by
 have h := Q88 h0 h1
 have h2 : (xs.map f)[i.toNat]? = some (f (gt xs i)) := by rw [List.getElem?_map, h]; rfl
 have := Q106 h2
 rwa [show ((i.toNat : Nat) : Int) = i from by omega] at this
theorem rise_mapp {α β : Type} [Inhabited α] [Inhabited β] {lt : α → α → Prop} {lt' : β → β → Prop} {a : List α} (f : α → β) (ha : Rise lt a) (hf : ∀ u v, lt u v → lt' (f u) (f v)) : Rise lt' (a.map f) := fun i i0 i1 => by
 rw [List.length_map] at i1
 rw [gt_map f (by omega) (by omega), gt_map f (by omega) i1]
 exact hf _ _ (ha i i0 i1)
theorem push_loop {α β ρ : Type} [Inhabited α] {L : List α} (f : α → β) {body : List β × Int → Option ((List β × Int) ⊕ (List β ⊕ ρ))} (hL : (L.length : Int) ≤ 1000000) (acc : List β)
 (h1 : ∀ (a : List β) (i : Int), 0 ≤ i → i < (L.length : Int) → a.length = acc.length + i.toNat → body (a, i) = some (.inl (a ++ [f (gt L i)], i + 1))) (h2 : ∀ (a : List β) (i : Int), ¬ i < (L.length : Int) → body (a, i) = some (.inr (.inl a))) :
 iter body (acc, 0) = some (.inl (acc ++ L.map f)) := by
 have key : ∀ (q : Nat) (i : Int), 0 ≤ i → (L.length : Int) - i = q → iter body (acc ++ (L.take i.toNat).map f, i) = some (.inl (acc ++ L.map f)) := fun q => by
  induction q with
  | zero =>
   intro i i0 iq
   rw [Q185 (h2 _ i (by omega)), List.take_of_length_le (by omega)]
  | succ q ih =>
   intro i i0 iq
   have hi : i < (L.length : Int) := by omega
   rw [Q181 (h1 _ i i0 hi (by simp; omega))]
   have := ih (i + 1) (by omega) (by omega)
   rw [show (i + 1).toNat = i.toNat + 1 from by omega, List.take_add_one, Q88 i0 hi] at this
   simpa using this
 have := key L.length 0 (by decide) (by omega)
 simpa using this
section
variable {n : Int} {x : List Bs} {y : List Q3} {z : List Q4}
end
theorem Q268 {n : Int} (hn : n ≤ 24) {S : List Int} (h : StatesS n S) : S.length ≤ 24 := by
 have key : ∀ k : Nat, k < S.length → (k : Int) ≤ gt S k := fun k => by
  induction k with
  | zero => intro hk; exact (h.1 _ (Q68 (by omega) (by omega))).1
  | succ k ih =>
   intro hk
   have h1 := ih (by omega)
   have h2 := h.2 ((k + 1 : Nat) : Int) (by omega) (by omega)
   rw [show ((k + 1 : Nat) : Int) - 1 = k from by omega] at h2
   have h2' : gt S (k : Int) < gt S ((k + 1 : Nat) : Int) := h2
   omega
 by_cases h0 : S.length = 0
 ·omega
 ·have h1 := key (S.length - 1) (by omega)
  have h2 := (h.1 _ (Q68 (xs := S) (i := ((S.length - 1 : Nat) : Int)) (by omega) (by omega))).2
  omega
end Go.Bw
namespace Go.Bw
open Go Go.RowKit

def Wd (v : BitVec 64) : Int := (v.toNat : Int)
theorem Wd.lt (v : BitVec 64) : 0 ≤ Wd v ∧ Wd v < 18446744073709551616 := by
 unfold Wd
 have := v.isLt
 omega
theorem wrapu {x : Int} (h0 : 0 ≤ x) (h1 : x < 18446744073709551616) : IntKind.u64.wrap x = x := by
 simp [IntKind.wrap, IntKind.bits, IntKind.signed]
 omega
theorem Q138 (v : BitVec 64) : BitVec.ofInt 64 (Wd v) = v := by
 unfold Wd
 apply BitVec.eq_of_toNat_eq
 simp
theorem Wd.inj {u v : BitVec 64} (h : Wd u = Wd v) : u = v := by rw [← Q138 u, h, Q138]
theorem Q217 (v : BitVec 64) : IntKind.u64.wrap (v.toNat : Int) = Wd v := wrapu (Wd.lt v).1 (Wd.lt v).2
theorem bor_wd (u v : BitVec 64) : bor .u64 (Wd u) (Wd v) = Wd (u ||| v) := by
 show IntKind.u64.wrap ((BitVec.ofInt 64 (Wd u) ||| BitVec.ofInt 64 (Wd v)).toNat : Int) = _
 rw [Q138, Q138, Q217]
theorem Q186 (u v : BitVec 64) : band .u64 (Wd u) (Wd v) = Wd (u &&& v) := by
 show IntKind.u64.wrap ((BitVec.ofInt 64 (Wd u) &&& BitVec.ofInt 64 (Wd v)).toNat : Int) = _
 rw [Q138, Q138, Q217]
theorem Q295 (u v : BitVec 64) : bandnot .u64 (Wd u) (Wd v) = Wd (u &&& ~~~ v) := by
 show IntKind.u64.wrap ((BitVec.ofInt 64 (Wd u) &&& ~~~ BitVec.ofInt 64 (Wd v)).toNat : Int) = _
 rw [Q138, Q138, Q217]
theorem shl_one {s : Int} (h0 : 0 ≤ s) (h1 : s < 64) : Bw.shl .u64 1 s = Wd (BitVec.twoPow 64 s.toNat) := by
 have hs : min s.toNat IntKind.u64.bits = s.toNat := Nat.min_eq_left (show s.toNat ≤ 64 by omega)
 have hp : 2 ^ s.toNat < 2 ^ 64 := Nat.pow_lt_pow_right (by decide) (by omega)
 unfold Bw.shl Wd
 have e : (2 : Int) ^ s.toNat = ((2 ^ s.toNat : Nat) : Int) := by rw [Int.natCast_pow]; rfl
 rw [hs, Int.one_mul, BitVec.toNat_twoPow, Nat.mod_eq_of_lt hp, e]
 have h2 : (2 : Nat) ^ 64 = 18446744073709551616 := by rfl
 rw [h2] at hp
 generalize (2 : Nat) ^ s.toNat = q at hp
 exact wrapu (by omega) (by omega)
theorem shr6 {n : Int} (h0 : 0 ≤ n) : Bw.shr .i64 n 6 = n / 64 := by
 show n.fdiv (2 ^ 6) = n / 64
 rw [Int.fdiv_eq_ediv_of_nonneg _ (by decide)]
 rfl
theorem band63 {n : Int} (h0 : 0 ≤ n) (h1 : n ≤ 9223372036854775807) : band .i64 n 63 = n % 64 := by
 show IntKind.i64.wrap ((BitVec.ofInt 64 n &&& BitVec.ofInt 64 63).toNat : Int) = _
 have e1 : (BitVec.ofInt 64 n).toNat = n.toNat := by rw [BitVec.toNat_ofInt]; omega
 have e2 : (BitVec.ofInt 64 63).toNat = 2 ^ 6 - 1 := by rfl
 rw [BitVec.toNat_and, e1, e2, Nat.and_two_pow_sub_one_eq_mod, wrap64 (by omega) (by omega)]
 omega
structure W4 where
 a : BitVec 64
 b : BitVec 64
 c : BitVec 64
 d : BitVec 64
def W4.sel (u : W4) (k : Int) : BitVec 64 := if k = 0 then u.a else if k = 1 then u.b else if k = 2 then u.c else u.d
def W4.has (u : W4) (n : Int) : Bool := (u.sel (n / 64)).getLsbD (n % 64).toNat
def W4.Rep (u : W4) (S : Int → Prop) : Prop := ∀ n, 0 ≤ n → n < 256 → (u.has n = true ↔ S n)
def W4.z : W4 := ⟨0#64, 0#64, 0#64, 0#64⟩
theorem W4.z_rep : W4.z.Rep (fun _ => False) := fun n h0 h1 => by
 unfold W4.has W4.sel W4.z
 dsimp only
 split
 ·simp
 ·split
  ·simp
  ·split <;> simp
theorem W4.ext4 {u v : W4} (h : ∀ n, 0 ≤ n → n < 256 → u.has n = v.has n) : u = v := by
 have key : ∀ k : Int, 0 ≤ k → k < 4 → u.sel k = v.sel k := fun k h0 h1 => by
  apply BitVec.eq_of_getLsbD_eq
  intro i hi
  have := h (64 * k + i) (by omega) (by omega)
  unfold W4.has at this
  rwa [show (64 * k + (i : Int)) / 64 = k from by omega, show ((64 * k + (i : Int)) % 64).toNat = i from by omega] at this
 have k0 := key 0 (by decide) (by decide)
 have k1 := key 1 (by decide) (by decide)
 have k2 := key 2 (by decide) (by decide)
 have k3 := key 3 (by decide) (by decide)
 cases u
 cases v
 simp [W4.sel] at k0 k1 k2 k3
 rw [k0, k1, k2, k3]
def W4.put (u : W4) (n : Int) : W4 :=
 if n / 64 = 0 then { u with a := u.a ||| BitVec.twoPow 64 (n % 64).toNat } else if n / 64 = 1 then { u with b := u.b ||| BitVec.twoPow 64 (n % 64).toNat }
 else if n / 64 = 2 then { u with c := u.c ||| BitVec.twoPow 64 (n % 64).toNat } else { u with d := u.d ||| BitVec.twoPow 64 (n % 64).toNat }
theorem W4.put_rep {u : W4} {S : Int → Prop} (h : u.Rep S) {n : Int} (h0 : 0 ≤ n) (h1 : n < 256) : (u.put n).Rep (fun m => S m ∨ m = n) := fun m m0 m1 => by
 show _ ↔ S m ∨ m = n
 rw [← h m m0 m1]
 have key : ∀ (w : BitVec 64), (w ||| BitVec.twoPow 64 (n % 64).toNat).getLsbD (m % 64).toNat = (w.getLsbD (m % 64).toNat || decide (m % 64 = n % 64)) := fun w => by
  rw [BitVec.getLsbD_or, BitVec.getLsbD_twoPow]
  congr 1
  have : (m % 64).toNat < 64 := by omega
  rw [Bool.eq_iff_iff]
  simp [this]
  omega
 unfold W4.put W4.has W4.sel
 have hn : n / 64 = 0 ∨ n / 64 = 1 ∨ n / 64 = 2 ∨ n / 64 = 3 := by omega
 have hm : m / 64 = 0 ∨ m / 64 = 1 ∨ m / 64 = 2 ∨ m / 64 = 3 := by omega
 by_cases e : m / 64 = n / 64
 ·have hmn : (m = n) ↔ m % 64 = n % 64 := by omega
  rw [e, hmn]
  rcases hn with hn | hn | hn | hn <;> simp [hn, key]
 ·have hmn : ¬ m = n := fun h => e (by rw [h])
  rw [or_iff_left hmn]
  rcases hn with hn | hn | hn | hn <;> rcases hm with hm | hm | hm | hm <;> first
   | exact absurd (hm.trans hn.symm) e
   | simp [hn, hm]
def W4.t (u : W4) : Int × Int × Int × Int := (Wd u.a, Wd u.b, Wd u.c, Wd u.d)
end Go.Bw
namespace Go.Bw
open Go Go.RowKit

theorem Q189 {u : W4} {n : Int} : Q72.f (Wd u.a) (Wd u.b) (Wd u.c) (Wd u.d) n = some (if 0 ≤ n ∧ n < 256 then u.put n else u).t := by
 unfold Q72.f
 by_cases h0 : 0 ≤ n
 ·rw [if_pos h0, Q16]
  by_cases h1 : n < 256
  ·have hm : IntKind.u64.wrap (band .i64 n 63) = n % 64 := by rw [band63 h0 (by omega), wrapu (by omega) (by omega)]
   rw [if_pos (decide_eq_true h1), shr6 h0, hm, shl_one (by omega) (by omega), if_pos (by omega), if_pos (show 0 ≤ n ∧ n < 256 from ⟨h0, h1⟩)]
   have hn : (0 : Int) ≤ n % 64 := by omega
   simp only [if_pos hn, bor_wd]
   unfold W4.put W4.t
   by_cases k0 : n / 64 = 0
   ·rw [if_pos k0, if_pos k0]
   ·by_cases k1 : n / 64 = 1
    ·rw [if_neg k0, if_neg k0, if_pos k1, if_pos k1]
    ·by_cases k2 : n / 64 = 2
     ·rw [if_neg k0, if_neg k0, if_neg k1, if_neg k1, if_pos k2, if_pos k2]
     ·rw [if_neg k0, if_neg k0, if_neg k1, if_neg k1, if_neg k2, if_neg k2]
  ·rw [if_neg (by simp; omega), if_neg (by omega)]
   rfl
 ·rw [if_neg h0, Q16, if_neg (by simp), if_neg (by omega)]
  rfl
theorem of_run4 {l : List Int} (hl : (l.length : Int) ≤ 9223372036854775807) : ∃ u : W4, Q46.f l = some u.t ∧ u.Rep (· ∈ l) := by
 obtain ⟨r, hr, u, rfl, h⟩ := Q66 (body := fun t_ : Int × Int × Int × Int × Int => Q46.l0b l t_.1 t_.2.1 t_.2.2.1 t_.2.2.2.1 t_.2.2.2.2)
  (fun s => 0 ≤ s.2.2.2.2 ∧ s.2.2.2.2 ≤ (l.length : Int) ∧ ∃ u : W4, (s.1, s.2.1, s.2.2.1, s.2.2.2.1) = u.t ∧ u.Rep (· ∈ l.take s.2.2.2.2.toNat))
  (fun r => ∃ u : W4, r = .inl u.t ∧ u.Rep (· ∈ l)) (fun s => (l.length - s.2.2.2.2).toNat)
  (fun ⟨w0, w1, w2, w3, i⟩ ⟨a0, a1, u, a2, a3⟩ => by
   dsimp only at a0 a1 a2 a3 ⊢
   simp only [W4.t, Prod.mk.injEq] at a2
   obtain ⟨rfl, rfl, rfl, rfl⟩ := a2
   unfold Q46.l0b
   by_cases hi : i < (l.length : Int)
   ·right
    rw [if_pos hi, if_pos ⟨a0, hi⟩, Q189, wrap64 (x := i + 1) (by omega) (by omega)]
    refine ⟨_, rfl, ⟨by dsimp only; omega, by dsimp only; omega, _, rfl, fun n n0 n1 => ?_⟩, by dsimp only; omega⟩
    dsimp only
    rw [show (i + 1).toNat = i.toNat + 1 from by omega, List.take_add_one, Q88 a0 hi, List.mem_append]
    simp only [Option.toList_some, List.mem_singleton]
    by_cases hg : 0 ≤ gt l i ∧ gt l i < 256
    ·rw [if_pos hg]
     exact W4.put_rep a3 hg.1 hg.2 n n0 n1
    ·rw [if_neg hg, a3 n n0 n1]
     exact ⟨.inl, fun h => h.elim id fun h => absurd (h ▸ ⟨n0, n1⟩) hg⟩
   ·left
    rw [if_neg hi]
    refine ⟨_, rfl, u, rfl, ?_⟩
    rwa [List.take_of_length_le (by omega)] at a3) (0, 0, 0, 0, 0) ⟨Int.le_refl _, by dsimp only; omega, W4.z, rfl, fun n n0 n1 => by
     dsimp only
     rw [W4.z_rep n n0 n1]
     simp⟩
 refine ⟨u, ?_, h⟩
 unfold Q46.f
 have hl : Q46.l0 l 0 0 0 0 0 = some (.inl u.t) := hr
 rw [hl, Q16]
end Go.Bw
namespace Go.Bw
open Go Go.RowKit

theorem shr_wd (v : BitVec 64) {s : Int} (h0 : 0 ≤ s) (h1 : s < 64) : Bw.shr .u64 (Wd v) s = Wd (v >>> s.toNat) := by
 have hs : min s.toNat IntKind.u64.bits = s.toNat := Nat.min_eq_left (show s.toNat ≤ 64 by omega)
 unfold Bw.shr Wd
 rw [hs, Int.fdiv_eq_ediv_of_nonneg _ (Int.pow_nonneg (by decide)), BitVec.toNat_ushiftRight, Nat.shiftRight_eq_div_pow]
 have : (2 : Int) ^ s.toNat = ((2 ^ s.toNat : Nat) : Int) := by rw [Int.natCast_pow]; rfl
 rw [this]
 rfl
theorem wd_zero {v : BitVec 64} : Wd v = 0 ↔ v = 0#64 := by
 constructor
 ·intro h; exact Wd.inj (h.trans rfl)
 ·rintro rfl; rfl
theorem bit_wd (v : BitVec 64) {s : Int} (h0 : 0 ≤ s) (h1 : s < 64) : band .u64 (Bw.shr .u64 (Wd v) s) 1 = 1 ↔ v.getLsbD s.toNat = true := by
 rw [shr_wd v h0 h1, show (1 : Int) = Wd 1#64 from rfl, Q186]
 constructor
 ·intro h
  have := Wd.inj h
  have h2 := congrArg (fun z => z.getLsbD 0) this
  simpa using h2
 ·intro h
  congr 1
  apply BitVec.eq_of_getLsbD_eq
  intro i hi
  rw [BitVec.getLsbD_and, BitVec.getLsbD_ushiftRight]
  by_cases hi0 : i = 0
  ·subst hi0; simp [h]
  ·have : (1#64).getLsbD i = false := by simp [hi0]
   rw [this]; simp
theorem Q226 {κ ν : Type} [DecidableEq κ] : ∀ (m : List (κ × ν)) (k k' : κ) (v : ν), mget (mset m k v) k' = if k = k' then some v else mget m k'
 | [], k, k', v => by unfold mset mget; split <;> rfl
 | p :: r, k, k', v => by
  unfold mset
  by_cases h : p.1 = k
  ·rw [if_pos h]
   unfold mget
   by_cases h2 : k = k'
   ·simp [h2]
   ·rw [if_neg h2, if_neg h2, if_neg (fun h3 => h2 (h.symm.trans h3))]
  ·rw [if_neg h]
   unfold mget
   by_cases h2 : p.1 = k'
   ·rw [if_pos h2, if_pos h2, if_neg (fun h3 => h (h2.trans h3.symm))]
   ·rw [if_neg h2, if_neg h2, Q226 r k k' v]
def Hit (x : List Bs) (E : List Q3) (k : Q7) (t : Int) : Prop := ∃ e ∈ E, e.From = k.from_ ∧ e.To = t ∧ (gt x e.Action = k.action ∨ k.action = [45])
abbrev set0 : Q2 := ⟨(0 : Int), (0 : Int), (0 : Int), (0 : Int)⟩
def W4.s (u : W4) : Q2 := ⟨Wd u.a, Wd u.b, Wd u.c, Wd u.d⟩
def Nx (x : List Bs) (E : List Q3) (m : List (Q7 × Q2)) : Prop := ∀ k, ∃ u : W4, (mget m k).getD set0 = u.s ∧ u.Rep (Hit x E k)
theorem put_hit {m : List (Q7 × Q2)} {S : Q7 → Int → Prop} (h : ∀ k, ∃ u : W4, (mget m k).getD set0 = u.s ∧ u.Rep (S k)) {k0 : Q7} {t : Int} (h0 : 0 ≤ t) (h1 : t < 256) {u : W4} (hu : (mget m k0).getD set0 = u.s) :
 ∀ k, ∃ u' : W4, (mget (mset m k0 (u.put t).s) k).getD set0 = u'.s ∧ u'.Rep (fun n => S k n ∨ k0 = k ∧ n = t) := fun k => by
 rw [Q226]
 by_cases hk : k0 = k
 ·subst hk
  rw [if_pos rfl]
  obtain ⟨v, hv, hr⟩ := h k0
  rw [hu] at hv
  have : u = v := by
   cases u; cases v
   simp only [W4.s, Q2.mk.injEq] at hv
   rw [Wd.inj hv.1, Wd.inj hv.2.1, Wd.inj hv.2.2.1, Wd.inj hv.2.2.2]
  subst this
  refine ⟨u.put t, rfl, fun n n0 n1 => ?_⟩
  rw [W4.put_rep hr h0 h1 n n0 n1]
  simp
 ·rw [if_neg hk]
  obtain ⟨v, hv, hr⟩ := h k
  refine ⟨v, hv, fun n n0 n1 => ?_⟩
  rw [hr n n0 n1]
  simp [hk]
theorem l2_run (x : List Bs) (y : List Q3) {j : Int} (hj : 0 ≤ j) (hj2 : j < (y.length : Int)) {E : List Q3} {m : List (Q7 × Q2)} (hm : Nx x E m) (ht : 0 ≤ (gt y j).To ∧ (gt y j).To < 256) :
 ∃ m', Q17.l2 x y j m 0 = some (.inl m') ∧ Nx x (E ++ [gt y j]) m' := by
 unfold Q17.l2
 rw [Q67]
 have w1 : IntKind.i64.wrap (0 + 1) = 1 := wrap64 (by decide) (by decide)
 have w2 : IntKind.i64.wrap (1 + 1) = 2 := wrap64 (by decide) (by decide)
 have g0 : gt [gt x (gt y j).Action, ([45] : Bs)] 0 = gt x (gt y j).Action := rfl
 have g1 : gt [gt x (gt y j).Action, ([45] : Bs)] 1 = [45] := rfl
 obtain ⟨u1, e1, r1⟩ := hm ⟨(gt y j).From, gt x (gt y j).Action⟩
 have s1 := put_hit hm ht.1 ht.2 e1
 obtain ⟨u2, e2, r2⟩ := s1 ⟨(gt y j).From, [45]⟩
 have s2 := put_hit s1 ht.1 ht.2 e2
 refine ⟨mset (mset m ⟨(gt y j).From, gt x (gt y j).Action⟩ (u1.put (gt y j).To).s) ⟨(gt y j).From, [45]⟩ (u2.put (gt y j).To).s, ?_, fun k => ?_⟩
 rotate_left
 ·obtain ⟨u3, e3, r3⟩ := s2 k
  refine ⟨u3, e3, fun n n0 n1 => ?_⟩
  rw [r3 n n0 n1]
  unfold Hit
  constructor
  ·rintro ((⟨e, he, q⟩ | ⟨rfl, rfl⟩) | ⟨rfl, rfl⟩)
   ·exact ⟨e, by simp [he], q⟩
   ·exact ⟨gt y j, by simp, rfl, rfl, .inl rfl⟩
   ·exact ⟨gt y j, by simp, rfl, rfl, .inr rfl⟩
  ·rintro ⟨e, he, q1, q2, q3⟩
   rcases List.mem_append.1 he with he | he
   ·exact .inl (.inl ⟨e, he, q1, q2, q3⟩)
   ·simp at he
    subst he
    rcases q3 with q3 | q3
    ·exact .inl (.inr ⟨by rw [q1, q3], q2.symm⟩)
    ·exact .inr ⟨by rw [q1, ← q3], q2.symm⟩
 ·simp only [Q17.l2b]
  rw [if_pos (by simp), if_pos (by simp), g0, e1]
  simp only [W4.s, Q189, if_pos ht, Option.bind_some, nx, w1]
  rw [Q67]
  simp only [Q17.l2b]
  rw [if_pos (by simp), if_pos (by simp), g1]
  have e2' : (mget (mset m ({ from_ := (gt y j).From, action := gt x (gt y j).Action } : Q7) ({ c0 := (u1.put (gt y j).To).t.1, c1 := (u1.put (gt y j).To).t.2.1, c2 := (u1.put (gt y j).To).t.2.2.1, c3 := (u1.put (gt y j).To).t.2.2.2 } : Q2)) { from_ := (gt y j).From, action := [45] }).getD set0 = u2.s := e2
  rw [e2']
  simp only [W4.s, Q189, if_pos ht, Option.bind_some, nx, w2]
  rw [Q67]
  simp only [Q17.l2b]
  rw [if_neg (by simp)]
  rfl
theorem l1_run (n : Int) (x : List Bs) (y : List Q3) (hy : (y.length : Int) ≤ 9223372036854775807) (he : ∀ e ∈ y, EdgeIn n x.length e) (hn : n ≤ 24) :
 ∃ m, Q17.l1 x y [] 0 = some (.inl m) ∧ Nx x y m := by
 obtain ⟨r, hr, m, rfl, hm⟩ := Q66 (body := fun t_ : List (Q7 × Q2) × Int => Q17.l1b x y t_.1 t_.2) (fun s => 0 ≤ s.2 ∧ s.2 ≤ (y.length : Int) ∧ Nx x (y.take s.2.toNat) s.1)
  (fun r => ∃ m, r = .inl m ∧ Nx x y m) (fun s => ((y.length : Int) - s.2).toNat) (fun ⟨m, i⟩ ⟨h0, h1, h2⟩ => by
   dsimp only at h0 h1 h2 ⊢
   unfold Q17.l1b
   by_cases hi : i < (y.length : Int)
   ·right
    have hE := he _ (Q68 h0 hi)
    obtain ⟨m', hm', hx⟩ := l2_run x y h0 hi h2 ⟨hE.2.2.1, by have := hE.2.2.2.1; omega⟩
    rw [if_pos hi, if_pos ⟨h0, hi⟩, if_pos hE.2.2.2.2, hm', Q16, wrap64 (x := i + 1) (by omega) (by omega)]
    refine ⟨_, rfl, ⟨by dsimp only; omega, by dsimp only; omega, ?_⟩, by dsimp only; omega⟩
    dsimp only
    rw [show (i + 1).toNat = i.toNat + 1 from by omega, List.take_add_one, Q88 h0 hi]
    exact hx
   ·left
    rw [if_neg hi]
    refine ⟨_, rfl, m, rfl, ?_⟩
    rwa [List.take_of_length_le (by omega)] at h2) ([], 0) ⟨Int.le_refl _, by dsimp only; omega, fun k => ⟨W4.z, rfl, fun n n0 n1 => by
     rw [W4.z_rep n n0 n1]
     simp [Hit]⟩⟩
 exact ⟨m, hr, hm⟩
end Go.Bw
namespace Go.Bw
open Go Go.RowKit

def Hx (z : List Q4) (m : List (Bs × Q2)) : Prop := ∀ k, ∃ u : W4, (mget m k).getD set0 = u.s ∧ u.Rep (fun t => ∃ p ∈ z, p.Name = k ∧ t ∈ p.States)
theorem Q271 (z : List Q4) (hz : (z.length : Int) ≤ 9223372036854775807) (hs : ∀ p ∈ z, (p.States.length : Int) ≤ 9223372036854775807) (hd : ∀ i j : Int, 0 ≤ i → i < j → j < (z.length : Int) → (gt z i).Name ≠ (gt z j).Name) :
 ∃ m, Q17.l0 z [] 0 = some (.inl m) ∧ Hx z m := by
 obtain ⟨r, hr, m, rfl, hm⟩ := Q66 (body := fun t_ : List (Bs × Q2) × Int => Q17.l0b z t_.1 t_.2) (fun s => 0 ≤ s.2 ∧ s.2 ≤ (z.length : Int) ∧ Hx (z.take s.2.toNat) s.1)
  (fun r => ∃ m, r = .inl m ∧ Hx z m) (fun s => ((z.length : Int) - s.2).toNat) (fun ⟨m, i⟩ ⟨h0, h1, h2⟩ => by
   dsimp only at h0 h1 h2 ⊢
   unfold Q17.l0b
   by_cases hi : i < (z.length : Int)
   ·right
    obtain ⟨u, hu, hur⟩ := of_run4 (hs _ (Q68 h0 hi))
    rw [if_pos hi, if_pos ⟨h0, hi⟩, hu, wrap64 (x := i + 1) (by omega) (by omega)]
    refine ⟨_, rfl, ⟨by dsimp only; omega, by dsimp only; omega, fun k => ?_⟩, by dsimp only; omega⟩
    dsimp only
    rw [show (i + 1).toNat = i.toNat + 1 from by omega, List.take_add_one, Q88 h0 hi, Q226]
    by_cases hk : (gt z i).Name = k
    ·rw [if_pos hk]
     refine ⟨u, rfl, fun n n0 n1 => ?_⟩
     rw [hur n n0 n1]
     constructor
     ·intro h; exact ⟨gt z i, by simp, hk, h⟩
     ·rintro ⟨p, hp, e1, e2⟩
      rcases List.mem_append.1 hp with hp | hp
      ·obtain ⟨q, hq, rfl⟩ := List.getElem_of_mem hp
       have hq' : q < i.toNat := by simp at hq; omega
       have hq2 : q < z.length := by simp at hq; omega
       have := hd q i (by omega) (by omega) hi
       rw [Q106 (List.getElem?_eq_getElem hq2)] at this
       simp only [List.getElem_take] at e1
       exact absurd (e1.trans hk.symm) this
      ·simp at hp; subst hp; exact e2
    ·rw [if_neg hk]
     obtain ⟨v, hv, hvr⟩ := h2 k
     refine ⟨v, hv, fun n n0 n1 => ?_⟩
     rw [hvr n n0 n1]
     constructor
     ·rintro ⟨p, a, b⟩; exact ⟨p, by simp [a], b⟩
     ·rintro ⟨p, a, b, c⟩
      rcases List.mem_append.1 a with a | a
      ·exact ⟨p, a, b, c⟩
      ·simp at a; subst a; exact absurd b hk
   ·left
    rw [if_neg hi]
    rw [List.take_of_length_le (by omega)] at h2
    exact ⟨_, rfl, m, rfl, h2⟩) ([], 0) ⟨Int.le_refl _, by dsimp only; omega, fun k => ⟨W4.z, rfl, fun n n0 n1 => by
     rw [W4.z_rep n n0 n1]
     simp⟩⟩
 exact ⟨m, hr, hm⟩
end Go.Bw
namespace Go.Bw
open Go Go.RowKit

theorem Q269 {α : Type} [DecidableEq α] : ∀ {a b : List α}, a.Nodup → (∀ x ∈ a, x ∈ b) → a.length ≤ b.length
 | [], b, _, _ => Nat.zero_le _
 | x :: a, b, hn, hs => by
  rw [List.nodup_cons] at hn
  have hx := hs x (.head _)
  have h1 := List.length_erase_of_mem hx
  have h2 : 0 < b.length := List.length_pos_of_mem hx
  have h3 := Q269 (a := a) (b := b.erase x) hn.2 fun y hy => (List.mem_erase_of_ne (fun e => hn.1 (by subst e; exact hy))).2 (hs y (.tail _ hy))
  rw [List.length_cons]
  omega
theorem rise_of {α : Type} [Inhabited α] {lt : α → α → Prop} {a : List α} (h : a.Pairwise lt) : Rise lt a := fun i i0 i1 => by
 have h1 := Q88 (xs := a) (i := i - 1) (by omega) (by omega)
 have h2 := Q88 (xs := a) (i := i) (by omega) i1
 rw [List.getElem?_eq_getElem (by omega)] at h1 h2
 have := List.pairwise_iff_getElem.1 h (i - 1).toNat i.toNat (by omega) (by omega) (by omega)
 rw [Option.some.inj h1, Option.some.inj h2] at this
 exact this
section
variable {n : Int} {x : List Bs} {y : List Q3} {z : List Q4} {next : List (Q7 × Q2)} {holds : List (Bs × Q2)}
noncomputable def nxW (hx : Nx x y next) (s : Int) (a : Bs) : W4 := (hx ⟨s, a⟩).choose
theorem nxW_rep (hx : Nx x y next) (s : Int) (a : Bs) : (nxW hx s a).Rep (Hit x y ⟨s, a⟩) := (hx ⟨s, a⟩).choose_spec.2
theorem nxW_run (hx : Nx x y next) (n : Int) (holds : List (Bs × Q2)) (s : Int) (a : Bs) : Q119.f n holds next s a = some (nxW hx s a).t := by
 have h := (hx ⟨s, a⟩).choose_spec.1
 unfold Q119.f
 rw [h]
 rfl
noncomputable def tn6 (hx : Nx x y next) (n f a : Int) : List Q3 := ((List.range n.toNat).filter fun j => (nxW hx f (gt x a)).has (n - 1 - (j : Nat))).map fun j : Nat => ⟨n - 1 - f, a, (j : Int)⟩
noncomputable def tn5 (hx : Nx x y next) (n f : Int) : List Q3 := (List.range x.length).flatMap fun a : Nat => tn6 hx n f a
noncomputable def tn0 (hx : Nx x y next) (n : Int) : List Q3 := (List.range n.toNat).flatMap fun i : Nat => tn5 hx n (n - 1 - i)
theorem Q169 (hx : Nx x y next) (hn : 0 ≤ n ∧ n ≤ 24) {f a : Int} {e : Q3} : e ∈ tn6 hx n f a ↔ e.From = n - 1 - f ∧ e.Action = a ∧ 0 ≤ e.To ∧ e.To < n ∧ Hit x y ⟨f, gt x a⟩ (n - 1 - e.To) := by
 unfold tn6
 rw [List.mem_map]
 constructor
 ·rintro ⟨j, hj, rfl⟩
  rw [List.mem_filter, List.mem_range] at hj
  refine ⟨rfl, rfl, by dsimp only; omega, by dsimp only; omega, ?_⟩
  have hb : 0 ≤ n - 1 - (j : Int) ∧ n - 1 - (j : Int) < 256 := by omega
  exact (nxW_rep hx f (gt x a) _ hb.1 hb.2).1 hj.2
 ·rintro ⟨h1, h2, h3, h4, h5⟩
  refine ⟨e.To.toNat, List.mem_filter.2 ⟨List.mem_range.2 (by omega), ?_⟩, ?_⟩
  ·rw [show ((e.To.toNat : Nat) : Int) = e.To from by omega]
   exact (nxW_rep hx f (gt x a) _ (by omega) (by omega)).2 h5
  ·cases e
   simp only [Q3.mk.injEq] at *
   exact ⟨h1.symm, h2.symm, by omega⟩
theorem tn0_mem (hx : Nx x y next) (hn : 0 ≤ n ∧ n ≤ 24) {e : Q3} : e ∈ tn0 hx n ↔ (0 ≤ e.From ∧ e.From < n) ∧ (0 ≤ e.Action ∧ e.Action < (x.length : Int)) ∧ (0 ≤ e.To ∧ e.To < n) ∧ Hit x y ⟨n - 1 - e.From, gt x e.Action⟩ (n - 1 - e.To) := by
 unfold tn0 tn5
 rw [List.mem_flatMap]
 constructor
 ·rintro ⟨i, hi, h⟩
  rw [List.mem_flatMap] at h
  obtain ⟨a, ha, h⟩ := h
  obtain ⟨h1, h2, h3, h4, h5⟩ := (Q169 hx hn).1 h
  rw [List.mem_range] at hi ha
  have hf : n - 1 - (i : Int) = n - 1 - e.From := by omega
  rw [hf, ← h2] at h5
  exact ⟨by omega, by omega, ⟨h3, h4⟩, h5⟩
 ·rintro ⟨h1, h2, h3, h4⟩
  refine ⟨e.From.toNat, List.mem_range.2 (by omega), List.mem_flatMap.2 ⟨e.Action.toNat, List.mem_range.2 (by omega), (Q169 hx hn).2 ⟨by omega, by omega, h3.1, h3.2, ?_⟩⟩⟩
  rw [show ((e.From.toNat : Nat) : Int) = e.From from by omega, show ((e.Action.toNat : Nat) : Int) = e.Action from by omega]
  exact h4
theorem tn6_pw (hx : Nx x y next) (n f a : Int) : (tn6 hx n f a).Pairwise edgeLt := by
 unfold tn6
 rw [List.pairwise_map]
 refine ((List.pairwise_lt_range (n := n.toNat)).filter _).imp fun {i j} h => ?_
 unfold edgeLt
 dsimp only
 omega
theorem tn0_pw (hx : Nx x y next) (hn : 0 ≤ n ∧ n ≤ 24) : (tn0 hx n).Pairwise edgeLt := by
 have h5 : ∀ f, (tn5 hx n f).Pairwise edgeLt := fun f => by
  unfold tn5
  rw [List.pairwise_flatMap]
  refine ⟨fun a _ => tn6_pw hx n f a, (List.pairwise_lt_range (n := x.length)).imp fun {a b} h u hu v hv => ?_⟩
  have h1 := (Q169 hx hn).1 hu
  have h2 := (Q169 hx hn).1 hv
  unfold edgeLt
  omega
 unfold tn0
 rw [List.pairwise_flatMap]
 refine ⟨fun i _ => h5 _, (List.pairwise_lt_range (n := n.toNat)).imp fun {i j} h u hu v hv => ?_⟩
 unfold tn5 at hu hv
 obtain ⟨a, _, hu⟩ := List.mem_flatMap.1 hu
 obtain ⟨b, _, hv⟩ := List.mem_flatMap.1 hv
 have h1 := (Q169 hx hn).1 hu
 have h2 := (Q169 hx hn).1 hv
 unfold edgeLt
 omega
theorem Q282 (h : Rise BLt x) {i j : Int} (h0 : 0 ≤ i) (h1 : i < j) (h2 : j < (x.length : Int)) : gt x i ≠ gt x j := by
 have key : ∀ k : Nat, i + k + 1 < (x.length : Int) → BLt (gt x i) (gt x (i + k + 1)) := fun k => by
  induction k with
  | zero =>
   intro hk
   have := h (i + 1) (by omega) (by omega)
   rw [show i + 1 - 1 = i from by omega] at this
   rw [show i + ((0 : Nat) : Int) + 1 = i + 1 from by omega]
   exact this
  | succ k ih =>
   intro hk
   have h3 := ih (by omega)
   have h4 := h (i + (k + 1 : Nat) + 1) (by omega) (by omega)
   rw [show i + ((k + 1 : Nat) : Int) + 1 - 1 = i + k + 1 from by omega] at h4
   exact Q176 h3 h4
 have := key (j - i - 1).toNat (by omega)
 rw [show i + ((j - i - 1).toNat : Int) + 1 = j from by omega] at this
 intro e
 rw [e] at this
 unfold BLt at this
 rw [Q204] at this
 omega
theorem names_eq (h : Rise BLt x) {i j : Int} (h0 : 0 ≤ i) (h1 : i < (x.length : Int)) (h2 : 0 ≤ j) (h3 : j < (x.length : Int)) (e : gt x i = gt x j) : i = j := by
 rcases Int.lt_trichotomy i j with hl | hl | hl
 ·exact absurd e (Q282 h h0 hl h3)
 ·exact hl
 ·exact absurd e.symm (Q282 h h2 hl h1)
theorem name_any {s : Bs} (h : NameS s) : s ≠ [45] := fun e => by
 have h1 : 97 ≤ bat s 0 := h.2.2.1
 subst e
 exact absurd h1 (by decide)
theorem hit_iff (R : RightS n x y z) {a s t : Int} (a0 : 0 ≤ a) (a1 : a < (x.length : Int)) : Hit x y ⟨s, gt x a⟩ t ↔ ⟨s, a, t⟩ ∈ y := by
 unfold Hit
 constructor
 ·rintro ⟨e, he, h1, h2, h3⟩
  have hE := R.ed e he
  unfold EdgeIn at hE
  have h4 : gt x e.Action = gt x a := h3.elim id fun q => absurd q (name_any (R.nm _ (Q68 a0 a1)))
  have h5 := names_eq R.rx (by omega) (by omega) a0 a1 h4
  have : (⟨s, a, t⟩ : Q3) = e := by cases e; simp only [Q3.mk.injEq] at *; exact ⟨h1.symm, h5.symm, h2.symm⟩
  rw [this]; exact he
 ·intro h
  exact ⟨_, h, rfl, rfl, .inl rfl⟩
def rvE (n : Int) (e : Q3) : Q3 := ⟨n - 1 - e.From, e.Action, n - 1 - e.To⟩
def rvP (n : Int) (p : Q4) : Q4 := ⟨p.Name, p.States.reverse.map fun s => n - 1 - s⟩
theorem Q187 (R : RightS n x y z) (hx : Nx x y next) {e : Q3} : e ∈ tn0 hx n ↔ rvE n e ∈ y := by
 have n0 := R.n0
 have n1 := R.n1
 rw [tn0_mem hx ⟨by omega, n1⟩]
 constructor
 ·rintro ⟨h1, h2, h3, h4⟩
  exact (hit_iff R h2.1 h2.2).1 h4
 ·intro h
  have hE := R.ed _ h
  unfold EdgeIn rvE at hE
  dsimp only at hE
  refine ⟨by omega, by omega, by omega, (hit_iff R (by omega) (by omega)).2 h⟩
theorem Q333 (R : RightS n x y z) (hx : Nx x y next) : RightS n x (tn0 hx n) (z.map (rvP n)) := by
 have n0 := R.n0
 have n1 := R.n1
 have hpw := tn0_pw hx (n := n) ⟨by omega, n1⟩
 refine ⟨n0, n1, R.nx, by rw [List.length_map]; exact R.nz, ?_, fun e he => ?_, fun p hp => ?_, R.nm, fun k k0 k1 => ?_, rise_of hpw, R.rx, rise_mapp (lt := fun p q => BLt p.Name q.Name) (rvP n) R.rz fun u v h => h⟩
 ·have hnd : ((tn0 hx n).map (rvE n)).Nodup := by
   unfold List.Nodup
   rw [List.pairwise_map]
   refine hpw.imp fun {u v} h e => ?_
   unfold rvE at e
   simp only [Q3.mk.injEq] at e
   unfold edgeLt at h
   omega
  have := Q269 hnd (b := y) fun e he => by
   obtain ⟨e0, he0, rfl⟩ := List.mem_map.1 he
   exact (Q187 R hx).1 he0
  rw [List.length_map] at this
  have := R.ny
  omega
 ·have hE := R.ed _ ((Q187 R hx).1 he)
  unfold EdgeIn rvE at hE
  unfold EdgeIn
  dsimp only at hE
  omega
 ·obtain ⟨p0, hp0, rfl⟩ := List.mem_map.1 hp
  have hP := R.pr p0 hp0
  refine ⟨hP.1, fun s hs => ?_, rise_of ?_⟩
  ·unfold rvP at hs
   obtain ⟨s0, hs0, rfl⟩ := List.mem_map.1 hs
   have := hP.2.1 s0 (by simpa using hs0)
   omega
  ·unfold rvP
   dsimp only
   rw [List.pairwise_map, List.pairwise_reverse]
   have hup : p0.States.Pairwise (· < ·) := by
    rw [List.pairwise_iff_getElem]
    intro i j hi hj hij
    have key : ∀ k : Nat, i + k + 1 < p0.States.length → gt p0.States (i : Int) < gt p0.States ((i + k + 1 : Nat) : Int) := fun k => by
     induction k with
     | zero =>
      intro hk
      have := hP.2.2 ((i + 0 + 1 : Nat) : Int) (by omega) (by omega)
      rwa [show ((i + 0 + 1 : Nat) : Int) - 1 = (i : Int) from by omega] at this
     | succ k ih =>
      intro hk
      have h1 := ih (by omega)
      have h2 := hP.2.2 ((i + (k + 1) + 1 : Nat) : Int) (by omega) (by omega)
      rw [show ((i + (k + 1) + 1 : Nat) : Int) - 1 = ((i + k + 1 : Nat) : Int) from by omega] at h2
      exact Int.lt_trans h1 h2
    have := key (j - i - 1) (by omega)
    rw [show i + (j - i - 1) + 1 = j from by omega, Q106 (List.getElem?_eq_getElem hi), Q106 (List.getElem?_eq_getElem hj)] at this
    exact this
   exact hup.imp fun {u v} h => by omega
 ·obtain ⟨e, he, hk⟩ := R.us k k0 k1
  refine ⟨rvE n e, (Q187 R hx).2 ?_, hk⟩
  have : rvE n (rvE n e) = e := by cases e; unfold rvE; simp only [Q3.mk.injEq]; exact ⟨by omega, trivial, by omega⟩
  rw [this]; exact he
end
theorem Q201 {α : Type} {f : Nat → List α} {m : Nat} (h : ∀ i, (f i).length ≤ m) : ∀ k : Nat, ((List.range k).flatMap f).length ≤ k * m
 | 0 => by simp
 | k + 1 => by
  rw [List.range_succ, List.flatMap_append, List.length_append, Nat.succ_mul]
  have h1 := Q201 h k
  have h2 := h k
  have e : [k].flatMap f = f k := by simp
  rw [e]
  omega
theorem down_loop {α β ρ : Type} [Inhabited α] {L : List α} (f : α → β) {body : List β × Int → Option ((List β × Int) ⊕ (List β ⊕ ρ))} (acc : List β)
 (h1 : ∀ (a : List β) (k : Int), 0 ≤ k → k < (L.length : Int) → a.length ≤ acc.length + L.length → body (a, k) = some (.inl (a ++ [f (gt L k)], k - 1))) (h2 : ∀ (a : List β) (k : Int), k < 0 → body (a, k) = some (.inr (.inl a))) :
 iter body (acc, (L.length : Int) - 1) = some (.inl (acc ++ L.reverse.map f)) := by
 have key : ∀ (q : Nat) (a : List β), q ≤ L.length → a.length + q ≤ acc.length + L.length → iter body (a, (q : Int) - 1) = some (.inl (a ++ (L.take q).reverse.map f)) := fun q => by
  induction q with
  | zero =>
   intro a _ _
   rw [Q185 (h2 _ _ (by omega))]
   simp
  | succ q ih =>
   intro a hq ha
   have hlt : (q : Int) < (L.length : Int) := by omega
   have hb := h1 a (q : Int) (by omega) hlt (by omega)
   rw [show ((q + 1 : Nat) : Int) - 1 = (q : Int) from by omega, Q181 hb, ih _ (by omega) (by simp; omega), List.take_add_one, List.getElem?_eq_getElem (by omega)]
   have hg : gt L (q : Int) = L[q] := Q106 (List.getElem?_eq_getElem (by omega))
   rw [hg]
   simp only [Option.toList_some, List.reverse_append, List.reverse_singleton, List.singleton_append, List.map_cons, List.append_assoc]
 have := key L.length acc (Nat.le_refl _) (Nat.le_refl _)
 rwa [List.take_length] at this
end Go.Bw
namespace Go.Bw
open Go Go.RowKit

abbrev PS := Int → Prop
def Leafy (k : Int) : Prop := k = 1 ∨ k = 2 ∨ k = 3 ∨ k = 4 ∨ k = 12
def Modal (k : Int) : Prop := k = 8 ∨ k = 9
def Fixy (k : Int) : Prop := k = 10 ∨ k = 11
def Twoy (k : Int) : Prop := k = 6 ∨ k = 7
inductive Sb (f : List Q1) : Int → Int → Prop
 | leaf {n : Int} (h0 : 0 ≤ n) (h1 : n < f.length) (hk : Leafy (gt f n).Kind) : Sb f n n
 | not {l n : Int} (h1 : n < f.length) (hk : (gt f n).Kind = 5) (ha : (gt f n).A = n - 1) (s : Sb f l (n - 1)) : Sb f l n
 | modal {l n : Int} (h1 : n < f.length) (hk : Modal (gt f n).Kind) (ha : (gt f n).A = n - 1) (s : Sb f l (n - 1)) : Sb f l n
 | fix {l n : Int} (h1 : n < f.length) (hk : Fixy (gt f n).Kind) (ha : (gt f n).A = n - 1) (s : Sb f l (n - 1)) : Sb f l n
 | two {l m n : Int} (h1 : n < f.length) (hk : Twoy (gt f n).Kind) (ha : (gt f n).A = m) (hb : (gt f n).B = n - 1) (s : Sb f l m) (t : Sb f (m + 1) (n - 1)) : Sb f l n
theorem Sb.le {f : List Q1} {l n : Int} (s : Sb f l n) : 0 ≤ l ∧ l ≤ n ∧ n < f.length := by
 induction s with
 | leaf h0 h1 hk => omega
 | not h1 hk ha s ih => omega
 | modal h1 hk ha s ih => omega
 | fix h1 hk ha s ih => omega
 | two h1 hk ha hb s t ih1 ih2 => omega
inductive Bd (f : List Q1) (to : List Int) : List (Int × Bool) → Int → Int → Prop
 | var {sc : List (Int × Bool)} {n : Int} (h0 : 0 ≤ n) (h1 : n < f.length) (hk : (gt f n).Kind = 4) (hs : (gt to n, true) ∈ sc) : Bd f to sc n n
 | leaf {sc : List (Int × Bool)} {n : Int} (h0 : 0 ≤ n) (h1 : n < f.length) (hk : Leafy (gt f n).Kind) (h4 : (gt f n).Kind ≠ 4) : Bd f to sc n n
 | not {sc : List (Int × Bool)} {l n : Int} (h1 : n < f.length) (hk : (gt f n).Kind = 5) (ha : (gt f n).A = n - 1) (s : Bd f to (sc.map fun p => (p.1, !p.2)) l (n - 1)) : Bd f to sc l n
 | modal {sc : List (Int × Bool)} {l n : Int} (h1 : n < f.length) (hk : Modal (gt f n).Kind) (ha : (gt f n).A = n - 1) (s : Bd f to sc l (n - 1)) : Bd f to sc l n
 | fix {sc : List (Int × Bool)} {l n : Int} (h1 : n < f.length) (hk : Fixy (gt f n).Kind) (ha : (gt f n).A = n - 1) (s : Bd f to ((n, true) :: sc) l (n - 1)) : Bd f to sc l n
 | two {sc : List (Int × Bool)} {l m n : Int} (h1 : n < f.length) (hk : Twoy (gt f n).Kind) (ha : (gt f n).A = m) (hb : (gt f n).B = n - 1) (s : Bd f to sc l m) (t : Bd f to sc (m + 1) (n - 1)) : Bd f to sc l n
theorem Bd.le {f : List Q1} {to : List Int} {sc : List (Int × Bool)} {l n : Int} (s : Bd f to sc l n) : 0 ≤ l ∧ l ≤ n ∧ n < f.length := by
 induction s with
 | var h0 h1 hk hs => omega
 | leaf h0 h1 hk h4 => omega
 | not h1 hk ha s ih => omega
 | modal h1 hk ha s ih => omega
 | fix h1 hk ha s ih => omega
 | two h1 hk ha hb s t ih1 ih2 => omega
structure Ctx where
 N : Int
 holds : Bs → PS
 edge : Bs → Int → Int → Prop
def Ctx.all (C : Ctx) : PS := fun s => 0 ≤ s ∧ s < C.N
structure Ctx.Ok (C : Ctx) : Prop where
 holds : ∀ a s, C.holds a s → C.all s
 edge : ∀ a s t, C.edge a s t → C.all s ∧ C.all t
def updE (E : Int → PS) (n : Int) (S : PS) : Int → PS := fun m => if m = n then S else E m
theorem Q139 (E : Int → PS) (n : Int) (S : PS) : updE E n S n = S := if_pos rfl
theorem Q129 {E : Int → PS} {n m : Int} {S : PS} (h : m ≠ n) : updE E n S m = E m := if_neg h
def Le (S T : PS) : Prop := ∀ s, S s → T s
def lfp (F : PS → PS) : PS := fun s => ∀ S : PS, Le (F S) S → S s
def gfp (F : PS → PS) : PS := fun s => ∃ S : PS, Le S (F S) ∧ S s
def den (C : Ctx) (f : List Q1) (to : List Int) (n : Int) (E : Int → PS) : PS :=
 if (gt f n).Kind = 1 then C.all
 else if (gt f n).Kind = 3 then C.holds (gt f n).Name
 else if (gt f n).Kind = 12 then fun s => C.all s ∧ ¬ C.holds (gt f n).Name s
 else if (gt f n).Kind = 4 then E (gt to n)
 else if h : 0 ≤ (gt f n).A ∧ (gt f n).A < n then
  if (gt f n).Kind = 5 then fun s => C.all s ∧ ¬ den C f to (gt f n).A E s
  else if (gt f n).Kind = 8 then fun s => ∃ t, C.edge (gt f n).Name s t ∧ den C f to (gt f n).A E t
  else if (gt f n).Kind = 9 then fun s => C.all s ∧ ∀ t, C.edge (gt f n).Name s t → den C f to (gt f n).A E t
  else if (gt f n).Kind = 10 then lfp fun S => den C f to (gt f n).A (updE E n S)
  else if (gt f n).Kind = 11 then gfp fun S s => C.all s ∧ den C f to (gt f n).A (updE E n S) s
  else if h2 : 0 ≤ (gt f n).B ∧ (gt f n).B < n then
   if (gt f n).Kind = 6 then fun s => den C f to (gt f n).A E s ∧ den C f to (gt f n).B E s
   else if (gt f n).Kind = 7 then fun s => den C f to (gt f n).A E s ∨ den C f to (gt f n).B E s
   else fun _ => False
  else fun _ => False
 else fun _ => False
termination_by n.toNat
decreasing_by all_goals omega
section
variable {C : Ctx} {f : List Q1} {to : List Int} {n : Int} {E : Int → PS}
theorem Q165 (hk : (gt f n).Kind = 1) : den C f to n E = C.all := by rw [den, if_pos hk]
theorem Q162 (hk : (gt f n).Kind = 2) : den C f to n E = fun _ => False := by
 rw [den, hk]
 simp
theorem Q166 (hk : (gt f n).Kind = 3) : den C f to n E = C.holds (gt f n).Name := by rw [den, hk]; simp
theorem Q173 (hk : (gt f n).Kind = 12) : den C f to n E = fun s => C.all s ∧ ¬ C.holds (gt f n).Name s := by rw [den, hk]; simp
theorem Q161 (hk : (gt f n).Kind = 4) : den C f to n E = E (gt to n) := by rw [den, hk]; simp
theorem Q175 (hk : (gt f n).Kind = 5) (ha : (gt f n).A = n - 1) (h : 0 ≤ n - 1) : den C f to n E = fun s => C.all s ∧ ¬ den C f to (n - 1) E s := by
 rw [den, hk, ha]
 simp [show 1 ≤ n by omega, show ¬ n ≤ n - 1 by omega]
theorem Q160 (hk : (gt f n).Kind = 8) (ha : (gt f n).A = n - 1) (h : 0 ≤ n - 1) : den C f to n E = fun s => ∃ t, C.edge (gt f n).Name s t ∧ den C f to (n - 1) E t := by
 rw [den, hk, ha]
 simp [show 1 ≤ n by omega, show ¬ n ≤ n - 1 by omega]
theorem Q172 (hk : (gt f n).Kind = 9) (ha : (gt f n).A = n - 1) (h : 0 ≤ n - 1) : den C f to n E = fun s => C.all s ∧ ∀ t, C.edge (gt f n).Name s t → den C f to (n - 1) E t := by
 rw [den, hk, ha]
 simp [show 1 ≤ n by omega, show ¬ n ≤ n - 1 by omega]
theorem Q157 (hk : (gt f n).Kind = 10) (ha : (gt f n).A = n - 1) (h : 0 ≤ n - 1) : den C f to n E = lfp fun S => den C f to (n - 1) (updE E n S) := by
 rw [den, hk, ha]
 simp [show 1 ≤ n by omega, show ¬ n ≤ n - 1 by omega]
theorem Q168 (hk : (gt f n).Kind = 11) (ha : (gt f n).A = n - 1) (h : 0 ≤ n - 1) : den C f to n E = gfp fun S s => C.all s ∧ den C f to (n - 1) (updE E n S) s := by
 rw [den, hk, ha]
 simp [show 1 ≤ n by omega, show ¬ n ≤ n - 1 by omega]
theorem Q171 {m : Int} (hk : (gt f n).Kind = 6) (ha : (gt f n).A = m) (hb : (gt f n).B = n - 1) (h : 0 ≤ m) (h2 : m < n) : den C f to n E = fun s => den C f to m E s ∧ den C f to (n - 1) E s := by
 rw [den, hk, ha, hb]
 simp [h, h2, show 1 ≤ n by omega, show ¬ n ≤ n - 1 by omega]
theorem Q167 {m : Int} (hk : (gt f n).Kind = 7) (ha : (gt f n).A = m) (hb : (gt f n).B = n - 1) (h : 0 ≤ m) (h2 : m < n) : den C f to n E = fun s => den C f to m E s ∨ den C f to (n - 1) E s := by
 rw [den, hk, ha, hb]
 simp [h, h2, show 1 ≤ n by omega, show ¬ n ≤ n - 1 by omega]
end
def Way (sc : List (Int × Bool)) (E E' : Int → PS) : Prop := ∀ p ∈ sc, if p.2 = true then Le (E p.1) (E' p.1) else Le (E' p.1) (E p.1)
theorem Way.flip {sc : List (Int × Bool)} {E E' : Int → PS} (h : Way sc E E') : Way (sc.map fun p => (p.1, !p.2)) E' E := fun p hp => by
 obtain ⟨q, hq, rfl⟩ := List.mem_map.1 hp
 have := h q hq
 cases hb : q.2 <;> simp [hb] at this ⊢ <;> exact this
theorem Way.cons {sc : List (Int × Bool)} {E E' : Int → PS} (h : Way sc E E') {n : Int} (hn : ∀ p ∈ sc, p.1 ≠ n) {S S' : PS} (hS : Le S S') : Way ((n, true) :: sc) (updE E n S) (updE E' n S') := fun p hp => by
 rcases List.mem_cons.1 hp with rfl | hp
 ·simp [Q139]
  exact hS
 ·rw [Q129 (hn p hp), Q129 (hn p hp)]
  exact h p hp
theorem Way.rfl (sc : List (Int × Bool)) (E : Int → PS) : Way sc E E := fun p _ => by split <;> exact fun _ h => h
theorem lfp_mono {F G : PS → PS} (h : ∀ S, Le (F S) (G S)) : Le (lfp F) (lfp G) := fun s hs S hS => hs S fun t ht => hS t (h S t ht)
theorem gfp_mono {F G : PS → PS} (h : ∀ S, Le (F S) (G S)) : Le (gfp F) (gfp G) := fun s ⟨S, hS, hs⟩ => ⟨S, fun t ht => h S t (hS t ht), hs⟩
theorem Q233 {F : PS → PS} (hF : ∀ S T, Le S T → Le (F S) (F T)) : Le (F (lfp F)) (lfp F) := fun s hs S hS => hS s (hF _ _ (fun t ht => ht S hS) s hs)
theorem gfp_post {F : PS → PS} (hF : ∀ S T, Le S T → Le (F S) (F T)) : Le (gfp F) (F (gfp F)) := fun s ⟨S, hS, hs⟩ => hF _ _ (fun t ht => ⟨S, hS, ht⟩) s (hS s hs)
theorem Q215 {C : Ctx} {f : List Q1} {to : List Int} {sc : List (Int × Bool)} {l n : Int} (b : Bd f to sc l n) : ∀ {E E' : Int → PS}, (∀ p ∈ sc, n < p.1) → Way sc E E' → Le (den C f to n E) (den C f to n E') := by
 induction b with
 | @var sc n h0 h1 hk hs => intro E E' hn h; rw [Q161 hk, Q161 hk]; simpa using h _ hs
 | @leaf sc n h0 h1 hk h4 =>
  intro E E' hn h
  rcases hk with hk | hk | hk | hk | hk
  ·rw [Q165 hk, Q165 hk]; exact fun _ h => h
  ·rw [Q162 hk, Q162 hk]; exact fun _ h => h
  ·rw [Q166 hk, Q166 hk]; exact fun _ h => h
  ·exact absurd hk h4
  ·rw [Q173 hk, Q173 hk]; exact fun _ h => h
 | @not sc l n h1 hk ha s ih =>
  intro E E' hn h
  have := s.le
  rw [Q175 hk ha (by omega), Q175 hk ha (by omega)]
  exact fun s hs => ⟨hs.1, fun hd => hs.2 (ih (fun p hp => by obtain ⟨q, hq, rfl⟩ := List.mem_map.1 hp; have := hn q hq; dsimp only; omega) h.flip s hd)⟩
 | @modal sc l n h1 hk ha s ih =>
  intro E E' hn h
  have := s.le
  have ih := ih (fun p hp => by have := hn p hp; omega) h
  rcases hk with hk | hk
  ·rw [Q160 hk ha (by omega), Q160 hk ha (by omega)]
   exact fun s ⟨t, h1, h2⟩ => ⟨t, h1, ih t h2⟩
  ·rw [Q172 hk ha (by omega), Q172 hk ha (by omega)]
   exact fun s ⟨h0, h⟩ => ⟨h0, fun t ht => ih t (h t ht)⟩
 | @fix sc l n h1 hk ha s ih =>
  intro E E' hn h
  have := s.le
  have ih : ∀ S, Le (den C f to (n - 1) (updE E n S)) (den C f to (n - 1) (updE E' n S)) := fun S => ih (fun p hp => by
   rcases List.mem_cons.1 hp with rfl | hp
   ·dsimp only; omega
   ·have := hn p hp; omega) (h.cons (fun p hp => by have := hn p hp; omega) fun _ h => h)
  rcases hk with hk | hk
  ·rw [Q157 hk ha (by omega), Q157 hk ha (by omega)]
   exact lfp_mono ih
  ·rw [Q168 hk ha (by omega), Q168 hk ha (by omega)]
   exact gfp_mono fun S s hs => ⟨hs.1, ih S s hs.2⟩
 | @two sc l m n h1 hk ha hb s t ih1 ih2 =>
  intro E E' hn h
  have := s.le
  have := t.le
  have ih1 := ih1 (fun p hp => by have := hn p hp; omega) h
  have ih2 := ih2 (fun p hp => by have := hn p hp; omega) h
  rcases hk with hk | hk
  ·rw [Q171 hk ha hb (by omega) (by omega), Q171 hk ha hb (by omega) (by omega)]
   exact fun s hs => ⟨ih1 s hs.1, ih2 s hs.2⟩
  ·rw [Q167 hk ha hb (by omega) (by omega), Q167 hk ha hb (by omega) (by omega)]
   exact fun s hs => hs.imp (ih1 s) (ih2 s)
theorem Q177 {C : Ctx} (hC : C.Ok) {f : List Q1} {to : List Int} {sc : List (Int × Bool)} {l n : Int} (b : Bd f to sc l n) : ∀ {E : Int → PS}, (∀ p ∈ sc, Le (E p.1) C.all) → (∀ p ∈ sc, n < p.1) → Le (den C f to n E) C.all := by
 induction b with
 | @var sc n h0 h1 hk hs => intro E h hn; rw [Q161 hk]; exact h _ hs
 | @leaf sc n h0 h1 hk h4 =>
  intro E h hn
  rcases hk with hk | hk | hk | hk | hk
  ·rw [Q165 hk]; exact fun _ h => h
  ·rw [Q162 hk]; exact fun _ h => h.elim
  ·rw [Q166 hk]; exact fun _ h => hC.holds _ _ h
  ·exact absurd hk h4
  ·rw [Q173 hk]; exact fun _ h => h.1
 | @not sc l n h1 hk ha s ih =>
  intro E h hn
  have := s.le
  rw [Q175 hk ha (by omega)]
  exact fun _ h => h.1
 | @modal sc l n h1 hk ha s ih =>
  intro E h hn
  have := s.le
  rcases hk with hk | hk
  ·rw [Q160 hk ha (by omega)]
   exact fun s ⟨t, h1, h2⟩ => (hC.edge _ _ _ h1).1
  ·rw [Q172 hk ha (by omega)]
   exact fun s h => h.1
 | @fix sc l n h1 hk ha s ih =>
  intro E h hn
  have := s.le
  rcases hk with hk | hk
  ·rw [Q157 hk ha (by omega)]
   refine fun s hs => hs C.all (ih (fun p hp => ?_) fun p hp => ?_)
   ·rcases List.mem_cons.1 hp with rfl | hp
    ·rw [Q139]; exact fun _ h => h
    ·rw [Q129 (by have := hn p hp; omega)]; exact h p hp
   ·rcases List.mem_cons.1 hp with rfl | hp
    ·dsimp only; omega
    ·have := hn p hp; omega
  ·rw [Q168 hk ha (by omega)]
   exact fun s ⟨S, hS, hs⟩ => (hS s hs).1
 | @two sc l m n h1 hk ha hb s t ih1 ih2 =>
  intro E h hn
  have := s.le
  have := t.le
  rcases hk with hk | hk
  ·rw [Q171 hk ha hb (by omega) (by omega)]
   exact fun s hs => ih1 h (fun p hp => by have := hn p hp; omega) s hs.1
  ·rw [Q167 hk ha hb (by omega) (by omega)]
   exact fun s hs => hs.elim (ih1 h (fun p hp => by have := hn p hp; omega) s) (ih2 h (fun p hp => by have := hn p hp; omega) s)
end Go.Bw
namespace Go.Bw
open Go Go.RowKit

theorem ext_gt {α : Type} [Inhabited α] {l l' : List α} (hn : l.length = l'.length) (h : ∀ k : Nat, k < l.length → gt l k = gt l' k) : l = l' := by
 refine List.ext_getElem hn fun k h1 h2 => ?_
 have := h k h1
 rwa [Q106 (List.getElem?_eq_getElem h1), Q106 (List.getElem?_eq_getElem h2)] at this

section
variable (H : Nat → Int → Prop) (E : Nat → Int → Int → Prop)
variable {H E}
end
end Go.Bw
namespace Go.Bw
open Go Go.RowKit
theorem equal_run {a b : List Int} (hn : a.length = b.length) (ha : (a.length : Int) ≤ 9223372036854775807) : Q49.f a b = some (decide (a = b)) := by
 unfold Q49.f
 rw [if_pos (by omega)]
 obtain ⟨r, hr, hq⟩ := Q66 (body := fun t_ : Int => Q49.l0b a b t_) (fun i => 0 ≤ i ∧ i ≤ (a.length : Int) ∧ ∀ j : Int, 0 ≤ j → j < i → gt a j = gt b j)
  (fun r => (r = .inl () ∧ a = b) ∨ (r = .inr false ∧ a ≠ b)) (fun i => ((a.length : Int) - i).toNat) (fun i ⟨h0, h1, h2⟩ => by
   unfold Q49.l0b
   by_cases hi : i < (a.length : Int)
   ·rw [if_pos hi, if_pos ⟨h0, hi⟩, if_pos ⟨h0, by omega⟩]
    by_cases he : gt a i = gt b i
    ·right
     rw [if_pos he, wrap64 (x := i + 1) (by omega) (by omega)]
     refine ⟨_, rfl, ⟨by omega, by omega, fun j j0 j1 => ?_⟩, by omega⟩
     by_cases hj : j = i
     ·subst hj; exact he
     ·exact h2 j j0 (by omega)
    ·left
     rw [if_neg he]
     exact ⟨_, rfl, .inr ⟨rfl, fun e => he (by rw [e])⟩⟩
   ·left
    rw [if_neg hi]
    exact ⟨_, rfl, .inl ⟨rfl, ext_gt hn fun k hk => h2 k (by omega) (by omega)⟩⟩) 0 ⟨Int.le_refl _, by omega, fun j h0 h1 => by omega⟩
 have hl : Q49.l0 a b 0 = some r := hr
 rcases hq with ⟨rfl, h⟩ | ⟨rfl, h⟩
 ·rw [hl, Q16, decide_eq_true h]
 ·rw [hl, decide_eq_false h]; rfl
end Go.Bw
namespace Go.Bw
open Go Go.RowKit

theorem Q134 {α : Type} {c : Prop} [Decidable c] {x y : Option α} (h1 : c → ∃ r, x = some r) (h2 : ¬ c → ∃ r, y = some r) : ∃ r, (if c then x else y) = some r := by
 split
 ·exact h1 ‹_›
 ·exact h2 ‹_›
theorem Q277 (a : Bs) (ha : (a.length : Int) ≤ 9223372036854775807) (lo hi : Int) : ∃ b, Q42.f a lo hi = some b := by
 unfold Q42.f
 by_cases h1 : (a.length : Int) < 1
 ·simp only [if_pos h1, Q16, if_true]; exact ⟨_, rfl⟩
 by_cases h2 : 8 < (a.length : Int)
 ·simp only [if_neg h1, Q16, if_true, decide_eq_true h2]; exact ⟨_, rfl⟩
 simp only [if_neg h1, Q16, decide_eq_false h2, Bool.false_eq_true, if_false]
 have h0 : (0 : Int) ≤ 0 ∧ 0 < (a.length : Int) := by omega
 refine Q144 (Q134 (fun _ => ⟨_, rfl⟩) fun h => absurd h0 h) fun x => Q144 (Q134 (fun _ => ⟨_, rfl⟩) fun _ => Q134 (fun _ => ⟨_, rfl⟩) fun h => absurd h0 h) fun x => Q134 (fun _ => ⟨_, rfl⟩) fun _ => ?_
 refine jn_true (up_loop (body := fun t_ : Int => Q42.l0b a t_) (N := a.length) (Q := fun _ => True) ha 0 (by decide) fun i hi => ?_)
 unfold Q42.l0b
 by_cases h1 : i < (a.length : Int)
 ·rw [if_pos h1, if_pos ⟨hi, h1⟩]
  simp only [jn_ite, Q16]
  repeat' split
  all_goals first
   | exact .inl ⟨_, rfl, trivial⟩
   | exact .inr ⟨h1, rfl⟩
 ·rw [if_neg h1]; exact .inl ⟨_, rfl, trivial⟩
theorem word_run (a : Bs) : ∃ b, Q95.f a = some b := by
 unfold Q95.f
 refine Q144 (Q134 (fun _ => ⟨_, rfl⟩) fun _ => ⟨_, rfl⟩) fun x => Q144 (Q134 (fun _ => ⟨_, rfl⟩) fun _ => ⟨_, rfl⟩) fun x => Q144 (Q134 (fun _ => ⟨_, rfl⟩) fun _ => ⟨_, rfl⟩) fun x => ⟨_, rfl⟩
theorem name_run2 (a : Bs) (ha : (a.length : Int) ≤ 9223372036854775807) : ∃ b, Q100.f a = some b := by
 unfold Q100.f
 obtain ⟨b, hb⟩ := Q277 a ha 97 122
 rw [hb, Option.bind_some]
 obtain ⟨c, hc⟩ := word_run a
 refine Q144 (Q134 (fun _ => ?_) fun _ => ⟨_, rfl⟩) fun x => ⟨_, rfl⟩
 rw [hc]
 exact ⟨_, rfl⟩
theorem Q315 (a : Bs) (ha : (a.length : Int) ≤ 9223372036854775807) : ∃ b, Q98.f a = some b := by
 unfold Q98.f
 obtain ⟨b, hb⟩ := Q277 a ha 65 90
 rw [hb]
 exact ⟨_, rfl⟩
def Arity (K k : Int) : Prop := (K = 1 ∨ K = 2 ∨ K = 3 ∨ K = 4) ∧ k = 0 ∨ K = 5 ∧ k = 1 ∨ Modal K ∧ k = 1 ∨ Fixy K ∧ k = 1 ∨ Twoy K ∧ k = 2
theorem below_run (K A B At : Int) (a : Bs) (ha : (a.length : Int) ≤ 9223372036854775807) : ∃ b k, Q120.f K A B a At = some (b, k) ∧ 0 ≤ k ∧ k ≤ 2 ∧ (b = true → Arity K k) := by
 obtain ⟨b1, h1⟩ := name_run2 a ha
 obtain ⟨b2, h2⟩ := Q315 a ha
 unfold Q120.f Arity Modal Fixy Twoy
 rw [h1, h2]
 simp only [Option.bind_some]
 by_cases k1 : K = 1
 ·subst k1; exact ⟨bseq a [], 0, by simp [Q16], by omega, by omega, by simp⟩
 by_cases k2 : K = 2
 ·subst k2; exact ⟨bseq a [], 0, by simp [Q16], by omega, by omega, by simp⟩
 by_cases k3 : K = 3
 ·subst k3; exact ⟨b1, 0, by simp [Q16], by omega, by omega, by simp⟩
 by_cases k4 : K = 4
 ·subst k4; exact ⟨b2, 0, by simp [Q16], by omega, by omega, by simp⟩
 by_cases k5 : K = 5
 ·subst k5; exact ⟨bseq a [], 1, by simp [Q16], by omega, by omega, by simp⟩
 by_cases k8 : K = 8
 ·subst k8
  by_cases hx : bseq a [45] = true
  ·exact ⟨true, 1, by simp [hx, Q16], by omega, by omega, by simp⟩
  ·exact ⟨b1, 1, by simp [hx, Q16], by omega, by omega, by simp⟩
 by_cases k9 : K = 9
 ·subst k9
  by_cases hx : bseq a [45] = true
  ·exact ⟨true, 1, by simp [hx, Q16], by omega, by omega, by simp⟩
  ·exact ⟨b1, 1, by simp [hx, Q16], by omega, by omega, by simp⟩
 by_cases k10 : K = 10
 ·subst k10; exact ⟨b2, 1, by simp [Q16], by omega, by omega, by simp⟩
 by_cases k11 : K = 11
 ·subst k11; exact ⟨b2, 1, by simp [Q16], by omega, by omega, by simp⟩
 by_cases k6 : K = 6
 ·subst k6; exact ⟨bseq a [], 2, by simp [Q16], by omega, by omega, by simp⟩
 by_cases k7 : K = 7
 ·subst k7; exact ⟨bseq a [], 2, by simp [Q16], by omega, by omega, by simp⟩
 exact ⟨false, 0, by simp [k1, k2, k3, k4, k5, k6, k7, k8, k9, k10, k11, Q16], by omega, by omega, by simp⟩
theorem Q318 (a : List Int) (ha : (a.length : Int) ≤ 9223372036854775807) : ∃ b, Q117.f a = some b := by
 unfold Q117.f Q60.f
 obtain ⟨b, hb⟩ := jn_int (up_loop (body := fun t_ : Int => Q60.l0b a t_) (N := a.length) (Q := fun _ => True) ha 0 (by decide) fun i hi => by
  unfold Q60.l0b Q136.f
  by_cases h1 : i < (a.length : Int)
  ·rw [if_pos h1, if_pos (by omega)]
   simp only [Option.bind_some]
   split
   ·exact .inl ⟨_, rfl, trivial⟩
   ·exact .inr ⟨h1, rfl⟩
  ·rw [if_neg h1]; exact .inl ⟨_, rfl, trivial⟩)
 have hb' : jn (Q60.l0 a 0) (fun (_ : Unit) => some (-1)) = some b := hb
 rw [hb']
 exact ⟨_, rfl⟩
def Ch (f : List Q1) : Int → List Int → Int → Prop
 | p, [], e => p = e
 | p, s :: r, e => Sb f p s ∧ Ch f (s + 1) r e
theorem Ch.app {f : List Q1} : ∀ {a b : List Int} {p e : Int}, Ch f p (a ++ b) e ↔ ∃ q, Ch f p a q ∧ Ch f q b e
 | [], b, p, e => by simp [Ch]
 | s :: a, b, p, e => by
  simp only [List.cons_append, Ch, Ch.app (a := a)]
  constructor
  ·rintro ⟨h, q, h1, h2⟩; exact ⟨q, ⟨h, h1⟩, h2⟩
  ·rintro ⟨q, ⟨h, h1⟩, h2⟩; exact ⟨h, q, h1, h2⟩
theorem Ch.len {f : List Q1} : ∀ {a : List Int} {p e : Int}, Ch f p a e → (a.length : Int) ≤ e - p
 | [], p, e, h => by simp [Ch] at h; simp [h]
 | s :: a, p, e, h => by
  have := h.1.le
  have := Ch.len h.2
  simp
  omega
theorem Q323 (f : List Q1) (hs : ∀ n ∈ f, (n.Name.length : Int) ≤ 9223372036854775807) : ∃ b, Q39.f f = some b ∧ (b = true → 1 ≤ f.length ∧ f.length ≤ 60 ∧ Sb f 0 ((f.length : Int) - 1)) := by
 unfold Q39.f
 by_cases h1 : (f.length : Int) < 1
 ·simp only [if_pos h1, Q16, if_true]; exact ⟨_, rfl, by simp⟩
 by_cases h2 : 60 < (f.length : Int)
 ·simp only [if_neg h1, Q16, if_true, decide_eq_true h2]; exact ⟨_, rfl, by simp⟩
 simp only [if_neg h1, Q16, decide_eq_false h2, Bool.false_eq_true, if_false]
 obtain ⟨r, hr, hq⟩ := Q66 (body := fun t_ : (List Int) × Int => Q39.l0b f t_.1 t_.2) (fun s => 0 ≤ s.2 ∧ s.2 ≤ (f.length : Int) ∧ Ch f 0 s.1 s.2)
  (fun r => (∃ s, r = .inl s ∧ Ch f 0 s f.length) ∨ r = .inr false) (fun s => ((f.length : Int) - s.2).toNat) (fun ⟨S, i⟩ ⟨i0, i1, hc⟩ => by
   dsimp only at i0 i1 hc ⊢
   have hl := hc.len
   unfold Q39.l0b
   by_cases hi : i < (f.length : Int)
   rotate_left
   ·left
    rw [if_neg hi]
    exact ⟨_, rfl, .inl ⟨S, rfl, by rwa [show (f.length : Int) = i by omega]⟩⟩
   obtain ⟨b, k, hb, k0, k2, hk⟩ := below_run (gt f i).Kind (gt f i).A (gt f i).B (gt f i).At (gt f i).Name (hs _ (Q68 i0 hi))
   rw [if_pos hi, if_pos ⟨i0, hi⟩, hb, Option.bind_some]
   dsimp only
   cases b with
   | false => left; simp only [Bool.false_eq_true, if_false, Q16, if_true]; exact ⟨_, rfl, .inr rfl⟩
   | true =>
   simp only [if_true, Q16]
   by_cases hSk : (S.length : Int) < k
   ·left; simp only [decide_eq_true hSk, if_true]; exact ⟨_, rfl, .inr rfl⟩
   rw [decide_eq_false hSk]
   simp only [Bool.false_eq_true, if_false]
   obtain ⟨c, hcn⟩ := Q318 (([(gt f i).A, (gt f i).B] : List Int).drop k.toNat) (by simp; omega)
   rw [if_pos (by simp; omega), hcn, Option.bind_some]
   cases c with
   | true => left; simp only [if_true, Q16]; exact ⟨_, rfl, .inr rfl⟩
   | false =>
   rw [wrap64 (x := (S.length : Int) - k) (by omega) (by omega), if_neg (by simp), if_pos (by omega), equal_run (by simp; omega) (by simp; omega), Option.bind_some, Q16]
   by_cases he : S.drop ((S.length : Int) - k).toNat = ([(gt f i).A, (gt f i).B] : List Int).take k.toNat
   rotate_left
   ·left; simp only [decide_eq_false he, Bool.not_false, if_true]; exact ⟨_, rfl, .inr rfl⟩
   right
   simp only [decide_eq_true he, Bool.not_true, Bool.false_eq_true, if_false]
   rw [if_pos (by omega), if_pos (by simp; omega), wrap64 (x := i + 1) (by omega) (by omega)]
   refine ⟨_, rfl, ⟨by dsimp only; omega, by dsimp only; omega, ?_⟩, by dsimp only; omega⟩
   dsimp only
   have hSS : S = S.take ((S.length : Int) - k).toNat ++ ([(gt f i).A, (gt f i).B] : List Int).take k.toNat := by rw [← he, List.take_append_drop]
   rw [hSS] at hc
   obtain ⟨q, hc1, hc2⟩ := Ch.app.1 hc
   refine Ch.app.2 ⟨q, hc1, ?_⟩
   have key : Sb f q i → Ch f q [i] (i + 1) := fun h => ⟨h, rfl⟩
   apply key
   rcases hk rfl with ⟨hK, rfl⟩ | ⟨hK, rfl⟩ | ⟨hK, rfl⟩ | ⟨hK, rfl⟩ | ⟨hK, rfl⟩
   ·simp [Ch] at hc2
    subst hc2
    exact .leaf i0 hi (by unfold Leafy; omega)
   ·simp [Ch] at hc2
    exact .not hi hK (by omega) (by rw [show i - 1 = (gt f i).A by omega]; exact hc2.1)
   ·simp [Ch] at hc2
    exact .modal hi hK (by omega) (by rw [show i - 1 = (gt f i).A by omega]; exact hc2.1)
   ·simp [Ch] at hc2
    exact .fix hi hK (by omega) (by rw [show i - 1 = (gt f i).A by omega]; exact hc2.1)
   ·simp [Ch] at hc2
    exact .two hi hK rfl (by omega) hc2.1 (by rw [show i - 1 = (gt f i).B by omega]; exact hc2.2.1)) ([], 0) ⟨by decide, by dsimp only; omega, rfl⟩
 have hr' : Q39.l0 f [] 0 = some r := hr
 rw [hr']
 rcases hq with ⟨s, rfl, hc⟩ | rfl
 ·refine ⟨_, rfl, fun hb => ⟨by omega, by omega, ?_⟩⟩
  match s, hc, of_decide_eq_true hb with
  | [a], hc, _ =>
   have : a + 1 = f.length := hc.2
   rw [show (f.length : Int) - 1 = a by omega]
   exact hc.1
  | [], _, h => simp at h
  | a :: b :: s, _, h => simp at h; omega
 ·exact ⟨_, rfl, by simp⟩
end Go.Bw
namespace Go.Bw
open Go Go.RowKit

def Ev {ρ : Type} (N : Nat → Option ρ) (r : ρ) : Prop := ∃ d, ∀ k, N k = some r ∨ (k < d ∧ N k = none)
theorem Ev.recF {ρ : Type} {N : Nat → Option ρ} {r : ρ} (h : Ev N r) : Bw.recF N = some r := by
 obtain ⟨d, h⟩ := h
 have hd : (N d).isSome = true := by rcases h d with e | e <;> first | (simp [e]; done) | omega
 obtain ⟨r', h1, h2⟩ := recF_of (n := N) (Q := fun x => x = r) ⟨d, hd⟩ (fun k x hx => by rcases h k with h | h <;> rw [hx] at h <;> simp_all)
 rw [h1, h2]
theorem Ev.const {ρ : Type} (r : ρ) : Ev (fun _ => some r) r := ⟨0, fun _ => .inl rfl⟩
theorem Ev.succ {ρ : Type} {N M : Nat → Option ρ} {r : ρ} (h0 : N 0 = none) (h : ∀ k, N (k + 1) = M k) (e : Ev M r) : Ev N r := by
 obtain ⟨d, e⟩ := e
 refine ⟨d + 1, fun k => ?_⟩
 cases k with
 | zero => exact .inr ⟨by omega, h0⟩
 | succ k =>
  rw [h]
  rcases e k with e | e
  ·exact .inl e
  ·exact .inr ⟨by omega, e.2⟩
theorem Ev.bind {α ρ : Type} {M : Nat → Option α} {F : Nat → α → Option ρ} {a : α} {r : ρ} (e : Ev M a) (g : Ev (fun k => F k a) r) : Ev (fun k => (M k).bind (F k)) r := by
 obtain ⟨d, e⟩ := e
 obtain ⟨d', g⟩ := g
 refine ⟨d + d', fun k => ?_⟩
 rcases e k with e | e
 ·dsimp only
  rw [e, Option.bind_some]
  rcases g k with g | g
  ·exact .inl g
  ·exact .inr ⟨by omega, g.2⟩
 ·exact .inr ⟨by omega, by dsimp only; rw [e.2]; rfl⟩
theorem Bd.wide {f : List Q1} {to : List Int} {sc : List (Int × Bool)} {l n : Int} (b : Bd f to sc l n) : ∀ {sc' : List (Int × Bool)}, (∀ p ∈ sc, p ∈ sc') → Bd f to sc' l n := by
 induction b with
 | var h0 h1 hk hs => exact fun h => .var h0 h1 hk (h _ hs)
 | leaf h0 h1 hk h4 => exact fun h => .leaf h0 h1 hk h4
 | not h1 hk ha s ih => exact fun h => .not h1 hk ha (ih fun p hp => by
  obtain ⟨q, hq, rfl⟩ := List.mem_map.1 hp
  exact List.mem_map.2 ⟨q, h q hq, rfl⟩)
 | modal h1 hk ha s ih => exact fun h => .modal h1 hk ha (ih h)
 | fix h1 hk ha s ih => exact fun h => .fix h1 hk ha (ih fun p hp => by
  rcases List.mem_cons.1 hp with rfl | hp
  ·exact List.mem_cons_self
  ·exact List.mem_cons_of_mem _ (h p hp))
 | two h1 hk ha hb s t ih1 ih2 => exact fun h => .two h1 hk ha hb (ih1 h) (ih2 h)
theorem Bd.congr {f : List Q1} {to to' : List Int} {sc : List (Int × Bool)} {l n : Int} (b : Bd f to sc l n) : (∀ v, l ≤ v → v ≤ n → gt to' v = gt to v) → Bd f to' sc l n := by
 induction b with
 | var h0 h1 hk hs => exact fun h => .var h0 h1 hk (by rw [h _ (Int.le_refl _) (Int.le_refl _)]; exact hs)
 | leaf h0 h1 hk h4 => exact fun h => .leaf h0 h1 hk h4
 | not h1 hk ha s ih => exact fun h => .not h1 hk ha (ih fun v h0 h1 => h v h0 (by omega))
 | modal h1 hk ha s ih => exact fun h => .modal h1 hk ha (ih fun v h0 h1 => h v h0 (by omega))
 | fix h1 hk ha s ih => exact fun h => .fix h1 hk ha (ih fun v h0 h1 => h v h0 (by omega))
 | two h1 hk ha hb s t ih1 ih2 =>
  have := s.le
  have := t.le
  exact fun h => .two h1 hk ha hb (ih1 fun v h0 h1 => h v h0 (by omega)) (ih2 fun v h0 h1 => h v (by omega) (by omega))
theorem find_run (f : List Q1) (S : List Q15) (nots : Int) (to : List Int) (odd : List Bool) (dep : List Int) (a : Bs) (hS : ∀ p ∈ S, 0 ≤ p.node ∧ p.node < (f.length : Int)) (hl : (S.length : Int) ≤ 1000) :
 ∃ r, Q44.f f S nots to odd dep a = some r ∧ (r = (false, 0, 0) ∨ ∃ p ∈ S, r = (true, p.node, p.nots)) := by
 unfold Q44.f
 obtain ⟨r, hr, hq⟩ := Q66 (body := fun t_ : Int => Q44.l0b f S a t_) (fun i => -1 ≤ i ∧ i < (S.length : Int))
  (fun r => r = .inl () ∨ ∃ p ∈ S, r = .inr (true, p.node, p.nots)) (fun i => (i + 1).toNat) (fun i ⟨h0, h1⟩ => by
   unfold Q44.l0b
   by_cases hi : 0 ≤ i
   ·have hm := Q68 hi h1
    rw [if_pos hi, if_pos ⟨hi, h1⟩, if_pos (hS _ hm)]
    split
    ·exact .inl ⟨_, rfl, .inr ⟨_, hm, rfl⟩⟩
    ·rw [wrap64 (x := i - 1) (by omega) (by omega)]
     exact .inr ⟨_, rfl, by omega, by omega⟩
   ·rw [if_neg hi]; exact .inl ⟨_, rfl, .inl rfl⟩) ((S.length : Int) - 1) (by omega)
 have hr' : Q44.l0 f S a ((S.length : Int) - 1) = some r := hr
 rw [wrap64 (by omega) (by omega), hr']
 rcases hq with rfl | ⟨p, hp, rfl⟩
 ·exact ⟨_, rfl, .inl rfl⟩
 ·exact ⟨_, rfl, .inr ⟨p, hp, rfl⟩⟩
def scp (nots : Int) (p : Q15) : Int × Bool := (p.node, decide ((nots - p.nots) % 2 = 0))
theorem scp_flip (nots : Int) (S : List Q15) : S.map (scp (nots + 1)) = (S.map (scp nots)).map fun p => (p.1, !p.2) := by
 rw [List.map_map]
 apply List.map_congr_left
 intro p _
 simp only [scp, Function.comp]
 congr 1
 rw [Bool.eq_iff_iff]
 simp
 omega
structure Wk (f : List Q1) (l n nots : Int) (S : List Q15) (to : List Int) (odd : List Bool) (dep : List Int) (to' : List Int) (odd' : List Bool) (dep' : List Int) : Prop where
 l1 : to'.length = f.length
 l2 : odd'.length = f.length
 l3 : dep'.length = f.length
 fr : ∀ m, 0 ≤ m → m < l ∨ n < m → gt to' m = gt to m ∧ gt odd' m = gt odd m
 bd : (∀ m, l ≤ m → m ≤ n → (gt f m).Kind = 4 → 0 ≤ gt to' m ∧ gt odd' m = false) → (∀ m, l ≤ m → m ≤ n → gt to m = -1) → Bd f to' (S.map (scp nots)) l n
theorem walk_run {f : List Q1} (hf : f.length ≤ 60) {l n : Int} (s : Sb f l n) : ∀ (S : List Q15) (nots : Int) (to : List Int) (odd : List Bool) (dep : List Int), to.length = f.length → odd.length = f.length → dep.length = f.length →
 (∀ p ∈ S, 0 ≤ p.node ∧ p.node < (f.length : Int) ∧ 0 ≤ p.nots ∧ p.nots ≤ nots) → 0 ≤ nots → nots + (n - l) ≤ 100 → (S.length : Int) + (n - l) ≤ 100 →
 ∃ to' odd' dep', Ev (fun k => Q23.n k f S nots to odd dep n) (odd', to', S, dep', nots) ∧ Wk f l n nots S to odd dep to' odd' dep' := by
 induction s with
 | @leaf n h0 h1 hk =>
  intro S nots to odd dep e1 e2 e3 hS hn hn2 hl
  by_cases k4 : (gt f n).Kind = 4
  ·obtain ⟨r, hr, hq⟩ := find_run f S nots to odd dep (gt f n).Name (fun p hp => ⟨(hS p hp).1, (hS p hp).2.1⟩) (by omega)
   rcases hq with rfl | ⟨p, hp, rfl⟩
   ·refine ⟨to, odd, dep, Ev.succ rfl (fun k => rfl) ?_, e1, e2, e3, fun _ _ _ => ⟨rfl, rfl⟩, fun ha hb => ?_⟩
    ·simp only [Q23.n, Q23.g, if_pos (And.intro h0 h1), if_pos k4, hr, Option.bind_some, Bool.false_eq_true, if_false]
     exact Ev.const _
    ·have := (ha n (by omega) (by omega) k4).1
     have := hb n (by omega) (by omega)
     omega
   ·have hp' := hS p hp
    refine ⟨st to n p.node, st odd n (!(decide (Int.tmod (nots - p.nots) 2 = 0))), dep, Ev.succ rfl (fun k => rfl) ?_, by rw [Q105, e1], by rw [Q105, e2], e3, fun m hm h => ?_, fun ha hb => ?_⟩
    ·simp only [Q23.n, Q23.g, if_pos (And.intro h0 h1), if_pos k4, hr, Option.bind_some, if_true, e1, e2]
     rw [wrap64 (x := nots - p.nots) (by omega) (by omega)]
     exact Ev.const _
    ·rw [Q87 h0 (by omega) hm, Q87 h0 (by omega) hm, if_neg (by omega), if_neg (by omega)]
     exact ⟨rfl, rfl⟩
    ·have := (ha n (by omega) (by omega) k4).2
     rw [Q87 h0 (by omega) h0, if_pos rfl] at this
     refine .var h0 h1 k4 ?_
     rw [Q87 h0 (by omega) h0, if_pos rfl]
     refine List.mem_map.2 ⟨p, hp, ?_⟩
     simp only [scp]
     congr 1
     simp at this
     rw [Int.tmod_eq_emod_of_nonneg (by omega)] at this
     simpa using this
  ·refine ⟨to, odd, dep, Ev.succ rfl (fun k => rfl) ?_, e1, e2, e3, fun _ _ _ => ⟨rfl, rfl⟩, fun ha hb => .leaf h0 h1 hk k4⟩
   have : (gt f n).Kind ≠ 5 ∧ (gt f n).Kind ≠ 6 ∧ (gt f n).Kind ≠ 7 ∧ (gt f n).Kind ≠ 8 ∧ (gt f n).Kind ≠ 9 ∧ (gt f n).Kind ≠ 10 ∧ (gt f n).Kind ≠ 11 := by unfold Leafy at hk; omega
   simp only [Q23.n, Q23.g, if_pos (And.intro h0 h1), if_neg k4, if_neg this.1, if_neg this.2.1, if_neg this.2.2.1, if_neg this.2.2.2.1, if_neg this.2.2.2.2.1, if_neg this.2.2.2.2.2.1, if_neg this.2.2.2.2.2.2, decide_eq_false this.2.2.1, decide_eq_false this.2.2.2.2.1, decide_eq_false this.2.2.2.2.2.2, Q16, Bool.false_eq_true, if_false]
   exact Ev.const _
 | @not l n h1 hk ha s ih =>
  intro S nots to odd dep e1 e2 e3 hS hn hn2 hl
  have := s.le
  obtain ⟨to', odd', dep', he, w⟩ := ih S (nots + 1) to odd dep e1 e2 e3 (fun p hp => by have := hS p hp; omega) (by omega) (by omega) (by omega)
  refine ⟨to', odd', st dep' n (gt dep' (n - 1)), Ev.succ rfl (fun k => rfl) ?_, w.l1, w.l2, by rw [Q105, w.l3], fun m hm h => w.fr m hm (by omega), fun h4 hto => .not h1 hk ha ?_⟩
  ·simp only [Q23.n, Q23.g, if_pos (And.intro (show 0 ≤ n by omega) h1), hk, ha, wrap64 (x := nots + 1) (by omega) (by omega), show ¬ ((5 : Int) = 4) by decide, if_false, if_true]
   refine Ev.bind he ?_
   dsimp only
   rw [if_pos (by omega), if_pos (by omega), wrap64 (x := nots + 1 - 1) (by omega) (by omega), show nots + 1 - 1 = nots by omega]
   exact Ev.const _
  ·rw [← scp_flip]
   exact w.bd (fun m a b c => h4 m a (by omega) c) (fun m a b => hto m a (by omega))
 | @modal l n h1 hk ha s ih =>
  intro S nots to odd dep e1 e2 e3 hS hn hn2 hl
  have := s.le
  obtain ⟨to', odd', dep', he, w⟩ := ih S nots to odd dep e1 e2 e3 hS (by omega) (by omega) (by omega)
  refine ⟨to', odd', st dep' n (gt dep' (n - 1)), Ev.succ rfl (fun k => rfl) ?_, w.l1, w.l2, by rw [Q105, w.l3], fun m hm h => w.fr m hm (by omega), fun h4 hto => .modal h1 hk ha ?_⟩
  ·have : (if (gt f n).Kind = 8 then (some (.inl (decide ((gt f n).Kind = 8))) : Option (Bool ⊕ ((List Bool) × (List Int) × (List Q15) × (List Int) × Int))) else some (.inl (decide ((gt f n).Kind = 9)))) = some (.inl true) := by
    rcases hk with hk | hk <;> simp [hk]
   have h45 : (gt f n).Kind ≠ 4 ∧ (gt f n).Kind ≠ 5 := by unfold Modal at hk; omega
   simp only [Q23.n, Q23.g, if_pos (And.intro (show 0 ≤ n by omega) h1), this, ha, if_neg h45.1, if_neg h45.2, Q16, if_true]
   refine Ev.bind he ?_
   dsimp only
   rw [if_pos (by omega), if_pos (by omega)]
   exact Ev.const _
  ·exact w.bd (fun m a b c => h4 m a (by omega) c) (fun m a b => hto m a (by omega))
 | @fix l n h1 hk ha s ih =>
  intro S nots to odd dep e1 e2 e3 hS hn hn2 hl
  have := s.le
  obtain ⟨to', odd', dep', he, w⟩ := ih (S ++ [⟨n, nots⟩]) nots to odd dep e1 e2 e3 (fun p hp => by
   rcases List.mem_append.1 hp with hp | hp
   ·exact hS p hp
   ·rw [List.mem_singleton.1 hp]; dsimp only; omega) (by omega) (by omega) (by simp; omega)
  refine ⟨to', odd', st dep' n (IntKind.i64.wrap (gt dep' (n - 1) + 1)), Ev.succ rfl (fun k => rfl) ?_, w.l1, w.l2, by rw [Q105, w.l3], fun m hm h => w.fr m hm (by omega), fun h4 hto => .fix h1 hk ha ?_⟩
  ·have t1 : (if (gt f n).Kind = 10 then (some (.inl (decide ((gt f n).Kind = 10))) : Option (Bool ⊕ ((List Bool) × (List Int) × (List Q15) × (List Int) × Int))) else some (.inl (decide ((gt f n).Kind = 11)))) = some (.inl true) := by
    rcases hk with hk | hk <;> simp [hk]
   have h45 : (gt f n).Kind ≠ 4 ∧ (gt f n).Kind ≠ 5 ∧ (gt f n).Kind ≠ 8 ∧ (gt f n).Kind ≠ 9 ∧ (gt f n).Kind ≠ 6 ∧ (gt f n).Kind ≠ 7 := by unfold Fixy at hk; omega
   simp only [Q23.n, Q23.g, if_pos (And.intro (show 0 ≤ n by omega) h1), t1, ha, if_neg h45.1, if_neg h45.2.1, if_neg h45.2.2.1, if_neg h45.2.2.2.2.1, decide_eq_false h45.2.2.2.1, decide_eq_false h45.2.2.2.2.2, Bool.false_eq_true, if_false, Q16, if_true]
   have hsz : (S.length + [(⟨n, nots⟩ : Q15)].length) * 16 ≤ 140737488355328 := by simp; omega
   simp only [if_pos hsz]
   refine Ev.bind he ?_
   dsimp only
   rw [wrap64 (x := ((S ++ [(⟨n, nots⟩ : Q15)]).length : Int) - 1) (by rw [List.length_append]; omega) (by rw [List.length_append]; simp; omega), if_pos (by rw [List.length_append]; simp; omega), if_pos (by omega), if_pos (by omega)]
   rw [show (((S ++ [(⟨n, nots⟩ : Q15)]).length : Int) - 1).toNat = S.length by simp, List.take_left' rfl]
   exact Ev.const _
  ·refine (w.bd (fun m a b c => h4 m a (by omega) c) (fun m a b => hto m a (by omega))).wide fun p hp => ?_
   rw [List.map_append] at hp
   rcases List.mem_append.1 hp with hp | hp
   ·exact List.mem_cons_of_mem _ hp
   ·simp [scp] at hp
    rw [hp]; exact List.mem_cons_self
 | @two l m n h1 hk ha hb s t ih1 ih2 =>
  intro S nots to odd dep e1 e2 e3 hS hn hn2 hl
  have := s.le
  have := t.le
  obtain ⟨to1, odd1, dep1, he1, w1⟩ := ih1 S nots to odd dep e1 e2 e3 hS (by omega) (by omega) (by omega)
  obtain ⟨to2, odd2, dep2, he2, w2⟩ := ih2 S nots to1 odd1 dep1 w1.l1 w1.l2 w1.l3 hS (by omega) (by omega) (by omega)
  refine ⟨to2, odd2, st dep2 n (if gt dep2 m < gt dep2 (n - 1) then gt dep2 (n - 1) else gt dep2 m), Ev.succ rfl (fun k => rfl) ?_, w2.l1, w2.l2, by rw [Q105, w2.l3], fun q hq h => ?_, fun h4 hto => .two h1 hk ha hb ?_ ?_⟩
  ·have t1 : (if (gt f n).Kind = 6 then (some (.inl (decide ((gt f n).Kind = 6))) : Option (Bool ⊕ ((List Bool) × (List Int) × (List Q15) × (List Int) × Int))) else some (.inl (decide ((gt f n).Kind = 7)))) = some (.inl true) := by
    rcases hk with hk | hk <;> simp [hk]
   have h45 : (gt f n).Kind ≠ 4 ∧ (gt f n).Kind ≠ 5 ∧ (gt f n).Kind ≠ 8 ∧ (gt f n).Kind ≠ 9 := by unfold Twoy at hk; omega
   simp only [Q23.n, Q23.g, if_pos (And.intro (show 0 ≤ n by omega) h1), t1, ha, hb, if_neg h45.1, if_neg h45.2.1, if_neg h45.2.2.1, decide_eq_false h45.2.2.2, Bool.false_eq_true, if_false, Q16, if_true]
   refine Ev.bind he1 (Ev.bind he2 ?_)
   dsimp only
   rw [if_pos (by omega), if_pos (by omega), if_pos (by omega)]
   exact Ev.const _
  ·have a := w1.fr q hq (by omega)
   have b := w2.fr q hq (by omega)
   exact ⟨b.1.trans a.1, b.2.trans a.2⟩
  ·refine (w1.bd (fun q a b c => ?_) (fun q a b => hto q a (by omega))).congr fun v a b => (w2.fr v (by omega) (by omega)).1
   have := w2.fr q (by omega) (by omega)
   rw [← this.1, ← this.2]
   exact h4 q a (by omega) c
  ·refine w2.bd (fun q a b c => h4 q (by omega) (by omega) c) (fun q a b => ?_)
   rw [(w1.fr q (by omega) (by omega)).1]
   exact hto q (by omega) (by omega)
end Go.Bw
namespace Go.Bw
open Go Go.RowKit

theorem Q298 {f : List Q1} (h1 : 1 ≤ f.length) (hf : f.length ≤ 60) (s : Sb f 0 ((f.length : Int) - 1)) :
 ∃ to odd dep, Q41.f f = some ([], to, odd, dep, 0) ∧ to.length = f.length ∧ odd.length = f.length ∧ dep.length = f.length ∧
  ((∀ m, 0 ≤ m → m < (f.length : Int) → (gt f m).Kind = 4 → 0 ≤ gt to m ∧ gt odd m = false) → Bd f to [] 0 ((f.length : Int) - 1)) := by
 obtain ⟨r, hr, t, rfl, hl, ht⟩ := Q66 (body := fun t_ : (List Int) × Int => Q41.l0b f t_.1 t_.2) (fun s => s.1.length = f.length ∧ 0 ≤ s.2 ∧ s.2 ≤ (f.length : Int) ∧ ∀ m, 0 ≤ m → m < s.2 → gt s.1 m = -1)
  (fun r => ∃ t, r = .inl t ∧ t.length = f.length ∧ ∀ m, 0 ≤ m → m < (f.length : Int) → gt t m = -1) (fun s => ((f.length : Int) - s.2).toNat) (fun ⟨t, i⟩ ⟨a0, a1, a2, a3⟩ => by
   dsimp only at a0 a1 a2 a3 ⊢
   unfold Q41.l0b
   have hlen : ((List.replicate (f.length : Int).toNat (0 : Int)).length : Int) = f.length := by simp
   rw [hlen]
   by_cases hi : i < (f.length : Int)
   ·right
    rw [if_pos hi, if_pos ⟨a1, hi⟩, wrap64 (x := i + 1) (by omega) (by omega)]
    refine ⟨_, rfl, ⟨by dsimp only; rw [Q105, a0], by dsimp only; omega, by dsimp only; omega, fun m m0 m1 => ?_⟩, by dsimp only; omega⟩
    dsimp only at m1 ⊢
    rw [Q87 a1 (by omega) m0]
    split
    ·rfl
    ·exact a3 m m0 (by omega)
   ·left
    rw [if_neg hi]
    exact ⟨_, rfl, t, rfl, a0, fun m m0 m1 => a3 m m0 (by omega)⟩) (List.replicate (f.length : Int).toNat 0, 0) ⟨by simp, Int.le_refl 0, by dsimp only; omega, fun m m0 m1 => by dsimp only at m1; omega⟩
 have hr' : Q41.l0 f (List.replicate (f.length : Int).toNat 0) 0 = some (.inl t) := hr
 obtain ⟨to, odd, dep, he, w⟩ := walk_run hf s [] 0 t (List.replicate (f.length : Int).toNat false) (List.replicate (f.length : Int).toNat 0) hl (by simp) (by simp) (fun p hp => by cases hp) (by decide) (by omega) (by simp; omega)
 refine ⟨to, odd, dep, ?_, w.l1, w.l2, w.l3, fun h => w.bd (fun m a b c => h m a (by omega) c) fun m a b => ht m a (by omega)⟩
 unfold Q41.f
 rw [if_pos (by omega), if_pos (by omega), hr', Q16, wrap64 (by omega) (by omega)]
 unfold Q23.f
 rw [he.recF]
 rfl
theorem fix_run (K A B At : Int) (a : Bs) : Q76.f K A B a At = some (decide (K = 10 ∨ K = 11)) := by
 unfold Q76.f
 by_cases h : K = 10 <;> simp [h, Q16]
structure Bound (f : List Q1) (to : List Int) : Prop where
 n0 : 1 ≤ f.length
 n1 : f.length ≤ 60
 bi : Q104.f f = some to
 len : to.length = f.length
 bd : Bd f to [] 0 ((f.length : Int) - 1)
theorem check_run (f : List Q1) (hs : ∀ n ∈ f, (n.Name.length : Int) ≤ 9223372036854775807) : ∃ e i, Q43.f f = some (e, i) ∧ (e = 0 → ∃ to, Bound f to) := by
 obtain ⟨b, hb, hr⟩ := Q323 f hs
 unfold Q43.f
 rw [hb, Option.bind_some]
 cases b with
 | false => exact ⟨1, 0, by simp, by simp⟩
 | true =>
 obtain ⟨n0, n1, sb⟩ := hr rfl
 obtain ⟨to, odd, dep, hw, l1, l2, l3, hbd⟩ := Q298 n0 n1 sb
 simp only [if_true, hw, Option.bind_some]
 have hl0 : ((List.replicate (f.length : Int).toNat (0 : Int)).length : Int) = f.length := by simp
 have hlf : ((List.replicate (f.length : Int).toNat false).length : Int) = f.length := by simp
 obtain ⟨r, hr, hq⟩ := Q66 (body := fun t_ : (List (Bs × Bool)) × Int => Q43.l0b f ([], to, odd, dep, 0) t_.1 t_.2) (fun s => 0 ≤ s.2 ∧ s.2 ≤ (f.length : Int) ∧ ∀ m, 0 ≤ m → m < s.2 → (gt f m).Kind = 4 → 0 ≤ gt to m ∧ gt odd m = false)
  (fun r => (∃ x, r = .inl x ∧ ∀ m, 0 ≤ m → m < (f.length : Int) → (gt f m).Kind = 4 → 0 ≤ gt to m ∧ gt odd m = false) ∨ ∃ e i, r = .inr (e, i) ∧ e ≠ 0) (fun s => ((f.length : Int) - s.2).toNat) (fun ⟨x, i⟩ ⟨a1, a2, a3⟩ => by
   dsimp only at a1 a2 a3 ⊢
   unfold Q43.l0b
   rw [hl0, hlf]
   by_cases hi : i < (f.length : Int)
   ·rw [if_pos hi, if_pos ⟨a1, hi⟩]
    simp only [fix_run, Option.bind_some, if_pos (And.intro a1 hi)]
    by_cases k4 : (gt f i).Kind = 4
    ·have k10 : ¬ ((gt f i).Kind = 10 ∨ (gt f i).Kind = 11) := by omega
     simp only [if_pos k4, Q16, decide_eq_false k10, Bool.false_eq_true, if_false]
     by_cases t0 : gt to i < 0
     ·left; simp only [decide_eq_true t0, if_true, jn_up]; exact ⟨_, rfl, .inr ⟨11, i, rfl, by decide⟩⟩
     simp only [decide_eq_false t0, Bool.false_eq_true, if_false]
     cases ho : gt odd i with
     | true => left; simp only [if_true, jn_up]; exact ⟨_, rfl, .inr ⟨12, i, rfl, by decide⟩⟩
     | false =>
      right
      simp only [Bool.false_eq_true, if_false, Q16]
      rw [wrap64 (x := i + 1) (by omega) (by omega)]
      refine ⟨_, rfl, ⟨by dsimp only; omega, by dsimp only; omega, fun m m0 m1 mk => ?_⟩, by dsimp only; omega⟩
      dsimp only at m1
      by_cases hm : m = i
      ·rw [hm]; exact ⟨by omega, ho⟩
      ·exact a3 m m0 (by omega) mk
    ·simp only [if_neg k4, Q16, Bool.false_eq_true, if_false]
     have nxt : ∀ x' : List (Bs × Bool), ∃ s' : (List (Bs × Bool)) × Int, (nx (x', IntKind.i64.wrap (i + 1)) : Option (((List (Bs × Bool)) × Int) ⊕ (((List (Bs × Bool))) ⊕ (Int × Int)))) = some (.inl s') ∧ (0 ≤ s'.2 ∧ s'.2 ≤ (f.length : Int) ∧ ∀ m, 0 ≤ m → m < s'.2 → (gt f m).Kind = 4 → 0 ≤ gt to m ∧ gt odd m = false) ∧ ((f.length : Int) - s'.2).toNat < ((f.length : Int) - i).toNat := fun x' => by
      rw [wrap64 (x := i + 1) (by omega) (by omega)]
      refine ⟨_, rfl, ⟨by dsimp only; omega, by dsimp only; omega, fun m m0 m1 mk => ?_⟩, by dsimp only; omega⟩
      dsimp only at m1
      by_cases hm : m = i
      ·rw [hm] at mk; exact absurd mk k4
      ·exact a3 m m0 (by omega) mk
     by_cases k10 : (gt f i).Kind = 10 ∨ (gt f i).Kind = 11
     ·simp only [decide_eq_true k10, if_true, Q16]
      cases hse : (mget x (gt f i).Name).getD false with
      | true => left; simp only [if_true, jn_up]; exact ⟨_, rfl, .inr ⟨9, i, rfl, by decide⟩⟩
      | false =>
       simp only [Bool.false_eq_true, if_false]
       by_cases h4 : 4 < gt dep i
       ·left; simp only [decide_eq_true h4, if_true, jn_up]; exact ⟨_, rfl, .inr ⟨13, i, rfl, by decide⟩⟩
       ·right
        simp only [decide_eq_false h4, Bool.false_eq_true, if_false, Q16]
        exact nxt _
     ·right
      simp only [decide_eq_false k10, Bool.false_eq_true, if_false, Q16]
      exact nxt _
   ·left
    rw [if_neg hi]
    exact ⟨_, rfl, .inl ⟨x, rfl, fun m m0 m1 => a3 m m0 (by omega)⟩⟩) ([], 0) ⟨by decide, by dsimp only; omega, fun m m0 m1 => by dsimp only at m1; omega⟩
 have hr' : Q43.l0 f ([], to, odd, dep, 0) [] 0 = some r := hr
 rw [hr']
 rcases hq with ⟨x, rfl, hg⟩ | ⟨e, i, rfl, he⟩
 ·refine ⟨0, 0, rfl, fun _ => ⟨to, n0, n1, ?_, l1, hbd hg⟩⟩
  unfold Q104.f
  rw [hb, Option.bind_some, if_pos rfl, hw]
  rfl
 ·exact ⟨e, i, rfl, fun h => absurd h he⟩
end Go.Bw
