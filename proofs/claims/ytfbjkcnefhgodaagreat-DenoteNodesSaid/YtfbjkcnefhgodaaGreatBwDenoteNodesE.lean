/- DenoteNodes, part 5: walks and plain laws. Conditions: none. -/
import Derived.Test.YtfbjkcnefhgodaaGreatProg
import Derived.Deep.QuietTactic
import Derived.Test.YtfbjkcnefhgodaaGreatBwDenoteNodesD
set_option linter.unusedVariables false
set_option linter.unusedSimpArgs false
set_option linter.unusedSectionVars false
set_option maxRecDepth 100000
set_option maxHeartbeats 2000000
namespace Go.Bw
open Go Go.RowKit Go.Proofs
variable {R : Res} {Fr : List HProp} {b0 b0_1 b0_2 b0_0 b0_0_1 b0_0_2 n0_1 c0_1 n0_2 c0_2 n0_7 c0_7 n1 c1 : Nat} {A0_1 A0_2 A0_7 A1 : Option Addr}
noncomputable def Q69.f (p q u x D G I J : Int) : Option (Int × Int × Int × Int) :=
 some (band .u64 p D, band .u64 q G, band .u64 u I, band .u64 x J)
theorem Q69.callee : Callee Tryz.prog 19 := ⟨_, Tryz.func19, by kernel_rfl, by kernel_rfl⟩
theorem Q69.spec {p u x D G I J L : Int} {r : Int × Int × Int × Int} (j : Q69.f p u x D G I J L = some r) :
 Spec Tryz.prog 19 [.agg #[.int .u64 p, .int .u64 u, .int .u64 x, .int .u64 D], .agg #[.int .u64 G, .int .u64 I, .int .u64 J, .int .u64 L]] R (Fr) (fun v l' => v = .agg #[.int .u64 r.1, .int .u64 r.2.1, .int .u64 r.2.2.1, .int .u64 r.2.2.2] ∧ Fr = l') := by
 refine Spec.of Tryz.func19 rfl rfl ?_; unfold Q69.f at j; have j := brun j; refine At.seq (At.region ?_); refine At.box rfl rfl (cs := [.int .u64 p, .int .u64 u, .int .u64 x, .int .u64 D]) rfl rfl (fun M => ?_); refine At.box rfl rfl (cs := [.int .u64 G, .int .u64 I, .int .u64 J, .int .u64 L]) rfl rfl (fun O => ?_); refine At.alloc rfl rfl rfl (fun U => ?_); refine nT (At.seq (sR 1 rfl (nT ?_))); refine At.block ?_; refine At.rounds 5 ?_; refine At.round ?_; refine sR 1 rfl (nT (At.seq ?_)); refine At.condT rfl rfl ?_; refine At.skip (At.thn (At.seq ?_)); refine At.block ?_; refine sR 2 rfl (nT ?_); refine At.still 8 (by kernel_rfl) ?_; refine At.Still.run 1 rfl ?_; refine At.Still.y (Y.ixArrK rfl rfl rfl rfl rfl (show (0 : Int) ≤ 0 ∧ (0 : Int) < 4 by decide).1 (show (0 : Int) ≤ 0 ∧ (0 : Int) < 4 by decide).2 (q := 0) (off := 0) rfl rfl) rfl rfl rfl ?_; refine At.Still.y (Y.load rfl rfl (.s (.s .z)) rfl rfl rfl) rfl rfl rfl ?_; refine At.Still.run 1 rfl ?_; refine At.Still.y (Y.ixArrK rfl rfl rfl rfl rfl (show (0 : Int) ≤ 0 ∧ (0 : Int) < 4 by decide).1 (show (0 : Int) ≤ 0 ∧ (0 : Int) < 4 by decide).2 (q := 0) (off := 0) rfl rfl) rfl rfl rfl ?_; refine At.Still.y (Y.load rfl rfl (.s .z) rfl rfl rfl) rfl rfl rfl ?_; refine At.Still.run 1 rfl ?_; refine At.Still.y (Y.ixArrK rfl rfl rfl rfl rfl (show (0 : Int) ≤ 0 ∧ (0 : Int) < 4 by decide).1 (show (0 : Int) ≤ 0 ∧ (0 : Int) < 4 by decide).2 (q := 0) (off := 0) rfl rfl) rfl rfl rfl ?_; refine At.Still.nil ?_; refine At.store rfl rfl rfl rfl (.s (.s .z)) rfl rfl rfl (.c .n) ?_; refine At.nil ?_; refine At.ibn ?_; refine At.thn (At.region (At.run 2 rfl (nT ?_))); refine At.round ?_; refine sR 1 rfl (nT (At.seq ?_)); refine At.condT rfl rfl ?_; refine At.skip (At.thn (At.seq ?_)); refine At.block ?_; refine sR 2 rfl (nT ?_); refine At.still 8 (by kernel_rfl) ?_; refine At.Still.run 1 rfl ?_; refine At.Still.y (Y.ixArrK rfl rfl rfl rfl rfl (show (0 : Int) ≤ 1 ∧ (1 : Int) < 4 by decide).1 (show (0 : Int) ≤ 1 ∧ (1 : Int) < 4 by decide).2 (q := 1) (off := 1) rfl rfl) rfl rfl rfl ?_; refine At.Still.y (Y.load rfl rfl .z rfl rfl rfl) rfl rfl rfl ?_; refine At.Still.run 1 rfl ?_; refine At.Still.y (Y.ixArrK rfl rfl rfl rfl rfl (show (0 : Int) ≤ 1 ∧ (1 : Int) < 4 by decide).1 (show (0 : Int) ≤ 1 ∧ (1 : Int) < 4 by decide).2 (q := 1) (off := 1) rfl rfl) rfl rfl rfl ?_; refine At.Still.y (Y.load rfl rfl (.s (.s .z)) rfl rfl rfl) rfl rfl rfl ?_; refine At.Still.run 1 rfl ?_; refine At.Still.y (Y.ixArrK rfl rfl rfl rfl rfl (show (0 : Int) ≤ 1 ∧ (1 : Int) < 4 by decide).1 (show (0 : Int) ≤ 1 ∧ (1 : Int) < 4 by decide).2 (q := 1) (off := 1) rfl rfl) rfl rfl rfl ?_; refine At.Still.nil ?_; refine At.store rfl rfl rfl rfl .z rfl rfl rfl (.s (.c .n)) ?_; refine At.nil ?_; refine At.ibn ?_; refine At.thn (At.region (At.run 2 rfl (nT ?_))); refine At.round ?_; refine sR 1 rfl (nT (At.seq ?_)); refine At.condT rfl rfl ?_; refine At.skip (At.thn (At.seq ?_)); refine At.block ?_; refine sR 2 rfl (nT ?_); refine At.still 8 (by kernel_rfl) ?_; refine At.Still.run 1 rfl ?_; refine At.Still.y (Y.ixArrK rfl rfl rfl rfl rfl (show (0 : Int) ≤ 2 ∧ (2 : Int) < 4 by decide).1 (show (0 : Int) ≤ 2 ∧ (2 : Int) < 4 by decide).2 (q := 2) (off := 2) rfl rfl) rfl rfl rfl ?_; refine At.Still.y (Y.load rfl rfl .z rfl rfl rfl) rfl rfl rfl ?_; refine At.Still.run 1 rfl ?_; refine At.Still.y (Y.ixArrK rfl rfl rfl rfl rfl (show (0 : Int) ≤ 2 ∧ (2 : Int) < 4 by decide).1 (show (0 : Int) ≤ 2 ∧ (2 : Int) < 4 by decide).2 (q := 2) (off := 2) rfl rfl) rfl rfl rfl ?_; refine At.Still.y (Y.load rfl rfl (.s (.s .z)) rfl rfl rfl) rfl rfl rfl ?_; refine At.Still.run 1 rfl ?_; refine At.Still.y (Y.ixArrK rfl rfl rfl rfl rfl (show (0 : Int) ≤ 2 ∧ (2 : Int) < 4 by decide).1 (show (0 : Int) ≤ 2 ∧ (2 : Int) < 4 by decide).2 (q := 2) (off := 2) rfl rfl) rfl rfl rfl ?_; refine At.Still.nil ?_; refine At.store rfl rfl rfl rfl .z rfl rfl rfl (.s (.s (.c .n))) ?_; refine At.nil ?_; refine At.ibn ?_; refine At.thn (At.region (At.run 2 rfl (nT ?_))); refine At.round ?_; refine sR 1 rfl (nT (At.seq ?_)); refine At.condT rfl rfl ?_; refine At.skip (At.thn (At.seq ?_)); refine At.block ?_; refine sR 2 rfl (nT ?_); refine At.still 8 (by kernel_rfl) ?_; refine At.Still.run 1 rfl ?_; refine At.Still.y (Y.ixArrK rfl rfl rfl rfl rfl (show (0 : Int) ≤ 3 ∧ (3 : Int) < 4 by decide).1 (show (0 : Int) ≤ 3 ∧ (3 : Int) < 4 by decide).2 (q := 3) (off := 3) rfl rfl) rfl rfl rfl ?_; refine At.Still.y (Y.load rfl rfl .z rfl rfl rfl) rfl rfl rfl ?_; refine At.Still.run 1 rfl ?_; refine At.Still.y (Y.ixArrK rfl rfl rfl rfl rfl (show (0 : Int) ≤ 3 ∧ (3 : Int) < 4 by decide).1 (show (0 : Int) ≤ 3 ∧ (3 : Int) < 4 by decide).2 (q := 3) (off := 3) rfl rfl) rfl rfl rfl ?_; refine At.Still.y (Y.load rfl rfl (.s (.s .z)) rfl rfl rfl) rfl rfl rfl ?_; refine At.Still.run 1 rfl ?_; refine At.Still.y (Y.ixArrK rfl rfl rfl rfl rfl (show (0 : Int) ≤ 3 ∧ (3 : Int) < 4 by decide).1 (show (0 : Int) ≤ 3 ∧ (3 : Int) < 4 by decide).2 (q := 3) (off := 3) rfl rfl) rfl rfl rfl ?_; refine At.Still.nil ?_; refine At.store rfl rfl rfl rfl .z rfl rfl rfl (.s (.s (.s (.c .n)))) ?_; refine At.nil ?_; refine At.ibn ?_; refine At.thn (At.region (At.run 2 rfl (nT ?_))); refine At.round ?_; refine sR 1 rfl (nT (At.seq ?_)); refine At.condF rfl rfl ?_; refine At.exit ?_; refine At.the ?_; refine At.the ?_; refine At.ibx ?_; refine At.thn (At.seq (At.region (At.y (Y.load rfl rfl .z rfl rfl rfl) rfl rfl rfl ?_))); refine At.store rfl rfl rfl rfl (.s .z) rfl rfl rfl (.c (.c (.c (.c .n)))) ?_; refine nT (At.ret ?_); refine At.resM (.inl rfl) rfl (RV.cell rfl rfl .z rfl rfl rfl RV.nil) ?_; refine At.drop .z (At.drop .z (At.drop .z ?_)); cases bret j; exact fun a w e hs => ⟨_, ⟨rfl, rfl⟩, hs⟩

noncomputable def Q97.f (p q u x D G I J : Int) : Option (Int × Int × Int × Int) :=
 some (bor .u64 p D, bor .u64 q G, bor .u64 u I, bor .u64 x J)
theorem Q97.callee : Callee Tryz.prog 20 := ⟨_, Tryz.func20, by kernel_rfl, by kernel_rfl⟩
theorem Q97.spec {p u x D G I J L : Int} {r : Int × Int × Int × Int} (j : Q97.f p u x D G I J L = some r) :
 Spec Tryz.prog 20 [.agg #[.int .u64 p, .int .u64 u, .int .u64 x, .int .u64 D], .agg #[.int .u64 G, .int .u64 I, .int .u64 J, .int .u64 L]] R (Fr) (fun v l' => v = .agg #[.int .u64 r.1, .int .u64 r.2.1, .int .u64 r.2.2.1, .int .u64 r.2.2.2] ∧ Fr = l') := by
 refine Spec.of Tryz.func20 rfl rfl ?_; unfold Q97.f at j; have j := brun j; refine At.seq (At.region ?_); refine At.box rfl rfl (cs := [.int .u64 p, .int .u64 u, .int .u64 x, .int .u64 D]) rfl rfl (fun M => ?_); refine At.box rfl rfl (cs := [.int .u64 G, .int .u64 I, .int .u64 J, .int .u64 L]) rfl rfl (fun O => ?_); refine At.alloc rfl rfl rfl (fun U => ?_); refine nT (At.seq (sR 1 rfl (nT ?_))); refine At.block ?_; refine At.rounds 5 ?_; refine At.round ?_; refine sR 1 rfl (nT (At.seq ?_)); refine At.condT rfl rfl ?_; refine At.skip (At.thn (At.seq ?_)); refine At.block ?_; refine sR 2 rfl (nT ?_); refine At.still 8 (by kernel_rfl) ?_; refine At.Still.run 1 rfl ?_; refine At.Still.y (Y.ixArrK rfl rfl rfl rfl rfl (show (0 : Int) ≤ 0 ∧ (0 : Int) < 4 by decide).1 (show (0 : Int) ≤ 0 ∧ (0 : Int) < 4 by decide).2 (q := 0) (off := 0) rfl rfl) rfl rfl rfl ?_; refine At.Still.y (Y.load rfl rfl (.s (.s .z)) rfl rfl rfl) rfl rfl rfl ?_; refine At.Still.run 1 rfl ?_; refine At.Still.y (Y.ixArrK rfl rfl rfl rfl rfl (show (0 : Int) ≤ 0 ∧ (0 : Int) < 4 by decide).1 (show (0 : Int) ≤ 0 ∧ (0 : Int) < 4 by decide).2 (q := 0) (off := 0) rfl rfl) rfl rfl rfl ?_; refine At.Still.y (Y.load rfl rfl (.s .z) rfl rfl rfl) rfl rfl rfl ?_; refine At.Still.run 1 rfl ?_; refine At.Still.y (Y.ixArrK rfl rfl rfl rfl rfl (show (0 : Int) ≤ 0 ∧ (0 : Int) < 4 by decide).1 (show (0 : Int) ≤ 0 ∧ (0 : Int) < 4 by decide).2 (q := 0) (off := 0) rfl rfl) rfl rfl rfl ?_; refine At.Still.nil ?_; refine At.store rfl rfl rfl rfl (.s (.s .z)) rfl rfl rfl (.c .n) ?_; refine At.nil ?_; refine At.ibn ?_; refine At.thn (At.region (At.run 2 rfl (nT ?_))); refine At.round ?_; refine sR 1 rfl (nT (At.seq ?_)); refine At.condT rfl rfl ?_; refine At.skip (At.thn (At.seq ?_)); refine At.block ?_; refine sR 2 rfl (nT ?_); refine At.still 8 (by kernel_rfl) ?_; refine At.Still.run 1 rfl ?_; refine At.Still.y (Y.ixArrK rfl rfl rfl rfl rfl (show (0 : Int) ≤ 1 ∧ (1 : Int) < 4 by decide).1 (show (0 : Int) ≤ 1 ∧ (1 : Int) < 4 by decide).2 (q := 1) (off := 1) rfl rfl) rfl rfl rfl ?_; refine At.Still.y (Y.load rfl rfl .z rfl rfl rfl) rfl rfl rfl ?_; refine At.Still.run 1 rfl ?_; refine At.Still.y (Y.ixArrK rfl rfl rfl rfl rfl (show (0 : Int) ≤ 1 ∧ (1 : Int) < 4 by decide).1 (show (0 : Int) ≤ 1 ∧ (1 : Int) < 4 by decide).2 (q := 1) (off := 1) rfl rfl) rfl rfl rfl ?_; refine At.Still.y (Y.load rfl rfl (.s (.s .z)) rfl rfl rfl) rfl rfl rfl ?_; refine At.Still.run 1 rfl ?_; refine At.Still.y (Y.ixArrK rfl rfl rfl rfl rfl (show (0 : Int) ≤ 1 ∧ (1 : Int) < 4 by decide).1 (show (0 : Int) ≤ 1 ∧ (1 : Int) < 4 by decide).2 (q := 1) (off := 1) rfl rfl) rfl rfl rfl ?_; refine At.Still.nil ?_; refine At.store rfl rfl rfl rfl .z rfl rfl rfl (.s (.c .n)) ?_; refine At.nil ?_; refine At.ibn ?_; refine At.thn (At.region (At.run 2 rfl (nT ?_))); refine At.round ?_; refine sR 1 rfl (nT (At.seq ?_)); refine At.condT rfl rfl ?_; refine At.skip (At.thn (At.seq ?_)); refine At.block ?_; refine sR 2 rfl (nT ?_); refine At.still 8 (by kernel_rfl) ?_; refine At.Still.run 1 rfl ?_; refine At.Still.y (Y.ixArrK rfl rfl rfl rfl rfl (show (0 : Int) ≤ 2 ∧ (2 : Int) < 4 by decide).1 (show (0 : Int) ≤ 2 ∧ (2 : Int) < 4 by decide).2 (q := 2) (off := 2) rfl rfl) rfl rfl rfl ?_; refine At.Still.y (Y.load rfl rfl .z rfl rfl rfl) rfl rfl rfl ?_; refine At.Still.run 1 rfl ?_; refine At.Still.y (Y.ixArrK rfl rfl rfl rfl rfl (show (0 : Int) ≤ 2 ∧ (2 : Int) < 4 by decide).1 (show (0 : Int) ≤ 2 ∧ (2 : Int) < 4 by decide).2 (q := 2) (off := 2) rfl rfl) rfl rfl rfl ?_; refine At.Still.y (Y.load rfl rfl (.s (.s .z)) rfl rfl rfl) rfl rfl rfl ?_; refine At.Still.run 1 rfl ?_; refine At.Still.y (Y.ixArrK rfl rfl rfl rfl rfl (show (0 : Int) ≤ 2 ∧ (2 : Int) < 4 by decide).1 (show (0 : Int) ≤ 2 ∧ (2 : Int) < 4 by decide).2 (q := 2) (off := 2) rfl rfl) rfl rfl rfl ?_; refine At.Still.nil ?_; refine At.store rfl rfl rfl rfl .z rfl rfl rfl (.s (.s (.c .n))) ?_; refine At.nil ?_; refine At.ibn ?_; refine At.thn (At.region (At.run 2 rfl (nT ?_))); refine At.round ?_; refine sR 1 rfl (nT (At.seq ?_)); refine At.condT rfl rfl ?_; refine At.skip (At.thn (At.seq ?_)); refine At.block ?_; refine sR 2 rfl (nT ?_); refine At.still 8 (by kernel_rfl) ?_; refine At.Still.run 1 rfl ?_; refine At.Still.y (Y.ixArrK rfl rfl rfl rfl rfl (show (0 : Int) ≤ 3 ∧ (3 : Int) < 4 by decide).1 (show (0 : Int) ≤ 3 ∧ (3 : Int) < 4 by decide).2 (q := 3) (off := 3) rfl rfl) rfl rfl rfl ?_; refine At.Still.y (Y.load rfl rfl .z rfl rfl rfl) rfl rfl rfl ?_; refine At.Still.run 1 rfl ?_; refine At.Still.y (Y.ixArrK rfl rfl rfl rfl rfl (show (0 : Int) ≤ 3 ∧ (3 : Int) < 4 by decide).1 (show (0 : Int) ≤ 3 ∧ (3 : Int) < 4 by decide).2 (q := 3) (off := 3) rfl rfl) rfl rfl rfl ?_; refine At.Still.y (Y.load rfl rfl (.s (.s .z)) rfl rfl rfl) rfl rfl rfl ?_; refine At.Still.run 1 rfl ?_; refine At.Still.y (Y.ixArrK rfl rfl rfl rfl rfl (show (0 : Int) ≤ 3 ∧ (3 : Int) < 4 by decide).1 (show (0 : Int) ≤ 3 ∧ (3 : Int) < 4 by decide).2 (q := 3) (off := 3) rfl rfl) rfl rfl rfl ?_; refine At.Still.nil ?_; refine At.store rfl rfl rfl rfl .z rfl rfl rfl (.s (.s (.s (.c .n)))) ?_; refine At.nil ?_; refine At.ibn ?_; refine At.thn (At.region (At.run 2 rfl (nT ?_))); refine At.round ?_; refine sR 1 rfl (nT (At.seq ?_)); refine At.condF rfl rfl ?_; refine At.exit ?_; refine At.the ?_; refine At.the ?_; refine At.ibx ?_; refine At.thn (At.seq (At.region (At.y (Y.load rfl rfl .z rfl rfl rfl) rfl rfl rfl ?_))); refine At.store rfl rfl rfl rfl (.s .z) rfl rfl rfl (.c (.c (.c (.c .n)))) ?_; refine nT (At.ret ?_); refine At.resM (.inl rfl) rfl (RV.cell rfl rfl .z rfl rfl rfl RV.nil) ?_; refine At.drop .z (At.drop .z (At.drop .z ?_)); cases bret j; exact fun a w e hs => ⟨_, ⟨rfl, rfl⟩, hs⟩

noncomputable def Q25.l0b (L : Int) (q : List (Q8 × Q0)) (M O U V : Int) (a2 : Bs) (D G I J p : Int) : Option ((Int × Int × Int × Int × Int) ⊕ ((Int × Int × Int × Int) ⊕ (Int × Int × Int × Int))) :=
 if p < L then
 jn (
 (Q69.f (((mget q (⟨p, a2⟩ : Q8)).getD (⟨(0 : Int), (0 : Int), (0 : Int), (0 : Int)⟩ : Q0)).c0) (((mget q (⟨p, a2⟩ : Q8)).getD (⟨(0 : Int), (0 : Int), (0 : Int), (0 : Int)⟩ : Q0)).c1) (((mget q (⟨p, a2⟩ : Q8)).getD (⟨(0 : Int), (0 : Int), (0 : Int), (0 : Int)⟩ : Q0)).c2) (((mget q (⟨p, a2⟩ : Q8)).getD (⟨(0 : Int), (0 : Int), (0 : Int), (0 : Int)⟩ : Q0)).c3) M O U V).bind fun u =>
 if (decide (u.1 = 0) && (decide (u.2.1 = 0) && (decide (u.2.2.1 = 0) && (decide (u.2.2.2 = 0) && true)))) = true then
 some (.inl (D, G, I, J))
 else
 (Q74.f D G I J p).bind fun x =>
 some (.inl (x.1, x.2.1, x.2.2.1, x.2.2.2))) (fun (s_ : Int × Int × Int × Int) =>
 nx (s_.1, s_.2.1, s_.2.2.1, s_.2.2.2, IntKind.i64.wrap (p + 1)))
 else
 dn (.inl (D, G, I, J))
noncomputable def Q25.l0 (p : Int) (q : List (Q8 × Q0)) (u x D G : Int) (a2 : Bs) (I J L M O : Int) : Option ((Int × Int × Int × Int) ⊕ (Int × Int × Int × Int)) := iter (fun t_ : Int × Int × Int × Int × Int => Q25.l0b p q u x D G a2 t_.1 t_.2.1 t_.2.2.1 t_.2.2.2.1 t_.2.2.2.2) (I, J, L, M, O)
noncomputable def Q25.f (p : Int) (I : List (Bs × Q0)) (q : List (Q8 × Q0)) (u x D G : Int) (a2 : Bs) : Option (Int × Int × Int × Int) :=
 jn (Q25.l0 p q u x D G a2 0 0 0 0 0) (fun (s_ : Int × Int × Int × Int) =>
 some (s_.1, s_.2.1, s_.2.2.1, s_.2.2.2))
theorem Q25.callee : Callee Tryz.prog 21 := ⟨_, Tryz.func21, by kernel_rfl, by kernel_rfl⟩
theorem Q25.spec {p q u x D : Int} {M : List (Bs × Q0)} {G : List (Q8 × Q0)} {a2 : Bs} {r : Int × Int × Int × Int} (j : Q25.f p M G q u x D a2 = some r) :
 Spec Tryz.prog 21 [bp b0, .agg #[.int .u64 q, .int .u64 u, .int .u64 x, .int .u64 D], .string ⟨(a2).toArray⟩] R (pc b0 [i6 p, .map (some b0_1), .map (some b0_2)] 72 :: mapo Fl.bs.ov Q0.fl.av b0_1 M :: mapo Q8.fl.av Q0.fl.av b0_2 G :: Fr) (fun v l' => v = .agg #[.int .u64 r.1, .int .u64 r.2.1, .int .u64 r.2.2.1, .int .u64 r.2.2.2] ∧ pc b0 [i6 p, .map (some b0_1), .map (some b0_2)] 72 :: mapo Fl.bs.ov Q0.fl.av b0_1 M :: mapo Q8.fl.av Q0.fl.av b0_2 G :: Fr = l') := by
 refine Spec.of Tryz.func21 rfl rfl ?_; unfold Q25.f at j; have j := brun j; refine At.seq (At.region ?_); refine At.box rfl rfl (cs := [.int .u64 q, .int .u64 u, .int .u64 x, .int .u64 D]) rfl rfl (fun Z => ?_); refine At.alloc rfl rfl rfl (fun O => ?_); refine nT (At.seq (At.region ?_)); refine At.alloc rfl rfl rfl (fun I => ?_); refine nT (At.seq (sR 3 rfl (At.y (Y.load rfl rfl (.s (.s (.s .z))) rfl rfl rfl) rfl rfl rfl (At.run 1 rfl ?_)))); refine nT ?_; refine At.block ?_; obtain ⟨b3, b4, d1, j⟩ := bjoin j; obtain ⟨a0, a1, b5⟩ := bsome j; clear j; unfold Q25.l0 at a1; obtain ⟨a3, L⟩ := Q17.1 a1; clear a1; let T1 : HProp := pt O (.cells ([.int .u64 0, .int .u64 0, .int .u64 0, .int .u64 0] : List Value).toArray 38); let T2 : HProp := pc Z [.int .u64 q, .int .u64 u, .int .u64 x, .int .u64 D] 38; let T3 : HProp := pc b0 [i6 p, .map (some b0_1), .map (some b0_2)] 72; let T4 : HProp := mapo Fl.bs.ov Q0.fl.av b0_1 M; let T5 : HProp := mapo Q8.fl.av Q0.fl.av b0_2 G; refine At.loopJ (X := Int × Int × Int × Int × Int) (Y := Int × Int × Int × Int) (e0 := 0) (fun s_ => [(0, bp b0), (2, .string ⟨(a2).toArray⟩), (4, bp Z), (6, bp O), (7, bp I), (12, i6 p), (13, i6 s_.2.2.2.2)]) (fun s_ => pc I [.int .u64 s_.1, .int .u64 s_.2.1, .int .u64 s_.2.2.1, .int .u64 s_.2.2.2.1] 38 :: T1 :: T2 :: T3 :: T4 :: T5 :: Fr) (fun m_ => fun s_ => iterN (fun t_ : Int × Int × Int × Int × Int => Q25.l0b p G q u x D a2 t_.1 t_.2.1 t_.2.2.1 t_.2.2.2.1 t_.2.2.2.2) m_ (s_.1, s_.2.1, s_.2.2.1, s_.2.2.2.1, s_.2.2.2.2) = some a0) a3 (0, 0, 0, 0, 0) L (fun s_ => [(6, bp O), (7, bp I)]) (fun s_ => pc I [.int .u64 s_.1, .int .u64 s_.2.1, .int .u64 s_.2.2.1, .int .u64 s_.2.2.2] 38 :: T1 :: T2 :: T3 :: T4 :: T5 :: Fr) (fun s_ => b3 (.inl (s_.1, s_.2.1, s_.2.2.1, s_.2.2.2)) = some r) (fun a w e hs => ⟨e.sub ⟨rfl, rfl, rfl, rfl, rfl, rfl, rfl, trivial⟩, (by exact hs)⟩) ?_ (fun b6 => ?_)
 ·rintro ⟨d2, d3, d4, d5⟩ j; have j := (b4 _).symm.trans j
  ·refine At.ibx ?_; refine At.thn (At.seq (At.region (At.y (Y.load rfl rfl .z rfl rfl rfl) rfl rfl rfl ?_))); refine At.store rfl rfl rfl rfl (.s .z) rfl rfl rfl (.c (.c (.c (.c .n)))) ?_; refine nT (At.ret ?_); refine At.resM (.inl rfl) rfl (RV.cell rfl rfl .z rfl rfl rfl RV.nil) ?_; refine At.drop .z (At.drop .z (At.drop .z ?_)); cases bret j; exact fun a w e hs => ⟨_, ⟨rfl, rfl⟩, hs⟩
 ·clear L a3; rintro a3 ⟨a4, a5, a6, a7, J⟩ L; obtain ⟨b7, f_, b8, hf_, j⟩ := bit L; clear L; have j : (Q25.l0b p G q u x D a2 a4 a5 a6 a7 J).bind _ = some a0 := j; unfold Q25.l0b at j
  ·refine sR 1 rfl (nT (At.seq ?_)); rcases bite j with ⟨a8, j⟩ | ⟨a8, j⟩
   ··refine At.condT rfl (decide_eq_true a8) ?_
     refine At.skip (At.thn (At.seq ?_)); obtain ⟨b9, c4, d6, j⟩ := bjoin j; refine At.join (X := Int × Int × Int × Int) (fun s_ => [(0, bp b0), (2, .string ⟨(a2).toArray⟩), (4, bp Z), (6, bp O), (7, bp I), (12, i6 p), (13, i6 J)]) (fun s_ => pc I [.int .u64 s_.1, .int .u64 s_.2.1, .int .u64 s_.2.2.1, .int .u64 s_.2.2.2] 38 :: T1 :: T2 :: T3 :: T4 :: T5 :: Fr) (fun s_ => b9 (.inl (s_.1, s_.2.1, s_.2.2.1, s_.2.2.2)) = some a0) ?_ (fun b2 => ?_)
     ·rintro ⟨c5, c6, c7, c8⟩ j; have j := (c4 _).symm.trans j
      ·refine At.region (At.run 2 rfl (At.nil ?_)); have j := bnx hf_ j; exact fun a w e hs => ⟨b7, (c5, c6, c7, c8, IntKind.i64.wrap (J + 1)), b8, j, e.sub ⟨rfl, rfl, rfl, rfl, rfl, rfl, rfl, trivial⟩, hs⟩
     ··refine At.block ?_
       refine sR 2 rfl (nT (At.seq ?_)); refine At.quiet (by kernel_rfl) ?_; refine At.Quiet.run 3 rfl ?_; refine At.Quiet.y (Y.load rfl rfl (.s (.s (.s .z))) rfl rfl rfl) rfl rfl rfl ?_; refine At.Quiet.run 2 rfl ?_; refine At.Quiet.y (Y.build (is := [0, 1]) (xo := [.tmp 20, .tmp 21]) (vs := [i6 J, .string ⟨(a2).toArray⟩]) (cs := [i6 J, .string ⟨(a2).toArray⟩]) rfl rfl rfl rfl rfl rfl) rfl rfl rfl ?_; refine At.Quiet.y (Y.lookup (k := (⟨J, a2⟩ : Q8)) (z := (⟨(0 : Int), (0 : Int), (0 : Int), (0 : Int)⟩ : Q0)) (.s (.s (.s (.s (.s .z))))) rfl rfl Q8.keyok (by kernel_rfl) rfl rfl rfl) rfl rfl rfl ?_; refine At.Quiet.y (Y.load rfl rfl (.s (.s .z)) rfl rfl rfl) rfl rfl rfl ?_; obtain ⟨U, c9, j⟩ := bbind j; refine At.Quiet.call rfl Q69.callee rfl rfl rfl (Q69.spec c9) (fun _ _ h_ => ⟨h_.1, fun _ hs => h_.2 ▸ hs⟩) ?_; refine At.Quiet.y (Y.buildA (is := []) (xo := []) (vs := []) (cs := [.int .u64 0, .int .u64 0, .int .u64 0, .int .u64 0]) rfl rfl rfl rfl rfl rfl) rfl rfl rfl ?_; refine At.Quiet.y (Y.neAr (xs := [.int .u64 U.1, .int .u64 U.2.1, .int .u64 U.2.2.1, .int .u64 U.2.2.2]) (ys := [.int .u64 0, .int .u64 0, .int .u64 0, .int .u64 0]) rfl rfl rfl rfl rfl rfl rfl (by kernel_rfl) rfl) rfl rfl rfl ?_; refine At.Quiet.nil (At.thn ?_); rcases bite j with ⟨a9, j⟩ | ⟨a9, j⟩
       ··refine At.condF rfl (nf a9) ?_
         refine At.skip ?_; refine At.ibn ?_; refine At.thn ?_; exact fun a w e hs => b2 (a4, a5, a6, a7) j a w (e.sub ⟨rfl, rfl, rfl, rfl, rfl, rfl, rfl, trivial⟩) hs
       ··refine At.condT rfl (nt (bn a9)) ?_
         refine At.region (At.y (Y.load rfl rfl .z rfl rfl rfl) rfl rfl rfl (At.run 1 rfl ?_)); obtain ⟨V, d0, j⟩ := bbind j; refine At.call rfl Q74.callee rfl rfl rfl (Q74.spec d0) ?_; rintro _ _ ⟨rfl, rfl⟩; refine At.store rfl rfl rfl rfl .z rfl rfl rfl (.c (.c (.c (.c .n)))) ?_; refine At.nil ?_; refine At.ibn ?_; refine At.thn ?_; exact fun a w e hs => b2 (V.1, V.2.1, V.2.2.1, V.2.2.2) j a w (e.sub ⟨rfl, rfl, rfl, rfl, rfl, rfl, rfl, trivial⟩) hs
   ··refine At.condF rfl (decide_eq_false a8) ?_
     refine At.exit ?_; refine At.the ?_; refine At.the ?_; exact fun a w e hs => b6 (a4, a5, a6, a7) (bdn j b5) a w (e.sub ⟨rfl, rfl, trivial⟩) hs

theorem Q11.callee : Callee Tryz.prog 33 := ⟨_, Tryz.func33, by kernel_rfl, by kernel_rfl⟩
def Q11.SP (self_ : Int → (List (Bs × Q0)) → (List (Q8 × Q0)) → (List Q2) → (List Int) → Int → Int → Int → Int → (List Q0) → Int → Option ((List Q0) × Int × Int × Int × Int)) : Prop :=
 ∀ (R : Res) (Fr : List HProp) (b0 : Nat) (b0_0 : Nat) (b0_0_1 : Nat) (b0_0_2 : Nat) (A0_1 : Option Addr) (n0_1 : Nat) (c0_1 : Nat) (A0_2 : Option Addr) (n0_2 : Nat) (c0_2 : Nat) (A0_7 : Option Addr) (n0_7 : Nat) (c0_7 : Nat) (a0_0_0 : Int) (a0_0_1 : List (Bs × Q0)) (a0_0_2 : List (Q8 × Q0)) (a0_1 : List Q2) (a0_2 : List Int) (a0_3 : Int) (a0_4 : Int) (a0_5 : Int) (a0_6 : Int) (a0_7 : List Q0) (a1 : Int) (hr0_1 : RdS Q2.fl.rep R.heap A0_1 a0_1) (hn0_1 : a0_1.length = n0_1) (hc0_1 : n0_1 ≤ c0_1) (hn0_2 : a0_2.length = n0_2) (hn0_7 : a0_7.length = n0_7) {r : (List Q0) × Int × Int × Int × Int} (j : self_ a0_0_0 a0_0_1 a0_0_2 a0_1 a0_2 a0_3 a0_4 a0_5 a0_6 a0_7 a1 = some r),
  Spec Tryz.prog 33 [bp b0, i6 a1] R (pc b0 [bp b0_0, .slice A0_1 n0_1 c0_1, .slice A0_2 n0_2 c0_2, .int .u64 a0_3, .int .u64 a0_4, .int .u64 a0_5, .int .u64 a0_6, .slice A0_7 n0_7 c0_7] 88 :: pc b0_0 [i6 a0_0_0, .map (some b0_0_1), .map (some b0_0_2)] 72 :: mapo Fl.bs.ov Q0.fl.av b0_0_1 a0_0_1 :: mapo Q8.fl.av Q0.fl.av b0_0_2 a0_0_2 :: row (Fl.int .i64) 3 A0_2 n0_2 c0_2 a0_2 :: row Q0.fl 38 A0_7 n0_7 c0_7 a0_7 :: Fr) (fun v l' => v = .agg #[.int .u64 r.2.1, .int .u64 r.2.2.1, .int .u64 r.2.2.2.1, .int .u64 r.2.2.2.2] ∧ pc b0 [bp b0_0, .slice A0_1 n0_1 c0_1, .slice A0_2 n0_2 c0_2, .int .u64 a0_3, .int .u64 a0_4, .int .u64 a0_5, .int .u64 a0_6, .slice A0_7 n0_7 c0_7] 88 :: pc b0_0 [i6 a0_0_0, .map (some b0_0_1), .map (some b0_0_2)] 72 :: mapo Fl.bs.ov Q0.fl.av b0_0_1 a0_0_1 :: mapo Q8.fl.av Q0.fl.av b0_0_2 a0_0_2 :: row (Fl.int .i64) 3 A0_2 n0_2 c0_2 a0_2 :: row Q0.fl 38 A0_7 n0_7 c0_7 r.1 :: Fr = l')
theorem Q18.callee : Callee Tryz.prog 73 := ⟨_, Tryz.func73, by kernel_rfl, by kernel_rfl⟩
def Q18.SP (self_ : Int → (List (Bs × Q0)) → (List (Q8 × Q0)) → (List Q2) → (List Int) → Int → Int → Int → Int → (List Q0) → Int → Int → Int → Int → Int → Option ((List Q0) × Int × Int × Int × Int)) : Prop :=
 ∀ (R : Res) (Fr : List HProp) (b0 : Nat) (b0_0 : Nat) (b0_0_1 : Nat) (b0_0_2 : Nat) (A0_1 : Option Addr) (n0_1 : Nat) (c0_1 : Nat) (A0_2 : Option Addr) (n0_2 : Nat) (c0_2 : Nat) (A0_7 : Option Addr) (n0_7 : Nat) (c0_7 : Nat) (a0_0_0 : Int) (a0_0_1 : List (Bs × Q0)) (a0_0_2 : List (Q8 × Q0)) (a0_1 : List Q2) (a0_2 : List Int) (a0_3 : Int) (a0_4 : Int) (a0_5 : Int) (a0_6 : Int) (a0_7 : List Q0) (a1 : Int) (a2_0 : Int) (a2_1 : Int) (a2_2 : Int) (a2_3 : Int) (hr0_1 : RdS Q2.fl.rep R.heap A0_1 a0_1) (hn0_1 : a0_1.length = n0_1) (hc0_1 : n0_1 ≤ c0_1) (hn0_2 : a0_2.length = n0_2) (hn0_7 : a0_7.length = n0_7) {r : (List Q0) × Int × Int × Int × Int} (j : self_ a0_0_0 a0_0_1 a0_0_2 a0_1 a0_2 a0_3 a0_4 a0_5 a0_6 a0_7 a1 a2_0 a2_1 a2_2 a2_3 = some r),
  Spec Tryz.prog 73 [bp b0, i6 a1, .agg #[.int .u64 a2_0, .int .u64 a2_1, .int .u64 a2_2, .int .u64 a2_3]] R (pc b0 [bp b0_0, .slice A0_1 n0_1 c0_1, .slice A0_2 n0_2 c0_2, .int .u64 a0_3, .int .u64 a0_4, .int .u64 a0_5, .int .u64 a0_6, .slice A0_7 n0_7 c0_7] 88 :: pc b0_0 [i6 a0_0_0, .map (some b0_0_1), .map (some b0_0_2)] 72 :: mapo Fl.bs.ov Q0.fl.av b0_0_1 a0_0_1 :: mapo Q8.fl.av Q0.fl.av b0_0_2 a0_0_2 :: row (Fl.int .i64) 3 A0_2 n0_2 c0_2 a0_2 :: row Q0.fl 38 A0_7 n0_7 c0_7 a0_7 :: Fr) (fun v l' => v = .agg #[.int .u64 r.2.1, .int .u64 r.2.2.1, .int .u64 r.2.2.2.1, .int .u64 r.2.2.2.2] ∧ pc b0 [bp b0_0, .slice A0_1 n0_1 c0_1, .slice A0_2 n0_2 c0_2, .int .u64 a0_3, .int .u64 a0_4, .int .u64 a0_5, .int .u64 a0_6, .slice A0_7 n0_7 c0_7] 88 :: pc b0_0 [i6 a0_0_0, .map (some b0_0_1), .map (some b0_0_2)] 72 :: mapo Fl.bs.ov Q0.fl.av b0_0_1 a0_0_1 :: mapo Q8.fl.av Q0.fl.av b0_0_2 a0_0_2 :: row (Fl.int .i64) 3 A0_2 n0_2 c0_2 a0_2 :: row Q0.fl 38 A0_7 n0_7 c0_7 r.1 :: Fr = l')
noncomputable def Q11.g (self_0 : Int → (List (Bs × Q0)) → (List (Q8 × Q0)) → (List Q2) → (List Int) → Int → Int → Int → Int → (List Q0) → Int → Option ((List Q0) × Int × Int × Int × Int)) (self_1 : Int → (List (Bs × Q0)) → (List (Q8 × Q0)) → (List Q2) → (List Int) → Int → Int → Int → Int → (List Q0) → Int → Int → Int → Int → Int → Option ((List Q0) × Int × Int × Int × Int)) (x : Int) (D : List (Bs × Q0)) (G : List (Q8 × Q0)) (p : List Q2) (q : List Int) (I J L M : Int) (u : List Q0) (a1 : Int) : Option ((List Q0) × Int × Int × Int × Int) :=
 if (0 : Int) ≤ a1 ∧ a1 < (p.length : Int) then
 if (gt p a1).Kind = 1 then
 some (u, I, J, L, M)
 else
 if (gt p a1).Kind = 3 then
 (Q51.f x D G ((gt p a1).Name)).bind fun a5 =>
 some (u, a5.1, a5.2.1, a5.2.2.1, a5.2.2.2)
 else
 if (gt p a1).Kind = 12 then
 (Q51.f x D G ((gt p a1).Name)).bind fun a6 =>
 (Q68.f x D G p q I J L M u a6.1 a6.2.1 a6.2.2.1 a6.2.2.2).bind fun a7 =>
 some (u, a7.1, a7.2.1, a7.2.2.1, a7.2.2.2)
 else
 if (gt p a1).Kind = 4 then
 if (0 : Int) ≤ a1 ∧ a1 < (q.length : Int) then
 if (0 : Int) ≤ gt q a1 ∧ gt q a1 < (u.length : Int) then
 some (u, (gt u (gt q a1)).c0, (gt u (gt q a1)).c1, (gt u (gt q a1)).c2, (gt u (gt q a1)).c3)
 else none
 else none
 else
 if (gt p a1).Kind = 5 then
 (self_0 x D G p q I J L M u ((gt p a1).A)).bind fun U =>
 (Q68.f x D G p q I J L M U.1 U.2.1 U.2.2.1 U.2.2.2.1 U.2.2.2.2).bind fun a8 =>
 some (U.1, a8.1, a8.2.1, a8.2.2.1, a8.2.2.2)
 else
 if (gt p a1).Kind = 6 then
 (self_0 x D G p q I J L M u ((gt p a1).A)).bind fun V =>
 (self_0 x D G p q I J L M V.1 ((gt p a1).B)).bind fun X =>
 (Q69.f V.2.1 V.2.2.1 V.2.2.2.1 V.2.2.2.2 X.2.1 X.2.2.1 X.2.2.2.1 X.2.2.2.2).bind fun a9 =>
 some (X.1, a9.1, a9.2.1, a9.2.2.1, a9.2.2.2)
 else
 if (gt p a1).Kind = 7 then
 (self_0 x D G p q I J L M u ((gt p a1).A)).bind fun Z =>
 (self_0 x D G p q I J L M Z.1 ((gt p a1).B)).bind fun a0 =>
 (Q97.f Z.2.1 Z.2.2.1 Z.2.2.2.1 Z.2.2.2.2 a0.2.1 a0.2.2.1 a0.2.2.2.1 a0.2.2.2.2).bind fun b2 =>
 some (a0.1, b2.1, b2.2.1, b2.2.2.1, b2.2.2.2)
 else
 if (gt p a1).Kind = 8 then
 (self_0 x D G p q I J L M u ((gt p a1).A)).bind fun a2 =>
 (Q25.f x D G a2.2.1 a2.2.2.1 a2.2.2.2.1 a2.2.2.2.2 ((gt p a1).Name)).bind fun b3 =>
 some (a2.1, b3.1, b3.2.1, b3.2.2.1, b3.2.2.2)
 else
 if (gt p a1).Kind = 9 then
 (self_0 x D G p q I J L M u ((gt p a1).A)).bind fun O =>
 (Q68.f x D G p q I J L M O.1 O.2.1 O.2.2.1 O.2.2.2.1 O.2.2.2.2).bind fun b4 =>
 (Q25.f x D G b4.1 b4.2.1 b4.2.2.1 b4.2.2.2 ((gt p a1).Name)).bind fun b5 =>
 (Q68.f x D G p q I J L M O.1 b5.1 b5.2.1 b5.2.2.1 b5.2.2.2).bind fun b6 =>
 some (O.1, b6.1, b6.2.1, b6.2.2.1, b6.2.2.2)
 else
 if (gt p a1).Kind = 10 then
 (self_1 x D G p q I J L M u a1 0 0 0 0).bind fun a3 =>
 some (a3.1, a3.2.1, a3.2.2.1, a3.2.2.2.1, a3.2.2.2.2)
 else
 if (gt p a1).Kind = 11 then
 (self_1 x D G p q I J L M u a1 I J L M).bind fun a4 =>
 some (a4.1, a4.2.1, a4.2.2.1, a4.2.2.2.1, a4.2.2.2.2)
 else
 some (u, 0, 0, 0, 0)
 else none
noncomputable def Q18.l0b (u : Int) (x : List (Bs × Q0)) (D : List (Q8 × Q0)) (q : List Q2) (G : List Int) (I J L M a1 : Int) (self_0 : Int → (List (Bs × Q0)) → (List (Q8 × Q0)) → (List Q2) → (List Int) → Int → Int → Int → Int → (List Q0) → Int → Option ((List Q0) × Int × Int × Int × Int)) (O : List Q0) : Option (((List Q0)) ⊕ ((Unit) ⊕ ((List Q0) × Int × Int × Int × Int))) :=
 if (0 : Int) ≤ a1 ∧ a1 < (q.length : Int) then
 (self_0 u x D q G I J L M O ((gt q a1).A)).bind fun p =>
 if (decide (p.2.1 = (gt p.1 a1).c0) && (decide (p.2.2.1 = (gt p.1 a1).c1) && (decide (p.2.2.2.1 = (gt p.1 a1).c2) && (decide (p.2.2.2.2 = (gt p.1 a1).c3) && true)))) = true then
 upL (some (p.1, p.2.1, p.2.2.1, p.2.2.2.1, p.2.2.2.2))
 else
 nx (st p.1 a1 (⟨p.2.1, p.2.2.1, p.2.2.2.1, p.2.2.2.2⟩ : Q0))
 else none
noncomputable def Q18.l0 (p : Int) (q : List (Bs × Q0)) (u : List (Q8 × Q0)) (x : List Q2) (D : List Int) (G I J L a1 : Int) (self_0 : Int → (List (Bs × Q0)) → (List (Q8 × Q0)) → (List Q2) → (List Int) → Int → Int → Int → Int → (List Q0) → Int → Option ((List Q0) × Int × Int × Int × Int)) (M : List Q0) : Option ((Unit) ⊕ ((List Q0) × Int × Int × Int × Int)) := iter (fun t_ : (List Q0) => Q18.l0b p q u x D G I J L a1 self_0 t_) M
noncomputable def Q18.g (self_0 : Int → (List (Bs × Q0)) → (List (Q8 × Q0)) → (List Q2) → (List Int) → Int → Int → Int → Int → (List Q0) → Int → Option ((List Q0) × Int × Int × Int × Int)) (self_1 : Int → (List (Bs × Q0)) → (List (Q8 × Q0)) → (List Q2) → (List Int) → Int → Int → Int → Int → (List Q0) → Int → Int → Int → Int → Int → Option ((List Q0) × Int × Int × Int × Int)) (q : Int) (u : List (Bs × Q0)) (x : List (Q8 × Q0)) (D : List Q2) (G : List Int) (I J L M : Int) (p : List Q0) (a1 O U V X : Int) : Option ((List Q0) × Int × Int × Int × Int) :=
 if (0 : Int) ≤ a1 ∧ a1 < (p.length : Int) then
 jn (Q18.l0 q u x D G I J L M a1 self_0 (st p a1 (⟨O, U, V, X⟩ : Q0))) (fun (_ : Unit) => none)
 else none
noncomputable def Q11.tab : Nat → (Int → (List (Bs × Q0)) → (List (Q8 × Q0)) → (List Q2) → (List Int) → Int → Int → Int → Int → (List Q0) → Int → Option ((List Q0) × Int × Int × Int × Int)) × (Int → (List (Bs × Q0)) → (List (Q8 × Q0)) → (List Q2) → (List Int) → Int → Int → Int → Int → (List Q0) → Int → Int → Int → Int → Int → Option ((List Q0) × Int × Int × Int × Int))
 | 0 => (fun _ _ _ _ _ _ _ _ _ _ _ => none, fun _ _ _ _ _ _ _ _ _ _ _ _ _ _ _ => none)
 | k_ + 1 => (Q11.g ((Q11.tab k_).1) ((Q11.tab k_).2), Q18.g ((Q11.tab k_).1) ((Q11.tab k_).2))
noncomputable def Q11.n (k_ : Nat) : Int → (List (Bs × Q0)) → (List (Q8 × Q0)) → (List Q2) → (List Int) → Int → Int → Int → Int → (List Q0) → Int → Option ((List Q0) × Int × Int × Int × Int) := (Q11.tab k_).1
noncomputable def Q11.f (p : Int) (q : List (Bs × Q0)) (u : List (Q8 × Q0)) (x : List Q2) (D : List Int) (G I J L : Int) (M : List Q0) (a1 : Int) : Option ((List Q0) × Int × Int × Int × Int) := recF fun k_ => Q11.n k_ p q u x D G I J L M a1
noncomputable def Q18.n (k_ : Nat) : Int → (List (Bs × Q0)) → (List (Q8 × Q0)) → (List Q2) → (List Int) → Int → Int → Int → Int → (List Q0) → Int → Int → Int → Int → Int → Option ((List Q0) × Int × Int × Int × Int) := (Q11.tab k_).2
theorem Q11.step (self_0 : Int → (List (Bs × Q0)) → (List (Q8 × Q0)) → (List Q2) → (List Int) → Int → Int → Int → Int → (List Q0) → Int → Option ((List Q0) × Int × Int × Int × Int)) (self_1 : Int → (List (Bs × Q0)) → (List (Q8 × Q0)) → (List Q2) → (List Int) → Int → Int → Int → Int → (List Q0) → Int → Int → Int → Int → Int → Option ((List Q0) × Int × Int × Int × Int)) (ih_0 : Q11.SP self_0) (ih_1 : Q18.SP self_1) :
 Q11.SP (Q11.g self_0 self_1) := by
 intro R Fr b0 b0_0 b0_0_1 b0_0_2 A0_1 n0_1 c0_1 A0_2 n0_2 c0_2 A0_7 n0_7 c0_7 L M O p u D G I J x a1 hr0_1 hn0_1 hc0_1 hn0_2 hn0_7 r j; subst hn0_1; subst hn0_2; subst hn0_7; refine Spec.of Tryz.func33 rfl rfl ?_; unfold Q11.g at j; have j := brun j; refine At.seq (At.region ?_); refine At.alloc rfl rfl rfl (fun e4 => ?_); refine nT (sR 3 rfl (At.y (Y.load rfl rfl (.s .z) rfl rfl rfl) rfl rfl rfl (At.run 1 rfl ?_))); obtain ⟨V, j⟩ := bnone j; refine At.y (Y.ixRd hr0_1 rfl rfl rfl rfl rfl rfl rfl V.1 V.2) rfl rfl rfl (At.y (Y.ldFl hr0_1 rfl (q := 0) rfl rfl V.1 V.2 rfl rfl rfl) rfl rfl rfl ?_); refine At.alloc rfl rfl rfl (fun U => ?_); refine At.store rfl rfl rfl rfl .z rfl rfl rfl (.c (.c (.c (.c (.c .n))))) ?_; refine nT (At.seq (sR 1 rfl (At.y (Y.load rfl rfl .z rfl rfl rfl) rfl rfl rfl (At.nil ?_)))); refine At.thn ?_; refine At.block ?_; refine sR 2 rfl (nT ?_); rcases bite j with ⟨a0, j⟩ | ⟨a0, j⟩
 ··refine At.condT rfl (decide_eq_true a0) ?_
   refine sR 3 rfl (At.y (Y.load rfl rfl (.s (.s .z)) rfl rfl rfl) rfl rfl rfl ?_); refine At.store rfl rfl rfl rfl (.s .z) rfl rfl rfl (.c (.c (.c (.c .n)))) ?_; refine nT (At.ret ?_); refine At.ibr ?_; refine At.thr ?_; refine At.resM (.inl rfl) rfl (RV.cell rfl rfl .z rfl rfl rfl RV.nil) ?_; refine At.drop .z (At.drop .z ?_); cases bret j; exact fun a w e hs => ⟨_, ⟨rfl, rfl⟩, hs⟩
 ··refine At.condF rfl (decide_eq_false a0) ?_
   refine sR 2 rfl (nT ?_); rcases bite j with ⟨a2, j⟩ | ⟨a2, j⟩
   ··refine At.condT rfl (decide_eq_true a2) ?_
     refine At.seq ?_; refine At.held [pc U [i6 ((gt p a1).Kind), i6 ((gt p a1).A), i6 ((gt p a1).B), .string ⟨((gt p a1).Name).toArray⟩, i6 ((gt p a1).At)] 51, pc b0 [bp b0_0, .slice A0_1 p.length c0_1, .slice A0_2 u.length c0_2, .int .u64 D, .int .u64 G, .int .u64 I, .int .u64 J, .slice A0_7 x.length c0_7] 88, pc b0_0 [i6 L, .map (some b0_0_1), .map (some b0_0_2)] 72, mapo Fl.bs.ov Q0.fl.av b0_0_1 M, mapo Q8.fl.av Q0.fl.av b0_0_2 O, row (Fl.int .i64) 3 A0_2 u.length c0_2 u, row Q0.fl 38 A0_7 x.length c0_7 x] 8 rfl ?_; refine At.H.pw 0 rfl rfl rfl rfl rfl (.c .z (.c (.s .z) (.c (.s .z) (.c (.s .z) (.c (.s .z) (.c (.s .z) (.c (.s .z) .n))))))) ?_; refine At.H.pw 1 rfl rfl rfl rfl rfl (.c .z (.c (.s .z) (.c (.s .z) (.c (.s .z) (.c (.s .z) (.c (.s .z) (.c (.s .z) .n))))))) ?_; refine At.H.pw 2 rfl rfl rfl rfl rfl (.c .z (.c (.s .z) (.c (.s .z) (.c (.s .z) (.c (.s .z) (.c (.s .z) (.c (.s .z) .n))))))) ?_; refine At.H.tw 3 rfl (Y.load rfl rfl (.s .z) rfl rfl rfl) rfl rfl rfl (.c .z (.c (.s .z) (.c (.s .z) (.c (.s .z) (.c (.s .z) (.c (.s .z) (.c (.s .z) .n))))))) ?_; refine At.H.pw 4 rfl rfl rfl rfl rfl (.c .z (.c (.s .z) (.c (.s .z) (.c (.s .z) (.c (.s .z) (.c (.s .z) (.c (.s .z) .n))))))) ?_; refine At.H.tw 5 rfl (Y.load rfl rfl .z rfl rfl rfl) rfl rfl rfl (.c .z (.c (.s .z) (.c (.s .z) (.c (.s .z) (.c (.s .z) (.c (.s .z) (.c (.s .z) .n))))))) ?_; refine At.H.al [6] (Q6 ?_ Q7)
     ··refine At.HO.op rfl ?_
       refine At.f5 (At.f5 (At.f5 ?_)); obtain ⟨e5, b4, j⟩ := bbind j; refine At.call rfl Q51.callee rfl rfl rfl (Q51.spec b4) ?_; rintro _ _ ⟨rfl, rfl⟩; refine At.HO.back (.c (.s (.s (.s .z))) (.c (.s (.s (.s (.s .z)))) (.c .z (.c .z (.c .z (.c (.s .z) (.c (.s .z) .n))))))) ?_; refine At.H.al [7] (Q6 ?_ Q7)
       ··refine At.HO.op rfl ?_
         refine At.store rfl rfl rfl rfl (.s (.s (.s (.s .z)))) rfl rfl rfl (.c (.c (.c (.c .n)))) ?_; refine At.HO.back (.c (.s (.s (.s (.s .z)))) (.c (.s (.s (.s (.s .z)))) (.c (.s .z) (.c (.s .z) (.c (.s .z) (.c (.s .z) (.c (.s .z) .n))))))) ?_; refine At.H.done (by kernel_rfl) ?_; refine At.thn (At.ret ?_); refine At.ibr ?_; refine At.thr ?_; refine At.resM (.inl rfl) rfl (RV.cell rfl rfl .z rfl rfl rfl RV.nil) ?_; refine At.drop .z (At.drop (.s (.s (.s .z))) (At.f5 (At.f5 (At.f4 (At.f4 (At.f4 (At.f5 ?_))))))); cases bret j; exact fun a w e hs => ⟨_, ⟨rfl, rfl⟩, hs⟩
   ··refine At.condF rfl (decide_eq_false a2) ?_
     refine sR 2 rfl (nT ?_); rcases bite j with ⟨a3, j⟩ | ⟨a3, j⟩
     ··refine At.condT rfl (decide_eq_true a3) ?_
       refine At.seq ?_; refine At.held [pc U [i6 ((gt p a1).Kind), i6 ((gt p a1).A), i6 ((gt p a1).B), .string ⟨((gt p a1).Name).toArray⟩, i6 ((gt p a1).At)] 51, pc b0 [bp b0_0, .slice A0_1 p.length c0_1, .slice A0_2 u.length c0_2, .int .u64 D, .int .u64 G, .int .u64 I, .int .u64 J, .slice A0_7 x.length c0_7] 88, pc b0_0 [i6 L, .map (some b0_0_1), .map (some b0_0_2)] 72, mapo Fl.bs.ov Q0.fl.av b0_0_1 M, mapo Q8.fl.av Q0.fl.av b0_0_2 O, row (Fl.int .i64) 3 A0_2 u.length c0_2 u, row Q0.fl 38 A0_7 x.length c0_7 x] 10 rfl ?_; refine At.H.pw 0 rfl rfl rfl rfl rfl (.c .z (.c (.s .z) (.c (.s .z) (.c (.s .z) (.c (.s .z) (.c (.s .z) (.c (.s .z) .n))))))) ?_; refine At.H.pw 1 rfl rfl rfl rfl rfl (.c .z (.c (.s .z) (.c (.s .z) (.c (.s .z) (.c (.s .z) (.c (.s .z) (.c (.s .z) .n))))))) ?_; refine At.H.pw 2 rfl rfl rfl rfl rfl (.c .z (.c (.s .z) (.c (.s .z) (.c (.s .z) (.c (.s .z) (.c (.s .z) (.c (.s .z) .n))))))) ?_; refine At.H.pw 3 rfl rfl rfl rfl rfl (.c .z (.c (.s .z) (.c (.s .z) (.c (.s .z) (.c (.s .z) (.c (.s .z) (.c (.s .z) .n))))))) ?_; refine At.H.tw 4 rfl (Y.load rfl rfl (.s .z) rfl rfl rfl) rfl rfl rfl (.c .z (.c (.s .z) (.c (.s .z) (.c (.s .z) (.c (.s .z) (.c (.s .z) (.c (.s .z) .n))))))) ?_; refine At.H.pw 5 rfl rfl rfl rfl rfl (.c .z (.c (.s .z) (.c (.s .z) (.c (.s .z) (.c (.s .z) (.c (.s .z) (.c (.s .z) .n))))))) ?_; refine At.H.tw 6 rfl (Y.load rfl rfl .z rfl rfl rfl) rfl rfl rfl (.c .z (.c (.s .z) (.c (.s .z) (.c (.s .z) (.c (.s .z) (.c (.s .z) (.c (.s .z) .n))))))) ?_; refine At.H.al [7] (Q6 ?_ Q7)
       ··refine At.HO.op rfl ?_
         refine At.f5 (At.f5 (At.f5 ?_)); obtain ⟨e6, b5, j⟩ := bbind j; refine At.call rfl Q51.callee rfl rfl rfl (Q51.spec b5) ?_; rintro _ _ ⟨rfl, rfl⟩; refine At.HO.back (.c (.s (.s (.s .z))) (.c (.s (.s (.s (.s .z)))) (.c .z (.c .z (.c .z (.c (.s .z) (.c (.s .z) .n))))))) ?_; refine At.H.al [8] (Q6 ?_ Q7)
         ··refine At.HO.op rfl ?_
           refine At.f7 (At.f7 (At.f4 (At.f4 (At.f4 (At.f7 ?_))))); obtain ⟨e7, b6, j⟩ := bbind j; refine At.call rfl Q68.callee rfl rfl rfl (Q68.spec hr0_1 rfl hc0_1 rfl rfl b6) ?_; rintro _ _ ⟨rfl, rfl⟩; refine At.HO.back (.c (.s (.s (.s (.s (.s (.s .z)))))) (.c .z (.c .z (.c .z (.c .z (.c .z (.c .z .n))))))) ?_; refine At.H.al [9] (Q6 ?_ Q7)
           ··refine At.HO.op rfl ?_
             refine At.store rfl rfl rfl rfl (.s (.s (.s (.s (.s (.s (.s .z))))))) rfl rfl rfl (.c (.c (.c (.c .n)))) ?_; refine At.HO.back (.c (.s (.s (.s (.s (.s (.s (.s .z))))))) (.c (.s .z) (.c (.s .z) (.c (.s .z) (.c (.s .z) (.c (.s .z) (.c (.s .z) .n))))))) ?_; refine At.H.done (by kernel_rfl) ?_; refine At.thn (At.ret ?_); refine At.ibr ?_; refine At.thr ?_; refine At.resM (.inl rfl) rfl (RV.cell rfl rfl .z rfl rfl rfl RV.nil) ?_; refine At.drop .z (At.drop (.s (.s (.s (.s (.s (.s .z)))))) ?_); cases bret j; exact fun a w e hs => ⟨_, ⟨rfl, rfl⟩, hs⟩
     ··refine At.condF rfl (decide_eq_false a3) ?_
       refine sR 2 rfl (nT ?_); rcases bite j with ⟨a4, j⟩ | ⟨a4, j⟩
       ··refine At.condT rfl (decide_eq_true a4) ?_
         refine At.seq ?_; refine At.still 13 (by kernel_rfl) ?_; refine At.Still.run 3 rfl ?_; refine At.Still.y (Y.load rfl rfl (.s (.s .z)) rfl rfl rfl) rfl rfl rfl ?_; refine At.Still.run 3 rfl ?_; refine At.Still.y (Y.load rfl rfl (.s (.s .z)) rfl rfl rfl) rfl rfl rfl ?_; refine At.Still.run 1 rfl ?_; obtain ⟨X, j⟩ := bnone j; refine At.Still.y (Y.ix (.s (.s (.s (.s (.s (.s .z)))))) rfl rfl rfl rfl rfl rfl X.1 X.2) rfl rfl rfl ?_; refine At.Still.y (Y.ld (.s (.s (.s (.s (.s (.s .z)))))) (q := 0) rfl rfl X.1 X.2 rfl rfl rfl) rfl rfl rfl ?_; obtain ⟨Z, j⟩ := bnone j; refine At.Still.y (Y.ix (.s (.s (.s (.s (.s (.s (.s .z))))))) rfl rfl rfl rfl rfl rfl Z.1 Z.2) rfl rfl rfl ?_; refine At.Still.y (Y.ld (.s (.s (.s (.s (.s (.s (.s .z))))))) (q := 0) rfl rfl Z.1 Z.2 rfl rfl rfl) rfl rfl rfl ?_; refine At.Still.nil ?_; refine At.store rfl rfl rfl rfl (.s .z) rfl rfl rfl (.c (.c (.c (.c .n)))) ?_; refine nT (At.ret ?_); refine At.ibr ?_; refine At.thr ?_; refine At.resM (.inl rfl) rfl (RV.cell rfl rfl .z rfl rfl rfl RV.nil) ?_; refine At.drop .z (At.drop .z ?_); cases bret j; exact fun a w e hs => ⟨_, ⟨rfl, rfl⟩, hs⟩
       ··refine At.condF rfl (decide_eq_false a4) ?_
         refine sR 2 rfl (nT ?_); rcases bite j with ⟨a5, j⟩ | ⟨a5, j⟩
         ··refine At.condT rfl (decide_eq_true a5) ?_
           refine sR 3 rfl (At.y (Y.load rfl rfl .z rfl rfl rfl) rfl rfl rfl (At.f7 (At.f7 (At.f7 (At.f7 ?_))))); refine At.f7 (At.f7 ?_); obtain ⟨e8, b7, j⟩ := bbind j; refine At.call rfl Q11.callee rfl rfl rfl (ih_0 _ _ b0 b0_0 b0_0_1 b0_0_2 A0_1 p.length c0_1 A0_2 u.length c0_2 A0_7 x.length c0_7 L M O p u D G I J x ((gt p a1).A) hr0_1 rfl hc0_1 rfl rfl b7) ?_; rintro _ _ ⟨rfl, rfl⟩; refine At.rowLen (.s (.s (.s (.s (.s .z))))) fun b8 => ?_; obtain ⟨e9, b9, j⟩ := bbind j; refine At.call rfl Q68.callee rfl rfl rfl (Q68.spec hr0_1 rfl hc0_1 rfl b8 b9) ?_; rintro _ _ ⟨rfl, rfl⟩; refine At.store rfl rfl rfl rfl (.s (.s (.s (.s (.s (.s (.s .z))))))) rfl rfl rfl (.c (.c (.c (.c .n)))) ?_; refine nT (At.ret ?_); refine At.ibr ?_; refine At.thr ?_; refine At.resM (.inl rfl) rfl (RV.cell rfl rfl .z rfl rfl rfl RV.nil) ?_; refine At.drop .z (At.drop (.s (.s (.s (.s (.s (.s .z)))))) ?_); cases bret j; exact fun a w e hs => ⟨_, ⟨rfl, rfl⟩, hs⟩
         ··refine At.condF rfl (decide_eq_false a5) ?_
           refine sR 2 rfl (nT ?_); rcases bite j with ⟨a6, j⟩ | ⟨a6, j⟩
           ··refine At.condT rfl (decide_eq_true a6) ?_
             refine At.seq ?_; refine At.held [pc U [i6 ((gt p a1).Kind), i6 ((gt p a1).A), i6 ((gt p a1).B), .string ⟨((gt p a1).Name).toArray⟩, i6 ((gt p a1).At)] 51, pc b0 [bp b0_0, .slice A0_1 p.length c0_1, .slice A0_2 u.length c0_2, .int .u64 D, .int .u64 G, .int .u64 I, .int .u64 J, .slice A0_7 x.length c0_7] 88, pc b0_0 [i6 L, .map (some b0_0_1), .map (some b0_0_2)] 72, mapo Fl.bs.ov Q0.fl.av b0_0_1 M, mapo Q8.fl.av Q0.fl.av b0_0_2 O, row (Fl.int .i64) 3 A0_2 u.length c0_2 u] 10 rfl ?_; refine At.H.pw 0 rfl rfl rfl rfl rfl (.c .z (.c (.s .z) (.c (.s .z) (.c (.s .z) (.c (.s .z) (.c (.s .z) .n)))))) ?_; refine At.H.pw 1 rfl rfl rfl rfl rfl (.c .z (.c (.s .z) (.c (.s .z) (.c (.s .z) (.c (.s .z) (.c (.s .z) .n)))))) ?_; refine At.H.tw 2 rfl (Y.load rfl rfl .z rfl rfl rfl) rfl rfl rfl (.c .z (.c (.s .z) (.c (.s .z) (.c (.s .z) (.c (.s .z) (.c (.s .z) .n)))))) ?_; refine At.H.pw 4 rfl rfl rfl rfl rfl (.c .z (.c (.s .z) (.c (.s .z) (.c (.s .z) (.c (.s .z) (.c (.s .z) .n)))))) ?_; refine At.H.pw 5 rfl rfl rfl rfl rfl (.c .z (.c (.s .z) (.c (.s .z) (.c (.s .z) (.c (.s .z) (.c (.s .z) .n)))))) ?_; refine At.H.tw 6 rfl (Y.load rfl rfl .z rfl rfl rfl) rfl rfl rfl (.c .z (.c (.s .z) (.c (.s .z) (.c (.s .z) (.c (.s .z) (.c (.s .z) .n)))))) ?_; refine At.H.al [3] (Q6 ?_ Q7)
             ··refine At.HO.op rfl ?_
               refine At.f7 (At.f7 (At.f7 (At.f7 (At.f7 (At.f7 ?_))))); obtain ⟨c4, c5, j⟩ := bbind j; refine At.call rfl Q11.callee rfl rfl rfl (ih_0 _ _ b0 b0_0 b0_0_1 b0_0_2 A0_1 p.length c0_1 A0_2 u.length c0_2 A0_7 x.length c0_7 L M O p u D G I J x ((gt p a1).A) hr0_1 rfl hc0_1 rfl rfl c5) ?_; rintro _ _ ⟨rfl, rfl⟩; refine At.HO.back (.c (.s (.s (.s (.s (.s (.s .z)))))) (.c .z (.c .z (.c .z (.c .z (.c .z .n)))))) ?_; refine At.H.al [7] (Q6 ?_ Q7)
               ··refine At.HO.op rfl ?_
                 refine At.rowLen (.s (.s (.s (.s (.s .z))))) fun c6 => ?_; obtain ⟨f0, c7, j⟩ := bbind j; refine At.call rfl Q11.callee rfl rfl rfl (ih_0 _ _ b0 b0_0 b0_0_1 b0_0_2 A0_1 p.length c0_1 A0_2 u.length c0_2 A0_7 x.length c0_7 L M O p u D G I J c4.1 ((gt p a1).B) hr0_1 rfl hc0_1 rfl c6 c7) ?_; rintro _ _ ⟨rfl, rfl⟩; refine At.HO.back (.c (.s (.s (.s (.s (.s (.s .z)))))) (.c .z (.c .z (.c .z (.c .z (.c .z .n)))))) ?_; refine At.H.al [8] (Q6 ?_ Q7)
                 ··refine At.HO.op rfl ?_
                   obtain ⟨f1, c8, j⟩ := bbind j; refine At.call rfl Q69.callee rfl rfl rfl (Q69.spec c8) ?_; rintro _ _ ⟨rfl, rfl⟩; refine At.HO.back (.c (.s (.s (.s (.s (.s (.s .z)))))) (.c .z (.c .z (.c .z (.c .z (.c .z .n)))))) ?_; refine At.H.al [9] (Q6 ?_ Q7)
                   ··refine At.HO.op rfl ?_
                     refine At.store rfl rfl rfl rfl (.s (.s (.s (.s (.s (.s (.s .z))))))) rfl rfl rfl (.c (.c (.c (.c .n)))) ?_; refine At.HO.back (.c (.s (.s (.s (.s (.s (.s (.s .z))))))) (.c (.s .z) (.c (.s .z) (.c (.s .z) (.c (.s .z) (.c (.s .z) .n)))))) ?_; refine At.H.done (by kernel_rfl) ?_; refine At.thn (At.ret ?_); refine At.ibr ?_; refine At.thr ?_; refine At.resM (.inl rfl) rfl (RV.cell rfl rfl .z rfl rfl rfl RV.nil) ?_; refine At.drop .z (At.drop (.s (.s (.s (.s (.s (.s .z)))))) ?_); cases bret j; exact fun a w e hs => ⟨_, ⟨rfl, rfl⟩, hs⟩
           ··refine At.condF rfl (decide_eq_false a6) ?_
             refine sR 2 rfl (nT ?_); rcases bite j with ⟨a7, j⟩ | ⟨a7, j⟩
             ··refine At.condT rfl (decide_eq_true a7) ?_
               refine At.seq ?_; refine At.held [pc U [i6 ((gt p a1).Kind), i6 ((gt p a1).A), i6 ((gt p a1).B), .string ⟨((gt p a1).Name).toArray⟩, i6 ((gt p a1).At)] 51, pc b0 [bp b0_0, .slice A0_1 p.length c0_1, .slice A0_2 u.length c0_2, .int .u64 D, .int .u64 G, .int .u64 I, .int .u64 J, .slice A0_7 x.length c0_7] 88, pc b0_0 [i6 L, .map (some b0_0_1), .map (some b0_0_2)] 72, mapo Fl.bs.ov Q0.fl.av b0_0_1 M, mapo Q8.fl.av Q0.fl.av b0_0_2 O, row (Fl.int .i64) 3 A0_2 u.length c0_2 u] 10 rfl ?_; refine At.H.pw 0 rfl rfl rfl rfl rfl (.c .z (.c (.s .z) (.c (.s .z) (.c (.s .z) (.c (.s .z) (.c (.s .z) .n)))))) ?_; refine At.H.pw 1 rfl rfl rfl rfl rfl (.c .z (.c (.s .z) (.c (.s .z) (.c (.s .z) (.c (.s .z) (.c (.s .z) .n)))))) ?_; refine At.H.tw 2 rfl (Y.load rfl rfl .z rfl rfl rfl) rfl rfl rfl (.c .z (.c (.s .z) (.c (.s .z) (.c (.s .z) (.c (.s .z) (.c (.s .z) .n)))))) ?_; refine At.H.pw 4 rfl rfl rfl rfl rfl (.c .z (.c (.s .z) (.c (.s .z) (.c (.s .z) (.c (.s .z) (.c (.s .z) .n)))))) ?_; refine At.H.pw 5 rfl rfl rfl rfl rfl (.c .z (.c (.s .z) (.c (.s .z) (.c (.s .z) (.c (.s .z) (.c (.s .z) .n)))))) ?_; refine At.H.tw 6 rfl (Y.load rfl rfl .z rfl rfl rfl) rfl rfl rfl (.c .z (.c (.s .z) (.c (.s .z) (.c (.s .z) (.c (.s .z) (.c (.s .z) .n)))))) ?_; refine At.H.al [3] (Q6 ?_ Q7)
               ··refine At.HO.op rfl ?_
                 refine At.f7 (At.f7 (At.f7 (At.f7 (At.f7 (At.f7 ?_))))); obtain ⟨c9, d0, j⟩ := bbind j; refine At.call rfl Q11.callee rfl rfl rfl (ih_0 _ _ b0 b0_0 b0_0_1 b0_0_2 A0_1 p.length c0_1 A0_2 u.length c0_2 A0_7 x.length c0_7 L M O p u D G I J x ((gt p a1).A) hr0_1 rfl hc0_1 rfl rfl d0) ?_; rintro _ _ ⟨rfl, rfl⟩; refine At.HO.back (.c (.s (.s (.s (.s (.s (.s .z)))))) (.c .z (.c .z (.c .z (.c .z (.c .z .n)))))) ?_; refine At.H.al [7] (Q6 ?_ Q7)
                 ··refine At.HO.op rfl ?_
                   refine At.rowLen (.s (.s (.s (.s (.s .z))))) fun d1 => ?_; obtain ⟨f2, d2, j⟩ := bbind j; refine At.call rfl Q11.callee rfl rfl rfl (ih_0 _ _ b0 b0_0 b0_0_1 b0_0_2 A0_1 p.length c0_1 A0_2 u.length c0_2 A0_7 x.length c0_7 L M O p u D G I J c9.1 ((gt p a1).B) hr0_1 rfl hc0_1 rfl d1 d2) ?_; rintro _ _ ⟨rfl, rfl⟩; refine At.HO.back (.c (.s (.s (.s (.s (.s (.s .z)))))) (.c .z (.c .z (.c .z (.c .z (.c .z .n)))))) ?_; refine At.H.al [8] (Q6 ?_ Q7)
                   ··refine At.HO.op rfl ?_
                     obtain ⟨f6, d3, j⟩ := bbind j; refine At.call rfl Q97.callee rfl rfl rfl (Q97.spec d3) ?_; rintro _ _ ⟨rfl, rfl⟩; refine At.HO.back (.c (.s (.s (.s (.s (.s (.s .z)))))) (.c .z (.c .z (.c .z (.c .z (.c .z .n)))))) ?_; refine At.H.al [9] (Q6 ?_ Q7)
                     ··refine At.HO.op rfl ?_
                       refine At.store rfl rfl rfl rfl (.s (.s (.s (.s (.s (.s (.s .z))))))) rfl rfl rfl (.c (.c (.c (.c .n)))) ?_; refine At.HO.back (.c (.s (.s (.s (.s (.s (.s (.s .z))))))) (.c (.s .z) (.c (.s .z) (.c (.s .z) (.c (.s .z) (.c (.s .z) .n)))))) ?_; refine At.H.done (by kernel_rfl) ?_; refine At.thn (At.ret ?_); refine At.ibr ?_; refine At.thr ?_; refine At.resM (.inl rfl) rfl (RV.cell rfl rfl .z rfl rfl rfl RV.nil) ?_; refine At.drop .z (At.drop (.s (.s (.s (.s (.s (.s .z)))))) ?_); cases bret j; exact fun a w e hs => ⟨_, ⟨rfl, rfl⟩, hs⟩
             ··refine At.condF rfl (decide_eq_false a7) ?_
               refine sR 2 rfl (nT ?_); rcases bite j with ⟨a8, j⟩ | ⟨a8, j⟩
               ··refine At.condT rfl (decide_eq_true a8) ?_
                 refine At.seq ?_; refine At.held [pc U [i6 ((gt p a1).Kind), i6 ((gt p a1).A), i6 ((gt p a1).B), .string ⟨((gt p a1).Name).toArray⟩, i6 ((gt p a1).At)] 51, pc b0 [bp b0_0, .slice A0_1 p.length c0_1, .slice A0_2 u.length c0_2, .int .u64 D, .int .u64 G, .int .u64 I, .int .u64 J, .slice A0_7 x.length c0_7] 88, pc b0_0 [i6 L, .map (some b0_0_1), .map (some b0_0_2)] 72, mapo Fl.bs.ov Q0.fl.av b0_0_1 M, mapo Q8.fl.av Q0.fl.av b0_0_2 O, row (Fl.int .i64) 3 A0_2 u.length c0_2 u] 12 rfl ?_; refine At.H.pw 0 rfl rfl rfl rfl rfl (.c .z (.c (.s .z) (.c (.s .z) (.c (.s .z) (.c (.s .z) (.c (.s .z) .n)))))) ?_; refine At.H.pw 1 rfl rfl rfl rfl rfl (.c .z (.c (.s .z) (.c (.s .z) (.c (.s .z) (.c (.s .z) (.c (.s .z) .n)))))) ?_; refine At.H.pw 2 rfl rfl rfl rfl rfl (.c .z (.c (.s .z) (.c (.s .z) (.c (.s .z) (.c (.s .z) (.c (.s .z) .n)))))) ?_; refine At.H.tw 3 rfl (Y.load rfl rfl (.s .z) rfl rfl rfl) rfl rfl rfl (.c .z (.c (.s .z) (.c (.s .z) (.c (.s .z) (.c (.s .z) (.c (.s .z) .n)))))) ?_; refine At.H.pw 4 rfl rfl rfl rfl rfl (.c .z (.c (.s .z) (.c (.s .z) (.c (.s .z) (.c (.s .z) (.c (.s .z) .n)))))) ?_; refine At.H.pw 5 rfl rfl rfl rfl rfl (.c .z (.c (.s .z) (.c (.s .z) (.c (.s .z) (.c (.s .z) (.c (.s .z) .n)))))) ?_; refine At.H.tw 6 rfl (Y.load rfl rfl .z rfl rfl rfl) rfl rfl rfl (.c .z (.c (.s .z) (.c (.s .z) (.c (.s .z) (.c (.s .z) (.c (.s .z) .n)))))) ?_; refine At.H.pw 8 rfl rfl rfl rfl rfl (.c .z (.c (.s .z) (.c (.s .z) (.c (.s .z) (.c (.s .z) (.c (.s .z) .n)))))) ?_; refine At.H.tw 9 rfl (Y.load rfl rfl .z rfl rfl rfl) rfl rfl rfl (.c .z (.c (.s .z) (.c (.s .z) (.c (.s .z) (.c (.s .z) (.c (.s .z) .n)))))) ?_; refine At.H.al [7] (Q6 ?_ Q7)
                 ··refine At.HO.op rfl ?_
                   refine At.f7 (At.f7 (At.f7 (At.f7 (At.f7 (At.f7 ?_))))); obtain ⟨f8, d4, j⟩ := bbind j; refine At.call rfl Q11.callee rfl rfl rfl (ih_0 _ _ b0 b0_0 b0_0_1 b0_0_2 A0_1 p.length c0_1 A0_2 u.length c0_2 A0_7 x.length c0_7 L M O p u D G I J x ((gt p a1).A) hr0_1 rfl hc0_1 rfl rfl d4) ?_; rintro _ _ ⟨rfl, rfl⟩; refine At.HO.back (.c (.s (.s (.s (.s (.s (.s .z)))))) (.c .z (.c .z (.c .z (.c .z (.c .z .n)))))) ?_; refine At.H.al [10] (Q6 ?_ Q7)
                   ··refine At.HO.op rfl ?_
                     refine At.f3 (At.f3 (At.f3 ?_)); obtain ⟨f9, d5, j⟩ := bbind j; refine At.call rfl Q25.callee rfl rfl rfl (Q25.spec d5) ?_; rintro _ _ ⟨rfl, rfl⟩; refine At.HO.back (.c (.s (.s (.s (.s (.s (.s .z)))))) (.c (.s (.s (.s .z))) (.c .z (.c .z (.c .z (.c .z .n)))))) ?_; refine At.H.al [11] (Q6 ?_ Q7)
                     ··refine At.HO.op rfl ?_
                       refine At.store rfl rfl rfl rfl (.s (.s (.s (.s (.s (.s (.s .z))))))) rfl rfl rfl (.c (.c (.c (.c .n)))) ?_; refine At.HO.back (.c (.s (.s (.s (.s (.s (.s (.s .z))))))) (.c (.s (.s (.s (.s .z)))) (.c (.s .z) (.c (.s .z) (.c (.s .z) (.c (.s .z) .n)))))) ?_; refine At.H.done (by kernel_rfl) ?_; refine At.thn (At.ret ?_); refine At.ibr ?_; refine At.thr ?_; refine At.resM (.inl rfl) rfl (RV.cell rfl rfl .z rfl rfl rfl RV.nil) ?_; refine At.drop .z (At.drop (.s (.s (.s (.s (.s (.s .z)))))) (At.f5 (At.f5 (At.f4 (At.f4 (At.f4 (At.f5 ?_))))))); cases bret j; exact fun a w e hs => ⟨_, ⟨rfl, rfl⟩, hs⟩
               ··refine At.condF rfl (decide_eq_false a8) ?_
                 refine sR 2 rfl (nT ?_); rcases bite j with ⟨a9, j⟩ | ⟨a9, j⟩
                 ··refine At.condT rfl (decide_eq_true a9) ?_
                   refine At.seq ?_; refine At.held [pc U [i6 ((gt p a1).Kind), i6 ((gt p a1).A), i6 ((gt p a1).B), .string ⟨((gt p a1).Name).toArray⟩, i6 ((gt p a1).At)] 51, pc b0 [bp b0_0, .slice A0_1 p.length c0_1, .slice A0_2 u.length c0_2, .int .u64 D, .int .u64 G, .int .u64 I, .int .u64 J, .slice A0_7 x.length c0_7] 88, pc b0_0 [i6 L, .map (some b0_0_1), .map (some b0_0_2)] 72, mapo Fl.bs.ov Q0.fl.av b0_0_1 M, mapo Q8.fl.av Q0.fl.av b0_0_2 O, row (Fl.int .i64) 3 A0_2 u.length c0_2 u] 16 rfl ?_; refine At.H.pw 0 rfl rfl rfl rfl rfl (.c .z (.c (.s .z) (.c (.s .z) (.c (.s .z) (.c (.s .z) (.c (.s .z) .n)))))) ?_; refine At.H.pw 1 rfl rfl rfl rfl rfl (.c .z (.c (.s .z) (.c (.s .z) (.c (.s .z) (.c (.s .z) (.c (.s .z) .n)))))) ?_; refine At.H.pw 2 rfl rfl rfl rfl rfl (.c .z (.c (.s .z) (.c (.s .z) (.c (.s .z) (.c (.s .z) (.c (.s .z) .n)))))) ?_; refine At.H.pw 3 rfl rfl rfl rfl rfl (.c .z (.c (.s .z) (.c (.s .z) (.c (.s .z) (.c (.s .z) (.c (.s .z) .n)))))) ?_; refine At.H.tw 4 rfl (Y.load rfl rfl (.s .z) rfl rfl rfl) rfl rfl rfl (.c .z (.c (.s .z) (.c (.s .z) (.c (.s .z) (.c (.s .z) (.c (.s .z) .n)))))) ?_; refine At.H.pw 5 rfl rfl rfl rfl rfl (.c .z (.c (.s .z) (.c (.s .z) (.c (.s .z) (.c (.s .z) (.c (.s .z) .n)))))) ?_; refine At.H.pw 6 rfl rfl rfl rfl rfl (.c .z (.c (.s .z) (.c (.s .z) (.c (.s .z) (.c (.s .z) (.c (.s .z) .n)))))) ?_; refine At.H.pw 7 rfl rfl rfl rfl rfl (.c .z (.c (.s .z) (.c (.s .z) (.c (.s .z) (.c (.s .z) (.c (.s .z) .n)))))) ?_; refine At.H.tw 8 rfl (Y.load rfl rfl .z rfl rfl rfl) rfl rfl rfl (.c .z (.c (.s .z) (.c (.s .z) (.c (.s .z) (.c (.s .z) (.c (.s .z) .n)))))) ?_; refine At.H.pw 11 rfl rfl rfl rfl rfl (.c .z (.c (.s .z) (.c (.s .z) (.c (.s .z) (.c (.s .z) (.c (.s .z) .n)))))) ?_; refine At.H.tw 12 rfl (Y.load rfl rfl .z rfl rfl rfl) rfl rfl rfl (.c .z (.c (.s .z) (.c (.s .z) (.c (.s .z) (.c (.s .z) (.c (.s .z) .n)))))) ?_; refine At.H.al [9] (Q6 ?_ Q7)
                   ··refine At.HO.op rfl ?_
                     refine At.f7 (At.f7 (At.f7 (At.f7 (At.f7 (At.f7 ?_))))); obtain ⟨g0, d6, j⟩ := bbind j; refine At.call rfl Q11.callee rfl rfl rfl (ih_0 _ _ b0 b0_0 b0_0_1 b0_0_2 A0_1 p.length c0_1 A0_2 u.length c0_2 A0_7 x.length c0_7 L M O p u D G I J x ((gt p a1).A) hr0_1 rfl hc0_1 rfl rfl d6) ?_; rintro _ _ ⟨rfl, rfl⟩; refine At.HO.back (.c (.s (.s (.s (.s (.s (.s .z)))))) (.c .z (.c .z (.c .z (.c .z (.c .z .n)))))) ?_; refine At.H.al [10] (Q6 ?_ Q7)
                     ··refine At.HO.op rfl ?_
                       refine At.rowLen (.s (.s (.s (.s (.s .z))))) fun d7 => ?_; obtain ⟨g1, d8, j⟩ := bbind j; refine At.call rfl Q68.callee rfl rfl rfl (Q68.spec hr0_1 rfl hc0_1 rfl d7 d8) ?_; rintro _ _ ⟨rfl, rfl⟩; refine At.HO.back (.c (.s (.s (.s (.s (.s (.s .z)))))) (.c .z (.c .z (.c .z (.c .z (.c .z .n)))))) ?_; refine At.H.al [13] (Q6 ?_ Q7)
                       ··refine At.HO.op rfl ?_
                         refine At.f3 (At.f3 (At.f3 ?_)); obtain ⟨g2, d9, j⟩ := bbind j; refine At.call rfl Q25.callee rfl rfl rfl (Q25.spec d9) ?_; rintro _ _ ⟨rfl, rfl⟩; refine At.HO.back (.c (.s (.s (.s (.s (.s (.s .z)))))) (.c (.s (.s (.s .z))) (.c .z (.c .z (.c .z (.c .z .n)))))) ?_; refine At.H.al [14] (Q6 ?_ Q7)
                         ··refine At.HO.op rfl ?_
                           refine At.rowLen (.s (.s (.s (.s (.s .z))))) fun e0 => ?_; refine At.f5 (At.f5 (At.f4 (At.f4 (At.f4 (At.f5 ?_))))); obtain ⟨g3, e1, j⟩ := bbind j; refine At.call rfl Q68.callee rfl rfl rfl (Q68.spec hr0_1 rfl hc0_1 rfl e0 e1) ?_; rintro _ _ ⟨rfl, rfl⟩; refine At.HO.back (.c (.s (.s (.s (.s (.s (.s .z)))))) (.c .z (.c .z (.c .z (.c .z (.c .z .n)))))) ?_; refine At.H.al [15] (Q6 ?_ Q7)
                           ··refine At.HO.op rfl ?_
                             refine At.store rfl rfl rfl rfl (.s (.s (.s (.s (.s (.s (.s .z))))))) rfl rfl rfl (.c (.c (.c (.c .n)))) ?_; refine At.HO.back (.c (.s (.s (.s (.s (.s (.s (.s .z))))))) (.c (.s .z) (.c (.s .z) (.c (.s .z) (.c (.s .z) (.c (.s .z) .n)))))) ?_; refine At.H.done (by kernel_rfl) ?_; refine At.thn (At.ret ?_); refine At.ibr ?_; refine At.thr ?_; refine At.resM (.inl rfl) rfl (RV.cell rfl rfl .z rfl rfl rfl RV.nil) ?_; refine At.drop .z (At.drop (.s (.s (.s (.s (.s (.s .z)))))) ?_); cases bret j; exact fun a w e hs => ⟨_, ⟨rfl, rfl⟩, hs⟩
                 ··refine At.condF rfl (decide_eq_false a9) ?_
                   refine sR 2 rfl (nT ?_); rcases bite j with ⟨b2, j⟩ | ⟨b2, j⟩
                   ··refine At.condT rfl (decide_eq_true b2) ?_
                     refine sR 2 rfl ?_; refine At.y (Y.buildA (is := []) (xo := []) (vs := []) (cs := [.int .u64 0, .int .u64 0, .int .u64 0, .int .u64 0]) rfl rfl rfl rfl rfl rfl) rfl rfl rfl ?_; refine At.f7 (At.f7 (At.f7 (At.f7 (At.f7 (At.f7 ?_))))); obtain ⟨g4, e2, j⟩ := bbind j; refine At.call rfl Q18.callee rfl rfl rfl (ih_1 _ _ b0 b0_0 b0_0_1 b0_0_2 A0_1 p.length c0_1 A0_2 u.length c0_2 A0_7 x.length c0_7 L M O p u D G I J x a1 0 0 0 0 hr0_1 rfl hc0_1 rfl rfl e2) ?_; rintro _ _ ⟨rfl, rfl⟩; refine At.store rfl rfl rfl rfl (.s (.s (.s (.s (.s (.s (.s .z))))))) rfl rfl rfl (.c (.c (.c (.c .n)))) ?_; refine nT (At.ret ?_); refine At.ibr ?_; refine At.thr ?_; refine At.resM (.inl rfl) rfl (RV.cell rfl rfl .z rfl rfl rfl RV.nil) ?_; refine At.drop .z (At.drop (.s (.s (.s (.s (.s (.s .z)))))) ?_); cases bret j; exact fun a w e hs => ⟨_, ⟨rfl, rfl⟩, hs⟩
                   ··refine At.condF rfl (decide_eq_false b2) ?_
                     refine sR 2 rfl (nT ?_); rcases bite j with ⟨b3, j⟩ | ⟨b3, j⟩
                     ··refine At.condT rfl (decide_eq_true b3) ?_
                       refine sR 5 rfl (At.y (Y.load rfl rfl (.s (.s .z)) rfl rfl rfl) rfl rfl rfl (At.f7 (At.f7 (At.f7 (At.f7 ?_))))); refine At.f7 (At.f7 ?_); obtain ⟨g5, e3, j⟩ := bbind j; refine At.call rfl Q18.callee rfl rfl rfl (ih_1 _ _ b0 b0_0 b0_0_1 b0_0_2 A0_1 p.length c0_1 A0_2 u.length c0_2 A0_7 x.length c0_7 L M O p u D G I J x a1 D G I J hr0_1 rfl hc0_1 rfl rfl e3) ?_; rintro _ _ ⟨rfl, rfl⟩; refine At.store rfl rfl rfl rfl (.s (.s (.s (.s (.s (.s (.s .z))))))) rfl rfl rfl (.c (.c (.c (.c .n)))) ?_; refine nT (At.ret ?_); refine At.ibr ?_; refine At.thr ?_; refine At.resM (.inl rfl) rfl (RV.cell rfl rfl .z rfl rfl rfl RV.nil) ?_; refine At.drop .z (At.drop (.s (.s (.s (.s (.s (.s .z)))))) ?_); cases bret j; exact fun a w e hs => ⟨_, ⟨rfl, rfl⟩, hs⟩
                     ··refine At.condF rfl (decide_eq_false b3) ?_
                       refine At.skip ?_; refine At.ibn ?_; refine At.thn (At.seq (At.region ?_)); refine At.y (Y.buildA (is := []) (xo := []) (vs := []) (cs := [.int .u64 0, .int .u64 0, .int .u64 0, .int .u64 0]) rfl rfl rfl rfl rfl rfl) rfl rfl rfl ?_; refine At.store rfl rfl rfl rfl (.s .z) rfl rfl rfl (.c (.c (.c (.c .n)))) ?_; refine nT (At.ret ?_); refine At.resM (.inl rfl) rfl (RV.cell rfl rfl .z rfl rfl rfl RV.nil) ?_; refine At.drop .z (At.drop .z ?_); cases bret j; exact fun a w e hs => ⟨_, ⟨rfl, rfl⟩, hs⟩
theorem Q18.step (self_0 : Int → (List (Bs × Q0)) → (List (Q8 × Q0)) → (List Q2) → (List Int) → Int → Int → Int → Int → (List Q0) → Int → Option ((List Q0) × Int × Int × Int × Int)) (self_1 : Int → (List (Bs × Q0)) → (List (Q8 × Q0)) → (List Q2) → (List Int) → Int → Int → Int → Int → (List Q0) → Int → Int → Int → Int → Int → Option ((List Q0) × Int × Int × Int × Int)) (ih_0 : Q11.SP self_0) (ih_1 : Q18.SP self_1) :
 Q18.SP (Q18.g self_0 self_1) := by
 intro R Fr b0 b0_0 b0_0_1 b0_0_2 A0_1 n0_1 c0_1 A0_2 n0_2 c0_2 A0_7 n0_7 c0_7 L M O G x U V Z a0 a2 a1 a3 a4 a5 a6 hr0_1 hn0_1 hc0_1 hn0_2 hn0_7 r j; subst hn0_1; subst hn0_2; subst hn0_7; refine Spec.of Tryz.func73 rfl rfl ?_; unfold Q18.g at j; have j := brun j; refine At.seq (At.region ?_); refine At.box rfl rfl (cs := [.int .u64 a3, .int .u64 a4, .int .u64 a5, .int .u64 a6]) rfl rfl (fun b4 => ?_); refine At.alloc rfl rfl rfl (fun b2 => ?_); refine nT (At.seq ?_); refine At.still 7 (by kernel_rfl) ?_; refine At.Still.run 3 rfl ?_; refine At.Still.y (Y.load rfl rfl (.s (.s .z)) rfl rfl rfl) rfl rfl rfl ?_; refine At.Still.run 1 rfl ?_; refine At.Still.y (Y.load rfl rfl (.s .z) rfl rfl rfl) rfl rfl rfl ?_; obtain ⟨u, j⟩ := bnone j; refine At.Still.y (Y.ix (.s (.s (.s (.s (.s (.s (.s .z))))))) rfl rfl rfl rfl rfl rfl u.1 u.2) rfl rfl rfl ?_; refine At.Still.nil ?_; refine At.st rfl (.s (.s (.s (.s (.s (.s (.s .z))))))) (q := 0) (z := (⟨a3, a4, a5, a6⟩ : Q0)) rfl rfl rfl u.1 u.2 rfl rfl (.c (.c (.c (.c .n)))) ?_; refine nT ?_; refine At.block ?_; obtain ⟨c5, c6, b5, j⟩ := bjoin j; obtain ⟨b3, a7, b6⟩ := bsome j; clear j; unfold Q18.l0 at a7; obtain ⟨a8, J⟩ := Q17.1 a7; clear a7; let T6 : HProp := pt b2 (.cells ([.int .u64 0, .int .u64 0, .int .u64 0, .int .u64 0] : List Value).toArray 38); let T7 : HProp := pc b4 [.int .u64 a3, .int .u64 a4, .int .u64 a5, .int .u64 a6] 38; let T8 : HProp := pc b0 [bp b0_0, .slice A0_1 G.length c0_1, .slice A0_2 x.length c0_2, .int .u64 U, .int .u64 V, .int .u64 Z, .int .u64 a0, .slice A0_7 a2.length c0_7] 88; let T9 : HProp := pc b0_0 [i6 L, .map (some b0_0_1), .map (some b0_0_2)] 72; refine At.loop (X := (List Q0)) (fun D => [(0, bp b0), (1, i6 a1), (6, bp b2)]) (fun D => row Q0.fl 38 A0_7 a2.length c0_7 D :: T6 :: T7 :: T8 :: T9 :: mapo Fl.bs.ov Q0.fl.av b0_0_1 M :: mapo Q8.fl.av Q0.fl.av b0_0_2 O :: row (Fl.int .i64) 3 A0_2 x.length c0_2 x :: Fr) (fun m_ => fun D => iterN (fun t_ : (List Q0) => Q18.l0b L M O G x U V Z a0 a1 self_0 t_) m_ D = some b3) a8 (st a2 a1 (⟨a3, a4, a5, a6⟩ : Q0)) J (fun a w e hs => ⟨e.sub ⟨rfl, rfl, rfl, trivial⟩, (by exact hs)⟩) ?_
 ·clear J a8; rintro a8 D J; obtain ⟨b7, f_, b8, hf_, j⟩ := bit J; clear J; have j : (Q18.l0b L M O G x U V Z a0 a1 self_0 D).bind _ = some b3 := j; unfold Q18.l0b at j
  ·refine At.block ?_; refine sR 4 rfl (At.y (Y.load rfl rfl (.s (.s (.s .z))) rfl rfl rfl) rfl rfl rfl (At.run 1 rfl ?_)); obtain ⟨I, j⟩ := bnone j; refine At.y (Y.ixRd hr0_1 rfl rfl rfl rfl rfl rfl rfl I.1 I.2) rfl rfl rfl ?_; refine At.y (Y.fa (RdS.some_ hr0_1 rfl I.1 I.2) rfl rfl rfl rfl rfl rfl) rfl rfl rfl ?_; refine At.y (Y.ldFl hr0_1 rfl (q := 1) rfl rfl I.1 I.2 rfl rfl rfl) rfl rfl rfl ?_; refine At.rowLen .z fun b9 => ?_; refine At.f7 (At.f7 (At.f7 (At.f7 (At.f7 ?_)))); obtain ⟨p, c4, j⟩ := bbind j; refine At.call rfl Q11.callee rfl rfl rfl (ih_0 _ _ b0 b0_0 b0_0_1 b0_0_2 A0_1 G.length c0_1 A0_2 x.length c0_2 A0_7 a2.length c0_7 L M O G x U V Z a0 D ((gt G a1).A) hr0_1 rfl hc0_1 rfl b9 c4) ?_; rintro _ _ ⟨rfl, rfl⟩; refine At.alloc rfl rfl rfl (fun c7 => ?_); refine At.store rfl rfl rfl rfl .z rfl rfl rfl (.c (.c (.c (.c .n)))) ?_; refine nT (At.seq (At.seq ?_)); refine At.quiet (by kernel_rfl) ?_; refine At.Quiet.y (Y.load rfl rfl .z rfl rfl rfl) rfl rfl rfl ?_; refine At.Quiet.run 3 rfl ?_; refine At.Quiet.y (Y.load rfl rfl (.s .z) rfl rfl rfl) rfl rfl rfl ?_; refine At.Quiet.run 1 rfl ?_; refine At.Quiet.y (Y.ix (.s (.s (.s (.s (.s (.s .z)))))) rfl rfl rfl rfl rfl rfl u.1 u.2) rfl rfl rfl ?_; refine At.Quiet.y (Y.ld (.s (.s (.s (.s (.s (.s .z)))))) (q := 0) rfl rfl u.1 u.2 rfl rfl rfl) rfl rfl rfl ?_; refine At.Quiet.y (Y.eqAr (xs := [.int .u64 p.2.1, .int .u64 p.2.2.1, .int .u64 p.2.2.2.1, .int .u64 p.2.2.2.2]) (ys := [.int .u64 ((gt p.1 a1).c0), .int .u64 ((gt p.1 a1).c1), .int .u64 ((gt p.1 a1).c2), .int .u64 ((gt p.1 a1).c3)]) rfl rfl rfl rfl rfl rfl rfl (by kernel_rfl) rfl) rfl rfl rfl ?_; refine At.Quiet.nil (At.thn ?_); rcases bite j with ⟨a9, j⟩ | ⟨a9, j⟩
   ··refine At.condT rfl a9 ?_
     refine At.seq (At.region (At.y (Y.load rfl rfl .z rfl rfl rfl) rfl rfl rfl ?_)); refine At.store rfl rfl rfl rfl (.s (.s (.s (.s (.s (.s (.s .z))))))) rfl rfl rfl (.c (.c (.c (.c .n)))) ?_; refine nT (At.ret (At.thr ?_)); refine At.ibr ?_; have j := bupL b5 b6 j; refine At.thr ?_; refine At.ibr ?_; refine At.resM (.inl rfl) rfl (RV.cell rfl rfl .z rfl rfl rfl RV.nil) ?_; refine At.drop .z (At.drop .z (At.drop (.s (.s (.s (.s (.s (.s .z)))))) ?_)); cases bret j; exact fun a w e hs => ⟨_, ⟨rfl, rfl⟩, hs⟩
   ··refine At.condF rfl (bn a9) ?_
     refine At.skip (At.thn ?_); refine At.still 7 (by kernel_rfl) ?_; refine At.Still.run 3 rfl ?_; refine At.Still.y (Y.load rfl rfl (.s .z) rfl rfl rfl) rfl rfl rfl ?_; refine At.Still.run 1 rfl ?_; refine At.Still.y (Y.load rfl rfl .z rfl rfl rfl) rfl rfl rfl ?_; refine At.Still.y (Y.ix (.s (.s (.s (.s (.s (.s .z)))))) rfl rfl rfl rfl rfl rfl u.1 u.2) rfl rfl rfl ?_; refine At.Still.nil ?_; refine At.st rfl (.s (.s (.s (.s (.s (.s .z)))))) (q := 0) (z := (⟨p.2.1, p.2.2.1, p.2.2.2.1, p.2.2.2.2⟩ : Q0)) rfl rfl rfl u.1 u.2 rfl rfl (.c (.c (.c (.c .n)))) ?_; refine At.nil ?_; refine At.ibn ?_; refine At.drop (.s .z) (At.f5 (At.f5 (At.f5 (At.f5 (At.f5 (At.f7 (At.f7 ?_))))))); refine At.f7 ?_; have j := bnx hf_ j; exact fun a w e hs => ⟨b7, (st p.1 a1 (⟨p.2.1, p.2.2.1, p.2.2.2.1, p.2.2.2.2⟩ : Q0)), b8, j, e.sub ⟨rfl, rfl, rfl, trivial⟩, hs⟩
theorem Q11.all : ∀ k_ : Nat, Q11.SP (Q11.n k_) ∧ Q18.SP (Q18.n k_)
 | 0 => ⟨(by intro R Fr b0 b0_0 b0_0_1 b0_0_2 A0_1 n0_1 c0_1 A0_2 n0_2 c0_2 A0_7 n0_7 c0_7 a0_0_0 a0_0_1 a0_0_2 a0_1 a0_2 a0_3 a0_4 a0_5 a0_6 a0_7 a1 hr0_1 hn0_1 hc0_1 hn0_2 hn0_7 r j; cases j), (by intro R Fr b0 b0_0 b0_0_1 b0_0_2 A0_1 n0_1 c0_1 A0_2 n0_2 c0_2 A0_7 n0_7 c0_7 a0_0_0 a0_0_1 a0_0_2 a0_1 a0_2 a0_3 a0_4 a0_5 a0_6 a0_7 a1 a2_0 a2_1 a2_2 a2_3 hr0_1 hn0_1 hc0_1 hn0_2 hn0_7 r j; cases j)⟩
 | k_ + 1 => ⟨Q11.step (Q11.n k_) (Q18.n k_) ((Q11.all k_).1) ((Q11.all k_).2), Q18.step (Q11.n k_) (Q18.n k_) ((Q11.all k_).1) ((Q11.all k_).2)⟩
theorem Q11.spec {q u x D G a1 : Int} {I : List (Bs × Q0)} {J : List (Q8 × Q0)} {L : List Q2} {p : List Int} {M : List Q0} (hr0_1 : RdS Q2.fl.rep R.heap A0_1 L) (hn0_1 : L.length = n0_1) (hc0_1 : n0_1 ≤ c0_1) (hn0_2 : p.length = n0_2) (hn0_7 : M.length = n0_7) {r : (List Q0) × Int × Int × Int × Int} (j : Q11.f q I J L p u x D G M a1 = some r) :
 Spec Tryz.prog 33 [bp b0, i6 a1] R (pc b0 [bp b0_0, .slice A0_1 n0_1 c0_1, .slice A0_2 n0_2 c0_2, .int .u64 u, .int .u64 x, .int .u64 D, .int .u64 G, .slice A0_7 n0_7 c0_7] 88 :: pc b0_0 [i6 q, .map (some b0_0_1), .map (some b0_0_2)] 72 :: mapo Fl.bs.ov Q0.fl.av b0_0_1 I :: mapo Q8.fl.av Q0.fl.av b0_0_2 J :: row (Fl.int .i64) 3 A0_2 n0_2 c0_2 p :: row Q0.fl 38 A0_7 n0_7 c0_7 M :: Fr) (fun v l' => v = .agg #[.int .u64 r.2.1, .int .u64 r.2.2.1, .int .u64 r.2.2.2.1, .int .u64 r.2.2.2.2] ∧ pc b0 [bp b0_0, .slice A0_1 n0_1 c0_1, .slice A0_2 n0_2 c0_2, .int .u64 u, .int .u64 x, .int .u64 D, .int .u64 G, .slice A0_7 n0_7 c0_7] 88 :: pc b0_0 [i6 q, .map (some b0_0_1), .map (some b0_0_2)] 72 :: mapo Fl.bs.ov Q0.fl.av b0_0_1 I :: mapo Q8.fl.av Q0.fl.av b0_0_2 J :: row (Fl.int .i64) 3 A0_2 n0_2 c0_2 p :: row Q0.fl 38 A0_7 n0_7 c0_7 r.1 :: Fr = l') := by
 obtain ⟨k_, hk_⟩ := Q208 j; exact (Q11.all k_).1 R Fr b0 b0_0 b0_0_1 b0_0_2 A0_1 n0_1 c0_1 A0_2 n0_2 c0_2 A0_7 n0_7 c0_7 q I J L p u x D G M a1 hr0_1 hn0_1 hc0_1 hn0_2 hn0_7 hk_

/- told with Q11.f -/

noncomputable def Q78.f (u : Int) (x : List (Bs × Q0)) (D : List (Q8 × Q0)) (a1 : List Q2) : Option (Int × Int × Int × Int × Int) :=
 (Q30.f u x D a1).bind fun p =>
  match p with
  | .inl p =>
   some (1, 0, 0, 0, 0)
  | .inr p =>
   (Q11.f u x D a1 p.1 p.2.1 p.2.2.1 p.2.2.2.1 p.2.2.2.2 (List.replicate (a1.length : Int).toNat ((⟨0, 0, 0, 0⟩ : Q0) : Q0)) (IntKind.i64.wrap ((a1.length : Int) - 1))).bind fun q =>
    some (0, q.2.1, q.2.2.1, q.2.2.2.1, q.2.2.2.2)
theorem Q78.callee : Callee Tryz.prog 10 := ⟨_, Tryz.func10, by kernel_rfl, by kernel_rfl⟩
theorem Q78.spec {p : Int} {q : List (Bs × Q0)} {u : List (Q8 × Q0)} {a1 : List Q2} (hr1 : RdS Q2.fl.rep R.heap A1 a1) (hn1 : a1.length = n1) (hc1 : n1 ≤ c1) {r : Int × Int × Int × Int × Int} (j : Q78.f p q u a1 = some r) :
 Spec Tryz.prog 10 [bp b0, .slice A1 n1 c1] R (pc b0 [i6 p, .map (some b0_1), .map (some b0_2)] 72 :: mapo Fl.bs.ov Q0.fl.av b0_1 q :: mapo Q8.fl.av Q0.fl.av b0_2 u :: Fr) (fun v l' => v = .tuple #[.agg #[.int .u64 r.2.1, .int .u64 r.2.2.1, .int .u64 r.2.2.2.1, .int .u64 r.2.2.2.2], i6 r.1] ∧ pc b0 [i6 p, .map (some b0_1), .map (some b0_2)] 72 :: mapo Fl.bs.ov Q0.fl.av b0_1 q :: mapo Q8.fl.av Q0.fl.av b0_2 u :: Fr = l') := by
 subst hn1; refine Spec.of Tryz.func10 rfl rfl ?_; unfold Q78.f at j; have j := brun j; refine At.seq (At.region ?_); refine At.alloc rfl rfl rfl (fun I => ?_); refine At.run 1 rfl (nT (sR 2 rfl (At.f3 (At.f3 ?_)))); refine At.f3 ?_; obtain ⟨x, D, j⟩ := bbind j; refine At.call rfl Q30.callee rfl rfl rfl (Q30.spec hr1 rfl hc1 D) ?_; rcases x with x | x
 ·rintro _ _ ⟨rfl, rfl⟩; refine At.run 5 rfl (nT (At.seq (sR 2 rfl (At.nil ?_)))); refine At.thn ?_; refine At.condT rfl rfl ?_; refine At.seq (At.region ?_); refine At.y (Y.buildA (is := []) (xo := []) (vs := []) (cs := [.int .u64 0, .int .u64 0, .int .u64 0, .int .u64 0]) rfl rfl rfl rfl rfl rfl) rfl rfl rfl ?_; refine At.run 1 rfl ?_; refine At.store rfl rfl rfl rfl (.s (.s (.s .z))) rfl rfl rfl (.c (.c (.c (.c .n)))) ?_; refine At.run 1 rfl (nT (At.ret (At.thr ?_))); refine At.resM (.inl rfl) rfl (RV.cell rfl rfl .z rfl rfl rfl (RV.tmp rfl RV.nil)) ?_; refine At.drop .z ?_; cases bret j; exact fun a w e hs => ⟨_, ⟨rfl, rfl⟩, hs⟩
 ·rintro _ _ ⟨J, L, M, O, U, V, rfl, rfl, rfl⟩; refine At.run 5 rfl (nT (At.seq (sR 2 rfl (At.nil ?_)))); refine At.thn ?_; refine At.condF rfl rfl ?_; refine At.skip (At.thn (sR 4 rfl (At.f2 (At.f2 (At.f5 ?_))))); refine At.f5 (At.f5 (At.f5 ?_)); obtain ⟨X, G, j⟩ := bbind j; refine At.call rfl Q11.callee rfl rfl rfl (Q11.spec hr1 rfl hc1 rfl rfl G) ?_; rintro _ _ ⟨rfl, rfl⟩; refine At.store rfl rfl rfl rfl (.s (.s (.s (.s (.s (.s .z)))))) rfl rfl rfl (.c (.c (.c (.c .n)))) ?_; refine At.run 1 rfl (nT (At.ret ?_)); refine At.resM (.inl rfl) rfl (RV.cell rfl rfl .z rfl rfl rfl (RV.tmp rfl RV.nil)) ?_; refine At.drop .z (At.drop .z (At.drop (.s (.s (.s .z))) (At.drop (.s (.s (.s .z))) ?_))); cases bret j; exact fun a w e hs => ⟨_, ⟨rfl, rfl⟩, hs⟩

noncomputable def Q77.f  : Option Bool :=
 (Q20.f ([115, 116, 97, 116, 101, 115, 32, 51, 10, 101, 100, 103, 101, 32, 48, 32, 97, 32, 49, 10, 101, 100, 103, 101, 32, 49, 32, 97, 32, 50, 10, 101, 100, 103, 101, 32, 50, 32, 97, 32, 50, 10, 101, 100, 103, 101, 32, 48, 32, 98, 32, 48, 10, 109, 97, 114, 107, 32, 112, 32, 50, 10] : Bs)).bind fun p =>
 (Q15.f p.2.2.2.2 p.2.1 p.2.2.1 p.2.2.2.1).bind fun q =>
 (Q130.f ([109, 117, 32, 88, 46, 32, 112, 32, 124, 32, 91, 45, 93, 88] : Bs)).bind fun x =>
 jn (
 if p.1.isNone = true then
 some (.inl (!x.1.isNone))
 else
 some (.inl true)) (fun (D : Bool) =>
 jn (
 if D = true then
 some (.inl true)
 else
 some (.inl q.isNone)) (fun (G : Bool) =>
 if G = true then
 some false
 else
 if q.isNone = false then
 (Q78.f ((q.getD default).states) ((q.getD default).holds) ((q.getD default).next) x.2).bind fun u =>
 jn (
 if u.1 = 0 then
 some (.inl (decide (u.2.1 = 6) && (decide (u.2.2.1 = 0) && (decide (u.2.2.2.1 = 0) && (decide (u.2.2.2.2 = 0) && true)))))
 else
 some (.inl false)) (fun (I : Bool) =>
 some I)
 else none))
theorem Q77.callee : Callee Tryz.prog 8 := ⟨_, Tryz.func8, by kernel_rfl, by kernel_rfl⟩
theorem Q77.spec {r : Bool} (j : Q77.f  = some r) :
 Spec Tryz.prog 8 [] R (Fr) (fun v l' => v = .bool r ∧ Fr = l') := by
 refine Spec.of Tryz.func8 rfl rfl ?_; unfold Q77.f at j; have j := brun j; refine sR 1 rfl (nT (At.seq (At.region ?_))); obtain ⟨D, b6, j⟩ := bbind j; refine At.call rfl Q20.callee rfl rfl rfl (Q20.spec b6) ?_; rintro _ _ ⟨V, g2, b7, b8, g3, b9, c4, g4, c5, c6, rfl, rfl, rfl, rfl, rfl⟩; refine At.run 3 rfl ?_; refine At.alloc rfl rfl rfl (fun c7 => ?_); refine At.store rfl rfl rfl rfl .z rfl rfl rfl (.c (.c (.c (.c .n)))) ?_; refine At.run 1 rfl (nT (At.seq (At.region (At.y (Y.load rfl rfl .z rfl rfl rfl) rfl rfl rfl ?_)))); refine At.freeze (.s .z) fun g5 c8 c9 d0 g6 a5 => ?_; refine At.freeze (.s .z) fun g7 d1 d2 d3 d4 a6 => ?_; refine At.freezeGrow (.s .z) fun g8 d5 d6 d7 a7 a8 => ?_; obtain ⟨p, d8, j⟩ := bbind j; refine At.call rfl Q15.callee rfl rfl rfl (Q15.spec (RdS.mono (d4.trans a7) c8) c9 d0 (RdS.mono a7 d1) d2 d3 d5 d6 d7 d8) ?_; rintro _ _ ⟨L, rfl, rfl⟩; refine At.run 1 rfl (nT (At.seq (At.region ?_))); obtain ⟨u, d9, j⟩ := bbind j; refine At.call rfl Q130.callee rfl rfl rfl (Q130.spec d9) ?_; rintro _ _ ⟨Z, g9, M, O, rfl, rfl, rfl⟩; refine At.run 5 rfl (nT (At.seq (sR 1 rfl ?_))); refine At.y (Y.neOptI (.s (.s (.s (.s .z)))) rfl rfl rfl) rfl rfl rfl ?_; refine At.run 1 rfl ?_; obtain ⟨e0, e1, h0, j⟩ := bjoin j; let a0 : HProp := pc c7 [i6 D.2.2.2.2, .slice b7 D.2.1.length b8, .slice b9 D.2.2.1.length c4, .slice c5 D.2.2.2.1.length c6] 26; refine At.joinO 3 (X := Bool) (fun G => [(3, optp L), (4, .slice M u.2.length O), (23, .bool G)]) (fun G => row Q2.fl 51 M u.2.length O u.2 :: optb (Ow.fl Q5.fl) 107 Z u.1 :: optb Q43.ow 72 L p :: a0 :: optb (Ow.fl Q5.fl) 107 V D.1 :: Fr) (fun G => e0 (.inl G) = some r) ?_ (fun a9 => ?_)
 ·rintro G j; have j := (e1 _).symm.trans j
  ·refine At.run 1 rfl ?_; obtain ⟨e2, e3, h1, j⟩ := bjoin j; refine At.joinO 3 (X := Bool) (fun I => [(3, optp L), (4, .slice M u.2.length O), (27, .bool I)]) (fun I => row Q2.fl 51 M u.2.length O u.2 :: optb (Ow.fl Q5.fl) 107 Z u.1 :: optb Q43.ow 72 L p :: a0 :: optb (Ow.fl Q5.fl) 107 V D.1 :: Fr) (fun I => e2 (.inl I) = some r) ?_ (fun b2 => ?_)
   ·rintro I j; have j := (e3 _).symm.trans j
    ·refine nT ?_; rcases bite j with ⟨a1, j⟩ | ⟨a1, j⟩
     ··refine At.condT rfl a1 ?_
       refine sR 1 rfl (nT (At.ret (At.thr ?_))); refine At.thaw a8 ?_; refine At.thaw a6 ?_; refine At.thaw a5 ?_; refine At.drop .z (At.drop .z (At.drop .z (At.drop .z (At.drop .z (At.drop .z (At.drop .z (At.drop .z ?_))))))); cases bret j; exact At.res (.inl rfl) rfl rfl ⟨rfl, rfl⟩
     ··refine At.condF rfl (bn a1) ?_
       refine At.skip (At.thn (sR 2 rfl ?_)); obtain ⟨e4, j⟩ := bnone j; refine At.optOpen (.s (.s .z)) e4 (fun e5 e6 h2 => ?_); have e7 := j; subst e6; have j := e7; refine At.ownPair (T := Ow.fl (Fl.int .i64)) (U := ((Ow.mp Fl.bs.ov Q0.fl.av).pair (Ow.mp Q8.fl.av Q0.fl.av))) (x := ((p.getD default).states, (p.getD default).holds, (p.getD default).next)) (.s .z) ?_; rintro h3 h4 rfl; refine At.ownFl (F := (Fl.int .i64)) (x := (p.getD default).states) .z ?_; rintro rfl; refine At.ownPair (T := Ow.mp Fl.bs.ov Q0.fl.av) (U := (Ow.mp Q8.fl.av Q0.fl.av)) (x := ((p.getD default).holds, (p.getD default).next)) .z ?_; rintro h5 h6 rfl; refine At.ownMp (kv := Fl.bs.ov) (vv := Q0.fl.av) (kvs := (p.getD default).holds) .z ?_; rintro b3 rfl; refine At.ownMp (kv := Q8.fl.av) (vv := Q0.fl.av) (kvs := (p.getD default).next) (.s .z) ?_; rintro b4 rfl; refine At.freeze (.s (.s (.s .z))) fun h7 e8 e9 f0 h8 f3 => ?_; refine At.f1 (At.f2 ?_); obtain ⟨q, f4, j⟩ := bbind j; refine At.call rfl Q78.callee rfl rfl rfl (Q78.spec e8 e9 f0 f4) ?_; rintro _ _ ⟨rfl, rfl⟩; refine At.run 3 rfl ?_; refine At.alloc rfl rfl rfl (fun f5 => ?_); refine At.store rfl rfl rfl rfl .z rfl rfl rfl (.c (.c (.c (.c .n)))) ?_; refine At.run 1 rfl (nT (sR 3 rfl ?_)); obtain ⟨f6, f7, h9, j⟩ := bjoin j; let f8 : HProp := pc f5 [.int .u64 q.2.1, .int .u64 q.2.2.1, .int .u64 q.2.2.2.1, .int .u64 q.2.2.2.2] 38; let f9 : HProp := pc e5 [i6 ((p.getD default).states), .map (some b3), .map (some b4)] 72; let g0 : HProp := mapo Fl.bs.ov Q0.fl.av b3 ((p.getD default).holds); let g1 : HProp := mapo Q8.fl.av Q0.fl.av b4 ((p.getD default).next); refine At.joinO 4 (X := Bool) (fun J => [(40, .bool J)]) (fun J => f8 :: f9 :: g0 :: g1 :: optb (Ow.fl Q5.fl) 107 Z u.1 :: a0 :: optb (Ow.fl Q5.fl) 107 V D.1 :: Fr) (fun J => f6 (.inl J) = some r) ?_ (fun b5 => ?_)
       ·rintro J j; have j := (f7 _).symm.trans j
        ·refine At.run 1 rfl (nT (At.ret ?_)); refine At.thaw f3 ?_; refine At.thaw a8 ?_; refine At.thaw a6 ?_; refine At.thaw a5 ?_; refine At.drop .z (At.drop .z (At.drop .z (At.drop .z (At.drop .z (At.drop .z (At.drop .z (At.drop .z ?_))))))); refine At.drop .z (At.drop .z (At.drop .z ?_)); cases bret j; exact At.res (.inl rfl) rfl rfl ⟨rfl, rfl⟩
       ··rcases bite j with ⟨a2, j⟩ | ⟨a2, j⟩
         ··refine At.know (t := 36) rfl (decide_eq_true a2) ?_
           refine At.y (Y.load rfl rfl .z rfl rfl rfl) rfl rfl rfl ?_; refine At.y (Y.buildA (is := [0]) (xo := [.const (.int .u64 6)]) (vs := [.int .u64 6]) (cs := [.int .u64 6, .int .u64 0, .int .u64 0, .int .u64 0]) rfl rfl rfl rfl rfl rfl) rfl rfl rfl ?_; refine At.y (Y.eqAr (xs := [.int .u64 q.2.1, .int .u64 q.2.2.1, .int .u64 q.2.2.2.1, .int .u64 q.2.2.2.2]) (ys := [.int .u64 6, .int .u64 0, .int .u64 0, .int .u64 0]) rfl rfl rfl rfl rfl rfl rfl (by kernel_rfl) rfl) rfl rfl rfl ?_; refine At.run 1 rfl ?_; exact At.of (b5 (decide (q.2.1 = 6) && (decide (q.2.2.1 = 0) && (decide (q.2.2.2.1 = 0) && (decide (q.2.2.2.2 = 0) && true)))) j) ⟨rfl, trivial⟩
         ··refine At.know (t := 36) rfl (decide_eq_false a2) ?_
           refine At.run 4 rfl ?_; exact At.of (b5 false j) ⟨rfl, trivial⟩
   ··rcases bite j with ⟨a3, j⟩ | ⟨a3, j⟩
     ··refine At.know (t := 24) rfl a3 ?_
       refine At.run 3 rfl ?_; exact At.of (b2 true j) ⟨rfl, rfl, rfl, trivial⟩
     ··refine At.know (t := 24) rfl (bn a3) ?_
       refine At.run 1 rfl ?_; refine At.y (Y.eqOpt (.s (.s .z)) rfl rfl rfl rfl) rfl rfl rfl ?_; refine At.run 1 rfl ?_; exact At.of (b2 p.isNone j) ⟨rfl, rfl, rfl, trivial⟩
 ··rcases bite j with ⟨a4, j⟩ | ⟨a4, j⟩
   ··refine At.know (t := 20) rfl (nf a4) ?_
     refine At.run 1 rfl ?_; refine At.y (Y.neOptI (.s .z) rfl rfl rfl) rfl rfl rfl ?_; refine At.run 1 rfl ?_; exact At.of (a9 (!u.1.isNone) j) ⟨rfl, rfl, rfl, trivial⟩
   ··refine At.know (t := 20) rfl (nt (bn a4)) ?_
     refine At.run 3 rfl ?_; exact At.of (a9 true j) ⟨rfl, rfl, rfl, trivial⟩

end Go.Bw
namespace Go.Bw
open Go Go.RowKit

def Ap {α : Type} (a b : Option α) : Prop := ∀ r, a = some r → b = some r
section
variable {α β σ τ ρ : Type}
theorem Ap.refl (a : Option α) : Ap a a := fun _ h => h
theorem Ap.none {b : Option α} : Ap Option.none b := fun _ h => by cases h
theorem Ap.bind {a b : Option α} {f g : α → Option β} (h : Ap a b) (k : ∀ t, Ap (f t) (g t)) : Ap (a.bind f) (b.bind g) := fun r e => by
 cases ha : a with
 | none => rw [ha] at e; cases e
 | some t => rw [ha] at e; rw [h t ha]; exact k t r e
theorem Ap.ite {c : Prop} [i : Decidable c] [j : Decidable c] {a b a' b' : Option α} (h : Ap a a') (k : Ap b b') : Ap (@_root_.ite _ c i a b) (@_root_.ite _ c j a' b') := fun r e => by
 by_cases hc : c
 ·rw [if_pos hc] at e ⊢; exact h r e
 ·rw [if_neg hc] at e ⊢; exact k r e
theorem Ap.jn {a b : Option (σ ⊕ ρ)} {f g : σ → Option ρ} (h : Ap a b) (k : ∀ t, Ap (f t) (g t)) : Ap (Bw.jn a f) (Bw.jn b g) := fun r e => by
 cases ha : a with
 | none => rw [ha] at e; cases e
 | some t =>
  rw [ha] at e
  rw [h t ha]
  cases t with
  | inl s => exact k s r e
  | inr o => exact e
theorem Ap.up {a b : Option ρ} (h : Ap a b) : Ap (Bw.up a : Option (σ ⊕ ρ)) (Bw.up b) := fun r e => by
 cases ha : a with
 | none => rw [ha] at e; cases e
 | some t => rw [ha] at e; rw [h t ha]; exact e
def iterC (fu : Nat) (body : σ → Option (σ ⊕ ρ)) (s : σ) : Option ρ := iterN body fu s
theorem Q246 {f g : σ → Option (σ ⊕ ρ)} (h : ∀ s, Ap (f s) (g s)) : ∀ {n : Nat} {s : σ}, Ap (iterN f n s) (iterN g n s)
 | 0, _ => fun _ e => by cases e
 | n + 1, s => fun r e => by
  unfold iterN at e ⊢
  cases hf : f s with
  | none => rw [hf] at e; cases e
  | some t =>
   rw [hf] at e
   rw [h s t hf]
   cases t with
   | inl s' => exact Q246 h r e
   | inr o => exact e
theorem Ap.iter {fu : Nat} {f g : σ → Option (σ ⊕ ρ)} {s : σ} (h : ∀ s, Ap (f s) (g s)) : Ap (iterC fu f s) (Bw.iter g s) := fun r e => Q17.2 ⟨fu, Q246 h r e⟩
theorem Q244 {f g : σ → α → Option σ} (h : ∀ s x, Ap (f s x) (g s x)) : ∀ {xs : List α} {s : σ}, Ap (foldO f s xs) (foldO g s xs)
 | [], _ => fun _ e => e
 | x :: xs, s => Ap.bind (h s x) fun t => Q244 h
def soloC (a : List α) : Option (List α) := if a.length ≤ 1 then some a else Option.none
theorem solo_mem {a r : List α} (h : soloC a = some r) : r = a ∧ (a = [] ∨ ∃ x, a = [x]) := by
 unfold soloC at h
 split at h
 ·rename_i hl
  refine ⟨(Option.some.inj h).symm, ?_⟩
  match a, hl with
  | [], _ => exact .inl rfl
  | [x], _ => exact .inr ⟨x, rfl⟩
  | _ :: _ :: _, hl => simp at hl
 ·cases h
end
end Go.Bw
namespace Go.Bw
open Go Go.RowKit Go.Sort Go.Proofs Go.Shelf
section
variable {α : Type}
def insL (le : α → α → Bool) (x : α) : List α → List α
 | [] => [x]
 | y :: ys => if le x y = true then x :: y :: ys else y :: insL le x ys
def insS (le : α → α → Bool) : List α → List α
 | [] => []
 | x :: xs => insL le x (insS le xs)
theorem Q209 (le : α → α → Bool) (x : α) : ∀ l : List α, (insL le x l).Perm (x :: l)
 | [] => List.Perm.refl _
 | y :: ys => by
  unfold insL
  split
  ·exact List.Perm.refl _
  ·exact ((Q209 le x ys).cons y).trans (List.Perm.swap x y ys)
theorem Q144 (le : α → α → Bool) : ∀ l : List α, (insS le l).Perm l
 | [] => List.Perm.refl _
 | x :: xs => (Q209 le x _).trans ((Q144 le xs).cons x)
def pwB (le : α → α → Bool) : List α → Bool
 | [] => true
 | x :: xs => xs.all (le x) && pwB le xs
theorem pwB_mem {le : α → α → Bool} : ∀ {a : List α}, pwB le a = true → a.Pairwise fun x y => le x y = true
 | [], _ => List.Pairwise.nil
 | x :: xs, e => by
  unfold pwB at e
  rw [Bool.and_eq_true, List.all_eq_true] at e
  exact List.Pairwise.cons e.1 (pwB_mem e.2)
theorem Q196 {le : α → α → Bool} (tr : ∀ a b c, le a b = true → le b c = true → le a c = true) (to : ∀ a b, (le a b || le b a) = true) {a r : List α} (an : ∀ x y, x ∈ a → y ∈ a → le x y = true → le y x = true → x = y) (hp : r.Perm a) (hr : r.Pairwise fun x y => le x y = true) :
 a.mergeSort le = r :=
 List.Perm.eq_of_pairwise (le := fun x y => le x y = true) (fun x y hx hy h1 h2 => an x y ((List.mergeSort_perm a le).subset hx) (hp.subset hy) h1 h2) (List.pairwise_mergeSort tr to a) hr ((List.mergeSort_perm a le).trans hp.symm)
def leC (c : α → α → Option Int) (x y : α) : Bool := match c y x with | some v => decide (0 ≤ v) | none => false
def sortC (c : α → α → Option Int) (a : List α) : Option (List α) := let r := insS (leC c) a; if pwB (leC c) r = true then some r else none
theorem leC_mem {c cc : α → α → Option Int} (h : ∀ x y, Ap (cc x y) (c x y)) {x y : α} (e : leC cc x y = true) : (!(ltOf (gcf c)) y x) = true := by
 unfold leC at e
 cases hc : cc y x with
 | none => rw [hc] at e; cases e
 | some v =>
  rw [hc] at e
  have hv := h y x v hc
  unfold ltOf gcf
  rw [hv]
  simpa using e
theorem swo_le {lt : α → α → Bool} (s : SWO lt) : (∀ a b c, (!lt b a) = true → (!lt c b) = true → (!lt c a) = true) ∧ ∀ a b, ((!lt b a) || (!lt a b)) = true := by
 refine ⟨fun a b c h1 h2 => ?_, fun a b => ?_⟩
 ·simp only [Bool.not_eq_true'] at *
  exact s.ntrans _ _ _ h2 h1
 ·cases h : lt b a with
  | false => rfl
  | true =>
   cases h2 : lt a b with
   | false => rfl
   | true => have := s.trans _ _ _ h h2; rw [s.irrefl] at this; cases this
theorem sort_mem {c cc : α → α → Option Int} (h : ∀ x y, Ap (cc x y) (c x y)) {a r : List α} (s : CmpSwo c) (an : ∀ x y, x ∈ a → y ∈ a → ltOf (gcf c) x y = false → ltOf (gcf c) y x = false → x = y) (e : sortC cc a = some r) : byCmp c a = r ∧ r.length = a.length := by
 unfold sortC at e
 dsimp only at e
 split at e
 ·rename_i hp
  obtain rfl := Option.some.inj e
  refine ⟨Q196 (swo_le s.2).1 (swo_le s.2).2 (fun x y hx hy h1 h2 => ?_) (Q144 _ _) ((pwB_mem hp).imp fun {x y} hxy => leC_mem h hxy), (Q144 _ _).length_eq⟩
  simp only [Bool.not_eq_true'] at h1 h2
  exact an x y hx hy h2 h1
 ·cases e
theorem sort_tot {c cc : α → α → Option Int} (h : ∀ x y, Ap (cc x y) (c x y)) {a r : List α} (s : CmpTot c) (e : sortC cc a = some r) : byCmp c a = r ∧ r.length = a.length := sort_mem h s.1 (fun x y _ _ => s.2 x y) e
end
def few2C {α : Type} (o : Option (List α)) : Option (List α) := o.bind fun a => if a.length ≤ 1000 then some a else none
theorem Q217 {α : Type} {o : Option (List α)} {r : List α} (h : few2C o = some r) : o = some r ∧ r.length ≤ 1000 := by
 unfold few2C at h
 cases o with
 | none => cases h
 | some a =>
  simp only [Option.bind_some] at h
  split at h
  ·rename_i hl
   obtain rfl := Option.some.inj h
   exact ⟨rfl, hl⟩
  ·cases h
def sortB (a : List Bs) : Option (List Bs) := some (insS (fun x y => decide (x ≤ y)) a)
def sortI (a : List Int) : Option (List Int) := some (insS (fun x y => decide (x ≤ y)) a)
section
variable {α : Type}
theorem insL_pw {le : α → α → Bool} (tr : ∀ a b c, le a b = true → le b c = true → le a c = true) (to : ∀ a b, (le a b || le b a) = true) (x : α) : ∀ {l : List α}, l.Pairwise (fun x y => le x y = true) → (insL le x l).Pairwise fun x y => le x y = true
 | [], _ => List.pairwise_singleton _ _
 | y :: ys, h => by
  unfold insL
  have h1 := List.pairwise_cons.1 h
  split
  ·rename_i hxy
   exact List.Pairwise.cons (fun z hz => (List.mem_cons.1 hz).elim (fun e => e ▸ hxy) fun hz => tr _ _ _ hxy (h1.1 z hz)) h
  ·rename_i hxy
   refine List.Pairwise.cons (fun z hz => ?_) (insL_pw tr to x h1.2)
   rcases List.mem_cons.1 ((Q209 le x ys).subset hz) with rfl | hz
   ·have := to z y; simp [hxy] at this; exact this
   ·exact h1.1 z hz
theorem Q211 {le : α → α → Bool} (tr : ∀ a b c, le a b = true → le b c = true → le a c = true) (to : ∀ a b, (le a b || le b a) = true) : ∀ (l : List α), (insS le l).Pairwise fun x y => le x y = true
 | [] => List.Pairwise.nil
 | x :: xs => insL_pw tr to x (Q211 tr to xs)
end
theorem sortI_eq {a r : List Int} (h : sortI a = some r) : (a.mergeSort fun x y => decide (x ≤ y)) = r ∧ r.length = a.length := by
 obtain rfl := Option.some.inj h
 have tr : ∀ a b c : Int, decide (a ≤ b) = true → decide (b ≤ c) = true → decide (a ≤ c) = true := fun a b c h1 h2 => by simp only [decide_eq_true_eq] at *; omega
 have to : ∀ a b : Int, (decide (a ≤ b) || decide (b ≤ a)) = true := fun a b => by simp; omega
 exact ⟨Q196 tr to (fun x y _ _ h1 h2 => by simp only [decide_eq_true_eq] at *; omega) (Q144 _ _) (Q211 tr to a), (Q144 _ _).length_eq⟩
theorem sortB_eq {a r : List Bs} (h : sortB a = some r) : (a.mergeSort fun x y => decide (x ≤ y)) = r ∧ r.length = a.length := by
 obtain rfl := Option.some.inj h
 have tr : ∀ a b c : Bs, decide (a ≤ b) = true → decide (b ≤ c) = true → decide (a ≤ c) = true := fun a b c h1 h2 => by simp only [decide_eq_true_eq] at *; exact List.le_trans h1 h2
 have to : ∀ a b : Bs, (decide (a ≤ b) || decide (b ≤ a)) = true := fun a b => by simp only [Bool.or_eq_true, decide_eq_true_eq]; exact List.le_total a b
 exact ⟨Q196 tr to (fun x y _ _ h1 h2 => by simp only [decide_eq_true_eq] at *; exact List.le_antisymm h1 h2) (Q144 _ _) (Q211 tr to a), (Q144 _ _).length_eq⟩
section
variable {α β σ τ : Type}
def insA (x : α) : List α → List (List α)
 | [] => [[x]]
 | y :: ys => (x :: y :: ys) :: (insA x ys).map (y :: ·)
def perms : List α → List (List α)
 | [] => [[]]
 | x :: xs => (perms xs).flatMap (insA x)
theorem Q238 (x : α) (b : List α) : ∀ a : List α, a ++ x :: b ∈ insA x (a ++ b)
 | [] => by cases b <;> simp [insA]
 | y :: a => by
  show y :: (a ++ x :: b) ∈ insA x (y :: (a ++ b))
  unfold insA
  exact List.mem_cons_of_mem _ (List.mem_map_of_mem (Q238 x b a))
theorem Q227 : ∀ {xs ys : List α}, ys.Perm xs → ys ∈ perms xs
 | [], ys, h => by rw [h.eq_nil]; simp [perms]
 | x :: xs, ys, h => by
  obtain ⟨a, b, rfl⟩ := List.append_of_mem (h.symm.subset List.mem_cons_self)
  have h2 : (a ++ b).Perm xs := (List.perm_middle.symm.trans h).cons_inv
  unfold perms
  exact List.mem_flatMap.2 ⟨a ++ b, Q227 h2, Q238 x b a⟩
def orderedP [DecidableEq β] (kvs : List α) (step : σ → α → Option σ) (s0 : σ) (out : σ → τ) (f : τ → Option β) : Option β :=
 match (foldO step s0 kvs).bind fun s => f (out s) with
 | none => none
 | some r => if (perms kvs).all (fun ys => decide (((foldO step s0 ys).bind fun s => f (out s)) = some r)) = true then some r else none
theorem Ap.orderedP [DecidableEq β] {kvs : List α} {f g : σ → α → Option σ} {s0 : σ} {out : σ → τ} {p q : τ → Option β} (h : ∀ s x, Ap (f s x) (g s x)) (k : ∀ t, Ap (p t) (q t)) : Ap (Bw.orderedP kvs f s0 out p) (Bw.ordered kvs g s0 out q) := fun r e => by
 unfold Bw.orderedP at e
 split at e
 ·cases e
 ·rename_i r' hr'
  split at e
  ·rename_i ha
   obtain rfl := Option.some.inj e
   rw [List.all_eq_true] at ha
   refine Q248.2 fun ys hy => ?_
   have := of_decide_eq_true (ha ys (Q227 hy))
   exact Ap.bind (Q244 h) (fun t => k _) _ this
  ·cases e
end
end Go.Bw
namespace Go.Bw
open Go Go.RowKit Go.Proofs Go.Sort

def cmp3 (a b : Int) : Int := if a < b then -1 else if b < a then 1 else 0
theorem Q235 (a b : Int) : Q63.f a b = some (cmp3 a b) := by
 unfold Q63.f Q102.f cmp3
 simp
 split
 ·rfl
 ·split <;> rfl
theorem Q170 {a b : Int} : cmp3 a b < 0 ↔ a < b := by
 unfold cmp3
 split
 ·simp [*]
 ·split <;> simp <;> omega
theorem Q175 {a b : Int} : cmp3 a b = 0 ↔ a = b := by
 unfold cmp3
 split
 ·simp; omega
 ·split <;> simp <;> omega
theorem or_run (a b c : Int) : Q29.f [a, b, c] = some (if a = 0 then if b = 0 then c else b else a) := by
 unfold Q29.f Q29.l0
 by_cases ha : a = 0
 ·by_cases hb : b = 0
  ·by_cases hc : c = 0
   ·subst ha hb hc
    rw [Q84, Q29.l0b]
    simp [nx, gt, IntKind.wrap, IntKind.bits, IntKind.signed]
    rw [Q84, Q29.l0b]
    simp [nx, gt, IntKind.wrap, IntKind.bits, IntKind.signed]
    rw [Q84, Q29.l0b]
    simp [nx, gt, IntKind.wrap, IntKind.bits, IntKind.signed]
    rw [Q84, Q29.l0b]
    simp [dn, jn]
   ·subst ha hb
    rw [Q84, Q29.l0b]
    simp [nx, gt, IntKind.wrap, IntKind.bits, IntKind.signed]
    rw [Q84, Q29.l0b]
    simp [nx, gt, IntKind.wrap, IntKind.bits, IntKind.signed]
    rw [Q84, Q29.l0b]
    simp [nx, gt, hc, upL, jn]
  ·subst ha
   rw [Q84, Q29.l0b]
   simp [nx, gt, IntKind.wrap, IntKind.bits, IntKind.signed]
   rw [Q84, Q29.l0b]
   simp [nx, gt, hb, upL, jn]
 ·rw [Q84, Q29.l0b]
  simp [nx, gt, ha, upL, jn]
def edgeCmp (x y : Q3) : Int := if cmp3 x.From y.From = 0 then if cmp3 x.Action y.Action = 0 then cmp3 x.To y.To else cmp3 x.Action y.Action else cmp3 x.From y.From
theorem Q250 (x y : Q3) : Q96.f x.From x.Action x.To y.From y.Action y.To = some (edgeCmp x y) := by
 unfold Q96.f
 simp only [Q235, Option.bind_some, or_run]
 rfl
theorem Q222 (x y : Q3) : Q36.cmp x y = some (edgeCmp x y) := Q250 x y
def edgeLt (x y : Q3) : Prop := x.From < y.From ∨ x.From = y.From ∧ (x.Action < y.Action ∨ x.Action = y.Action ∧ x.To < y.To)
theorem Q200 {x y : Q3} : edgeCmp x y < 0 ↔ edgeLt x y := by
 unfold edgeCmp edgeLt
 by_cases h1 : x.From = y.From
 ·rw [if_pos (Q175.2 h1)]
  by_cases h2 : x.Action = y.Action
  ·rw [if_pos (Q175.2 h2), Q170]; omega
  ·rw [if_neg (fun h => h2 (Q175.1 h)), Q170]; omega
 ·rw [if_neg (fun h => h1 (Q175.1 h)), Q170]; omega
theorem Q156 (x y : Q3) : ltOf (gcf Q36.cmp) x y = true ↔ edgeLt x y := by
 unfold ltOf gcf
 rw [Q222]
 simp [Q200]
theorem edge_ltOf' (x y : Q3) : ltOf (gcf Q36.cmp) x y = false ↔ ¬ edgeLt x y := by
 rw [← Q156]; simp
theorem Q237 : CmpTot Q36.cmp := by
 refine ⟨⟨fun x y => by rw [Q222]; rfl, fun x => ?_, fun x y z h1 h2 => ?_, fun x y z h1 h2 => ?_⟩, fun x y h1 h2 => ?_⟩
 ·rw [edge_ltOf']; unfold edgeLt; omega
 ·rw [Q156] at *; unfold edgeLt at *; omega
 ·rw [edge_ltOf'] at *; unfold edgeLt at *; omega
 ·rw [edge_ltOf'] at *
  unfold edgeLt at *
  cases x
  cases y
  simp at *
  omega
theorem Q205 : ∀ (x : Bs), Lib.compareBytes x x = 0
 | [] => rfl
 | a :: x => by unfold Lib.compareBytes; rw [if_neg (UInt8.lt_irrefl a), if_neg (UInt8.lt_irrefl a)]; exact Q205 x
theorem cb_eq : ∀ {x y : Bs}, Lib.compareBytes x y = 0 → x = y
 | [], [], _ => rfl
 | [], _ :: _, h => by simp [Lib.compareBytes] at h
 | _ :: _, [], h => by simp [Lib.compareBytes] at h
 | a :: x, b :: y, h => by
  unfold Lib.compareBytes at h
  split at h
  ·simp at h
  ·split at h
   ·simp at h
   ·rename_i h1 h2
    rw [cb_eq h, UInt8.le_antisymm (UInt8.not_lt.1 h2) (UInt8.not_lt.1 h1)]
theorem cb_neg : ∀ {x y : Bs}, Lib.compareBytes y x = - Lib.compareBytes x y
 | [], [] => rfl
 | [], _ :: _ => rfl
 | _ :: _, [] => rfl
 | a :: x, b :: y => by
  unfold Lib.compareBytes
  by_cases h1 : a < b
  ·rw [if_neg (UInt8.lt_asymm h1), if_pos h1, if_pos h1]; rfl
  ·by_cases h2 : b < a
   ·rw [if_pos h2, if_neg h1, if_pos h2]
   ·rw [if_neg h1, if_neg h2, if_neg h2, if_neg h1]; exact cb_neg
theorem Q191 : ∀ {x y z : Bs}, Lib.compareBytes x y < 0 → Lib.compareBytes y z < 0 → Lib.compareBytes x z < 0
 | [], [], _, h, _ => by simp [Lib.compareBytes] at h
 | [], _ :: _, [], _, h => by simp [Lib.compareBytes] at h
 | [], _ :: _, _ :: _, _, _ => by simp [Lib.compareBytes]
 | _ :: _, [], _, h, _ => by simp [Lib.compareBytes] at h
 | _ :: _, _ :: _, [], _, h => by simp [Lib.compareBytes] at h
 | a :: x, b :: y, c :: z, h1, h2 => by
  unfold Lib.compareBytes at h1 h2 ⊢
  by_cases hab : a < b
  ·by_cases hbc : b < c
   ·rw [if_pos (UInt8.lt_trans hab hbc)]; decide
   ·rw [if_neg hbc] at h2
    by_cases hcb : c < b
    ·rw [if_pos hcb] at h2; simp at h2
    ·have : b = c := UInt8.le_antisymm (UInt8.not_lt.1 hcb) (UInt8.not_lt.1 hbc)
     subst this
     rw [if_pos hab]; decide
  ·rw [if_neg hab] at h1
   by_cases hba : b < a
   ·rw [if_pos hba] at h1; simp at h1
   ·have : a = b := UInt8.le_antisymm (UInt8.not_lt.1 hba) (UInt8.not_lt.1 hab)
    subst this
    rw [if_neg hba] at h1
    by_cases hbc : a < c
    ·rw [if_pos hbc]; decide
    ·rw [if_neg hbc] at h2 ⊢
     by_cases hcb : c < a
     ·rw [if_pos hcb] at h2; simp at h2
     ·rw [if_neg hcb] at h2 ⊢
      exact Q191 h1 h2
theorem Q245 (x y : Q4) : Q39.cmp x y = some (Lib.compareBytes x.Name y.Name) := rfl
theorem Q172 (x y : Q4) : ltOf (gcf Q39.cmp) x y = true ↔ Lib.compareBytes x.Name y.Name < 0 := by
 unfold ltOf gcf
 rw [Q245]
 simp
theorem prop_ltOf' (x y : Q4) : ltOf (gcf Q39.cmp) x y = false ↔ 0 ≤ Lib.compareBytes x.Name y.Name := by
 have := Q172 x y
 rw [← Bool.not_eq_true, this]; omega
theorem prop_swo : CmpSwo Q39.cmp := by
 refine ⟨fun x y => by rw [Q245]; rfl, fun x => ?_, fun x y z h1 h2 => ?_, fun x y z h1 h2 => ?_⟩
 ·rw [prop_ltOf', Q205]; decide
 ·rw [Q172] at *; exact Q191 h1 h2
 ·rw [prop_ltOf'] at *
  rw [cb_neg] at h1 h2 ⊢
  have h1' : Lib.compareBytes y.Name x.Name ≤ 0 := by omega
  have h2' : Lib.compareBytes z.Name y.Name ≤ 0 := by omega
  by_cases e1 : Lib.compareBytes y.Name x.Name = 0
  ·rw [← cb_eq e1]; omega
  ·by_cases e2 : Lib.compareBytes z.Name y.Name = 0
   ·rw [cb_eq e2]; omega
   ·have := Q191 (show Lib.compareBytes z.Name y.Name < 0 by omega) (show Lib.compareBytes y.Name x.Name < 0 by omega)
    omega
end Go.Bw
namespace Go.Bw
open Go Go.RowKit
instance : DecidableEq Q4 := fun a b => decidable_of_iff (a.Name = b.Name ∧ a.States = b.States) (by cases a; cases b; simp)
noncomputable def Q71.fc (fu : Nat) (a0 : List Int) : Option (List Int) := few2C (sortI a0)
theorem Q71.f_ap (fu : Nat) (a0 : List Int) : Ap (Q71.fc fu a0) (Q71.f a0) := fun r h => by
 unfold Q71.fc at h
 obtain ⟨h, hl⟩ := Q217 h
 obtain ⟨hb, hl2⟩ := sortI_eq h
 unfold Q71.f
 rw [if_pos (by omega), hb]
noncomputable def Q35.fc (fu : Nat) (J : List Q1) (L : Option Q5) (u : Int) (x : List Bs) (D : List Q3) (q : List Q4) (G : List Q9) (I : List (Bs × Bool)) : Option ((List Q4) × (Option Q5) × (List Q1)) :=
 (Q106.f J L u x D q G I).bind fun p =>
 jn (
 if p.1.isNone = true then
 if 8 ≤ (q.length : Int) then
 (Q16.f p.2.1 p.1 u x D q G I p.2.2.1 p.2.2.2.1 p.2.2.2.2.1 p.2.2.2.2.2 10).bind fun M =>
 some (.inl M)
 else
 (Q134.f q p.2.2.1 p.2.2.2.1 p.2.2.2.2.1 p.2.2.2.2.2).bind fun O =>
 if O = true then
 (Q16.f p.2.1 p.1 u x D q G I p.2.2.1 p.2.2.2.1 p.2.2.2.2.1 p.2.2.2.2.2 9).bind fun U =>
 some (.inl U)
 else
 some (.inl p.1)
 else
 up (some (q, p.1, p.2.1))) (fun (V : Option Q5) =>
 jn (Q35.l0 u x D q G I ([] : List Int) V p.2.1) (fun (s_ : (Option Q5) × (List Int) × (List Q1)) =>
 (Q71.fc fu s_.2.1).bind fun X =>
 if (q.length + 1) * 40 ≤ 140737488355328 then
 some ((q ++ [(⟨p.2.2.2.2.1, X⟩ : Q4)]), s_.1, s_.2.2)
 else none))
theorem Q35.f_ap (fu : Nat) (p : List Q1) (q : Option Q5) (u : Int) (x : List Bs) (D : List Q3) (G : List Q4) (I : List Q9) (J : List (Bs × Bool)) : Ap (Q35.fc fu p q u x D G I J) (Q35.f p q u x D G I J) := by
 unfold Q35.fc Q35.f
 repeat' with_reducible first | apply Q71.f_ap | exact Ap.none | apply Ap.jn | apply Ap.ite | apply Ap.up | apply Ap.bind | exact Ap.refl _ | intro
noncomputable def Q83.fc (fu : Nat) (a0 : List Bs) : Option (List Bs) := few2C (sortB a0)
theorem Q83.f_ap (fu : Nat) (a0 : List Bs) : Ap (Q83.fc fu a0) (Q83.f a0) := fun r h => by
 unfold Q83.fc at h
 obtain ⟨h, hl⟩ := Q217 h
 obtain ⟨hb, hl2⟩ := sortB_eq h
 unfold Q83.f
 rw [if_pos (by omega), hb]
noncomputable def Q36.fc (fu : Nat) (a0 : List Q3) : Option (List Q3) := few2C (sortC (fun x y => Q96.f x.From x.Action x.To y.From y.Action y.To) a0)
theorem Q36.f_ap (fu : Nat) (a0 : List Q3) : Ap (Q36.fc fu a0) (Q36.f a0) := fun r h => by
 unfold Q36.fc at h
 obtain ⟨h, hl⟩ := Q217 h
 obtain ⟨hb, hl2⟩ := sort_tot (c := Q36.cmp) (fun x y => Ap.refl _) Q237 h
 unfold Q36.f
 rw [if_pos ⟨by omega, Q237⟩, hb]
noncomputable def Q39.fc (fu : Nat) (a0 : List Q4) : Option (List Q4) := soloC a0
theorem Q39.f_ap (fu : Nat) (a0 : List Q4) : Ap (Q39.fc fu a0) (Q39.f a0) := fun r h => by
 obtain ⟨rfl, h⟩ := solo_mem h
 rcases h with rfl | ⟨x, rfl⟩ <;> simp [Q39.f, byCmp, CmpParts, prop_swo]
noncomputable def Q26.fc (fu : Nat) (V : List Q1) (X : Option Q5) (q : Int) (u : List Bs) (x : List Q3) (D : List Q4) (G : List Q9) (I : List (Bs × Bool)) : Option ((List Q4) × (List Q3) × (List Bs) × Int) :=
 orderedP I (fun (t_ : (List Bs)) (z_ : Bs × Bool) => Q26.l0b  z_ t_) u (fun J => J) (fun (L : List Bs) =>
 (Q83.fc fu L).bind fun p =>
 jn (Q26.l1 G p x 0) (fun (M : List Q3) =>
 (Q36.fc fu M).bind fun O =>
 (Q39.fc fu D).bind fun U =>
 some (U, O, p, q)))
theorem Q26.f_ap (fu : Nat) (p : List Q1) (q : Option Q5) (u : Int) (x : List Bs) (D : List Q3) (G : List Q4) (I : List Q9) (J : List (Bs × Bool)) : Ap (Q26.fc fu p q u x D G I J) (Q26.f p q u x D G I J) := by
 unfold Q26.fc Q26.f
 repeat' with_reducible first | apply Q83.f_ap | apply Q36.f_ap | apply Q39.f_ap | apply Ap.jn | apply Ap.orderedP | apply Ap.bind | exact Ap.refl _ | intro
noncomputable def Q20.l0bc (fu : Nat) (D : (Option Q5) × (List Q1) × Int) (G : Option Q5) (q : List Q4) (u : List Q9) (x : List (Bs × Bool)) (M : List Q1) : Option (((Option Q5) × (List Q4) × (List Q9) × (List (Bs × Bool)) × (List Q1)) ⊕ (((Option Q5) × (List Q4) × (List Q9) × (List (Bs × Bool)) × (List Q1)) ⊕ ((Option Q5) × (List Bs) × (List Q3) × (List Q4) × Int))) :=
 if G.isNone = true then
 (Q50.f M G D.2.2 ([] : List Bs) ([] : List Q3) q u x).bind fun I =>
 if (0 : Int) ≤ 0 ∧ 0 < (I.length : Int) then
 if (gt I 0).Kind = 0 then
 dn (.inl (G, q, u, x, I))
 else
 (Q46.f I G D.2.2 ([] : List Bs) ([] : List Q3) q u x 2).bind fun p =>
 if p.1.isNone = true then
 if bseq p.2.2.2.2.1 ([101, 100, 103, 101] : Bs) = true then
 (Q129.f p.2.1 p.1 D.2.2 ([] : List Bs) ([] : List Q3) q u x p.2.2.1 p.2.2.2.1 p.2.2.2.2.1 p.2.2.2.2.2).bind fun J =>
 nx (J.2.2.1, q, J.1, J.2.1, J.2.2.2)
 else
 if bseq p.2.2.2.2.1 ([109, 97, 114, 107] : Bs) = true then
 (Q35.fc fu p.2.1 p.1 D.2.2 ([] : List Bs) ([] : List Q3) q u x).bind fun L =>
 nx (L.2.1, L.1, u, x, L.2.2)
 else
 (Q16.f p.2.1 p.1 D.2.2 ([] : List Bs) ([] : List Q3) q u x p.2.2.1 p.2.2.2.1 p.2.2.2.2.1 p.2.2.2.2.2 7).bind fun O =>
 nx (O, q, u, x, p.2.1)
 else
 nx (p.1, q, u, x, p.2.1)
 else none
 else
 dn (.inl (G, q, u, x, M))
theorem Q20.l0b_ap (fu : Nat) (p : (Option Q5) × (List Q1) × Int) (q : Option Q5) (u : List Q4) (x : List Q9) (D : List (Bs × Bool)) (G : List Q1) : Ap (Q20.l0bc fu p q u x D G) (Q20.l0b p q u x D G) := by
 unfold Q20.l0bc Q20.l0b
 repeat' with_reducible first | apply Q35.f_ap | exact Ap.none | apply Ap.ite | apply Ap.bind | exact Ap.refl _ | intro
noncomputable def Q20.l0c (fu : Nat) (p : (Option Q5) × (List Q1) × Int) (q : Option Q5) (u : List Q4) (x : List Q9) (D : List (Bs × Bool)) (G : List Q1) : Option (((Option Q5) × (List Q4) × (List Q9) × (List (Bs × Bool)) × (List Q1)) ⊕ ((Option Q5) × (List Bs) × (List Q3) × (List Q4) × Int)) := iterC fu (fun t_ : (Option Q5) × (List Q4) × (List Q9) × (List (Bs × Bool)) × (List Q1) => Q20.l0bc fu p t_.1 t_.2.1 t_.2.2.1 t_.2.2.2.1 t_.2.2.2.2) (q, u, x, D, G)
theorem Q20.l0_ap (fu : Nat) (p : (Option Q5) × (List Q1) × Int) (q : Option Q5) (u : List Q4) (x : List Q9) (D : List (Bs × Bool)) (G : List Q1) : Ap (Q20.l0c fu p q u x D G) (Q20.l0 p q u x D G) := by
 unfold Q20.l0c Q20.l0
 repeat' with_reducible first | apply Q20.l0b_ap | apply Ap.iter | exact Ap.refl _ | intro
noncomputable def Q20.fc (fu : Nat) (a0 : Bs) : Option ((Option Q5) × (List Bs) × (List Q3) × (List Q4) × Int) :=
 (Q61.f a0).bind fun u =>
 if u.1.isNone = true then
 (Q126.f u.2 (none : Option Q5) 0 ([] : List Bs) ([] : List Q3) ([] : List Q4) ([] : List Q9) ([] : List (Bs × Bool))).bind fun p =>
 jn (Q20.l0c fu p p.1 ([] : List Q4) ([] : List Q9) ([] : List (Bs × Bool)) p.2.1) (fun (s_ : (Option Q5) × (List Q4) × (List Q9) × (List (Bs × Bool)) × (List Q1)) =>
 if s_.1.isNone = true then
 (Q26.fc fu s_.2.2.2.2 s_.1 p.2.2 ([] : List Bs) ([] : List Q3) s_.2.1 s_.2.2.1 s_.2.2.2.1).bind fun q =>
 some (none, q.2.2.1, q.2.1, q.1, q.2.2.2)
 else
 some ((some (⟨(s_.1.getD default).At, (s_.1.getD default).Err⟩ : Q5)), ([] : List Bs), ([] : List Q3), ([] : List Q4), 0))
 else
 some (u.1, ([] : List Bs), ([] : List Q3), ([] : List Q4), 0)
theorem Q20.f_ap (fu : Nat) (a0 : Bs) : Ap (Q20.fc fu a0) (Q20.f a0) := by
 unfold Q20.fc Q20.f
 repeat' with_reducible first | apply Q20.l0_ap | apply Q26.f_ap | exact Ap.none | apply Ap.jn | apply Ap.ite | apply Ap.bind | exact Ap.refl _ | intro
noncomputable def Q77.fc (fu : Nat)  : Option Bool :=
 (Q20.fc fu ([115, 116, 97, 116, 101, 115, 32, 51, 10, 101, 100, 103, 101, 32, 48, 32, 97, 32, 49, 10, 101, 100, 103, 101, 32, 49, 32, 97, 32, 50, 10, 101, 100, 103, 101, 32, 50, 32, 97, 32, 50, 10, 101, 100, 103, 101, 32, 48, 32, 98, 32, 48, 10, 109, 97, 114, 107, 32, 112, 32, 50, 10] : Bs)).bind fun p =>
 (Q15.f p.2.2.2.2 p.2.1 p.2.2.1 p.2.2.2.1).bind fun q =>
 (Q130.f ([109, 117, 32, 88, 46, 32, 112, 32, 124, 32, 91, 45, 93, 88] : Bs)).bind fun x =>
 jn (
 if p.1.isNone = true then
 some (.inl (!x.1.isNone))
 else
 some (.inl true)) (fun (D : Bool) =>
 jn (
 if D = true then
 some (.inl true)
 else
 some (.inl q.isNone)) (fun (G : Bool) =>
 if G = true then
 some false
 else
 if q.isNone = false then
 (Q78.f ((q.getD default).states) ((q.getD default).holds) ((q.getD default).next) x.2).bind fun u =>
 jn (
 if u.1 = 0 then
 some (.inl (decide (u.2.1 = 6) && (decide (u.2.2.1 = 0) && (decide (u.2.2.2.1 = 0) && (decide (u.2.2.2.2 = 0) && true)))))
 else
 some (.inl false)) (fun (I : Bool) =>
 some I)
 else none))
theorem Q77.f_ap (fu : Nat)  : Ap (Q77.fc fu ) (Q77.f ) := by
 unfold Q77.fc Q77.f
 repeat' with_reducible first | apply Q20.f_ap | exact Ap.none | apply Ap.jn | apply Ap.ite | apply Ap.bind | exact Ap.refl _ | intro
theorem Q310 : Q77.f = some true := Q77.f_ap 100 _ (by kernel_rfl)
end Go.Bw
namespace Go.Bw
open Go Go.RowKit

abbrev PS := Int → Prop
def Leafy (k : Int) : Prop := k = 1 ∨ k = 2 ∨ k = 3 ∨ k = 4 ∨ k = 12
def Modal (k : Int) : Prop := k = 8 ∨ k = 9
def Fixy (k : Int) : Prop := k = 10 ∨ k = 11
def Twoy (k : Int) : Prop := k = 6 ∨ k = 7
inductive Sb (f : List Q2) : Int → Int → Prop
 | leaf {n : Int} (h0 : 0 ≤ n) (h1 : n < f.length) (hk : Leafy (gt f n).Kind) : Sb f n n
 | not {l n : Int} (h1 : n < f.length) (hk : (gt f n).Kind = 5) (ha : (gt f n).A = n - 1) (s : Sb f l (n - 1)) : Sb f l n
 | modal {l n : Int} (h1 : n < f.length) (hk : Modal (gt f n).Kind) (ha : (gt f n).A = n - 1) (s : Sb f l (n - 1)) : Sb f l n
 | fix {l n : Int} (h1 : n < f.length) (hk : Fixy (gt f n).Kind) (ha : (gt f n).A = n - 1) (s : Sb f l (n - 1)) : Sb f l n
 | two {l m n : Int} (h1 : n < f.length) (hk : Twoy (gt f n).Kind) (ha : (gt f n).A = m) (hb : (gt f n).B = n - 1) (s : Sb f l m) (t : Sb f (m + 1) (n - 1)) : Sb f l n
theorem Sb.le {f : List Q2} {l n : Int} (s : Sb f l n) : 0 ≤ l ∧ l ≤ n ∧ n < f.length := by
 induction s with
 | leaf h0 h1 hk => omega
 | not h1 hk ha s ih => omega
 | modal h1 hk ha s ih => omega
 | fix h1 hk ha s ih => omega
 | two h1 hk ha hb s t ih1 ih2 => omega
inductive Bd (f : List Q2) (to : List Int) : List (Int × Bool) → Int → Int → Prop
 | var {sc : List (Int × Bool)} {n : Int} (h0 : 0 ≤ n) (h1 : n < f.length) (hk : (gt f n).Kind = 4) (hs : (gt to n, true) ∈ sc) : Bd f to sc n n
 | leaf {sc : List (Int × Bool)} {n : Int} (h0 : 0 ≤ n) (h1 : n < f.length) (hk : Leafy (gt f n).Kind) (h4 : (gt f n).Kind ≠ 4) : Bd f to sc n n
 | not {sc : List (Int × Bool)} {l n : Int} (h1 : n < f.length) (hk : (gt f n).Kind = 5) (ha : (gt f n).A = n - 1) (s : Bd f to (sc.map fun p => (p.1, !p.2)) l (n - 1)) : Bd f to sc l n
 | modal {sc : List (Int × Bool)} {l n : Int} (h1 : n < f.length) (hk : Modal (gt f n).Kind) (ha : (gt f n).A = n - 1) (s : Bd f to sc l (n - 1)) : Bd f to sc l n
 | fix {sc : List (Int × Bool)} {l n : Int} (h1 : n < f.length) (hk : Fixy (gt f n).Kind) (ha : (gt f n).A = n - 1) (s : Bd f to ((n, true) :: sc) l (n - 1)) : Bd f to sc l n
 | two {sc : List (Int × Bool)} {l m n : Int} (h1 : n < f.length) (hk : Twoy (gt f n).Kind) (ha : (gt f n).A = m) (hb : (gt f n).B = n - 1) (s : Bd f to sc l m) (t : Bd f to sc (m + 1) (n - 1)) : Bd f to sc l n
theorem Bd.le {f : List Q2} {to : List Int} {sc : List (Int × Bool)} {l n : Int} (s : Bd f to sc l n) : 0 ≤ l ∧ l ≤ n ∧ n < f.length := by
 induction s with
 | var h0 h1 hk hs => omega
 | leaf h0 h1 hk h4 => omega
 | not h1 hk ha s ih => omega
 | modal h1 hk ha s ih => omega
 | fix h1 hk ha s ih => omega
 | two h1 hk ha hb s t ih1 ih2 => omega
structure Ctx where
 N : Int
 holds : Bs → PS
 edge : Bs → Int → Int → Prop
def Ctx.all (C : Ctx) : PS := fun s => 0 ≤ s ∧ s < C.N
structure Ctx.Ok (C : Ctx) : Prop where
 holds : ∀ a s, C.holds a s → C.all s
 edge : ∀ a s t, C.edge a s t → C.all s ∧ C.all t
def updE (E : Int → PS) (n : Int) (S : PS) : Int → PS := fun m => if m = n then S else E m
theorem Q150 (E : Int → PS) (n : Int) (S : PS) : updE E n S n = S := if_pos rfl
theorem Q155 {E : Int → PS} {n m : Int} {S : PS} (h : m ≠ n) : updE E n S m = E m := if_neg h
def Le (S T : PS) : Prop := ∀ s, S s → T s
def lfp (F : PS → PS) : PS := fun s => ∀ S : PS, Le (F S) S → S s
def gfp (F : PS → PS) : PS := fun s => ∃ S : PS, Le S (F S) ∧ S s
def den (C : Ctx) (f : List Q2) (to : List Int) (n : Int) (E : Int → PS) : PS :=
 if (gt f n).Kind = 1 then C.all
 else if (gt f n).Kind = 3 then C.holds (gt f n).Name
 else if (gt f n).Kind = 12 then fun s => C.all s ∧ ¬ C.holds (gt f n).Name s
 else if (gt f n).Kind = 4 then E (gt to n)
 else if h : 0 ≤ (gt f n).A ∧ (gt f n).A < n then
  if (gt f n).Kind = 5 then fun s => C.all s ∧ ¬ den C f to (gt f n).A E s
  else if (gt f n).Kind = 8 then fun s => ∃ t, C.edge (gt f n).Name s t ∧ den C f to (gt f n).A E t
  else if (gt f n).Kind = 9 then fun s => C.all s ∧ ∀ t, C.edge (gt f n).Name s t → den C f to (gt f n).A E t
  else if (gt f n).Kind = 10 then lfp fun S => den C f to (gt f n).A (updE E n S)
  else if (gt f n).Kind = 11 then gfp fun S s => C.all s ∧ den C f to (gt f n).A (updE E n S) s
  else if h2 : 0 ≤ (gt f n).B ∧ (gt f n).B < n then
   if (gt f n).Kind = 6 then fun s => den C f to (gt f n).A E s ∧ den C f to (gt f n).B E s
   else if (gt f n).Kind = 7 then fun s => den C f to (gt f n).A E s ∨ den C f to (gt f n).B E s
   else fun _ => False
  else fun _ => False
 else fun _ => False
termination_by n.toNat
decreasing_by all_goals omega
section
variable {C : Ctx} {f : List Q2} {to : List Int} {n : Int} {E : Int → PS}
theorem Q160 (hk : (gt f n).Kind = 1) : den C f to n E = C.all := by rw [den, if_pos hk]
theorem Q166 (hk : (gt f n).Kind = 2) : den C f to n E = fun _ => False := by
 rw [den, hk]
 simp
theorem Q173 (hk : (gt f n).Kind = 3) : den C f to n E = C.holds (gt f n).Name := by rw [den, hk]; simp
theorem Q159 (hk : (gt f n).Kind = 12) : den C f to n E = fun s => C.all s ∧ ¬ C.holds (gt f n).Name s := by rw [den, hk]; simp
theorem Q163 (hk : (gt f n).Kind = 4) : den C f to n E = E (gt to n) := by rw [den, hk]; simp
theorem Q164 (hk : (gt f n).Kind = 5) (ha : (gt f n).A = n - 1) (h : 0 ≤ n - 1) : den C f to n E = fun s => C.all s ∧ ¬ den C f to (n - 1) E s := by
 rw [den, hk, ha]
 simp [show 1 ≤ n by omega, show ¬ n ≤ n - 1 by omega]
theorem Q158 (hk : (gt f n).Kind = 8) (ha : (gt f n).A = n - 1) (h : 0 ≤ n - 1) : den C f to n E = fun s => ∃ t, C.edge (gt f n).Name s t ∧ den C f to (n - 1) E t := by
 rw [den, hk, ha]
 simp [show 1 ≤ n by omega, show ¬ n ≤ n - 1 by omega]
theorem Q161 (hk : (gt f n).Kind = 9) (ha : (gt f n).A = n - 1) (h : 0 ≤ n - 1) : den C f to n E = fun s => C.all s ∧ ∀ t, C.edge (gt f n).Name s t → den C f to (n - 1) E t := by
 rw [den, hk, ha]
 simp [show 1 ≤ n by omega, show ¬ n ≤ n - 1 by omega]
theorem Q171 (hk : (gt f n).Kind = 10) (ha : (gt f n).A = n - 1) (h : 0 ≤ n - 1) : den C f to n E = lfp fun S => den C f to (n - 1) (updE E n S) := by
 rw [den, hk, ha]
 simp [show 1 ≤ n by omega, show ¬ n ≤ n - 1 by omega]
theorem Q169 (hk : (gt f n).Kind = 11) (ha : (gt f n).A = n - 1) (h : 0 ≤ n - 1) : den C f to n E = gfp fun S s => C.all s ∧ den C f to (n - 1) (updE E n S) s := by
 rw [den, hk, ha]
 simp [show 1 ≤ n by omega, show ¬ n ≤ n - 1 by omega]
theorem Q168 {m : Int} (hk : (gt f n).Kind = 6) (ha : (gt f n).A = m) (hb : (gt f n).B = n - 1) (h : 0 ≤ m) (h2 : m < n) : den C f to n E = fun s => den C f to m E s ∧ den C f to (n - 1) E s := by
 rw [den, hk, ha, hb]
 simp [h, h2, show 1 ≤ n by omega, show ¬ n ≤ n - 1 by omega]
theorem Q167 {m : Int} (hk : (gt f n).Kind = 7) (ha : (gt f n).A = m) (hb : (gt f n).B = n - 1) (h : 0 ≤ m) (h2 : m < n) : den C f to n E = fun s => den C f to m E s ∨ den C f to (n - 1) E s := by
 rw [den, hk, ha, hb]
 simp [h, h2, show 1 ≤ n by omega, show ¬ n ≤ n - 1 by omega]
end
def Way (sc : List (Int × Bool)) (E E' : Int → PS) : Prop := ∀ p ∈ sc, if p.2 = true then Le (E p.1) (E' p.1) else Le (E' p.1) (E p.1)
theorem Way.flip {sc : List (Int × Bool)} {E E' : Int → PS} (h : Way sc E E') : Way (sc.map fun p => (p.1, !p.2)) E' E := fun p hp => by
 obtain ⟨q, hq, rfl⟩ := List.mem_map.1 hp
 have := h q hq
 cases hb : q.2 <;> simp [hb] at this ⊢ <;> exact this
theorem Way.cons {sc : List (Int × Bool)} {E E' : Int → PS} (h : Way sc E E') {n : Int} (hn : ∀ p ∈ sc, p.1 ≠ n) {S S' : PS} (hS : Le S S') : Way ((n, true) :: sc) (updE E n S) (updE E' n S') := fun p hp => by
 rcases List.mem_cons.1 hp with rfl | hp
 ·simp [Q150]
  exact hS
 ·rw [Q155 (hn p hp), Q155 (hn p hp)]
  exact h p hp
theorem Way.rfl (sc : List (Int × Bool)) (E : Int → PS) : Way sc E E := fun p _ => by split <;> exact fun _ h => h
theorem lfp_mono {F G : PS → PS} (h : ∀ S, Le (F S) (G S)) : Le (lfp F) (lfp G) := fun s hs S hS => hs S fun t ht => hS t (h S t ht)
theorem gfp_mono {F G : PS → PS} (h : ∀ S, Le (F S) (G S)) : Le (gfp F) (gfp G) := fun s ⟨S, hS, hs⟩ => ⟨S, fun t ht => h S t (hS t ht), hs⟩
theorem lfp_pre {F : PS → PS} (hF : ∀ S T, Le S T → Le (F S) (F T)) : Le (F (lfp F)) (lfp F) := fun s hs S hS => hS s (hF _ _ (fun t ht => ht S hS) s hs)
theorem Q273 {F : PS → PS} (hF : ∀ S T, Le S T → Le (F S) (F T)) : Le (gfp F) (F (gfp F)) := fun s ⟨S, hS, hs⟩ => hF _ _ (fun t ht => ⟨S, hS, ht⟩) s (hS s hs)
theorem Q187 {C : Ctx} {f : List Q2} {to : List Int} {sc : List (Int × Bool)} {l n : Int} (b : Bd f to sc l n) : ∀ {E E' : Int → PS}, (∀ p ∈ sc, n < p.1) → Way sc E E' → Le (den C f to n E) (den C f to n E') := by
 induction b with
 | @var sc n h0 h1 hk hs => intro E E' hn h; rw [Q163 hk, Q163 hk]; simpa using h _ hs
 | @leaf sc n h0 h1 hk h4 =>
  intro E E' hn h
  rcases hk with hk | hk | hk | hk | hk
  ·rw [Q160 hk, Q160 hk]; exact fun _ h => h
  ·rw [Q166 hk, Q166 hk]; exact fun _ h => h
  ·rw [Q173 hk, Q173 hk]; exact fun _ h => h
  ·exact absurd hk h4
  ·rw [Q159 hk, Q159 hk]; exact fun _ h => h
 | @not sc l n h1 hk ha s ih =>
  intro E E' hn h
  have := s.le
  rw [Q164 hk ha (by omega), Q164 hk ha (by omega)]
  exact fun s hs => ⟨hs.1, fun hd => hs.2 (ih (fun p hp => by obtain ⟨q, hq, rfl⟩ := List.mem_map.1 hp; have := hn q hq; dsimp only; omega) h.flip s hd)⟩
 | @modal sc l n h1 hk ha s ih =>
  intro E E' hn h
  have := s.le
  have ih := ih (fun p hp => by have := hn p hp; omega) h
  rcases hk with hk | hk
  ·rw [Q158 hk ha (by omega), Q158 hk ha (by omega)]
   exact fun s ⟨t, h1, h2⟩ => ⟨t, h1, ih t h2⟩
  ·rw [Q161 hk ha (by omega), Q161 hk ha (by omega)]
   exact fun s ⟨h0, h⟩ => ⟨h0, fun t ht => ih t (h t ht)⟩
 | @fix sc l n h1 hk ha s ih =>
  intro E E' hn h
  have := s.le
  have ih : ∀ S, Le (den C f to (n - 1) (updE E n S)) (den C f to (n - 1) (updE E' n S)) := fun S => ih (fun p hp => by
   rcases List.mem_cons.1 hp with rfl | hp
   ·dsimp only; omega
   ·have := hn p hp; omega) (h.cons (fun p hp => by have := hn p hp; omega) fun _ h => h)
  rcases hk with hk | hk
  ·rw [Q171 hk ha (by omega), Q171 hk ha (by omega)]
   exact lfp_mono ih
  ·rw [Q169 hk ha (by omega), Q169 hk ha (by omega)]
   exact gfp_mono fun S s hs => ⟨hs.1, ih S s hs.2⟩
 | @two sc l m n h1 hk ha hb s t ih1 ih2 =>
  intro E E' hn h
  have := s.le
  have := t.le
  have ih1 := ih1 (fun p hp => by have := hn p hp; omega) h
  have ih2 := ih2 (fun p hp => by have := hn p hp; omega) h
  rcases hk with hk | hk
  ·rw [Q168 hk ha hb (by omega) (by omega), Q168 hk ha hb (by omega) (by omega)]
   exact fun s hs => ⟨ih1 s hs.1, ih2 s hs.2⟩
  ·rw [Q167 hk ha hb (by omega) (by omega), Q167 hk ha hb (by omega) (by omega)]
   exact fun s hs => hs.imp (ih1 s) (ih2 s)
theorem Q223 {C : Ctx} {f : List Q2} {to : List Int} {sc : List (Int × Bool)} {l n : Int} (b : Bd f to sc l n) {E E' : Int → PS} (hn : ∀ p ∈ sc, n < p.1) (h : ∀ p ∈ sc, E p.1 = E' p.1) : den C f to n E = den C f to n E' := by
 funext s
 refine propext ⟨Q187 b hn (fun p hp => ?_) s, Q187 b hn (fun p hp => ?_) s⟩ <;> rw [h p hp] <;> split <;> exact fun _ h => h
theorem den_in {C : Ctx} (hC : C.Ok) {f : List Q2} {to : List Int} {sc : List (Int × Bool)} {l n : Int} (b : Bd f to sc l n) : ∀ {E : Int → PS}, (∀ p ∈ sc, Le (E p.1) C.all) → (∀ p ∈ sc, n < p.1) → Le (den C f to n E) C.all := by
 induction b with
 | @var sc n h0 h1 hk hs => intro E h hn; rw [Q163 hk]; exact h _ hs
 | @leaf sc n h0 h1 hk h4 =>
  intro E h hn
  rcases hk with hk | hk | hk | hk | hk
  ·rw [Q160 hk]; exact fun _ h => h
  ·rw [Q166 hk]; exact fun _ h => h.elim
  ·rw [Q173 hk]; exact fun _ h => hC.holds _ _ h
  ·exact absurd hk h4
  ·rw [Q159 hk]; exact fun _ h => h.1
 | @not sc l n h1 hk ha s ih =>
  intro E h hn
  have := s.le
  rw [Q164 hk ha (by omega)]
  exact fun _ h => h.1
 | @modal sc l n h1 hk ha s ih =>
  intro E h hn
  have := s.le
  rcases hk with hk | hk
  ·rw [Q158 hk ha (by omega)]
   exact fun s ⟨t, h1, h2⟩ => (hC.edge _ _ _ h1).1
  ·rw [Q161 hk ha (by omega)]
   exact fun s h => h.1
 | @fix sc l n h1 hk ha s ih =>
  intro E h hn
  have := s.le
  rcases hk with hk | hk
  ·rw [Q171 hk ha (by omega)]
   refine fun s hs => hs C.all (ih (fun p hp => ?_) fun p hp => ?_)
   ·rcases List.mem_cons.1 hp with rfl | hp
    ·rw [Q150]; exact fun _ h => h
    ·rw [Q155 (by have := hn p hp; omega)]; exact h p hp
   ·rcases List.mem_cons.1 hp with rfl | hp
    ·dsimp only; omega
    ·have := hn p hp; omega
  ·rw [Q169 hk ha (by omega)]
   exact fun s ⟨S, hS, hs⟩ => (hS s hs).1
 | @two sc l m n h1 hk ha hb s t ih1 ih2 =>
  intro E h hn
  have := s.le
  have := t.le
  rcases hk with hk | hk
  ·rw [Q168 hk ha hb (by omega) (by omega)]
   exact fun s hs => ih1 h (fun p hp => by have := hn p hp; omega) s hs.1
  ·rw [Q167 hk ha hb (by omega) (by omega)]
   exact fun s hs => hs.elim (ih1 h (fun p hp => by have := hn p hp; omega) s) (ih2 h (fun p hp => by have := hn p hp; omega) s)
end Go.Bw
namespace Go.Bw
open Go Go.RowKit

theorem Q65 {σ ρ : Type} {body : σ → Option (σ ⊕ ρ)} (I : σ → Prop) (Q : ρ → Prop) (μ : σ → Nat) (h : ∀ s, I s → (∃ r, body s = some (.inr r) ∧ Q r) ∨ ∃ s', body s = some (.inl s') ∧ I s' ∧ μ s' < μ s) :
 ∀ s, I s → ∃ r, iter body s = some r ∧ Q r := by
 have key : ∀ n s, μ s < n → I s → ∃ r, iter body s = some r ∧ Q r := by
  intro n
  induction n with
  | zero => intro s hn; omega
  | succ n ih =>
   intro s hn hI
   rw [Q84]
   rcases h s hI with ⟨r, hr, hq⟩ | ⟨s', hs, hI', hlt⟩
   ·exact ⟨r, by rw [hr]; rfl, hq⟩
   ·obtain ⟨r, hr, hq⟩ := ih s' (by omega) hI'
    exact ⟨r, by rw [hs]; exact hr, hq⟩
 exact fun s hI => key _ s (Nat.lt_succ_self _) hI
theorem wrap64 {x : Int} (h0 : -9223372036854775808 ≤ x) (h1 : x ≤ 9223372036854775807) : IntKind.i64.wrap x = x := by
 simp [IntKind.wrap, IntKind.bits, IntKind.signed]
 omega
section
variable {α : Type} [Inhabited α]
theorem Q87 (xs : List α) (i : Int) (x : α) : (st xs i x).length = xs.length := by simp [st]
theorem Q80 {xs : List α} {i j : Int} {x : α} (hi : 0 ≤ i) (hi' : i < (xs.length : Int)) (hj : 0 ≤ j) : gt (st xs i x) j = if j = i then x else gt xs j := by
 unfold gt st
 rw [List.getD_eq_getElem?_getD, List.getD_eq_getElem?_getD, List.getElem?_set]
 by_cases h : j = i
 ·subst h
  have : j.toNat < xs.length := by omega
  simp [this]
 ·have : ¬ i.toNat = j.toNat := by omega
  simp [this, h]
theorem Q101 {xs : List α} {i : Int} (h0 : 0 ≤ i) (h1 : i < (xs.length : Int)) : gt xs i ∈ xs := List.mem_of_getElem? (Q117 h0 h1)
theorem Q147 {xs : List α} {i : Nat} {x : α} (h : xs[i]? = some x) : gt xs (i : Int) = x := by
 unfold gt
 simp [List.getD_eq_getElem?_getD, h]
end
end Go.Bw
namespace Go.Bw
open Go Go.RowKit

theorem up_loop {ρ : Type} {body : Int → Option (Int ⊕ ρ)} {N : Int} {Q : ρ → Prop} (hN : N ≤ 9223372036854775807) (k0 : Int) (h0 : -9223372036854775808 ≤ k0) (h : ∀ i, k0 ≤ i → (∃ r, body i = some (.inr r) ∧ Q r) ∨ i < N ∧ body i = some (.inl (IntKind.i64.wrap (i + 1)))) :
 ∃ r, iter body k0 = some r ∧ Q r := by
 refine Q65 (fun i => k0 ≤ i) Q (fun i => (N - i).toNat) (fun i hi => ?_) k0 (Int.le_refl _)
 rcases h i hi with h | ⟨h1, h2⟩
 ·exact .inl h
 ·right
  rw [wrap64 (by omega) (by omega)] at h2
  exact ⟨_, h2, by omega, by omega⟩
theorem jn_true {x : Option (Unit ⊕ Bool)} (h : ∃ r, x = some r ∧ True) : ∃ b, jn x (fun _ => some true) = some b := by
 obtain ⟨r, rfl, _⟩ := h
 cases r <;> exact ⟨_, rfl⟩
theorem jn_int {x : Option (Unit ⊕ Int)} (h : ∃ r, x = some r ∧ True) : ∃ b, jn x (fun _ => some (-1)) = some b := by
 obtain ⟨r, rfl, _⟩ := h
 cases r <;> exact ⟨_, rfl⟩
theorem in_run (a n : Int) (x : List Bs) (y : List Q3) (z : List Q4) : Q73.f a n x y z = some (decide (0 ≤ a ∧ a < n)) := by
 unfold Q73.f
 by_cases h : 0 ≤ a <;> simp [h, jn]
theorem Q143 {σ ρ : Type} {x : Option (σ ⊕ ρ)} {f : σ → Option ρ} (hx : ∃ t, x = some t) (hf : ∀ s, ∃ r, f s = some r) : ∃ r, jn x f = some r := by
 obtain ⟨t, rfl⟩ := hx
 cases t with
 | inl s => exact hf s
 | inr r => exact ⟨r, rfl⟩
theorem rune_name (r : Int) : ∃ b, Q104.f r = some b := by
 unfold Q104.f
 repeat' first
  | exact ⟨_, rfl⟩
  | refine Q143 ?_ fun _ => ?_
  | split
def EdgeIn (n : Int) (m : Nat) (e : Q3) : Prop := 0 ≤ e.From ∧ e.From < n ∧ 0 ≤ e.To ∧ e.To < n ∧ 0 ≤ e.Action ∧ e.Action < (m : Int)
end Go.Bw
namespace Go.Bw
open Go Go.RowKit

theorem Q165 {ρ : Type} {body : Int → Option (Int ⊕ (Unit ⊕ ρ))} {N : Int} {p : Int → Prop} {bad : ρ} (hN : N ≤ 9223372036854775807) (k0 : Int) (h0 : 0 ≤ k0)
 (h : ∀ i, k0 ≤ i → i < N → (p i ∧ body i = some (.inl (IntKind.i64.wrap (i + 1)))) ∨ (¬ p i ∧ body i = some (.inr (.inr bad)))) (he : ∀ i, ¬ i < N → body i = some (.inr (.inl ()))) :
 (iter body k0 = some (.inl ()) ∧ ∀ i, k0 ≤ i → i < N → p i) ∨ (iter body k0 = some (.inr bad) ∧ ∃ i, k0 ≤ i ∧ i < N ∧ ¬ p i) := by
 obtain ⟨r, hr, hq⟩ := Q65 (body := body) (fun i => k0 ≤ i ∧ ∀ j, k0 ≤ j → j < i → p j) (fun r => (r = .inl () ∧ ∀ i, k0 ≤ i → i < N → p i) ∨ (r = .inr bad ∧ ∃ i, k0 ≤ i ∧ i < N ∧ ¬ p i)) (fun i => (N - i).toNat) (fun i ⟨h1, h2⟩ => by
  by_cases hi : i < N
  ·rcases h i h1 hi with ⟨hp, hb⟩ | ⟨hp, hb⟩
   ·right
    rw [wrap64 (by omega) (by omega)] at hb
    refine ⟨_, hb, ⟨by omega, fun j j0 j1 => ?_⟩, by omega⟩
    by_cases hj : j = i
    ·subst hj; exact hp
    ·exact h2 j j0 (by omega)
   ·left; exact ⟨_, hb, .inr ⟨rfl, i, h1, hi, hp⟩⟩
  ·left; exact ⟨_, he i hi, .inl ⟨rfl, fun j j0 j1 => h2 j j0 (by omega)⟩⟩) k0 ⟨Int.le_refl _, fun j j0 j1 => by omega⟩
 rcases hq with ⟨rfl, hq⟩ | ⟨rfl, hq⟩
 ·exact .inl ⟨hr, hq⟩
 ·exact .inr ⟨hr, hq⟩
def OkB (c : Int) : Prop := 97 ≤ c ∧ c ≤ 122 ∨ 65 ≤ c ∧ c ≤ 90 ∨ 48 ≤ c ∧ c ≤ 57 ∨ c = 95
theorem rune_run (r : Int) : ∃ b, Q104.f r = some b ∧ (b = true ↔ ¬ OkB r) := by
 obtain ⟨b, hb⟩ := rune_name r
 refine ⟨b, hb, ?_⟩
 unfold Q104.f at hb
 unfold OkB
 by_cases h1 : 97 ≤ r <;> by_cases h2 : 65 ≤ r <;> by_cases h3 : 48 ≤ r <;> simp [h1, h2, h3, jn] at hb <;> (try omega) <;>
  (by_cases h4 : r ≤ 122 <;> by_cases h5 : r ≤ 90 <;> by_cases h6 : r ≤ 57 <;> by_cases h7 : r = 95 <;> simp [h4, h5, h6, h7] at hb <;> first | omega | (subst hb; simp; omega))
theorem rune_low {s : Bs} {k : Nat} (hk : k < s.length) (h : bat s k < 128) : runeAt s k = bat s k ∧ runeLen s k = 1 := by
 have hg : ((ByteArray.mk s.toArray).get! k).toNat = (s.getD k 0).toNat := by
  simp [ByteArray.get!, List.getD_eq_getElem?_getD, hk]
 have h' : (s.getD k 0).toNat < 128 := by
  have : bat s k = ((s.getD k 0).toNat : Int) := by simp [bat]
  omega
 unfold runeAt runeLen Utf8.decode
 simp only [Nat.add_zero, hg, if_pos (show (s.getD k 0).toNat < 0x80 from h')]
 simp [bat]
theorem rune_high {s : Bs} {k : Nat} (hk : k < s.length) (h : 128 ≤ bat s k) : 128 ≤ runeAt s k := by
 have hg : ((ByteArray.mk s.toArray).get! k).toNat = (s.getD k 0).toNat := by
  simp [ByteArray.get!, List.getD_eq_getElem?_getD, hk]
 have h' : ¬ (s.getD k 0).toNat < 0x80 := by
  have : bat s k = ((s.getD k 0).toNat : Int) := by simp [bat]
  omega
 unfold runeAt Utf8.decode
 simp only [Nat.add_zero, hg, if_neg h']
 have e : (Utf8.runeError : Nat) = 65533 := rfl
 repeat' split
 all_goals try dsimp only
 all_goals first
  | omega
  | (rename_i hc; simp only [Bool.and_eq_true, decide_eq_true_eq] at hc; omega)
  | (rw [e]; omega)
theorem okB_low {c : Int} (h : OkB c) : c < 128 := by unfold OkB at h; omega
def NameS (s : Bs) : Prop := 1 ≤ s.length ∧ s.length ≤ 8 ∧ 97 ≤ bat s 0 ∧ bat s 0 ≤ 122 ∧ s ≠ [116, 116] ∧ s ≠ [102, 102] ∧ s ≠ [109, 117] ∧ s ≠ [110, 117] ∧ ∀ i : Int, 0 ≤ i → i < (s.length : Int) → OkB (bat s i)
theorem Q314 (s : Bs) : ∃ b, Q120.f s = some b ∧ (b = true ↔ ¬ ∀ i : Int, 0 ≤ i → i < (s.length : Int) → OkB (bat s i)) := by
 obtain ⟨r, hr, hq⟩ := Q65 (body := fun t_ : Nat => Q56.l0b s true t_) (fun k => ∀ i : Int, 0 ≤ i → i < (k : Int) → i < (s.length : Int) → OkB (bat s i))
  (fun r => (∃ k, r = .inl k ∧ ∀ i : Int, 0 ≤ i → i < (s.length : Int) → OkB (bat s i)) ∨ ∃ k : Nat, r = .inr (k : Int) ∧ ¬ ∀ i : Int, 0 ≤ i → i < (s.length : Int) → OkB (bat s i)) (fun k => s.length - k) (fun k hI => by
   unfold Q56.l0b
   by_cases hk : k < s.length
   ·obtain ⟨b, hb, hb2⟩ := rune_run (runeAt s k)
    rw [if_pos hk, hb]
    simp only [Option.bind_some]
    by_cases hl : bat s k < 128
    ·obtain ⟨e1, e2⟩ := rune_low hk hl
     rw [e1] at hb2
     rw [e2]
     cases b with
     | true =>
      left
      refine ⟨_, rfl, .inr ⟨k, rfl, fun hall => hb2.1 rfl (hall k (by omega) (by omega))⟩⟩
     | false =>
      right
      have hok : OkB (bat s k) := Classical.not_not.1 fun h => by have := hb2.2 h; cases this
      refine ⟨_, rfl, fun i i0 i1 i2 => ?_, by omega⟩
      by_cases hi : i = (k : Int)
      ·subst hi; exact hok
      ·exact hI i i0 (by omega) i2
    ·have hh := rune_high hk (by omega)
     have hbt : b = true := hb2.2 fun h => by have := okB_low h; omega
     subst hbt
     left
     exact ⟨_, rfl, .inr ⟨k, rfl, fun hall => by have := okB_low (hall k (by omega) (by omega)); omega⟩⟩
   ·left; rw [if_neg hk]; exact ⟨_, rfl, .inl ⟨k, rfl, fun i i0 i1 => hI i i0 (by omega) i1⟩⟩) 0 (fun i i0 i1 => by omega)
 unfold Q120.f Q128.f Q56.f Q56.l0
 rw [hr]
 rcases hq with ⟨k, rfl, hq⟩ | ⟨k, rfl, hq⟩
 ·exact ⟨false, rfl, by simp; exact hq⟩
 ·exact ⟨true, by simp [jn], by simp only [true_iff]; exact hq⟩
end Go.Bw
namespace Go.Bw
open Go Go.RowKit

theorem Q179 {x : Option (Unit ⊕ Bool)} {p : Prop} (h : (x = some (.inl ()) ∧ p) ∨ (x = some (.inr false) ∧ ¬ p)) : ∃ b, jn x (fun _ => some true) = some b ∧ (b = true ↔ p) := by
 rcases h with ⟨rfl, h⟩ | ⟨rfl, h⟩
 ·exact ⟨true, rfl, by simp [h]⟩
 ·exact ⟨false, rfl, by simp [h]⟩
theorem Q255 (s : Bs) : ∃ b, Q82.f s = some b ∧ (b = true ↔ NameS s) := by
 obtain ⟨c, hc, hc2⟩ := Q314 s
 unfold Q82.f NameS
 by_cases h1 : (s.length : Int) < 1
 ·exact ⟨false, by simp [h1, jn], by simp; omega⟩
 by_cases h2 : 8 < (s.length : Int)
 ·exact ⟨false, by simp [h1, h2, jn], by simp; omega⟩
 have h0 : (0 : Int) ≤ 0 ∧ 0 < (s.length : Int) := by omega
 simp only [if_neg h1, Q14, decide_eq_false h2, Bool.false_eq_true, if_false, if_pos h0]
 by_cases h3 : bat s 0 < 97
 ·exact ⟨false, by simp [h3, jn], by simp; omega⟩
 by_cases h4 : 122 < bat s 0
 ·exact ⟨false, by simp [h3, h4, jn], by simp; omega⟩
 simp only [decide_eq_false h3, decide_eq_false h4, Bool.false_eq_true, if_false, Q14, Q153, hc, Option.bind_some]
 by_cases k1 : s = [116, 116]
 ·exact ⟨false, by simp [k1], by simp [k1]⟩
 by_cases k2 : s = [102, 102]
 ·exact ⟨false, by simp [k2], by simp [k2]⟩
 by_cases k3 : s = [109, 117]
 ·exact ⟨false, by simp [k3], by simp [k3]⟩
 by_cases k4 : s = [110, 117]
 ·exact ⟨false, by simp [k4], by simp [k4]⟩
 refine ⟨!c, by simp [k1, k2, k3, k4], ?_⟩
 have hc3 : (!c) = true ↔ ∀ i : Int, 0 ≤ i → i < (s.length : Int) → OkB (bat s i) := by
  cases c with
  | true => simp only [Bool.not_true, Bool.false_eq_true, false_iff]; exact hc2.1 rfl
  | false =>
   simp only [Bool.not_false, true_iff]
   exact Classical.not_not.1 fun h => by have := hc2.2 h; cases this
 rw [hc3]
 exact ⟨fun h => ⟨by omega, by omega, by omega, by omega, k1, k2, k3, k4, h⟩, fun h => h.2.2.2.2.2.2.2.2⟩
def Rise {α : Type} [Inhabited α] (lt : α → α → Prop) (a : List α) : Prop := ∀ i : Int, 1 ≤ i → i < (a.length : Int) → lt (gt a (i - 1)) (gt a i)
theorem Q285 (a : List Int) (ha : (a.length : Int) ≤ 9223372036854775807) : ∃ b, Q54.f a = some b ∧ (b = true ↔ Rise (· < ·) a) := by
 refine Q179 ?_
 rcases Q165 (body := fun t_ : Int => Q54.l0b a t_) (N := a.length) (p := fun i => gt a (i - 1) < gt a i) (bad := false) ha 1 (by decide) (fun i h0 h1 => by
  simp only [Q54.l0b]
  rw [if_pos h1, wrap64 (x := i - 1) (by omega) (by omega), if_pos (by omega), if_pos (by omega), Q235]
  simp only [Option.bind_some]
  by_cases hp : gt a (i - 1) < gt a i
  ·left; rw [if_neg (by have := Q170.2 hp; omega)]; exact ⟨hp, rfl⟩
  ·right; rw [if_pos (by have : ¬ cmp3 (gt a (i - 1)) (gt a i) < 0 := fun h => hp (Q170.1 h); omega)]; exact ⟨hp, rfl⟩) (fun i h => by simp only [Q54.l0b]; rw [if_neg h]; rfl) with ⟨h, q⟩ | ⟨h, i, i0, i1, i2⟩
 ·exact .inl ⟨h, q⟩
 ·exact .inr ⟨h, fun hr => i2 (hr i i0 i1)⟩
def BLt (x y : Bs) : Prop := Lib.compareBytes x y < 0
theorem Q296 (a : List Bs) (ha : (a.length : Int) ≤ 9223372036854775807) : ∃ b, Q55.f a = some b ∧ (b = true ↔ Rise BLt a) := by
 refine Q179 ?_
 rcases Q165 (body := fun t_ : Int => Q55.l0b a t_) (N := a.length) (p := fun i => BLt (gt a (i - 1)) (gt a i)) (bad := false) ha 1 (by decide) (fun i h0 h1 => by
  simp only [Q55.l0b]
  rw [if_pos h1, wrap64 (x := i - 1) (by omega) (by omega), if_pos (by omega), if_pos (by omega)]
  simp only [Q99.f, Q122.f, Option.bind_some]
  by_cases hp : BLt (gt a (i - 1)) (gt a i)
  ·left; rw [if_neg (by unfold BLt at hp; omega)]; exact ⟨hp, rfl⟩
  ·right; rw [if_pos (by unfold BLt at hp; omega)]; exact ⟨hp, rfl⟩) (fun i h => by simp only [Q55.l0b]; rw [if_neg h]; rfl) with ⟨h, q⟩ | ⟨h, i, i0, i1, i2⟩
 ·exact .inl ⟨h, q⟩
 ·exact .inr ⟨h, fun hr => i2 (hr i i0 i1)⟩
theorem Q283 (a : List Q4) (ha : (a.length : Int) ≤ 9223372036854775807) : ∃ b, Q59.f a = some b ∧ (b = true ↔ Rise (fun p q => BLt p.Name q.Name) a) := by
 refine Q179 ?_
 rcases Q165 (body := fun t_ : Int => Q59.l0b a t_) (N := a.length) (p := fun i => BLt (gt a (i - 1)).Name (gt a i).Name) (bad := false) ha 1 (by decide) (fun i h0 h1 => by
  simp only [Q59.l0b]
  rw [if_pos h1, wrap64 (x := i - 1) (by omega) (by omega), if_pos (by omega), if_pos (by omega)]
  simp only [Q107.f, Q99.f, Q122.f, Option.bind_some]
  by_cases hp : BLt (gt a (i - 1)).Name (gt a i).Name
  ·left; rw [if_neg (by unfold BLt at hp; omega)]; exact ⟨hp, rfl⟩
  ·right; rw [if_pos (by unfold BLt at hp; omega)]; exact ⟨hp, rfl⟩) (fun i h => by simp only [Q59.l0b]; rw [if_neg h]; rfl) with ⟨h, q⟩ | ⟨h, i, i0, i1, i2⟩
 ·exact .inl ⟨h, q⟩
 ·exact .inr ⟨h, fun hr => i2 (hr i i0 i1)⟩
theorem Q287 (a : List Q3) (ha : (a.length : Int) ≤ 9223372036854775807) : ∃ b, Q58.f a = some b ∧ (b = true ↔ Rise edgeLt a) := by
 refine Q179 ?_
 rcases Q165 (body := fun t_ : Int => Q58.l0b a t_) (N := a.length) (p := fun i => edgeLt (gt a (i - 1)) (gt a i)) (bad := false) ha 1 (by decide) (fun i h0 h1 => by
  simp only [Q58.l0b]
  rw [if_pos h1, wrap64 (x := i - 1) (by omega) (by omega), if_pos (by omega), if_pos (by omega), Q250]
  simp only [Option.bind_some]
  by_cases hp : edgeLt (gt a (i - 1)) (gt a i)
  ·left; rw [if_neg (by have := Q200.2 hp; omega)]; exact ⟨hp, rfl⟩
  ·right; rw [if_pos (by have : ¬ edgeCmp (gt a (i - 1)) (gt a i) < 0 := fun h => hp (Q200.1 h); omega)]; exact ⟨hp, rfl⟩) (fun i h => by simp only [Q58.l0b]; rw [if_neg h]; rfl) with ⟨h, q⟩ | ⟨h, i, i0, i1, i2⟩
 ·exact .inl ⟨h, q⟩
 ·exact .inr ⟨h, fun hr => i2 (hr i i0 i1)⟩
end Go.Bw
namespace Go.Bw
open Go Go.RowKit

theorem names_iff (a : List Bs) (ha : (a.length : Int) ≤ 9223372036854775807) : ∃ b, Q123.f a = some b ∧ (b = true ↔ ¬ ∀ s ∈ a, NameS s) := by
 -- all that is passed is a name
 have key := Q65 (body := fun t_ : Int => Q57.l0b a t_) (fun i => 0 ≤ i ∧ ∀ j : Int, 0 ≤ j → j < i → j < (a.length : Int) → NameS (gt a j)) (fun r => r = .inl () ∧ (∀ s ∈ a, NameS s) ∨ ∃ k : Int, 0 ≤ k ∧ r = .inr k ∧ ¬ ∀ s ∈ a, NameS s) (fun i => ((a.length : Int) - i).toNat) (fun i ⟨h0, h2⟩ => by
  unfold Q57.l0b Q125.f
  by_cases h1 : i < (a.length : Int)
  ·obtain ⟨c, hc, hc2⟩ := Q255 (gt a i)
   rw [if_pos h1, if_pos ⟨h0, h1⟩, hc]
   simp only [Option.bind_some]
   cases c with
   | true =>
    right
    rw [wrap64 (x := i + 1) (by omega) (by omega)]
    refine ⟨_, rfl, ⟨by omega, fun j j0 j1 j2 => ?_⟩, by omega⟩
    by_cases hj : j = i
    ·subst hj; exact hc2.1 rfl
    ·exact h2 j j0 (by omega) j2
   | false => left; exact ⟨_, rfl, .inr ⟨i, h0, rfl, fun h => by have := hc2.2 (h _ (Q101 h0 h1)); cases this⟩⟩
  ·left; rw [if_neg h1]
   refine ⟨_, rfl, .inl ⟨rfl, fun s hs => ?_⟩⟩
   obtain ⟨k, hk, rfl⟩ := List.getElem_of_mem hs
   have := h2 k (by omega) (by omega) (by omega)
   rwa [Q147 (List.getElem?_eq_getElem hk)] at this) 0 ⟨Int.le_refl _, fun j j0 j1 => by omega⟩
 obtain ⟨r', hr', hq'⟩ := key
 unfold Q123.f Q57.f Q57.l0
 rw [hr']
 rcases hq' with ⟨rfl, h⟩ | ⟨k, k0, rfl, h⟩
 ·exact ⟨false, rfl, by simp; exact h⟩
 ·exact ⟨true, by simp [jn, k0], by simp only [true_iff]; exact h⟩
def StatesS (n : Int) (a : List Int) : Prop := (∀ s ∈ a, 0 ≤ s ∧ s < n) ∧ Rise (· < ·) a
theorem inS_iff (a : List Int) (n : Int) (x : List Bs) (y : List Q3) (z : List Q4) (ha : (a.length : Int) ≤ 9223372036854775807) : ∃ b, Q116.f a n x y z = some b ∧ (b = true ↔ ¬ ∀ s ∈ a, 0 ≤ s ∧ s < n) := by
 have key := Q65 (body := fun t_ : Int => Q62.l0b a n x y z t_) (fun i => 0 ≤ i ∧ ∀ j : Int, 0 ≤ j → j < i → j < (a.length : Int) → 0 ≤ gt a j ∧ gt a j < n) (fun r => r = .inl () ∧ (∀ s ∈ a, 0 ≤ s ∧ s < n) ∨ ∃ k : Int, 0 ≤ k ∧ r = .inr k ∧ ¬ ∀ s ∈ a, 0 ≤ s ∧ s < n) (fun i => ((a.length : Int) - i).toNat) (fun i ⟨h0, h2⟩ => by
  unfold Q62.l0b Q135.f
  by_cases h1 : i < (a.length : Int)
  ·rw [if_pos h1, if_pos ⟨h0, h1⟩, in_run]
   simp only [Option.bind_some]
   by_cases hp : 0 ≤ gt a i ∧ gt a i < n
   ·right
    rw [wrap64 (x := i + 1) (by omega) (by omega)]
    refine ⟨i + 1, by simp [hp, nx], ⟨by omega, fun j j0 j1 j2 => ?_⟩, by omega⟩
    by_cases hj : j = i
    ·subst hj; exact hp
    ·exact h2 j j0 (by omega) j2
   ·left; exact ⟨.inr i, by simp [hp, upL], .inr ⟨i, h0, rfl, fun h => hp (h _ (Q101 h0 h1))⟩⟩
  ·left; rw [if_neg h1]
   refine ⟨_, rfl, .inl ⟨rfl, fun s hs => ?_⟩⟩
   obtain ⟨k, hk, rfl⟩ := List.getElem_of_mem hs
   have := h2 k (by omega) (by omega) (by omega)
   rwa [Q147 (List.getElem?_eq_getElem hk)] at this) 0 ⟨Int.le_refl _, fun j j0 j1 => by omega⟩
 obtain ⟨r', hr', hq'⟩ := key
 unfold Q116.f Q62.f Q62.l0
 rw [hr']
 rcases hq' with ⟨rfl, h⟩ | ⟨k, k0, rfl, h⟩
 ·exact ⟨false, rfl, by simp; exact h⟩
 ·exact ⟨true, by simp [jn, k0], by simp only [true_iff]; exact h⟩
end Go.Bw
namespace Go.Bw
open Go Go.RowKit

def W8 (v : BitVec 8) : Int := (v.toNat : Int)
theorem Q189 (v : BitVec 8) : BitVec.ofInt 8 (W8 v) = v := by
 unfold W8
 apply BitVec.eq_of_toNat_eq
 simp
theorem W8.inj {u v : BitVec 8} (h : W8 u = W8 v) : u = v := by rw [← Q189 u, h, Q189]
theorem wrap8 {x : Int} (h0 : 0 ≤ x) (h1 : x < 256) : IntKind.u8.wrap x = x := by
 simp [IntKind.wrap, IntKind.bits, IntKind.signed]
 omega
theorem wrap_w8 (v : BitVec 8) : IntKind.u8.wrap (v.toNat : Int) = W8 v := by
 have := v.isLt
 exact wrap8 (by omega) (by omega)
theorem bor_w8 (u v : BitVec 8) : bor .u8 (W8 u) (W8 v) = W8 (u ||| v) := by
 show IntKind.u8.wrap ((BitVec.ofInt 8 (W8 u) ||| BitVec.ofInt 8 (W8 v)).toNat : Int) = _
 rw [Q189, Q189, wrap_w8]
theorem shl8 {k : Int} (h0 : 0 ≤ k) (h1 : k < 8) : Bw.shl .u8 1 k = W8 (BitVec.twoPow 8 k.toNat) := by
 obtain ⟨m, rfl⟩ := Int.eq_ofNat_of_zero_le h0
 have hm : m < 8 := by omega
 match m, hm with
 | 0, _ => rfl
 | 1, _ => rfl
 | 2, _ => rfl
 | 3, _ => rfl
 | 4, _ => rfl
 | 5, _ => rfl
 | 6, _ => rfl
 | 7, _ => rfl
def full8 (m : Nat) : BitVec 8 := BitVec.allOnes 8 >>> (8 - m)
theorem full_run {m : Nat} (hm : m ≤ 8) : IntKind.u8.wrap (Bw.shl .u8 1 (m : Int) - 1) = W8 (full8 m) := by
 match m, hm with
 | 0, _ => rfl
 | 1, _ => rfl
 | 2, _ => rfl
 | 3, _ => rfl
 | 4, _ => rfl
 | 5, _ => rfl
 | 6, _ => rfl
 | 7, _ => rfl
 | 8, _ => rfl
theorem Q252 {m k : Nat} (hm : m ≤ 8) (hk : k < 8) : (full8 m).getLsbD k = decide (k < m) := by
 unfold full8
 rw [BitVec.getLsbD_ushiftRight, BitVec.getLsbD_allOnes]
 rw [decide_eq_decide]
 omega
def UsedS (m : Nat) (y : List Q3) : Prop := ∀ k : Int, 0 ≤ k → k < (m : Int) → ∃ e ∈ y, e.Action = k
def Mask (v : BitVec 8) (y : List Q3) : Prop := ∀ k : Nat, k < 8 → (v.getLsbD k = true ↔ ∃ e ∈ y, e.Action = (k : Int))
theorem Q234 {v : BitVec 8} {y : List Q3} {n : Int} {m : Nat} (hv : Mask v y) (hm : m ≤ 8) (he : ∀ e ∈ y, EdgeIn n m e) : v = full8 m ↔ UsedS m y := by
 constructor
 ·rintro rfl k k0 k1
  have := (hv k.toNat (by omega)).1 (by rw [Q252 hm (by omega)]; simp; omega)
  obtain ⟨e, h1, h2⟩ := this
  exact ⟨e, h1, by omega⟩
 ·intro h
  apply BitVec.eq_of_getLsbD_eq
  intro k hk
  rw [Q252 hm hk, Bool.eq_iff_iff, hv k hk, decide_eq_true_eq]
  constructor
  ·rintro ⟨e, h1, h2⟩
   have := (he e h1).2.2.2.2.2
   omega
  ·intro hkm
   exact h k (by omega) (by omega)
theorem edges_iff (n : Int) (x : List Bs) (y : List Q3) (z : List Q4) (hy : (y.length : Int) ≤ 9223372036854775807) (hx : x.length ≤ 8) :
 (∃ v, Q21.l0 n x y z 0 0 = some (.inl (W8 v)) ∧ Mask v y ∧ ∀ e ∈ y, EdgeIn n x.length e) ∨ (Q21.l0 n x y z 0 0 = some (.inr false) ∧ ¬ ∀ e ∈ y, EdgeIn n x.length e) := by
 obtain ⟨r, hr, hq⟩ := Q65 (body := fun t_ : Int × Int => Q21.l0b n x y z t_.1 t_.2) (fun s => 0 ≤ s.2 ∧ s.2 ≤ (y.length : Int) ∧ (∀ e ∈ y.take s.2.toNat, EdgeIn n x.length e) ∧ ∃ v, s.1 = W8 v ∧ Mask v (y.take s.2.toNat))
  (fun r => (∃ v, r = .inl (W8 v) ∧ Mask v y ∧ ∀ e ∈ y, EdgeIn n x.length e) ∨ (r = .inr false ∧ ¬ ∀ e ∈ y, EdgeIn n x.length e)) (fun s => ((y.length : Int) - s.2).toNat) (fun ⟨u, i⟩ ⟨h0, h1, h2, v, h3, h4⟩ => by
   dsimp only at h0 h1 h2 h3 h4 ⊢
   subst h3
   unfold Q21.l0b
   by_cases hi : i < (y.length : Int)
   ·have hm := Q101 h0 hi
    rw [if_pos hi, if_pos ⟨h0, hi⟩, in_run, in_run]
    simp only [Option.bind_some]
    by_cases e1 : 0 ≤ (gt y i).From ∧ (gt y i).From < n
    ·by_cases e2 : 0 ≤ (gt y i).To ∧ (gt y i).To < n
     ·by_cases e3 : (gt y i).Action < 0
      ·left; exact ⟨_, by simp [e1, e2, e3, jn, upL], .inr ⟨rfl, fun h => by have := (h _ hm).2.2.2.2.1; omega⟩⟩
      ·by_cases e4 : (x.length : Int) ≤ (gt y i).Action
       ·left; exact ⟨_, by simp [e1, e2, e3, e4, jn, upL], .inr ⟨rfl, fun h => by have := (h _ hm).2.2.2.2.2; omega⟩⟩
       ·right
        have e5 : 0 ≤ (gt y i).Action := by omega
        have hw : IntKind.i64.wrap (i + 1) = i + 1 := wrap64 (by omega) (by omega)
        have ht : y.take (i + 1).toNat = y.take i.toNat ++ [gt y i] := by
         rw [show (i + 1).toNat = i.toNat + 1 from by omega, List.take_add_one, Q117 h0 hi]; rfl
        refine ⟨(W8 (v ||| BitVec.twoPow 8 (gt y i).Action.toNat), i + 1), by simp [e1, e2, e3, e4, e5, jn, nx, hw, shl8 e5 (by omega), bor_w8], ⟨by dsimp only; omega, by dsimp only; omega, fun e he => ?_, _, rfl, fun k hk => ?_⟩, by dsimp only; omega⟩
        ·dsimp only at he
         rw [ht] at he
         rcases List.mem_append.1 he with he | he
         ·exact h2 e he
         ·simp at he; subst he
          exact ⟨e1.1, e1.2, e2.1, e2.2, e5, by omega⟩
        ·dsimp only
         rw [ht, BitVec.getLsbD_or, Bool.or_eq_true, h4 k hk, BitVec.getLsbD_twoPow]
         constructor
         ·rintro (⟨e, a, b⟩ | h)
          ·exact ⟨e, by simp [a], b⟩
          ·simp at h
           exact ⟨gt y i, by simp, by omega⟩
         ·rintro ⟨e, a, b⟩
          rcases List.mem_append.1 a with a | a
          ·exact .inl ⟨e, a, b⟩
          ·simp at a
           subst a
           right
           simp
           omega
     ·left; exact ⟨_, by simp [e1, e2, jn, upL], .inr ⟨rfl, fun h => e2 ⟨(h _ hm).2.2.1, (h _ hm).2.2.2.1⟩⟩⟩
    ·left; exact ⟨_, by simp [e1, jn, upL], .inr ⟨rfl, fun h => e1 ⟨(h _ hm).1, (h _ hm).2.1⟩⟩⟩
   ·left
    rw [if_neg hi]
    rw [List.take_of_length_le (by omega)] at h2 h4
    exact ⟨_, rfl, .inl ⟨v, rfl, h4, h2⟩⟩) (0, 0) ⟨Int.le_refl _, by dsimp only; omega, by simp, 0#8, rfl, fun k hk => by simp⟩
 rcases hq with ⟨v, rfl, h⟩ | ⟨rfl, h⟩
 ·exact .inl ⟨v, hr, h⟩
 ·exact .inr ⟨hr, h⟩
def PropS (n : Int) (p : Q4) : Prop := NameS p.Name ∧ StatesS n p.States
theorem props_iff (n : Int) (x : List Bs) (y : List Q3) (z : List Q4) (hz : (z.length : Int) ≤ 9223372036854775807) (hs : ∀ p ∈ z, (p.States.length : Int) ≤ 9223372036854775807) :
 (Q21.l1 n x y z 0 = some (.inl ()) ∧ ∀ p ∈ z, PropS n p) ∨ (Q21.l1 n x y z 0 = some (.inr false) ∧ ¬ ∀ p ∈ z, PropS n p) := by
 have key := Q165 (body := fun t_ : Int => Q21.l1b n x y z t_) (N := z.length) (p := fun i => PropS n (gt z i)) (bad := false) hz 0 (by decide) (fun i hi h1 => by
  simp only [Q21.l1b]
  obtain ⟨b1, hb1, c1⟩ := Q255 (gt z i).Name
  obtain ⟨b2, hb2, c2⟩ := Q285 (gt z i).States (hs _ (Q101 hi h1))
  obtain ⟨b3, hb3, c3⟩ := inS_iff (gt z i).States n x y z (hs _ (Q101 hi h1))
  rw [if_pos h1, if_pos ⟨hi, h1⟩, hb1, hb2, hb3]
  unfold PropS StatesS
  rw [← c1, ← c2]
  have c3' : (∀ s ∈ (gt z i).States, 0 ≤ s ∧ s < n) ↔ b3 = false := by
   cases b3 with
   | true => simp only [Bool.true_eq_false, iff_false]; exact c3.1 rfl
   | false => simp only [iff_true]; exact Classical.not_not.1 fun h => by have := c3.2 h; cases this
  rw [c3']
  cases b1 <;> cases b2 <;> cases b3 <;> simp [jn, nx, upL]) (fun i h => by simp only [Q21.l1b]; rw [if_neg h]; rfl)
 have hiff : (∀ i : Int, 0 ≤ i → i < (z.length : Int) → PropS n (gt z i)) ↔ ∀ p ∈ z, PropS n p := by
  constructor
  ·intro h p hp
   obtain ⟨k, hk, rfl⟩ := List.getElem_of_mem hp
   have := h k (by omega) (by omega)
   rwa [Q147 (List.getElem?_eq_getElem hk)] at this
  ·exact fun h i i0 i1 => h _ (Q101 i0 i1)
 rcases key with ⟨h, q⟩ | ⟨h, i, i0, i1, i2⟩
 ·exact .inl ⟨h, hiff.1 q⟩
 ·exact .inr ⟨h, fun hr => i2 (hiff.2 hr i i0 i1)⟩
structure RightS (n : Int) (x : List Bs) (y : List Q3) (z : List Q4) : Prop where
 n0 : 1 ≤ n
 n1 : n ≤ 24
 nx : x.length ≤ 8
 nz : z.length ≤ 8
 ny : y.length ≤ 200
 ed : ∀ e ∈ y, EdgeIn n x.length e
 pr : ∀ p ∈ z, PropS n p
 nm : ∀ s ∈ x, NameS s
 us : UsedS x.length y
 re : Rise edgeLt y
 rx : Rise BLt x
 rz : Rise (fun p q => BLt p.Name q.Name) z
theorem Q228 (n : Int) (x : List Bs) (y : List Q3) (z : List Q4) (hs : ∀ p ∈ z, (p.States.length : Int) ≤ 9223372036854775807) : ∃ b, Q21.f n x y z = some b ∧ (b = true ↔ RightS n x y z) := by
 have no : ∀ {P : Prop}, ¬ P → (false = true ↔ P) := fun h => ⟨fun e => (by cases e), fun p => absurd p h⟩
 unfold Q21.f
 by_cases h1 : n < 1
 ·exact ⟨false, by simp [h1, jn], no fun h => by have := h.n0; omega⟩
 by_cases h2 : 24 < n
 ·exact ⟨false, by simp [h1, h2, jn], no fun h => by have := h.n1; omega⟩
 by_cases h3 : 8 < (x.length : Int)
 ·exact ⟨false, by simp [h1, h2, h3, jn], no fun h => by have := h.nx; omega⟩
 by_cases h4 : 8 < (z.length : Int)
 ·exact ⟨false, by simp [h1, h2, h3, h4, jn], no fun h => by have := h.nz; omega⟩
 by_cases h5 : 200 < (y.length : Int)
 ·exact ⟨false, by simp [h1, h2, h3, h4, h5, jn], no fun h => by have := h.ny; omega⟩
 simp only [if_neg h1, Q14, decide_eq_false h2, decide_eq_false h3, decide_eq_false h4, decide_eq_false h5, Bool.false_eq_true, if_false]
 rcases edges_iff n x y z (by omega) (by omega) with ⟨v, hr, hm, he⟩ | ⟨hr, he⟩
 ·rw [hr, Q14]
  rcases props_iff n x y z (by omega) hs with ⟨hp, hpp⟩ | ⟨hp, hpp⟩
  ·rw [hp, Q14]
   obtain ⟨b1, hb1, c1⟩ := names_iff x (by omega)
   obtain ⟨b2, hb2, c2⟩ := Q287 y (by omega)
   obtain ⟨b3, hb3, c3⟩ := Q296 x (by omega)
   obtain ⟨b4, hb4, c4⟩ := Q283 z (by omega)
   have h0 : (0 : Int) ≤ (x.length : Int) := by omega
   have hu : (W8 v = W8 (full8 x.length)) ↔ UsedS x.length y := ⟨fun h => (Q234 hm (by omega) he).1 (W8.inj h), fun h => by rw [(Q234 hm (by omega) he).2 h]⟩
   simp only [hb1, hb2, hb3, hb4, Option.bind_some, if_pos h0, full_run (show x.length ≤ 8 by omega)]
   by_cases k1 : b1 = true
   ·subst k1
    exact ⟨false, by simp [jn], no fun h => c1.1 rfl h.nm⟩
   ·have k1' : b1 = false := by simpa using k1
    subst k1'
    have hnm : ∀ s ∈ x, NameS s := Classical.not_not.1 fun h => by have := c1.2 h; cases this
    by_cases k2 : W8 v = W8 (full8 x.length)
    ·cases b2 with
     | false => exact ⟨false, by simp [jn, k2], no fun h => by have := c2.2 h.re; cases this⟩
     | true =>
      cases b3 with
      | false => exact ⟨false, by simp [jn, k2], no fun h => by have := c3.2 h.rx; cases this⟩
      | true =>
       cases b4 with
       | false => exact ⟨false, by simp [jn, k2], no fun h => by have := c4.2 h.rz; cases this⟩
       | true => exact ⟨true, by simp [jn, k2], by simp only [true_iff]; exact ⟨by omega, by omega, by omega, by omega, by omega, he, hpp, hnm, hu.1 k2, c2.1 rfl, c3.1 rfl, c4.1 rfl⟩⟩
    ·exact ⟨false, by simp [jn, k2], no fun h => k2 (hu.2 h.us)⟩
  ·rw [hp]
   exact ⟨false, rfl, no fun h => hpp h.pr⟩
 ·rw [hr]
  exact ⟨false, rfl, no fun h => he h.ed⟩
end Go.Bw
namespace Go.Bw
open Go Go.RowKit

theorem rise_ne {z : List Q4} (h : Rise (fun p q => BLt p.Name q.Name) z) {i j : Int} (h0 : 0 ≤ i) (h1 : i < j) (h2 : j < (z.length : Int)) : (gt z i).Name ≠ (gt z j).Name := by
 have key : ∀ k : Nat, i + k + 1 < (z.length : Int) → BLt (gt z i).Name (gt z (i + k + 1)).Name := fun k => by
  induction k with
  | zero =>
   intro hk
   have := h (i + 1) (by omega) (by omega)
   rw [show i + 1 - 1 = i from by omega] at this
   rw [show i + ((0 : Nat) : Int) + 1 = i + 1 from by omega]
   exact this
  | succ k ih =>
   intro hk
   have h3 := ih (by omega)
   have h4 := h (i + (k + 1 : Nat) + 1) (by omega) (by omega)
   rw [show i + ((k + 1 : Nat) : Int) + 1 - 1 = i + k + 1 from by omega] at h4
   exact Q191 h3 h4
 have := key (j - i - 1).toNat (by omega)
 rw [show i + ((j - i - 1).toNat : Int) + 1 = j from by omega] at this
 intro e
 rw [e] at this
 unfold BLt at this
 rw [Q205] at this
 omega
end Go.Bw
namespace Go.Bw
open Go Go.RowKit

theorem ext_gt {α : Type} [Inhabited α] {l l' : List α} (hn : l.length = l'.length) (h : ∀ k : Nat, k < l.length → gt l k = gt l' k) : l = l' := by
 refine List.ext_getElem hn fun k h1 h2 => ?_
 have := h k h1
 rwa [Q147 (List.getElem?_eq_getElem h1), Q147 (List.getElem?_eq_getElem h2)] at this

section
variable (H : Nat → Int → Prop) (E : Nat → Int → Int → Prop)
variable {H E}
end
end Go.Bw
namespace Go.Bw
open Go Go.RowKit

def Wd (v : BitVec 64) : Int := (v.toNat : Int)
theorem Wd.lt (v : BitVec 64) : 0 ≤ Wd v ∧ Wd v < 18446744073709551616 := by
 unfold Wd
 have := v.isLt
 omega
theorem wrapu {x : Int} (h0 : 0 ≤ x) (h1 : x < 18446744073709551616) : IntKind.u64.wrap x = x := by
 simp [IntKind.wrap, IntKind.bits, IntKind.signed]
 omega
theorem Q131 (v : BitVec 64) : BitVec.ofInt 64 (Wd v) = v := by
 unfold Wd
 apply BitVec.eq_of_toNat_eq
 simp
theorem Wd.inj {u v : BitVec 64} (h : Wd u = Wd v) : u = v := by rw [← Q131 u, h, Q131]
theorem Q198 (v : BitVec 64) : IntKind.u64.wrap (v.toNat : Int) = Wd v := wrapu (Wd.lt v).1 (Wd.lt v).2
theorem bor_wd (u v : BitVec 64) : bor .u64 (Wd u) (Wd v) = Wd (u ||| v) := by
 show IntKind.u64.wrap ((BitVec.ofInt 64 (Wd u) ||| BitVec.ofInt 64 (Wd v)).toNat : Int) = _
 rw [Q131, Q131, Q198]
theorem Q193 (u v : BitVec 64) : band .u64 (Wd u) (Wd v) = Wd (u &&& v) := by
 show IntKind.u64.wrap ((BitVec.ofInt 64 (Wd u) &&& BitVec.ofInt 64 (Wd v)).toNat : Int) = _
 rw [Q131, Q131, Q198]
theorem Q226 (u v : BitVec 64) : bandnot .u64 (Wd u) (Wd v) = Wd (u &&& ~~~ v) := by
 show IntKind.u64.wrap ((BitVec.ofInt 64 (Wd u) &&& ~~~ BitVec.ofInt 64 (Wd v)).toNat : Int) = _
 rw [Q131, Q131, Q198]
theorem shl_one {s : Int} (h0 : 0 ≤ s) (h1 : s < 64) : Bw.shl .u64 1 s = Wd (BitVec.twoPow 64 s.toNat) := by
 have hs : min s.toNat IntKind.u64.bits = s.toNat := Nat.min_eq_left (show s.toNat ≤ 64 by omega)
 have hp : 2 ^ s.toNat < 2 ^ 64 := Nat.pow_lt_pow_right (by decide) (by omega)
 unfold Bw.shl Wd
 have e : (2 : Int) ^ s.toNat = ((2 ^ s.toNat : Nat) : Int) := by rw [Int.natCast_pow]; rfl
 rw [hs, Int.one_mul, BitVec.toNat_twoPow, Nat.mod_eq_of_lt hp, e]
 have h2 : (2 : Nat) ^ 64 = 18446744073709551616 := by rfl
 rw [h2] at hp
 generalize (2 : Nat) ^ s.toNat = q at hp
 exact wrapu (by omega) (by omega)
theorem shr6 {n : Int} (h0 : 0 ≤ n) : Bw.shr .i64 n 6 = n / 64 := by
 show n.fdiv (2 ^ 6) = n / 64
 rw [Int.fdiv_eq_ediv_of_nonneg _ (by decide)]
 rfl
theorem band63 {n : Int} (h0 : 0 ≤ n) (h1 : n ≤ 9223372036854775807) : band .i64 n 63 = n % 64 := by
 show IntKind.i64.wrap ((BitVec.ofInt 64 n &&& BitVec.ofInt 64 63).toNat : Int) = _
 have e1 : (BitVec.ofInt 64 n).toNat = n.toNat := by rw [BitVec.toNat_ofInt]; omega
 have e2 : (BitVec.ofInt 64 63).toNat = 2 ^ 6 - 1 := by rfl
 rw [BitVec.toNat_and, e1, e2, Nat.and_two_pow_sub_one_eq_mod, wrap64 (by omega) (by omega)]
 omega
structure W4 where
 a : BitVec 64
 b : BitVec 64
 c : BitVec 64
 d : BitVec 64
def W4.sel (u : W4) (k : Int) : BitVec 64 := if k = 0 then u.a else if k = 1 then u.b else if k = 2 then u.c else u.d
def W4.has (u : W4) (n : Int) : Bool := (u.sel (n / 64)).getLsbD (n % 64).toNat
def W4.Rep (u : W4) (S : Int → Prop) : Prop := ∀ n, 0 ≤ n → n < 256 → (u.has n = true ↔ S n)
def W4.z : W4 := ⟨0#64, 0#64, 0#64, 0#64⟩
theorem W4.z_rep : W4.z.Rep (fun _ => False) := fun n h0 h1 => by
 unfold W4.has W4.sel W4.z
 dsimp only
 split
 ·simp
 ·split
  ·simp
  ·split <;> simp
theorem W4.ext4 {u v : W4} (h : ∀ n, 0 ≤ n → n < 256 → u.has n = v.has n) : u = v := by
 have key : ∀ k : Int, 0 ≤ k → k < 4 → u.sel k = v.sel k := fun k h0 h1 => by
  apply BitVec.eq_of_getLsbD_eq
  intro i hi
  have := h (64 * k + i) (by omega) (by omega)
  unfold W4.has at this
  rwa [show (64 * k + (i : Int)) / 64 = k from by omega, show ((64 * k + (i : Int)) % 64).toNat = i from by omega] at this
 have k0 := key 0 (by decide) (by decide)
 have k1 := key 1 (by decide) (by decide)
 have k2 := key 2 (by decide) (by decide)
 have k3 := key 3 (by decide) (by decide)
 cases u
 cases v
 simp [W4.sel] at k0 k1 k2 k3
 rw [k0, k1, k2, k3]
def W4.put (u : W4) (n : Int) : W4 :=
 if n / 64 = 0 then { u with a := u.a ||| BitVec.twoPow 64 (n % 64).toNat } else if n / 64 = 1 then { u with b := u.b ||| BitVec.twoPow 64 (n % 64).toNat }
 else if n / 64 = 2 then { u with c := u.c ||| BitVec.twoPow 64 (n % 64).toNat } else { u with d := u.d ||| BitVec.twoPow 64 (n % 64).toNat }
theorem W4.put_rep {u : W4} {S : Int → Prop} (h : u.Rep S) {n : Int} (h0 : 0 ≤ n) (h1 : n < 256) : (u.put n).Rep (fun m => S m ∨ m = n) := fun m m0 m1 => by
 show _ ↔ S m ∨ m = n
 rw [← h m m0 m1]
 have key : ∀ (w : BitVec 64), (w ||| BitVec.twoPow 64 (n % 64).toNat).getLsbD (m % 64).toNat = (w.getLsbD (m % 64).toNat || decide (m % 64 = n % 64)) := fun w => by
  rw [BitVec.getLsbD_or, BitVec.getLsbD_twoPow]
  congr 1
  have : (m % 64).toNat < 64 := by omega
  rw [Bool.eq_iff_iff]
  simp [this]
  omega
 unfold W4.put W4.has W4.sel
 have hn : n / 64 = 0 ∨ n / 64 = 1 ∨ n / 64 = 2 ∨ n / 64 = 3 := by omega
 have hm : m / 64 = 0 ∨ m / 64 = 1 ∨ m / 64 = 2 ∨ m / 64 = 3 := by omega
 by_cases e : m / 64 = n / 64
 ·have hmn : (m = n) ↔ m % 64 = n % 64 := by omega
  rw [e, hmn]
  rcases hn with hn | hn | hn | hn <;> simp [hn, key]
 ·have hmn : ¬ m = n := fun h => e (by rw [h])
  rw [or_iff_left hmn]
  rcases hn with hn | hn | hn | hn <;> rcases hm with hm | hm | hm | hm <;> first
   | exact absurd (hm.trans hn.symm) e
   | simp [hn, hm]
def W4.t (u : W4) : Int × Int × Int × Int := (Wd u.a, Wd u.b, Wd u.c, Wd u.d)
end Go.Bw
namespace Go.Bw
open Go Go.RowKit

theorem Q182 {u : W4} {n : Int} : Q74.f (Wd u.a) (Wd u.b) (Wd u.c) (Wd u.d) n = some (if 0 ≤ n ∧ n < 256 then u.put n else u).t := by
 unfold Q74.f
 by_cases h0 : 0 ≤ n
 ·rw [if_pos h0, Q14]
  by_cases h1 : n < 256
  ·have hm : IntKind.u64.wrap (band .i64 n 63) = n % 64 := by rw [band63 h0 (by omega), wrapu (by omega) (by omega)]
   rw [if_pos (decide_eq_true h1), shr6 h0, hm, shl_one (by omega) (by omega), if_pos (by omega), if_pos (show 0 ≤ n ∧ n < 256 from ⟨h0, h1⟩)]
   have hn : (0 : Int) ≤ n % 64 := by omega
   simp only [if_pos hn, bor_wd]
   unfold W4.put W4.t
   by_cases k0 : n / 64 = 0
   ·rw [if_pos k0, if_pos k0]
   ·by_cases k1 : n / 64 = 1
    ·rw [if_neg k0, if_neg k0, if_pos k1, if_pos k1]
    ·by_cases k2 : n / 64 = 2
     ·rw [if_neg k0, if_neg k0, if_neg k1, if_neg k1, if_pos k2, if_pos k2]
     ·rw [if_neg k0, if_neg k0, if_neg k1, if_neg k1, if_neg k2, if_neg k2]
  ·rw [if_neg (by simp; omega), if_neg (by omega)]
   rfl
 ·rw [if_neg h0, Q14, if_neg (by simp), if_neg (by omega)]
  rfl
theorem of_run4 {l : List Int} (hl : (l.length : Int) ≤ 9223372036854775807) : ∃ u : W4, Q45.f l = some u.t ∧ u.Rep (· ∈ l) := by
 obtain ⟨r, hr, u, rfl, h⟩ := Q65 (body := fun t_ : Int × Int × Int × Int × Int => Q45.l0b l t_.1 t_.2.1 t_.2.2.1 t_.2.2.2.1 t_.2.2.2.2)
  (fun s => 0 ≤ s.2.2.2.2 ∧ s.2.2.2.2 ≤ (l.length : Int) ∧ ∃ u : W4, (s.1, s.2.1, s.2.2.1, s.2.2.2.1) = u.t ∧ u.Rep (· ∈ l.take s.2.2.2.2.toNat))
  (fun r => ∃ u : W4, r = .inl u.t ∧ u.Rep (· ∈ l)) (fun s => (l.length - s.2.2.2.2).toNat)
  (fun ⟨w0, w1, w2, w3, i⟩ ⟨a0, a1, u, a2, a3⟩ => by
   dsimp only at a0 a1 a2 a3 ⊢
   simp only [W4.t, Prod.mk.injEq] at a2
   obtain ⟨rfl, rfl, rfl, rfl⟩ := a2
   unfold Q45.l0b
   by_cases hi : i < (l.length : Int)
   ·right
    rw [if_pos hi, if_pos ⟨a0, hi⟩, Q182, wrap64 (x := i + 1) (by omega) (by omega)]
    refine ⟨_, rfl, ⟨by dsimp only; omega, by dsimp only; omega, _, rfl, fun n n0 n1 => ?_⟩, by dsimp only; omega⟩
    dsimp only
    rw [show (i + 1).toNat = i.toNat + 1 from by omega, List.take_add_one, Q117 a0 hi, List.mem_append]
    simp only [Option.toList_some, List.mem_singleton]
    by_cases hg : 0 ≤ gt l i ∧ gt l i < 256
    ·rw [if_pos hg]
     exact W4.put_rep a3 hg.1 hg.2 n n0 n1
    ·rw [if_neg hg, a3 n n0 n1]
     exact ⟨.inl, fun h => h.elim id fun h => absurd (h ▸ ⟨n0, n1⟩) hg⟩
   ·left
    rw [if_neg hi]
    refine ⟨_, rfl, u, rfl, ?_⟩
    rwa [List.take_of_length_le (by omega)] at a3) (0, 0, 0, 0, 0) ⟨Int.le_refl _, by dsimp only; omega, W4.z, rfl, fun n n0 n1 => by
     dsimp only
     rw [W4.z_rep n n0 n1]
     simp⟩
 refine ⟨u, ?_, h⟩
 unfold Q45.f
 have hl : Q45.l0 l 0 0 0 0 0 = some (.inl u.t) := hr
 rw [hl, Q14]
end Go.Bw
namespace Go.Bw
open Go Go.RowKit
theorem equal_run {a b : List Int} (hn : a.length = b.length) (ha : (a.length : Int) ≤ 9223372036854775807) : Q49.f a b = some (decide (a = b)) := by
 unfold Q49.f
 rw [if_pos (by omega)]
 obtain ⟨r, hr, hq⟩ := Q65 (body := fun t_ : Int => Q49.l0b a b t_) (fun i => 0 ≤ i ∧ i ≤ (a.length : Int) ∧ ∀ j : Int, 0 ≤ j → j < i → gt a j = gt b j)
  (fun r => (r = .inl () ∧ a = b) ∨ (r = .inr false ∧ a ≠ b)) (fun i => ((a.length : Int) - i).toNat) (fun i ⟨h0, h1, h2⟩ => by
   unfold Q49.l0b
   by_cases hi : i < (a.length : Int)
   ·rw [if_pos hi, if_pos ⟨h0, hi⟩, if_pos ⟨h0, by omega⟩]
    by_cases he : gt a i = gt b i
    ·right
     rw [if_pos he, wrap64 (x := i + 1) (by omega) (by omega)]
     refine ⟨_, rfl, ⟨by omega, by omega, fun j j0 j1 => ?_⟩, by omega⟩
     by_cases hj : j = i
     ·subst hj; exact he
     ·exact h2 j j0 (by omega)
    ·left
     rw [if_neg he]
     exact ⟨_, rfl, .inr ⟨rfl, fun e => he (by rw [e])⟩⟩
   ·left
    rw [if_neg hi]
    exact ⟨_, rfl, .inl ⟨rfl, ext_gt hn fun k hk => h2 k (by omega) (by omega)⟩⟩) 0 ⟨Int.le_refl _, by omega, fun j h0 h1 => by omega⟩
 have hl : Q49.l0 a b 0 = some r := hr
 rcases hq with ⟨rfl, h⟩ | ⟨rfl, h⟩
 ·rw [hl, Q14, decide_eq_true h]
 ·rw [hl, decide_eq_false h]; rfl
end Go.Bw
namespace Go.Bw
open Go Go.RowKit

theorem Q132 {α : Type} {c : Prop} [Decidable c] {x y : Option α} (h1 : c → ∃ r, x = some r) (h2 : ¬ c → ∃ r, y = some r) : ∃ r, (if c then x else y) = some r := by
 split
 ·exact h1 ‹_›
 ·exact h2 ‹_›
theorem Q265 (a : Bs) (ha : (a.length : Int) ≤ 9223372036854775807) (lo hi : Int) : ∃ b, Q44.f a lo hi = some b := by
 unfold Q44.f
 by_cases h1 : (a.length : Int) < 1
 ·simp only [if_pos h1, Q14, if_true]; exact ⟨_, rfl⟩
 by_cases h2 : 8 < (a.length : Int)
 ·simp only [if_neg h1, Q14, if_true, decide_eq_true h2]; exact ⟨_, rfl⟩
 simp only [if_neg h1, Q14, decide_eq_false h2, Bool.false_eq_true, if_false]
 have h0 : (0 : Int) ≤ 0 ∧ 0 < (a.length : Int) := by omega
 refine Q143 (Q132 (fun _ => ⟨_, rfl⟩) fun h => absurd h0 h) fun x => Q143 (Q132 (fun _ => ⟨_, rfl⟩) fun _ => Q132 (fun _ => ⟨_, rfl⟩) fun h => absurd h0 h) fun x => Q132 (fun _ => ⟨_, rfl⟩) fun _ => ?_
 refine jn_true (up_loop (body := fun t_ : Int => Q44.l0b a t_) (N := a.length) (Q := fun _ => True) ha 0 (by decide) fun i hi => ?_)
 unfold Q44.l0b
 by_cases h1 : i < (a.length : Int)
 ·rw [if_pos h1, if_pos ⟨hi, h1⟩]
  simp only [jn_ite, Q14]
  repeat' split
  all_goals first
   | exact .inl ⟨_, rfl, trivial⟩
   | exact .inr ⟨h1, rfl⟩
 ·rw [if_neg h1]; exact .inl ⟨_, rfl, trivial⟩
theorem word_run (a : Bs) : ∃ b, Q98.f a = some b := by
 unfold Q98.f
 refine Q143 (Q132 (fun _ => ⟨_, rfl⟩) fun _ => ⟨_, rfl⟩) fun x => Q143 (Q132 (fun _ => ⟨_, rfl⟩) fun _ => ⟨_, rfl⟩) fun x => Q143 (Q132 (fun _ => ⟨_, rfl⟩) fun _ => ⟨_, rfl⟩) fun x => ⟨_, rfl⟩
theorem name_run2 (a : Bs) (ha : (a.length : Int) ≤ 9223372036854775807) : ∃ b, Q95.f a = some b := by
 unfold Q95.f
 obtain ⟨b, hb⟩ := Q265 a ha 97 122
 rw [hb, Option.bind_some]
 obtain ⟨c, hc⟩ := word_run a
 refine Q143 (Q132 (fun _ => ?_) fun _ => ⟨_, rfl⟩) fun x => ⟨_, rfl⟩
 rw [hc]
 exact ⟨_, rfl⟩
theorem Q295 (a : Bs) (ha : (a.length : Int) ≤ 9223372036854775807) : ∃ b, Q94.f a = some b := by
 unfold Q94.f
 obtain ⟨b, hb⟩ := Q265 a ha 65 90
 rw [hb]
 exact ⟨_, rfl⟩
def Arity (K k : Int) : Prop := (K = 1 ∨ K = 2 ∨ K = 3 ∨ K = 4) ∧ k = 0 ∨ K = 5 ∧ k = 1 ∨ Modal K ∧ k = 1 ∨ Fixy K ∧ k = 1 ∨ Twoy K ∧ k = 2
theorem below_run (K A B At : Int) (a : Bs) (ha : (a.length : Int) ≤ 9223372036854775807) : ∃ b k, Q121.f K A B a At = some (b, k) ∧ 0 ≤ k ∧ k ≤ 2 ∧ (b = true → Arity K k) := by
 obtain ⟨b1, h1⟩ := name_run2 a ha
 obtain ⟨b2, h2⟩ := Q295 a ha
 unfold Q121.f Arity Modal Fixy Twoy
 rw [h1, h2]
 simp only [Option.bind_some]
 by_cases k1 : K = 1
 ·subst k1; exact ⟨bseq a [], 0, by simp [Q14], by omega, by omega, by simp⟩
 by_cases k2 : K = 2
 ·subst k2; exact ⟨bseq a [], 0, by simp [Q14], by omega, by omega, by simp⟩
 by_cases k3 : K = 3
 ·subst k3; exact ⟨b1, 0, by simp [Q14], by omega, by omega, by simp⟩
 by_cases k4 : K = 4
 ·subst k4; exact ⟨b2, 0, by simp [Q14], by omega, by omega, by simp⟩
 by_cases k5 : K = 5
 ·subst k5; exact ⟨bseq a [], 1, by simp [Q14], by omega, by omega, by simp⟩
 by_cases k8 : K = 8
 ·subst k8
  by_cases hx : bseq a [45] = true
  ·exact ⟨true, 1, by simp [hx, Q14], by omega, by omega, by simp⟩
  ·exact ⟨b1, 1, by simp [hx, Q14], by omega, by omega, by simp⟩
 by_cases k9 : K = 9
 ·subst k9
  by_cases hx : bseq a [45] = true
  ·exact ⟨true, 1, by simp [hx, Q14], by omega, by omega, by simp⟩
  ·exact ⟨b1, 1, by simp [hx, Q14], by omega, by omega, by simp⟩
 by_cases k10 : K = 10
 ·subst k10; exact ⟨b2, 1, by simp [Q14], by omega, by omega, by simp⟩
 by_cases k11 : K = 11
 ·subst k11; exact ⟨b2, 1, by simp [Q14], by omega, by omega, by simp⟩
 by_cases k6 : K = 6
 ·subst k6; exact ⟨bseq a [], 2, by simp [Q14], by omega, by omega, by simp⟩
 by_cases k7 : K = 7
 ·subst k7; exact ⟨bseq a [], 2, by simp [Q14], by omega, by omega, by simp⟩
 exact ⟨false, 0, by simp [k1, k2, k3, k4, k5, k6, k7, k8, k9, k10, k11, Q14], by omega, by omega, by simp⟩
theorem Q279 (a : List Int) (ha : (a.length : Int) ≤ 9223372036854775807) : ∃ b, Q124.f a = some b := by
 unfold Q124.f Q60.f
 obtain ⟨b, hb⟩ := jn_int (up_loop (body := fun t_ : Int => Q60.l0b a t_) (N := a.length) (Q := fun _ => True) ha 0 (by decide) fun i hi => by
  unfold Q60.l0b Q136.f
  by_cases h1 : i < (a.length : Int)
  ·rw [if_pos h1, if_pos (by omega)]
   simp only [Option.bind_some]
   split
   ·exact .inl ⟨_, rfl, trivial⟩
   ·exact .inr ⟨h1, rfl⟩
  ·rw [if_neg h1]; exact .inl ⟨_, rfl, trivial⟩)
 have hb' : jn (Q60.l0 a 0) (fun (_ : Unit) => some (-1)) = some b := hb
 rw [hb']
 exact ⟨_, rfl⟩
def Ch (f : List Q2) : Int → List Int → Int → Prop
 | p, [], e => p = e
 | p, s :: r, e => Sb f p s ∧ Ch f (s + 1) r e
theorem Ch.app {f : List Q2} : ∀ {a b : List Int} {p e : Int}, Ch f p (a ++ b) e ↔ ∃ q, Ch f p a q ∧ Ch f q b e
 | [], b, p, e => by simp [Ch]
 | s :: a, b, p, e => by
  simp only [List.cons_append, Ch, Ch.app (a := a)]
  constructor
  ·rintro ⟨h, q, h1, h2⟩; exact ⟨q, ⟨h, h1⟩, h2⟩
  ·rintro ⟨q, ⟨h, h1⟩, h2⟩; exact ⟨h, q, h1, h2⟩
theorem Ch.len {f : List Q2} : ∀ {a : List Int} {p e : Int}, Ch f p a e → (a.length : Int) ≤ e - p
 | [], p, e, h => by simp [Ch] at h; simp [h]
 | s :: a, p, e, h => by
  have := h.1.le
  have := Ch.len h.2
  simp
  omega
theorem Q297 (f : List Q2) (hs : ∀ n ∈ f, (n.Name.length : Int) ≤ 9223372036854775807) : ∃ b, Q38.f f = some b ∧ (b = true → 1 ≤ f.length ∧ f.length ≤ 60 ∧ Sb f 0 ((f.length : Int) - 1)) := by
 unfold Q38.f
 by_cases h1 : (f.length : Int) < 1
 ·simp only [if_pos h1, Q14, if_true]; exact ⟨_, rfl, by simp⟩
 by_cases h2 : 60 < (f.length : Int)
 ·simp only [if_neg h1, Q14, if_true, decide_eq_true h2]; exact ⟨_, rfl, by simp⟩
 simp only [if_neg h1, Q14, decide_eq_false h2, Bool.false_eq_true, if_false]
 obtain ⟨r, hr, hq⟩ := Q65 (body := fun t_ : (List Int) × Int => Q38.l0b f t_.1 t_.2) (fun s => 0 ≤ s.2 ∧ s.2 ≤ (f.length : Int) ∧ Ch f 0 s.1 s.2)
  (fun r => (∃ s, r = .inl s ∧ Ch f 0 s f.length) ∨ r = .inr false) (fun s => ((f.length : Int) - s.2).toNat) (fun ⟨S, i⟩ ⟨i0, i1, hc⟩ => by
   dsimp only at i0 i1 hc ⊢
   have hl := hc.len
   unfold Q38.l0b
   by_cases hi : i < (f.length : Int)
   rotate_left
   ·left
    rw [if_neg hi]
    exact ⟨_, rfl, .inl ⟨S, rfl, by rwa [show (f.length : Int) = i by omega]⟩⟩
   obtain ⟨b, k, hb, k0, k2, hk⟩ := below_run (gt f i).Kind (gt f i).A (gt f i).B (gt f i).At (gt f i).Name (hs _ (Q101 i0 hi))
   rw [if_pos hi, if_pos ⟨i0, hi⟩, hb, Option.bind_some]
   dsimp only
   cases b with
   | false => left; simp only [Bool.false_eq_true, if_false, Q14, if_true]; exact ⟨_, rfl, .inr rfl⟩
   | true =>
   simp only [if_true, Q14]
   by_cases hSk : (S.length : Int) < k
   ·left; simp only [decide_eq_true hSk, if_true]; exact ⟨_, rfl, .inr rfl⟩
   rw [decide_eq_false hSk]
   simp only [Bool.false_eq_true, if_false]
   obtain ⟨c, hcn⟩ := Q279 (([(gt f i).A, (gt f i).B] : List Int).drop k.toNat) (by simp; omega)
   rw [if_pos (by simp; omega), hcn, Option.bind_some]
   cases c with
   | true => left; simp only [if_true, Q14]; exact ⟨_, rfl, .inr rfl⟩
   | false =>
   rw [wrap64 (x := (S.length : Int) - k) (by omega) (by omega), if_neg (by simp), if_pos (by omega), equal_run (by simp; omega) (by simp; omega), Option.bind_some, Q14]
   by_cases he : S.drop ((S.length : Int) - k).toNat = ([(gt f i).A, (gt f i).B] : List Int).take k.toNat
   rotate_left
   ·left; simp only [decide_eq_false he, Bool.not_false, if_true]; exact ⟨_, rfl, .inr rfl⟩
   right
   simp only [decide_eq_true he, Bool.not_true, Bool.false_eq_true, if_false]
   rw [if_pos (by omega), if_pos (by simp; omega), wrap64 (x := i + 1) (by omega) (by omega)]
   refine ⟨_, rfl, ⟨by dsimp only; omega, by dsimp only; omega, ?_⟩, by dsimp only; omega⟩
   dsimp only
   have hSS : S = S.take ((S.length : Int) - k).toNat ++ ([(gt f i).A, (gt f i).B] : List Int).take k.toNat := by rw [← he, List.take_append_drop]
   rw [hSS] at hc
   obtain ⟨q, hc1, hc2⟩ := Ch.app.1 hc
   refine Ch.app.2 ⟨q, hc1, ?_⟩
   have key : Sb f q i → Ch f q [i] (i + 1) := fun h => ⟨h, rfl⟩
   apply key
   rcases hk rfl with ⟨hK, rfl⟩ | ⟨hK, rfl⟩ | ⟨hK, rfl⟩ | ⟨hK, rfl⟩ | ⟨hK, rfl⟩
   ·simp [Ch] at hc2
    subst hc2
    exact .leaf i0 hi (by unfold Leafy; omega)
   ·simp [Ch] at hc2
    exact .not hi hK (by omega) (by rw [show i - 1 = (gt f i).A by omega]; exact hc2.1)
   ·simp [Ch] at hc2
    exact .modal hi hK (by omega) (by rw [show i - 1 = (gt f i).A by omega]; exact hc2.1)
   ·simp [Ch] at hc2
    exact .fix hi hK (by omega) (by rw [show i - 1 = (gt f i).A by omega]; exact hc2.1)
   ·simp [Ch] at hc2
    exact .two hi hK rfl (by omega) hc2.1 (by rw [show i - 1 = (gt f i).B by omega]; exact hc2.2.1)) ([], 0) ⟨by decide, by dsimp only; omega, rfl⟩
 have hr' : Q38.l0 f [] 0 = some r := hr
 rw [hr']
 rcases hq with ⟨s, rfl, hc⟩ | rfl
 ·refine ⟨_, rfl, fun hb => ⟨by omega, by omega, ?_⟩⟩
  match s, hc, of_decide_eq_true hb with
  | [a], hc, _ =>
   have : a + 1 = f.length := hc.2
   rw [show (f.length : Int) - 1 = a by omega]
   exact hc.1
  | [], _, h => simp at h
  | a :: b :: s, _, h => simp at h; omega
 ·exact ⟨_, rfl, by simp⟩
end Go.Bw
namespace Go.Bw
open Go Go.RowKit

def Ev {ρ : Type} (N : Nat → Option ρ) (r : ρ) : Prop := ∃ d, ∀ k, N k = some r ∨ (k < d ∧ N k = none)
theorem Ev.recF {ρ : Type} {N : Nat → Option ρ} {r : ρ} (h : Ev N r) : Bw.recF N = some r := by
 obtain ⟨d, h⟩ := h
 have hd : (N d).isSome = true := by rcases h d with e | e <;> first | (simp [e]; done) | omega
 obtain ⟨r', h1, h2⟩ := recF_of (n := N) (Q := fun x => x = r) ⟨d, hd⟩ (fun k x hx => by rcases h k with h | h <;> rw [hx] at h <;> simp_all)
 rw [h1, h2]
theorem Ev.const {ρ : Type} (r : ρ) : Ev (fun _ => some r) r := ⟨0, fun _ => .inl rfl⟩
theorem Ev.succ {ρ : Type} {N M : Nat → Option ρ} {r : ρ} (h0 : N 0 = none) (h : ∀ k, N (k + 1) = M k) (e : Ev M r) : Ev N r := by
 obtain ⟨d, e⟩ := e
 refine ⟨d + 1, fun k => ?_⟩
 cases k with
 | zero => exact .inr ⟨by omega, h0⟩
 | succ k =>
  rw [h]
  rcases e k with e | e
  ·exact .inl e
  ·exact .inr ⟨by omega, e.2⟩
theorem Ev.bind {α ρ : Type} {M : Nat → Option α} {F : Nat → α → Option ρ} {a : α} {r : ρ} (e : Ev M a) (g : Ev (fun k => F k a) r) : Ev (fun k => (M k).bind (F k)) r := by
 obtain ⟨d, e⟩ := e
 obtain ⟨d', g⟩ := g
 refine ⟨d + d', fun k => ?_⟩
 rcases e k with e | e
 ·dsimp only
  rw [e, Option.bind_some]
  rcases g k with g | g
  ·exact .inl g
  ·exact .inr ⟨by omega, g.2⟩
 ·exact .inr ⟨by omega, by dsimp only; rw [e.2]; rfl⟩
theorem Bd.wide {f : List Q2} {to : List Int} {sc : List (Int × Bool)} {l n : Int} (b : Bd f to sc l n) : ∀ {sc' : List (Int × Bool)}, (∀ p ∈ sc, p ∈ sc') → Bd f to sc' l n := by
 induction b with
 | var h0 h1 hk hs => exact fun h => .var h0 h1 hk (h _ hs)
 | leaf h0 h1 hk h4 => exact fun h => .leaf h0 h1 hk h4
 | not h1 hk ha s ih => exact fun h => .not h1 hk ha (ih fun p hp => by
  obtain ⟨q, hq, rfl⟩ := List.mem_map.1 hp
  exact List.mem_map.2 ⟨q, h q hq, rfl⟩)
 | modal h1 hk ha s ih => exact fun h => .modal h1 hk ha (ih h)
 | fix h1 hk ha s ih => exact fun h => .fix h1 hk ha (ih fun p hp => by
  rcases List.mem_cons.1 hp with rfl | hp
  ·exact List.mem_cons_self
  ·exact List.mem_cons_of_mem _ (h p hp))
 | two h1 hk ha hb s t ih1 ih2 => exact fun h => .two h1 hk ha hb (ih1 h) (ih2 h)
theorem Bd.congr {f : List Q2} {to to' : List Int} {sc : List (Int × Bool)} {l n : Int} (b : Bd f to sc l n) : (∀ v, l ≤ v → v ≤ n → gt to' v = gt to v) → Bd f to' sc l n := by
 induction b with
 | var h0 h1 hk hs => exact fun h => .var h0 h1 hk (by rw [h _ (Int.le_refl _) (Int.le_refl _)]; exact hs)
 | leaf h0 h1 hk h4 => exact fun h => .leaf h0 h1 hk h4
 | not h1 hk ha s ih => exact fun h => .not h1 hk ha (ih fun v h0 h1 => h v h0 (by omega))
 | modal h1 hk ha s ih => exact fun h => .modal h1 hk ha (ih fun v h0 h1 => h v h0 (by omega))
 | fix h1 hk ha s ih => exact fun h => .fix h1 hk ha (ih fun v h0 h1 => h v h0 (by omega))
 | two h1 hk ha hb s t ih1 ih2 =>
  have := s.le
  have := t.le
  exact fun h => .two h1 hk ha hb (ih1 fun v h0 h1 => h v h0 (by omega)) (ih2 fun v h0 h1 => h v (by omega) (by omega))
theorem find_run (f : List Q2) (S : List Q13) (nots : Int) (to : List Int) (odd : List Bool) (dep : List Int) (a : Bs) (hS : ∀ p ∈ S, 0 ≤ p.node ∧ p.node < (f.length : Int)) (hl : (S.length : Int) ≤ 1000) :
 ∃ r, Q47.f f S nots to odd dep a = some r ∧ (r = (false, 0, 0) ∨ ∃ p ∈ S, r = (true, p.node, p.nots)) := by
 unfold Q47.f
 obtain ⟨r, hr, hq⟩ := Q65 (body := fun t_ : Int => Q47.l0b f S a t_) (fun i => -1 ≤ i ∧ i < (S.length : Int))
  (fun r => r = .inl () ∨ ∃ p ∈ S, r = .inr (true, p.node, p.nots)) (fun i => (i + 1).toNat) (fun i ⟨h0, h1⟩ => by
   unfold Q47.l0b
   by_cases hi : 0 ≤ i
   ·have hm := Q101 hi h1
    rw [if_pos hi, if_pos ⟨hi, h1⟩, if_pos (hS _ hm)]
    split
    ·exact .inl ⟨_, rfl, .inr ⟨_, hm, rfl⟩⟩
    ·rw [wrap64 (x := i - 1) (by omega) (by omega)]
     exact .inr ⟨_, rfl, by omega, by omega⟩
   ·rw [if_neg hi]; exact .inl ⟨_, rfl, .inl rfl⟩) ((S.length : Int) - 1) (by omega)
 have hr' : Q47.l0 f S a ((S.length : Int) - 1) = some r := hr
 rw [wrap64 (by omega) (by omega), hr']
 rcases hq with rfl | ⟨p, hp, rfl⟩
 ·exact ⟨_, rfl, .inl rfl⟩
 ·exact ⟨_, rfl, .inr ⟨p, hp, rfl⟩⟩
def scp (nots : Int) (p : Q13) : Int × Bool := (p.node, decide ((nots - p.nots) % 2 = 0))
theorem scp_flip (nots : Int) (S : List Q13) : S.map (scp (nots + 1)) = (S.map (scp nots)).map fun p => (p.1, !p.2) := by
 rw [List.map_map]
 apply List.map_congr_left
 intro p _
 simp only [scp, Function.comp]
 congr 1
 rw [Bool.eq_iff_iff]
 simp
 omega
structure Wk (f : List Q2) (l n nots : Int) (S : List Q13) (to : List Int) (odd : List Bool) (dep : List Int) (to' : List Int) (odd' : List Bool) (dep' : List Int) : Prop where
 l1 : to'.length = f.length
 l2 : odd'.length = f.length
 l3 : dep'.length = f.length
 fr : ∀ m, 0 ≤ m → m < l ∨ n < m → gt to' m = gt to m ∧ gt odd' m = gt odd m
 bd : (∀ m, l ≤ m → m ≤ n → (gt f m).Kind = 4 → 0 ≤ gt to' m ∧ gt odd' m = false) → (∀ m, l ≤ m → m ≤ n → gt to m = -1) → Bd f to' (S.map (scp nots)) l n
theorem walk_run {f : List Q2} (hf : f.length ≤ 60) {l n : Int} (s : Sb f l n) : ∀ (S : List Q13) (nots : Int) (to : List Int) (odd : List Bool) (dep : List Int), to.length = f.length → odd.length = f.length → dep.length = f.length →
 (∀ p ∈ S, 0 ≤ p.node ∧ p.node < (f.length : Int) ∧ 0 ≤ p.nots ∧ p.nots ≤ nots) → 0 ≤ nots → nots + (n - l) ≤ 100 → (S.length : Int) + (n - l) ≤ 100 →
 ∃ to' odd' dep', Ev (fun k => Q19.n k f S nots to odd dep n) (odd', to', S, dep', nots) ∧ Wk f l n nots S to odd dep to' odd' dep' := by
 induction s with
 | @leaf n h0 h1 hk =>
  intro S nots to odd dep e1 e2 e3 hS hn hn2 hl
  by_cases k4 : (gt f n).Kind = 4
  ·obtain ⟨r, hr, hq⟩ := find_run f S nots to odd dep (gt f n).Name (fun p hp => ⟨(hS p hp).1, (hS p hp).2.1⟩) (by omega)
   rcases hq with rfl | ⟨p, hp, rfl⟩
   ·refine ⟨to, odd, dep, Ev.succ rfl (fun k => rfl) ?_, e1, e2, e3, fun _ _ _ => ⟨rfl, rfl⟩, fun ha hb => ?_⟩
    ·simp only [Q19.n, Q19.g, if_pos (And.intro h0 h1), if_pos k4, hr, Option.bind_some, Bool.false_eq_true, if_false]
     exact Ev.const _
    ·have := (ha n (by omega) (by omega) k4).1
     have := hb n (by omega) (by omega)
     omega
   ·have hp' := hS p hp
    refine ⟨st to n p.node, st odd n (!(decide (Int.tmod (nots - p.nots) 2 = 0))), dep, Ev.succ rfl (fun k => rfl) ?_, by rw [Q87, e1], by rw [Q87, e2], e3, fun m hm h => ?_, fun ha hb => ?_⟩
    ·simp only [Q19.n, Q19.g, if_pos (And.intro h0 h1), if_pos k4, hr, Option.bind_some, if_true, e1, e2]
     rw [wrap64 (x := nots - p.nots) (by omega) (by omega)]
     exact Ev.const _
    ·rw [Q80 h0 (by omega) hm, Q80 h0 (by omega) hm, if_neg (by omega), if_neg (by omega)]
     exact ⟨rfl, rfl⟩
    ·have := (ha n (by omega) (by omega) k4).2
     rw [Q80 h0 (by omega) h0, if_pos rfl] at this
     refine .var h0 h1 k4 ?_
     rw [Q80 h0 (by omega) h0, if_pos rfl]
     refine List.mem_map.2 ⟨p, hp, ?_⟩
     simp only [scp]
     congr 1
     simp at this
     rw [Int.tmod_eq_emod_of_nonneg (by omega)] at this
     simpa using this
  ·refine ⟨to, odd, dep, Ev.succ rfl (fun k => rfl) ?_, e1, e2, e3, fun _ _ _ => ⟨rfl, rfl⟩, fun ha hb => .leaf h0 h1 hk k4⟩
   have : (gt f n).Kind ≠ 5 ∧ (gt f n).Kind ≠ 6 ∧ (gt f n).Kind ≠ 7 ∧ (gt f n).Kind ≠ 8 ∧ (gt f n).Kind ≠ 9 ∧ (gt f n).Kind ≠ 10 ∧ (gt f n).Kind ≠ 11 := by unfold Leafy at hk; omega
   simp only [Q19.n, Q19.g, if_pos (And.intro h0 h1), if_neg k4, if_neg this.1, if_neg this.2.1, if_neg this.2.2.1, if_neg this.2.2.2.1, if_neg this.2.2.2.2.1, if_neg this.2.2.2.2.2.1, if_neg this.2.2.2.2.2.2, decide_eq_false this.2.2.1, decide_eq_false this.2.2.2.2.1, decide_eq_false this.2.2.2.2.2.2, Q14, Bool.false_eq_true, if_false]
   exact Ev.const _
 | @not l n h1 hk ha s ih =>
  intro S nots to odd dep e1 e2 e3 hS hn hn2 hl
  have := s.le
  obtain ⟨to', odd', dep', he, w⟩ := ih S (nots + 1) to odd dep e1 e2 e3 (fun p hp => by have := hS p hp; omega) (by omega) (by omega) (by omega)
  refine ⟨to', odd', st dep' n (gt dep' (n - 1)), Ev.succ rfl (fun k => rfl) ?_, w.l1, w.l2, by rw [Q87, w.l3], fun m hm h => w.fr m hm (by omega), fun h4 hto => .not h1 hk ha ?_⟩
  ·simp only [Q19.n, Q19.g, if_pos (And.intro (show 0 ≤ n by omega) h1), hk, ha, wrap64 (x := nots + 1) (by omega) (by omega), show ¬ ((5 : Int) = 4) by decide, if_false, if_true]
   refine Ev.bind he ?_
   dsimp only
   rw [if_pos (by omega), if_pos (by omega), wrap64 (x := nots + 1 - 1) (by omega) (by omega), show nots + 1 - 1 = nots by omega]
   exact Ev.const _
  ·rw [← scp_flip]
   exact w.bd (fun m a b c => h4 m a (by omega) c) (fun m a b => hto m a (by omega))
 | @modal l n h1 hk ha s ih =>
  intro S nots to odd dep e1 e2 e3 hS hn hn2 hl
  have := s.le
  obtain ⟨to', odd', dep', he, w⟩ := ih S nots to odd dep e1 e2 e3 hS (by omega) (by omega) (by omega)
  refine ⟨to', odd', st dep' n (gt dep' (n - 1)), Ev.succ rfl (fun k => rfl) ?_, w.l1, w.l2, by rw [Q87, w.l3], fun m hm h => w.fr m hm (by omega), fun h4 hto => .modal h1 hk ha ?_⟩
  ·have : (if (gt f n).Kind = 8 then (some (.inl (decide ((gt f n).Kind = 8))) : Option (Bool ⊕ ((List Bool) × (List Int) × (List Q13) × (List Int) × Int))) else some (.inl (decide ((gt f n).Kind = 9)))) = some (.inl true) := by
    rcases hk with hk | hk <;> simp [hk]
   have h45 : (gt f n).Kind ≠ 4 ∧ (gt f n).Kind ≠ 5 := by unfold Modal at hk; omega
   simp only [Q19.n, Q19.g, if_pos (And.intro (show 0 ≤ n by omega) h1), this, ha, if_neg h45.1, if_neg h45.2, Q14, if_true]
   refine Ev.bind he ?_
   dsimp only
   rw [if_pos (by omega), if_pos (by omega)]
   exact Ev.const _
  ·exact w.bd (fun m a b c => h4 m a (by omega) c) (fun m a b => hto m a (by omega))
 | @fix l n h1 hk ha s ih =>
  intro S nots to odd dep e1 e2 e3 hS hn hn2 hl
  have := s.le
  obtain ⟨to', odd', dep', he, w⟩ := ih (S ++ [⟨n, nots⟩]) nots to odd dep e1 e2 e3 (fun p hp => by
   rcases List.mem_append.1 hp with hp | hp
   ·exact hS p hp
   ·rw [List.mem_singleton.1 hp]; dsimp only; omega) (by omega) (by omega) (by simp; omega)
  refine ⟨to', odd', st dep' n (IntKind.i64.wrap (gt dep' (n - 1) + 1)), Ev.succ rfl (fun k => rfl) ?_, w.l1, w.l2, by rw [Q87, w.l3], fun m hm h => w.fr m hm (by omega), fun h4 hto => .fix h1 hk ha ?_⟩
  ·have t1 : (if (gt f n).Kind = 10 then (some (.inl (decide ((gt f n).Kind = 10))) : Option (Bool ⊕ ((List Bool) × (List Int) × (List Q13) × (List Int) × Int))) else some (.inl (decide ((gt f n).Kind = 11)))) = some (.inl true) := by
    rcases hk with hk | hk <;> simp [hk]
   have h45 : (gt f n).Kind ≠ 4 ∧ (gt f n).Kind ≠ 5 ∧ (gt f n).Kind ≠ 8 ∧ (gt f n).Kind ≠ 9 ∧ (gt f n).Kind ≠ 6 ∧ (gt f n).Kind ≠ 7 := by unfold Fixy at hk; omega
   simp only [Q19.n, Q19.g, if_pos (And.intro (show 0 ≤ n by omega) h1), t1, ha, if_neg h45.1, if_neg h45.2.1, if_neg h45.2.2.1, if_neg h45.2.2.2.2.1, decide_eq_false h45.2.2.2.1, decide_eq_false h45.2.2.2.2.2, Bool.false_eq_true, if_false, Q14, if_true]
   have hsz : (S.length + [(⟨n, nots⟩ : Q13)].length) * 16 ≤ 140737488355328 := by simp; omega
   simp only [if_pos hsz]
   refine Ev.bind he ?_
   dsimp only
   rw [wrap64 (x := ((S ++ [(⟨n, nots⟩ : Q13)]).length : Int) - 1) (by rw [List.length_append]; omega) (by rw [List.length_append]; simp; omega), if_pos (by rw [List.length_append]; simp; omega), if_pos (by omega), if_pos (by omega)]
   rw [show (((S ++ [(⟨n, nots⟩ : Q13)]).length : Int) - 1).toNat = S.length by simp, List.take_left' rfl]
   exact Ev.const _
  ·refine (w.bd (fun m a b c => h4 m a (by omega) c) (fun m a b => hto m a (by omega))).wide fun p hp => ?_
   rw [List.map_append] at hp
   rcases List.mem_append.1 hp with hp | hp
   ·exact List.mem_cons_of_mem _ hp
   ·simp [scp] at hp
    rw [hp]; exact List.mem_cons_self
 | @two l m n h1 hk ha hb s t ih1 ih2 =>
  intro S nots to odd dep e1 e2 e3 hS hn hn2 hl
  have := s.le
  have := t.le
  obtain ⟨to1, odd1, dep1, he1, w1⟩ := ih1 S nots to odd dep e1 e2 e3 hS (by omega) (by omega) (by omega)
  obtain ⟨to2, odd2, dep2, he2, w2⟩ := ih2 S nots to1 odd1 dep1 w1.l1 w1.l2 w1.l3 hS (by omega) (by omega) (by omega)
  refine ⟨to2, odd2, st dep2 n (if gt dep2 m < gt dep2 (n - 1) then gt dep2 (n - 1) else gt dep2 m), Ev.succ rfl (fun k => rfl) ?_, w2.l1, w2.l2, by rw [Q87, w2.l3], fun q hq h => ?_, fun h4 hto => .two h1 hk ha hb ?_ ?_⟩
  ·have t1 : (if (gt f n).Kind = 6 then (some (.inl (decide ((gt f n).Kind = 6))) : Option (Bool ⊕ ((List Bool) × (List Int) × (List Q13) × (List Int) × Int))) else some (.inl (decide ((gt f n).Kind = 7)))) = some (.inl true) := by
    rcases hk with hk | hk <;> simp [hk]
   have h45 : (gt f n).Kind ≠ 4 ∧ (gt f n).Kind ≠ 5 ∧ (gt f n).Kind ≠ 8 ∧ (gt f n).Kind ≠ 9 := by unfold Twoy at hk; omega
   simp only [Q19.n, Q19.g, if_pos (And.intro (show 0 ≤ n by omega) h1), t1, ha, hb, if_neg h45.1, if_neg h45.2.1, if_neg h45.2.2.1, decide_eq_false h45.2.2.2, Bool.false_eq_true, if_false, Q14, if_true]
   refine Ev.bind he1 (Ev.bind he2 ?_)
   dsimp only
   rw [if_pos (by omega), if_pos (by omega), if_pos (by omega)]
   exact Ev.const _
  ·have a := w1.fr q hq (by omega)
   have b := w2.fr q hq (by omega)
   exact ⟨b.1.trans a.1, b.2.trans a.2⟩
  ·refine (w1.bd (fun q a b c => ?_) (fun q a b => hto q a (by omega))).congr fun v a b => (w2.fr v (by omega) (by omega)).1
   have := w2.fr q (by omega) (by omega)
   rw [← this.1, ← this.2]
   exact h4 q a (by omega) c
  ·refine w2.bd (fun q a b c => h4 q (by omega) (by omega) c) (fun q a b => ?_)
   rw [(w1.fr q (by omega) (by omega)).1]
   exact hto q (by omega) (by omega)
end Go.Bw
namespace Go.Bw
open Go Go.RowKit

theorem Q280 {f : List Q2} (h1 : 1 ≤ f.length) (hf : f.length ≤ 60) (s : Sb f 0 ((f.length : Int) - 1)) :
 ∃ to odd dep, Q41.f f = some ([], to, odd, dep, 0) ∧ to.length = f.length ∧ odd.length = f.length ∧ dep.length = f.length ∧
  ((∀ m, 0 ≤ m → m < (f.length : Int) → (gt f m).Kind = 4 → 0 ≤ gt to m ∧ gt odd m = false) → Bd f to [] 0 ((f.length : Int) - 1)) := by
 obtain ⟨r, hr, t, rfl, hl, ht⟩ := Q65 (body := fun t_ : (List Int) × Int => Q41.l0b f t_.1 t_.2) (fun s => s.1.length = f.length ∧ 0 ≤ s.2 ∧ s.2 ≤ (f.length : Int) ∧ ∀ m, 0 ≤ m → m < s.2 → gt s.1 m = -1)
  (fun r => ∃ t, r = .inl t ∧ t.length = f.length ∧ ∀ m, 0 ≤ m → m < (f.length : Int) → gt t m = -1) (fun s => ((f.length : Int) - s.2).toNat) (fun ⟨t, i⟩ ⟨a0, a1, a2, a3⟩ => by
   dsimp only at a0 a1 a2 a3 ⊢
   unfold Q41.l0b
   have hlen : ((List.replicate (f.length : Int).toNat (0 : Int)).length : Int) = f.length := by simp
   rw [hlen]
   by_cases hi : i < (f.length : Int)
   ·right
    rw [if_pos hi, if_pos ⟨a1, hi⟩, wrap64 (x := i + 1) (by omega) (by omega)]
    refine ⟨_, rfl, ⟨by dsimp only; rw [Q87, a0], by dsimp only; omega, by dsimp only; omega, fun m m0 m1 => ?_⟩, by dsimp only; omega⟩
    dsimp only at m1 ⊢
    rw [Q80 a1 (by omega) m0]
    split
    ·rfl
    ·exact a3 m m0 (by omega)
   ·left
    rw [if_neg hi]
    exact ⟨_, rfl, t, rfl, a0, fun m m0 m1 => a3 m m0 (by omega)⟩) (List.replicate (f.length : Int).toNat 0, 0) ⟨by simp, Int.le_refl 0, by dsimp only; omega, fun m m0 m1 => by dsimp only at m1; omega⟩
 have hr' : Q41.l0 f (List.replicate (f.length : Int).toNat 0) 0 = some (.inl t) := hr
 obtain ⟨to, odd, dep, he, w⟩ := walk_run hf s [] 0 t (List.replicate (f.length : Int).toNat false) (List.replicate (f.length : Int).toNat 0) hl (by simp) (by simp) (fun p hp => by cases hp) (by decide) (by omega) (by simp; omega)
 refine ⟨to, odd, dep, ?_, w.l1, w.l2, w.l3, fun h => w.bd (fun m a b c => h m a (by omega) c) fun m a b => ht m a (by omega)⟩
 unfold Q41.f
 rw [if_pos (by omega), if_pos (by omega), hr', Q14, wrap64 (by omega) (by omega)]
 unfold Q19.f
 rw [he.recF]
 rfl
theorem fix_run (K A B At : Int) (a : Bs) : Q70.f K A B a At = some (decide (K = 10 ∨ K = 11)) := by
 unfold Q70.f
 by_cases h : K = 10 <;> simp [h, Q14]
structure Bound (f : List Q2) (to : List Int) : Prop where
 n0 : 1 ≤ f.length
 n1 : f.length ≤ 60
 bi : Q103.f f = some to
 len : to.length = f.length
 bd : Bd f to [] 0 ((f.length : Int) - 1)
theorem check_run (f : List Q2) (hs : ∀ n ∈ f, (n.Name.length : Int) ≤ 9223372036854775807) : ∃ e i, Q48.f f = some (e, i) ∧ (e = 0 → ∃ to, Bound f to) := by
 obtain ⟨b, hb, hr⟩ := Q297 f hs
 unfold Q48.f
 rw [hb, Option.bind_some]
 cases b with
 | false => exact ⟨1, 0, by simp, by simp⟩
 | true =>
 obtain ⟨n0, n1, sb⟩ := hr rfl
 obtain ⟨to, odd, dep, hw, l1, l2, l3, hbd⟩ := Q280 n0 n1 sb
 simp only [if_true, hw, Option.bind_some]
 have hl0 : ((List.replicate (f.length : Int).toNat (0 : Int)).length : Int) = f.length := by simp
 have hlf : ((List.replicate (f.length : Int).toNat false).length : Int) = f.length := by simp
 obtain ⟨r, hr, hq⟩ := Q65 (body := fun t_ : (List (Bs × Bool)) × Int => Q48.l0b f ([], to, odd, dep, 0) t_.1 t_.2) (fun s => 0 ≤ s.2 ∧ s.2 ≤ (f.length : Int) ∧ ∀ m, 0 ≤ m → m < s.2 → (gt f m).Kind = 4 → 0 ≤ gt to m ∧ gt odd m = false)
  (fun r => (∃ x, r = .inl x ∧ ∀ m, 0 ≤ m → m < (f.length : Int) → (gt f m).Kind = 4 → 0 ≤ gt to m ∧ gt odd m = false) ∨ ∃ e i, r = .inr (e, i) ∧ e ≠ 0) (fun s => ((f.length : Int) - s.2).toNat) (fun ⟨x, i⟩ ⟨a1, a2, a3⟩ => by
   dsimp only at a1 a2 a3 ⊢
   unfold Q48.l0b
   rw [hl0, hlf]
   by_cases hi : i < (f.length : Int)
   ·rw [if_pos hi, if_pos ⟨a1, hi⟩]
    simp only [fix_run, Option.bind_some, if_pos (And.intro a1 hi)]
    by_cases k4 : (gt f i).Kind = 4
    ·have k10 : ¬ ((gt f i).Kind = 10 ∨ (gt f i).Kind = 11) := by omega
     simp only [if_pos k4, Q14, decide_eq_false k10, Bool.false_eq_true, if_false]
     by_cases t0 : gt to i < 0
     ·left; simp only [decide_eq_true t0, if_true, jn_up]; exact ⟨_, rfl, .inr ⟨11, i, rfl, by decide⟩⟩
     simp only [decide_eq_false t0, Bool.false_eq_true, if_false]
     cases ho : gt odd i with
     | true => left; simp only [if_true, jn_up]; exact ⟨_, rfl, .inr ⟨12, i, rfl, by decide⟩⟩
     | false =>
      right
      simp only [Bool.false_eq_true, if_false, Q14]
      rw [wrap64 (x := i + 1) (by omega) (by omega)]
      refine ⟨_, rfl, ⟨by dsimp only; omega, by dsimp only; omega, fun m m0 m1 mk => ?_⟩, by dsimp only; omega⟩
      dsimp only at m1
      by_cases hm : m = i
      ·rw [hm]; exact ⟨by omega, ho⟩
      ·exact a3 m m0 (by omega) mk
    ·simp only [if_neg k4, Q14, Bool.false_eq_true, if_false]
     have nxt : ∀ x' : List (Bs × Bool), ∃ s' : (List (Bs × Bool)) × Int, (nx (x', IntKind.i64.wrap (i + 1)) : Option (((List (Bs × Bool)) × Int) ⊕ (((List (Bs × Bool))) ⊕ (Int × Int)))) = some (.inl s') ∧ (0 ≤ s'.2 ∧ s'.2 ≤ (f.length : Int) ∧ ∀ m, 0 ≤ m → m < s'.2 → (gt f m).Kind = 4 → 0 ≤ gt to m ∧ gt odd m = false) ∧ ((f.length : Int) - s'.2).toNat < ((f.length : Int) - i).toNat := fun x' => by
      rw [wrap64 (x := i + 1) (by omega) (by omega)]
      refine ⟨_, rfl, ⟨by dsimp only; omega, by dsimp only; omega, fun m m0 m1 mk => ?_⟩, by dsimp only; omega⟩
      dsimp only at m1
      by_cases hm : m = i
      ·rw [hm] at mk; exact absurd mk k4
      ·exact a3 m m0 (by omega) mk
     by_cases k10 : (gt f i).Kind = 10 ∨ (gt f i).Kind = 11
     ·simp only [decide_eq_true k10, if_true, Q14]
      cases hse : (mget x (gt f i).Name).getD false with
      | true => left; simp only [if_true, jn_up]; exact ⟨_, rfl, .inr ⟨9, i, rfl, by decide⟩⟩
      | false =>
       simp only [Bool.false_eq_true, if_false]
       by_cases h4 : 4 < gt dep i
       ·left; simp only [decide_eq_true h4, if_true, jn_up]; exact ⟨_, rfl, .inr ⟨13, i, rfl, by decide⟩⟩
       ·right
        simp only [decide_eq_false h4, Bool.false_eq_true, if_false, Q14]
        exact nxt _
     ·right
      simp only [decide_eq_false k10, Bool.false_eq_true, if_false, Q14]
      exact nxt _
   ·left
    rw [if_neg hi]
    exact ⟨_, rfl, .inl ⟨x, rfl, fun m m0 m1 => a3 m m0 (by omega)⟩⟩) ([], 0) ⟨by decide, by dsimp only; omega, fun m m0 m1 => by dsimp only at m1; omega⟩
 have hr' : Q48.l0 f ([], to, odd, dep, 0) [] 0 = some r := hr
 rw [hr']
 rcases hq with ⟨x, rfl, hg⟩ | ⟨e, i, rfl, he⟩
 ·refine ⟨0, 0, rfl, fun _ => ⟨to, n0, n1, ?_, l1, hbd hg⟩⟩
  unfold Q103.f
  rw [hb, Option.bind_some, if_pos rfl, hw]
  rfl
 ·exact ⟨e, i, rfl, fun h => absurd h he⟩
end Go.Bw
namespace Go.Bw
open Go Go.RowKit

noncomputable def itk {σ ρ : Type} (B : σ → Option (σ ⊕ ρ)) : σ ⊕ ρ → Option ρ
 | .inl s' => iter B s'
 | .inr r => some r
theorem Q261 {σ ρ : Type} (B : σ → Option (σ ⊕ ρ)) (s : σ) : iter B s = (B s).bind (itk B) := by
 rw [Q84]
 congr 1
theorem Ev.iter_step {σ ρ : Type} {B : Nat → σ → Option (σ ⊕ ρ)} {s s' : σ} {r : ρ} (h : Ev (fun k => B k s) (.inl s')) (g : Ev (fun k => iter (B k) s') r) : Ev (fun k => iter (B k) s) r := by
 rw [show (fun k => iter (B k) s) = fun k => (B k s).bind (itk (B k)) from funext fun k => Q261 _ _]
 exact Ev.bind (F := fun k => itk (B k)) h g
theorem Ev.iter_end {σ ρ : Type} {B : Nat → σ → Option (σ ⊕ ρ)} {s : σ} {r : ρ} (h : Ev (fun k => B k s) (.inr r)) : Ev (fun k => iter (B k) s) r := by
 rw [show (fun k => iter (B k) s) = fun k => (B k s).bind (itk (B k)) from funext fun k => Q261 _ _]
 exact Ev.bind (F := fun k => itk (B k)) h (Ev.const r)
def Ws (v : BitVec 64) (S : PS) : Prop := ∀ i : Nat, i < 64 → (v.getLsbD i = true ↔ S i)
theorem Ws.uniq {u v : BitVec 64} {S : PS} (hu : Ws u S) (hv : Ws v S) : u = v := by
 apply BitVec.eq_of_getLsbD_eq
 intro i hi
 rw [Bool.eq_iff_iff, hu i hi, hv i hi]
theorem Ws.eq {v : BitVec 64} {S T : PS} {n : Int} (hn : n ≤ 64) (hu : Ws v S) (hv : Ws v T) (hS : ∀ s, S s → 0 ≤ s ∧ s < n) (hT : ∀ s, T s → 0 ≤ s ∧ s < n) : S = T := by
 funext s
 apply propext
 by_cases h : 0 ≤ s ∧ s < n
 ·have a := hu s.toNat (by omega)
  have b := hv s.toNat (by omega)
  rw [show ((s.toNat : Nat) : Int) = s by omega] at a b
  exact a.symm.trans b
 ·exact ⟨fun x => absurd (hS s x) h, fun x => absurd (hT s x) h⟩
theorem Ws.and {u v : BitVec 64} {S T : PS} (hu : Ws u S) (hv : Ws v T) : Ws (u &&& v) (fun s => S s ∧ T s) := fun i hi => by
 rw [BitVec.getLsbD_and, Bool.and_eq_true, hu i hi, hv i hi]
theorem Ws.or {u v : BitVec 64} {S T : PS} (hu : Ws u S) (hv : Ws v T) : Ws (u ||| v) (fun s => S s ∨ T s) := fun i hi => by
 rw [BitVec.getLsbD_or, Bool.or_eq_true, hu i hi, hv i hi]
theorem Ws.minus {u v : BitVec 64} {S T : PS} (hu : Ws u S) (hv : Ws v T) : Ws (u &&& ~~~ v) (fun s => S s ∧ ¬ T s) := fun i hi => by
 rw [BitVec.getLsbD_and, Bool.and_eq_true, hu i hi, BitVec.getLsbD_not]
 show _ ↔ S i ∧ ¬ T i
 rw [← hv i hi]
 simp [hi]
theorem Ws.none : Ws 0#64 (fun _ => False) := fun i hi => by simp
theorem Ws.lt {u v : BitVec 64} {S T : PS} (hu : Ws u S) (hv : Ws v T) (h : Le S T) (hne : u ≠ v) : u.toNat < v.toNat := by
 have e : u = u &&& v := BitVec.eq_of_getLsbD_eq fun i hi => by
  rw [BitVec.getLsbD_and, Bool.eq_iff_iff, Bool.and_eq_true]
  exact ⟨fun x => ⟨x, (hv i hi).2 (h _ ((hu i hi).1 x))⟩, fun x => x.1⟩
 have h1 : u.toNat ≤ v.toNat := by
  rw [e, BitVec.toNat_and]
  exact Nat.and_le_right
 have h2 : u.toNat ≠ v.toNat := fun h => hne (BitVec.eq_of_toNat_eq h)
 omega
theorem W4.word {u : W4} {S : PS} {n : Int} (hn : n ≤ 64) (h : u.Rep S) (hS : ∀ s, S s → 0 ≤ s ∧ s < n) : u = ⟨u.a, 0#64, 0#64, 0#64⟩ ∧ Ws u.a S := by
 have ha : Ws u.a S := fun i hi => by
  have := h i (by omega) (by omega)
  rw [← this]
  unfold W4.has W4.sel
  rw [if_pos (by omega), show ((i : Int) % 64).toNat = i by omega]
 refine ⟨W4.ext4 fun m m0 m1 => ?_, ha⟩
 by_cases hm : m / 64 = 0
 ·unfold W4.has W4.sel
  rw [if_pos hm, if_pos hm]
 ·have e : u.has m = false := by
   cases hh : u.has m with
   | false => rfl
   | true => have := hS m ((h m m0 m1).1 hh); omega
  rw [e]
  unfold W4.has W4.sel
  rw [if_neg hm]
  split
  ·simp
  ·split <;> simp
structure Tb (n : Int) (holds : List (Bs × Q0)) (next : List (Q8 × Q0)) (C : Ctx) : Prop where
 N : C.N = n
 n0 : 1 ≤ n
 n1 : n ≤ 24
 ok : C.Ok
 ho : ∀ a, ∃ v, Q51.f n holds next a = some (Wd v, 0, 0, 0) ∧ Ws v (C.holds a)
 ba : ∀ a v S, Ws v S → Le S C.all → ∃ u, Q25.f n holds next (Wd v) 0 0 0 a = some (Wd u, 0, 0, 0) ∧ Ws u (fun s => ∃ t, C.edge a s t ∧ S t)
abbrev S1 (v : BitVec 64) : Q0 := ⟨Wd v, 0, 0, 0⟩
theorem band00 : band .u64 0 0 = 0 := rfl
theorem bor00 : bor .u64 0 0 = 0 := rfl
theorem bandnot00 : bandnot .u64 0 0 = 0 := rfl
section
variable {n : Int} {holds : List (Bs × Q0)} {next : List (Q8 × Q0)} {C : Ctx} {f : List Q2} {to : List Int} {al : BitVec 64}
theorem Q213 (v : BitVec 64) (e : List Q0) : Q68.f n holds next f to (Wd al) 0 0 0 e (Wd v) 0 0 0 = some (Wd (al &&& ~~~ v), 0, 0, 0) := by
 unfold Q68.f Q33.f
 rw [Q226, bandnot00]
 rfl
def EnvD (C : Ctx) (e : List Q0) (E : Int → PS) (m : Int) : Prop := ∃ v, gt e m = S1 v ∧ Ws v (E m) ∧ Le (E m) C.all
abbrev NdR (C : Ctx) (n' : Int) (f : List Q2) (e : List Q0) (D : PS) (e' : List Q0) (v : BitVec 64) : Prop :=
 e'.length = f.length ∧ (∀ m, n' < m → gt e' m = gt e m) ∧ Ws v D
def jnk {σ ρ : Type} (g : σ → Option ρ) : σ ⊕ ρ → Option ρ
 | .inl s => g s
 | .inr o => some o
theorem jn_jnk {σ ρ : Type} (x : Option (σ ⊕ ρ)) (g : σ → Option ρ) : jn x g = x.bind (jnk g) := by
 rcases x with _ | _ | _ <;> rfl
theorem Ev.jn_inr {σ ρ : Type} {N : Nat → Option (σ ⊕ ρ)} {g : σ → Option ρ} {r : ρ} (h : Ev N (.inr r)) : Ev (fun k => jn (N k) g) r := by
 rw [show (fun k => jn (N k) g) = fun k => (N k).bind (jnk g) from funext fun k => jn_jnk _ _]
 exact Ev.bind (F := fun _ => jnk g) h (Ev.const r)
theorem Q231 {m : Int} (h0 : 0 ≤ m) (h1 : m < (f.length : Int)) (ha : (gt f m).A = m - 1) {e : List Q0} {F : PS → PS} {J : PS → Prop} (μ : BitVec 64 → Nat)
 (hround : ∀ e1 u S, e1.length = f.length → (∀ q, m < q → gt e1 q = gt e q) → gt e1 m = S1 u → Ws u S → J S →
  ∃ e' v, Ev (fun k => Q11.n k n holds next f to (Wd al) 0 0 0 e1 (m - 1)) (e', Wd v, 0, 0, 0) ∧ e'.length = f.length ∧ (∀ q, m - 1 < q → gt e' q = gt e1 q) ∧ Ws v (F S))
 (hJ : ∀ S u v, J S → Ws u S → Ws v (F S) → v ≠ u → J (F S) ∧ μ v < μ u) : ∀ (d : Nat) (e1 : List Q0) (u : BitVec 64) (S : PS), μ u ≤ d → e1.length = f.length → (∀ q, m < q → gt e1 q = gt e q) → gt e1 m = S1 u → Ws u S → J S →
  ∃ e' v S', Ev (fun k => iter (fun t_ : List Q0 => Q18.l0b n holds next f to (Wd al) 0 0 0 m (Q11.n k) t_) e1) (.inr (e', Wd v, 0, 0, 0)) ∧ e'.length = f.length ∧ (∀ q, m < q → gt e' q = gt e q) ∧ Ws v (F S') ∧ Ws v S' ∧ J S' := by
 intro d
 induction d with
 | zero =>
  intro e1 u S hd hl hfr hg hu hS
  obtain ⟨e', v, hev, hl', hfr', hv⟩ := hround e1 u S hl hfr hg hu hS
  have huv : v = u := Classical.byContradiction fun h => by have := (hJ S u v hS hu hv h).2; omega
  refine ⟨e', v, S, Ev.iter_end ?_, hl', fun q hq => (hfr' q (by omega)).trans (hfr q hq), hv, by rw [huv]; exact hu, hS⟩
  simp only [Q18.l0b, if_pos (And.intro h0 h1), ha]
  refine Ev.bind hev ?_
  have hgm := (hfr' m (by omega)).trans hg
  simp only [hgm, huv]
  simp only [decide_true, Bool.and_self, if_true]
  exact Ev.const _
 | succ d ihd =>
  intro e1 u S hd hl hfr hg hu hS
  obtain ⟨e', v, hev, hl', hfr', hv⟩ := hround e1 u S hl hfr hg hu hS
  have hgm := (hfr' m (by omega)).trans hg
  by_cases huv : v = u
  ·refine ⟨e', v, S, Ev.iter_end ?_, hl', fun q hq => (hfr' q (by omega)).trans (hfr q hq), hv, by rw [huv]; exact hu, hS⟩
   simp only [Q18.l0b, if_pos (And.intro h0 h1), ha]
   refine Ev.bind hev ?_
   simp only [hgm, huv]
   simp only [decide_true, Bool.and_self, if_true]
   exact Ev.const _
  ·obtain ⟨hJ', hμ⟩ := hJ S u v hS hu hv huv
   obtain ⟨e2, v2, S2, g1, g2, g3, g4, g5, g6⟩ := ihd (st e' m (S1 v)) v (F S) (by omega) (by rw [Q87, hl']) (fun q hq => by
    rw [Q80 h0 (by omega) (by omega), if_neg (by omega)]
    exact (hfr' q (by omega)).trans (hfr q hq)) (by rw [Q80 h0 (by omega) h0, if_pos rfl]) hv hJ'
   refine ⟨e2, v2, S2, Ev.iter_step (s' := st e' m (S1 v)) ?_ g1, g2, g3, g4, g5, g6⟩
   simp only [Q18.l0b, if_pos (And.intro h0 h1), ha]
   refine Ev.bind hev ?_
   have hne : ¬ Wd v = Wd u := fun h => huv (Wd.inj h)
   simp only [hgm, decide_eq_false hne, Bool.false_and, Bool.false_eq_true, if_false]
   exact Ev.const _
theorem Q263 (T : Tb n holds next C) (hal : Ws al C.all) {sc : List (Int × Bool)} {l m : Int} (b : Bd f to sc l m) : to.length = f.length → (∀ p ∈ sc, m < p.1 ∧ p.1 < (f.length : Int)) → ∀ (e : List Q0) (E : Int → PS), e.length = f.length → (∀ p ∈ sc, EnvD C e E p.1) →
 ∃ e' v, Ev (fun k => Q11.n k n holds next f to (Wd al) 0 0 0 e m) (e', Wd v, 0, 0, 0) ∧ NdR C m f e (den C f to m E) e' v := by
 induction b with
 | @var sc m h0 h1 hk hs =>
  intro hto hsc e E he hE
  obtain ⟨v, hv, hw, _⟩ := hE _ hs
  have := hsc _ hs
  dsimp only at hv hw this
  refine ⟨e, v, Ev.succ rfl (fun k => rfl) ?_, he, fun _ _ => rfl, by rw [Q163 hk]; exact hw⟩
  have hg : Q11.g = Q11.g := rfl
  show Ev (fun k => Q11.g _ _ n holds next f to (Wd al) 0 0 0 e m) _
  simp only [Q11.g, if_pos (And.intro h0 h1), hk, hto, he, if_pos (show 0 ≤ gt to m ∧ gt to m < (f.length : Int) by omega), hv]
  simp
  exact Ev.const _
 | @leaf sc m h0 h1 hk h4 =>
  intro hto hsc e E he hE
  obtain ⟨v, hv, hw⟩ := T.ho (gt f m).Name
  rcases hk with hk | hk | hk | hk | hk
  ·refine ⟨e, al, Ev.succ rfl (fun k => rfl) ?_, he, fun _ _ => rfl, by rw [Q160 hk]; exact hal⟩
   show Ev (fun k => Q11.g _ _ n holds next f to (Wd al) 0 0 0 e m) _
   simp only [Q11.g, if_pos (And.intro h0 h1), hk]
   exact Ev.const _
  ·refine ⟨e, 0#64, Ev.succ rfl (fun k => rfl) ?_, he, fun _ _ => rfl, by rw [Q166 hk]; exact Ws.none⟩
   show Ev (fun k => Q11.g _ _ n holds next f to (Wd al) 0 0 0 e m) _
   simp only [Q11.g, if_pos (And.intro h0 h1), hk]
   exact Ev.const _
  ·refine ⟨e, v, Ev.succ rfl (fun k => rfl) ?_, he, fun _ _ => rfl, by rw [Q173 hk]; exact hw⟩
   show Ev (fun k => Q11.g _ _ n holds next f to (Wd al) 0 0 0 e m) _
   simp only [Q11.g, if_pos (And.intro h0 h1), hk, hv, Option.bind_some]
   exact Ev.const _
  ·exact absurd hk h4
  ·refine ⟨e, al &&& ~~~ v, Ev.succ rfl (fun k => rfl) ?_, he, fun _ _ => rfl, by rw [Q159 hk]; exact hal.minus hw⟩
   show Ev (fun k => Q11.g _ _ n holds next f to (Wd al) 0 0 0 e m) _
   simp only [Q11.g, if_pos (And.intro h0 h1), hk, hv, Option.bind_some, Q213]
   exact Ev.const _
 | @not sc l m h1 hk ha s ih =>
  intro hto hsc e E he hE
  have := s.le
  obtain ⟨e', v, hev, hl, hfr, hw⟩ := ih hto (fun p hp => by
   obtain ⟨q, hq, rfl⟩ := List.mem_map.1 hp
   have := hsc q hq
   dsimp only; omega) e E he (fun p hp => by
   obtain ⟨q, hq, rfl⟩ := List.mem_map.1 hp
   exact hE q hq)
  refine ⟨e', al &&& ~~~ v, Ev.succ rfl (fun k => rfl) ?_, hl, fun q hq => hfr q (by omega), by rw [Q164 hk ha (by omega)]; exact hal.minus hw⟩
  show Ev (fun k => Q11.g (Q11.n k) (Q18.n k) n holds next f to (Wd al) 0 0 0 e m) _
  simp only [Q11.g, if_pos (And.intro (show 0 ≤ m by omega) h1), hk, ha]
  refine Ev.bind hev ?_
  simp only [Q213, Option.bind_some]
  exact Ev.const _
 | @modal sc l m h1 hk ha s ih =>
  intro hto hsc e E he hE
  have := s.le
  obtain ⟨e', v, hev, hl, hfr, hw⟩ := ih hto (fun p hp => by have := hsc p hp; omega) e E he hE
  have hin : Le (den C f to (m - 1) E) C.all := den_in T.ok s (fun p hp => by obtain ⟨v, _, _, h⟩ := hE p hp; exact h) (fun p hp => by have := hsc p hp; omega)
  rcases hk with hk | hk
  ·obtain ⟨u, hu, hwu⟩ := T.ba (gt f m).Name v _ hw hin
   refine ⟨e', u, Ev.succ rfl (fun k => rfl) ?_, hl, fun q hq => hfr q (by omega), by rw [Q158 hk ha (by omega)]; exact hwu⟩
   show Ev (fun k => Q11.g (Q11.n k) (Q18.n k) n holds next f to (Wd al) 0 0 0 e m) _
   simp only [Q11.g, if_pos (And.intro (show 0 ≤ m by omega) h1), hk, ha]
   refine Ev.bind hev ?_
   simp only [hu, Option.bind_some]
   exact Ev.const _
  ·obtain ⟨u, hu, hwu⟩ := T.ba (gt f m).Name (al &&& ~~~ v) _ (hal.minus hw) (fun s h => h.1)
   refine ⟨e', al &&& ~~~ u, Ev.succ rfl (fun k => rfl) ?_, hl, fun q hq => hfr q (by omega), ?_⟩
   ·show Ev (fun k => Q11.g (Q11.n k) (Q18.n k) n holds next f to (Wd al) 0 0 0 e m) _
    simp only [Q11.g, if_pos (And.intro (show 0 ≤ m by omega) h1), hk, ha]
    refine Ev.bind hev ?_
    simp only [Q213, hu, Option.bind_some]
    exact Ev.const _
   ·rw [Q161 hk ha (by omega)]
    have h := hal.minus hwu
    have e1 : (fun s => C.all s ∧ ∀ t, C.edge (gt f m).Name s t → den C f to (m - 1) E t) = fun s => C.all s ∧ ¬ ∃ t, C.edge (gt f m).Name s t ∧ C.all t ∧ ¬ den C f to (m - 1) E t := by
     funext s
     refine propext (and_congr_right fun _ => ?_)
     constructor
     ·rintro h ⟨t, h1, _, h3⟩; exact h3 (h t h1)
     ·intro h t ht
      exact Classical.byContradiction fun hn => h ⟨t, ht, (T.ok.edge _ _ _ ht).2, hn⟩
    rw [e1]
    exact h
 | @fix sc l m h1 hk ha s ih =>
  intro hto hsc e E he hE
  have sl := s.le
  have n1 := T.n1
  have hall : ∀ S : PS, Le S C.all → ∀ s, S s → 0 ≤ s ∧ s < n := fun S h s hs => by have := h s hs; unfold Ctx.all at this; rw [T.N] at this; exact this
  have hsc' : ∀ p ∈ (m, true) :: sc, m - 1 < p.1 ∧ p.1 < (f.length : Int) := fun p hp => by
   rcases List.mem_cons.1 hp with rfl | hp
   ·dsimp only; omega
   ·have := hsc p hp; omega
  have hround : ∀ e1 u S, e1.length = f.length → (∀ q, m < q → gt e1 q = gt e q) → gt e1 m = S1 u → Ws u S → Le S C.all →
   ∃ e' v, Ev (fun k => Q11.n k n holds next f to (Wd al) 0 0 0 e1 (m - 1)) (e', Wd v, 0, 0, 0) ∧ e'.length = f.length ∧ (∀ q, m - 1 < q → gt e' q = gt e1 q) ∧ Ws v (den C f to (m - 1) (updE E m S)) := fun e1 u S hl hfr hg hu hS =>
   ih hto hsc' e1 (updE E m S) hl (fun p hp => by
    rcases List.mem_cons.1 hp with rfl | hp
    ·exact ⟨u, hg, by dsimp only; rw [Q150]; exact hu, by dsimp only; rw [Q150]; exact hS⟩
    ·have := hsc p hp
     obtain ⟨v, h1, h2, h3⟩ := hE p hp
     refine ⟨v, (hfr _ (by omega)).trans h1, ?_, ?_⟩ <;> rw [Q155 (by omega)] <;> assumption)
  have hin : ∀ S, Le S C.all → Le (den C f to (m - 1) (updE E m S)) C.all := fun S hS => den_in T.ok s (fun p hp => by
   rcases List.mem_cons.1 hp with rfl | hp
   ·rw [Q150]; exact hS
   ·have := hsc p hp
    rw [Q155 (by omega)]
    obtain ⟨v, _, _, h⟩ := hE p hp
    exact h) (fun p hp => (hsc' p hp).1)
  have hmono : ∀ S S', Le S S' → Le (den C f to (m - 1) (updE E m S)) (den C f to (m - 1) (updE E m S')) := fun S S' h =>
   Q187 s (fun p hp => (hsc' p hp).1) ((Way.rfl sc E).cons (fun p hp => by have := hsc p hp; omega) h)
  have hup : ∀ q, m < q → gt (st e m (S1 0#64)) q = gt e q := fun q hq => by rw [Q80 (by omega) (by omega) (by omega), if_neg (by omega)]
  have hup' : ∀ q, m < q → gt (st e m (S1 al)) q = gt e q := fun q hq => by rw [Q80 (by omega) (by omega) (by omega), if_neg (by omega)]
  have hfix : ∀ (a b : BitVec 64) (D : PS) (e' : List Q0), Ev (fun k => iter (fun t_ : List Q0 => Q18.l0b n holds next f to (Wd al) 0 0 0 m (Q11.n k) t_) (st e m (S1 a))) (.inr (e', Wd b, 0, 0, 0)) →
   Ev (fun k => Q18.n k n holds next f to (Wd al) 0 0 0 e m (Wd a) 0 0 0) (e', Wd b, 0, 0, 0) := fun a b D e' h => by
   refine Ev.succ rfl (fun k => rfl) ?_
   show Ev (fun k => Q18.g (Q11.n k) (Q18.n k) n holds next f to (Wd al) 0 0 0 e m (Wd a) 0 0 0) _
   simp only [Q18.g, Q18.l0, he, if_pos (And.intro (show 0 ≤ m by omega) h1)]
   exact Ev.jn_inr h
  rcases hk with hk | hk
  ·obtain ⟨e', v, S', g1, g2, g3, g4, g5, g6, g7, g8⟩ := Q231 (n := n) (holds := holds) (next := next) (to := to) (al := al) (show 0 ≤ m by omega) h1 ha (e := e) (F := fun S => den C f to (m - 1) (updE E m S)) (J := fun S => Le S C.all ∧ Le S (den C f to (m - 1) (updE E m S)) ∧ Le S (lfp fun S => den C f to (m - 1) (updE E m S))) (fun u => 2 ^ 64 - u.toNat)
    (fun e1 u S hl hfr hg hu hS => hround e1 u S hl hfr hg hu hS.1) (fun S u v hS hu hv hne => ⟨⟨hin S hS.1, hmono _ _ hS.2.1, fun s hs => lfp_pre hmono s (hmono _ _ hS.2.2 s hs)⟩, by
     have := hu.lt hv hS.2.1 (fun h => hne h.symm)
     have := v.isLt
     omega⟩) (2 ^ 64) (st e m (S1 0#64)) 0#64 (fun _ => False) (by omega) (by rw [Q87, he]) hup (by rw [Q80 (by omega) (by omega) (by omega), if_pos rfl]) Ws.none ⟨fun _ h => h.elim, fun _ h => h.elim, fun _ h => h.elim⟩
   have hSF : S' = den C f to (m - 1) (updE E m S') := Ws.eq (n := n) (by omega) g5 g4 (hall _ g6) (hall _ (hin _ g6))
   refine ⟨e', v, Ev.succ rfl (fun k => rfl) ?_, g2, g3, ?_⟩
   ·show Ev (fun k => Q11.g (Q11.n k) (Q18.n k) n holds next f to (Wd al) 0 0 0 e m) _
    simp only [Q11.g, if_pos (And.intro (show 0 ≤ m by omega) h1), hk]
    exact Ev.bind (hfix 0#64 v (fun _ => False) e' g1) (Ev.const _)
   ·rw [Q171 hk ha (by omega)]
    have : S' = lfp fun S => den C f to (m - 1) (updE E m S) := funext fun s => propext ⟨g8 s, fun h => h S' fun t ht => by rw [hSF]; exact ht⟩
    rw [← this]
    exact g5
  ·obtain ⟨e', v, S', g1, g2, g3, g4, g5, g6, g7, g8⟩ := Q231 (n := n) (holds := holds) (next := next) (to := to) (al := al) (show 0 ≤ m by omega) h1 ha (e := e) (F := fun S => den C f to (m - 1) (updE E m S)) (J := fun S => Le S C.all ∧ Le (den C f to (m - 1) (updE E m S)) S ∧ Le (gfp fun S s => C.all s ∧ den C f to (m - 1) (updE E m S) s) S) (fun u => u.toNat)
    (fun e1 u S hl hfr hg hu hS => hround e1 u S hl hfr hg hu hS.1) (fun S u v hS hu hv hne => ⟨⟨hin S hS.1, hmono _ _ hS.2.1, fun s hs => hmono _ _ hS.2.2 s (Q273 (F := fun S s => C.all s ∧ den C f to (m - 1) (updE E m S) s) (fun S S' h s hs => ⟨hs.1, hmono _ _ h s hs.2⟩) s hs).2⟩, hv.lt hu hS.2.1 hne⟩) al.toNat (st e m (S1 al)) al C.all (by omega) (by rw [Q87, he]) hup' (by rw [Q80 (by omega) (by omega) (by omega), if_pos rfl]) hal ⟨fun _ h => h, hin _ (fun _ h => h), fun s ⟨S, hS, hs⟩ => (hS s hs).1⟩
   have hSF : S' = den C f to (m - 1) (updE E m S') := Ws.eq (n := n) (by omega) g5 g4 (hall _ g6) (hall _ (hin _ g6))
   refine ⟨e', v, Ev.succ rfl (fun k => rfl) ?_, g2, g3, ?_⟩
   ·show Ev (fun k => Q11.g (Q11.n k) (Q18.n k) n holds next f to (Wd al) 0 0 0 e m) _
    simp only [Q11.g, if_pos (And.intro (show 0 ≤ m by omega) h1), hk]
    exact Ev.bind (hfix al v (fun _ => False) e' g1) (Ev.const _)
   ·rw [Q169 hk ha (by omega)]
    have : S' = gfp fun S s => C.all s ∧ den C f to (m - 1) (updE E m S) s := funext fun s => propext ⟨fun h => ⟨S', fun t ht => ⟨g6 t ht, by rw [← hSF]; exact ht⟩, h⟩, g8 s⟩
    rw [← this]
    exact g5
 | @two sc l q m h1 hk ha hb s t ih1 ih2 =>
  intro hto hsc e E he hE
  have := s.le
  have := t.le
  obtain ⟨e1, v1, hev1, hl1, hfr1, hw1⟩ := ih1 hto (fun p hp => by have := hsc p hp; omega) e E he hE
  obtain ⟨e2, v2, hev2, hl2, hfr2, hw2⟩ := ih2 hto (fun p hp => by have := hsc p hp; omega) e1 E hl1 (fun p hp => by
   obtain ⟨v, h1, h2⟩ := hE p hp
   have := hsc p hp
   exact ⟨v, (hfr1 _ (by omega)).trans h1, h2⟩)
  have hfr : ∀ w, m < w → gt e2 w = gt e w := fun w hw => (hfr2 w (by omega)).trans (hfr1 w (by omega))
  rcases hk with hk | hk
  ·refine ⟨e2, v1 &&& v2, Ev.succ rfl (fun k => rfl) ?_, hl2, hfr, by rw [Q168 hk ha hb (by omega) (by omega)]; exact hw1.and hw2⟩
   show Ev (fun k => Q11.g (Q11.n k) (Q18.n k) n holds next f to (Wd al) 0 0 0 e m) _
   simp only [Q11.g, if_pos (And.intro (show 0 ≤ m by omega) h1), hk, ha, hb]
   refine Ev.bind hev1 (Ev.bind hev2 ?_)
   simp only [Q69.f, Q193, band00, Option.bind_some]
   exact Ev.const _
  ·refine ⟨e2, v1 ||| v2, Ev.succ rfl (fun k => rfl) ?_, hl2, hfr, by rw [Q167 hk ha hb (by omega) (by omega)]; exact hw1.or hw2⟩
   show Ev (fun k => Q11.g (Q11.n k) (Q18.n k) n holds next f to (Wd al) 0 0 0 e m) _
   simp only [Q11.g, if_pos (And.intro (show 0 ≤ m by omega) h1), hk, ha, hb]
   refine Ev.bind hev1 (Ev.bind hev2 ?_)
   simp only [Q97.f, bor_wd, bor00, Option.bind_some]
   exact Ev.const _
end
end Go.Bw
namespace Go.Bw
open Go Go.RowKit

def wide (x : Q2) : Q2 := if x.Kind = 12 then { x with Kind := 3 } else x
theorem Q157 (x : Q2) : (wide x).A = x.A ∧ (wide x).B = x.B ∧ (wide x).Name = x.Name := by
 unfold wide
 split <;> exact ⟨rfl, rfl, rfl⟩
theorem Q127 {x : Q2} {k : Int} (h : k ≠ 3) (hk : (wide x).Kind = k) : x.Kind = k := by
 unfold wide at hk
 split at hk
 ·exact absurd hk.symm h
 ·exact hk
theorem Bd.wide_of {f g : List Q2} {to : List Int} (hl : g.length = f.length) (hg : ∀ m, 0 ≤ m → m < (f.length : Int) → gt g m = Bw.wide (gt f m)) {sc : List (Int × Bool)} {l n : Int} (b : Bd g to sc l n) : Bd f to sc l n := by
 induction b with
 | @var sc n h0 h1 hk hs =>
  rw [hl] at h1
  rw [hg n h0 h1] at hk
  exact .var h0 h1 (Q127 (by decide) hk) hs
 | @leaf sc n h0 h1 hk h4 =>
  rw [hl] at h1
  rw [hg n h0 h1] at hk h4
  refine .leaf h0 h1 ?_ fun h => h4 ?_
  ·unfold Bw.wide at hk
   unfold Leafy at hk ⊢
   split at hk <;> omega
  ·unfold Bw.wide
   rw [if_neg (by omega)]; exact h
 | @not sc l n h1 hk ha s ih =>
  have := s.le
  rw [hl] at h1
  rw [hg n (by omega) h1] at hk ha
  rw [(Q157 _).1] at ha
  exact .not h1 (Q127 (by decide) hk) ha ih
 | @modal sc l n h1 hk ha s ih =>
  have := s.le
  rw [hl] at h1
  rw [hg n (by omega) h1] at hk ha
  rw [(Q157 _).1] at ha
  exact .modal h1 (hk.imp (Q127 (by decide)) (Q127 (by decide))) ha ih
 | @fix sc l n h1 hk ha s ih =>
  have := s.le
  rw [hl] at h1
  rw [hg n (by omega) h1] at hk ha
  rw [(Q157 _).1] at ha
  exact .fix h1 (hk.imp (Q127 (by decide)) (Q127 (by decide))) ha ih
 | @two sc l m n h1 hk ha hb s t ih1 ih2 =>
  have := s.le
  have := t.le
  rw [hl] at h1
  rw [hg n (by omega) h1] at hk ha hb
  rw [(Q157 _).1] at ha
  rw [(Q157 _).2.1] at hb
  exact .two h1 (hk.imp (Q127 (by decide)) (Q127 (by decide))) ha hb ih1 ih2
theorem Q249 {n : Int} (h0 : 1 ≤ n) (h1 : n ≤ 24) : Q67.f n = some (Wd (BitVec.ofInt 64 (2 ^ n.toNat - 1)), 0, 0, 0) := by
 have key : ∀ m : Fin 24, Q67.f ((m.1 : Int) + 1) = some (Wd (BitVec.ofInt 64 (2 ^ (m.1 + 1) - 1)), 0, 0, 0) := by decide +kernel
 have := key ⟨(n - 1).toNat, by omega⟩
 dsimp only at this
 rwa [show (((n - 1).toNat : Nat) : Int) + 1 = n by omega, show (n - 1).toNat + 1 = n.toNat by omega] at this
theorem full_ws {n : Int} (h0 : 1 ≤ n) (h1 : n ≤ 24) : Ws (BitVec.ofInt 64 (2 ^ n.toNat - 1)) (fun s => 0 ≤ s ∧ s < n) := fun i hi => by
 have key : ∀ m : Fin 25, ∀ i : Fin 64, (BitVec.ofInt 64 (2 ^ m.1 - 1)).getLsbD i.1 = decide (i.1 < m.1) := by decide +kernel
 have := key ⟨n.toNat, by omega⟩ ⟨i, hi⟩
 dsimp only at this ⊢
 rw [this, decide_eq_true_iff]
 omega
end Go.Bw
namespace Go.Bw
open Go Go.RowKit Go.Proofs
variable {R : Res} {Fr : List HProp}

noncomputable def Q113.f (q u x D G I J L : Int) : Option Bool :=
 (Q33.f q u x D G I J L).bind fun p =>
 some (decide (p.1 = 0) && (decide (p.2.1 = 0) && (decide (p.2.2.1 = 0) && (decide (p.2.2.2 = 0) && true))))
theorem Q113.callee : Callee Tryz.prog 22 := ⟨_, Tryz.func22, by kernel_rfl, by kernel_rfl⟩
theorem Q113.spec {q u x D G I J L : Int} {r : Bool} (j : Q113.f q u x D G I J L = some r) :
 Spec Tryz.prog 22 [.agg #[.int .u64 q, .int .u64 u, .int .u64 x, .int .u64 D], .agg #[.int .u64 G, .int .u64 I, .int .u64 J, .int .u64 L]] R (Fr) (fun v l' => v = .bool r ∧ Fr = l') := by
 refine Spec.of Tryz.func22 rfl rfl ?_; unfold Q113.f at j; have j := brun j; refine At.seq (At.region ?_); refine At.box rfl rfl (cs := [.int .u64 q, .int .u64 u, .int .u64 x, .int .u64 D]) rfl rfl (fun O => ?_); refine At.box rfl rfl (cs := [.int .u64 G, .int .u64 I, .int .u64 J, .int .u64 L]) rfl rfl (fun U => ?_); refine At.run 1 rfl (nT (At.seq (At.region (At.y (Y.load rfl rfl (.s .z) rfl rfl rfl) rfl rfl rfl (At.y (Y.load rfl rfl .z rfl rfl rfl) rfl rfl rfl ?_))))); obtain ⟨p, M, j⟩ := bbind j; refine At.call rfl Q33.callee rfl rfl rfl (Q33.spec M) ?_; rintro _ _ ⟨rfl, rfl⟩; refine At.y (Y.buildA (is := []) (xo := []) (vs := []) (cs := [.int .u64 0, .int .u64 0, .int .u64 0, .int .u64 0]) rfl rfl rfl rfl rfl rfl) rfl rfl rfl ?_; refine At.y (Y.eqAr (xs := [.int .u64 p.1, .int .u64 p.2.1, .int .u64 p.2.2.1, .int .u64 p.2.2.2]) (ys := [.int .u64 0, .int .u64 0, .int .u64 0, .int .u64 0]) rfl rfl rfl rfl rfl rfl rfl (by kernel_rfl) rfl) rfl rfl rfl ?_; refine At.run 1 rfl (nT (At.ret (At.drop .z (At.drop .z ?_)))); cases bret j; exact At.res (.inl rfl) rfl rfl ⟨rfl, rfl⟩



end Go.Bw
namespace Go.Bw
open Go Go.RowKit
theorem Q313 (P : Program) (w : World) (dT sT ty elem : TypeId) (g o dLen dCap : Nat) (a : Addr) (sLen sCap : Nat) (cur : Array Value) (t : TypeId) (cs : List Value) (z : Nat)
 (hu : P.underlying dT = some (.slice elem)) (hs : (P.info? elem).map (·.size) = some z)
 (hg : w.heap[g]? = some (.cells cur t (0, 0))) (hn : cs.length = Nat.min sLen dLen * z)
 (hsrc : ∀ j v, cs[j]? = some v → w.cell? (a.add j) = some v) (hfit : o + cs.length ≤ cur.size) (h1 : ∀ v ∈ cs, v.oneCell' = true) :
 (Builtin.copy_ #[dT, sT] ty #[.slice (some ⟨g, o, none⟩) dLen dCap, .slice (some a) sLen sCap]).run P w =
  .ok (goInt (Nat.min sLen dLen)) (w.setRow g (cur.toList.take o ++ cs ++ cur.toList.drop (o + cs.length)).toArray) := by
 have hl := run_loadCells_list (P := P) w a cs hsrc
 have hst := run_storeCells_at P g o t cs 0 cur w hg (by simpa using hfit) h1
 cases hq : P.info? elem with
 | none => simp [hq] at hs
 | some i =>
  have hi : i.size = z := by simpa [hq] using hs
  rw [hn] at hl
  simp [Builtin.copy_, run_underlying hu, Builtin.lenOf, Builtin.firstCells, sizeOf, typeInfo, hq, hi, hl, hst]
theorem Q278 (P : Program) (w : World) (dT sT ty elem : TypeId) (d a : Option Addr) (dLen dCap sLen sCap z : Nat) (hu : P.underlying dT = some (.slice elem)) (hs : (P.info? elem).map (·.size) = some z) (hn : Nat.min sLen dLen = 0) :
 (Builtin.copy_ #[dT, sT] ty #[.slice d dLen dCap, .slice a sLen sCap]).run P w = .ok (goInt 0) w := by
 cases hq : P.info? elem with
 | none => simp [hq] at hs
 | some i =>
  have hl : ∀ (x : Addr), (loadCells x 0).run P w = .ok #[] w := fun x => by simpa using run_loadCells_list (P := P) w x [] (by simp)
  cases d <;> cases a <;> simp [Builtin.copy_, run_underlying hu, Builtin.lenOf, Builtin.firstCells, sizeOf, typeInfo, hq, hn, storeCells, hl]
section
variable {P : Program} [Tys P] {os : List Oper} {Q : Exit → Act → World → Prop} {rest : List Oper} {n : Nat} {ds : List Deferred} {R : Res} {env : List (Nat × Value)} {l l' : List HProp}
variable {d ty : Nat} {pos : String} {af : Array Edge} {g : Option (Nat × Bool)} {α : Type} [Inhabited α] {F : Fl α} {e t t2 : Nat} {A : Option Addr} {c m : Nat} {xs ys : List α} {K : Act → World → Prop}
theorem Q307 (k : Nat) : (xs.flatMap F.enc).drop (k * F.sz) = (xs.drop k).flatMap F.enc := by
 by_cases hk : k ≤ xs.length
 ·have : xs.flatMap F.enc = (xs.take k).flatMap F.enc ++ (xs.drop k).flatMap F.enc := by rw [← List.flatMap_append, List.take_append_drop]
  have hl : ((xs.take k).flatMap F.enc).length = k * F.sz := by rw [Q37]; simp [Nat.min_eq_left hk]
  rw [this, ← hl, List.drop_left]
 ·rw [List.drop_of_length_le (by rw [Q37]; exact Nat.mul_le_mul_right _ (by omega)), List.drop_of_length_le (by omega)]
  rfl
theorem At.copyRdW (hg : grd os env g = some true) {x y : Operand} {B : Option Addr} {k cb : Nat} {ii j : TI} (f : Frt l (row F e A m c xs) l') (hr : RdS F.rep R.heap B ys) (hk2 : ys.length = k) (hi : ti P t = some ii) (hk : ii.k = .slice e) (hj : ti P e = some j) (hjs : j.size = F.sz)
 (hx : ev env x = some (.slice A m c)) (hy : ev env y = some (.slice B k cb)) (hd : Nat.blt d n = true)
 (h : At n ds R ((d, .int .i64 ((Nat.min k m : Nat) : Int)) :: env) (row F e A m c (ys.take m ++ xs.drop k) :: l') (wpList P os.toArray Q rest)) :
 At n ds R env l (wpList P os.toArray Q (⟨some d, .call ⟨.builtin .copy, #[x, y], #[t, t2]⟩, ty, pos, af, g⟩ :: rest)) := Q85 hg rfl hd fun a w e0 hs => by
 have hs1 := hs.frt f
 have hm : xs.length = m := let ⟨_, o, _⟩ := hs1.head; Q105 o
 subst hk2
 subst hm
 obtain ⟨xi, z, hxi, hsz, hby, hze, hzc⟩ := (Q12 hj).info
 have hu := (Q12 hi).slice hk
 have hsz1 : (P.info? e).map (·.size) = some F.sz := by rw [hxi]; simp [hsz, hjs]
 by_cases h0 : Nat.min ys.length xs.length = 0
 ·have hsame : ys.take xs.length ++ xs.drop ys.length = xs := by
   rcases Nat.lt_or_ge 0 ys.length with h1 | h1
   ·have h2 : xs = [] := List.eq_nil_of_length_eq_zero (by have : Nat.min ys.length xs.length = min ys.length xs.length := rfl; omega)
    rw [h2]; simp
   ·have h2 : ys = [] := List.eq_nil_of_length_eq_zero (by omega)
    rw [h2]; simp
  rw [hsame, h0] at h
  refine ⟨goInt 0, w, row F e A xs.length c xs :: l', ?_, hs1, h⟩
  have hrun := Q278 P w t t2 ty e A B xs.length c ys.length cb _ hu hsz1 h0
  simp only [execOp, resolve, invoke, builtin, Sem.run_bind, Sem.run_pure, Result.andThen_ok, List.map_toArray, List.map_cons, List.map_nil, e0.ev hx, e0.ev hy, hrun]
 ·have hmin : Nat.min ys.length xs.length = min ys.length xs.length := rfl
  have hyn : ys ≠ [] := fun he => h0 (by rw [he]; simp [hmin])
  obtain ⟨ad, rfl, hcells⟩ := Src.rd hr hyn w hs
  obtain ⟨h', o, s, kk⟩ := hs1.upd
  obtain ⟨gb, cur, rfl, hgb, h3, h4, h5, h6⟩ := Q154 o (by omega)
  have hgw : w.heap[gb]? = some (.cells cur e (0, 0)) := s gb _ hgb
  have hcl : ((ys.take xs.length).flatMap F.enc).length = Nat.min ys.length xs.length * F.sz := by rw [Q37, hmin, List.length_take, Nat.min_comm]
  have hone : ∀ v ∈ (ys.take xs.length).flatMap F.enc, v.oneCell' = true := Q204 F _
  have hfit : Nat.min ys.length xs.length * F.sz ≤ c * F.sz := Nat.mul_le_mul_right _ (by rw [hmin]; omega)
  have hrun := Q313 P w t t2 ty e gb 0 xs.length c ad ys.length cb cur e ((ys.take xs.length).flatMap F.enc) _ hu hsz1 hgw hcl (fun j v hv => hcells j v (Q286 _ hv)) (by rw [hcl, h5]; omega) hone
  rw [hcl] at hrun
  refine ⟨goInt (Nat.min ys.length xs.length), w.setRow gb (cur.toList.take 0 ++ (ys.take xs.length).flatMap F.enc ++ cur.toList.drop (0 + Nat.min ys.length xs.length * F.sz)).toArray, _, ?_, ?_, h⟩
  ·simp only [execOp, resolve, invoke, builtin, Sem.run_bind, Sem.run_pure, Result.andThen_ok, List.map_toArray, List.map_cons, List.map_nil, e0.ev hx, e0.ev hy, hrun]
  ·have hnew := setRow_heap w gb cur (cur.toList.take 0 ++ (ys.take xs.length).flatMap F.enc ++ cur.toList.drop (0 + Nat.min ys.length xs.length * F.sz)).toArray e (0, 0) hgw
   have hcl5 : cur.toList.length = c * F.sz := by rw [Array.length_toList, h5]
   have hll : (cur.toList.take 0 ++ (ys.take xs.length).flatMap F.enc ++ cur.toList.drop (0 + Nat.min ys.length xs.length * F.sz)).length = cur.size := by
    rw [List.length_append, List.length_append, List.length_drop, hcl, hcl5, h5]; simp; omega
   refine kk _ (single gb (.cells (cur.toList.take 0 ++ (ys.take xs.length).flatMap F.enc ++ cur.toList.drop (0 + Nat.min ys.length xs.length * F.sz)).toArray e)) _ ?_ rfl rfl rfl (Nat.le_refl _) (fun x o' hx hn => ?_) (fun x o' hx => ?_) (fun x o' hx => ?_)
   ·have hsl : (ys.take xs.length ++ xs.drop ys.length).length = xs.length := by simp; omega
    refine ⟨by rw [Q37, hsl], .inr ⟨gb, _, rfl, Q188 _ _, h3, h4, by rw [List.size_toArray, hll, h5], ?_⟩⟩
    have hge : Nat.min ys.length xs.length * F.sz ≤ xs.length * F.sz := Nat.mul_le_mul_right _ (by rw [hmin]; omega)
    rw [List.flatMap_append, List.take_zero, List.nil_append, Nat.zero_add, List.take_append, hcl, List.take_of_length_le (by rw [hcl]; exact hge)]
    congr 1
    rw [← Nat.sub_mul, ← Q307, ← h6, List.drop_take, Nat.sub_mul]
    by_cases hlt : ys.length ≤ xs.length
    ·rw [show Nat.min ys.length xs.length = ys.length from by rw [hmin]; omega]
    ·rw [show Nat.min ys.length xs.length = xs.length from by rw [hmin]; omega, Nat.sub_self, List.take_zero, ← Nat.sub_mul, show xs.length - ys.length = 0 by omega, Nat.zero_mul, List.take_zero]
   ·rw [setRow_other w gb x _ (fun hxg => by subst hxg; rw [hgb] at hn; cases hn)]; exact hx
   ·obtain ⟨rfl, rfl⟩ := Q93 hx; exact hnew
   ·obtain ⟨rfl, rfl⟩ := Q93 hx; exact .inl ⟨_, hgb⟩
end
end Go.Bw
