/- BuildBeside, part 4: walks and plain laws. Conditions: none. -/
import Derived.Test.YtfbjkcnefhgodaaGreatDoorProg
import Derived.Deep.QuietTactic
import Derived.LaidMore
import Derived.ProofKit
import Derived.OpenShut
import Derived.Test.YtfbjkcnefhgodaaGreatDoorBwBuildBesideC
set_option linter.unusedVariables false
set_option linter.unusedSimpArgs false
set_option linter.unusedSectionVars false
set_option maxRecDepth 100000
set_option maxHeartbeats 2000000
namespace Go.Bw
open Go Go.RowKit Go.Proofs
variable {R : Res} {Fr : List HProp} {A0 A0_0 A0_2 : Option Addr} {n0 c0 b0 n0_0 c0_0 n0_2 c0_2 b1 : Nat}
structure Q0 where
 Kind : Int
 A : Int
 B : Int
 Name : Bs
 At : Int
deriving Inhabited, DecidableEq
def Q0.fl : Fl Q0 := ⟨5, fun x => [i6 x.Kind, i6 x.A, i6 x.B, .string ⟨(x.Name).toArray⟩, i6 x.At], fun _ => rfl, fun x u hu => by simp at hu; rcases hu with rfl | rfl | rfl | rfl | rfl <;> rfl, by decide⟩
noncomputable def Q120.f (p q : Int) (u : Bs) (C : Int) : Option Bool :=
 some (decide (p = 1))
theorem Q120.callee : Callee Tryz.prog 65 := ⟨_, Tryz.func65, by kernel_rfl, by kernel_rfl⟩
theorem Q120.spec {p q u : Int} {C : Bs} {r : Bool} (j : Q120.f p q C u = some r) :
 Spec Tryz.prog 65 [.agg #[i6 p, i6 q, .string ⟨(C).toArray⟩, i6 u]] R (Fr) (fun v l' => v = .bool r ∧ Fr = l') := by
 refine Spec.of Tryz.func65 rfl rfl ?_; unfold Q120.f at j; have j := brun j; refine At.seq (At.region ?_); refine At.box rfl rfl (cs := [i6 p, i6 q, .string ⟨(C).toArray⟩, i6 u]) rfl rfl (fun D => ?_); refine At.run 1 rfl (nT (sR 1 rfl (At.y (Y.load rfl rfl .z rfl rfl rfl) rfl rfl rfl (At.run 2 rfl ?_)))); refine nT (At.ret (At.drop .z ?_)); cases bret j; exact At.res (.inl rfl) rfl rfl ⟨rfl, rfl⟩

noncomputable def Q92.l0b (a0 : List Q1) (p : Int) : Option ((Int) ⊕ ((Unit) ⊕ (Int))) :=
 if p < (a0.length : Int) then
 if (0 : Int) ≤ p ∧ p < (a0.length : Int) then
 (Q120.f ((gt a0 p).Kind) ((gt a0 p).At) ((gt a0 p).Text) ((gt a0 p).Number)).bind fun q =>
 if q = true then
 upL (some p)
 else
 nx (IntKind.i64.wrap (p + 1))
 else none
 else
 dn (.inl ())
noncomputable def Q92.l0 (a0 : List Q1) (p : Int) : Option ((Unit) ⊕ (Int)) := iter (fun t_ : Int => Q92.l0b a0 t_) p
noncomputable def Q92.f (a0 : List Q1) : Option Int :=
 jn (Q92.l0 a0 0) (fun (_ : Unit) =>
 some (-1))
theorem Q92.callee : Callee Tryz.prog 123 := ⟨_, Tryz.func123, by kernel_rfl, by kernel_rfl⟩
theorem Q92.spec {a0 : List Q1} (hr0 : RdS Q1.fl.rep R.heap A0 a0) (hn0 : a0.length = n0) (hc0 : n0 ≤ c0) {r : Int} (j : Q92.f a0 = some r) :
 Spec Tryz.prog 123 [.slice A0 n0 c0, .func (.func 65) #[] #[]] R (Fr) (fun v l' => v = i6 r ∧ Fr = l') := by
 subst hn0; refine Spec.of Tryz.func123 rfl rfl ?_; unfold Q92.f at j; have j := brun j; refine sR 1 rfl (nT (At.seq (At.seq (At.region ?_)))); refine At.run 3 rfl (nT ?_); refine At.block ?_; obtain ⟨V, Z, a1, j⟩ := bjoin j; obtain ⟨J, D, U⟩ := bsome j; clear j; unfold Q92.l0 at D; obtain ⟨E, u⟩ := Q15.1 D; clear D; refine At.loopJ (X := Int) (Y := Unit) (e0 := 0) (fun p => [(0, .slice A0 a0.length c0), (1, .func (.func 65) #[] #[]), (7, i6 (a0.length : Int)), (8, i6 p)]) (fun p => Fr) (fun m_ => fun p => iterN (fun t_ : Int => Q92.l0b a0 t_) m_ p = some J) E 0 u (fun _ => []) (fun _ => Fr) (fun _ => V (.inl ()) = some r) (fun a w e hs => ⟨e.sub ⟨rfl, rfl, rfl, rfl, trivial⟩, (by exact hs)⟩) ?_ (fun a2 => ?_)
 ·rintro _ j; have j := (Z _).symm.trans j
  ·refine At.ibx ?_; refine At.thn (sR 1 rfl (nT (At.ret ?_))); cases bret j; exact At.res (.inl rfl) rfl rfl ⟨rfl, rfl⟩
 ·clear u E; rintro E p u; obtain ⟨a3, f_, a4, hf_, j⟩ := bit u; clear u; have j : (Q92.l0b a0 p).bind _ = some J := j; unfold Q92.l0b at j
  ·refine sR 1 rfl (nT (At.seq ?_)); rcases bite j with ⟨G, j⟩ | ⟨G, j⟩
   ··refine At.condT rfl (decide_eq_true G) ?_
     refine At.skip (At.thn (At.seq ?_)); refine At.block ?_; refine sR 2 rfl (nT (sR 3 rfl ?_)); obtain ⟨C, j⟩ := bnone j; refine At.y (Y.ixRd hr0 rfl rfl rfl rfl rfl rfl rfl C.1 C.2) rfl rfl rfl (At.y (Y.ldFl hr0 rfl (q := 0) rfl rfl C.1 C.2 rfl rfl rfl) rfl rfl rfl ?_); obtain ⟨a6, a5, j⟩ := bbind j; refine At.call rfl Q120.callee rfl rfl rfl (Q120.spec a5) ?_; rintro _ _ ⟨rfl, rfl⟩; refine nT ?_; rcases bite j with ⟨I, j⟩ | ⟨I, j⟩
     ··refine At.condT rfl I ?_
       refine sR 2 rfl (nT (At.ret ?_)); refine At.ibr ?_; refine At.thr ?_; have j := bupL a1 U j; refine At.thr ?_; refine At.ibr ?_; refine At.thr ?_; cases bret j; exact At.res (.inl rfl) rfl rfl ⟨rfl, rfl⟩
     ··refine At.condF rfl (bn I) ?_
       refine At.skip ?_; refine At.ibn ?_; refine At.thn (At.region (At.run 2 rfl (At.nil ?_))); have j := bnx hf_ j; exact fun a w e hs => ⟨a3, (IntKind.i64.wrap (p + 1)), a4, j, e.sub ⟨rfl, rfl, rfl, rfl, trivial⟩, hs⟩
   ··refine At.condF rfl (decide_eq_false G) ?_
     refine At.exit ?_; refine At.the ?_; refine At.the ?_; exact fun a w e hs => a2 () (bdn j U) a w (e.sub trivial) hs

noncomputable def Q91.l0b (a0 q : List Q1) (u p : Int) : Option (((List Q1) × Int × Int) ⊕ (((List Q1) × Int) ⊕ ((List Q1)))) :=
 if p < (a0.length : Int) then
 jn (
 if (0 : Int) ≤ p ∧ p < (a0.length : Int) then
 (Q120.f ((gt q p).Kind) ((gt q p).At) ((gt q p).Text) ((gt q p).Number)).bind fun C =>
 if C = true then
 some (.inl (q, u))
 else
 if (0 : Int) ≤ u ∧ u < (a0.length : Int) then
 some (.inl ((st q u (⟨(gt q p).Kind, (gt q p).At, (gt q p).Text, (gt q p).Number⟩ : Q1)), IntKind.i64.wrap (u + 1)))
 else none
 else none) (fun (s_ : (List Q1) × Int) =>
 nx (s_.1, s_.2, IntKind.i64.wrap (p + 1)))
 else
 dn (.inl (q, u))
noncomputable def Q91.l0 (a0 p : List Q1) (q u : Int) : Option (((List Q1) × Int) ⊕ ((List Q1))) := iter (fun t_ : (List Q1) × Int × Int => Q91.l0b a0 t_.1 t_.2.1 t_.2.2) (p, q, u)
noncomputable def Q91.f (a0 : List Q1) : Option (List Q1) :=
 (Q92.f a0).bind fun p =>
 if p = (-1) then
 some a0
 else
 jn (Q91.l0 a0 a0 p (IntKind.i64.wrap (p + 1))) (fun (s_ : (List Q1) × Int) =>
 if (0 : Int) ≤ s_.2 ∧ s_.2 ≤ (a0.length : Int) then
 some ((s_.1.take s_.2.toNat ++ List.replicate (a0.length - s_.2.toNat) (⟨(0 : Int), (0 : Int), ([] : Bs), (0 : Int)⟩ : Q1)).take s_.2.toNat)
 else none)
theorem Q91.callee : Callee Tryz.prog 64 := ⟨_, Tryz.func64, by kernel_rfl, by kernel_rfl⟩
theorem Q91.spec {a0 : List Q1} (hn0 : a0.length = n0) {r : (List Q1)} (j : Q91.f a0 = some r) :
 Spec Tryz.prog 64 [.slice A0 n0 c0, .func (.func 65) #[] #[]] R (row Q1.fl 115 A0 n0 c0 a0 :: Fr) (fun v l' => ∃ (J : Nat), v = .slice A0 J c0 ∧ row Q1.fl 115 A0 J c0 r :: Fr = l' ∧ r.length = J) := by
 subst hn0; refine Spec.of Tryz.func64 rfl rfl ?_; unfold Q91.f at j; have j := brun j; refine sR 1 rfl (nT (sR 2 rfl ?_)); refine At.freeze .z fun d0 a8 a9 b2 d1 a5 => ?_; obtain ⟨a6, b3, j⟩ := bbind j; refine At.call rfl Q92.callee rfl rfl rfl (Q92.spec a8 a9 b2 b3) ?_; rintro _ _ ⟨rfl, rfl⟩; refine At.run 1 rfl (nT (At.seq (sR 2 rfl (At.nil ?_)))); refine At.thn ?_; rcases bite j with ⟨U, j⟩ | ⟨U, j⟩
 ··refine At.condT rfl (decide_eq_true U) ?_
   refine sR 2 rfl (nT (At.ret (At.thr ?_))); refine At.thaw a5 ?_; obtain rfl := (bret j).symm; exact At.res (.inl rfl) rfl rfl ⟨a0.length, rfl, rfl, rfl⟩
 ··refine At.condF rfl (decide_eq_false U) ?_
   refine At.skip (At.thn (At.seq (sR 3 rfl (nT ?_)))); refine At.block ?_; refine At.thaw a5 ?_; obtain ⟨b4, b5, d2, j⟩ := bjoin j; obtain ⟨V, Z, b6⟩ := bsome j; clear j; unfold Q91.l0 at Z; obtain ⟨a1, D⟩ := Q15.1 Z; clear Z; refine At.loopJ (X := (List Q1) × Int × Int) (Y := (List Q1) × Int) (e0 := 0) (fun s_ => [(0, .slice A0 a0.length c0), (1, .func (.func 65) #[] #[]), (5, i6 s_.2.1), (6, i6 s_.2.2)]) (fun s_ => row Q1.fl 115 A0 a0.length c0 s_.1 :: Fr) (fun m_ => fun s_ => iterN (fun t_ : (List Q1) × Int × Int => Q91.l0b a0 t_.1 t_.2.1 t_.2.2) m_ (s_.1, s_.2.1, s_.2.2) = some V) a1 (a0, a6, IntKind.i64.wrap (a6 + 1)) D (fun s_ => [(0, .slice A0 a0.length c0), (5, i6 s_.2)]) (fun s_ => row Q1.fl 115 A0 a0.length c0 s_.1 :: Fr) (fun s_ => b4 (.inl (s_.1, s_.2)) = some r) (fun a w e hs => ⟨e.sub ⟨rfl, rfl, rfl, rfl, trivial⟩, (by exact hs)⟩) ?_ (fun b7 => ?_)
   ·rintro ⟨b8, a2⟩ j; have j := (b5 _).symm.trans j
    ·refine At.ibx ?_; refine At.thn (sR 2 rfl ?_); obtain ⟨C, j⟩ := bnone j; refine At.y (Y.slSuf .z rfl rfl rfl rfl rfl rfl C.1 C.2) rfl rfl rfl ?_; refine At.clearSuf (z := (⟨(0 : Int), (0 : Int), ([] : Bs), (0 : Int)⟩ : Q1)) rfl .z rfl rfl rfl rfl rfl C.1 C.2 ?_; refine nT (sR 2 rfl ?_); refine At.cut rfl .z rfl rfl rfl rfl rfl C.1 C.2 rfl ?_; refine At.run 1 rfl (nT (At.ret ?_)); cases bret j; exact At.res (.inl rfl) rfl rfl ⟨((b8.take a2.toNat ++ List.replicate (a0.length - a2.toNat) (⟨(0 : Int), (0 : Int), ([] : Bs), (0 : Int)⟩ : Q1)).take a2.toNat).length, rfl, rfl, rfl⟩
   ·clear D a1; rintro a1 ⟨p, E, u⟩ D; obtain ⟨b9, f_, c4, hf_, j⟩ := bit D; clear D; have j : (Q91.l0b a0 p E u).bind _ = some V := j; unfold Q91.l0b at j
    ·refine At.seq (sR 4 rfl (nT ?_)); rcases bite j with ⟨a3, j⟩ | ⟨a3, j⟩
     ··refine At.condT rfl (decide_eq_true a3) ?_
       refine At.skip (At.thn (At.seq ?_)); obtain ⟨c5, c6, d3, j⟩ := bjoin j; refine At.join (X := (List Q1) × Int) (fun s_ => [(0, .slice A0 a0.length c0), (1, .func (.func 65) #[] #[]), (5, i6 s_.2), (6, i6 u)]) (fun s_ => row Q1.fl 115 A0 a0.length c0 s_.1 :: Fr) (fun s_ => c5 (.inl (s_.1, s_.2)) = some V) ?_ (fun a7 => ?_)
       ·rintro ⟨c7, c8⟩ j; have j := (c6 _).symm.trans j
        ·refine At.region (At.run 3 rfl (At.nil ?_)); have j := bnx hf_ j; exact fun a w e hs => ⟨b9, (c7, c8, IntKind.i64.wrap (u + 1)), c4, j, e.sub ⟨rfl, rfl, rfl, rfl, trivial⟩, hs⟩
       ··refine At.block ?_
         refine sR 2 rfl ?_; obtain ⟨G, j⟩ := bnone j; refine At.y (Y.ix .z rfl rfl rfl rfl rfl rfl G.1 G.2) rfl rfl rfl (At.y (Y.ld .z (q := 0) rfl rfl G.1 G.2 rfl rfl rfl) rfl rfl rfl ?_); refine At.alloc rfl rfl rfl (fun d4 => ?_); refine At.store rfl rfl rfl rfl .z rfl rfl rfl (.c (.c (.c (.c .n)))) ?_; refine nT (sR 1 rfl (At.y (Y.load rfl rfl .z rfl rfl rfl) rfl rfl rfl ?_)); obtain ⟨d5, c9, j⟩ := bbind j; refine At.call rfl Q120.callee rfl rfl rfl (Q120.spec c9) ?_; rintro _ _ ⟨rfl, rfl⟩; refine At.run 1 rfl (nT ?_); rcases bite j with ⟨a4, j⟩ | ⟨a4, j⟩
         ··refine At.condF rfl (nf a4) ?_
           refine At.skip ?_; refine At.ibn ?_; refine At.thn (At.drop .z ?_); exact fun a w e hs => a7 (p, E) j a w (e.sub ⟨rfl, rfl, rfl, rfl, trivial⟩) hs
         ··refine At.condT rfl (nt (bn a4)) ?_
           refine sR 2 rfl (At.y (Y.load rfl rfl .z rfl rfl rfl) rfl rfl rfl ?_); obtain ⟨I, j⟩ := bnone j; refine At.y (Y.ix (.s .z) rfl rfl rfl rfl rfl rfl I.1 I.2) rfl rfl rfl ?_; refine At.st rfl (.s .z) (q := 0) (z := (⟨(gt p u).Kind, (gt p u).At, (gt p u).Text, (gt p u).Number⟩ : Q1)) rfl rfl rfl I.1 I.2 rfl rfl (.c (.c (.c (.c .n)))) ?_; refine nT (At.region (At.run 3 rfl (At.nil ?_))); refine At.ibn ?_; refine At.thn (At.drop (.s .z) ?_); exact fun a w e hs => a7 ((st p E (⟨(gt p u).Kind, (gt p u).At, (gt p u).Text, (gt p u).Number⟩ : Q1)), IntKind.i64.wrap (E + 1)) j a w (e.sub ⟨rfl, rfl, rfl, rfl, trivial⟩) hs
     ··refine At.condF rfl (decide_eq_false a3) ?_
       refine At.exit ?_; refine At.the ?_; refine At.the ?_; exact fun a w e hs => b7 (p, E) (bdn j b6) a w (e.sub ⟨rfl, rfl, trivial⟩) hs

noncomputable def Q33.f (p : List Q1) (u : Int) (C : List Q0) (a1 : Bs) : Option Bool :=
 if (0 : Int) ≤ 0 ∧ 0 < (p.length : Int) then
 jn (
 if (gt p 0).Kind = 5 then
 some (.inl (bseq ((gt p 0).Text) a1))
 else
 some (.inl false)) (fun (q : Bool) =>
 some q)
 else none
theorem Q33.callee : Callee Tryz.prog 155 := ⟨_, Tryz.func155, by kernel_rfl, by kernel_rfl⟩
theorem Q33.spec {C : List Q1} {E : Int} {u : List Q0} {a1 : Bs} (hr0_0 : RdS Q1.fl.rep R.heap A0_0 C) (hn0_0 : C.length = n0_0) (hc0_0 : n0_0 ≤ c0_0) (hn0_2 : u.length = n0_2) {r : Bool} (j : Q33.f C E u a1 = some r) :
 Spec Tryz.prog 155 [bp b0, .string ⟨(a1).toArray⟩] R (pc b0 [.slice A0_0 n0_0 c0_0, i6 E, .slice A0_2 n0_2 c0_2] 128 :: row Q0.fl 33 A0_2 n0_2 c0_2 u :: Fr) (fun v l' => v = .bool r ∧ pc b0 [.slice A0_0 n0_0 c0_0, i6 E, .slice A0_2 n0_2 c0_2] 128 :: row Q0.fl 33 A0_2 n0_2 c0_2 u :: Fr = l') := by
 subst hn0_0; subst hn0_2; refine Spec.of Tryz.func155 rfl rfl ?_; unfold Q33.f at j; have j := brun j; refine sR 1 rfl (nT (sR 3 rfl ?_)); refine At.y (Y.load rfl rfl .z rfl rfl rfl) rfl rfl rfl ?_; obtain ⟨p, j⟩ := bnone j; refine At.y (Y.ixRd hr0_0 rfl rfl rfl rfl rfl rfl rfl p.1 p.2) rfl rfl rfl ?_; refine At.y (Y.fa (RdS.some_ hr0_0 rfl p.1 p.2) rfl rfl rfl rfl rfl rfl) rfl rfl rfl ?_; refine At.y (Y.ldFl hr0_0 rfl (q := 0) rfl rfl p.1 p.2 rfl rfl rfl) rfl rfl rfl (At.run 2 rfl ?_); obtain ⟨J, U, V, j⟩ := bjoin j; let T1 : HProp := pc b0 [.slice A0_0 C.length c0_0, i6 E, .slice A0_2 u.length c0_2] 128; refine At.joinO 10 (X := Bool) (fun D => [(23, .bool D)]) (fun D => T1 :: row Q0.fl 33 A0_2 u.length c0_2 u :: Fr) (fun D => J (.inl D) = some r) ?_ (fun I => ?_)
 ·rintro D j; have j := (U _).symm.trans j
  ·refine At.run 1 rfl (nT (At.ret ?_)); cases bret j; exact At.res (.inl rfl) rfl rfl ⟨rfl, rfl⟩
 ··rcases bite j with ⟨G, j⟩ | ⟨G, j⟩
   ··refine At.know (t := 13) rfl (decide_eq_true G) ?_
     refine At.run 3 rfl (At.y (Y.load rfl rfl .z rfl rfl rfl) rfl rfl rfl (At.y (Y.ixRd hr0_0 rfl rfl rfl rfl rfl rfl rfl p.1 p.2) rfl rfl rfl ?_)); refine At.y (Y.fa (RdS.some_ hr0_0 rfl p.1 p.2) rfl rfl rfl rfl rfl rfl) rfl rfl rfl ?_; refine At.y (Y.ldFl hr0_0 rfl (q := 2) rfl rfl p.1 p.2 rfl rfl rfl) rfl rfl rfl (At.run 3 rfl ?_); exact At.of (I (bseq ((gt C 0).Text) a1) j) ⟨rfl, trivial⟩
   ··refine At.know (t := 13) rfl (decide_eq_false G) ?_
     refine At.run 10 rfl ?_; exact At.of (I false j) ⟨rfl, trivial⟩

noncomputable def Q74.f (p : List Q1) (q : Int) (u : List Q0) : Option ((List Q1) × Int × Int × Bs × Int) :=
 if (0 : Int) ≤ 0 ∧ 0 < (p.length : Int) then
 if (0 : Int) ≤ 1 ∧ 1 ≤ (p.length : Int) then
 some ((p.drop (1 : Int).toNat), (gt p 0).Kind, (gt p 0).At, (gt p 0).Text, (gt p 0).Number)
 else none
 else none
theorem Q74.callee : Callee Tryz.prog 205 := ⟨_, Tryz.func205, by kernel_rfl, by kernel_rfl⟩
theorem Q74.spec {p : List Q1} {D : Int} {u : List Q0} (hr0_0 : RdS Q1.fl.rep R.heap A0_0 p) (hn0_0 : p.length = n0_0) (hc0_0 : n0_0 ≤ c0_0) (hn0_2 : u.length = n0_2) {r : (List Q1) × Int × Int × Bs × Int} (j : Q74.f p D u = some r) :
 Spec Tryz.prog 205 [bp b0] R (pc b0 [.slice A0_0 n0_0 c0_0, i6 D, .slice A0_2 n0_2 c0_2] 128 :: row Q0.fl 33 A0_2 n0_2 c0_2 u :: Fr) (fun v l' => ∃ (G : Option Addr) (E : Nat) (I : Nat), v = .agg #[i6 r.2.1, i6 r.2.2.1, .string ⟨(r.2.2.2.1).toArray⟩, i6 r.2.2.2.2] ∧ pc b0 [.slice G E I, i6 D, .slice A0_2 n0_2 c0_2] 128 :: row Q0.fl 33 A0_2 n0_2 c0_2 u :: Fr = l' ∧ RdS Q1.fl.rep R.heap G r.1 ∧ r.1.length = E ∧ E ≤ I) := by
 subst hn0_0; subst hn0_2; refine Spec.of Tryz.func205 rfl rfl ?_; unfold Q74.f at j; have j := brun j; refine At.seq (At.region ?_); refine At.alloc rfl rfl rfl (fun a0 => ?_); refine nT (sR 3 rfl (At.y (Y.load rfl rfl (.s .z) rfl rfl rfl) rfl rfl rfl ?_)); obtain ⟨C, j⟩ := bnone j; refine At.y (Y.ixRd hr0_0 rfl rfl rfl rfl rfl rfl rfl C.1 C.2) rfl rfl rfl (At.y (Y.ldFl hr0_0 rfl (q := 0) rfl rfl C.1 C.2 rfl rfl rfl) rfl rfl rfl ?_); refine At.alloc rfl rfl rfl (fun a1 => ?_); refine At.store rfl rfl rfl rfl .z rfl rfl rfl (.c (.c (.c (.c .n)))) ?_; refine nT (sR 4 rfl (At.y (Y.load rfl rfl (.s (.s .z)) rfl rfl rfl) rfl rfl rfl ?_)); obtain ⟨J, j⟩ := bnone j; obtain ⟨U, V, X, Z⟩ := Y.slFromAt (P := Tryz.prog) (R := R) rfl hr0_0 hc0_0 J.1 J.2; refine At.y (Z rfl rfl rfl rfl rfl rfl) rfl rfl rfl ?_; refine At.run 2 rfl ?_; refine At.store rfl rfl rfl rfl (.s (.s .z)) rfl rfl rfl (.c .n) ?_; refine nT (At.seq (At.region (At.y (Y.load rfl rfl (.s .z) rfl rfl rfl) rfl rfl rfl ?_))); refine At.store rfl rfl rfl rfl (.s (.s .z)) rfl rfl rfl (.c (.c (.c (.c .n)))) ?_; refine nT (At.ret ?_); refine At.resM (.inl rfl) rfl (RV.cell rfl rfl .z rfl rfl rfl RV.nil) ?_; refine At.drop .z (At.drop (.s .z) ?_); cases bret j; exact fun a w e hs => ⟨_, ⟨U, (p.drop (1 : Int).toNat).length, (c0_0 - (1 : Int).toNat), rfl, rfl, V, rfl, X⟩, hs⟩

noncomputable def Q39.f (u : List Q1) (q : Int) (C : List Q0) : Option ((List Q1) × Int × Int × Int × Bs × Int) :=
 if q = 60 then
 if (0 : Int) ≤ 0 ∧ 0 < (u.length : Int) then
 none
 else none
 else
 (Q74.f u (IntKind.i64.wrap (q + 1)) C).bind fun p =>
 some (p.1, IntKind.i64.wrap (q + 1), p.2.1, p.2.2.1, p.2.2.2.1, p.2.2.2.2)
theorem Q39.callee : Callee Tryz.prog 156 := ⟨_, Tryz.func156, by kernel_rfl, by kernel_rfl⟩
theorem Q39.spec {p : List Q1} {G : Int} {C : List Q0} (hr0_0 : RdS Q1.fl.rep R.heap A0_0 p) (hn0_0 : p.length = n0_0) (hc0_0 : n0_0 ≤ c0_0) (hn0_2 : C.length = n0_2) {r : (List Q1) × Int × Int × Int × Bs × Int} (j : Q39.f p G C = some r) :
 Spec Tryz.prog 156 [bp b0] R (pc b0 [.slice A0_0 n0_0 c0_0, i6 G, .slice A0_2 n0_2 c0_2] 128 :: row Q0.fl 33 A0_2 n0_2 c0_2 C :: Fr) (fun v l' => ∃ (I : Option Addr) (D : Nat) (J : Nat), v = .agg #[i6 r.2.2.1, i6 r.2.2.2.1, .string ⟨(r.2.2.2.2.1).toArray⟩, i6 r.2.2.2.2.2] ∧ pc b0 [.slice I D J, i6 r.2.1, .slice A0_2 n0_2 c0_2] 128 :: row Q0.fl 33 A0_2 n0_2 c0_2 C :: Fr = l' ∧ RdS Q1.fl.rep R.heap I r.1 ∧ r.1.length = D ∧ D ≤ J) := by
 subst hn0_0; subst hn0_2; refine Spec.of Tryz.func156 rfl rfl ?_; unfold Q39.f at j; have j := brun j; refine At.seq (At.region ?_); refine At.alloc rfl rfl rfl (fun a2 => ?_); refine nT (At.seq (sR 3 rfl (At.y (Y.load rfl rfl (.s .z) rfl rfl rfl) rfl rfl rfl (At.run 1 rfl ?_)))); refine nT ?_; rcases bite j with ⟨E, j⟩ | ⟨E, j⟩
 ··refine At.condT rfl (decide_eq_true E) ?_
   refine At.region (At.run 3 rfl (At.y (Y.load rfl rfl (.s .z) rfl rfl rfl) rfl rfl rfl ?_)); obtain ⟨u, j⟩ := bnone j; refine At.y (Y.ixRd hr0_0 rfl rfl rfl rfl rfl rfl rfl u.1 u.2) rfl rfl rfl ?_; refine At.y (Y.fa (RdS.some_ hr0_0 rfl u.1 u.2) rfl rfl rfl rfl rfl rfl) rfl rfl rfl ?_; refine At.y (Y.ldFl hr0_0 rfl (q := 1) rfl rfl u.1 u.2 rfl rfl rfl) rfl rfl rfl ?_; refine At.y (Y.build (is := [0, 1]) (xo := [.tmp 14, .const (i6 10)]) (vs := [i6 ((gt p 0).At), i6 10]) (cs := [i6 ((gt p 0).At), i6 10]) rfl rfl rfl rfl rfl rfl) rfl rfl rfl ?_; refine At.y (Y.build (is := [0]) (xo := [.tmp 15]) (vs := [.agg #[i6 ((gt p 0).At), i6 10]]) (cs := [i6 ((gt p 0).At), i6 10]) rfl rfl rfl rfl rfl (by kernel_rfl)) rfl rfl rfl ?_; cases j
 ··refine At.condF rfl (decide_eq_false E) ?_
   refine At.skip (At.thn (sR 3 rfl (At.y (Y.load rfl rfl (.s .z) rfl rfl rfl) rfl rfl rfl (At.run 3 rfl ?_)))); refine At.store rfl rfl rfl rfl (.s .z) rfl rfl rfl (.s (.c .n)) ?_; refine nT (sR 1 rfl (At.f2 (At.f1 ?_))); obtain ⟨U, V, j⟩ := bbind j; refine At.call rfl Q74.callee rfl rfl rfl (Q74.spec hr0_0 rfl hc0_0 rfl V) ?_; rintro _ _ ⟨X, a3, Z, rfl, rfl, a0, rfl, a1⟩; refine At.store rfl rfl rfl rfl (.s (.s .z)) rfl rfl rfl (.c (.c (.c (.c .n)))) ?_; refine nT (At.ret ?_); refine At.resM (.inl rfl) rfl (RV.cell rfl rfl .z rfl rfl rfl RV.nil) ?_; refine At.drop .z ?_; cases bret j; exact fun a w e hs => ⟨_, ⟨X, U.1.length, Z, rfl, rfl, a0, rfl, a1⟩, hs⟩

noncomputable def Q103.f (a0 : Bs) : Option Bool :=
 jn (
 if bseq a0 ([116, 116] : Bs) = true then
 some (.inl true)
 else
 some (.inl (bseq a0 ([102, 102] : Bs)))) (fun (p : Bool) =>
 jn (
 if p = true then
 some (.inl true)
 else
 some (.inl (bseq a0 ([109, 117] : Bs)))) (fun (q : Bool) =>
 jn (
 if q = true then
 some (.inl true)
 else
 some (.inl (bseq a0 ([110, 117] : Bs)))) (fun (u : Bool) =>
 some u)))
theorem Q103.callee : Callee Tryz.prog 229 := ⟨_, Tryz.func229, by kernel_rfl, by kernel_rfl⟩
theorem Q103.spec {a0 : Bs} {r : Bool} (j : Q103.f a0 = some r) :
 Spec Tryz.prog 229 [.string ⟨(a0).toArray⟩] R (Fr) (fun v l' => v = .bool r ∧ Fr = l') := by
 refine Spec.of Tryz.func229 rfl rfl ?_; unfold Q103.f at j; have j := brun j; refine sR 1 rfl (nT (sR 3 rfl ?_)); obtain ⟨U, V, a4, j⟩ := bjoin j; refine At.joinO 3 (X := Bool) (fun p => [(0, .string ⟨(a0).toArray⟩), (8, .bool p)]) (fun p => Fr) (fun p => U (.inl p) = some r) ?_ (fun G => ?_)
 ·rintro p j; have j := (V _).symm.trans j
  ·refine At.run 1 rfl ?_; obtain ⟨Z, a1, a5, j⟩ := bjoin j; refine At.joinO 3 (X := Bool) (fun q => [(0, .string ⟨(a0).toArray⟩), (12, .bool q)]) (fun q => Fr) (fun q => Z (.inl q) = some r) ?_ (fun I => ?_)
   ·rintro q j; have j := (a1 _).symm.trans j
    ·refine At.run 1 rfl ?_; obtain ⟨a2, a3, a6, j⟩ := bjoin j; refine At.joinO 3 (X := Bool) (fun u => [(16, .bool u)]) (fun u => Fr) (fun u => a2 (.inl u) = some r) ?_ (fun J => ?_)
     ·rintro u j; have j := (a3 _).symm.trans j
      ·refine At.run 1 rfl (nT (At.ret ?_)); cases bret j; exact At.res (.inl rfl) rfl rfl ⟨rfl, rfl⟩
     ··rcases bite j with ⟨C, j⟩ | ⟨C, j⟩
       ··refine At.know (t := 13) rfl C ?_
         refine At.run 3 rfl ?_; exact At.of (J true j) ⟨rfl, trivial⟩
       ··refine At.know (t := 13) rfl (bn C) ?_
         refine At.run 3 rfl ?_; exact At.of (J (bseq a0 ([110, 117] : Bs)) j) ⟨rfl, trivial⟩
   ··rcases bite j with ⟨D, j⟩ | ⟨D, j⟩
     ··refine At.know (t := 9) rfl D ?_
       refine At.run 3 rfl ?_; exact At.of (I true j) ⟨rfl, rfl, trivial⟩
     ··refine At.know (t := 9) rfl (bn D) ?_
       refine At.run 3 rfl ?_; exact At.of (I (bseq a0 ([109, 117] : Bs)) j) ⟨rfl, rfl, trivial⟩
 ··rcases bite j with ⟨E, j⟩ | ⟨E, j⟩
   ··refine At.know (t := 5) rfl E ?_
     refine At.run 3 rfl ?_; exact At.of (G true j) ⟨rfl, rfl, trivial⟩
   ··refine At.know (t := 5) rfl (bn E) ?_
     refine At.run 3 rfl ?_; exact At.of (G (bseq a0 ([102, 102] : Bs)) j) ⟨rfl, rfl, trivial⟩

noncomputable def Q100.f (p : List Q1) (q : Int) (u : List Q0) (a1 : Bs) : Option (List Q1) :=
 (Q33.f p q u a1).bind fun C =>
 if C = true then
 (Q74.f p q u).bind fun D =>
 some D.1
 else
 none
theorem Q100.callee : Callee Tryz.prog 207 := ⟨_, Tryz.func207, by kernel_rfl, by kernel_rfl⟩
theorem Q100.spec {q : List Q1} {u : Int} {p : List Q0} {a1 : Bs} (hr0_0 : RdS Q1.fl.rep R.heap A0_0 q) (hn0_0 : q.length = n0_0) (hc0_0 : n0_0 ≤ c0_0) (hn0_2 : p.length = n0_2) {r : (List Q1)} (j : Q100.f q u p a1 = some r) :
 Spec Tryz.prog 207 [bp b0, .string ⟨(a1).toArray⟩] R (pc b0 [.slice A0_0 n0_0 c0_0, i6 u, .slice A0_2 n0_2 c0_2] 128 :: row Q0.fl 33 A0_2 n0_2 c0_2 p :: Fr) (fun v l' => ∃ (E : Option Addr) (C : Nat) (G : Nat), v = .tuple #[] ∧ pc b0 [.slice E C G, i6 u, .slice A0_2 n0_2 c0_2] 128 :: row Q0.fl 33 A0_2 n0_2 c0_2 p :: Fr = l' ∧ RdS Q1.fl.rep R.heap E r ∧ r.length = C ∧ C ≤ G) := by
 subst hn0_0; subst hn0_2; refine Spec.of Tryz.func207 rfl rfl ?_; unfold Q100.f at j; have j := brun j; refine At.seq (sR 2 rfl ?_); obtain ⟨a2, I, j⟩ := bbind j; refine At.call rfl Q33.callee rfl rfl rfl (Q33.spec hr0_0 rfl hc0_0 rfl I) ?_; rintro _ _ ⟨rfl, rfl⟩; refine At.run 1 rfl (nT ?_); rcases bite j with ⟨D, j⟩ | ⟨D, j⟩
 ··refine At.condF rfl (nf D) ?_
   refine At.skip (At.thn (At.region (At.run 1 rfl ?_))); obtain ⟨J, U, j⟩ := bbind j; refine At.call rfl Q74.callee rfl rfl rfl (Q74.spec hr0_0 rfl hc0_0 rfl U) ?_; rintro _ _ ⟨V, a3, X, rfl, rfl, Z, rfl, a0⟩; refine At.nil ?_; cases bret j; exact At.res (.inr rfl) rfl rfl ⟨V, J.1.length, X, rfl, rfl, Z, rfl, a0⟩
 ··refine At.condT rfl (nt (bn D)) ?_
   refine At.region (At.run 1 rfl ?_); cases j

noncomputable def Q123.f (p : List Q1) (q : Int) (u : List Q0) (a1 : Bs) : Option ((List Q1) × Bs) :=
 (Q33.f p q u ([45] : Bs)).bind fun D =>
 jn (
 if D = true then
 some (.inl false)
 else
 if (0 : Int) ≤ 0 ∧ 0 < (p.length : Int) then
 jn (
 if (gt p 0).Kind = 2 then
 (Q103.f ((gt p 0).Text)).bind fun E =>
 some (.inl E)
 else
 some (.inl true)) (fun (G : Bool) =>
 some (.inl G))
 else none) (fun (I : Bool) =>
 if I = true then
 none
 else
 (Q74.f p q u).bind fun C =>
 (Q100.f C.1 q u a1).bind fun J =>
 some (J, C.2.2.2.1))
theorem Q123.callee : Callee Tryz.prog 206 := ⟨_, Tryz.func206, by kernel_rfl, by kernel_rfl⟩
theorem Q123.spec {E : List Q1} {G : Int} {u : List Q0} {a1 : Bs} (hr0_0 : RdS Q1.fl.rep R.heap A0_0 E) (hn0_0 : E.length = n0_0) (hc0_0 : n0_0 ≤ c0_0) (hn0_2 : u.length = n0_2) {r : (List Q1) × Bs} (j : Q123.f E G u a1 = some r) :
 Spec Tryz.prog 206 [bp b0, .string ⟨(a1).toArray⟩] R (pc b0 [.slice A0_0 n0_0 c0_0, i6 G, .slice A0_2 n0_2 c0_2] 128 :: row Q0.fl 33 A0_2 n0_2 c0_2 u :: Fr) (fun v l' => ∃ (Z : Option Addr) (I : Nat) (a0 : Nat), v = .string ⟨(r.2).toArray⟩ ∧ pc b0 [.slice Z I a0, i6 G, .slice A0_2 n0_2 c0_2] 128 :: row Q0.fl 33 A0_2 n0_2 c0_2 u :: Fr = l' ∧ RdS Q1.fl.rep R.heap Z r.1 ∧ r.1.length = I ∧ I ≤ a0) := by
 subst hn0_0; subst hn0_2; refine Spec.of Tryz.func206 rfl rfl ?_; unfold Q123.f at j; have j := brun j; refine sR 1 rfl (nT (At.seq (At.seq (At.region ?_)))); refine At.run 1 rfl ?_; obtain ⟨c6, a4, j⟩ := bbind j; refine At.call rfl Q33.callee rfl rfl rfl (Q33.spec hr0_0 rfl hc0_0 rfl a4) ?_; rintro _ _ ⟨rfl, rfl⟩; refine At.run 2 rfl ?_; obtain ⟨a5, a6, c7, j⟩ := bjoin j; let T2 : HProp := pc b0 [.slice A0_0 E.length c0_0, i6 G, .slice A0_2 u.length c0_2] 128; refine At.joinO 19 (X := Bool) (fun D => [(0, bp b0), (1, .string ⟨(a1).toArray⟩), (28, .bool D)]) (fun D => T2 :: row Q0.fl 33 A0_2 u.length c0_2 u :: Fr) (fun D => a5 (.inl D) = some r) ?_ (fun a2 => ?_)
 ·rintro D j; have j := (a6 _).symm.trans j
  ·refine nT ?_; rcases bite j with ⟨J, j⟩ | ⟨J, j⟩
   ··refine At.condT rfl J ?_
     refine At.region (At.run 1 rfl ?_); cases j
   ··refine At.condF rfl (bn J) ?_
     refine At.skip (At.thn (sR 1 rfl ?_)); obtain ⟨c8, a7, j⟩ := bbind j; refine At.call rfl Q74.callee rfl rfl rfl (Q74.spec hr0_0 rfl hc0_0 rfl a7) ?_; rintro _ _ ⟨c9, d0, d1, rfl, rfl, a8, rfl, a9⟩; refine At.run 2 rfl (nT (sR 2 rfl ?_)); obtain ⟨b2, b3, j⟩ := bbind j; refine At.call rfl Q100.callee rfl rfl rfl (Q100.spec a8 rfl a9 rfl b3) ?_; rintro _ _ ⟨b4, d2, b5, rfl, rfl, b6, rfl, b7⟩; refine nT (sR 2 rfl (nT (At.ret ?_))); cases bret j; exact At.res (.inl rfl) rfl rfl ⟨b4, b2.length, b5, rfl, rfl, b6, rfl, b7⟩
 ··rcases bite j with ⟨U, j⟩ | ⟨U, j⟩
   ··refine At.know (t := 9) rfl (nf U) ?_
     refine At.run 19 rfl ?_; exact At.of (a2 false j) ⟨rfl, rfl, rfl, trivial⟩
   ··refine At.know (t := 9) rfl (nt (bn U)) ?_
     refine At.run 3 rfl (At.y (Y.load rfl rfl .z rfl rfl rfl) rfl rfl rfl ?_); obtain ⟨p, j⟩ := bnone j; refine At.y (Y.ixRd hr0_0 rfl rfl rfl rfl rfl rfl rfl p.1 p.2) rfl rfl rfl ?_; refine At.y (Y.fa (RdS.some_ hr0_0 rfl p.1 p.2) rfl rfl rfl rfl rfl rfl) rfl rfl rfl ?_; refine At.y (Y.ldFl hr0_0 rfl (q := 0) rfl rfl p.1 p.2 rfl rfl rfl) rfl rfl rfl (At.run 2 rfl ?_); obtain ⟨b8, b9, d3, j⟩ := bjoin j; refine At.joinO 9 (X := Bool) (fun C => [(0, bp b0), (1, .string ⟨(a1).toArray⟩), (9, .bool true), (27, .bool C)]) (fun C => T2 :: row Q0.fl 33 A0_2 u.length c0_2 u :: Fr) (fun C => b8 (.inl C) = some r) ?_ (fun a3 => ?_)
     ·rintro C j; have j := (b9 _).symm.trans j
      ·refine At.run 1 rfl ?_; exact At.of (a2 C j) ⟨rfl, rfl, rfl, trivial⟩
     ··rcases bite j with ⟨V, j⟩ | ⟨V, j⟩
       ··refine At.know (t := 18) rfl (nf (decide_eq_true V)) ?_
         refine At.run 3 rfl (At.y (Y.load rfl rfl .z rfl rfl rfl) rfl rfl rfl (At.y (Y.ixRd hr0_0 rfl rfl rfl rfl rfl rfl rfl p.1 p.2) rfl rfl rfl ?_)); refine At.y (Y.fa (RdS.some_ hr0_0 rfl p.1 p.2) rfl rfl rfl rfl rfl rfl) rfl rfl rfl ?_; refine At.y (Y.ldFl hr0_0 rfl (q := 2) rfl rfl p.1 p.2 rfl rfl rfl) rfl rfl rfl ?_; obtain ⟨c4, c5, j⟩ := bbind j; refine At.call rfl Q103.callee rfl rfl rfl (Q103.spec c5) ?_; rintro _ _ ⟨rfl, rfl⟩; refine At.run 1 rfl ?_; exact At.of (a3 c4 j) ⟨rfl, rfl, rfl, rfl, trivial⟩
       ··refine At.know (t := 18) rfl (nt (decide_eq_false V)) ?_
         refine At.run 9 rfl ?_; exact At.of (a3 true j) ⟨rfl, rfl, rfl, rfl, trivial⟩

noncomputable def Q25.f (G : List Q1) (I : Int) (p : List Q0) (q u C : Int) (D : Bs) (E : Int) : Option ((List Q0) × Int) :=
 if (p.length + ([(⟨q, u, C, D, E⟩ : Q0)] : List Q0).length) * 48 ≤ 140737488355328 then
 some ((p ++ ([(⟨q, u, C, D, E⟩ : Q0)] : List Q0)), IntKind.i64.wrap (((p ++ ([(⟨q, u, C, D, E⟩ : Q0)] : List Q0)).length : Int) - 1))
 else none
theorem Q25.callee : Callee Tryz.prog 157 := ⟨_, Tryz.func157, by kernel_rfl, by kernel_rfl⟩
theorem Q25.spec {G : List Q1} {I p q u C : Int} {E : List Q0} {D : Bs} (hr0_0 : RdS Q1.fl.rep R.heap A0_0 G) (hn0_0 : G.length = n0_0) (hc0_0 : n0_0 ≤ c0_0) (hn0_2 : E.length = n0_2) {r : (List Q0) × Int} (j : Q25.f G I E p q u D C = some r) :
 Spec Tryz.prog 157 [bp b0, .agg #[i6 p, i6 q, i6 u, .string ⟨(D).toArray⟩, i6 C]] R (pc b0 [.slice A0_0 n0_0 c0_0, i6 I, .slice A0_2 n0_2 c0_2] 128 :: row Q0.fl 33 A0_2 n0_2 c0_2 E :: Fr) (fun v l' => ∃ (J : Option Addr) (U : Nat), v = i6 r.2 ∧ pc b0 [.slice A0_0 n0_0 c0_0, i6 I, .slice J ((E ++ ([(⟨p, q, u, D, C⟩ : Q0)] : List Q0)).length) U] 128 :: row Q0.fl 33 J ((E ++ ([(⟨p, q, u, D, C⟩ : Q0)] : List Q0)).length) U r.1 :: Fr = l') := by
 subst hn0_0; subst hn0_2; refine Spec.of Tryz.func157 rfl rfl ?_; unfold Q25.f at j; have j := brun j; refine At.seq (At.region ?_); refine At.box rfl rfl (cs := [i6 p, i6 q, i6 u, .string ⟨(D).toArray⟩, i6 C]) rfl rfl (fun V => ?_); refine At.run 1 rfl (nT (At.seq ?_)); refine At.held [pc V [i6 p, i6 q, i6 u, .string ⟨(D).toArray⟩, i6 C] 33] 11 rfl ?_; refine At.H.pw 0 rfl rfl rfl rfl rfl (.c .z .n) ?_; refine At.H.pw 1 rfl rfl rfl rfl rfl (.c .z .n) ?_; refine At.H.pw 2 rfl rfl rfl rfl rfl (.c .z .n) ?_; refine At.H.pw 3 rfl rfl rfl rfl rfl (.c .z .n) ?_; refine At.H.tw 5 rfl (Y.load rfl rfl .z rfl rfl rfl) rfl rfl rfl (.c .z .n) ?_; obtain ⟨Z, j⟩ := bnone j; let T3 : HProp := pc V [i6 p, i6 q, i6 u, .string ⟨(D).toArray⟩, i6 C] 33; refine At.H.joinK (X := (Option Addr) × Nat) (fun s_ => [(0, bp b0)]) (fun s_ => pc b0 [.slice A0_0 G.length c0_0, i6 I, .slice s_.1 ((E ++ ([(⟨p, q, u, D, C⟩ : Q0)] : List Q0)).length) s_.2] 128 :: row Q0.fl 33 s_.1 ((E ++ ([(⟨p, q, u, D, C⟩ : Q0)] : List Q0)).length) s_.2 (E ++ ([(⟨p, q, u, D, C⟩ : Q0)] : List Q0)) :: T3 :: Fr) (fun s_ => True) ?_ (fun a0 => ?_)
 ·rintro ⟨a1, a2⟩ -
  ·refine At.thn (sR 3 rfl (At.y (Y.load rfl rfl .z rfl rfl rfl) rfl rfl rfl (At.run 3 rfl (nT ?_)))); refine At.ret (At.drop (.s (.s .z)) ?_); cases bret j; exact At.res (.inl rfl) rfl rfl ⟨a1, a2, rfl, rfl⟩
 ·refine At.H.al [4, 6] (Q7 ?_ (Q7 ?_ Q8))
  ··refine At.HO.op rfl ?_
    refine At.y (Y.load rfl rfl (.s .z) rfl rfl rfl) rfl rfl rfl ?_; refine At.HO.back (.c .z .n) ?_; refine At.H.al [6] (Q7 ?_ Q8)
    ··refine At.HO.op rfl ?_
      refine At.lit rfl (xo := [.tmp 10]) (ys := ([(⟨p, q, u, D, C⟩ : Q0)] : List Q0)) Q0.fl rfl rfl rfl rfl rfl rfl rfl rfl rfl rfl rfl (fun a7 a8 => ?_); refine At.HO.back (.c (.s .z) .n) ?_; refine At.H.al [7] (Q7 ?_ Q8)
      ··refine At.HO.op rfl ?_
        refine At.append rfl (.s (.s (.s .z))) (Src.own .z (by simp)) rfl rfl rfl rfl rfl rfl rfl rfl Z (by decide) rfl (fun a3 a4 => ?_); refine At.drop (.s .z) ?_; refine At.HO.back (.c (.s .z) .n) ?_; refine At.H.pw 8 rfl rfl rfl rfl rfl (.c (.s .z) .n) ?_; refine At.H.pw 9 rfl rfl rfl rfl rfl (.c (.s .z) .n) ?_; refine At.H.al [10] (Q7 ?_ Q8)
        ··refine At.HO.op rfl ?_
          refine At.store rfl rfl rfl rfl (.s (.s .z)) rfl rfl rfl (.s (.s (.c .n))) ?_; refine At.HO.back (.c (.s (.s .z)) .n) ?_; refine At.H.done (by kernel_rfl) ?_; exact At.of (a0 (a3, a4) trivial) ⟨rfl, trivial⟩
  ··refine At.HO.op rfl ?_
    refine At.lit rfl (xo := [.tmp 10]) (ys := ([(⟨p, q, u, D, C⟩ : Q0)] : List Q0)) Q0.fl rfl rfl rfl rfl rfl rfl rfl rfl rfl rfl rfl (fun a9 b2 => ?_); refine At.HO.back (.c (.s .z) .n) ?_; refine At.H.al [4] (Q7 ?_ Q8)
    ··refine At.HO.op rfl ?_
      refine At.y (Y.load rfl rfl (.s (.s .z)) rfl rfl rfl) rfl rfl rfl ?_; refine At.HO.back (.c (.s .z) .n) ?_; refine At.H.al [7] (Q7 ?_ Q8)
      ··refine At.HO.op rfl ?_
        refine At.append rfl (.s (.s (.s .z))) (Src.own .z (by simp)) rfl rfl rfl rfl rfl rfl rfl rfl Z (by decide) rfl (fun a5 a6 => ?_); refine At.drop (.s .z) ?_; refine At.HO.back (.c (.s .z) .n) ?_; refine At.H.pw 8 rfl rfl rfl rfl rfl (.c (.s .z) .n) ?_; refine At.H.pw 9 rfl rfl rfl rfl rfl (.c (.s .z) .n) ?_; refine At.H.al [10] (Q7 ?_ Q8)
        ··refine At.HO.op rfl ?_
          refine At.store rfl rfl rfl rfl (.s (.s .z)) rfl rfl rfl (.s (.s (.c .n))) ?_; refine At.HO.back (.c (.s (.s .z)) .n) ?_; refine At.H.done (by kernel_rfl) ?_; exact At.of (a0 (a5, a6) trivial) ⟨rfl, trivial⟩

theorem Q11.callee : Callee Tryz.prog 66 := ⟨_, Tryz.func66, by kernel_rfl, by kernel_rfl⟩
def Q11.SP (self_ : (List Q1) → Int → (List Q0) → Option ((List Q0) × (List Q1) × Int × Int)) : Prop :=
 ∀ (R : Res) (Fr : List HProp) (b0 : Nat) (A0_0 : Option Addr) (n0_0 : Nat) (c0_0 : Nat) (A0_2 : Option Addr) (n0_2 : Nat) (c0_2 : Nat) (a0_0 : List Q1) (a0_1 : Int) (a0_2 : List Q0) (hr0_0 : RdS Q1.fl.rep R.heap A0_0 a0_0) (hn0_0 : a0_0.length = n0_0) (hc0_0 : n0_0 ≤ c0_0) (hn0_2 : a0_2.length = n0_2) {r : (List Q0) × (List Q1) × Int × Int} (j : self_ a0_0 a0_1 a0_2 = some r),
  Spec Tryz.prog 66 [bp b0] R (pc b0 [.slice A0_0 n0_0 c0_0, i6 a0_1, .slice A0_2 n0_2 c0_2] 128 :: row Q0.fl 33 A0_2 n0_2 c0_2 a0_2 :: Fr) (fun v l' => ∃ (w252 : Nat) (w254 : Option Addr) (w255 : Nat) (w256 : Option Addr) (w257 : Nat) (w258 : Nat), v = i6 r.2.2.2 ∧ pc b0 [.slice w256 w257 w258, i6 r.2.2.1, .slice w254 w252 w255] 128 :: row Q0.fl 33 w254 w252 w255 r.1 :: Fr = l' ∧ r.1.length = w252 ∧ RdS Q1.fl.rep R.heap w256 r.2.1 ∧ r.2.1.length = w257 ∧ w257 ≤ w258)
theorem Q28.callee : Callee Tryz.prog 124 := ⟨_, Tryz.func124, by kernel_rfl, by kernel_rfl⟩
def Q28.SP (self_ : (List Q1) → Int → (List Q0) → Bs → Int → Option ((List Q0) × (List Q1) × Int × Int)) : Prop :=
 ∀ (R : Res) (Fr : List HProp) (b0 : Nat) (A0_0 : Option Addr) (n0_0 : Nat) (c0_0 : Nat) (A0_2 : Option Addr) (n0_2 : Nat) (c0_2 : Nat) (a0_0 : List Q1) (a0_1 : Int) (a0_2 : List Q0) (a1 : Bs) (a2 : Int) (hr0_0 : RdS Q1.fl.rep R.heap A0_0 a0_0) (hn0_0 : a0_0.length = n0_0) (hc0_0 : n0_0 ≤ c0_0) (hn0_2 : a0_2.length = n0_2) {r : (List Q0) × (List Q1) × Int × Int} (j : self_ a0_0 a0_1 a0_2 a1 a2 = some r),
  Spec Tryz.prog 124 [bp b0, .string ⟨(a1).toArray⟩, i6 a2, .func (.func 125) #[bp b0] #[]] R (pc b0 [.slice A0_0 n0_0 c0_0, i6 a0_1, .slice A0_2 n0_2 c0_2] 128 :: row Q0.fl 33 A0_2 n0_2 c0_2 a0_2 :: Fr) (fun v l' => ∃ (w252 : Nat) (w254 : Option Addr) (w255 : Nat) (w256 : Option Addr) (w257 : Nat) (w258 : Nat), v = i6 r.2.2.2 ∧ pc b0 [.slice w256 w257 w258, i6 r.2.2.1, .slice w254 w252 w255] 128 :: row Q0.fl 33 w254 w252 w255 r.1 :: Fr = l' ∧ r.1.length = w252 ∧ RdS Q1.fl.rep R.heap w256 r.2.1 ∧ r.2.1.length = w257 ∧ w257 ≤ w258)
theorem Q41.callee : Callee Tryz.prog 125 := ⟨_, Tryz.func125, by kernel_rfl, by kernel_rfl⟩
def Q41.SP (self_ : (List Q1) → Int → (List Q0) → Option ((List Q0) × (List Q1) × Int × Int)) : Prop :=
 ∀ (R : Res) (Fr : List HProp) (b0 : Nat) (A0_0 : Option Addr) (n0_0 : Nat) (c0_0 : Nat) (A0_2 : Option Addr) (n0_2 : Nat) (c0_2 : Nat) (a0_0 : List Q1) (a0_1 : Int) (a0_2 : List Q0) (hr0_0 : RdS Q1.fl.rep R.heap A0_0 a0_0) (hn0_0 : a0_0.length = n0_0) (hc0_0 : n0_0 ≤ c0_0) (hn0_2 : a0_2.length = n0_2) {r : (List Q0) × (List Q1) × Int × Int} (j : self_ a0_0 a0_1 a0_2 = some r),
  Spec Tryz.prog 125 [bp b0] R (pc b0 [.slice A0_0 n0_0 c0_0, i6 a0_1, .slice A0_2 n0_2 c0_2] 128 :: row Q0.fl 33 A0_2 n0_2 c0_2 a0_2 :: Fr) (fun v l' => ∃ (w252 : Nat) (w254 : Option Addr) (w255 : Nat) (w256 : Option Addr) (w257 : Nat) (w258 : Nat), v = i6 r.2.2.2 ∧ pc b0 [.slice w256 w257 w258, i6 r.2.2.1, .slice w254 w252 w255] 128 :: row Q0.fl 33 w254 w252 w255 r.1 :: Fr = l' ∧ r.1.length = w252 ∧ RdS Q1.fl.rep R.heap w256 r.2.1 ∧ r.2.1.length = w257 ∧ w257 ≤ w258)
theorem Q30.callee : Callee Tryz.prog 124 := ⟨_, Tryz.func124, by kernel_rfl, by kernel_rfl⟩
def Q30.SP (self_ : (List Q1) → Int → (List Q0) → Bs → Int → Option ((List Q0) × (List Q1) × Int × Int)) : Prop :=
 ∀ (R : Res) (Fr : List HProp) (b0 : Nat) (A0_0 : Option Addr) (n0_0 : Nat) (c0_0 : Nat) (A0_2 : Option Addr) (n0_2 : Nat) (c0_2 : Nat) (a0_0 : List Q1) (a0_1 : Int) (a0_2 : List Q0) (a1 : Bs) (a2 : Int) (hr0_0 : RdS Q1.fl.rep R.heap A0_0 a0_0) (hn0_0 : a0_0.length = n0_0) (hc0_0 : n0_0 ≤ c0_0) (hn0_2 : a0_2.length = n0_2) {r : (List Q0) × (List Q1) × Int × Int} (j : self_ a0_0 a0_1 a0_2 a1 a2 = some r),
  Spec Tryz.prog 124 [bp b0, .string ⟨(a1).toArray⟩, i6 a2, .func (.func 158) #[bp b0] #[]] R (pc b0 [.slice A0_0 n0_0 c0_0, i6 a0_1, .slice A0_2 n0_2 c0_2] 128 :: row Q0.fl 33 A0_2 n0_2 c0_2 a0_2 :: Fr) (fun v l' => ∃ (w252 : Nat) (w254 : Option Addr) (w255 : Nat) (w256 : Option Addr) (w257 : Nat) (w258 : Nat), v = i6 r.2.2.2 ∧ pc b0 [.slice w256 w257 w258, i6 r.2.2.1, .slice w254 w252 w255] 128 :: row Q0.fl 33 w254 w252 w255 r.1 :: Fr = l' ∧ r.1.length = w252 ∧ RdS Q1.fl.rep R.heap w256 r.2.1 ∧ r.2.1.length = w257 ∧ w257 ≤ w258)
theorem Q35.callee : Callee Tryz.prog 158 := ⟨_, Tryz.func158, by kernel_rfl, by kernel_rfl⟩
def Q35.SP (self_ : (List Q1) → Int → (List Q0) → Option ((List Q0) × (List Q1) × Int × Int)) : Prop :=
 ∀ (R : Res) (Fr : List HProp) (b0 : Nat) (A0_0 : Option Addr) (n0_0 : Nat) (c0_0 : Nat) (A0_2 : Option Addr) (n0_2 : Nat) (c0_2 : Nat) (a0_0 : List Q1) (a0_1 : Int) (a0_2 : List Q0) (hr0_0 : RdS Q1.fl.rep R.heap A0_0 a0_0) (hn0_0 : a0_0.length = n0_0) (hc0_0 : n0_0 ≤ c0_0) (hn0_2 : a0_2.length = n0_2) {r : (List Q0) × (List Q1) × Int × Int} (j : self_ a0_0 a0_1 a0_2 = some r),
  Spec Tryz.prog 158 [bp b0] R (pc b0 [.slice A0_0 n0_0 c0_0, i6 a0_1, .slice A0_2 n0_2 c0_2] 128 :: row Q0.fl 33 A0_2 n0_2 c0_2 a0_2 :: Fr) (fun v l' => ∃ (w252 : Nat) (w254 : Option Addr) (w255 : Nat) (w256 : Option Addr) (w257 : Nat) (w258 : Nat), v = i6 r.2.2.2 ∧ pc b0 [.slice w256 w257 w258, i6 r.2.2.1, .slice w254 w252 w255] 128 :: row Q0.fl 33 w254 w252 w255 r.1 :: Fr = l' ∧ r.1.length = w252 ∧ RdS Q1.fl.rep R.heap w256 r.2.1 ∧ r.2.1.length = w257 ∧ w257 ≤ w258)
theorem Q42.callee : Callee Tryz.prog 208 := ⟨_, Tryz.func208, by kernel_rfl, by kernel_rfl⟩
def Q42.SP (self_ : (List Q1) → Int → (List Q0) → Option ((List Q0) × (List Q1) × Int × Int)) : Prop :=
 ∀ (R : Res) (Fr : List HProp) (b0 : Nat) (A0_0 : Option Addr) (n0_0 : Nat) (c0_0 : Nat) (A0_2 : Option Addr) (n0_2 : Nat) (c0_2 : Nat) (a0_0 : List Q1) (a0_1 : Int) (a0_2 : List Q0) (hr0_0 : RdS Q1.fl.rep R.heap A0_0 a0_0) (hn0_0 : a0_0.length = n0_0) (hc0_0 : n0_0 ≤ c0_0) (hn0_2 : a0_2.length = n0_2) {r : (List Q0) × (List Q1) × Int × Int} (j : self_ a0_0 a0_1 a0_2 = some r),
  Spec Tryz.prog 208 [bp b0] R (pc b0 [.slice A0_0 n0_0 c0_0, i6 a0_1, .slice A0_2 n0_2 c0_2] 128 :: row Q0.fl 33 A0_2 n0_2 c0_2 a0_2 :: Fr) (fun v l' => ∃ (w252 : Nat) (w254 : Option Addr) (w255 : Nat) (w257 : Option Addr) (w258 : Nat) (w259 : Nat), v = i6 r.2.2.2 ∧ pc b0 [.slice w257 w258 w259, i6 r.2.2.1, .slice w254 w252 w255] 128 :: row Q0.fl 33 w254 w252 w255 r.1 :: Fr = l' ∧ r.1.length = w252 ∧ RdS Q1.fl.rep R.heap w257 r.2.1 ∧ r.2.1.length = w258 ∧ w258 ≤ w259)
noncomputable def Q11.g (self_0 : (List Q1) → Int → (List Q0) → Option ((List Q0) × (List Q1) × Int × Int)) (self_1 : (List Q1) → Int → (List Q0) → Bs → Int → Option ((List Q0) × (List Q1) × Int × Int)) (self_2 : (List Q1) → Int → (List Q0) → Option ((List Q0) × (List Q1) × Int × Int)) (self_3 : (List Q1) → Int → (List Q0) → Bs → Int → Option ((List Q0) × (List Q1) × Int × Int)) (self_4 : (List Q1) → Int → (List Q0) → Option ((List Q0) × (List Q1) × Int × Int)) (self_5 : (List Q1) → Int → (List Q0) → Option ((List Q0) × (List Q1) × Int × Int)) (q : List Q1) (u : Int) (C : List Q0) : Option ((List Q0) × (List Q1) × Int × Int) :=
 (self_1 q u C ([124] : Bs) 7).bind fun p =>
 some (p.1, p.2.1, p.2.2.1, p.2.2.2)
noncomputable def Q28.l0b (a1 : Bs) (a2 : Int) (self_2 : (List Q1) → Int → (List Q0) → Option ((List Q0) × (List Q1) × Int × Int)) (q : List Q0) (u : List Q1) (C E : Int) : Option (((List Q0) × (List Q1) × Int × Int) ⊕ (((List Q0) × (List Q1) × Int × Int) ⊕ ((List Q0) × (List Q1) × Int × Int))) :=
 (Q33.f u C q a1).bind fun I =>
 if I = true then
 (Q39.f u C q).bind fun D =>
 (self_2 D.1 D.2.1 q).bind fun p =>
 (Q25.f p.2.1 p.2.2.1 p.1 a2 E p.2.2.2 ([] : Bs) D.2.2.2.1).bind fun G =>
 nx (G.1, p.2.1, p.2.2.1, G.2)
 else
 dn (.inl (q, u, C, E))
noncomputable def Q28.l0 (a1 : Bs) (a2 : Int) (self_2 : (List Q1) → Int → (List Q0) → Option ((List Q0) × (List Q1) × Int × Int)) (p : List Q0) (q : List Q1) (u C : Int) : Option (((List Q0) × (List Q1) × Int × Int) ⊕ ((List Q0) × (List Q1) × Int × Int)) := iter (fun t_ : (List Q0) × (List Q1) × Int × Int => Q28.l0b a1 a2 self_2 t_.1 t_.2.1 t_.2.2.1 t_.2.2.2) (p, q, u, C)
noncomputable def Q28.g (self_0 : (List Q1) → Int → (List Q0) → Option ((List Q0) × (List Q1) × Int × Int)) (self_1 : (List Q1) → Int → (List Q0) → Bs → Int → Option ((List Q0) × (List Q1) × Int × Int)) (self_2 : (List Q1) → Int → (List Q0) → Option ((List Q0) × (List Q1) × Int × Int)) (self_3 : (List Q1) → Int → (List Q0) → Bs → Int → Option ((List Q0) × (List Q1) × Int × Int)) (self_4 : (List Q1) → Int → (List Q0) → Option ((List Q0) × (List Q1) × Int × Int)) (self_5 : (List Q1) → Int → (List Q0) → Option ((List Q0) × (List Q1) × Int × Int)) (q : List Q1) (u : Int) (C : List Q0) (a1 : Bs) (a2 : Int) : Option ((List Q0) × (List Q1) × Int × Int) :=
 (self_2 q u C).bind fun p =>
 jn (Q28.l0 a1 a2 self_2 p.1 p.2.1 p.2.2.1 p.2.2.2) (fun (s_ : (List Q0) × (List Q1) × Int × Int) =>
 some (s_.1, s_.2.1, s_.2.2.1, s_.2.2.2))
noncomputable def Q41.g (self_0 : (List Q1) → Int → (List Q0) → Option ((List Q0) × (List Q1) × Int × Int)) (self_1 : (List Q1) → Int → (List Q0) → Bs → Int → Option ((List Q0) × (List Q1) × Int × Int)) (self_2 : (List Q1) → Int → (List Q0) → Option ((List Q0) × (List Q1) × Int × Int)) (self_3 : (List Q1) → Int → (List Q0) → Bs → Int → Option ((List Q0) × (List Q1) × Int × Int)) (self_4 : (List Q1) → Int → (List Q0) → Option ((List Q0) × (List Q1) × Int × Int)) (self_5 : (List Q1) → Int → (List Q0) → Option ((List Q0) × (List Q1) × Int × Int)) (q : List Q1) (u : Int) (C : List Q0) : Option ((List Q0) × (List Q1) × Int × Int) :=
 (self_3 q u C ([38] : Bs) 6).bind fun p =>
 some (p.1, p.2.1, p.2.2.1, p.2.2.2)
noncomputable def Q30.l0b (a1 : Bs) (a2 : Int) (self_4 : (List Q1) → Int → (List Q0) → Option ((List Q0) × (List Q1) × Int × Int)) (q : List Q0) (u : List Q1) (C E : Int) : Option (((List Q0) × (List Q1) × Int × Int) ⊕ (((List Q0) × (List Q1) × Int × Int) ⊕ ((List Q0) × (List Q1) × Int × Int))) :=
 (Q33.f u C q a1).bind fun I =>
 if I = true then
 (Q39.f u C q).bind fun D =>
 (self_4 D.1 D.2.1 q).bind fun p =>
 (Q25.f p.2.1 p.2.2.1 p.1 a2 E p.2.2.2 ([] : Bs) D.2.2.2.1).bind fun G =>
 nx (G.1, p.2.1, p.2.2.1, G.2)
 else
 dn (.inl (q, u, C, E))
noncomputable def Q30.l0 (a1 : Bs) (a2 : Int) (self_4 : (List Q1) → Int → (List Q0) → Option ((List Q0) × (List Q1) × Int × Int)) (p : List Q0) (q : List Q1) (u C : Int) : Option (((List Q0) × (List Q1) × Int × Int) ⊕ ((List Q0) × (List Q1) × Int × Int)) := iter (fun t_ : (List Q0) × (List Q1) × Int × Int => Q30.l0b a1 a2 self_4 t_.1 t_.2.1 t_.2.2.1 t_.2.2.2) (p, q, u, C)
noncomputable def Q30.g (self_0 : (List Q1) → Int → (List Q0) → Option ((List Q0) × (List Q1) × Int × Int)) (self_1 : (List Q1) → Int → (List Q0) → Bs → Int → Option ((List Q0) × (List Q1) × Int × Int)) (self_2 : (List Q1) → Int → (List Q0) → Option ((List Q0) × (List Q1) × Int × Int)) (self_3 : (List Q1) → Int → (List Q0) → Bs → Int → Option ((List Q0) × (List Q1) × Int × Int)) (self_4 : (List Q1) → Int → (List Q0) → Option ((List Q0) × (List Q1) × Int × Int)) (self_5 : (List Q1) → Int → (List Q0) → Option ((List Q0) × (List Q1) × Int × Int)) (q : List Q1) (u : Int) (C : List Q0) (a1 : Bs) (a2 : Int) : Option ((List Q0) × (List Q1) × Int × Int) :=
 (self_4 q u C).bind fun p =>
 jn (Q30.l0 a1 a2 self_4 p.1 p.2.1 p.2.2.1 p.2.2.2) (fun (s_ : (List Q0) × (List Q1) × Int × Int) =>
 some (s_.1, s_.2.1, s_.2.2.1, s_.2.2.2))
noncomputable def Q35.g (self_0 : (List Q1) → Int → (List Q0) → Option ((List Q0) × (List Q1) × Int × Int)) (self_1 : (List Q1) → Int → (List Q0) → Bs → Int → Option ((List Q0) × (List Q1) × Int × Int)) (self_2 : (List Q1) → Int → (List Q0) → Option ((List Q0) × (List Q1) × Int × Int)) (self_3 : (List Q1) → Int → (List Q0) → Bs → Int → Option ((List Q0) × (List Q1) × Int × Int)) (self_4 : (List Q1) → Int → (List Q0) → Option ((List Q0) × (List Q1) × Int × Int)) (self_5 : (List Q1) → Int → (List Q0) → Option ((List Q0) × (List Q1) × Int × Int)) (q : List Q1) (u : Int) (p : List Q0) : Option ((List Q0) × (List Q1) × Int × Int) :=
 (Q33.f q u p ([126] : Bs)).bind fun a5 =>
 if a5 = true then
 (Q39.f q u p).bind fun X =>
 (self_4 X.1 X.2.1 p).bind fun C =>
 (Q25.f C.2.1 C.2.2.1 C.1 5 C.2.2.2 0 ([] : Bs) X.2.2.2.1).bind fun Z =>
 some (Z.1, C.2.1, C.2.2.1, Z.2)
 else
 (Q33.f q u p ([60] : Bs)).bind fun a6 =>
 if a6 = true then
 (Q39.f q u p).bind fun J =>
 (Q123.f J.1 J.2.1 p ([62] : Bs)).bind fun a0 =>
 (self_4 a0.1 J.2.1 p).bind fun D =>
 (Q25.f D.2.1 D.2.2.1 D.1 8 D.2.2.2 0 a0.2 J.2.2.2.1).bind fun a1 =>
 some (a1.1, D.2.1, D.2.2.1, a1.2)
 else
 (Q33.f q u p ([91] : Bs)).bind fun a7 =>
 if a7 = true then
 (Q39.f q u p).bind fun U =>
 (Q123.f U.1 U.2.1 p ([93] : Bs)).bind fun a2 =>
 (self_4 a2.1 U.2.1 p).bind fun E =>
 (Q25.f E.2.1 E.2.2.1 E.1 9 E.2.2.2 0 a2.2 U.2.2.2.1).bind fun a3 =>
 some (a3.1, E.2.1, E.2.2.1, a3.2)
 else
 (Q33.f q u p ([40] : Bs)).bind fun a8 =>
 if a8 = true then
 (Q74.f q u p).bind fun a9 =>
 (self_0 a9.1 u p).bind fun G =>
 (Q100.f G.2.1 G.2.2.1 G.1 ([41] : Bs)).bind fun b2 =>
 some (G.1, b2, G.2.2.1, G.2.2.2)
 else
 if (0 : Int) ≤ 0 ∧ 0 < (q.length : Int) then
 if (gt q 0).Kind = 3 then
 (Q39.f q u p).bind fun I =>
 (Q25.f I.1 I.2.1 p 4 0 0 I.2.2.2.2.1 I.2.2.2.1).bind fun a4 =>
 some (a4.1, I.1, I.2.1, a4.2)
 else
 if (gt q 0).Kind = 2 then
 (self_5 q u p).bind fun V =>
 some (V.1, V.2.1, V.2.2.1, V.2.2.2)
 else
 none
 else none
noncomputable def Q42.g (self_0 : (List Q1) → Int → (List Q0) → Option ((List Q0) × (List Q1) × Int × Int)) (self_1 : (List Q1) → Int → (List Q0) → Bs → Int → Option ((List Q0) × (List Q1) × Int × Int)) (self_2 : (List Q1) → Int → (List Q0) → Option ((List Q0) × (List Q1) × Int × Int)) (self_3 : (List Q1) → Int → (List Q0) → Bs → Int → Option ((List Q0) × (List Q1) × Int × Int)) (self_4 : (List Q1) → Int → (List Q0) → Option ((List Q0) × (List Q1) × Int × Int)) (self_5 : (List Q1) → Int → (List Q0) → Option ((List Q0) × (List Q1) × Int × Int)) (J : List Q1) (U : Int) (q : List Q0) : Option ((List Q0) × (List Q1) × Int × Int) :=
 (Q39.f J U q).bind fun p =>
 jn (
 if bseq p.2.2.2.2.1 ([116, 116] : Bs) = true then
 (Q25.f p.1 p.2.1 q 1 0 0 ([] : Bs) p.2.2.2.1).bind fun C =>
 up (some (C.1, p.1, p.2.1, C.2))
 else
 if bseq p.2.2.2.2.1 ([102, 102] : Bs) = true then
 (Q25.f p.1 p.2.1 q 2 0 0 ([] : Bs) p.2.2.2.1).bind fun D =>
 up (some (D.1, p.1, p.2.1, D.2))
 else
 if bseq p.2.2.2.2.1 ([109, 117] : Bs) = true then
 some (.inl 10)
 else
 if bseq p.2.2.2.2.1 ([110, 117] : Bs) = true then
 some (.inl 11)
 else
 (Q25.f p.1 p.2.1 q 3 0 0 p.2.2.2.2.1 p.2.2.2.1).bind fun E =>
 up (some (E.1, p.1, p.2.1, E.2))) (fun (V : Int) =>
 if (0 : Int) ≤ 0 ∧ 0 < (p.1.length : Int) then
 if (gt p.1 0).Kind = 3 then
 (Q74.f p.1 p.2.1 q).bind fun G =>
 (Q100.f G.1 p.2.1 q ([46] : Bs)).bind fun X =>
 (self_0 X p.2.1 q).bind fun u =>
 (Q25.f u.2.1 u.2.2.1 u.1 V u.2.2.2 0 G.2.2.2.1 p.2.2.2.1).bind fun I =>
 some (I.1, u.2.1, u.2.2.1, I.2)
 else
 none
 else none)
noncomputable def Q11.tab : Nat → ((List Q1) → Int → (List Q0) → Option ((List Q0) × (List Q1) × Int × Int)) × ((List Q1) → Int → (List Q0) → Bs → Int → Option ((List Q0) × (List Q1) × Int × Int)) × ((List Q1) → Int → (List Q0) → Option ((List Q0) × (List Q1) × Int × Int)) × ((List Q1) → Int → (List Q0) → Bs → Int → Option ((List Q0) × (List Q1) × Int × Int)) × ((List Q1) → Int → (List Q0) → Option ((List Q0) × (List Q1) × Int × Int)) × ((List Q1) → Int → (List Q0) → Option ((List Q0) × (List Q1) × Int × Int))
 | 0 => (fun _ _ _ => none, fun _ _ _ _ _ => none, fun _ _ _ => none, fun _ _ _ _ _ => none, fun _ _ _ => none, fun _ _ _ => none)
 | k_ + 1 => (Q11.g ((Q11.tab k_).1) ((Q11.tab k_).2.1) ((Q11.tab k_).2.2.1) ((Q11.tab k_).2.2.2.1) ((Q11.tab k_).2.2.2.2.1) ((Q11.tab k_).2.2.2.2.2), Q28.g ((Q11.tab k_).1) ((Q11.tab k_).2.1) ((Q11.tab k_).2.2.1) ((Q11.tab k_).2.2.2.1) ((Q11.tab k_).2.2.2.2.1) ((Q11.tab k_).2.2.2.2.2), Q41.g ((Q11.tab k_).1) ((Q11.tab k_).2.1) ((Q11.tab k_).2.2.1) ((Q11.tab k_).2.2.2.1) ((Q11.tab k_).2.2.2.2.1) ((Q11.tab k_).2.2.2.2.2), Q30.g ((Q11.tab k_).1) ((Q11.tab k_).2.1) ((Q11.tab k_).2.2.1) ((Q11.tab k_).2.2.2.1) ((Q11.tab k_).2.2.2.2.1) ((Q11.tab k_).2.2.2.2.2), Q35.g ((Q11.tab k_).1) ((Q11.tab k_).2.1) ((Q11.tab k_).2.2.1) ((Q11.tab k_).2.2.2.1) ((Q11.tab k_).2.2.2.2.1) ((Q11.tab k_).2.2.2.2.2), Q42.g ((Q11.tab k_).1) ((Q11.tab k_).2.1) ((Q11.tab k_).2.2.1) ((Q11.tab k_).2.2.2.1) ((Q11.tab k_).2.2.2.2.1) ((Q11.tab k_).2.2.2.2.2))
noncomputable def Q11.n (k_ : Nat) : (List Q1) → Int → (List Q0) → Option ((List Q0) × (List Q1) × Int × Int) := (Q11.tab k_).1
noncomputable def Q11.f (p : List Q1) (q : Int) (u : List Q0) : Option ((List Q0) × (List Q1) × Int × Int) := recF fun k_ => Q11.n k_ p q u
noncomputable def Q28.n (k_ : Nat) : (List Q1) → Int → (List Q0) → Bs → Int → Option ((List Q0) × (List Q1) × Int × Int) := (Q11.tab k_).2.1
noncomputable def Q41.n (k_ : Nat) : (List Q1) → Int → (List Q0) → Option ((List Q0) × (List Q1) × Int × Int) := (Q11.tab k_).2.2.1
noncomputable def Q30.n (k_ : Nat) : (List Q1) → Int → (List Q0) → Bs → Int → Option ((List Q0) × (List Q1) × Int × Int) := (Q11.tab k_).2.2.2.1
noncomputable def Q35.n (k_ : Nat) : (List Q1) → Int → (List Q0) → Option ((List Q0) × (List Q1) × Int × Int) := (Q11.tab k_).2.2.2.2.1
noncomputable def Q42.n (k_ : Nat) : (List Q1) → Int → (List Q0) → Option ((List Q0) × (List Q1) × Int × Int) := (Q11.tab k_).2.2.2.2.2
theorem Q11.step (self_0 : (List Q1) → Int → (List Q0) → Option ((List Q0) × (List Q1) × Int × Int)) (self_1 : (List Q1) → Int → (List Q0) → Bs → Int → Option ((List Q0) × (List Q1) × Int × Int)) (self_2 : (List Q1) → Int → (List Q0) → Option ((List Q0) × (List Q1) × Int × Int)) (self_3 : (List Q1) → Int → (List Q0) → Bs → Int → Option ((List Q0) × (List Q1) × Int × Int)) (self_4 : (List Q1) → Int → (List Q0) → Option ((List Q0) × (List Q1) × Int × Int)) (self_5 : (List Q1) → Int → (List Q0) → Option ((List Q0) × (List Q1) × Int × Int)) (ih_0 : Q11.SP self_0) (ih_1 : Q28.SP self_1) (ih_2 : Q41.SP self_2) (ih_3 : Q30.SP self_3) (ih_4 : Q35.SP self_4) (ih_5 : Q42.SP self_5) :
 Q11.SP (Q11.g self_0 self_1 self_2 self_3 self_4 self_5) := by
 intro R Fr b0 A0_0 n0_0 c0_0 A0_2 n0_2 c0_2 p C q hr0_0 hn0_0 hc0_0 hn0_2 r j; subst hn0_0; subst hn0_2; refine Spec.of Tryz.func66 rfl rfl ?_; unfold Q11.g at j; have j := brun j; refine sR 1 rfl (nT (sR 3 rfl ?_)); obtain ⟨u, D, j⟩ := bbind j; refine At.call rfl Q28.callee rfl rfl rfl (ih_1 _ _ b0 A0_0 p.length c0_0 A0_2 q.length c0_2 p C q ([124] : Bs) 7 hr0_0 rfl hc0_0 rfl D) ?_; rintro _ _ ⟨X, E, G, I, Z, J, rfl, rfl, rfl, U, rfl, V⟩; refine At.run 1 rfl (nT (At.ret ?_)); cases bret j; exact At.res (.inl rfl) rfl rfl ⟨u.1.length, E, G, I, u.2.1.length, J, rfl, rfl, rfl, U, rfl, V⟩
theorem Q28.step (self_0 : (List Q1) → Int → (List Q0) → Option ((List Q0) × (List Q1) × Int × Int)) (self_1 : (List Q1) → Int → (List Q0) → Bs → Int → Option ((List Q0) × (List Q1) × Int × Int)) (self_2 : (List Q1) → Int → (List Q0) → Option ((List Q0) × (List Q1) × Int × Int)) (self_3 : (List Q1) → Int → (List Q0) → Bs → Int → Option ((List Q0) × (List Q1) × Int × Int)) (self_4 : (List Q1) → Int → (List Q0) → Option ((List Q0) × (List Q1) × Int × Int)) (self_5 : (List Q1) → Int → (List Q0) → Option ((List Q0) × (List Q1) × Int × Int)) (ih_0 : Q11.SP self_0) (ih_1 : Q28.SP self_1) (ih_2 : Q41.SP self_2) (ih_3 : Q30.SP self_3) (ih_4 : Q35.SP self_4) (ih_5 : Q42.SP self_5) :
 Q28.SP (Q28.g self_0 self_1 self_2 self_3 self_4 self_5) := by
 intro R Fr b0 A0_0 n0_0 c0_0 A0_2 n0_2 c0_2 a0 b5 a3 a1 a2 hr0_0 hn0_0 hc0_0 hn0_2 r j; subst hn0_0; subst hn0_2; refine Spec.of Tryz.func124 rfl rfl ?_; unfold Q28.g at j; have j := brun j; refine sR 1 rfl (nT (sR 1 rfl ?_)); obtain ⟨u, b6, j⟩ := bbind j; refine At.callF rfl Q41.callee rfl rfl rfl (ih_2 _ _ b0 A0_0 a0.length c0_0 A0_2 a3.length c0_2 a0 b5 a3 hr0_0 rfl hc0_0 rfl b6) ?_; rintro _ _ ⟨g6, b7, b8, b9, g7, c4, rfl, rfl, rfl, c5, rfl, c6⟩; refine At.run 1 rfl (nT (At.seq ?_)); refine At.block ?_; obtain ⟨c7, c8, g8, j⟩ := bjoin j; obtain ⟨a4, I, c9⟩ := bsome j; clear j; unfold Q28.l0 at I; obtain ⟨J, D⟩ := Q15.1 I; clear I; refine At.loopJ (X := (List Q0) × (List Q1) × Int × Int × Nat × (Option Addr) × Nat × (Option Addr) × Nat × Nat) (Y := (List Q0) × (List Q1) × Int × Int × Nat × (Option Addr) × Nat × (Option Addr) × Nat × Nat) (e0 := 0) (fun s_ => [(0, bp b0), (1, .string ⟨(a1).toArray⟩), (2, i6 a2), (3, .func (.func 125) #[bp b0] #[]), (9, i6 s_.2.2.2.1)]) (fun s_ => pc b0 [.slice s_.2.2.2.2.2.2.2.1 (d8 s_).1 (d8 s_).2, i6 s_.2.2.1, .slice s_.2.2.2.2.2.1 s_.2.2.2.2.1 s_.2.2.2.2.2.2.1] 128 :: row Q0.fl 33 s_.2.2.2.2.2.1 s_.2.2.2.2.1 s_.2.2.2.2.2.2.1 s_.1 :: Fr) (fun m_ => fun s_ => iterN (fun t_ : (List Q0) × (List Q1) × Int × Int => Q28.l0b a1 a2 self_2 t_.1 t_.2.1 t_.2.2.1 t_.2.2.2) m_ (s_.1, s_.2.1, s_.2.2.1, s_.2.2.2.1) = some a4 ∧ s_.1.length = s_.2.2.2.2.1 ∧ RdS Q1.fl.rep R.heap s_.2.2.2.2.2.2.2.1 s_.2.1 ∧ s_.2.1.length = (d8 s_).1 ∧ (d8 s_).1 ≤ (d8 s_).2) J (u.1, u.2.1, u.2.2.1, u.2.2.2, u.1.length, b7, b8, b9, u.2.1.length, c4) ⟨D, rfl, c5, rfl, c6⟩ (fun s_ => [(9, i6 s_.2.2.2.1)]) (fun s_ => pc b0 [.slice s_.2.2.2.2.2.2.2.1 (d8 s_).1 (d8 s_).2, i6 s_.2.2.1, .slice s_.2.2.2.2.2.1 s_.2.2.2.2.1 s_.2.2.2.2.2.2.1] 128 :: row Q0.fl 33 s_.2.2.2.2.2.1 s_.2.2.2.2.1 s_.2.2.2.2.2.2.1 s_.1 :: Fr) (fun s_ => c7 (.inl (s_.1, s_.2.1, s_.2.2.1, s_.2.2.2.1)) = some r ∧ s_.1.length = s_.2.2.2.2.1 ∧ RdS Q1.fl.rep R.heap s_.2.2.2.2.2.2.2.1 s_.2.1 ∧ s_.2.1.length = (d8 s_).1 ∧ (d8 s_).1 ≤ (d8 s_).2) (fun a w e hs => ⟨e.sub ⟨rfl, rfl, rfl, rfl, rfl, trivial⟩, (by exact hs)⟩) ?_ (fun d0 => ?_)
 ·rintro ⟨a5, a6, g9, h0, d1, d2, d3, d4, d5, d6⟩ ⟨j, d7, d9, e1, e2⟩; obtain rfl : a5.length = d1 := d7; obtain rfl : a6.length = d5 := e1; have j := (c8 _).symm.trans j
  ·refine At.ibx ?_; refine At.thn (sR 2 rfl (nT (At.ret ?_))); obtain rfl := (bret j).symm; exact At.res (.inl rfl) rfl rfl ⟨a5.length, d2, d3, d4, a6.length, d6, rfl, rfl, rfl, d9, rfl, e2⟩
 ·clear D J; rintro J ⟨C, G, a7, E, e3, a8, a9, e4, e5, e6⟩ ⟨D, e7, U, e8, V⟩; obtain rfl : C.length = e3 := e7; obtain rfl : G.length = e5 := e8; obtain ⟨e9, f_, f0, hf_, j⟩ := bit D; clear D; have j : (Q28.l0b a1 a2 self_2 C G a7 E).bind _ = some a4 := j; unfold Q28.l0b at j
  ·refine At.seq (sR 2 rfl ?_); obtain ⟨h1, f1, j⟩ := bbind j; refine At.call rfl Q33.callee rfl rfl rfl (Q33.spec U rfl V rfl f1) ?_; rintro _ _ ⟨rfl, rfl⟩; refine nT ?_; rcases bite j with ⟨Z, j⟩ | ⟨Z, j⟩
   ··refine At.condT rfl Z ?_
     refine At.skip (At.thn ?_); refine At.block ?_; refine sR 1 rfl ?_; obtain ⟨p, f3, j⟩ := bbind j; refine At.call rfl Q39.callee rfl rfl rfl (Q39.spec U rfl V rfl f3) ?_; rintro _ _ ⟨f4, h2, f5, rfl, rfl, f6, rfl, f7⟩; refine At.alloc rfl rfl rfl (fun f8 => ?_); refine At.store rfl rfl rfl rfl .z rfl rfl rfl (.c (.c (.c (.c .n)))) ?_; refine nT ?_; refine At.held [pc f8 [i6 p.2.2.1, i6 p.2.2.2.1, .string ⟨(p.2.2.2.2.1).toArray⟩, i6 p.2.2.2.2.2] 115] 10 rfl ?_; refine At.H.pw 0 rfl rfl rfl rfl rfl (.c .z .n) ?_; refine At.H.pw 1 rfl rfl rfl rfl rfl (.c .z .n) ?_; refine At.H.pw 2 rfl rfl rfl rfl rfl (.c .z .n) ?_; refine At.H.pw 3 rfl rfl rfl rfl rfl (.c .z .n) ?_; refine At.H.pw 5 rfl rfl rfl rfl rfl (.c .z .n) ?_; refine At.H.tw 6 rfl (Y.load rfl rfl .z rfl rfl rfl) rfl rfl rfl (.c .z .n) ?_; refine At.H.al [4] (Q7 ?_ Q8)
     ··refine At.HO.op rfl ?_
       refine At.f2 (At.f2 ?_); obtain ⟨q, f9, j⟩ := bbind j; refine At.callF rfl Q41.callee rfl rfl rfl (ih_2 _ _ b0 f4 p.1.length f5 a8 C.length a9 p.1 p.2.1 C f6 rfl f7 rfl f9) ?_; rintro _ _ ⟨h3, h4, h5, g0, h6, g1, rfl, rfl, rfl, b2, rfl, b3⟩; refine At.HO.back (.c (.s (.s .z)) .n) ?_; refine At.H.tw 7 rfl (Y.build (is := [0, 1, 2, 4]) (xo := [.tmp 19, .tmp 20, .tmp 22, .tmp 24]) (vs := [i6 a2, i6 E, i6 q.2.2.2, i6 p.2.2.2.1]) (cs := [i6 a2, i6 E, i6 q.2.2.2, .string ⟨(([] : Bs)).toArray⟩, i6 p.2.2.2.1]) rfl rfl rfl rfl rfl rfl) rfl rfl rfl (.c (.s (.s .z)) .n) ?_; refine At.H.al [8] (Q7 ?_ Q8)
       ··refine At.HO.op rfl ?_
         obtain ⟨b4, g2, j⟩ := bbind j; refine At.call rfl Q25.callee rfl rfl rfl (Q25.spec b2 rfl b3 rfl g2) ?_; rintro _ _ ⟨g3, g4, rfl, rfl⟩; refine At.HO.back (.c (.s (.s .z)) .n) ?_; refine At.H.pw 9 rfl rfl rfl rfl rfl (.c (.s (.s .z)) .n) ?_; refine At.H.done (by kernel_rfl) ?_; refine At.ibn ?_; refine At.rowLen (.s .z) fun g5 => ?_; refine At.drop (.s (.s .z)) ?_; have j := bnx hf_ j; exact fun a w e hs => ⟨e9, (b4.1, q.2.1, q.2.2.1, b4.2, (q.1 ++ ([(⟨a2, E, q.2.2.2, ([] : Bs), p.2.2.2.1⟩ : Q0)] : List Q0)).length, g3, g4, g0, q.2.1.length, g1), f0, ⟨j, g5, b2, rfl, b3⟩, e.sub ⟨rfl, rfl, rfl, rfl, rfl, trivial⟩, hs⟩
   ··refine At.condF rfl (bn Z) ?_
     refine At.exit ?_; refine At.the ?_; refine At.the ?_; exact fun a w e hs => d0 (C, G, a7, E, C.length, a8, a9, e4, G.length, e6) ⟨(bdn j c9), rfl, U, rfl, V⟩ a w (e.sub ⟨rfl, trivial⟩) hs
theorem Q41.step (self_0 : (List Q1) → Int → (List Q0) → Option ((List Q0) × (List Q1) × Int × Int)) (self_1 : (List Q1) → Int → (List Q0) → Bs → Int → Option ((List Q0) × (List Q1) × Int × Int)) (self_2 : (List Q1) → Int → (List Q0) → Option ((List Q0) × (List Q1) × Int × Int)) (self_3 : (List Q1) → Int → (List Q0) → Bs → Int → Option ((List Q0) × (List Q1) × Int × Int)) (self_4 : (List Q1) → Int → (List Q0) → Option ((List Q0) × (List Q1) × Int × Int)) (self_5 : (List Q1) → Int → (List Q0) → Option ((List Q0) × (List Q1) × Int × Int)) (ih_0 : Q11.SP self_0) (ih_1 : Q28.SP self_1) (ih_2 : Q41.SP self_2) (ih_3 : Q30.SP self_3) (ih_4 : Q35.SP self_4) (ih_5 : Q42.SP self_5) :
 Q41.SP (Q41.g self_0 self_1 self_2 self_3 self_4 self_5) := by
 intro R Fr b0 A0_0 n0_0 c0_0 A0_2 n0_2 c0_2 p C q hr0_0 hn0_0 hc0_0 hn0_2 r j; subst hn0_0; subst hn0_2; refine Spec.of Tryz.func125 rfl rfl ?_; unfold Q41.g at j; have j := brun j; refine sR 1 rfl (nT (sR 3 rfl ?_)); obtain ⟨u, D, j⟩ := bbind j; refine At.call rfl Q30.callee rfl rfl rfl (ih_3 _ _ b0 A0_0 p.length c0_0 A0_2 q.length c0_2 p C q ([38] : Bs) 6 hr0_0 rfl hc0_0 rfl D) ?_; rintro _ _ ⟨X, E, G, I, Z, J, rfl, rfl, rfl, U, rfl, V⟩; refine At.run 1 rfl (nT (At.ret ?_)); cases bret j; exact At.res (.inl rfl) rfl rfl ⟨u.1.length, E, G, I, u.2.1.length, J, rfl, rfl, rfl, U, rfl, V⟩
theorem Q30.step (self_0 : (List Q1) → Int → (List Q0) → Option ((List Q0) × (List Q1) × Int × Int)) (self_1 : (List Q1) → Int → (List Q0) → Bs → Int → Option ((List Q0) × (List Q1) × Int × Int)) (self_2 : (List Q1) → Int → (List Q0) → Option ((List Q0) × (List Q1) × Int × Int)) (self_3 : (List Q1) → Int → (List Q0) → Bs → Int → Option ((List Q0) × (List Q1) × Int × Int)) (self_4 : (List Q1) → Int → (List Q0) → Option ((List Q0) × (List Q1) × Int × Int)) (self_5 : (List Q1) → Int → (List Q0) → Option ((List Q0) × (List Q1) × Int × Int)) (ih_0 : Q11.SP self_0) (ih_1 : Q28.SP self_1) (ih_2 : Q41.SP self_2) (ih_3 : Q30.SP self_3) (ih_4 : Q35.SP self_4) (ih_5 : Q42.SP self_5) :
 Q30.SP (Q30.g self_0 self_1 self_2 self_3 self_4 self_5) := by
 intro R Fr b0 A0_0 n0_0 c0_0 A0_2 n0_2 c0_2 a0 b5 a3 a1 a2 hr0_0 hn0_0 hc0_0 hn0_2 r j; subst hn0_0; subst hn0_2; refine Spec.of Tryz.func124 rfl rfl ?_; unfold Q30.g at j; have j := brun j; refine sR 1 rfl (nT (sR 1 rfl ?_)); obtain ⟨u, b6, j⟩ := bbind j; refine At.callF rfl Q35.callee rfl rfl rfl (ih_4 _ _ b0 A0_0 a0.length c0_0 A0_2 a3.length c0_2 a0 b5 a3 hr0_0 rfl hc0_0 rfl b6) ?_; rintro _ _ ⟨g6, b7, b8, b9, g7, c4, rfl, rfl, rfl, c5, rfl, c6⟩; refine At.run 1 rfl (nT (At.seq ?_)); refine At.block ?_; obtain ⟨c7, c8, g8, j⟩ := bjoin j; obtain ⟨a4, I, c9⟩ := bsome j; clear j; unfold Q30.l0 at I; obtain ⟨J, D⟩ := Q15.1 I; clear I; refine At.loopJ (X := (List Q0) × (List Q1) × Int × Int × Nat × (Option Addr) × Nat × (Option Addr) × Nat × Nat) (Y := (List Q0) × (List Q1) × Int × Int × Nat × (Option Addr) × Nat × (Option Addr) × Nat × Nat) (e0 := 0) (fun s_ => [(0, bp b0), (1, .string ⟨(a1).toArray⟩), (2, i6 a2), (3, .func (.func 158) #[bp b0] #[]), (9, i6 s_.2.2.2.1)]) (fun s_ => pc b0 [.slice s_.2.2.2.2.2.2.2.1 (d8 s_).1 (d8 s_).2, i6 s_.2.2.1, .slice s_.2.2.2.2.2.1 s_.2.2.2.2.1 s_.2.2.2.2.2.2.1] 128 :: row Q0.fl 33 s_.2.2.2.2.2.1 s_.2.2.2.2.1 s_.2.2.2.2.2.2.1 s_.1 :: Fr) (fun m_ => fun s_ => iterN (fun t_ : (List Q0) × (List Q1) × Int × Int => Q30.l0b a1 a2 self_4 t_.1 t_.2.1 t_.2.2.1 t_.2.2.2) m_ (s_.1, s_.2.1, s_.2.2.1, s_.2.2.2.1) = some a4 ∧ s_.1.length = s_.2.2.2.2.1 ∧ RdS Q1.fl.rep R.heap s_.2.2.2.2.2.2.2.1 s_.2.1 ∧ s_.2.1.length = (d8 s_).1 ∧ (d8 s_).1 ≤ (d8 s_).2) J (u.1, u.2.1, u.2.2.1, u.2.2.2, u.1.length, b7, b8, b9, u.2.1.length, c4) ⟨D, rfl, c5, rfl, c6⟩ (fun s_ => [(9, i6 s_.2.2.2.1)]) (fun s_ => pc b0 [.slice s_.2.2.2.2.2.2.2.1 (d8 s_).1 (d8 s_).2, i6 s_.2.2.1, .slice s_.2.2.2.2.2.1 s_.2.2.2.2.1 s_.2.2.2.2.2.2.1] 128 :: row Q0.fl 33 s_.2.2.2.2.2.1 s_.2.2.2.2.1 s_.2.2.2.2.2.2.1 s_.1 :: Fr) (fun s_ => c7 (.inl (s_.1, s_.2.1, s_.2.2.1, s_.2.2.2.1)) = some r ∧ s_.1.length = s_.2.2.2.2.1 ∧ RdS Q1.fl.rep R.heap s_.2.2.2.2.2.2.2.1 s_.2.1 ∧ s_.2.1.length = (d8 s_).1 ∧ (d8 s_).1 ≤ (d8 s_).2) (fun a w e hs => ⟨e.sub ⟨rfl, rfl, rfl, rfl, rfl, trivial⟩, (by exact hs)⟩) ?_ (fun d0 => ?_)
 ·rintro ⟨a5, a6, g9, h0, d1, d2, d3, d4, d5, d6⟩ ⟨j, d7, d9, e1, e2⟩; obtain rfl : a5.length = d1 := d7; obtain rfl : a6.length = d5 := e1; have j := (c8 _).symm.trans j
  ·refine At.ibx ?_; refine At.thn (sR 2 rfl (nT (At.ret ?_))); obtain rfl := (bret j).symm; exact At.res (.inl rfl) rfl rfl ⟨a5.length, d2, d3, d4, a6.length, d6, rfl, rfl, rfl, d9, rfl, e2⟩
 ·clear D J; rintro J ⟨C, G, a7, E, e3, a8, a9, e4, e5, e6⟩ ⟨D, e7, U, e8, V⟩; obtain rfl : C.length = e3 := e7; obtain rfl : G.length = e5 := e8; obtain ⟨e9, f_, f0, hf_, j⟩ := bit D; clear D; have j : (Q30.l0b a1 a2 self_4 C G a7 E).bind _ = some a4 := j; unfold Q30.l0b at j
  ·refine At.seq (sR 2 rfl ?_); obtain ⟨h1, f1, j⟩ := bbind j; refine At.call rfl Q33.callee rfl rfl rfl (Q33.spec U rfl V rfl f1) ?_; rintro _ _ ⟨rfl, rfl⟩; refine nT ?_; rcases bite j with ⟨Z, j⟩ | ⟨Z, j⟩
   ··refine At.condT rfl Z ?_
     refine At.skip (At.thn ?_); refine At.block ?_; refine sR 1 rfl ?_; obtain ⟨p, f3, j⟩ := bbind j; refine At.call rfl Q39.callee rfl rfl rfl (Q39.spec U rfl V rfl f3) ?_; rintro _ _ ⟨f4, h2, f5, rfl, rfl, f6, rfl, f7⟩; refine At.alloc rfl rfl rfl (fun f8 => ?_); refine At.store rfl rfl rfl rfl .z rfl rfl rfl (.c (.c (.c (.c .n)))) ?_; refine nT ?_; refine At.held [pc f8 [i6 p.2.2.1, i6 p.2.2.2.1, .string ⟨(p.2.2.2.2.1).toArray⟩, i6 p.2.2.2.2.2] 115] 10 rfl ?_; refine At.H.pw 0 rfl rfl rfl rfl rfl (.c .z .n) ?_; refine At.H.pw 1 rfl rfl rfl rfl rfl (.c .z .n) ?_; refine At.H.pw 2 rfl rfl rfl rfl rfl (.c .z .n) ?_; refine At.H.pw 3 rfl rfl rfl rfl rfl (.c .z .n) ?_; refine At.H.pw 5 rfl rfl rfl rfl rfl (.c .z .n) ?_; refine At.H.tw 6 rfl (Y.load rfl rfl .z rfl rfl rfl) rfl rfl rfl (.c .z .n) ?_; refine At.H.al [4] (Q7 ?_ Q8)
     ··refine At.HO.op rfl ?_
       refine At.f2 (At.f2 ?_); obtain ⟨q, f9, j⟩ := bbind j; refine At.callF rfl Q35.callee rfl rfl rfl (ih_4 _ _ b0 f4 p.1.length f5 a8 C.length a9 p.1 p.2.1 C f6 rfl f7 rfl f9) ?_; rintro _ _ ⟨h3, h4, h5, g0, h6, g1, rfl, rfl, rfl, b2, rfl, b3⟩; refine At.HO.back (.c (.s (.s .z)) .n) ?_; refine At.H.tw 7 rfl (Y.build (is := [0, 1, 2, 4]) (xo := [.tmp 19, .tmp 20, .tmp 22, .tmp 24]) (vs := [i6 a2, i6 E, i6 q.2.2.2, i6 p.2.2.2.1]) (cs := [i6 a2, i6 E, i6 q.2.2.2, .string ⟨(([] : Bs)).toArray⟩, i6 p.2.2.2.1]) rfl rfl rfl rfl rfl rfl) rfl rfl rfl (.c (.s (.s .z)) .n) ?_; refine At.H.al [8] (Q7 ?_ Q8)
       ··refine At.HO.op rfl ?_
         obtain ⟨b4, g2, j⟩ := bbind j; refine At.call rfl Q25.callee rfl rfl rfl (Q25.spec b2 rfl b3 rfl g2) ?_; rintro _ _ ⟨g3, g4, rfl, rfl⟩; refine At.HO.back (.c (.s (.s .z)) .n) ?_; refine At.H.pw 9 rfl rfl rfl rfl rfl (.c (.s (.s .z)) .n) ?_; refine At.H.done (by kernel_rfl) ?_; refine At.ibn ?_; refine At.rowLen (.s .z) fun g5 => ?_; refine At.drop (.s (.s .z)) ?_; have j := bnx hf_ j; exact fun a w e hs => ⟨e9, (b4.1, q.2.1, q.2.2.1, b4.2, (q.1 ++ ([(⟨a2, E, q.2.2.2, ([] : Bs), p.2.2.2.1⟩ : Q0)] : List Q0)).length, g3, g4, g0, q.2.1.length, g1), f0, ⟨j, g5, b2, rfl, b3⟩, e.sub ⟨rfl, rfl, rfl, rfl, rfl, trivial⟩, hs⟩
   ··refine At.condF rfl (bn Z) ?_
     refine At.exit ?_; refine At.the ?_; refine At.the ?_; exact fun a w e hs => d0 (C, G, a7, E, C.length, a8, a9, e4, G.length, e6) ⟨(bdn j c9), rfl, U, rfl, V⟩ a w (e.sub ⟨rfl, trivial⟩) hs
theorem Q35.step (self_0 : (List Q1) → Int → (List Q0) → Option ((List Q0) × (List Q1) × Int × Int)) (self_1 : (List Q1) → Int → (List Q0) → Bs → Int → Option ((List Q0) × (List Q1) × Int × Int)) (self_2 : (List Q1) → Int → (List Q0) → Option ((List Q0) × (List Q1) × Int × Int)) (self_3 : (List Q1) → Int → (List Q0) → Bs → Int → Option ((List Q0) × (List Q1) × Int × Int)) (self_4 : (List Q1) → Int → (List Q0) → Option ((List Q0) × (List Q1) × Int × Int)) (self_5 : (List Q1) → Int → (List Q0) → Option ((List Q0) × (List Q1) × Int × Int)) (ih_0 : Q11.SP self_0) (ih_1 : Q28.SP self_1) (ih_2 : Q41.SP self_2) (ih_3 : Q30.SP self_3) (ih_4 : Q35.SP self_4) (ih_5 : Q42.SP self_5) :
 Q35.SP (Q35.g self_0 self_1 self_2 self_3 self_4 self_5) := by
 intro R Fr b0 A0_0 n0_0 c0_0 A0_2 n0_2 c0_2 a5 a6 u hr0_0 hn0_0 hc0_0 hn0_2 r j; subst hn0_0; subst hn0_2; refine Spec.of Tryz.func158 rfl rfl ?_; unfold Q35.g at j; have j := brun j; refine sR 1 rfl (nT (At.seq ?_)); refine At.block ?_; refine sR 1 rfl ?_; obtain ⟨n2, b9, j⟩ := bbind j; refine At.call rfl Q33.callee rfl rfl rfl (Q33.spec hr0_0 rfl hc0_0 rfl b9) ?_; rintro _ _ ⟨rfl, rfl⟩; refine At.run 1 rfl (nT ?_); rcases bite j with ⟨Z, j⟩ | ⟨Z, j⟩
 ··refine At.condT rfl Z ?_
   refine sR 1 rfl ?_; obtain ⟨C, c4, j⟩ := bbind j; refine At.call rfl Q39.callee rfl rfl rfl (Q39.spec hr0_0 rfl hc0_0 rfl c4) ?_; rintro _ _ ⟨c5, n4, c6, rfl, rfl, c7, rfl, c8⟩; refine At.alloc rfl rfl rfl (fun c9 => ?_); refine At.store rfl rfl rfl rfl .z rfl rfl rfl (.c (.c (.c (.c .n)))) ?_; refine nT (At.seq ?_); refine At.held [pc c9 [i6 C.2.2.1, i6 C.2.2.2.1, .string ⟨(C.2.2.2.2.1).toArray⟩, i6 C.2.2.2.2.2] 115] 8 rfl ?_; refine At.H.pw 0 rfl rfl rfl rfl rfl (.c .z .n) ?_; refine At.H.pw 1 rfl rfl rfl rfl rfl (.c .z .n) ?_; refine At.H.pw 3 rfl rfl rfl rfl rfl (.c .z .n) ?_; refine At.H.tw 4 rfl (Y.load rfl rfl .z rfl rfl rfl) rfl rfl rfl (.c .z .n) ?_; refine At.H.al [2] (Q7 ?_ Q8)
   ··refine At.HO.op rfl ?_
     refine At.f2 (At.f2 ?_); obtain ⟨I, d0, j⟩ := bbind j; refine At.call rfl Q35.callee rfl rfl rfl (ih_4 _ _ b0 c5 C.1.length c6 A0_2 u.length c0_2 C.1 C.2.1 u c7 rfl c8 rfl d0) ?_; rintro _ _ ⟨n5, n6, n7, d1, n8, d2, rfl, rfl, rfl, a7, rfl, a8⟩; refine At.HO.back (.c (.s (.s .z)) .n) ?_; refine At.H.tw 5 rfl (Y.build (is := [0, 1, 4]) (xo := [.const (i6 5), .tmp 17, .tmp 19]) (vs := [i6 5, i6 I.2.2.2, i6 C.2.2.2.1]) (cs := [i6 5, i6 I.2.2.2, i6 0, .string ⟨(([] : Bs)).toArray⟩, i6 C.2.2.2.1]) rfl rfl rfl rfl rfl rfl) rfl rfl rfl (.c (.s (.s .z)) .n) ?_; refine At.H.al [6] (Q7 ?_ Q8)
     ··refine At.HO.op rfl ?_
       obtain ⟨n9, d3, j⟩ := bbind j; refine At.call rfl Q25.callee rfl rfl rfl (Q25.spec a7 rfl a8 rfl d3) ?_; rintro _ _ ⟨d4, d5, rfl, rfl⟩; refine At.HO.back (.c (.s (.s .z)) .n) ?_; refine At.H.pw 7 rfl rfl rfl rfl rfl (.c (.s (.s .z)) .n) ?_; refine At.H.done (by kernel_rfl) ?_; refine At.thn (At.ret ?_); refine At.ibr ?_; refine At.thr ?_; refine At.rowLen (.s .z) fun d6 => ?_; refine At.drop (.s (.s .z)) ?_; cases bret j; exact At.res (.inl rfl) rfl rfl ⟨(I.1 ++ ([(⟨5, I.2.2.2, 0, ([] : Bs), C.2.2.2.1⟩ : Q0)] : List Q0)).length, d4, d5, d1, I.2.1.length, d2, rfl, rfl, d6, a7, rfl, a8⟩
 ··refine At.condF rfl (bn Z) ?_
   refine sR 1 rfl ?_; obtain ⟨o0, d7, j⟩ := bbind j; refine At.call rfl Q33.callee rfl rfl rfl (Q33.spec hr0_0 rfl hc0_0 rfl d7) ?_; rintro _ _ ⟨rfl, rfl⟩; refine At.run 1 rfl (nT ?_); rcases bite j with ⟨a0, j⟩ | ⟨a0, j⟩
   ··refine At.condT rfl a0 ?_
     refine sR 1 rfl ?_; obtain ⟨D, d8, j⟩ := bbind j; refine At.call rfl Q39.callee rfl rfl rfl (Q39.spec hr0_0 rfl hc0_0 rfl d8) ?_; rintro _ _ ⟨o7, o8, o9, rfl, rfl, d9, rfl, e0⟩; refine At.alloc rfl rfl rfl (fun e1 => ?_); refine At.store rfl rfl rfl rfl .z rfl rfl rfl (.c (.c (.c (.c .n)))) ?_; refine nT (sR 1 rfl (At.f2 (At.f2 ?_))); obtain ⟨J, e2, j⟩ := bbind j; refine At.call rfl Q123.callee rfl rfl rfl (Q123.spec d9 rfl e0 rfl e2) ?_; rintro _ _ ⟨e3, p0, e4, rfl, rfl, e5, rfl, e6⟩; refine At.run 1 rfl (nT (At.seq ?_)); refine At.held [pc e1 [i6 D.2.2.1, i6 D.2.2.2.1, .string ⟨(D.2.2.2.2.1).toArray⟩, i6 D.2.2.2.2.2] 115] 9 rfl ?_; refine At.H.pw 0 rfl rfl rfl rfl rfl (.c (.s (.s .z)) .n) ?_; refine At.H.pw 1 rfl rfl rfl rfl rfl (.c (.s (.s .z)) .n) ?_; refine At.H.pw 3 rfl rfl rfl rfl rfl (.c (.s (.s .z)) .n) ?_; refine At.H.pw 4 rfl rfl rfl rfl rfl (.c (.s (.s .z)) .n) ?_; refine At.H.tw 5 rfl (Y.load rfl rfl .z rfl rfl rfl) rfl rfl rfl (.c (.s (.s .z)) .n) ?_; refine At.H.al [2] (Q7 ?_ Q8)
     ··refine At.HO.op rfl ?_
       obtain ⟨U, e7, j⟩ := bbind j; refine At.call rfl Q35.callee rfl rfl rfl (ih_4 _ _ b0 e3 J.1.length e4 A0_2 u.length c0_2 J.1 D.2.1 u e5 rfl e6 rfl e7) ?_; rintro _ _ ⟨p1, p2, p3, e8, p4, e9, rfl, rfl, rfl, a9, rfl, b2⟩; refine At.HO.back (.c (.s (.s .z)) .n) ?_; refine At.H.tw 6 rfl (Y.build (is := [0, 1, 3, 4]) (xo := [.const (i6 8), .tmp 31, .tmp 32, .tmp 34]) (vs := [i6 8, i6 U.2.2.2, .string ⟨(J.2).toArray⟩, i6 D.2.2.2.1]) (cs := [i6 8, i6 U.2.2.2, i6 0, .string ⟨(J.2).toArray⟩, i6 D.2.2.2.1]) rfl rfl rfl rfl rfl rfl) rfl rfl rfl (.c (.s (.s .z)) .n) ?_; refine At.H.al [7] (Q7 ?_ Q8)
       ··refine At.HO.op rfl ?_
         obtain ⟨p5, f0, j⟩ := bbind j; refine At.call rfl Q25.callee rfl rfl rfl (Q25.spec a9 rfl b2 rfl f0) ?_; rintro _ _ ⟨f1, f3, rfl, rfl⟩; refine At.HO.back (.c (.s (.s .z)) .n) ?_; refine At.H.pw 8 rfl rfl rfl rfl rfl (.c (.s (.s .z)) .n) ?_; refine At.H.done (by kernel_rfl) ?_; refine At.thn (At.ret ?_); refine At.ibr ?_; refine At.thr ?_; refine At.rowLen (.s .z) fun f4 => ?_; refine At.drop (.s (.s .z)) ?_; cases bret j; exact At.res (.inl rfl) rfl rfl ⟨(U.1 ++ ([(⟨8, U.2.2.2, 0, J.2, D.2.2.2.1⟩ : Q0)] : List Q0)).length, f1, f3, e8, U.2.1.length, e9, rfl, rfl, f4, a9, rfl, b2⟩
   ··refine At.condF rfl (bn a0) ?_
     refine sR 1 rfl ?_; obtain ⟨p6, f5, j⟩ := bbind j; refine At.call rfl Q33.callee rfl rfl rfl (Q33.spec hr0_0 rfl hc0_0 rfl f5) ?_; rintro _ _ ⟨rfl, rfl⟩; refine At.run 1 rfl (nT ?_); rcases bite j with ⟨a1, j⟩ | ⟨a1, j⟩
     ··refine At.condT rfl a1 ?_
       refine sR 1 rfl ?_; obtain ⟨E, f6, j⟩ := bbind j; refine At.call rfl Q39.callee rfl rfl rfl (Q39.spec hr0_0 rfl hc0_0 rfl f6) ?_; rintro _ _ ⟨p7, p8, p9, rfl, rfl, f7, rfl, f8⟩; refine At.alloc rfl rfl rfl (fun f9 => ?_); refine At.store rfl rfl rfl rfl .z rfl rfl rfl (.c (.c (.c (.c .n)))) ?_; refine nT (sR 1 rfl (At.f2 (At.f2 ?_))); obtain ⟨V, g0, j⟩ := bbind j; refine At.call rfl Q123.callee rfl rfl rfl (Q123.spec f7 rfl f8 rfl g0) ?_; rintro _ _ ⟨g1, q0, g2, rfl, rfl, g3, rfl, g4⟩; refine At.run 1 rfl (nT (At.seq ?_)); refine At.held [pc f9 [i6 E.2.2.1, i6 E.2.2.2.1, .string ⟨(E.2.2.2.2.1).toArray⟩, i6 E.2.2.2.2.2] 115] 9 rfl ?_; refine At.H.pw 0 rfl rfl rfl rfl rfl (.c (.s (.s .z)) .n) ?_; refine At.H.pw 1 rfl rfl rfl rfl rfl (.c (.s (.s .z)) .n) ?_; refine At.H.pw 3 rfl rfl rfl rfl rfl (.c (.s (.s .z)) .n) ?_; refine At.H.pw 4 rfl rfl rfl rfl rfl (.c (.s (.s .z)) .n) ?_; refine At.H.tw 5 rfl (Y.load rfl rfl .z rfl rfl rfl) rfl rfl rfl (.c (.s (.s .z)) .n) ?_; refine At.H.al [2] (Q7 ?_ Q8)
       ··refine At.HO.op rfl ?_
         obtain ⟨X, g5, j⟩ := bbind j; refine At.call rfl Q35.callee rfl rfl rfl (ih_4 _ _ b0 g1 V.1.length g2 A0_2 u.length c0_2 V.1 E.2.1 u g3 rfl g4 rfl g5) ?_; rintro _ _ ⟨q1, q2, q3, g6, q4, g7, rfl, rfl, rfl, b3, rfl, b4⟩; refine At.HO.back (.c (.s (.s .z)) .n) ?_; refine At.H.tw 6 rfl (Y.build (is := [0, 1, 3, 4]) (xo := [.const (i6 9), .tmp 46, .tmp 47, .tmp 49]) (vs := [i6 9, i6 X.2.2.2, .string ⟨(V.2).toArray⟩, i6 E.2.2.2.1]) (cs := [i6 9, i6 X.2.2.2, i6 0, .string ⟨(V.2).toArray⟩, i6 E.2.2.2.1]) rfl rfl rfl rfl rfl rfl) rfl rfl rfl (.c (.s (.s .z)) .n) ?_; refine At.H.al [7] (Q7 ?_ Q8)
         ··refine At.HO.op rfl ?_
           obtain ⟨q5, g8, j⟩ := bbind j; refine At.call rfl Q25.callee rfl rfl rfl (Q25.spec b3 rfl b4 rfl g8) ?_; rintro _ _ ⟨g9, h0, rfl, rfl⟩; refine At.HO.back (.c (.s (.s .z)) .n) ?_; refine At.H.pw 8 rfl rfl rfl rfl rfl (.c (.s (.s .z)) .n) ?_; refine At.H.done (by kernel_rfl) ?_; refine At.thn (At.ret ?_); refine At.ibr ?_; refine At.thr ?_; refine At.rowLen (.s .z) fun h1 => ?_; refine At.drop (.s (.s .z)) ?_; cases bret j; exact At.res (.inl rfl) rfl rfl ⟨(X.1 ++ ([(⟨9, X.2.2.2, 0, V.2, E.2.2.2.1⟩ : Q0)] : List Q0)).length, g9, h0, g6, X.2.1.length, g7, rfl, rfl, h1, b3, rfl, b4⟩
     ··refine At.condF rfl (bn a1) ?_
       refine sR 1 rfl ?_; obtain ⟨q6, h2, j⟩ := bbind j; refine At.call rfl Q33.callee rfl rfl rfl (Q33.spec hr0_0 rfl hc0_0 rfl h2) ?_; rintro _ _ ⟨rfl, rfl⟩; refine At.run 1 rfl (nT ?_); rcases bite j with ⟨a2, j⟩ | ⟨a2, j⟩
       ··refine At.condT rfl a2 ?_
         refine sR 1 rfl ?_; obtain ⟨b5, h3, j⟩ := bbind j; refine At.call rfl Q74.callee rfl rfl rfl (Q74.spec hr0_0 rfl hc0_0 rfl h3) ?_; rintro _ _ ⟨h4, q7, h5, rfl, rfl, h6, rfl, h7⟩; refine nT (sR 1 rfl ?_); obtain ⟨h8, h9, j⟩ := bbind j; refine At.call rfl Q11.callee rfl rfl rfl (ih_0 _ _ b0 h4 b5.1.length h5 A0_2 u.length c0_2 b5.1 a6 u h6 rfl h7 rfl h9) ?_; rintro _ _ ⟨q8, k0, k1, q9, r0, r1, rfl, rfl, rfl, k2, rfl, k3⟩; refine At.run 1 rfl (nT (sR 1 rfl ?_)); obtain ⟨k4, k5, j⟩ := bbind j; refine At.call rfl Q100.callee rfl rfl rfl (Q100.spec k2 rfl k3 rfl k5) ?_; rintro _ _ ⟨k6, r2, k7, rfl, rfl, k8, rfl, k9⟩; refine nT (sR 2 rfl (nT (At.ret ?_))); refine At.ibr ?_; refine At.thr ?_; cases bret j; exact At.res (.inl rfl) rfl rfl ⟨h8.1.length, k0, k1, k6, k4.length, k7, rfl, rfl, rfl, k8, rfl, k9⟩
       ··refine At.condF rfl (bn a2) ?_
         refine sR 3 rfl (At.y (Y.load rfl rfl .z rfl rfl rfl) rfl rfl rfl ?_); obtain ⟨p, j⟩ := bnone j; refine At.y (Y.ixRd hr0_0 rfl rfl rfl rfl rfl rfl rfl p.1 p.2) rfl rfl rfl ?_; refine At.y (Y.fa (RdS.some_ hr0_0 rfl p.1 p.2) rfl rfl rfl rfl rfl rfl) rfl rfl rfl ?_; refine At.y (Y.ldFl hr0_0 rfl (q := 0) rfl rfl p.1 p.2 rfl rfl rfl) rfl rfl rfl (At.run 2 rfl (nT ?_)); rcases bite j with ⟨a3, j⟩ | ⟨a3, j⟩
         ··refine At.condT rfl (decide_eq_true a3) ?_
           refine sR 1 rfl ?_; obtain ⟨G, l6, j⟩ := bbind j; refine At.call rfl Q39.callee rfl rfl rfl (Q39.spec hr0_0 rfl hc0_0 rfl l6) ?_; rintro _ _ ⟨l7, r3, l8, rfl, rfl, b6, rfl, b7⟩; refine At.alloc rfl rfl rfl (fun r4 => ?_); refine At.store rfl rfl rfl rfl .z rfl rfl rfl (.c (.c (.c (.c .n)))) ?_; refine nT (sR 2 rfl (At.y (Y.load rfl rfl .z rfl rfl rfl) rfl rfl rfl (At.run 1 rfl (At.y (Y.load rfl rfl .z rfl rfl rfl) rfl rfl rfl ?_)))); refine At.y (Y.build (is := [0, 3, 4]) (xo := [.const (i6 4), .tmp 75, .tmp 77]) (vs := [i6 4, .string ⟨(G.2.2.2.2.1).toArray⟩, i6 G.2.2.2.1]) (cs := [i6 4, i6 0, i6 0, .string ⟨(G.2.2.2.2.1).toArray⟩, i6 G.2.2.2.1]) rfl rfl rfl rfl rfl rfl) rfl rfl rfl ?_; refine At.f2 (At.f2 ?_); obtain ⟨r5, l9, j⟩ := bbind j; refine At.call rfl Q25.callee rfl rfl rfl (Q25.spec b6 rfl b7 rfl l9) ?_; rintro _ _ ⟨m0, m1, rfl, rfl⟩; refine At.run 1 rfl (nT (At.ret ?_)); refine At.ibr ?_; refine At.thr ?_; refine At.rowLen (.s .z) fun m2 => ?_; refine At.drop (.s (.s .z)) ?_; cases bret j; exact At.res (.inl rfl) rfl rfl ⟨(u ++ ([(⟨4, 0, 0, G.2.2.2.2.1, G.2.2.2.1⟩ : Q0)] : List Q0)).length, m0, m1, l7, G.1.length, l8, rfl, rfl, m2, b6, rfl, b7⟩
         ··refine At.condF rfl (decide_eq_false a3) ?_
           refine sR 3 rfl (At.y (Y.load rfl rfl .z rfl rfl rfl) rfl rfl rfl (At.y (Y.ixRd hr0_0 rfl rfl rfl rfl rfl rfl rfl p.1 p.2) rfl rfl rfl ?_)); refine At.y (Y.fa (RdS.some_ hr0_0 rfl p.1 p.2) rfl rfl rfl rfl rfl rfl) rfl rfl rfl ?_; refine At.y (Y.ldFl hr0_0 rfl (q := 0) rfl rfl p.1 p.2 rfl rfl rfl) rfl rfl rfl (At.run 2 rfl (nT ?_)); rcases bite j with ⟨a4, j⟩ | ⟨a4, j⟩
           ··refine At.condT rfl (decide_eq_true a4) ?_
             refine sR 1 rfl ?_; obtain ⟨b8, m3, j⟩ := bbind j; refine At.call rfl Q42.callee rfl rfl rfl (ih_5 _ _ b0 A0_0 a5.length c0_0 A0_2 u.length c0_2 a5 a6 u hr0_0 rfl hc0_0 rfl m3) ?_; rintro _ _ ⟨r6, m4, m5, m6, r7, m7, rfl, rfl, rfl, m8, rfl, m9⟩; refine At.run 1 rfl (nT (At.ret ?_)); refine At.ibr ?_; refine At.thr ?_; cases bret j; exact At.res (.inl rfl) rfl rfl ⟨b8.1.length, m4, m5, m6, b8.2.1.length, m7, rfl, rfl, rfl, m8, rfl, m9⟩
           ··refine At.condF rfl (decide_eq_false a4) ?_
             refine At.skip ?_; refine At.ibn ?_; refine At.thn (sR 1 rfl ?_); cases j
theorem Q42.step (self_0 : (List Q1) → Int → (List Q0) → Option ((List Q0) × (List Q1) × Int × Int)) (self_1 : (List Q1) → Int → (List Q0) → Bs → Int → Option ((List Q0) × (List Q1) × Int × Int)) (self_2 : (List Q1) → Int → (List Q0) → Option ((List Q0) × (List Q1) × Int × Int)) (self_3 : (List Q1) → Int → (List Q0) → Bs → Int → Option ((List Q0) × (List Q1) × Int × Int)) (self_4 : (List Q1) → Int → (List Q0) → Option ((List Q0) × (List Q1) × Int × Int)) (self_5 : (List Q1) → Int → (List Q0) → Option ((List Q0) × (List Q1) × Int × Int)) (ih_0 : Q11.SP self_0) (ih_1 : Q28.SP self_1) (ih_2 : Q41.SP self_2) (ih_3 : Q30.SP self_3) (ih_4 : Q35.SP self_4) (ih_5 : Q42.SP self_5) :
 Q42.SP (Q42.g self_0 self_1 self_2 self_3 self_4 self_5) := by
 intro R Fr b0 A0_0 n0_0 c0_0 A0_2 n0_2 c0_2 e6 e7 C hr0_0 hn0_0 hc0_0 hn0_2 r j; subst hn0_0; subst hn0_2; refine Spec.of Tryz.func208 rfl rfl ?_; unfold Q42.g at j; have j := brun j; refine sR 1 rfl (nT (sR 1 rfl ?_)); obtain ⟨p, b2, j⟩ := bbind j; refine At.call rfl Q39.callee rfl rfl rfl (Q39.spec hr0_0 rfl hc0_0 rfl b2) ?_; rintro _ _ ⟨J, e8, U, rfl, rfl, u, rfl, E⟩; refine At.alloc rfl rfl rfl (fun a5 => ?_); refine At.store rfl rfl rfl rfl .z rfl rfl rfl (.c (.c (.c (.c .n)))) ?_; refine nT (sR 1 rfl (nT (At.seq ?_))); refine sR 1 rfl (At.y (Y.load rfl rfl .z rfl rfl rfl) rfl rfl rfl (nT ?_)); obtain ⟨b3, b4, V, j⟩ := bjoin j; let T4 : HProp := pc a5 [i6 p.2.2.1, i6 p.2.2.2.1, .string ⟨(p.2.2.2.2.1).toArray⟩, i6 p.2.2.2.2.2] 115; let T5 : HProp := pc b0 [.slice J p.1.length U, i6 p.2.1, .slice A0_2 C.length c0_2] 128; refine At.join (X := Int) (fun D => [(0, bp b0), (3, bp a5), (4, i6 D)]) (fun D => T4 :: T5 :: row Q0.fl 33 A0_2 C.length c0_2 C :: Fr) (fun D => b3 (.inl D) = some r) ?_ (fun a6 => ?_)
 ·rintro D j; have j := (b4 _).symm.trans j
  ·refine At.seq (sR 3 rfl (At.y (Y.load rfl rfl (.s .z) rfl rfl rfl) rfl rfl rfl ?_)); obtain ⟨G, j⟩ := bnone j; refine At.y (Y.ixRd u rfl rfl rfl rfl rfl rfl rfl G.1 G.2) rfl rfl rfl ?_; refine At.y (Y.fa (RdS.some_ u rfl G.1 G.2) rfl rfl rfl rfl rfl rfl) rfl rfl rfl ?_; refine At.y (Y.ldFl u rfl (q := 0) rfl rfl G.1 G.2 rfl rfl rfl) rfl rfl rfl (At.run 1 rfl (nT ?_)); rcases bite j with ⟨Z, j⟩ | ⟨Z, j⟩
   ··refine At.condF rfl (nf (decide_eq_true Z)) ?_
     refine At.skip (At.thn (sR 1 rfl (At.f2 (At.f2 ?_)))); obtain ⟨a0, b5, j⟩ := bbind j; refine At.call rfl Q74.callee rfl rfl rfl (Q74.spec u rfl E rfl b5) ?_; rintro _ _ ⟨e9, f0, f1, rfl, rfl, b6, rfl, b7⟩; refine At.run 2 rfl (nT (sR 1 rfl ?_)); obtain ⟨a7, b8, j⟩ := bbind j; refine At.call rfl Q100.callee rfl rfl rfl (Q100.spec b6 rfl b7 rfl b8) ?_; rintro _ _ ⟨b9, f3, c4, rfl, rfl, c5, rfl, c6⟩; refine nT (At.seq ?_); refine At.held [T4] 10 rfl ?_; refine At.H.pw 0 rfl rfl rfl rfl rfl (.c (.s (.s .z)) .n) ?_; refine At.H.pw 1 rfl rfl rfl rfl rfl (.c (.s (.s .z)) .n) ?_; refine At.H.pw 2 rfl rfl rfl rfl rfl (.c (.s (.s .z)) .n) ?_; refine At.H.pw 4 rfl rfl rfl rfl rfl (.c (.s (.s .z)) .n) ?_; refine At.H.pw 5 rfl rfl rfl rfl rfl (.c (.s (.s .z)) .n) ?_; refine At.H.tw 6 rfl (Y.load rfl rfl .z rfl rfl rfl) rfl rfl rfl (.c (.s (.s .z)) .n) ?_; refine At.H.al [3] (Q7 ?_ Q8)
     ··refine At.HO.op rfl ?_
       obtain ⟨I, c7, j⟩ := bbind j; refine At.call rfl Q11.callee rfl rfl rfl (ih_0 _ _ b0 b9 a7.length c4 A0_2 C.length c0_2 a7 p.2.1 C c5 rfl c6 rfl c7) ?_; rintro _ _ ⟨f4, f5, f6, c8, f7, c9, rfl, rfl, rfl, a8, rfl, a9⟩; refine At.HO.back (.c (.s (.s .z)) .n) ?_; refine At.H.tw 7 rfl (Y.build (is := [0, 1, 3, 4]) (xo := [.tmp 51, .tmp 53, .tmp 54, .tmp 56]) (vs := [i6 D, i6 I.2.2.2, .string ⟨(a0.2.2.2.1).toArray⟩, i6 p.2.2.2.1]) (cs := [i6 D, i6 I.2.2.2, i6 0, .string ⟨(a0.2.2.2.1).toArray⟩, i6 p.2.2.2.1]) rfl rfl rfl rfl rfl rfl) rfl rfl rfl (.c (.s (.s .z)) .n) ?_; refine At.H.al [8] (Q7 ?_ Q8)
       ··refine At.HO.op rfl ?_
         obtain ⟨f8, d0, j⟩ := bbind j; refine At.call rfl Q25.callee rfl rfl rfl (Q25.spec a8 rfl a9 rfl d0) ?_; rintro _ _ ⟨d1, d2, rfl, rfl⟩; refine At.HO.back (.c (.s (.s .z)) .n) ?_; refine At.H.pw 9 rfl rfl rfl rfl rfl (.c (.s (.s .z)) .n) ?_; refine At.H.done (by kernel_rfl) ?_; refine At.thn (At.ret ?_); refine At.rowLen (.s .z) fun d3 => ?_; refine At.drop (.s (.s .z)) ?_; cases bret j; exact At.res (.inl rfl) rfl rfl ⟨(I.1 ++ ([(⟨D, I.2.2.2, 0, a0.2.2.2.1, p.2.2.2.1⟩ : Q0)] : List Q0)).length, d1, d2, c8, I.2.1.length, c9, rfl, rfl, d3, a8, rfl, a9⟩
   ··refine At.condT rfl (nt (decide_eq_false Z)) ?_
     refine At.region (At.run 1 rfl ?_); cases j
 ··refine At.block ?_
   refine sR 2 rfl (nT ?_); rcases bite j with ⟨a1, j⟩ | ⟨a1, j⟩
   ··refine At.condT rfl a1 ?_
     refine sR 2 rfl (At.y (Y.load rfl rfl .z rfl rfl rfl) rfl rfl rfl ?_); refine At.y (Y.build (is := [0, 4]) (xo := [.const (i6 1), .tmp 21]) (vs := [i6 1, i6 p.2.2.2.1]) (cs := [i6 1, i6 0, i6 0, .string ⟨(([] : Bs)).toArray⟩, i6 p.2.2.2.1]) rfl rfl rfl rfl rfl rfl) rfl rfl rfl ?_; refine At.f2 (At.f2 ?_); obtain ⟨f9, d4, j⟩ := bbind j; refine At.call rfl Q25.callee rfl rfl rfl (Q25.spec u rfl E rfl d4) ?_; rintro _ _ ⟨d5, d6, rfl, rfl⟩; refine At.run 1 rfl (nT (At.ret ?_)); refine At.ibr ?_; have j := bup V j; refine At.thr ?_; refine At.rowLen (.s .z) fun d7 => ?_; refine At.drop (.s (.s .z)) ?_; cases bret j; exact At.res (.inl rfl) rfl rfl ⟨(C ++ ([(⟨1, 0, 0, ([] : Bs), p.2.2.2.1⟩ : Q0)] : List Q0)).length, d5, d6, J, p.1.length, U, rfl, rfl, d7, u, rfl, E⟩
   ··refine At.condF rfl (bn a1) ?_
     refine sR 2 rfl (nT ?_); rcases bite j with ⟨a2, j⟩ | ⟨a2, j⟩
     ··refine At.condT rfl a2 ?_
       refine sR 2 rfl (At.y (Y.load rfl rfl .z rfl rfl rfl) rfl rfl rfl ?_); refine At.y (Y.build (is := [0, 4]) (xo := [.const (i6 2), .tmp 28]) (vs := [i6 2, i6 p.2.2.2.1]) (cs := [i6 2, i6 0, i6 0, .string ⟨(([] : Bs)).toArray⟩, i6 p.2.2.2.1]) rfl rfl rfl rfl rfl rfl) rfl rfl rfl ?_; refine At.f2 (At.f2 ?_); obtain ⟨g0, d8, j⟩ := bbind j; refine At.call rfl Q25.callee rfl rfl rfl (Q25.spec u rfl E rfl d8) ?_; rintro _ _ ⟨d9, e0, rfl, rfl⟩; refine At.run 1 rfl (nT (At.ret ?_)); refine At.ibr ?_; have j := bup V j; refine At.thr ?_; refine At.rowLen (.s .z) fun e1 => ?_; refine At.drop (.s (.s .z)) ?_; cases bret j; exact At.res (.inl rfl) rfl rfl ⟨(C ++ ([(⟨2, 0, 0, ([] : Bs), p.2.2.2.1⟩ : Q0)] : List Q0)).length, d9, e0, J, p.1.length, U, rfl, rfl, e1, u, rfl, E⟩
     ··refine At.condF rfl (bn a2) ?_
       refine sR 2 rfl (nT ?_); rcases bite j with ⟨a3, j⟩ | ⟨a3, j⟩
       ··refine At.condT rfl a3 ?_
         refine At.region (At.run 1 rfl (At.nil ?_)); refine At.ibn ?_; refine At.thn ?_; exact fun a w e hs => a6 10 j a w (e.sub ⟨rfl, rfl, rfl, trivial⟩) hs
       ··refine At.condF rfl (bn a3) ?_
         refine sR 2 rfl (nT ?_); rcases bite j with ⟨a4, j⟩ | ⟨a4, j⟩
         ··refine At.condT rfl a4 ?_
           refine At.skip ?_; refine At.ibn ?_; refine At.thn ?_; exact fun a w e hs => a6 11 j a w (e.sub ⟨rfl, rfl, rfl, trivial⟩) hs
         ··refine At.condF rfl (bn a4) ?_
           refine sR 2 rfl (At.y (Y.load rfl rfl .z rfl rfl rfl) rfl rfl rfl (At.run 1 rfl (At.y (Y.load rfl rfl .z rfl rfl rfl) rfl rfl rfl ?_))); refine At.y (Y.build (is := [0, 3, 4]) (xo := [.const (i6 3), .tmp 12, .tmp 14]) (vs := [i6 3, .string ⟨(p.2.2.2.2.1).toArray⟩, i6 p.2.2.2.1]) (cs := [i6 3, i6 0, i6 0, .string ⟨(p.2.2.2.2.1).toArray⟩, i6 p.2.2.2.1]) rfl rfl rfl rfl rfl rfl) rfl rfl rfl ?_; refine At.f2 (At.f2 ?_); obtain ⟨g1, e2, j⟩ := bbind j; refine At.call rfl Q25.callee rfl rfl rfl (Q25.spec u rfl E rfl e2) ?_; rintro _ _ ⟨e3, e4, rfl, rfl⟩; refine At.run 1 rfl (nT (At.ret ?_)); refine At.ibr ?_; have j := bup V j; refine At.thr ?_; refine At.rowLen (.s .z) fun e5 => ?_; refine At.drop (.s (.s .z)) ?_; cases bret j; exact At.res (.inl rfl) rfl rfl ⟨(C ++ ([(⟨3, 0, 0, p.2.2.2.2.1, p.2.2.2.1⟩ : Q0)] : List Q0)).length, e3, e4, J, p.1.length, U, rfl, rfl, e5, u, rfl, E⟩
theorem Q11.all : ∀ k_ : Nat, Q11.SP (Q11.n k_) ∧ Q28.SP (Q28.n k_) ∧ Q41.SP (Q41.n k_) ∧ Q30.SP (Q30.n k_) ∧ Q35.SP (Q35.n k_) ∧ Q42.SP (Q42.n k_)
 | 0 => ⟨(by intro R Fr b0 A0_0 n0_0 c0_0 A0_2 n0_2 c0_2 a0_0 a0_1 a0_2 hr0_0 hn0_0 hc0_0 hn0_2 r j; cases j), (by intro R Fr b0 A0_0 n0_0 c0_0 A0_2 n0_2 c0_2 a0_0 a0_1 a0_2 a1 a2 hr0_0 hn0_0 hc0_0 hn0_2 r j; cases j), (by intro R Fr b0 A0_0 n0_0 c0_0 A0_2 n0_2 c0_2 a0_0 a0_1 a0_2 hr0_0 hn0_0 hc0_0 hn0_2 r j; cases j), (by intro R Fr b0 A0_0 n0_0 c0_0 A0_2 n0_2 c0_2 a0_0 a0_1 a0_2 a1 a2 hr0_0 hn0_0 hc0_0 hn0_2 r j; cases j), (by intro R Fr b0 A0_0 n0_0 c0_0 A0_2 n0_2 c0_2 a0_0 a0_1 a0_2 hr0_0 hn0_0 hc0_0 hn0_2 r j; cases j), (by intro R Fr b0 A0_0 n0_0 c0_0 A0_2 n0_2 c0_2 a0_0 a0_1 a0_2 hr0_0 hn0_0 hc0_0 hn0_2 r j; cases j)⟩
 | k_ + 1 => ⟨Q11.step (Q11.n k_) (Q28.n k_) (Q41.n k_) (Q30.n k_) (Q35.n k_) (Q42.n k_) ((Q11.all k_).1) ((Q11.all k_).2.1) ((Q11.all k_).2.2.1) ((Q11.all k_).2.2.2.1) ((Q11.all k_).2.2.2.2.1) ((Q11.all k_).2.2.2.2.2), Q28.step (Q11.n k_) (Q28.n k_) (Q41.n k_) (Q30.n k_) (Q35.n k_) (Q42.n k_) ((Q11.all k_).1) ((Q11.all k_).2.1) ((Q11.all k_).2.2.1) ((Q11.all k_).2.2.2.1) ((Q11.all k_).2.2.2.2.1) ((Q11.all k_).2.2.2.2.2), Q41.step (Q11.n k_) (Q28.n k_) (Q41.n k_) (Q30.n k_) (Q35.n k_) (Q42.n k_) ((Q11.all k_).1) ((Q11.all k_).2.1) ((Q11.all k_).2.2.1) ((Q11.all k_).2.2.2.1) ((Q11.all k_).2.2.2.2.1) ((Q11.all k_).2.2.2.2.2), Q30.step (Q11.n k_) (Q28.n k_) (Q41.n k_) (Q30.n k_) (Q35.n k_) (Q42.n k_) ((Q11.all k_).1) ((Q11.all k_).2.1) ((Q11.all k_).2.2.1) ((Q11.all k_).2.2.2.1) ((Q11.all k_).2.2.2.2.1) ((Q11.all k_).2.2.2.2.2), Q35.step (Q11.n k_) (Q28.n k_) (Q41.n k_) (Q30.n k_) (Q35.n k_) (Q42.n k_) ((Q11.all k_).1) ((Q11.all k_).2.1) ((Q11.all k_).2.2.1) ((Q11.all k_).2.2.2.1) ((Q11.all k_).2.2.2.2.1) ((Q11.all k_).2.2.2.2.2), Q42.step (Q11.n k_) (Q28.n k_) (Q41.n k_) (Q30.n k_) (Q35.n k_) (Q42.n k_) ((Q11.all k_).1) ((Q11.all k_).2.1) ((Q11.all k_).2.2.1) ((Q11.all k_).2.2.2.1) ((Q11.all k_).2.2.2.2.1) ((Q11.all k_).2.2.2.2.2)⟩
theorem Q11.spec {p : List Q1} {u : Int} {q : List Q0} (hr0_0 : RdS Q1.fl.rep R.heap A0_0 p) (hn0_0 : p.length = n0_0) (hc0_0 : n0_0 ≤ c0_0) (hn0_2 : q.length = n0_2) {r : (List Q0) × (List Q1) × Int × Int} (j : Q11.f p u q = some r) :
 Spec Tryz.prog 66 [bp b0] R (pc b0 [.slice A0_0 n0_0 c0_0, i6 u, .slice A0_2 n0_2 c0_2] 128 :: row Q0.fl 33 A0_2 n0_2 c0_2 q :: Fr) (fun v l' => ∃ (C : Nat) (E : Option Addr) (G : Nat) (I : Option Addr) (D : Nat) (J : Nat), v = i6 r.2.2.2 ∧ pc b0 [.slice I D J, i6 r.2.2.1, .slice E C G] 128 :: row Q0.fl 33 E C G r.1 :: Fr = l' ∧ r.1.length = C ∧ RdS Q1.fl.rep R.heap I r.2.1 ∧ r.2.1.length = D ∧ D ≤ J) := by
 obtain ⟨k_, hk_⟩ := Q278 j; exact (Q11.all k_).1 R Fr b0 A0_0 n0_0 c0_0 A0_2 n0_2 c0_2 p u q hr0_0 hn0_0 hc0_0 hn0_2 hk_

/- told with Q11.f -/

/- told with Q11.f -/

/- told with Q11.f -/

/- told with Q11.f -/

/- told with Q11.f -/

noncomputable def Q166.f (p : List Q0) : Option Unit :=
 some ()
theorem Q166.callee : Callee Tryz.prog 63 := ⟨_, Tryz.func63, by kernel_rfl, by kernel_rfl⟩
theorem Q166.spec {p : List Q0} (hn0_0 : p.length = n0_0) {r : Unit} (j : Q166.f p = some r) :
 SpecD Tryz.prog 63 [bp b0, bp b1] .returning R (pc b0 [.slice A0_0 n0_0 c0_0] 27 :: row Q0.fl 33 A0_0 n0_0 c0_0 p :: pc b1 [.nilIface] 74 :: Fr) (fun v l' => v = .returning ∧ pc b0 [.slice A0_0 n0_0 c0_0] 27 :: row Q0.fl 33 A0_0 n0_0 c0_0 p :: pc b1 [.nilIface] 74 :: Fr = l') := by
 subst hn0_0; refine SpecD.of (d := 5) Tryz.func63 rfl rfl rfl rfl ?_; unfold Q166.f at j; have j := brun j; refine At.block ?_; refine At.seq (At.region ?_); refine At.y (Y.eqIfK (ti' := 0) none rfl rfl rfl rfl) rfl rfl rfl ?_; refine nT ?_; refine At.condT rfl rfl ?_; refine At.region (At.run 1 rfl (At.nil ?_)); refine At.ibn ?_; cases bret j; exact At.res (.inr rfl) rfl rfl ⟨rfl, rfl⟩

noncomputable def Q150.f (a0 : Bs) : Option ((Option Q6) × (List Q0)) :=
 (Q61.f a0).bind fun q =>
 if q.1.isNone = true then
 (Q91.f q.2).bind fun u =>
 (Q11.f u 0 ([] : List Q0)).bind fun p =>
 if (0 : Int) ≤ 0 ∧ 0 < (p.2.1.length : Int) then
 if (gt p.2.1 0).Kind = 0 then
 (Q166.f p.1).bind fun C =>
 some (none, p.1)
 else
 none
 else none
 else
 some (q.1, ([] : List Q0))
theorem Q150.callee : Callee Tryz.prog 31 := ⟨_, Tryz.func31, by kernel_rfl, by kernel_rfl⟩
theorem Q150.spec {a0 : Bs} {r : (Option Q6) × (List Q0)} (j : Q150.f a0 = some r) :
 Spec Tryz.prog 31 [.string ⟨(a0).toArray⟩] R (Fr) (fun v l' => ∃ (X : Option Nat) (D : Nat) (Z : Option Addr) (a1 : Nat), v = .tuple #[.slice Z D a1, opti 110 X] ∧ row Q0.fl 33 Z D a1 r.2 :: optb (Ow.fl Q6.fl) 121 X r.1 :: Fr = l' ∧ r.2.length = D) := by
 refine SpecE.ret (SpecE.ofD Tryz.func31 rfl rfl ?_); unfold Q150.f at j; have j := brun j; refine At.seq (At.region ?_); refine At.alloc rfl rfl rfl (fun a2 => ?_); refine At.alloc rfl rfl rfl (fun a3 => ?_); refine nT (sR 1 rfl ?_); obtain ⟨E, a4, j⟩ := bbind j; refine At.call rfl Q61.callee rfl rfl rfl (Q61.spec a4) ?_; rintro _ _ ⟨G, b7, u, C, rfl, rfl, rfl⟩; refine At.run 4 rfl ?_; refine At.store rfl rfl rfl rfl (.s (.s .z)) (Q256 _ _) rfl (Q285 _ _) (.c .n) ?_; refine nT (At.seq (At.seq (At.region (At.y (Y.load rfl rfl .z rfl rfl rfl) rfl rfl rfl ?_)))); refine At.y (Y.neOptI (.s (.s .z)) rfl rfl rfl) rfl rfl rfl ?_; refine nT ?_; rcases bite j with ⟨I, j⟩ | ⟨I, j⟩
 ··refine At.condF rfl (nf I) ?_
   refine At.skip (At.thn (sR 1 rfl ?_)); refine At.defer rfl rfl ?_; refine nT (sR 1 rfl (At.f1 ?_)); obtain ⟨J, a5, j⟩ := bbind j; refine At.call rfl Q91.callee rfl rfl rfl (Q91.spec rfl a5) ?_; rintro _ _ ⟨b8, rfl, rfl, rfl⟩; refine At.y (Y.build (is := [0]) (xo := [.tmp 16]) (vs := [.slice u J.length C]) (cs := [.slice u J.length C, i6 0, .slice none 0 0]) rfl rfl rfl rfl rfl rfl) rfl rfl rfl ?_; refine At.box rfl rfl (cs := [.slice u J.length C, i6 0, .slice none 0 0]) rfl rfl (fun b9 => ?_); refine At.run 1 rfl (nT (sR 1 rfl ?_)); refine At.nilRow Q0.fl 33 ?_; refine At.freeze (.s (.s .z)) fun c4 a6 a7 a8 c5 a9 => ?_; refine At.f1 ?_; obtain ⟨b2, b3, j⟩ := bbind j; refine At.call rfl Q11.callee rfl rfl rfl (Q11.spec a6 a7 a8 rfl b3) ?_; rintro _ _ ⟨c6, b4, b5, c7, c8, c9, rfl, rfl, rfl, U, rfl, d0⟩; refine nT (At.seq (sR 3 rfl (At.y (Y.load rfl rfl .z rfl rfl rfl) rfl rfl rfl ?_))); obtain ⟨p, j⟩ := bnone j; refine At.y (Y.ixRd U rfl rfl rfl rfl rfl rfl rfl p.1 p.2) rfl rfl rfl ?_; refine At.y (Y.fa (RdS.some_ U rfl p.1 p.2) rfl rfl rfl rfl rfl rfl) rfl rfl rfl ?_; refine At.y (Y.ldFl U rfl (q := 0) rfl rfl p.1 p.2 rfl rfl rfl) rfl rfl rfl (At.run 1 rfl (nT ?_)); rcases bite j with ⟨V, j⟩ | ⟨V, j⟩
   ··refine At.condF rfl (nf (decide_eq_true V)) ?_
     refine At.skip (At.thn (sR 3 rfl (At.y (Y.load rfl rfl .z rfl rfl rfl) rfl rfl rfl ?_))); refine At.store rfl rfl rfl rfl (.s (.s (.s (.s .z)))) rfl rfl rfl (.c .n) ?_; refine At.store rfl rfl rfl rfl (.s (.s (.s .z))) rfl rfl rfl (.c .n) ?_; refine nT (At.ret ?_); refine At.thaw a9 ?_; refine At.f1 (At.f4 (At.f3 ?_)); obtain ⟨d1, b6, j⟩ := bbind j; refine At.leaveD (.inl ⟨.inl rfl, rfl⟩) rfl Q166.callee (Q166.spec rfl b6) ?_; rintro _ _ ⟨rfl, rfl⟩; refine ⟨rfl, _, (RV.cell rfl rfl .z rfl rfl rfl (RV.cell rfl rfl (.s (.s .z)) rfl rfl rfl RV.nil)), ?_⟩; refine At.optNone (Ow.fl Q6.fl) 121 ?_; refine At.drop (.s .z) (At.drop (.s (.s .z)) (At.drop (.s (.s .z)) (At.drop (.s (.s .z)) (At.drop (.s (.s .z)) (At.f1 ?_))))); cases bret j; exact fun a w e hs => ⟨_, ⟨_, rfl, ⟨none, b2.1.length, b4, b5, rfl, rfl, rfl⟩⟩, hs⟩
   ··refine At.condT rfl (nt (decide_eq_false V)) ?_
     refine At.region (At.run 1 rfl ?_); cases j
 ··refine At.condT rfl (nt (bn I)) ?_
   refine At.seq ?_; refine At.held [pc a3 [opti 110 G] 74, row Q1.fl 115 u E.2.length C E.2, optb (Ow.fl Q6.fl) 121 G E.1, pc a2 [.slice none 0 0] 27] 3 rfl ?_; refine At.H.tw 0 rfl (Y.load rfl rfl .z rfl rfl rfl) rfl rfl rfl (.c .z (.c .z (.c .z (.c .z .n)))) ?_; refine At.H.al [1] (Q7 ?_ Q8)
   ··refine At.HO.op rfl ?_
     refine At.store rfl rfl rfl rfl (.s (.s (.s .z))) rfl rfl rfl (.c .n) ?_; refine At.HO.back (.c (.s .z) (.c (.s .z) (.c (.s .z) (.c .z .n)))) ?_; refine At.H.al [2] (Q7 ?_ Q8)
     ··refine At.HO.op rfl ?_
       refine At.store rfl rfl rfl rfl (.s .z) (Q256 _ _) rfl (Q285 _ _) (.c .n) ?_; refine At.HO.back (.c .z (.c (.s .z) (.c (.s .z) (.c .z .n)))) ?_; refine At.H.done (by kernel_rfl) ?_; refine At.thn (At.ret (At.thr ?_)); refine At.resMD (.inl rfl) rfl (RV.cell rfl rfl (.s .z) rfl rfl rfl (RV.cell rfl rfl .z rfl rfl rfl RV.nil)) ?_; refine At.nilRow Q0.fl 33 ?_; refine At.drop (.s .z) (At.drop (.s .z) (At.drop (.s .z) ?_)); cases bret j; exact fun a w e hs => ⟨_, ⟨_, rfl, ⟨G, 0, none, 0, rfl, rfl, rfl⟩⟩, hs⟩

end Go.Bw
namespace Go.Bw
open Go Go.RowKit Go.Proofs
variable {R : Res} {Fr : List HProp} {A0 A1 A0_0 A0_1 A0_3 A0_4 A0_5 : Option Addr} {n0 c0 n1 c1 b0 n0_0 c0_0 n0_1 c0_1 n0_3 c0_3 n0_4 c0_4 n0_5 c0_5 b0_1 b0_2 : Nat}
structure Q14 where
 node : Int
 nots : Int
deriving Inhabited, DecidableEq
def Q14.fl : Fl Q14 := ⟨2, fun x => [i6 x.node, i6 x.nots], fun _ => rfl, fun x u hu => by simp at hu; rcases hu with rfl | rfl <;> rfl, by decide⟩
noncomputable def Q105.f (a0 : List Q0) : Option (List Q0) :=
 if (0 + a0.length) * 48 ≤ 140737488355328 then some a0 else none
theorem Q105.callee : Callee Tryz.prog 82 := ⟨_, Tryz.func82, by kernel_rfl, by kernel_rfl⟩
theorem Q105.spec {a0 : List Q0} (hr0 : RdS (Q0.fl.rep) R.heap A0 a0) (hn0 : a0.length = n0) (hc0 : n0 ≤ c0) {r : List Q0} (j : Q105.f a0 = some r) :
 Spec Tryz.prog 82 [.slice A0 n0 c0] R (Fr) (fun v l' => ∃ (w1 : Option Addr) (w2 : Nat), v = .slice w1 r.length w2 ∧ row Q0.fl 33 w1 r.length w2 r :: Fr = l') := by
 subst hn0; refine Spec.of Tryz.func82 rfl rfl ?_; unfold Q105.f at j; have j := brun j; obtain ⟨hb, j⟩ := bnone j; cases bret j; refine sR 1 rfl (nT (At.seq (At.seq (At.region ?_)))); refine At.run 1 rfl ?_; refine At.y (Y.eqNil rfl rfl rfl rfl) rfl rfl rfl ?_; refine nT ?_; cases A0 with
 | none =>
  have ha : a0 = [] := RdS.isNil hr0; subst ha; refine At.condT rfl rfl ?_; refine sR 1 rfl (nT (At.ret (At.thr ?_))); refine At.nilRow Q0.fl 33 ?_; exact At.res (.inl rfl) rfl rfl ⟨_, _, rfl, rfl⟩
 | some ad =>
  refine At.condF rfl rfl ?_; refine At.skip (At.thn (At.seq (At.region ?_))); refine At.lit rfl (xo := []) (ys := ([] : List Q0)) Q0.fl rfl rfl rfl rfl rfl rfl rfl rfl rfl rfl rfl (fun B cb => ?_); refine At.run 1 rfl ?_; refine At.appendAll rfl .z (SrcE.rd hr0) rfl rfl rfl rfl rfl rfl rfl rfl rfl hb (by decide) rfl (fun A c => ?_); refine At.run 1 rfl (nT (At.ret ?_)); exact At.res (.inl rfl) rfl rfl ⟨_, _, rfl, rfl⟩

noncomputable def Q52.l0b (a0 : Bs) (p : Int) : Option ((Int) ⊕ ((Unit) ⊕ (Bool))) :=
 if p < (a0.length : Int) then
 if (0 : Int) ≤ p ∧ p < (a0.length : Int) then
 jn (
 if bor .u8 (bat a0 p) 32 < 97 then
 some (.inl true)
 else
 some (.inl (decide (122 < bor .u8 (bat a0 p) 32)))) (fun (q : Bool) =>
 jn (
 if q = true then
 jn (
 if bat a0 p < 48 then
 some (.inl (true, true))
 else
 some (.inl (false, decide (57 < bat a0 p)))) (fun (s_ : Bool × Bool) =>
 some (.inl s_.2))
 else
 some (.inl false)) (fun (u : Bool) =>
 jn (
 if u = true then
 some (.inl (!(decide (bat a0 p = 95))))
 else
 some (.inl false)) (fun (C : Bool) =>
 if C = true then
 upL (some false)
 else
 nx (IntKind.i64.wrap (p + 1)))))
 else none
 else
 dn (.inl ())
noncomputable def Q52.l0 (a0 : Bs) (p : Int) : Option ((Unit) ⊕ (Bool)) := iter (fun t_ : Int => Q52.l0b a0 t_) p
noncomputable def Q52.f (a0 : Bs) (a1 a2 : Int) : Option Bool :=
 jn (
 if (a0.length : Int) < 1 then
 some (.inl true)
 else
 some (.inl (decide (8 < (a0.length : Int))))) (fun (p : Bool) =>
 jn (
 if p = true then
 some (.inl true)
 else
 if (0 : Int) ≤ 0 ∧ 0 < (a0.length : Int) then
 some (.inl (decide (bat a0 0 < a1)))
 else none) (fun (q : Bool) =>
 jn (
 if q = true then
 some (.inl true)
 else
 if (0 : Int) ≤ 0 ∧ 0 < (a0.length : Int) then
 some (.inl (decide (a2 < bat a0 0)))
 else none) (fun (u : Bool) =>
 if u = true then
 some false
 else
 jn (Q52.l0 a0 0) (fun (_ : Unit) =>
 some true))))
theorem Q52.callee : Callee Tryz.prog 230 := ⟨_, Tryz.func230, by kernel_rfl, by kernel_rfl⟩
theorem Q52.spec {a0 : Bs} {a1 a2 : Int} {r : Bool} (j : Q52.f a0 a1 a2 = some r) :
 Spec Tryz.prog 230 [.string ⟨(a0).toArray⟩, .int .u8 a1, .int .u8 a2] R (Fr) (fun v l' => v = .bool r ∧ Fr = l') := by
 refine Spec.of Tryz.func230 rfl rfl ?_; unfold Q52.f at j; have j := brun j; refine sR 1 rfl (nT (At.seq (At.seq (At.region ?_)))); refine At.run 4 rfl ?_; obtain ⟨c9, d0, f1, j⟩ := bjoin j; refine At.joinO 4 (X := Bool) (fun u => [(0, .string ⟨(a0).toArray⟩), (1, .int .u8 a1), (2, .int .u8 a2), (16, .bool u)]) (fun u => Fr) (fun u => c9 (.inl u) = some r) ?_ (fun b4 => ?_)
 ·rintro u j; have j := (d0 _).symm.trans j
  ·refine At.run 1 rfl ?_; obtain ⟨d1, d2, f2, j⟩ := bjoin j; refine At.joinO 5 (X := Bool) (fun C => [(0, .string ⟨(a0).toArray⟩), (2, .int .u8 a2), (22, .bool C)]) (fun C => Fr) (fun C => d1 (.inl C) = some r) ?_ (fun b5 => ?_)
   ·rintro C j; have j := (d2 _).symm.trans j
    ·refine At.run 1 rfl ?_; obtain ⟨d3, d4, f3, j⟩ := bjoin j; refine At.joinO 5 (X := Bool) (fun D => [(0, .string ⟨(a0).toArray⟩), (28, .bool D)]) (fun D => Fr) (fun D => d3 (.inl D) = some r) ?_ (fun b6 => ?_)
     ·rintro D j; have j := (d4 _).symm.trans j
      ·refine nT ?_; rcases bite j with ⟨U, j⟩ | ⟨U, j⟩
       ··refine At.condT rfl U ?_
         refine sR 1 rfl (nT (At.ret (At.thr ?_))); cases bret j; exact At.res (.inl rfl) rfl rfl ⟨rfl, rfl⟩
       ··refine At.condF rfl (bn U) ?_
         refine At.skip (At.thn (At.seq (sR 3 rfl (nT ?_)))); refine At.block ?_; obtain ⟨d5, d6, d7, j⟩ := bjoin j; obtain ⟨q, V, b7⟩ := bsome j; clear j; unfold Q52.l0 at V; obtain ⟨Z, E⟩ := Q15.1 V; clear V; refine At.loopJ (X := Int) (Y := Unit) (e0 := 0) (fun p => [(0, .string ⟨(a0).toArray⟩), (30, i6 (a0.length : Int)), (31, i6 p)]) (fun p => Fr) (fun m_ => fun p => iterN (fun t_ : Int => Q52.l0b a0 t_) m_ p = some q) Z 0 E (fun _ => []) (fun _ => Fr) (fun _ => d5 (.inl ()) = some r) (fun a w e hs => ⟨e.sub ⟨rfl, rfl, rfl, trivial⟩, (by exact hs)⟩) ?_ (fun d8 => ?_)
         ·rintro _ j; have j := (d6 _).symm.trans j
          ·refine At.ibx ?_; refine At.thn (sR 1 rfl (nT (At.ret ?_))); cases bret j; exact At.res (.inl rfl) rfl rfl ⟨rfl, rfl⟩
         ·clear E Z; rintro Z p E; obtain ⟨d9, f_, e1, hf_, j⟩ := bit E; clear E; have j : (Q52.l0b a0 p).bind _ = some q := j; unfold Q52.l0b at j
          ·refine sR 1 rfl (nT (At.seq ?_)); rcases bite j with ⟨a3, j⟩ | ⟨a3, j⟩
           ··refine At.condT rfl (decide_eq_true a3) ?_
             refine At.skip (At.thn (At.seq ?_)); refine At.block ?_; refine sR 2 rfl (nT (sR 2 rfl ?_)); obtain ⟨b8, j⟩ := bnone j; refine At.y (Y.ixStr rfl rfl rfl rfl b8.1 b8.2) rfl rfl rfl (At.run 1 rfl (nT (sR 4 rfl ?_))); obtain ⟨e2, e3, f4, j⟩ := bjoin j; refine At.joinO 4 (X := Bool) (fun G => [(0, .string ⟨(a0).toArray⟩), (8, .int .u8 (bat a0 p)), (30, i6 (a0.length : Int)), (31, i6 p), (44, .bool G)]) (fun G => Fr) (fun G => e2 (.inl G) = some q) ?_ (fun b9 => ?_)
             ·rintro G j; have j := (e3 _).symm.trans j
              ·refine At.run 1 rfl ?_; obtain ⟨e4, e5, f5, j⟩ := bjoin j; refine At.joinO 7 (X := Bool) (fun I => [(0, .string ⟨(a0).toArray⟩), (8, .int .u8 (bat a0 p)), (30, i6 (a0.length : Int)), (31, i6 p), (52, .bool I)]) (fun I => Fr) (fun I => e4 (.inl I) = some q) ?_ (fun c4 => ?_)
               ·rintro I j; have j := (e5 _).symm.trans j
                ·refine At.run 1 rfl ?_; obtain ⟨e6, e7, f6, j⟩ := bjoin j; refine At.joinO 3 (X := Bool) (fun J => [(0, .string ⟨(a0).toArray⟩), (30, i6 (a0.length : Int)), (31, i6 p), (56, .bool J)]) (fun J => Fr) (fun J => e6 (.inl J) = some q) ?_ (fun c5 => ?_)
                 ·rintro J j; have j := (e7 _).symm.trans j
                  ·refine nT ?_; rcases bite j with ⟨a4, j⟩ | ⟨a4, j⟩
                   ··refine At.condT rfl a4 ?_
                     refine sR 1 rfl (nT (At.ret ?_)); refine At.ibr ?_; refine At.thr ?_; have j := bupL d7 b7 j; refine At.thr ?_; refine At.ibr ?_; refine At.thr ?_; cases bret j; exact At.res (.inl rfl) rfl rfl ⟨rfl, rfl⟩
                   ··refine At.condF rfl (bn a4) ?_
                     refine At.skip ?_; refine At.ibn ?_; refine At.thn (At.region (At.run 2 rfl (At.nil ?_))); have j := bnx hf_ j; exact fun a w e hs => ⟨d9, (IntKind.i64.wrap (p + 1)), e1, j, e.sub ⟨rfl, rfl, rfl, trivial⟩, hs⟩
                 ··rcases bite j with ⟨a5, j⟩ | ⟨a5, j⟩
                   ··refine At.know (t := 53) rfl a5 ?_
                     refine At.run 3 rfl ?_; exact At.of (c5 (!(decide (bat a0 p = 95))) j) ⟨rfl, rfl, rfl, rfl, trivial⟩
                   ··refine At.know (t := 53) rfl (bn a5) ?_
                     refine At.run 3 rfl ?_; exact At.of (c5 false j) ⟨rfl, rfl, rfl, rfl, trivial⟩
               ··rcases bite j with ⟨a6, j⟩ | ⟨a6, j⟩
                 ··refine At.know (t := 45) rfl a6 ?_
                   refine At.run 3 rfl ?_; obtain ⟨e8, e9, f7, j⟩ := bjoin j; refine At.joinO 3 (X := Bool × Bool) (fun s_ => [(0, .string ⟨(a0).toArray⟩), (8, .int .u8 (bat a0 p)), (30, i6 (a0.length : Int)), (31, i6 p), (45, .bool true), (46, .int .u8 (bat a0 p)), (47, .bool (decide (bat a0 p < 48))), (48, .bool s_.1), (51, .bool s_.2)]) (fun s_ => Fr) (fun s_ => e8 (.inl (s_.1, s_.2)) = some q) ?_ (fun c6 => ?_)
                   ·rintro ⟨f8, f0⟩ j; have j := (e9 _).symm.trans j
                    ·refine At.run 1 rfl ?_; exact At.of (c4 f0 j) ⟨rfl, rfl, rfl, rfl, rfl, trivial⟩
                   ··rcases bite j with ⟨a7, j⟩ | ⟨a7, j⟩
                     ··refine At.know (t := 48) rfl (decide_eq_true a7) ?_
                       refine At.run 3 rfl ?_; exact At.of (c6 (true, true) j) ⟨rfl, rfl, rfl, rfl, rfl, rfl, rfl, rfl, rfl, trivial⟩
                     ··refine At.know (t := 48) rfl (decide_eq_false a7) ?_
                       refine At.run 3 rfl ?_; exact At.of (c6 (false, decide (57 < bat a0 p)) j) ⟨rfl, rfl, rfl, rfl, rfl, rfl, rfl, rfl, rfl, trivial⟩
                 ··refine At.know (t := 45) rfl (bn a6) ?_
                   refine At.run 7 rfl ?_; exact At.of (c4 false j) ⟨rfl, rfl, rfl, rfl, rfl, trivial⟩
             ··rcases bite j with ⟨a8, j⟩ | ⟨a8, j⟩
               ··refine At.know (t := 40) rfl (decide_eq_true a8) ?_
                 refine At.run 4 rfl ?_; exact At.of (b9 true j) ⟨rfl, rfl, rfl, rfl, rfl, trivial⟩
               ··refine At.know (t := 40) rfl (decide_eq_false a8) ?_
                 refine At.run 4 rfl ?_; exact At.of (b9 (decide (122 < bor .u8 (bat a0 p) 32)) j) ⟨rfl, rfl, rfl, rfl, rfl, trivial⟩
           ··refine At.condF rfl (decide_eq_false a3) ?_
             refine At.exit ?_; refine At.the ?_; refine At.the ?_; exact fun a w e hs => d8 () (bdn j b7) a w (e.sub trivial) hs
     ··rcases bite j with ⟨a9, j⟩ | ⟨a9, j⟩
       ··refine At.know (t := 23) rfl a9 ?_
         refine At.run 5 rfl ?_; exact At.of (b6 true j) ⟨rfl, rfl, trivial⟩
       ··refine At.know (t := 23) rfl (bn a9) ?_
         refine At.run 1 rfl ?_; obtain ⟨c7, j⟩ := bnone j; refine At.y (Y.ixStr rfl rfl rfl rfl c7.1 c7.2) rfl rfl rfl (At.run 3 rfl ?_); exact At.of (b6 (decide (a2 < bat a0 0)) j) ⟨rfl, rfl, trivial⟩
   ··rcases bite j with ⟨b2, j⟩ | ⟨b2, j⟩
     ··refine At.know (t := 17) rfl b2 ?_
       refine At.run 5 rfl ?_; exact At.of (b5 true j) ⟨rfl, rfl, rfl, trivial⟩
     ··refine At.know (t := 17) rfl (bn b2) ?_
       refine At.run 1 rfl ?_; obtain ⟨c8, j⟩ := bnone j; refine At.y (Y.ixStr rfl rfl rfl rfl c8.1 c8.2) rfl rfl rfl (At.run 3 rfl ?_); exact At.of (b5 (decide (bat a0 0 < a1)) j) ⟨rfl, rfl, rfl, trivial⟩
 ··rcases bite j with ⟨b3, j⟩ | ⟨b3, j⟩
   ··refine At.know (t := 12) rfl (decide_eq_true b3) ?_
     refine At.run 4 rfl ?_; exact At.of (b4 true j) ⟨rfl, rfl, rfl, rfl, trivial⟩
   ··refine At.know (t := 12) rfl (decide_eq_false b3) ?_
     refine At.run 4 rfl ?_; exact At.of (b4 (decide (8 < (a0.length : Int))) j) ⟨rfl, rfl, rfl, rfl, trivial⟩

noncomputable def Q102.f (a0 : Bs) : Option Bool :=
 (Q52.f a0 97 122).bind fun p =>
 jn (
 if p = true then
 (Q103.f a0).bind fun q =>
 some (.inl (!q))
 else
 some (.inl false)) (fun (u : Bool) =>
 some u)
theorem Q102.callee : Callee Tryz.prog 210 := ⟨_, Tryz.func210, by kernel_rfl, by kernel_rfl⟩
theorem Q102.spec {a0 : Bs} {r : Bool} (j : Q102.f a0 = some r) :
 Spec Tryz.prog 210 [.string ⟨(a0).toArray⟩] R (Fr) (fun v l' => v = .bool r ∧ Fr = l') := by
 refine Spec.of Tryz.func210 rfl rfl ?_; unfold Q102.f at j; have j := brun j; refine sR 1 rfl (nT (sR 1 rfl ?_)); obtain ⟨J, C, j⟩ := bbind j; refine At.call rfl Q52.callee rfl rfl rfl (Q52.spec C) ?_; rintro _ _ ⟨rfl, rfl⟩; refine At.run 1 rfl ?_; obtain ⟨D, E, U, j⟩ := bjoin j; refine At.joinO 4 (X := Bool) (fun p => [(9, .bool p)]) (fun p => Fr) (fun p => D (.inl p) = some r) ?_ (fun u => ?_)
 ·rintro p j; have j := (E _).symm.trans j
  ·refine At.run 1 rfl (nT (At.ret ?_)); cases bret j; exact At.res (.inl rfl) rfl rfl ⟨rfl, rfl⟩
 ··rcases bite j with ⟨q, j⟩ | ⟨q, j⟩
   ··refine At.know (t := 5) rfl q ?_
     refine At.run 1 rfl ?_; obtain ⟨G, I, j⟩ := bbind j; refine At.call rfl Q103.callee rfl rfl rfl (Q103.spec I) ?_; rintro _ _ ⟨rfl, rfl⟩; refine At.run 2 rfl ?_; exact At.of (u (!G) j) ⟨rfl, trivial⟩
   ··refine At.know (t := 5) rfl (bn q) ?_
     refine At.run 4 rfl ?_; exact At.of (u false j) ⟨rfl, trivial⟩

noncomputable def Q107.f (a0 : Bs) : Option Bool :=
 (Q52.f a0 65 90).bind fun p =>
 some p
theorem Q107.callee : Callee Tryz.prog 211 := ⟨_, Tryz.func211, by kernel_rfl, by kernel_rfl⟩
theorem Q107.spec {a0 : Bs} {r : Bool} (j : Q107.f a0 = some r) :
 Spec Tryz.prog 211 [.string ⟨(a0).toArray⟩] R (Fr) (fun v l' => v = .bool r ∧ Fr = l') := by
 refine Spec.of Tryz.func211 rfl rfl ?_; unfold Q107.f at j; have j := brun j; refine sR 1 rfl (nT (sR 1 rfl ?_)); obtain ⟨q, p, j⟩ := bbind j; refine At.call rfl Q52.callee rfl rfl rfl (Q52.spec p) ?_; rintro _ _ ⟨rfl, rfl⟩; refine At.run 1 rfl (nT (At.ret ?_)); cases bret j; exact At.res (.inl rfl) rfl rfl ⟨rfl, rfl⟩

noncomputable def Q128.f (p X Z : Int) (q : Bs) (a0 : Int) : Option (Bool × Int) :=
 jn (
 if p = 1 then
 some (.inl (decide (p = 1)))
 else
 some (.inl (decide (p = 2)))) (fun (u : Bool) =>
 if u = true then
 some (bseq q ([] : Bs), 0)
 else
 if p = 3 then
 (Q102.f q).bind fun C =>
 some (C, 0)
 else
 if p = 4 then
 (Q107.f q).bind fun D =>
 some (D, 0)
 else
 if p = 5 then
 some (bseq q ([] : Bs), 1)
 else
 jn (
 if p = 8 then
 some (.inl (decide (p = 8)))
 else
 some (.inl (decide (p = 9)))) (fun (E : Bool) =>
 if E = true then
 jn (
 if bseq q ([45] : Bs) = true then
 some (.inl true)
 else
 (Q102.f q).bind fun G =>
 some (.inl G)) (fun (I : Bool) =>
 some (I, 1))
 else
 jn (
 if p = 10 then
 some (.inl (decide (p = 10)))
 else
 some (.inl (decide (p = 11)))) (fun (J : Bool) =>
 if J = true then
 (Q107.f q).bind fun U =>
 some (U, 1)
 else
 jn (
 if p = 6 then
 some (.inl (decide (p = 6)))
 else
 some (.inl (decide (p = 7)))) (fun (V : Bool) =>
 if V = true then
 some (bseq q ([] : Bs), 2)
 else
 some (false, 0)))))
theorem Q128.callee : Callee Tryz.prog 161 := ⟨_, Tryz.func161, by kernel_rfl, by kernel_rfl⟩
theorem Q128.spec {p I J U : Int} {V : Bs} {r : Bool × Int} (j : Q128.f p I J V U = some r) :
 Spec Tryz.prog 161 [.agg #[i6 p, i6 I, i6 J, .string ⟨(V).toArray⟩, i6 U]] R (Fr) (fun v l' => v = .tuple #[i6 r.2, .bool r.1] ∧ Fr = l') := by
 refine Spec.of Tryz.func161 rfl rfl ?_; unfold Q128.f at j; have j := brun j; refine At.seq (At.region ?_); refine At.box rfl rfl (cs := [i6 p, i6 I, i6 J, .string ⟨(V).toArray⟩, i6 U]) rfl rfl (fun q => ?_); refine At.run 2 rfl (nT (At.seq (sR 1 rfl (At.y (Y.load rfl rfl .z rfl rfl rfl) rfl rfl rfl ?_)))); refine nT ?_; refine At.block ?_; refine At.seq (sR 2 rfl (nT ?_)); obtain ⟨b8, b9, d7, j⟩ := bjoin j; let T1 : HProp := pc q [i6 p, i6 I, i6 J, .string ⟨(V).toArray⟩, i6 U] 33; refine At.join (X := Bool) (fun u => [(1, bp q), (5, i6 p), (6, .bool u)]) (fun u => T1 :: Fr) (fun u => b8 (.inl u) = some r) ?_ (fun b3 => ?_)
 ·rintro u j; have j := (b9 _).symm.trans j
  ·rcases bite j with ⟨Z, j⟩ | ⟨Z, j⟩
   ··refine At.condT rfl Z ?_
     refine At.seq ?_; refine At.quiet (by kernel_rfl) ?_; refine At.Quiet.run 1 rfl ?_; refine At.Quiet.y (Y.load rfl rfl .z rfl rfl rfl) rfl rfl rfl ?_; refine At.Quiet.run 3 rfl (At.Quiet.nil (At.thn (At.ret ?_))); refine At.ibr ?_; refine At.thr (At.drop .z ?_); cases bret j; exact At.res (.inl rfl) rfl rfl ⟨rfl, rfl⟩
   ··refine At.condF rfl (bn Z) ?_
     refine sR 2 rfl (nT ?_); rcases bite j with ⟨a0, j⟩ | ⟨a0, j⟩
     ··refine At.condT rfl (decide_eq_true a0) ?_
       refine sR 1 rfl (At.y (Y.load rfl rfl .z rfl rfl rfl) rfl rfl rfl ?_); obtain ⟨d8, c4, j⟩ := bbind j; refine At.call rfl Q102.callee rfl rfl rfl (Q102.spec c4) ?_; rintro _ _ ⟨rfl, rfl⟩; refine At.run 2 rfl (nT (At.ret ?_)); refine At.ibr ?_; refine At.thr (At.drop .z ?_); cases bret j; exact At.res (.inl rfl) rfl rfl ⟨rfl, rfl⟩
     ··refine At.condF rfl (decide_eq_false a0) ?_
       refine sR 2 rfl (nT ?_); rcases bite j with ⟨a1, j⟩ | ⟨a1, j⟩
       ··refine At.condT rfl (decide_eq_true a1) ?_
         refine sR 1 rfl (At.y (Y.load rfl rfl .z rfl rfl rfl) rfl rfl rfl ?_); obtain ⟨d9, c5, j⟩ := bbind j; refine At.call rfl Q107.callee rfl rfl rfl (Q107.spec c5) ?_; rintro _ _ ⟨rfl, rfl⟩; refine At.run 2 rfl (nT (At.ret ?_)); refine At.ibr ?_; refine At.thr (At.drop .z ?_); cases bret j; exact At.res (.inl rfl) rfl rfl ⟨rfl, rfl⟩
       ··refine At.condF rfl (decide_eq_false a1) ?_
         refine sR 2 rfl (nT ?_); rcases bite j with ⟨a2, j⟩ | ⟨a2, j⟩
         ··refine At.condT rfl (decide_eq_true a2) ?_
           refine At.seq ?_; refine At.quiet (by kernel_rfl) ?_; refine At.Quiet.run 1 rfl ?_; refine At.Quiet.y (Y.load rfl rfl .z rfl rfl rfl) rfl rfl rfl ?_; refine At.Quiet.run 3 rfl (At.Quiet.nil (At.thn (At.ret ?_))); refine At.ibr ?_; refine At.thr (At.drop .z ?_); cases bret j; exact At.res (.inl rfl) rfl rfl ⟨rfl, rfl⟩
         ··refine At.condF rfl (decide_eq_false a2) ?_
           refine At.seq (sR 2 rfl (nT ?_)); obtain ⟨c6, c7, e0, j⟩ := bjoin j; refine At.join (X := Bool) (fun C => [(1, bp q), (5, i6 p), (27, .bool C)]) (fun C => T1 :: Fr) (fun C => c6 (.inl C) = some r) ?_ (fun b4 => ?_)
           ·rintro C j; have j := (c7 _).symm.trans j
            ·rcases bite j with ⟨a3, j⟩ | ⟨a3, j⟩
             ··refine At.condT rfl a3 ?_
               refine sR 1 rfl (At.y (Y.load rfl rfl .z rfl rfl rfl) rfl rfl rfl (At.run 2 rfl ?_)); obtain ⟨c8, c9, e1, j⟩ := bjoin j; refine At.joinO 4 (X := Bool) (fun D => [(37, .bool D)]) (fun D => T1 :: Fr) (fun D => c8 (.inl D) = some r) ?_ (fun b5 => ?_)
               ·rintro D j; have j := (c9 _).symm.trans j
                ·refine At.run 2 rfl (nT (At.ret ?_)); refine At.ibr ?_; refine At.thr (At.drop .z ?_); cases bret j; exact At.res (.inl rfl) rfl rfl ⟨rfl, rfl⟩
               ··rcases bite j with ⟨a4, j⟩ | ⟨a4, j⟩
                 ··refine At.know (t := 33) rfl a4 ?_
                   refine At.run 4 rfl ?_; exact At.of (b5 true j) ⟨rfl, trivial⟩
                 ··refine At.know (t := 33) rfl (bn a4) ?_
                   refine At.run 1 rfl (At.y (Y.load rfl rfl .z rfl rfl rfl) rfl rfl rfl ?_); obtain ⟨d0, d1, j⟩ := bbind j; refine At.call rfl Q102.callee rfl rfl rfl (Q102.spec d1) ?_; rintro _ _ ⟨rfl, rfl⟩; refine At.run 1 rfl ?_; exact At.of (b5 d0 j) ⟨rfl, trivial⟩
             ··refine At.condF rfl (bn a3) ?_
               refine At.seq (sR 2 rfl (nT ?_)); obtain ⟨d2, d3, e2, j⟩ := bjoin j; refine At.join (X := Bool) (fun E => [(1, bp q), (5, i6 p), (38, .bool E)]) (fun E => T1 :: Fr) (fun E => d2 (.inl E) = some r) ?_ (fun b6 => ?_)
               ·rintro E j; have j := (d3 _).symm.trans j
                ·rcases bite j with ⟨a5, j⟩ | ⟨a5, j⟩
                 ··refine At.condT rfl a5 ?_
                   refine sR 1 rfl (At.y (Y.load rfl rfl .z rfl rfl rfl) rfl rfl rfl ?_); obtain ⟨e3, d4, j⟩ := bbind j; refine At.call rfl Q107.callee rfl rfl rfl (Q107.spec d4) ?_; rintro _ _ ⟨rfl, rfl⟩; refine At.run 2 rfl (nT (At.ret ?_)); refine At.ibr ?_; refine At.thr (At.drop .z ?_); cases bret j; exact At.res (.inl rfl) rfl rfl ⟨rfl, rfl⟩
                 ··refine At.condF rfl (bn a5) ?_
                   refine At.seq (sR 2 rfl (nT ?_)); obtain ⟨d5, d6, e4, j⟩ := bjoin j; refine At.join (X := Bool) (fun G => [(1, bp q), (44, .bool G)]) (fun G => T1 :: Fr) (fun G => d5 (.inl G) = some r) ?_ (fun b7 => ?_)
                   ·rintro G j; have j := (d6 _).symm.trans j
                    ·rcases bite j with ⟨a6, j⟩ | ⟨a6, j⟩
                     ··refine At.condT rfl a6 ?_
                       refine At.seq ?_; refine At.quiet (by kernel_rfl) ?_; refine At.Quiet.run 1 rfl ?_; refine At.Quiet.y (Y.load rfl rfl .z rfl rfl rfl) rfl rfl rfl ?_; refine At.Quiet.run 3 rfl (At.Quiet.nil (At.thn (At.ret ?_))); refine At.ibr ?_; refine At.thr (At.drop .z ?_); cases bret j; exact At.res (.inl rfl) rfl rfl ⟨rfl, rfl⟩
                     ··refine At.condF rfl (bn a6) ?_
                       refine At.skip ?_; refine At.ibn ?_; refine At.thn (sR 2 rfl (nT (At.ret (At.drop .z ?_)))); cases bret j; exact At.res (.inl rfl) rfl rfl ⟨rfl, rfl⟩
                   ··rcases bite j with ⟨a7, j⟩ | ⟨a7, j⟩
                     ··refine At.condT rfl (decide_eq_true a7) ?_
                       refine At.skip (At.thn ?_); exact fun a w e hs => b7 (decide (p = 6)) j a w (e.sub ⟨rfl, rfl, trivial⟩) hs
                     ··refine At.condF rfl (decide_eq_false a7) ?_
                       refine At.region (At.run 2 rfl (nT ?_)); exact fun a w e hs => b7 (decide (p = 7)) j a w (e.sub ⟨rfl, rfl, trivial⟩) hs
               ··rcases bite j with ⟨a8, j⟩ | ⟨a8, j⟩
                 ··refine At.condT rfl (decide_eq_true a8) ?_
                   refine At.skip (At.thn ?_); exact fun a w e hs => b6 (decide (p = 10)) j a w (e.sub ⟨rfl, rfl, rfl, trivial⟩) hs
                 ··refine At.condF rfl (decide_eq_false a8) ?_
                   refine At.region (At.run 2 rfl (nT ?_)); exact fun a w e hs => b6 (decide (p = 11)) j a w (e.sub ⟨rfl, rfl, rfl, trivial⟩) hs
           ··rcases bite j with ⟨a9, j⟩ | ⟨a9, j⟩
             ··refine At.condT rfl (decide_eq_true a9) ?_
               refine At.skip (At.thn ?_); exact fun a w e hs => b4 (decide (p = 8)) j a w (e.sub ⟨rfl, rfl, rfl, trivial⟩) hs
             ··refine At.condF rfl (decide_eq_false a9) ?_
               refine At.region (At.run 2 rfl (nT ?_)); exact fun a w e hs => b4 (decide (p = 9)) j a w (e.sub ⟨rfl, rfl, rfl, trivial⟩) hs
 ··rcases bite j with ⟨b2, j⟩ | ⟨b2, j⟩
   ··refine At.condT rfl (decide_eq_true b2) ?_
     refine At.skip (At.thn ?_); exact fun a w e hs => b3 (decide (p = 1)) j a w (e.sub ⟨rfl, rfl, rfl, trivial⟩) hs
   ··refine At.condF rfl (decide_eq_false b2) ?_
     refine At.region (At.run 2 rfl (nT ?_)); exact fun a w e hs => b3 (decide (p = 2)) j a w (e.sub ⟨rfl, rfl, rfl, trivial⟩) hs

noncomputable def Q145.f (a0 : Int) : Option Bool :=
 some (!(decide (a0 = 0)))
theorem Q145.callee : Callee Tryz.prog 162 := ⟨_, Tryz.func162, by kernel_rfl, by kernel_rfl⟩
theorem Q145.spec {a0 : Int} {r : Bool} (j : Q145.f a0 = some r) :
 Spec Tryz.prog 162 [i6 a0] R (Fr) (fun v l' => v = .bool r ∧ Fr = l') := by
 refine Spec.of Tryz.func162 rfl rfl ?_; unfold Q145.f at j; have j := brun j; refine sR 1 rfl (nT (sR 3 rfl ?_)); refine nT (At.ret ?_); cases bret j; exact At.res (.inl rfl) rfl rfl ⟨rfl, rfl⟩

noncomputable def Q70.l0b (a0 : List Int) (p : Int) : Option ((Int) ⊕ ((Unit) ⊕ (Int))) :=
 if p < (a0.length : Int) then
 if (0 : Int) ≤ p ∧ p < (a0.length : Int) then
 (Q145.f (gt a0 p)).bind fun q =>
 if q = true then
 upL (some p)
 else
 nx (IntKind.i64.wrap (p + 1))
 else none
 else
 dn (.inl ())
noncomputable def Q70.l0 (a0 : List Int) (p : Int) : Option ((Unit) ⊕ (Int)) := iter (fun t_ : Int => Q70.l0b a0 t_) p
noncomputable def Q70.f (a0 : List Int) : Option Int :=
 jn (Q70.l0 a0 0) (fun (_ : Unit) =>
 some (-1))
theorem Q70.callee : Callee Tryz.prog 129 := ⟨_, Tryz.func129, by kernel_rfl, by kernel_rfl⟩
theorem Q70.spec {a0 : List Int} (hr0 : RdS (Fl.int .i64).rep R.heap A0 a0) (hn0 : a0.length = n0) (hc0 : n0 ≤ c0) {r : Int} (j : Q70.f a0 = some r) :
 Spec Tryz.prog 129 [.slice A0 n0 c0, .func (.func 162) #[] #[]] R (Fr) (fun v l' => v = i6 r ∧ Fr = l') := by
 subst hn0; refine Spec.of Tryz.func129 rfl rfl ?_; unfold Q70.f at j; have j := brun j; refine sR 1 rfl (nT (At.seq (At.seq (At.region ?_)))); refine At.run 3 rfl (nT ?_); refine At.block ?_; obtain ⟨V, Z, a1, j⟩ := bjoin j; obtain ⟨J, D, U⟩ := bsome j; clear j; unfold Q70.l0 at D; obtain ⟨E, u⟩ := Q15.1 D; clear D; refine At.loopJ (X := Int) (Y := Unit) (e0 := 0) (fun p => [(0, .slice A0 a0.length c0), (1, .func (.func 162) #[] #[]), (7, i6 (a0.length : Int)), (8, i6 p)]) (fun p => Fr) (fun m_ => fun p => iterN (fun t_ : Int => Q70.l0b a0 t_) m_ p = some J) E 0 u (fun _ => []) (fun _ => Fr) (fun _ => V (.inl ()) = some r) (fun a w e hs => ⟨e.sub ⟨rfl, rfl, rfl, rfl, trivial⟩, (by exact hs)⟩) ?_ (fun a2 => ?_)
 ·rintro _ j; have j := (Z _).symm.trans j
  ·refine At.ibx ?_; refine At.thn (sR 1 rfl (nT (At.ret ?_))); cases bret j; exact At.res (.inl rfl) rfl rfl ⟨rfl, rfl⟩
 ·clear u E; rintro E p u; obtain ⟨a3, f_, a4, hf_, j⟩ := bit u; clear u; have j : (Q70.l0b a0 p).bind _ = some J := j; unfold Q70.l0b at j
  ·refine sR 1 rfl (nT (At.seq ?_)); rcases bite j with ⟨G, j⟩ | ⟨G, j⟩
   ··refine At.condT rfl (decide_eq_true G) ?_
     refine At.skip (At.thn (At.seq ?_)); refine At.block ?_; refine sR 2 rfl (nT (sR 3 rfl ?_)); obtain ⟨C, j⟩ := bnone j; refine At.y (Y.ixRd hr0 rfl rfl rfl rfl rfl rfl rfl C.1 C.2) rfl rfl rfl (At.y (Y.ldFl hr0 rfl (q := 0) rfl rfl C.1 C.2 rfl rfl rfl) rfl rfl rfl ?_); obtain ⟨a6, a5, j⟩ := bbind j; refine At.call rfl Q145.callee rfl rfl rfl (Q145.spec a5) ?_; rintro _ _ ⟨rfl, rfl⟩; refine nT ?_; rcases bite j with ⟨I, j⟩ | ⟨I, j⟩
     ··refine At.condT rfl I ?_
       refine sR 2 rfl (nT (At.ret ?_)); refine At.ibr ?_; refine At.thr ?_; have j := bupL a1 U j; refine At.thr ?_; refine At.ibr ?_; refine At.thr ?_; cases bret j; exact At.res (.inl rfl) rfl rfl ⟨rfl, rfl⟩
     ··refine At.condF rfl (bn I) ?_
       refine At.skip ?_; refine At.ibn ?_; refine At.thn (At.region (At.run 2 rfl (At.nil ?_))); have j := bnx hf_ j; exact fun a w e hs => ⟨a3, (IntKind.i64.wrap (p + 1)), a4, j, e.sub ⟨rfl, rfl, rfl, rfl, trivial⟩, hs⟩
   ··refine At.condF rfl (decide_eq_false G) ?_
     refine At.exit ?_; refine At.the ?_; refine At.the ?_; exact fun a w e hs => a2 () (bdn j U) a w (e.sub trivial) hs

noncomputable def Q135.f (a0 : List Int) : Option Bool :=
 (Q70.f a0).bind fun p =>
 some (decide (0 ≤ p))
theorem Q135.callee : Callee Tryz.prog 72 := ⟨_, Tryz.func72, by kernel_rfl, by kernel_rfl⟩
theorem Q135.spec {a0 : List Int} (hr0 : RdS (Fl.int .i64).rep R.heap A0 a0) (hn0 : a0.length = n0) (hc0 : n0 ≤ c0) {r : Bool} (j : Q135.f a0 = some r) :
 Spec Tryz.prog 72 [.slice A0 n0 c0, .func (.func 162) #[] #[]] R (Fr) (fun v l' => v = .bool r ∧ Fr = l') := by
 subst hn0; refine Spec.of Tryz.func72 rfl rfl ?_; unfold Q135.f at j; have j := brun j; refine sR 1 rfl (nT (sR 2 rfl ?_)); obtain ⟨q, p, j⟩ := bbind j; refine At.call rfl Q70.callee rfl rfl rfl (Q70.spec hr0 rfl hc0 p) ?_; rintro _ _ ⟨rfl, rfl⟩; refine At.run 2 rfl (nT (At.ret ?_)); cases bret j; exact At.res (.inl rfl) rfl rfl ⟨rfl, rfl⟩

noncomputable def Q57.l0b (a0 a1 : List Int) (p : Int) : Option ((Int) ⊕ ((Unit) ⊕ (Bool))) :=
 if p < (a0.length : Int) then
 if (0 : Int) ≤ p ∧ p < (a0.length : Int) then
 if (0 : Int) ≤ p ∧ p < (a1.length : Int) then
 if gt a0 p = gt a1 p then
 nx (IntKind.i64.wrap (p + 1))
 else
 upL (some false)
 else none
 else none
 else
 dn (.inl ())
noncomputable def Q57.l0 (a0 a1 : List Int) (p : Int) : Option ((Unit) ⊕ (Bool)) := iter (fun t_ : Int => Q57.l0b a0 a1 t_) p
noncomputable def Q57.f (a0 a1 : List Int) : Option Bool :=
 if (a0.length : Int) = (a1.length : Int) then
 jn (Q57.l0 a0 a1 0) (fun (_ : Unit) =>
 some true)
 else
 some false
theorem Q57.callee : Callee Tryz.prog 163 := ⟨_, Tryz.func163, by kernel_rfl, by kernel_rfl⟩
theorem Q57.spec {a0 a1 : List Int} (hr0 : RdS (Fl.int .i64).rep R.heap A0 a0) (hn0 : a0.length = n0) (hc0 : n0 ≤ c0) (hr1 : RdS (Fl.int .i64).rep R.heap A1 a1) (hn1 : a1.length = n1) (hc1 : n1 ≤ c1) {r : Bool} (j : Q57.f a0 a1 = some r) :
 Spec Tryz.prog 163 [.slice A0 n0 c0, .slice A1 n1 c1] R (Fr) (fun v l' => v = .bool r ∧ Fr = l') := by
 subst hn0; subst hn1; refine Spec.of Tryz.func163 rfl rfl ?_; unfold Q57.f at j; have j := brun j; refine sR 1 rfl (nT (At.seq (At.seq (At.region ?_)))); refine At.run 5 rfl (nT ?_); rcases bite j with ⟨E, j⟩ | ⟨E, j⟩
 ··refine At.condF rfl (nf (decide_eq_true E)) ?_
   refine At.skip (At.thn (At.seq (sR 3 rfl (nT ?_)))); refine At.block ?_; obtain ⟨a2, a3, a4, j⟩ := bjoin j; obtain ⟨V, G, Z⟩ := bsome j; clear j; unfold Q57.l0 at G; obtain ⟨I, u⟩ := Q15.1 G; clear G; refine At.loopJ (X := Int) (Y := Unit) (e0 := 0) (fun p => [(0, .slice A0 a0.length c0), (1, .slice A1 a1.length c1), (12, i6 (a0.length : Int)), (13, i6 p)]) (fun p => Fr) (fun m_ => fun p => iterN (fun t_ : Int => Q57.l0b a0 a1 t_) m_ p = some V) I 0 u (fun _ => []) (fun _ => Fr) (fun _ => a2 (.inl ()) = some r) (fun a w e hs => ⟨e.sub ⟨rfl, rfl, rfl, rfl, trivial⟩, (by exact hs)⟩) ?_ (fun a5 => ?_)
   ·rintro _ j; have j := (a3 _).symm.trans j
    ·refine At.ibx ?_; refine At.thn (sR 1 rfl (nT (At.ret ?_))); cases bret j; exact At.res (.inl rfl) rfl rfl ⟨rfl, rfl⟩
   ·clear u I; rintro I p u; obtain ⟨a6, f_, a7, hf_, j⟩ := bit u; clear u; have j : (Q57.l0b a0 a1 p).bind _ = some V := j; unfold Q57.l0b at j
    ·refine sR 1 rfl (nT (At.seq ?_)); rcases bite j with ⟨J, j⟩ | ⟨J, j⟩
     ··refine At.condT rfl (decide_eq_true J) ?_
       refine At.skip (At.thn (At.seq ?_)); refine At.block ?_; refine sR 2 rfl (nT (At.seq ?_)); refine At.quiet (by kernel_rfl) ?_; refine At.Quiet.run 2 rfl ?_; obtain ⟨C, j⟩ := bnone j; refine At.Quiet.y (Y.ixRd hr0 rfl rfl rfl rfl rfl rfl rfl C.1 C.2) rfl rfl rfl ?_; refine At.Quiet.y (Y.ldFl hr0 rfl (q := 0) rfl rfl C.1 C.2 rfl rfl rfl) rfl rfl rfl ?_; refine At.Quiet.run 2 rfl ?_; obtain ⟨D, j⟩ := bnone j; refine At.Quiet.y (Y.ixRd hr1 rfl rfl rfl rfl rfl rfl rfl D.1 D.2) rfl rfl rfl ?_; refine At.Quiet.y (Y.ldFl hr1 rfl (q := 0) rfl rfl D.1 D.2 rfl rfl rfl) rfl rfl rfl ?_; refine At.Quiet.run 1 rfl (At.Quiet.nil (At.thn ?_)); rcases bite j with ⟨U, j⟩ | ⟨U, j⟩
       ··refine At.condF rfl (nf (decide_eq_true U)) ?_
         refine At.skip ?_; refine At.ibn ?_; refine At.thn (At.region (At.run 2 rfl (At.nil ?_))); have j := bnx hf_ j; exact fun a w e hs => ⟨a6, (IntKind.i64.wrap (p + 1)), a7, j, e.sub ⟨rfl, rfl, rfl, rfl, trivial⟩, hs⟩
       ··refine At.condT rfl (nt (decide_eq_false U)) ?_
         refine sR 1 rfl (nT (At.ret ?_)); refine At.ibr ?_; refine At.thr ?_; have j := bupL a4 Z j; refine At.thr ?_; refine At.ibr ?_; refine At.thr ?_; cases bret j; exact At.res (.inl rfl) rfl rfl ⟨rfl, rfl⟩
     ··refine At.condF rfl (decide_eq_false J) ?_
       refine At.exit ?_; refine At.the ?_; refine At.the ?_; exact fun a w e hs => a5 () (bdn j Z) a w (e.sub trivial) hs
 ··refine At.condT rfl (nt (decide_eq_false E)) ?_
   refine sR 1 rfl (nT (At.ret (At.thr ?_))); cases bret j; exact At.res (.inl rfl) rfl rfl ⟨rfl, rfl⟩

noncomputable def Q50.l0b (a0 : List Q0) (q : List Int) (p : Int) : Option (((List Int) × Int) ⊕ (((List Int)) ⊕ (Bool))) :=
 if p < (a0.length : Int) then
 if (0 : Int) ≤ p ∧ p < (a0.length : Int) then
 (Q128.f ((gt a0 p).Kind) ((gt a0 p).A) ((gt a0 p).B) ((gt a0 p).Name) ((gt a0 p).At)).bind fun u =>
 jn (
 if u.1 = true then
 some (.inl (decide ((q.length : Int) < u.2)))
 else
 some (.inl true)) (fun (C : Bool) =>
 if C = true then
 upL (some false)
 else
 if (0 : Int) ≤ u.2 ∧ u.2 ≤ (([((gt a0 p).A), ((gt a0 p).B)] : List Int).length : Int) then
 (Q135.f (([((gt a0 p).A), ((gt a0 p).B)] : List Int).drop u.2.toNat)).bind fun D =>
 jn (
 if D = true then
 some (.inl true)
 else
 if (0 : Int) ≤ IntKind.i64.wrap ((q.length : Int) - u.2) ∧ IntKind.i64.wrap ((q.length : Int) - u.2) ≤ (q.length : Int) then
 (Q57.f (q.drop (IntKind.i64.wrap ((q.length : Int) - u.2)).toNat) (([((gt a0 p).A), ((gt a0 p).B)] : List Int).take u.2.toNat)).bind fun E =>
 some (.inl (!E))
 else none) (fun (G : Bool) =>
 if G = true then
 upL (some false)
 else
 if (0 : Int) ≤ IntKind.i64.wrap ((q.length : Int) - u.2) ∧ IntKind.i64.wrap ((q.length : Int) - u.2) ≤ (q.length : Int) then
 if ((q.take (IntKind.i64.wrap ((q.length : Int) - u.2)).toNat).length + ([p] : List Int).length) * 8 ≤ 140737488355328 then
 nx (((q.take (IntKind.i64.wrap ((q.length : Int) - u.2)).toNat) ++ ([p] : List Int)), IntKind.i64.wrap (p + 1))
 else none
 else none)
 else none)
 else none
 else
 dn (.inl q)
noncomputable def Q50.l0 (a0 : List Q0) (p : List Int) (q : Int) : Option (((List Int)) ⊕ (Bool)) := iter (fun t_ : (List Int) × Int => Q50.l0b a0 t_.1 t_.2) (p, q)
noncomputable def Q50.f (a0 : List Q0) : Option Bool :=
 jn (
 if (a0.length : Int) < 1 then
 some (.inl true)
 else
 some (.inl (decide (60 < (a0.length : Int))))) (fun (p : Bool) =>
 if p = true then
 some false
 else
 jn (Q50.l0 a0 ([] : List Int) 0) (fun (q : List Int) =>
 some (decide ((q.length : Int) = 1))))
theorem Q50.callee : Callee Tryz.prog 133 := ⟨_, Tryz.func133, by kernel_rfl, by kernel_rfl⟩
theorem Q50.spec {a0 : List Q0} (hr0 : RdS Q0.fl.rep R.heap A0 a0) (hn0 : a0.length = n0) (hc0 : n0 ≤ c0) {r : Bool} (j : Q50.f a0 = some r) :
 Spec Tryz.prog 133 [.slice A0 n0 c0] R (Fr) (fun v l' => v = .bool r ∧ Fr = l') := by
 subst hn0; refine Spec.of Tryz.func133 rfl rfl ?_; unfold Q50.f at j; have j := brun j; refine sR 1 rfl (nT (At.seq (At.seq (At.region ?_)))); refine At.run 4 rfl ?_; obtain ⟨d2, d3, g7, j⟩ := bjoin j; refine At.joinO 4 (X := Bool) (fun D => [(0, .slice A0 a0.length c0), (16, .bool D)]) (fun D => Fr) (fun D => d2 (.inl D) = some r) ?_ (fun b6 => ?_)
 ·rintro D j; have j := (d3 _).symm.trans j
  ·refine nT ?_; rcases bite j with ⟨a2, j⟩ | ⟨a2, j⟩
   ··refine At.condT rfl a2 ?_
     refine sR 1 rfl (nT (At.ret (At.thr ?_))); cases bret j; exact At.res (.inl rfl) rfl rfl ⟨rfl, rfl⟩
   ··refine At.condF rfl (bn a2) ?_
     refine At.skip (At.thn (sR 1 rfl (nT (At.seq ?_)))); refine sR 3 rfl (nT ?_); refine At.block ?_; obtain ⟨d4, d5, b7, j⟩ := bjoin j; obtain ⟨J, a3, a4⟩ := bsome j; clear j; unfold Q50.l0 at a3; obtain ⟨a5, E⟩ := Q15.1 a3; clear a3; refine At.nilRow (Fl.int .i64) 3 ?_; refine At.loopJ (X := (List Int) × Int × Nat × (Option Addr) × Nat) (Y := (List Int) × Nat × (Option Addr) × Nat) (e0 := 0) (fun s_ => [(3, .slice s_.2.2.2.1 s_.2.2.1 s_.2.2.2.2), (17, .slice A0 a0.length c0), (18, i6 (a0.length : Int)), (19, i6 s_.2.1)]) (fun s_ => row (Fl.int .i64) 3 s_.2.2.2.1 s_.2.2.1 s_.2.2.2.2 s_.1 :: Fr) (fun m_ => fun s_ => iterN (fun t_ : (List Int) × Int => Q50.l0b a0 t_.1 t_.2) m_ (s_.1, s_.2.1) = some J ∧ s_.1.length = s_.2.2.1) a5 (([] : List Int), 0, 0, none, 0) ⟨E, rfl⟩ (fun s_ => [(3, .slice s_.2.2.1 s_.2.1 s_.2.2.2)]) (fun s_ => row (Fl.int .i64) 3 s_.2.2.1 s_.2.1 s_.2.2.2 s_.1 :: Fr) (fun s_ => d4 (.inl s_.1) = some r ∧ s_.1.length = s_.2.1) (fun a w e hs => ⟨e.sub ⟨rfl, rfl, rfl, rfl, trivial⟩, (by exact hs)⟩) ?_ (fun d6 => ?_)
     ·rintro ⟨d7, d8, g8, g9⟩ ⟨j, d9⟩; obtain rfl : d7.length = d8 := d9; have j := (d5 _).symm.trans j
      ·refine At.ibx ?_; refine At.thn (sR 4 rfl (nT (At.ret (At.drop .z ?_)))); cases bret j; exact At.res (.inl rfl) rfl rfl ⟨rfl, rfl⟩
     ·clear E a5; rintro a5 ⟨u, p, e1, U, V⟩ ⟨E, e2⟩; obtain rfl : u.length = e1 := e2; obtain ⟨e3, f_, e4, hf_, j⟩ := bit E; clear E; have j : (Q50.l0b a0 u p).bind _ = some J := j; unfold Q50.l0b at j
      ·refine sR 1 rfl (nT (At.seq ?_)); rcases bite j with ⟨a6, j⟩ | ⟨a6, j⟩
       ··refine At.condT rfl (decide_eq_true a6) ?_
         refine At.skip (At.thn (At.seq ?_)); refine At.block ?_; refine sR 1 rfl ?_; obtain ⟨Z, j⟩ := bnone j; refine At.y (Y.ixRd hr0 rfl rfl rfl rfl rfl rfl rfl Z.1 Z.2) rfl rfl rfl (At.y (Y.ldFl hr0 rfl (q := 0) rfl rfl Z.1 Z.2 rfl rfl rfl) rfl rfl rfl ?_); refine At.alloc rfl rfl rfl (fun b8 => ?_); refine At.run 1 rfl ?_; refine At.store rfl rfl rfl rfl .z rfl rfl rfl (.c (.c (.c (.c (.c .n))))) ?_; refine nT (At.seq (At.region (At.y (Y.load rfl rfl .z rfl rfl rfl) rfl rfl rfl ?_))); obtain ⟨C, e5, j⟩ := bbind j; refine At.call rfl Q128.callee rfl rfl rfl (Q128.spec e5) ?_; rintro _ _ ⟨rfl, rfl⟩; refine At.run 5 rfl (nT (At.seq (sR 3 rfl ?_))); obtain ⟨e6, e7, h0, j⟩ := bjoin j; let T2 : HProp := pc b8 [i6 ((gt a0 p).Kind), i6 ((gt a0 p).A), i6 ((gt a0 p).B), .string ⟨((gt a0 p).Name).toArray⟩, i6 ((gt a0 p).At)] 33; refine At.joinO 5 (X := Bool) (fun G => [(3, .slice U u.length V), (4, i6 p), (5, bp b8), (6, i6 C.2), (17, .slice A0 a0.length c0), (18, i6 (a0.length : Int)), (19, i6 p), (36, .bool G)]) (fun G => T2 :: row (Fl.int .i64) 3 U u.length V u :: Fr) (fun G => e6 (.inl G) = some J) ?_ (fun b9 => ?_)
         ·rintro G j; have j := (e7 _).symm.trans j
          ·refine nT ?_; rcases bite j with ⟨a7, j⟩ | ⟨a7, j⟩
           ··refine At.condT rfl a7 ?_
             refine sR 1 rfl (nT (At.ret (At.thr ?_))); refine At.ibr ?_; refine At.thr ?_; have j := bupL b7 a4 j; refine At.thr ?_; refine At.ibr ?_; refine At.thr (At.drop .z (At.drop .z ?_)); cases bret j; exact At.res (.inl rfl) rfl rfl ⟨rfl, rfl⟩
           ··refine At.condF rfl (bn a7) ?_
             refine At.skip (At.thn (sR 1 rfl (At.y (Y.load rfl rfl .z rfl rfl rfl) rfl rfl rfl (At.run 1 rfl (At.y (Y.load rfl rfl .z rfl rfl rfl) rfl rfl rfl ?_))))); refine At.lit rfl (xo := [.tmp 38, .tmp 40]) (ys := ([((gt a0 p).A), ((gt a0 p).B)] : List Int)) (Fl.int .i64) rfl rfl rfl rfl rfl rfl rfl rfl rfl rfl rfl (fun h1 e8 => ?_); refine At.run 1 rfl (nT (At.seq (At.seq ?_))); refine At.freeze .z fun h2 c4 a8 a9 h3 c5 => ?_; refine At.freeze (.s .z) fun c6 e9 f0 f1 c7 c8 => ?_; refine At.quiet (by kernel_rfl) ?_; refine At.Quiet.run 2 rfl ?_; obtain ⟨a1, j⟩ := bnone j; obtain ⟨h4, f2, f3, f4⟩ := Y.slFromAt (P := Tryz.prog) (R := c6) a8 c4 a9 a1.1 a1.2; refine At.Quiet.y (f4 rfl rfl rfl rfl rfl rfl) rfl rfl rfl ?_; obtain ⟨h5, f5, j⟩ := bbind j; refine At.Quiet.call rfl Q135.callee rfl rfl rfl (Q135.spec (RdS.mono c7 f2) rfl f3 f5) (fun _ _ h_ => ⟨h_.1, fun _ hs => h_.2 ▸ hs⟩) ?_; refine At.Quiet.run 1 rfl ?_; obtain ⟨f6, f7, h6, j⟩ := bjoin j; refine At.Quiet.joinO 12 (X := Bool) (fun I => [(3, .slice U u.length V), (4, i6 p), (6, i6 C.2), (17, .slice A0 a0.length c0), (18, i6 (a0.length : Int)), (19, i6 p), (58, .bool I)]) (fun I => T2 :: Fr) (fun I => f6 (.inl I) = some J) ?_ (fun c9 => ?_)
             ·rintro I j; have j := (f7 _).symm.trans j
              ·refine At.Quiet.nil (At.thn ?_); rcases bite j with ⟨b2, j⟩ | ⟨b2, j⟩
               ··refine At.condT rfl b2 ?_
                 refine sR 1 rfl (nT (At.ret (At.thr ?_))); refine At.ibr ?_; refine At.thr ?_; have j := bupL b7 a4 j; refine At.thr ?_; refine At.ibr ?_; refine At.thr ?_; refine At.thaw c8 ?_; refine At.thaw c5 ?_; refine At.drop .z (At.drop .z (At.drop .z ?_)); cases bret j; exact At.res (.inl rfl) rfl rfl ⟨rfl, rfl⟩
               ··refine At.condF rfl (bn b2) ?_
                 refine At.skip (At.thn (At.region (At.run 5 rfl ?_))); refine At.thaw c8 ?_; obtain ⟨d0, j⟩ := bnone j; refine At.cut rfl .z rfl rfl rfl rfl rfl d0.1 d0.2 rfl ?_; refine At.run 1 rfl ?_; refine At.lit rfl (xo := [.tmp 65]) (ys := ([p] : List Int)) (Fl.int .i64) rfl rfl rfl rfl rfl rfl rfl rfl rfl rfl rfl (fun h7 h8 => ?_); obtain ⟨f8, j⟩ := bnone j; refine At.append rfl (.s .z) (Src.own .z (by simp)) rfl rfl rfl rfl rfl rfl rfl rfl f8 (by decide) rfl (fun f9 g0 => ?_); refine At.drop (.s .z) (At.run 1 rfl (At.nil ?_)); refine At.ibn ?_; refine At.thn (At.region (At.run 2 rfl (At.nil ?_))); refine At.thaw c5 ?_; refine At.drop .z (At.drop (.s .z) ?_); have j := bnx hf_ j; exact fun a w e hs => ⟨e3, (((u.take (IntKind.i64.wrap ((u.length : Int) - C.2)).toNat) ++ ([p] : List Int)), IntKind.i64.wrap (p + 1), ((u.take (IntKind.i64.wrap ((u.length : Int) - C.2)).toNat) ++ ([p] : List Int)).length, f9, g0), e4, ⟨j, rfl⟩, e.sub ⟨rfl, rfl, rfl, rfl, trivial⟩, hs⟩
             ··rcases bite j with ⟨b3, j⟩ | ⟨b3, j⟩
               ··refine At.Quiet.know (t := 46) rfl b3 ?_
                 refine At.Quiet.run 12 rfl ?_; exact At.Quiet.of (c9 true j) ⟨rfl, rfl, rfl, rfl, rfl, rfl, rfl, trivial⟩
               ··refine At.Quiet.know (t := 46) rfl (bn b3) ?_
                 refine At.Quiet.run 5 rfl ?_; obtain ⟨d1, j⟩ := bnone j; obtain ⟨h9, g1, g2, g3⟩ := Y.slFromAt (P := Tryz.prog) (R := c6) f0 e9 f1 d1.1 d1.2; refine At.Quiet.y (g3 rfl rfl rfl rfl rfl rfl) rfl rfl rfl ?_; refine At.Quiet.run 2 rfl ?_; have g4 : (([((gt a0 p).A), ((gt a0 p).B)] : List Int).take C.2.toNat).length ≤ e8 := Nat.le_trans (List.length_take_le' _ _) (by have h1_ := (show ([((gt a0 p).A), ((gt a0 p).B)] : List Int).length = ([((gt a0 p).A), ((gt a0 p).B)] : List Int).length from a8); have h2_ := a9; omega); refine At.Quiet.y (Y.slTo a8 rfl rfl rfl rfl rfl a9 a1.1 a1.2) rfl rfl rfl ?_; obtain ⟨g5, g6, j⟩ := bbind j; refine At.Quiet.call rfl Q57.callee rfl rfl rfl (Q57.spec g1 rfl g2 (RdS.mono c7 (RdS.take c4 _)) rfl g4 g6) (fun _ _ h_ => ⟨h_.1, fun _ hs => h_.2 ▸ hs⟩) ?_; refine At.Quiet.run 2 rfl ?_; exact At.Quiet.of (c9 (!g5) j) ⟨rfl, rfl, rfl, rfl, rfl, rfl, rfl, trivial⟩
         ··rcases bite j with ⟨b4, j⟩ | ⟨b4, j⟩
           ··refine At.know (t := 31) rfl (nf b4) ?_
             refine At.run 5 rfl ?_; exact At.of (b9 (decide ((u.length : Int) < C.2)) j) ⟨rfl, rfl, rfl, rfl, rfl, rfl, rfl, rfl, trivial⟩
           ··refine At.know (t := 31) rfl (nt (bn b4)) ?_
             refine At.run 5 rfl ?_; exact At.of (b9 true j) ⟨rfl, rfl, rfl, rfl, rfl, rfl, rfl, rfl, trivial⟩
       ··refine At.condF rfl (decide_eq_false a6) ?_
         refine At.exit ?_; refine At.the ?_; refine At.the ?_; exact fun a w e hs => d6 (u, u.length, U, V) ⟨(bdn j a4), rfl⟩ a w (e.sub ⟨rfl, trivial⟩) hs
 ··rcases bite j with ⟨b5, j⟩ | ⟨b5, j⟩
   ··refine At.know (t := 12) rfl (decide_eq_true b5) ?_
     refine At.run 4 rfl ?_; exact At.of (b6 true j) ⟨rfl, rfl, trivial⟩
   ··refine At.know (t := 12) rfl (decide_eq_false b5) ?_
     refine At.run 4 rfl ?_; exact At.of (b6 (decide (60 < (a0.length : Int))) j) ⟨rfl, rfl, trivial⟩

noncomputable def Q55.l0b (u : List Q0) (q : List Q14) (a1 : Bs) (p : Int) : Option ((Int) ⊕ ((Unit) ⊕ (Bool × Int × Int))) :=
 if 0 ≤ p then
 if (0 : Int) ≤ p ∧ p < (q.length : Int) then
 if (0 : Int) ≤ (gt q p).node ∧ (gt q p).node < (u.length : Int) then
 if bseq ((gt u ((gt q p).node)).Name) a1 = true then
 upL (some (true, (gt q p).node, (gt q p).nots))
 else
 nx (IntKind.i64.wrap (p - 1))
 else none
 else none
 else
 dn (.inl ())
noncomputable def Q55.l0 (p : List Q0) (q : List Q14) (a1 : Bs) (u : Int) : Option ((Unit) ⊕ (Bool × Int × Int)) := iter (fun t_ : Int => Q55.l0b p q a1 t_) u
noncomputable def Q55.f (q : List Q0) (p : List Q14) (u : Int) (C : List Int) (D : List Bool) (E : List Int) (a1 : Bs) : Option (Bool × Int × Int) :=
 jn (Q55.l0 q p a1 (IntKind.i64.wrap ((p.length : Int) - 1))) (fun (_ : Unit) =>
 some (false, 0, 0))
theorem Q55.callee : Callee Tryz.prog 212 := ⟨_, Tryz.func212, by kernel_rfl, by kernel_rfl⟩
theorem Q55.spec {I : List Q0} {p : List Q14} {V : Int} {C D : List Int} {E : List Bool} {a1 : Bs} (hr0_0 : RdS Q0.fl.rep R.heap A0_0 I) (hn0_0 : I.length = n0_0) (hc0_0 : n0_0 ≤ c0_0) (hn0_1 : p.length = n0_1) (hn0_3 : C.length = n0_3) (hn0_4 : E.length = n0_4) (hn0_5 : D.length = n0_5) {r : Bool × Int × Int} (j : Q55.f I p V C E D a1 = some r) :
 Spec Tryz.prog 212 [bp b0, .string ⟨(a1).toArray⟩] R (pc b0 [.slice A0_0 n0_0 c0_0, .slice A0_1 n0_1 c0_1, i6 V, .slice A0_3 n0_3 c0_3, .slice A0_4 n0_4 c0_4, .slice A0_5 n0_5 c0_5] 190 :: row Q14.fl 242 A0_1 n0_1 c0_1 p :: row (Fl.int .i64) 3 A0_3 n0_3 c0_3 C :: row Fl.bool 4 A0_4 n0_4 c0_4 E :: row (Fl.int .i64) 3 A0_5 n0_5 c0_5 D :: Fr) (fun v l' => v = .tuple #[.agg #[i6 r.2.1, i6 r.2.2], .bool r.1] ∧ pc b0 [.slice A0_0 n0_0 c0_0, .slice A0_1 n0_1 c0_1, i6 V, .slice A0_3 n0_3 c0_3, .slice A0_4 n0_4 c0_4, .slice A0_5 n0_5 c0_5] 190 :: row Q14.fl 242 A0_1 n0_1 c0_1 p :: row (Fl.int .i64) 3 A0_3 n0_3 c0_3 C :: row Fl.bool 4 A0_4 n0_4 c0_4 E :: row (Fl.int .i64) 3 A0_5 n0_5 c0_5 D :: Fr = l') := by
 subst hn0_0; subst hn0_1; subst hn0_3; subst hn0_4; subst hn0_5; refine Spec.of Tryz.func212 rfl rfl ?_; unfold Q55.f at j; have j := brun j; refine At.seq (At.region ?_); refine At.alloc rfl rfl rfl (fun Z => ?_); refine At.run 1 rfl (nT (At.seq (sR 3 rfl (At.y (Y.load rfl rfl (.s .z) rfl rfl rfl) rfl rfl rfl ?_)))); refine At.run 3 rfl (nT ?_); refine At.block ?_; obtain ⟨a7, a8, a9, j⟩ := bjoin j; obtain ⟨a5, a0, a6⟩ := bsome j; clear j; unfold Q55.l0 at a0; obtain ⟨a2, U⟩ := Q15.1 a0; clear a0; let T3 : HProp := pt Z (.cells ([i6 0, i6 0] : List Value).toArray 242); let T4 : HProp := pc b0 [.slice A0_0 I.length c0_0, .slice A0_1 p.length c0_1, i6 V, .slice A0_3 C.length c0_3, .slice A0_4 E.length c0_4, .slice A0_5 D.length c0_5] 190; let T5 : HProp := row Q14.fl 242 A0_1 p.length c0_1 p; let T6 : HProp := row (Fl.int .i64) 3 A0_3 C.length c0_3 C; let T7 : HProp := row Fl.bool 4 A0_4 E.length c0_4 E; let T8 : HProp := row (Fl.int .i64) 3 A0_5 D.length c0_5 D; refine At.loopJ (X := Int) (Y := Unit) (e0 := 0) (fun G => [(0, bp b0), (1, .string ⟨(a1).toArray⟩), (4, bp Z), (6, i6 G)]) (fun G => T3 :: T4 :: T5 :: T6 :: T7 :: T8 :: Fr) (fun m_ => fun G => iterN (fun t_ : Int => Q55.l0b I p a1 t_) m_ G = some a5) a2 (IntKind.i64.wrap ((p.length : Int) - 1)) U (fun _ => [(4, bp Z)]) (fun _ => T3 :: T4 :: T5 :: T6 :: T7 :: T8 :: Fr) (fun _ => a7 (.inl ()) = some r) (fun a w e hs => ⟨e.sub ⟨rfl, rfl, rfl, rfl, trivial⟩, (by exact hs)⟩) ?_ (fun b2 => ?_)
 ·rintro _ j; have j := (a8 _).symm.trans j
  ·refine At.ibx ?_; refine At.thn (At.seq (At.region ?_)); refine At.y (Y.build (is := []) (xo := []) (vs := []) (cs := [i6 0, i6 0]) rfl rfl rfl rfl rfl rfl) rfl rfl rfl ?_; refine At.store rfl rfl rfl rfl .z rfl rfl rfl (.c (.c .n)) ?_; refine At.run 1 rfl (nT (At.ret ?_)); refine At.resM (.inl rfl) rfl (RV.cell rfl rfl .z rfl rfl rfl (RV.tmp rfl RV.nil)) ?_; refine At.drop .z ?_; cases bret j; exact fun a w e hs => ⟨_, ⟨rfl, rfl⟩, hs⟩
 ·clear U a2; rintro a2 G U; obtain ⟨b3, f_, b4, hf_, j⟩ := bit U; clear U; have j : (Q55.l0b I p a1 G).bind _ = some a5 := j; unfold Q55.l0b at j
  ·refine At.seq (sR 2 rfl (nT ?_)); rcases bite j with ⟨a3, j⟩ | ⟨a3, j⟩
   ··refine At.condT rfl (decide_eq_true a3) ?_
     refine At.skip (At.thn (At.seq ?_)); refine At.block ?_; refine At.seq ?_; refine At.quiet (by kernel_rfl) ?_; refine At.Quiet.run 3 rfl ?_; refine At.Quiet.y (Y.load rfl rfl (.s .z) rfl rfl rfl) rfl rfl rfl ?_; refine At.Quiet.run 3 rfl ?_; refine At.Quiet.y (Y.load rfl rfl (.s .z) rfl rfl rfl) rfl rfl rfl ?_; refine At.Quiet.run 1 rfl ?_; obtain ⟨u, j⟩ := bnone j; refine At.Quiet.y (Y.ix (.s (.s .z)) rfl rfl rfl rfl rfl rfl u.1 u.2) rfl rfl rfl ?_; refine At.Quiet.y (Y.faOwn (.s (.s .z)) u.1 u.2 rfl rfl rfl rfl rfl rfl) rfl rfl rfl ?_; refine At.Quiet.y (Y.ld (.s (.s .z)) (q := 0) rfl rfl u.1 u.2 rfl rfl rfl) rfl rfl rfl ?_; obtain ⟨J, j⟩ := bnone j; refine At.Quiet.y (Y.ixRd hr0_0 rfl rfl rfl rfl rfl rfl rfl J.1 J.2) rfl rfl rfl ?_; refine At.Quiet.y (Y.fa (RdS.some_ hr0_0 rfl J.1 J.2) rfl rfl rfl rfl rfl rfl) rfl rfl rfl ?_; refine At.Quiet.y (Y.ldFl hr0_0 rfl (q := 3) rfl rfl J.1 J.2 rfl rfl rfl) rfl rfl rfl ?_; refine At.Quiet.run 2 rfl (At.Quiet.nil (At.thn ?_)); rcases bite j with ⟨a4, j⟩ | ⟨a4, j⟩
     ··refine At.condT rfl a4 ?_
       refine sR 3 rfl (At.y (Y.load rfl rfl (.s .z) rfl rfl rfl) rfl rfl rfl (At.run 1 rfl (At.y (Y.ix (.s (.s .z)) rfl rfl rfl rfl rfl rfl u.1 u.2) rfl rfl rfl (At.y (Y.ld (.s (.s .z)) (q := 0) rfl rfl u.1 u.2 rfl rfl rfl) rfl rfl rfl ?_)))); refine At.store rfl rfl rfl rfl .z rfl rfl rfl (.c (.c .n)) ?_; refine At.run 1 rfl (nT (At.ret ?_)); refine At.ibr ?_; refine At.thr ?_; have j := bupL a9 a6 j; refine At.thr ?_; refine At.ibr ?_; refine At.thr ?_; refine At.resM (.inl rfl) rfl (RV.cell rfl rfl .z rfl rfl rfl (RV.tmp rfl RV.nil)) ?_; refine At.drop .z ?_; cases bret j; exact fun a w e hs => ⟨_, ⟨rfl, rfl⟩, hs⟩
     ··refine At.condF rfl (bn a4) ?_
       refine At.skip ?_; refine At.ibn ?_; refine At.thn (At.region (At.run 3 rfl (At.nil ?_))); have j := bnx hf_ j; exact fun a w e hs => ⟨b3, (IntKind.i64.wrap (G - 1)), b4, j, e.sub ⟨rfl, rfl, rfl, rfl, trivial⟩, hs⟩
   ··refine At.condF rfl (decide_eq_false a3) ?_
     refine At.exit ?_; refine At.the ?_; refine At.the ?_; exact fun a w e hs => b2 () (bdn j a6) a w (e.sub ⟨rfl, trivial⟩) hs

noncomputable def Q23.g (self_ : (List Q0) → (List Q14) → Int → (List Int) → (List Bool) → (List Int) → Int → Option ((List Bool) × (List Int) × (List Q14) × (List Int) × Int)) (p : List Q0) (D : List Q14) (u : Int) (E : List Int) (G : List Bool) (q : List Int) (a1 : Int) : Option ((List Bool) × (List Int) × (List Q14) × (List Int) × Int) :=
 if (0 : Int) ≤ a1 ∧ a1 < (p.length : Int) then
 if (gt p a1).Kind = 4 then
 (Q55.f p D u E G q ((gt p a1).Name)).bind fun X =>
 if X.1 = true then
 if (0 : Int) ≤ a1 ∧ a1 < (E.length : Int) then
 if (0 : Int) ≤ a1 ∧ a1 < (G.length : Int) then
 some ((st G a1 (!(decide ((Int.tmod (IntKind.i64.wrap (u - X.2.2)) 2) = 0)))), (st E a1 X.2.1), D, q, u)
 else none
 else none
 else
 some (G, E, D, q, u)
 else
 if (gt p a1).Kind = 5 then
 (self_ p D (IntKind.i64.wrap (u + 1)) E G q ((gt p a1).A)).bind fun J =>
 if (0 : Int) ≤ (gt p a1).A ∧ (gt p a1).A < (q.length : Int) then
 if (0 : Int) ≤ a1 ∧ a1 < (q.length : Int) then
 some (J.1, J.2.1, J.2.2.1, (st J.2.2.2.1 a1 (gt J.2.2.2.1 ((gt p a1).A))), IntKind.i64.wrap (J.2.2.2.2 - 1))
 else none
 else none
 else
 jn (
 if (gt p a1).Kind = 8 then
 some (.inl (decide ((gt p a1).Kind = 8)))
 else
 some (.inl (decide ((gt p a1).Kind = 9)))) (fun (Z : Bool) =>
 if Z = true then
 (self_ p D u E G q ((gt p a1).A)).bind fun U =>
 if (0 : Int) ≤ (gt p a1).A ∧ (gt p a1).A < (q.length : Int) then
 if (0 : Int) ≤ a1 ∧ a1 < (q.length : Int) then
 some (U.1, U.2.1, U.2.2.1, (st U.2.2.2.1 a1 (gt U.2.2.2.1 ((gt p a1).A))), U.2.2.2.2)
 else none
 else none
 else
 jn (
 if (gt p a1).Kind = 6 then
 some (.inl (decide ((gt p a1).Kind = 6)))
 else
 some (.inl (decide ((gt p a1).Kind = 7)))) (fun (a0 : Bool) =>
 if a0 = true then
 (self_ p D u E G q ((gt p a1).A)).bind fun V =>
 (self_ p V.2.2.1 V.2.2.2.2 V.2.1 V.1 V.2.2.2.1 ((gt p a1).B)).bind fun I =>
 if (0 : Int) ≤ (gt p a1).A ∧ (gt p a1).A < (q.length : Int) then
 if (0 : Int) ≤ (gt p a1).B ∧ (gt p a1).B < (q.length : Int) then
 if (0 : Int) ≤ a1 ∧ a1 < (q.length : Int) then
 some (I.1, I.2.1, I.2.2.1, (st I.2.2.2.1 a1 (if gt I.2.2.2.1 ((gt p a1).A) < gt I.2.2.2.1 ((gt p a1).B) then gt I.2.2.2.1 ((gt p a1).B) else gt I.2.2.2.1 ((gt p a1).A))), I.2.2.2.2)
 else none
 else none
 else none
 else
 jn (
 if (gt p a1).Kind = 10 then
 some (.inl (decide ((gt p a1).Kind = 10)))
 else
 some (.inl (decide ((gt p a1).Kind = 11)))) (fun (a2 : Bool) =>
 if a2 = true then
 if (D.length + ([(⟨a1, u⟩ : Q14)] : List Q14).length) * 16 ≤ 140737488355328 then
 (self_ p (D ++ ([(⟨a1, u⟩ : Q14)] : List Q14)) u E G q ((gt p a1).A)).bind fun C =>
 if (0 : Int) ≤ IntKind.i64.wrap ((C.2.2.1.length : Int) - 1) ∧ IntKind.i64.wrap ((C.2.2.1.length : Int) - 1) ≤ (C.2.2.1.length : Int) then
 if (0 : Int) ≤ (gt p a1).A ∧ (gt p a1).A < (q.length : Int) then
 if (0 : Int) ≤ a1 ∧ a1 < (q.length : Int) then
 some (C.1, C.2.1, (C.2.2.1.take (IntKind.i64.wrap ((C.2.2.1.length : Int) - 1)).toNat), (st C.2.2.2.1 a1 (IntKind.i64.wrap (gt C.2.2.2.1 ((gt p a1).A) + 1))), C.2.2.2.2)
 else none
 else none
 else none
 else none
 else
 some (G, E, D, q, u))))
 else none
noncomputable def Q23.n : Nat → (List Q0) → (List Q14) → Int → (List Int) → (List Bool) → (List Int) → Int → Option ((List Bool) × (List Int) × (List Q14) × (List Int) × Int)
 | 0, _, _, _, _, _, _, _ => none
 | k_ + 1, a0_0, a0_1, a0_2, a0_3, a0_4, a0_5, a1 => Q23.g (Q23.n k_) a0_0 a0_1 a0_2 a0_3 a0_4 a0_5 a1
noncomputable def Q23.f (p : List Q0) (q : List Q14) (u : Int) (C : List Int) (D : List Bool) (E : List Int) (a1 : Int) : Option ((List Bool) × (List Int) × (List Q14) × (List Int) × Int) := recF fun k_ => Q23.n k_ p q u C D E a1
theorem Q23.callee : Callee Tryz.prog 164 := ⟨_, Tryz.func164, by kernel_rfl, by kernel_rfl⟩
theorem Q23.specN (k_ : Nat) : ∀ (R : Res) (Fr : List HProp) (b0 : Nat) (A0_0 : Option Addr) (n0_0 : Nat) (c0_0 : Nat) (A0_1 : Option Addr) (n0_1 : Nat) (c0_1 : Nat) (A0_3 : Option Addr) (n0_3 : Nat) (c0_3 : Nat) (A0_4 : Option Addr) (n0_4 : Nat) (c0_4 : Nat) (A0_5 : Option Addr) (n0_5 : Nat) (c0_5 : Nat) (p : List Q0) (E : List Q14) (G : Int) (C : List Int) (D : List Bool) (u : List Int) (a1 : Int) (hr0_0 : RdS Q0.fl.rep R.heap A0_0 p) (hn0_0 : p.length = n0_0) (hc0_0 : n0_0 ≤ c0_0) (hn0_1 : E.length = n0_1) (hn0_3 : C.length = n0_3) (hn0_4 : D.length = n0_4) (hn0_5 : u.length = n0_5) {r : (List Bool) × (List Int) × (List Q14) × (List Int) × Int} (j : Q23.n k_ p E G C D u a1 = some r),
 Spec Tryz.prog 164 [bp b0, i6 a1] R (pc b0 [.slice A0_0 n0_0 c0_0, .slice A0_1 n0_1 c0_1, i6 G, .slice A0_3 n0_3 c0_3, .slice A0_4 n0_4 c0_4, .slice A0_5 n0_5 c0_5] 190 :: row Q14.fl 242 A0_1 n0_1 c0_1 E :: row (Fl.int .i64) 3 A0_3 n0_3 c0_3 C :: row Fl.bool 4 A0_4 n0_4 c0_4 D :: row (Fl.int .i64) 3 A0_5 n0_5 c0_5 u :: Fr) (fun v l' => ∃ (b9 : Nat) (d8 : Option Addr) (d9 : Nat), v = .tuple #[] ∧ pc b0 [.slice A0_0 n0_0 c0_0, .slice d8 b9 d9, i6 r.2.2.2.2, .slice A0_3 n0_3 c0_3, .slice A0_4 n0_4 c0_4, .slice A0_5 n0_5 c0_5] 190 :: row Q14.fl 242 d8 b9 d9 r.2.2.1 :: row (Fl.int .i64) 3 A0_3 n0_3 c0_3 r.2.1 :: row Fl.bool 4 A0_4 n0_4 c0_4 r.1 :: row (Fl.int .i64) 3 A0_5 n0_5 c0_5 r.2.2.2.1 :: Fr = l' ∧ r.2.2.1.length = b9) := by
 induction k_ with
 | zero => intro R Fr b0 A0_0 n0_0 c0_0 A0_1 n0_1 c0_1 A0_3 n0_3 c0_3 A0_4 n0_4 c0_4 A0_5 n0_5 c0_5 p E G C D u a1 hr0_0 hn0_0 hc0_0 hn0_1 hn0_3 hn0_4 hn0_5 r j; cases j
 | succ k_ ih =>
  intro R Fr b0 A0_0 n0_0 c0_0 A0_1 n0_1 c0_1 A0_3 n0_3 c0_3 A0_4 n0_4 c0_4 A0_5 n0_5 c0_5 p E G C D u a1 hr0_0 hn0_0 hc0_0 hn0_1 hn0_3 hn0_4 hn0_5 r j; have j : Q23.g (Q23.n k_) p E G C D u a1 = some r := j; generalize Q23.n k_ = self_ at ih j; subst hn0_0; subst hn0_1; subst hn0_3; subst hn0_4; subst hn0_5; refine Spec.of Tryz.func164 rfl rfl ?_; unfold Q23.g at j; have j := brun j; refine sR 3 rfl (At.y (Y.load rfl rfl .z rfl rfl rfl) rfl rfl rfl (At.run 1 rfl ?_)); obtain ⟨a3, j⟩ := bnone j; refine At.y (Y.ixRd hr0_0 rfl rfl rfl rfl rfl rfl rfl a3.1 a3.2) rfl rfl rfl (At.y (Y.ldFl hr0_0 rfl (q := 0) rfl rfl a3.1 a3.2 rfl rfl rfl) rfl rfl rfl ?_); refine At.alloc rfl rfl rfl (fun J => ?_); refine At.store rfl rfl rfl rfl .z rfl rfl rfl (.c (.c (.c (.c (.c .n))))) ?_; refine nT (sR 1 rfl (At.y (Y.load rfl rfl .z rfl rfl rfl) rfl rfl rfl (nT ?_))); refine At.block ?_; refine sR 2 rfl (nT ?_); rcases bite j with ⟨c4, j⟩ | ⟨c4, j⟩
  ··refine At.condT rfl (decide_eq_true c4) ?_
    refine sR 2 rfl (At.y (Y.load rfl rfl .z rfl rfl rfl) rfl rfl rfl (At.f5 (At.f5 (At.f5 (At.f5 ?_))))); refine At.f5 ?_; obtain ⟨a4, e6, j⟩ := bbind j; refine At.call rfl Q55.callee rfl rfl rfl (Q55.spec hr0_0 rfl hc0_0 rfl rfl rfl rfl e6) ?_; rintro _ _ ⟨rfl, rfl⟩; refine At.run 3 rfl ?_; refine At.alloc rfl rfl rfl (fun e7 => ?_); refine At.store rfl rfl rfl rfl .z rfl rfl rfl (.c (.c .n)) ?_; refine At.run 1 rfl (nT (sR 1 rfl (nT ?_))); rcases bite j with ⟨c5, j⟩ | ⟨c5, j⟩
    ··refine At.condT rfl c5 ?_
      refine At.held [pc e7 [i6 a4.2.1, i6 a4.2.2] 242, pc b0 [.slice A0_0 p.length c0_0, .slice A0_1 E.length c0_1, i6 G, .slice A0_3 C.length c0_3, .slice A0_4 D.length c0_4, .slice A0_5 u.length c0_5] 190, row Q14.fl 242 A0_1 E.length c0_1 E, row (Fl.int .i64) 3 A0_5 u.length c0_5 u, pc J [i6 ((gt p a1).Kind), i6 ((gt p a1).A), i6 ((gt p a1).B), .string ⟨((gt p a1).Name).toArray⟩, i6 ((gt p a1).At)] 33] 25 rfl ?_; refine At.H.pw 0 rfl rfl rfl rfl rfl (.c .z (.c .z (.c .z (.c (.s (.s .z)) (.c (.s (.s .z)) .n))))) ?_; refine At.H.pw 1 rfl rfl rfl rfl rfl (.c .z (.c .z (.c .z (.c (.s (.s .z)) (.c (.s (.s .z)) .n))))) ?_; refine At.H.pw 2 rfl rfl rfl rfl rfl (.c .z (.c .z (.c .z (.c (.s (.s .z)) (.c (.s (.s .z)) .n))))) ?_; refine At.H.tw 3 rfl (Y.load rfl rfl (.s .z) rfl rfl rfl) rfl rfl rfl (.c .z (.c .z (.c .z (.c (.s (.s .z)) (.c (.s (.s .z)) .n))))) ?_; refine At.H.pw 4 rfl rfl rfl rfl rfl (.c .z (.c .z (.c .z (.c (.s (.s .z)) (.c (.s (.s .z)) .n))))) ?_; refine At.H.pw 5 rfl rfl rfl rfl rfl (.c .z (.c .z (.c .z (.c (.s (.s .z)) (.c (.s (.s .z)) .n))))) ?_; refine At.H.pw 6 rfl rfl rfl rfl rfl (.c .z (.c .z (.c .z (.c (.s (.s .z)) (.c (.s (.s .z)) .n))))) ?_; refine At.H.pw 7 rfl rfl rfl rfl rfl (.c .z (.c .z (.c .z (.c (.s (.s .z)) (.c (.s (.s .z)) .n))))) ?_; refine At.H.tw 8 rfl (Y.load rfl rfl (.s .z) rfl rfl rfl) rfl rfl rfl (.c .z (.c .z (.c .z (.c (.s (.s .z)) (.c (.s (.s .z)) .n))))) ?_; refine At.H.pw 9 rfl rfl rfl rfl rfl (.c .z (.c .z (.c .z (.c (.s (.s .z)) (.c (.s (.s .z)) .n))))) ?_; refine At.H.pw 10 rfl rfl rfl rfl rfl (.c .z (.c .z (.c .z (.c (.s (.s .z)) (.c (.s (.s .z)) .n))))) ?_; refine At.H.tw 11 rfl (Y.load rfl rfl .z rfl rfl rfl) rfl rfl rfl (.c .z (.c .z (.c .z (.c (.s (.s .z)) (.c (.s (.s .z)) .n))))) ?_; refine At.H.pw 12 rfl rfl rfl rfl rfl (.c .z (.c .z (.c .z (.c (.s (.s .z)) (.c (.s (.s .z)) .n))))) ?_; refine At.H.pw 13 rfl rfl rfl rfl rfl (.c .z (.c .z (.c .z (.c (.s (.s .z)) (.c (.s (.s .z)) .n))))) ?_; refine At.H.pw 14 rfl rfl rfl rfl rfl (.c .z (.c .z (.c .z (.c (.s (.s .z)) (.c (.s (.s .z)) .n))))) ?_; refine At.H.tw 15 rfl (Y.load rfl rfl (.s .z) rfl rfl rfl) rfl rfl rfl (.c .z (.c .z (.c .z (.c (.s (.s .z)) (.c (.s (.s .z)) .n))))) ?_; refine At.H.pw 16 rfl rfl rfl rfl rfl (.c .z (.c .z (.c .z (.c (.s (.s .z)) (.c (.s (.s .z)) .n))))) ?_; refine At.H.tw 17 rfl (Y.load rfl rfl .z rfl rfl rfl) rfl rfl rfl (.c .z (.c .z (.c .z (.c (.s (.s .z)) (.c (.s (.s .z)) .n))))) ?_; refine At.H.pw 18 rfl rfl rfl rfl rfl (.c .z (.c .z (.c .z (.c (.s (.s .z)) (.c (.s (.s .z)) .n))))) ?_; refine At.H.tw 19 rfl (Y.rem rfl rfl (by decide)) rfl rfl rfl (.c .z (.c .z (.c .z (.c (.s (.s .z)) (.c (.s (.s .z)) .n))))) ?_; refine At.H.pw 20 rfl rfl rfl rfl rfl (.c .z (.c .z (.c .z (.c (.s (.s .z)) (.c (.s (.s .z)) .n))))) ?_; refine At.H.al [21] (Q7 ?_ Q8)
      ··refine At.HO.op rfl ?_
        obtain ⟨a5, j⟩ := bnone j; refine At.y (Y.ix (.s (.s (.s .z))) rfl rfl rfl rfl rfl rfl a5.1 a5.2) rfl rfl rfl ?_; refine At.HO.back (.c .z (.c .z (.c .z (.c (.s (.s .z)) (.c (.s (.s .z)) .n))))) ?_; refine At.H.al [22] (Q7 ?_ Q8)
        ··refine At.HO.op rfl ?_
          refine At.st rfl (.s (.s (.s .z))) (q := 0) (z := a4.2.1) rfl rfl rfl a5.1 a5.2 rfl rfl (.c .n) ?_; refine At.HO.back (.c (.s .z) (.c (.s .z) (.c (.s .z) (.c (.s (.s .z)) (.c (.s (.s .z)) .n))))) ?_; refine At.H.al [23] (Q7 ?_ Q8)
          ··refine At.HO.op rfl ?_
            obtain ⟨a6, j⟩ := bnone j; refine At.y (Y.ix (.s (.s (.s (.s .z)))) rfl rfl rfl rfl rfl rfl a6.1 a6.2) rfl rfl rfl ?_; refine At.HO.back (.c (.s .z) (.c (.s .z) (.c (.s .z) (.c (.s (.s .z)) (.c (.s (.s .z)) .n))))) ?_; refine At.H.al [24] (Q7 ?_ Q8)
            ··refine At.HO.op rfl ?_
              refine At.st rfl (.s (.s (.s (.s .z)))) (q := 0) (z := (!(decide ((Int.tmod (IntKind.i64.wrap (G - a4.2.2)) 2) = 0)))) rfl rfl rfl a6.1 a6.2 rfl rfl (.c .n) ?_; refine At.HO.back (.c (.s (.s .z)) (.c (.s (.s .z)) (.c (.s (.s .z)) (.c (.s (.s .z)) (.c (.s (.s .z)) .n))))) ?_; refine At.H.done (by kernel_rfl) ?_; refine At.ibn ?_; refine At.drop (.s (.s .z)) (At.drop (.s (.s (.s (.s (.s .z))))) (At.f4 (At.f1 (At.f2 (At.f4 (At.f4 ?_)))))); obtain rfl := (bret j).symm; exact At.res (.inr rfl) rfl rfl ⟨E.length, A0_1, c0_1, rfl, rfl, rfl⟩
    ··refine At.condF rfl (bn c5) ?_
      refine At.skip ?_; refine At.ibn ?_; refine At.drop .z (At.drop (.s (.s (.s (.s (.s .z))))) ?_); obtain rfl := (bret j).symm; exact At.res (.inr rfl) rfl rfl ⟨E.length, A0_1, c0_1, rfl, rfl, rfl⟩
  ··refine At.condF rfl (decide_eq_false c4) ?_
    refine sR 2 rfl (nT ?_); rcases bite j with ⟨c6, j⟩ | ⟨c6, j⟩
    ··refine At.condT rfl (decide_eq_true c6) ?_
      refine sR 3 rfl (At.y (Y.load rfl rfl (.s .z) rfl rfl rfl) rfl rfl rfl (At.run 3 rfl ?_)); refine At.store rfl rfl rfl rfl (.s .z) rfl rfl rfl (.s (.s (.c .n))) ?_; refine nT (sR 2 rfl (At.y (Y.load rfl rfl (.s .z) rfl rfl rfl) rfl rfl rfl (At.f5 (At.f5 ?_)))); refine At.f5 (At.f5 (At.f4 ?_)); obtain ⟨e0, e8, j⟩ := bbind j; refine At.call rfl Q23.callee rfl rfl rfl (ih _ _ b0 A0_0 p.length c0_0 A0_1 E.length c0_1 A0_3 C.length c0_3 A0_4 D.length c0_4 A0_5 u.length c0_5 p E (IntKind.i64.wrap (G + 1)) C D u ((gt p a1).A) hr0_0 rfl hc0_0 rfl rfl rfl rfl e8) ?_; rintro _ _ ⟨k4, e9, f0, rfl, rfl, rfl⟩; refine nT (sR 3 rfl (At.y (Y.load rfl rfl .z rfl rfl rfl) rfl rfl rfl (At.run 3 rfl ?_))); refine At.store rfl rfl rfl rfl .z rfl rfl rfl (.s (.s (.c .n))) ?_; refine nT ?_; refine At.still 14 (by kernel_rfl) ?_; refine At.Still.run 3 rfl ?_; refine At.Still.y (Y.load rfl rfl .z rfl rfl rfl) rfl rfl rfl ?_; refine At.Still.run 4 rfl ?_; refine At.Still.y (Y.load rfl rfl .z rfl rfl rfl) rfl rfl rfl ?_; refine At.Still.run 1 rfl ?_; refine At.Still.y (Y.load rfl rfl (.s (.s (.s (.s (.s .z))))) rfl rfl rfl) rfl rfl rfl ?_; obtain ⟨a7, j⟩ := bnone j; refine At.Still.y (Y.ix (.s (.s (.s (.s .z)))) rfl rfl rfl rfl rfl rfl a7.1 a7.2) rfl rfl rfl ?_; refine At.Still.y (Y.ld (.s (.s (.s (.s .z)))) (q := 0) rfl rfl a7.1 a7.2 rfl rfl rfl) rfl rfl rfl ?_; obtain ⟨a8, j⟩ := bnone j; refine At.Still.y (Y.ix (.s (.s (.s (.s .z)))) rfl rfl rfl rfl rfl rfl a8.1 a8.2) rfl rfl rfl ?_; refine At.Still.nil ?_; refine At.st rfl (.s (.s (.s (.s .z)))) (q := 0) (z := (gt e0.2.2.2.1 ((gt p a1).A))) rfl rfl rfl a8.1 a8.2 rfl rfl (.c .n) ?_; refine At.nil ?_; refine At.ibn ?_; refine At.drop (.s (.s (.s (.s (.s .z))))) (At.f4 (At.f4 (At.f4 (At.f4 ?_)))); cases bret j; exact At.res (.inr rfl) rfl rfl ⟨e0.2.2.1.length, e9, f0, rfl, rfl, rfl⟩
    ··refine At.condF rfl (decide_eq_false c6) ?_
      refine At.seq (sR 2 rfl (nT ?_)); obtain ⟨f3, f6, k5, j⟩ := bjoin j; let T9 : HProp := pc J [i6 ((gt p a1).Kind), i6 ((gt p a1).A), i6 ((gt p a1).B), .string ⟨((gt p a1).Name).toArray⟩, i6 ((gt p a1).At)] 33; let c7 : HProp := pc b0 [.slice A0_0 p.length c0_0, .slice A0_1 E.length c0_1, i6 G, .slice A0_3 C.length c0_3, .slice A0_4 D.length c0_4, .slice A0_5 u.length c0_5] 190; refine At.join (X := Bool) (fun V => [(0, bp b0), (1, i6 a1), (4, bp J), (15, i6 ((gt p a1).Kind)), (83, .bool V)]) (fun V => T9 :: c7 :: row Q14.fl 242 A0_1 E.length c0_1 E :: row (Fl.int .i64) 3 A0_3 C.length c0_3 C :: row Fl.bool 4 A0_4 D.length c0_4 D :: row (Fl.int .i64) 3 A0_5 u.length c0_5 u :: Fr) (fun V => f3 (.inl V) = some r) ?_ (fun e1 => ?_)
      ·rintro V j; have j := (f6 _).symm.trans j
       ·rcases bite j with ⟨c8, j⟩ | ⟨c8, j⟩
        ··refine At.condT rfl c8 ?_
          refine sR 2 rfl (At.y (Y.load rfl rfl .z rfl rfl rfl) rfl rfl rfl (At.f5 (At.f5 (At.f5 (At.f5 ?_))))); refine At.f5 ?_; obtain ⟨e2, f7, j⟩ := bbind j; refine At.call rfl Q23.callee rfl rfl rfl (ih _ _ b0 A0_0 p.length c0_0 A0_1 E.length c0_1 A0_3 C.length c0_3 A0_4 D.length c0_4 A0_5 u.length c0_5 p E G C D u ((gt p a1).A) hr0_0 rfl hc0_0 rfl rfl rfl rfl f7) ?_; rintro _ _ ⟨k6, f8, f9, rfl, rfl, rfl⟩; refine nT ?_; refine At.still 14 (by kernel_rfl) ?_; refine At.Still.run 3 rfl ?_; refine At.Still.y (Y.load rfl rfl .z rfl rfl rfl) rfl rfl rfl ?_; refine At.Still.run 4 rfl ?_; refine At.Still.y (Y.load rfl rfl .z rfl rfl rfl) rfl rfl rfl ?_; refine At.Still.run 1 rfl ?_; refine At.Still.y (Y.load rfl rfl (.s (.s (.s (.s (.s .z))))) rfl rfl rfl) rfl rfl rfl ?_; obtain ⟨a9, j⟩ := bnone j; refine At.Still.y (Y.ix (.s (.s (.s (.s .z)))) rfl rfl rfl rfl rfl rfl a9.1 a9.2) rfl rfl rfl ?_; refine At.Still.y (Y.ld (.s (.s (.s (.s .z)))) (q := 0) rfl rfl a9.1 a9.2 rfl rfl rfl) rfl rfl rfl ?_; obtain ⟨b2, j⟩ := bnone j; refine At.Still.y (Y.ix (.s (.s (.s (.s .z)))) rfl rfl rfl rfl rfl rfl b2.1 b2.2) rfl rfl rfl ?_; refine At.Still.nil ?_; refine At.st rfl (.s (.s (.s (.s .z)))) (q := 0) (z := (gt e2.2.2.2.1 ((gt p a1).A))) rfl rfl rfl b2.1 b2.2 rfl rfl (.c .n) ?_; refine At.nil ?_; refine At.ibn ?_; refine At.drop (.s (.s (.s (.s (.s .z))))) (At.f4 (At.f4 (At.f4 (At.f4 ?_)))); cases bret j; exact At.res (.inr rfl) rfl rfl ⟨e2.2.2.1.length, f8, f9, rfl, rfl, rfl⟩
        ··refine At.condF rfl (bn c8) ?_
          refine At.seq (sR 2 rfl (nT ?_)); obtain ⟨g0, g1, k7, j⟩ := bjoin j; refine At.join (X := Bool) (fun Z => [(0, bp b0), (1, i6 a1), (4, bp J), (15, i6 ((gt p a1).Kind)), (104, .bool Z)]) (fun Z => T9 :: c7 :: row Q14.fl 242 A0_1 E.length c0_1 E :: row (Fl.int .i64) 3 A0_3 C.length c0_3 C :: row Fl.bool 4 A0_4 D.length c0_4 D :: row (Fl.int .i64) 3 A0_5 u.length c0_5 u :: Fr) (fun Z => g0 (.inl Z) = some r) ?_ (fun e3 => ?_)
          ·rintro Z j; have j := (g1 _).symm.trans j
           ·rcases bite j with ⟨c9, j⟩ | ⟨c9, j⟩
            ··refine At.condT rfl c9 ?_
              refine sR 2 rfl (At.y (Y.load rfl rfl .z rfl rfl rfl) rfl rfl rfl (At.f5 (At.f5 (At.f5 (At.f5 ?_))))); refine At.f5 ?_; obtain ⟨U, g2, j⟩ := bbind j; refine At.call rfl Q23.callee rfl rfl rfl (ih _ _ b0 A0_0 p.length c0_0 A0_1 E.length c0_1 A0_3 C.length c0_3 A0_4 D.length c0_4 A0_5 u.length c0_5 p E G C D u ((gt p a1).A) hr0_0 rfl hc0_0 rfl rfl rfl rfl g2) ?_; rintro _ _ ⟨k8, g3, g4, rfl, rfl, rfl⟩; refine nT (sR 2 rfl ?_); refine At.y (Y.load rfl rfl (.s (.s (.s (.s (.s .z))))) rfl rfl rfl) rfl rfl rfl ?_; refine At.rowLen (.s (.s .z)) fun g5 => ?_; refine At.rowLen (.s (.s (.s .z))) fun g6 => ?_; refine At.rowLen (.s (.s (.s (.s .z)))) fun g7 => ?_; obtain ⟨a0, g8, j⟩ := bbind j; refine At.call rfl Q23.callee rfl rfl rfl (ih _ _ b0 A0_0 p.length c0_0 g3 U.2.2.1.length g4 A0_3 C.length c0_3 A0_4 D.length c0_4 A0_5 u.length c0_5 p U.2.2.1 U.2.2.2.2 U.2.1 U.1 U.2.2.2.1 ((gt p a1).B) hr0_0 rfl hc0_0 rfl g5 g6 g7 g8) ?_; rintro _ _ ⟨k9, g9, h0, rfl, rfl, rfl⟩; refine nT ?_; refine At.still 23 (by kernel_rfl) ?_; refine At.Still.run 3 rfl ?_; refine At.Still.y (Y.load rfl rfl .z rfl rfl rfl) rfl rfl rfl ?_; refine At.Still.run 4 rfl ?_; refine At.Still.y (Y.load rfl rfl .z rfl rfl rfl) rfl rfl rfl ?_; refine At.Still.run 1 rfl ?_; refine At.Still.y (Y.load rfl rfl (.s (.s (.s (.s (.s .z))))) rfl rfl rfl) rfl rfl rfl ?_; obtain ⟨b3, j⟩ := bnone j; refine At.Still.y (Y.ix (.s (.s (.s (.s .z)))) rfl rfl rfl rfl rfl rfl b3.1 b3.2) rfl rfl rfl ?_; refine At.Still.y (Y.ld (.s (.s (.s (.s .z)))) (q := 0) rfl rfl b3.1 b3.2 rfl rfl rfl) rfl rfl rfl ?_; refine At.Still.run 3 rfl ?_; refine At.Still.y (Y.load rfl rfl .z rfl rfl rfl) rfl rfl rfl ?_; refine At.Still.run 1 rfl ?_; refine At.Still.y (Y.load rfl rfl (.s (.s (.s (.s (.s .z))))) rfl rfl rfl) rfl rfl rfl ?_; obtain ⟨b4, j⟩ := bnone j; refine At.Still.y (Y.ix (.s (.s (.s (.s .z)))) rfl rfl rfl rfl rfl rfl b4.1 b4.2) rfl rfl rfl ?_; refine At.Still.y (Y.ld (.s (.s (.s (.s .z)))) (q := 0) rfl rfl b4.1 b4.2 rfl rfl rfl) rfl rfl rfl ?_; refine At.Still.run 1 rfl ?_; obtain ⟨b5, j⟩ := bnone j; refine At.Still.y (Y.ix (.s (.s (.s (.s .z)))) rfl rfl rfl rfl rfl rfl b5.1 b5.2) rfl rfl rfl ?_; refine At.Still.nil ?_; refine At.st rfl (.s (.s (.s (.s .z)))) (q := 0) (z := (if gt a0.2.2.2.1 ((gt p a1).A) < gt a0.2.2.2.1 ((gt p a1).B) then gt a0.2.2.2.1 ((gt p a1).B) else gt a0.2.2.2.1 ((gt p a1).A))) rfl rfl rfl b5.1 b5.2 rfl rfl (.c .n) ?_; refine At.nil ?_; refine At.ibn ?_; refine At.drop (.s (.s (.s (.s (.s .z))))) (At.f4 (At.f4 (At.f4 (At.f4 ?_)))); cases bret j; exact At.res (.inr rfl) rfl rfl ⟨a0.2.2.1.length, g9, h0, rfl, rfl, rfl⟩
            ··refine At.condF rfl (bn c9) ?_
              refine At.seq (sR 2 rfl (nT ?_)); obtain ⟨h1, h2, l6, j⟩ := bjoin j; refine At.join (X := Bool) (fun a2 => [(0, bp b0), (1, i6 a1), (4, bp J), (138, .bool a2)]) (fun a2 => T9 :: c7 :: row Q14.fl 242 A0_1 E.length c0_1 E :: row (Fl.int .i64) 3 A0_3 C.length c0_3 C :: row Fl.bool 4 A0_4 D.length c0_4 D :: row (Fl.int .i64) 3 A0_5 u.length c0_5 u :: Fr) (fun a2 => h1 (.inl a2) = some r) ?_ (fun e4 => ?_)
              ·rintro a2 j; have j := (h2 _).symm.trans j
               ·rcases bite j with ⟨d0, j⟩ | ⟨d0, j⟩
                ··refine At.condT rfl d0 ?_
                  refine At.seq ?_; refine At.held [T9, row (Fl.int .i64) 3 A0_3 C.length c0_3 C, row Fl.bool 4 A0_4 D.length c0_4 D, row (Fl.int .i64) 3 A0_5 u.length c0_5 u] 16 rfl ?_; refine At.H.pw 0 rfl rfl rfl rfl rfl (.c .z (.c (.s (.s .z)) (.c (.s (.s .z)) (.c (.s (.s .z)) .n)))) ?_; refine At.H.pw 1 rfl rfl rfl rfl rfl (.c .z (.c (.s (.s .z)) (.c (.s (.s .z)) (.c (.s (.s .z)) .n)))) ?_; refine At.H.pw 2 rfl rfl rfl rfl rfl (.c .z (.c (.s (.s .z)) (.c (.s (.s .z)) (.c (.s (.s .z)) .n)))) ?_; refine At.H.pw 3 rfl rfl rfl rfl rfl (.c .z (.c (.s (.s .z)) (.c (.s (.s .z)) (.c (.s (.s .z)) .n)))) ?_; refine At.H.pw 5 rfl rfl rfl rfl rfl (.c .z (.c (.s (.s .z)) (.c (.s (.s .z)) (.c (.s (.s .z)) .n)))) ?_; refine At.H.pw 6 rfl rfl rfl rfl rfl (.c .z (.c (.s (.s .z)) (.c (.s (.s .z)) (.c (.s (.s .z)) .n)))) ?_; refine At.H.pw 7 rfl rfl rfl rfl rfl (.c .z (.c (.s (.s .z)) (.c (.s (.s .z)) (.c (.s (.s .z)) .n)))) ?_; refine At.H.pw 8 rfl rfl rfl rfl rfl (.c .z (.c (.s (.s .z)) (.c (.s (.s .z)) (.c (.s (.s .z)) .n)))) ?_; obtain ⟨d1, j⟩ := bnone j; refine At.H.joinK (X := (Option Addr) × Nat) (fun s_ => [(0, bp b0), (1, i6 a1), (4, bp J)]) (fun s_ => pc b0 [.slice A0_0 p.length c0_0, .slice s_.1 ((E ++ ([(⟨a1, G⟩ : Q14)] : List Q14)).length) s_.2, i6 G, .slice A0_3 C.length c0_3, .slice A0_4 D.length c0_4, .slice A0_5 u.length c0_5] 190 :: row Q14.fl 242 s_.1 ((E ++ ([(⟨a1, G⟩ : Q14)] : List Q14)).length) s_.2 (E ++ ([(⟨a1, G⟩ : Q14)] : List Q14)) :: T9 :: row (Fl.int .i64) 3 A0_3 C.length c0_3 C :: row Fl.bool 4 A0_4 D.length c0_4 D :: row (Fl.int .i64) 3 A0_5 u.length c0_5 u :: Fr) (fun s_ => True) ?_ (fun d2 => ?_)
                  ·rintro ⟨h3, h4⟩ -
                   ·refine At.thn (sR 2 rfl (At.y (Y.load rfl rfl (.s (.s .z)) rfl rfl rfl) rfl rfl rfl (At.f5 (At.f5 (At.f5 ?_))))); refine At.f4 (At.f4 ?_); obtain ⟨I, h5, j⟩ := bbind j; refine At.call rfl Q23.callee rfl rfl rfl (ih _ _ b0 A0_0 p.length c0_0 h3 ((E ++ ([(⟨a1, G⟩ : Q14)] : List Q14)).length) h4 A0_3 C.length c0_3 A0_4 D.length c0_4 A0_5 u.length c0_5 p (E ++ ([(⟨a1, G⟩ : Q14)] : List Q14)) G C D u ((gt p a1).A) hr0_0 rfl hc0_0 rfl rfl rfl rfl h5) ?_; rintro _ _ ⟨l7, d3, d4, rfl, rfl, rfl⟩; refine nT (At.seq ?_); refine At.held [row (Fl.int .i64) 3 A0_3 C.length c0_3 I.2.1, row Fl.bool 4 A0_4 D.length c0_4 I.1, row (Fl.int .i64) 3 A0_5 u.length c0_5 I.2.2.2.1, T9] 15 rfl ?_; refine At.H.pw 0 rfl rfl rfl rfl rfl (.c (.s (.s .z)) (.c (.s (.s .z)) (.c (.s (.s .z)) (.c (.s (.s .z)) .n)))) ?_; refine At.H.pw 1 rfl rfl rfl rfl rfl (.c (.s (.s .z)) (.c (.s (.s .z)) (.c (.s (.s .z)) (.c (.s (.s .z)) .n)))) ?_; refine At.H.pw 2 rfl rfl rfl rfl rfl (.c (.s (.s .z)) (.c (.s (.s .z)) (.c (.s (.s .z)) (.c (.s (.s .z)) .n)))) ?_; refine At.H.pw 3 rfl rfl rfl rfl rfl (.c (.s (.s .z)) (.c (.s (.s .z)) (.c (.s (.s .z)) (.c (.s (.s .z)) .n)))) ?_; refine At.H.pw 5 rfl rfl rfl rfl rfl (.c (.s (.s .z)) (.c (.s (.s .z)) (.c (.s (.s .z)) (.c (.s (.s .z)) .n)))) ?_; refine At.H.pw 6 rfl rfl rfl rfl rfl (.c (.s (.s .z)) (.c (.s (.s .z)) (.c (.s (.s .z)) (.c (.s (.s .z)) .n)))) ?_; refine At.H.pw 7 rfl rfl rfl rfl rfl (.c (.s (.s .z)) (.c (.s (.s .z)) (.c (.s (.s .z)) (.c (.s (.s .z)) .n)))) ?_; obtain ⟨b6, j⟩ := bnone j; let h6 : HProp := pc b0 [.slice A0_0 p.length c0_0, .slice d3 ((I.2.2.1.take (IntKind.i64.wrap ((I.2.2.1.length : Int) - 1)).toNat).length) d4, i6 I.2.2.2.2, .slice A0_3 C.length c0_3, .slice A0_4 D.length c0_4, .slice A0_5 u.length c0_5] 190; let h7 : HProp := row Q14.fl 242 d3 ((I.2.2.1.take (IntKind.i64.wrap ((I.2.2.1.length : Int) - 1)).toNat).length) d4 (I.2.2.1.take (IntKind.i64.wrap ((I.2.2.1.length : Int) - 1)).toNat); refine At.H.joinK (X := Unit) (fun _ => [(0, bp b0), (1, i6 a1), (4, bp J)]) (fun _ => h6 :: h7 :: row (Fl.int .i64) 3 A0_3 C.length c0_3 I.2.1 :: row Fl.bool 4 A0_4 D.length c0_4 I.1 :: row (Fl.int .i64) 3 A0_5 u.length c0_5 I.2.2.2.1 :: T9 :: Fr) (fun _ => True) ?_ (fun e5 => ?_)
                    ·rintro _ -
                     ·refine At.thn ?_; refine At.still 15 (by kernel_rfl) ?_; refine At.Still.run 3 rfl ?_; refine At.Still.y (Y.load rfl rfl .z rfl rfl rfl) rfl rfl rfl ?_; refine At.Still.run 4 rfl ?_; refine At.Still.y (Y.load rfl rfl .z rfl rfl rfl) rfl rfl rfl ?_; refine At.Still.run 1 rfl ?_; refine At.Still.y (Y.load rfl rfl (.s (.s (.s (.s (.s .z))))) rfl rfl rfl) rfl rfl rfl ?_; obtain ⟨b7, j⟩ := bnone j; refine At.Still.y (Y.ix (.s (.s (.s (.s .z)))) rfl rfl rfl rfl rfl rfl b7.1 b7.2) rfl rfl rfl ?_; refine At.Still.y (Y.ld (.s (.s (.s (.s .z)))) (q := 0) rfl rfl b7.1 b7.2 rfl rfl rfl) rfl rfl rfl ?_; refine At.Still.run 1 rfl ?_; obtain ⟨b8, j⟩ := bnone j; refine At.Still.y (Y.ix (.s (.s (.s (.s .z)))) rfl rfl rfl rfl rfl rfl b8.1 b8.2) rfl rfl rfl ?_; refine At.Still.nil ?_; refine At.st rfl (.s (.s (.s (.s .z)))) (q := 0) (z := (IntKind.i64.wrap (gt I.2.2.2.1 ((gt p a1).A) + 1))) rfl rfl rfl b8.1 b8.2 rfl rfl (.c .n) ?_; refine At.nil ?_; refine At.ibn ?_; refine At.drop (.s (.s (.s (.s (.s .z))))) (At.f4 (At.f4 (At.f4 (At.f4 ?_)))); cases bret j; exact At.res (.inr rfl) rfl rfl ⟨(I.2.2.1.take (IntKind.i64.wrap ((I.2.2.1.length : Int) - 1)).toNat).length, d3, d4, rfl, rfl, rfl⟩
                    ·refine At.H.al [4, 8] (Q7 ?_ (Q7 ?_ Q8))
                     ··refine At.HO.op rfl ?_
                       refine At.y (Y.load rfl rfl .z rfl rfl rfl) rfl rfl rfl ?_; refine At.HO.back (.c (.s (.s .z)) (.c (.s (.s .z)) (.c (.s (.s .z)) (.c (.s (.s .z)) .n)))) ?_; refine At.H.al [8] (Q7 ?_ Q8)
                       ··refine At.HO.op rfl ?_
                         refine At.y (Y.load rfl rfl .z rfl rfl rfl) rfl rfl rfl ?_; refine At.HO.back (.c (.s (.s .z)) (.c (.s (.s .z)) (.c (.s (.s .z)) (.c (.s (.s .z)) .n)))) ?_; refine At.H.pw 9 rfl rfl rfl rfl rfl (.c (.s (.s .z)) (.c (.s (.s .z)) (.c (.s (.s .z)) (.c (.s (.s .z)) .n)))) ?_; refine At.H.pw 10 rfl rfl rfl rfl rfl (.c (.s (.s .z)) (.c (.s (.s .z)) (.c (.s (.s .z)) (.c (.s (.s .z)) .n)))) ?_; refine At.H.al [11] (Q7 ?_ Q8)
                         ··refine At.HO.op rfl ?_
                           refine At.cut rfl (.s .z) rfl rfl rfl rfl rfl b6.1 b6.2 rfl ?_; refine At.HO.back (.c (.s (.s .z)) (.c (.s (.s .z)) (.c (.s (.s .z)) (.c (.s (.s .z)) .n)))) ?_; refine At.H.pw 12 rfl rfl rfl rfl rfl (.c (.s (.s .z)) (.c (.s (.s .z)) (.c (.s (.s .z)) (.c (.s (.s .z)) .n)))) ?_; refine At.H.pw 13 rfl rfl rfl rfl rfl (.c (.s (.s .z)) (.c (.s (.s .z)) (.c (.s (.s .z)) (.c (.s (.s .z)) .n)))) ?_; refine At.H.al [14] (Q7 ?_ Q8)
                           ··refine At.HO.op rfl ?_
                             refine At.store rfl rfl rfl rfl (.s .z) rfl rfl rfl (.s (.c .n)) ?_; refine At.HO.back (.c (.s (.s .z)) (.c (.s (.s .z)) (.c (.s (.s .z)) (.c (.s (.s .z)) .n)))) ?_; refine At.H.done (by kernel_rfl) ?_; exact At.of (e5 () trivial) ⟨rfl, rfl, rfl, trivial⟩
                     ··refine At.HO.op rfl ?_
                       refine At.y (Y.load rfl rfl .z rfl rfl rfl) rfl rfl rfl ?_; refine At.HO.back (.c (.s (.s .z)) (.c (.s (.s .z)) (.c (.s (.s .z)) (.c (.s (.s .z)) .n)))) ?_; refine At.H.pw 9 rfl rfl rfl rfl rfl (.c (.s (.s .z)) (.c (.s (.s .z)) (.c (.s (.s .z)) (.c (.s (.s .z)) .n)))) ?_; refine At.H.pw 10 rfl rfl rfl rfl rfl (.c (.s (.s .z)) (.c (.s (.s .z)) (.c (.s (.s .z)) (.c (.s (.s .z)) .n)))) ?_; refine At.H.al [4] (Q7 ?_ Q8)
                       ··refine At.HO.op rfl ?_
                         refine At.y (Y.load rfl rfl .z rfl rfl rfl) rfl rfl rfl ?_; refine At.HO.back (.c (.s (.s .z)) (.c (.s (.s .z)) (.c (.s (.s .z)) (.c (.s (.s .z)) .n)))) ?_; refine At.H.al [11] (Q7 ?_ Q8)
                         ··refine At.HO.op rfl ?_
                           refine At.cut rfl (.s .z) rfl rfl rfl rfl rfl b6.1 b6.2 rfl ?_; refine At.HO.back (.c (.s (.s .z)) (.c (.s (.s .z)) (.c (.s (.s .z)) (.c (.s (.s .z)) .n)))) ?_; refine At.H.pw 12 rfl rfl rfl rfl rfl (.c (.s (.s .z)) (.c (.s (.s .z)) (.c (.s (.s .z)) (.c (.s (.s .z)) .n)))) ?_; refine At.H.pw 13 rfl rfl rfl rfl rfl (.c (.s (.s .z)) (.c (.s (.s .z)) (.c (.s (.s .z)) (.c (.s (.s .z)) .n)))) ?_; refine At.H.al [14] (Q7 ?_ Q8)
                           ··refine At.HO.op rfl ?_
                             refine At.store rfl rfl rfl rfl (.s .z) rfl rfl rfl (.s (.c .n)) ?_; refine At.HO.back (.c (.s (.s .z)) (.c (.s (.s .z)) (.c (.s (.s .z)) (.c (.s (.s .z)) .n)))) ?_; refine At.H.done (by kernel_rfl) ?_; exact At.of (e5 () trivial) ⟨rfl, rfl, rfl, trivial⟩
                  ·refine At.H.al [4, 9] (Q7 ?_ (Q7 ?_ Q8))
                   ··refine At.HO.op rfl ?_
                     refine At.y (Y.load rfl rfl (.s .z) rfl rfl rfl) rfl rfl rfl ?_; refine At.HO.back (.c .z (.c (.s (.s .z)) (.c (.s (.s .z)) (.c (.s (.s .z)) .n)))) ?_; refine At.H.al [9] (Q7 ?_ Q8)
                     ··refine At.HO.op rfl ?_
                       refine At.y (Y.load rfl rfl (.s .z) rfl rfl rfl) rfl rfl rfl ?_; refine At.HO.back (.c .z (.c (.s (.s .z)) (.c (.s (.s .z)) (.c (.s (.s .z)) .n)))) ?_; refine At.H.tw 10 rfl (Y.build (is := [0, 1]) (xo := [.tmp 146, .tmp 150]) (vs := [i6 a1, i6 G]) (cs := [i6 a1, i6 G]) rfl rfl rfl rfl rfl rfl) rfl rfl rfl (.c .z (.c (.s (.s .z)) (.c (.s (.s .z)) (.c (.s (.s .z)) .n)))) ?_; refine At.H.al [11] (Q7 ?_ Q8)
                       ··refine At.HO.op rfl ?_
                         refine At.lit rfl (xo := [.tmp 151]) (ys := ([(⟨a1, G⟩ : Q14)] : List Q14)) Q14.fl rfl rfl rfl rfl rfl rfl rfl rfl rfl rfl rfl (fun l8 l9 => ?_); refine At.HO.back (.c (.s .z) (.c (.s (.s (.s .z))) (.c (.s (.s (.s .z))) (.c (.s (.s (.s .z))) .n)))) ?_; refine At.H.al [12] (Q7 ?_ Q8)
                         ··refine At.HO.op rfl ?_
                           refine At.append rfl (.s (.s (.s .z))) (Src.own .z (by simp)) rfl rfl rfl rfl rfl rfl rfl rfl d1 (by decide) rfl (fun h8 h9 => ?_); refine At.drop (.s .z) ?_; refine At.HO.back (.c (.s .z) (.c (.s (.s .z)) (.c (.s (.s .z)) (.c (.s (.s .z)) .n)))) ?_; refine At.H.pw 13 rfl rfl rfl rfl rfl (.c (.s .z) (.c (.s (.s .z)) (.c (.s (.s .z)) (.c (.s (.s .z)) .n)))) ?_; refine At.H.pw 14 rfl rfl rfl rfl rfl (.c (.s .z) (.c (.s (.s .z)) (.c (.s (.s .z)) (.c (.s (.s .z)) .n)))) ?_; refine At.H.al [15] (Q7 ?_ Q8)
                           ··refine At.HO.op rfl ?_
                             refine At.store rfl rfl rfl rfl (.s (.s .z)) rfl rfl rfl (.s (.c .n)) ?_; refine At.HO.back (.c (.s (.s .z)) (.c (.s (.s .z)) (.c (.s (.s .z)) (.c (.s (.s .z)) .n)))) ?_; refine At.H.done (by kernel_rfl) ?_; exact At.of (d2 (h8, h9) trivial) ⟨rfl, rfl, rfl, trivial⟩
                   ··refine At.HO.op rfl ?_
                     refine At.y (Y.load rfl rfl (.s .z) rfl rfl rfl) rfl rfl rfl ?_; refine At.HO.back (.c .z (.c (.s (.s .z)) (.c (.s (.s .z)) (.c (.s (.s .z)) .n)))) ?_; refine At.H.tw 10 rfl (Y.build (is := [0, 1]) (xo := [.tmp 146, .tmp 150]) (vs := [i6 a1, i6 G]) (cs := [i6 a1, i6 G]) rfl rfl rfl rfl rfl rfl) rfl rfl rfl (.c .z (.c (.s (.s .z)) (.c (.s (.s .z)) (.c (.s (.s .z)) .n)))) ?_; refine At.H.al [4, 11] (Q7 ?_ (Q7 ?_ Q8))
                     ··refine At.HO.op rfl ?_
                       refine At.y (Y.load rfl rfl (.s .z) rfl rfl rfl) rfl rfl rfl ?_; refine At.HO.back (.c .z (.c (.s (.s .z)) (.c (.s (.s .z)) (.c (.s (.s .z)) .n)))) ?_; refine At.H.al [11] (Q7 ?_ Q8)
                       ··refine At.HO.op rfl ?_
                         refine At.lit rfl (xo := [.tmp 151]) (ys := ([(⟨a1, G⟩ : Q14)] : List Q14)) Q14.fl rfl rfl rfl rfl rfl rfl rfl rfl rfl rfl rfl (fun m0 m1 => ?_); refine At.HO.back (.c (.s .z) (.c (.s (.s (.s .z))) (.c (.s (.s (.s .z))) (.c (.s (.s (.s .z))) .n)))) ?_; refine At.H.al [12] (Q7 ?_ Q8)
                         ··refine At.HO.op rfl ?_
                           refine At.append rfl (.s (.s (.s .z))) (Src.own .z (by simp)) rfl rfl rfl rfl rfl rfl rfl rfl d1 (by decide) rfl (fun k0 k1 => ?_); refine At.drop (.s .z) ?_; refine At.HO.back (.c (.s .z) (.c (.s (.s .z)) (.c (.s (.s .z)) (.c (.s (.s .z)) .n)))) ?_; refine At.H.pw 13 rfl rfl rfl rfl rfl (.c (.s .z) (.c (.s (.s .z)) (.c (.s (.s .z)) (.c (.s (.s .z)) .n)))) ?_; refine At.H.pw 14 rfl rfl rfl rfl rfl (.c (.s .z) (.c (.s (.s .z)) (.c (.s (.s .z)) (.c (.s (.s .z)) .n)))) ?_; refine At.H.al [15] (Q7 ?_ Q8)
                           ··refine At.HO.op rfl ?_
                             refine At.store rfl rfl rfl rfl (.s (.s .z)) rfl rfl rfl (.s (.c .n)) ?_; refine At.HO.back (.c (.s (.s .z)) (.c (.s (.s .z)) (.c (.s (.s .z)) (.c (.s (.s .z)) .n)))) ?_; refine At.H.done (by kernel_rfl) ?_; exact At.of (d2 (k0, k1) trivial) ⟨rfl, rfl, rfl, trivial⟩
                     ··refine At.HO.op rfl ?_
                       refine At.lit rfl (xo := [.tmp 151]) (ys := ([(⟨a1, G⟩ : Q14)] : List Q14)) Q14.fl rfl rfl rfl rfl rfl rfl rfl rfl rfl rfl rfl (fun m2 m3 => ?_); refine At.HO.back (.c (.s .z) (.c (.s (.s (.s .z))) (.c (.s (.s (.s .z))) (.c (.s (.s (.s .z))) .n)))) ?_; refine At.H.al [4] (Q7 ?_ Q8)
                       ··refine At.HO.op rfl ?_
                         refine At.y (Y.load rfl rfl (.s (.s .z)) rfl rfl rfl) rfl rfl rfl ?_; refine At.HO.back (.c (.s .z) (.c (.s (.s (.s .z))) (.c (.s (.s (.s .z))) (.c (.s (.s (.s .z))) .n)))) ?_; refine At.H.al [12] (Q7 ?_ Q8)
                         ··refine At.HO.op rfl ?_
                           refine At.append rfl (.s (.s (.s .z))) (Src.own .z (by simp)) rfl rfl rfl rfl rfl rfl rfl rfl d1 (by decide) rfl (fun k2 k3 => ?_); refine At.drop (.s .z) ?_; refine At.HO.back (.c (.s .z) (.c (.s (.s .z)) (.c (.s (.s .z)) (.c (.s (.s .z)) .n)))) ?_; refine At.H.pw 13 rfl rfl rfl rfl rfl (.c (.s .z) (.c (.s (.s .z)) (.c (.s (.s .z)) (.c (.s (.s .z)) .n)))) ?_; refine At.H.pw 14 rfl rfl rfl rfl rfl (.c (.s .z) (.c (.s (.s .z)) (.c (.s (.s .z)) (.c (.s (.s .z)) .n)))) ?_; refine At.H.al [15] (Q7 ?_ Q8)
                           ··refine At.HO.op rfl ?_
                             refine At.store rfl rfl rfl rfl (.s (.s .z)) rfl rfl rfl (.s (.c .n)) ?_; refine At.HO.back (.c (.s (.s .z)) (.c (.s (.s .z)) (.c (.s (.s .z)) (.c (.s (.s .z)) .n)))) ?_; refine At.H.done (by kernel_rfl) ?_; exact At.of (d2 (k2, k3) trivial) ⟨rfl, rfl, rfl, trivial⟩
                ··refine At.condF rfl (bn d0) ?_
                  refine At.skip ?_; refine At.ibn ?_; refine At.drop .z ?_; obtain rfl := (bret j).symm; exact At.res (.inr rfl) rfl rfl ⟨E.length, A0_1, c0_1, rfl, rfl, rfl⟩
              ··rcases bite j with ⟨d5, j⟩ | ⟨d5, j⟩
                ··refine At.condT rfl (decide_eq_true d5) ?_
                  refine At.skip (At.thn ?_); exact fun a w e hs => e4 (decide ((gt p a1).Kind = 10)) j a w (e.sub ⟨rfl, rfl, rfl, rfl, trivial⟩) hs
                ··refine At.condF rfl (decide_eq_false d5) ?_
                  refine At.region (At.run 2 rfl (nT ?_)); exact fun a w e hs => e4 (decide ((gt p a1).Kind = 11)) j a w (e.sub ⟨rfl, rfl, rfl, rfl, trivial⟩) hs
          ··rcases bite j with ⟨d6, j⟩ | ⟨d6, j⟩
            ··refine At.condT rfl (decide_eq_true d6) ?_
              refine At.skip (At.thn ?_); exact fun a w e hs => e3 (decide ((gt p a1).Kind = 6)) j a w (e.sub ⟨rfl, rfl, rfl, rfl, rfl, trivial⟩) hs
            ··refine At.condF rfl (decide_eq_false d6) ?_
              refine At.region (At.run 2 rfl (nT ?_)); exact fun a w e hs => e3 (decide ((gt p a1).Kind = 7)) j a w (e.sub ⟨rfl, rfl, rfl, rfl, rfl, trivial⟩) hs
      ··rcases bite j with ⟨d7, j⟩ | ⟨d7, j⟩
        ··refine At.condT rfl (decide_eq_true d7) ?_
          refine At.skip (At.thn ?_); exact fun a w e hs => e1 (decide ((gt p a1).Kind = 8)) j a w (e.sub ⟨rfl, rfl, rfl, rfl, rfl, trivial⟩) hs
        ··refine At.condF rfl (decide_eq_false d7) ?_
          refine At.region (At.run 2 rfl (nT ?_)); exact fun a w e hs => e1 (decide ((gt p a1).Kind = 9)) j a w (e.sub ⟨rfl, rfl, rfl, rfl, rfl, trivial⟩) hs
theorem Q23.spec {p : List Q0} {q : List Q14} {E a1 : Int} {u C : List Int} {D : List Bool} (hr0_0 : RdS Q0.fl.rep R.heap A0_0 p) (hn0_0 : p.length = n0_0) (hc0_0 : n0_0 ≤ c0_0) (hn0_1 : q.length = n0_1) (hn0_3 : u.length = n0_3) (hn0_4 : D.length = n0_4) (hn0_5 : C.length = n0_5) {r : (List Bool) × (List Int) × (List Q14) × (List Int) × Int} (j : Q23.f p q E u D C a1 = some r) :
 Spec Tryz.prog 164 [bp b0, i6 a1] R (pc b0 [.slice A0_0 n0_0 c0_0, .slice A0_1 n0_1 c0_1, i6 E, .slice A0_3 n0_3 c0_3, .slice A0_4 n0_4 c0_4, .slice A0_5 n0_5 c0_5] 190 :: row Q14.fl 242 A0_1 n0_1 c0_1 q :: row (Fl.int .i64) 3 A0_3 n0_3 c0_3 u :: row Fl.bool 4 A0_4 n0_4 c0_4 D :: row (Fl.int .i64) 3 A0_5 n0_5 c0_5 C :: Fr) (fun v l' => ∃ (G : Nat) (I : Option Addr) (J : Nat), v = .tuple #[] ∧ pc b0 [.slice A0_0 n0_0 c0_0, .slice I G J, i6 r.2.2.2.2, .slice A0_3 n0_3 c0_3, .slice A0_4 n0_4 c0_4, .slice A0_5 n0_5 c0_5] 190 :: row Q14.fl 242 I G J r.2.2.1 :: row (Fl.int .i64) 3 A0_3 n0_3 c0_3 r.2.1 :: row Fl.bool 4 A0_4 n0_4 c0_4 r.1 :: row (Fl.int .i64) 3 A0_5 n0_5 c0_5 r.2.2.2.1 :: Fr = l' ∧ r.2.2.1.length = G) := by
 obtain ⟨k_, hk_⟩ := Q278 j; exact Q23.specN k_ R Fr b0 A0_0 n0_0 c0_0 A0_1 n0_1 c0_1 A0_3 n0_3 c0_3 A0_4 n0_4 c0_4 A0_5 n0_5 c0_5 p q E u D C a1 hr0_0 hn0_0 hc0_0 hn0_1 hn0_3 hn0_4 hn0_5 hk_

noncomputable def Q49.l0b (a0 : List Q0) (q : List Int) (p : Int) : Option (((List Int) × Int) ⊕ (((List Int)) ⊕ ((List Q14) × (List Int) × (List Bool) × (List Int) × Int))) :=
 if p < ((List.replicate (a0.length : Int).toNat (0 : Int)).length : Int) then
 if (0 : Int) ≤ p ∧ p < ((List.replicate (a0.length : Int).toNat (0 : Int)).length : Int) then
 nx ((st q p (-1)), IntKind.i64.wrap (p + 1))
 else none
 else
 dn (.inl q)
noncomputable def Q49.l0 (a0 : List Q0) (p : List Int) (q : Int) : Option (((List Int)) ⊕ ((List Q14) × (List Int) × (List Bool) × (List Int) × Int)) := iter (fun t_ : (List Int) × Int => Q49.l0b a0 t_.1 t_.2) (p, q)
noncomputable def Q49.f (a0 : List Q0) : Option ((List Q14) × (List Int) × (List Bool) × (List Int) × Int) :=
 if (0 : Int) ≤ (a0.length : Int) ∧ (8 : Int) * (a0.length : Int) ≤ 281474976710656 then
 if (0 : Int) ≤ (a0.length : Int) ∧ (1 : Int) * (a0.length : Int) ≤ 281474976710656 then
 jn (Q49.l0 a0 (List.replicate (a0.length : Int).toNat (0 : Int)) 0) (fun (q : List Int) =>
 (Q23.f a0 ([] : List Q14) 0 q (List.replicate (a0.length : Int).toNat (false : Bool)) (List.replicate (a0.length : Int).toNat (0 : Int)) (IntKind.i64.wrap ((a0.length : Int) - 1))).bind fun p =>
 some (p.2.2.1, p.2.1, p.1, p.2.2.2.1, p.2.2.2.2))
 else none
 else none
theorem Q49.callee : Callee Tryz.prog 134 := ⟨_, Tryz.func134, by kernel_rfl, by kernel_rfl⟩
theorem Q49.spec {a0 : List Q0} (hr0 : RdS Q0.fl.rep R.heap A0 a0) (hn0 : a0.length = n0) (hc0 : n0 ≤ c0) {r : (List Q14) × (List Int) × (List Bool) × (List Int) × Int} (j : Q49.f a0 = some r) :
 Spec Tryz.prog 134 [.slice A0 n0 c0] R (Fr) (fun v l' => ∃ (e6 : Nat) (d5 : Nat) (e7 : Option Addr) (e8 : Nat) (e9 : Option Addr) (f0 : Nat) (f5 : Option Addr) (f6 : Nat) (f7 : Option Addr) (f8 : Nat), v = bp e6 ∧ pc e6 [.slice A0 n0 c0, .slice e7 d5 e8, i6 r.2.2.2.2, .slice e9 ((List.replicate (n0 : Int).toNat (0 : Int)).length) f0, .slice f5 ((List.replicate (n0 : Int).toNat (false : Bool)).length) f6, .slice f7 ((List.replicate (n0 : Int).toNat (0 : Int)).length) f8] 190 :: row Q14.fl 242 e7 d5 e8 r.1 :: row (Fl.int .i64) 3 e9 ((List.replicate (n0 : Int).toNat (0 : Int)).length) f0 r.2.1 :: row Fl.bool 4 f5 ((List.replicate (n0 : Int).toNat (false : Bool)).length) f6 r.2.2.1 :: row (Fl.int .i64) 3 f7 ((List.replicate (n0 : Int).toNat (0 : Int)).length) f8 r.2.2.2.1 :: Fr = l' ∧ r.1.length = d5) := by
 subst hn0; refine Spec.of Tryz.func134 rfl rfl ?_; unfold Q49.f at j; have j := brun j; refine sR 1 rfl (nT (At.seq ?_)); refine At.held [] 13 rfl ?_; refine At.H.pw 0 rfl rfl rfl rfl rfl .n ?_; refine At.H.pw 1 rfl rfl rfl rfl rfl .n ?_; refine At.H.pw 2 rfl rfl rfl rfl rfl .n ?_; refine At.H.pw 4 rfl rfl rfl rfl rfl .n ?_; refine At.H.pw 5 rfl rfl rfl rfl rfl .n ?_; refine At.H.pw 7 rfl rfl rfl rfl rfl .n ?_; refine At.H.pw 8 rfl rfl rfl rfl rfl .n ?_; obtain ⟨p, j⟩ := bnone j; obtain ⟨u, j⟩ := bnone j; refine At.H.joinK (X := Nat × (Option Addr) × Nat × (Option Addr) × Nat × (Option Addr) × Nat) (fun s_ => [(0, .slice A0 a0.length c0), (3, .pointer (some ⟨s_.1, 0, none⟩))]) (fun s_ => pt s_.1 (.cells [.slice A0 a0.length c0, .slice none 0 0, i6 0, .slice s_.2.2.2.2.2.1 ((List.replicate (a0.length : Int).toNat (0 : Int)).length) s_.2.2.2.2.2.2, .slice s_.2.2.2.1 ((List.replicate (a0.length : Int).toNat (false : Bool)).length) s_.2.2.2.2.1, .slice s_.2.1 ((List.replicate (a0.length : Int).toNat (0 : Int)).length) s_.2.2.1].toArray 190) :: row (Fl.int .i64) 3 s_.2.1 ((List.replicate (a0.length : Int).toNat (0 : Int)).length) s_.2.2.1 (List.replicate (a0.length : Int).toNat (0 : Int)) :: row Fl.bool 4 s_.2.2.2.1 ((List.replicate (a0.length : Int).toNat (false : Bool)).length) s_.2.2.2.2.1 (List.replicate (a0.length : Int).toNat (false : Bool)) :: row (Fl.int .i64) 3 s_.2.2.2.2.2.1 ((List.replicate (a0.length : Int).toNat (0 : Int)).length) s_.2.2.2.2.2.2 (List.replicate (a0.length : Int).toNat (0 : Int)) :: Fr) (fun s_ => True) ?_ (fun U => ?_)
 ·rintro ⟨a1, d6, d7, d8, d9, a2, a3⟩ -
  ·refine At.thn (At.seq (sR 3 rfl (At.y (Y.load rfl rfl .z rfl rfl rfl) rfl rfl rfl (At.run 2 rfl (At.nil ?_))))); refine At.thn ?_; refine At.block ?_; obtain ⟨g3, g4, k0, j⟩ := bjoin j; obtain ⟨f9, e1, g5⟩ := bsome j; clear j; unfold Q49.l0 at e1; obtain ⟨e2, V⟩ := Q15.1 e1; clear e1; let g0 : HProp := pc a1 [.slice A0 a0.length c0, .slice none 0 0, i6 0, .slice a2 ((List.replicate (a0.length : Int).toNat (0 : Int)).length) a3, .slice d8 ((List.replicate (a0.length : Int).toNat (false : Bool)).length) d9, .slice d6 ((List.replicate (a0.length : Int).toNat (0 : Int)).length) d7] 190; let g1 : HProp := row (Fl.int .i64) 3 d6 ((List.replicate (a0.length : Int).toNat (0 : Int)).length) d7 (List.replicate (a0.length : Int).toNat (0 : Int)); let g2 : HProp := row Fl.bool 4 d8 ((List.replicate (a0.length : Int).toNat (false : Bool)).length) d9 (List.replicate (a0.length : Int).toNat (false : Bool)); refine At.loopJ (X := (List Int) × Int) (Y := (List Int)) (e0 := 0) (fun s_ => [(0, .slice A0 a0.length c0), (3, bp a1), (21, i6 ((List.replicate (a0.length : Int).toNat (0 : Int)).length : Int)), (22, i6 s_.2)]) (fun s_ => g0 :: g1 :: g2 :: row (Fl.int .i64) 3 a2 ((List.replicate (a0.length : Int).toNat (0 : Int)).length) a3 s_.1 :: Fr) (fun m_ => fun s_ => iterN (fun t_ : (List Int) × Int => Q49.l0b a0 t_.1 t_.2) m_ (s_.1, s_.2) = some f9) e2 ((List.replicate (a0.length : Int).toNat (0 : Int)), 0) V (fun Z => [(0, .slice A0 a0.length c0), (3, bp a1)]) (fun Z => g0 :: g1 :: g2 :: row (Fl.int .i64) 3 a2 ((List.replicate (a0.length : Int).toNat (0 : Int)).length) a3 Z :: Fr) (fun Z => g3 (.inl Z) = some r) (fun a w e hs => ⟨e.sub ⟨rfl, rfl, rfl, rfl, trivial⟩, (by exact hs)⟩) ?_ (fun g6 => ?_)
   ·rintro Z j; have j := (g4 _).symm.trans j
    ·refine At.ibx ?_; refine At.thn (sR 4 rfl ?_); refine At.nilRow Q14.fl 242 ?_; refine At.rowLen (.s (.s (.s (.s .z)))) fun g7 => ?_; refine At.f2 (At.f3 (At.f4 (At.f3 (At.f4 ?_)))); obtain ⟨g8, g9, j⟩ := bbind j; refine At.call rfl Q23.callee rfl rfl rfl (Q23.spec hr0 rfl hc0 rfl g7 rfl rfl g9) ?_; rintro _ _ ⟨k1, h0, h1, rfl, rfl, rfl⟩; refine nT (sR 2 rfl (nT (At.ret ?_))); cases bret j; exact At.res (.inl rfl) rfl rfl ⟨a1, g8.2.2.1.length, h0, h1, a2, a3, d8, d9, d6, d7, rfl, rfl, rfl⟩
   ·clear V e2; rintro e2 ⟨e3, e4⟩ V; obtain ⟨h2, f_, h3, hf_, j⟩ := bit V; clear V; have j : (Q49.l0b a0 e3 e4).bind _ = some f9 := j; unfold Q49.l0b at j
    ·refine sR 1 rfl (nT (At.seq ?_)); rcases bite j with ⟨e5, j⟩ | ⟨e5, j⟩
     ··refine At.condT rfl (decide_eq_true e5) ?_
       refine At.skip (At.thn (At.seq ?_)); refine At.block ?_; refine sR 2 rfl (nT (At.region (At.run 3 rfl (At.y (Y.load rfl rfl .z rfl rfl rfl) rfl rfl rfl ?_)))); refine At.run 1 rfl ?_; obtain ⟨a4, j⟩ := bnone j; refine At.y (Y.ix (.s (.s (.s .z))) rfl rfl rfl rfl rfl rfl a4.1 a4.2) rfl rfl rfl ?_; refine At.st rfl (.s (.s (.s .z))) (q := 0) (z := (-1)) rfl rfl rfl a4.1 a4.2 rfl rfl (.c .n) ?_; refine At.nil ?_; refine At.ibn ?_; refine At.thn (At.region (At.run 2 rfl (At.nil (At.f3 (At.f3 (At.f3 ?_)))))); have j := bnx hf_ j; exact fun a w e hs => ⟨h2, ((st e3 e4 (-1)), IntKind.i64.wrap (e4 + 1)), h3, j, e.sub ⟨rfl, rfl, rfl, rfl, trivial⟩, hs⟩
     ··refine At.condF rfl (decide_eq_false e5) ?_
       refine At.exit ?_; refine At.the ?_; refine At.the ?_; exact fun a w e hs => g6 e3 (bdn j g5) a w (e.sub ⟨rfl, rfl, trivial⟩) hs
 ·refine At.H.al [3, 6, 9] (Q7 ?_ (Q7 ?_ (Q7 ?_ Q8)))
  ··refine At.HO.op rfl ?_
    refine At.make (F := (Fl.int .i64)) (z := 0) rfl rfl rfl rfl rfl rfl rfl rfl rfl rfl p.1 p.2 (by decide) rfl (fun C D => ?_); refine At.HO.back .n ?_; refine At.H.al [6, 9] (Q7 ?_ (Q7 ?_ Q8))
    ··refine At.HO.op rfl ?_
      refine At.make (F := Fl.bool) (z := false) rfl rfl rfl rfl rfl rfl rfl rfl rfl rfl u.1 u.2 (by decide) rfl (fun a5 a6 => ?_); refine At.HO.back .n ?_; refine At.H.al [9] (Q7 ?_ Q8)
      ··refine At.HO.op rfl ?_
        refine At.make (F := (Fl.int .i64)) (z := 0) rfl rfl rfl rfl rfl rfl rfl rfl rfl rfl p.1 p.2 (by decide) rfl (fun a7 a8 => ?_); refine At.HO.back .n ?_; refine At.H.tw 10 rfl (Y.build (is := [0, 3, 4, 5]) (xo := [.tmp 5, .tmp 8, .tmp 11, .tmp 14]) (vs := [.slice A0 a0.length c0, .slice C ((List.replicate (a0.length : Int).toNat (0 : Int)).length) D, .slice a5 ((List.replicate (a0.length : Int).toNat (false : Bool)).length) a6, .slice a7 ((List.replicate (a0.length : Int).toNat (0 : Int)).length) a8]) (cs := [.slice A0 a0.length c0, .slice none 0 0, i6 0, .slice C ((List.replicate (a0.length : Int).toNat (0 : Int)).length) D, .slice a5 ((List.replicate (a0.length : Int).toNat (false : Bool)).length) a6, .slice a7 ((List.replicate (a0.length : Int).toNat (0 : Int)).length) a8]) rfl rfl rfl rfl rfl rfl) rfl rfl rfl .n ?_; refine At.H.al [11] (Q7 ?_ Q8)
        ··refine At.HO.op rfl ?_
          refine At.box rfl rfl (cs := [.slice A0 a0.length c0, .slice none 0 0, i6 0, .slice C ((List.replicate (a0.length : Int).toNat (0 : Int)).length) D, .slice a5 ((List.replicate (a0.length : Int).toNat (false : Bool)).length) a6, .slice a7 ((List.replicate (a0.length : Int).toNat (0 : Int)).length) a8]) rfl rfl (fun h4 => ?_); refine At.HO.back .n ?_; refine At.H.pw 12 rfl rfl rfl rfl rfl .n ?_; refine At.H.done (by kernel_rfl) ?_; exact At.of (U (h4, a7, a8, a5, a6, C, D) trivial) ⟨rfl, rfl, trivial⟩
    ··refine At.HO.op rfl ?_
      refine At.make (F := (Fl.int .i64)) (z := 0) rfl rfl rfl rfl rfl rfl rfl rfl rfl rfl p.1 p.2 (by decide) rfl (fun a9 b2 => ?_); refine At.HO.back .n ?_; refine At.H.al [6] (Q7 ?_ Q8)
      ··refine At.HO.op rfl ?_
        refine At.make (F := Fl.bool) (z := false) rfl rfl rfl rfl rfl rfl rfl rfl rfl rfl u.1 u.2 (by decide) rfl (fun b3 b4 => ?_); refine At.HO.back .n ?_; refine At.H.tw 10 rfl (Y.build (is := [0, 3, 4, 5]) (xo := [.tmp 5, .tmp 8, .tmp 11, .tmp 14]) (vs := [.slice A0 a0.length c0, .slice C ((List.replicate (a0.length : Int).toNat (0 : Int)).length) D, .slice b3 ((List.replicate (a0.length : Int).toNat (false : Bool)).length) b4, .slice a9 ((List.replicate (a0.length : Int).toNat (0 : Int)).length) b2]) (cs := [.slice A0 a0.length c0, .slice none 0 0, i6 0, .slice C ((List.replicate (a0.length : Int).toNat (0 : Int)).length) D, .slice b3 ((List.replicate (a0.length : Int).toNat (false : Bool)).length) b4, .slice a9 ((List.replicate (a0.length : Int).toNat (0 : Int)).length) b2]) rfl rfl rfl rfl rfl rfl) rfl rfl rfl .n ?_; refine At.H.al [11] (Q7 ?_ Q8)
        ··refine At.HO.op rfl ?_
          refine At.box rfl rfl (cs := [.slice A0 a0.length c0, .slice none 0 0, i6 0, .slice C ((List.replicate (a0.length : Int).toNat (0 : Int)).length) D, .slice b3 ((List.replicate (a0.length : Int).toNat (false : Bool)).length) b4, .slice a9 ((List.replicate (a0.length : Int).toNat (0 : Int)).length) b2]) rfl rfl (fun h5 => ?_); refine At.HO.back .n ?_; refine At.H.pw 12 rfl rfl rfl rfl rfl .n ?_; refine At.H.done (by kernel_rfl) ?_; refine At.f3 (At.f2 (At.f3 (At.f3 ?_))); exact At.of (U (h5, a9, b2, b3, b4, C, D) trivial) ⟨rfl, rfl, trivial⟩
  ··refine At.HO.op rfl ?_
    refine At.make (F := Fl.bool) (z := false) rfl rfl rfl rfl rfl rfl rfl rfl rfl rfl u.1 u.2 (by decide) rfl (fun E G => ?_); refine At.HO.back .n ?_; refine At.H.al [3, 9] (Q7 ?_ (Q7 ?_ Q8))
    ··refine At.HO.op rfl ?_
      refine At.make (F := (Fl.int .i64)) (z := 0) rfl rfl rfl rfl rfl rfl rfl rfl rfl rfl p.1 p.2 (by decide) rfl (fun b5 b6 => ?_); refine At.HO.back .n ?_; refine At.H.al [9] (Q7 ?_ Q8)
      ··refine At.HO.op rfl ?_
        refine At.make (F := (Fl.int .i64)) (z := 0) rfl rfl rfl rfl rfl rfl rfl rfl rfl rfl p.1 p.2 (by decide) rfl (fun b7 b8 => ?_); refine At.HO.back .n ?_; refine At.H.tw 10 rfl (Y.build (is := [0, 3, 4, 5]) (xo := [.tmp 5, .tmp 8, .tmp 11, .tmp 14]) (vs := [.slice A0 a0.length c0, .slice b5 ((List.replicate (a0.length : Int).toNat (0 : Int)).length) b6, .slice E ((List.replicate (a0.length : Int).toNat (false : Bool)).length) G, .slice b7 ((List.replicate (a0.length : Int).toNat (0 : Int)).length) b8]) (cs := [.slice A0 a0.length c0, .slice none 0 0, i6 0, .slice b5 ((List.replicate (a0.length : Int).toNat (0 : Int)).length) b6, .slice E ((List.replicate (a0.length : Int).toNat (false : Bool)).length) G, .slice b7 ((List.replicate (a0.length : Int).toNat (0 : Int)).length) b8]) rfl rfl rfl rfl rfl rfl) rfl rfl rfl .n ?_; refine At.H.al [11] (Q7 ?_ Q8)
        ··refine At.HO.op rfl ?_
          refine At.box rfl rfl (cs := [.slice A0 a0.length c0, .slice none 0 0, i6 0, .slice b5 ((List.replicate (a0.length : Int).toNat (0 : Int)).length) b6, .slice E ((List.replicate (a0.length : Int).toNat (false : Bool)).length) G, .slice b7 ((List.replicate (a0.length : Int).toNat (0 : Int)).length) b8]) rfl rfl (fun h6 => ?_); refine At.HO.back .n ?_; refine At.H.pw 12 rfl rfl rfl rfl rfl .n ?_; refine At.H.done (by kernel_rfl) ?_; refine At.f2 (At.f3 (At.f3 (At.f3 ?_))); exact At.of (U (h6, b7, b8, E, G, b5, b6) trivial) ⟨rfl, rfl, trivial⟩
    ··refine At.HO.op rfl ?_
      refine At.make (F := (Fl.int .i64)) (z := 0) rfl rfl rfl rfl rfl rfl rfl rfl rfl rfl p.1 p.2 (by decide) rfl (fun b9 c4 => ?_); refine At.HO.back .n ?_; refine At.H.al [3] (Q7 ?_ Q8)
      ··refine At.HO.op rfl ?_
        refine At.make (F := (Fl.int .i64)) (z := 0) rfl rfl rfl rfl rfl rfl rfl rfl rfl rfl p.1 p.2 (by decide) rfl (fun c5 c6 => ?_); refine At.HO.back .n ?_; refine At.H.tw 10 rfl (Y.build (is := [0, 3, 4, 5]) (xo := [.tmp 5, .tmp 8, .tmp 11, .tmp 14]) (vs := [.slice A0 a0.length c0, .slice c5 ((List.replicate (a0.length : Int).toNat (0 : Int)).length) c6, .slice E ((List.replicate (a0.length : Int).toNat (false : Bool)).length) G, .slice b9 ((List.replicate (a0.length : Int).toNat (0 : Int)).length) c4]) (cs := [.slice A0 a0.length c0, .slice none 0 0, i6 0, .slice c5 ((List.replicate (a0.length : Int).toNat (0 : Int)).length) c6, .slice E ((List.replicate (a0.length : Int).toNat (false : Bool)).length) G, .slice b9 ((List.replicate (a0.length : Int).toNat (0 : Int)).length) c4]) rfl rfl rfl rfl rfl rfl) rfl rfl rfl .n ?_; refine At.H.al [11] (Q7 ?_ Q8)
        ··refine At.HO.op rfl ?_
          refine At.box rfl rfl (cs := [.slice A0 a0.length c0, .slice none 0 0, i6 0, .slice c5 ((List.replicate (a0.length : Int).toNat (0 : Int)).length) c6, .slice E ((List.replicate (a0.length : Int).toNat (false : Bool)).length) G, .slice b9 ((List.replicate (a0.length : Int).toNat (0 : Int)).length) c4]) rfl rfl (fun h7 => ?_); refine At.HO.back .n ?_; refine At.H.pw 12 rfl rfl rfl rfl rfl .n ?_; refine At.H.done (by kernel_rfl) ?_; refine At.f1 (At.f3 (At.f3 (At.f3 ?_))); exact At.of (U (h7, b9, c4, E, G, c5, c6) trivial) ⟨rfl, rfl, trivial⟩
  ··refine At.HO.op rfl ?_
    refine At.make (F := (Fl.int .i64)) (z := 0) rfl rfl rfl rfl rfl rfl rfl rfl rfl rfl p.1 p.2 (by decide) rfl (fun I J => ?_); refine At.HO.back .n ?_; refine At.H.al [3, 6] (Q7 ?_ (Q7 ?_ Q8))
    ··refine At.HO.op rfl ?_
      refine At.make (F := (Fl.int .i64)) (z := 0) rfl rfl rfl rfl rfl rfl rfl rfl rfl rfl p.1 p.2 (by decide) rfl (fun c7 c8 => ?_); refine At.HO.back .n ?_; refine At.H.al [6] (Q7 ?_ Q8)
      ··refine At.HO.op rfl ?_
        refine At.make (F := Fl.bool) (z := false) rfl rfl rfl rfl rfl rfl rfl rfl rfl rfl u.1 u.2 (by decide) rfl (fun c9 d0 => ?_); refine At.HO.back .n ?_; refine At.H.tw 10 rfl (Y.build (is := [0, 3, 4, 5]) (xo := [.tmp 5, .tmp 8, .tmp 11, .tmp 14]) (vs := [.slice A0 a0.length c0, .slice c7 ((List.replicate (a0.length : Int).toNat (0 : Int)).length) c8, .slice c9 ((List.replicate (a0.length : Int).toNat (false : Bool)).length) d0, .slice I ((List.replicate (a0.length : Int).toNat (0 : Int)).length) J]) (cs := [.slice A0 a0.length c0, .slice none 0 0, i6 0, .slice c7 ((List.replicate (a0.length : Int).toNat (0 : Int)).length) c8, .slice c9 ((List.replicate (a0.length : Int).toNat (false : Bool)).length) d0, .slice I ((List.replicate (a0.length : Int).toNat (0 : Int)).length) J]) rfl rfl rfl rfl rfl rfl) rfl rfl rfl .n ?_; refine At.H.al [11] (Q7 ?_ Q8)
        ··refine At.HO.op rfl ?_
          refine At.box rfl rfl (cs := [.slice A0 a0.length c0, .slice none 0 0, i6 0, .slice c7 ((List.replicate (a0.length : Int).toNat (0 : Int)).length) c8, .slice c9 ((List.replicate (a0.length : Int).toNat (false : Bool)).length) d0, .slice I ((List.replicate (a0.length : Int).toNat (0 : Int)).length) J]) rfl rfl (fun h8 => ?_); refine At.HO.back .n ?_; refine At.H.pw 12 rfl rfl rfl rfl rfl .n ?_; refine At.H.done (by kernel_rfl) ?_; refine At.f2 (At.f2 (At.f3 (At.f3 ?_))); exact At.of (U (h8, I, J, c9, d0, c7, c8) trivial) ⟨rfl, rfl, trivial⟩
    ··refine At.HO.op rfl ?_
      refine At.make (F := Fl.bool) (z := false) rfl rfl rfl rfl rfl rfl rfl rfl rfl rfl u.1 u.2 (by decide) rfl (fun d1 d2 => ?_); refine At.HO.back .n ?_; refine At.H.al [3] (Q7 ?_ Q8)
      ··refine At.HO.op rfl ?_
        refine At.make (F := (Fl.int .i64)) (z := 0) rfl rfl rfl rfl rfl rfl rfl rfl rfl rfl p.1 p.2 (by decide) rfl (fun d3 d4 => ?_); refine At.HO.back .n ?_; refine At.H.tw 10 rfl (Y.build (is := [0, 3, 4, 5]) (xo := [.tmp 5, .tmp 8, .tmp 11, .tmp 14]) (vs := [.slice A0 a0.length c0, .slice d3 ((List.replicate (a0.length : Int).toNat (0 : Int)).length) d4, .slice d1 ((List.replicate (a0.length : Int).toNat (false : Bool)).length) d2, .slice I ((List.replicate (a0.length : Int).toNat (0 : Int)).length) J]) (cs := [.slice A0 a0.length c0, .slice none 0 0, i6 0, .slice d3 ((List.replicate (a0.length : Int).toNat (0 : Int)).length) d4, .slice d1 ((List.replicate (a0.length : Int).toNat (false : Bool)).length) d2, .slice I ((List.replicate (a0.length : Int).toNat (0 : Int)).length) J]) rfl rfl rfl rfl rfl rfl) rfl rfl rfl .n ?_; refine At.H.al [11] (Q7 ?_ Q8)
        ··refine At.HO.op rfl ?_
          refine At.box rfl rfl (cs := [.slice A0 a0.length c0, .slice none 0 0, i6 0, .slice d3 ((List.replicate (a0.length : Int).toNat (0 : Int)).length) d4, .slice d1 ((List.replicate (a0.length : Int).toNat (false : Bool)).length) d2, .slice I ((List.replicate (a0.length : Int).toNat (0 : Int)).length) J]) rfl rfl (fun h9 => ?_); refine At.HO.back .n ?_; refine At.H.pw 12 rfl rfl rfl rfl rfl .n ?_; refine At.H.done (by kernel_rfl) ?_; refine At.f1 (At.f2 (At.f3 (At.f3 ?_))); exact At.of (U (h9, I, J, d1, d2, d3, d4) trivial) ⟨rfl, rfl, trivial⟩

noncomputable def Q96.f (p u C : Int) (D : Bs) (E : Int) : Option Bool :=
 jn (
 if p = 10 then
 some (.inl true)
 else
 some (.inl (decide (p = 11)))) (fun (q : Bool) =>
 some q)
theorem Q96.callee : Callee Tryz.prog 135 := ⟨_, Tryz.func135, by kernel_rfl, by kernel_rfl⟩
theorem Q96.spec {p u C D : Int} {E : Bs} {r : Bool} (j : Q96.f p u C E D = some r) :
 Spec Tryz.prog 135 [.agg #[i6 p, i6 u, i6 C, .string ⟨(E).toArray⟩, i6 D]] R (Fr) (fun v l' => v = .bool r ∧ Fr = l') := by
 refine Spec.of Tryz.func135 rfl rfl ?_; unfold Q96.f at j; have j := brun j; refine At.seq (At.region ?_); refine At.box rfl rfl (cs := [i6 p, i6 u, i6 C, .string ⟨(E).toArray⟩, i6 D]) rfl rfl (fun J => ?_); refine At.run 1 rfl (nT (sR 1 rfl (At.y (Y.load rfl rfl .z rfl rfl rfl) rfl rfl rfl (At.run 2 rfl ?_)))); obtain ⟨U, V, a0, j⟩ := bjoin j; let Z : HProp := pc J [i6 p, i6 u, i6 C, .string ⟨(E).toArray⟩, i6 D] 33; refine At.joinO 4 (X := Bool) (fun q => [(10, .bool q)]) (fun q => Z :: Fr) (fun q => U (.inl q) = some r) ?_ (fun I => ?_)
 ·rintro q j; have j := (V _).symm.trans j
  ·refine At.run 1 rfl (nT (At.ret (At.drop .z ?_))); cases bret j; exact At.res (.inl rfl) rfl rfl ⟨rfl, rfl⟩
 ··rcases bite j with ⟨G, j⟩ | ⟨G, j⟩
   ··refine At.know (t := 6) rfl (decide_eq_true G) ?_
     refine At.run 4 rfl ?_; exact At.of (I true j) ⟨rfl, trivial⟩
   ··refine At.know (t := 6) rfl (decide_eq_false G) ?_
     refine At.run 1 rfl (At.y (Y.load rfl rfl .z rfl rfl rfl) rfl rfl rfl (At.run 2 rfl ?_)); exact At.of (I (decide (p = 11)) j) ⟨rfl, trivial⟩

noncomputable def Q59.l0b (a0 : List Q0) (u : (List Q14) × (List Int) × (List Bool) × (List Int) × Int) (q : List (Bs × Bool)) (p : Int) : Option (((List (Bs × Bool)) × Int) ⊕ (((List (Bs × Bool))) ⊕ (Int × Int))) :=
 if p < (a0.length : Int) then
 jn (
 if (0 : Int) ≤ p ∧ p < (a0.length : Int) then
 jn (
 if (gt a0 p).Kind = 4 then
 if (0 : Int) ≤ p ∧ p < ((List.replicate (a0.length : Int).toNat (0 : Int)).length : Int) then
 some (.inl (decide (gt u.2.1 p < 0)))
 else none
 else
 some (.inl false)) (fun (C : Bool) =>
 if C = true then
 up (upL (some (11, p)))
 else
 jn (
 if (gt a0 p).Kind = 4 then
 if (0 : Int) ≤ p ∧ p < ((List.replicate (a0.length : Int).toNat (false : Bool)).length : Int) then
 some (.inl (gt u.2.2.1 p))
 else none
 else
 some (.inl false)) (fun (D : Bool) =>
 if D = true then
 up (upL (some (12, p)))
 else
 (Q96.f ((gt a0 p).Kind) ((gt a0 p).A) ((gt a0 p).B) ((gt a0 p).Name) ((gt a0 p).At)).bind fun E =>
 jn (
 if E = true then
 some (.inl ((mget q ((gt a0 p).Name)).getD false))
 else
 some (.inl false)) (fun (G : Bool) =>
 if G = true then
 up (upL (some (9, p)))
 else
 (Q96.f ((gt a0 p).Kind) ((gt a0 p).A) ((gt a0 p).B) ((gt a0 p).Name) ((gt a0 p).At)).bind fun I =>
 jn (
 if I = true then
 if (0 : Int) ≤ p ∧ p < ((List.replicate (a0.length : Int).toNat (0 : Int)).length : Int) then
 some (.inl (decide (4 < gt u.2.2.2.1 p)))
 else none
 else
 some (.inl false)) (fun (J : Bool) =>
 if J = true then
 up (upL (some (13, p)))
 else
 (Q96.f ((gt a0 p).Kind) ((gt a0 p).A) ((gt a0 p).B) ((gt a0 p).Name) ((gt a0 p).At)).bind fun U =>
 if U = true then
 some (.inl (mset q ((gt a0 p).Name) true))
 else
 some (.inl q)))))
 else none) (fun (V : List (Bs × Bool)) =>
 nx (V, IntKind.i64.wrap (p + 1)))
 else
 dn (.inl q)
noncomputable def Q59.l0 (a0 : List Q0) (p : (List Q14) × (List Int) × (List Bool) × (List Int) × Int) (q : List (Bs × Bool)) (u : Int) : Option (((List (Bs × Bool))) ⊕ (Int × Int)) := iter (fun t_ : (List (Bs × Bool)) × Int => Q59.l0b a0 p t_.1 t_.2) (q, u)
noncomputable def Q59.f (a0 : List Q0) : Option (Int × Int) :=
 (Q50.f a0).bind fun p =>
 if p = true then
 (Q49.f a0).bind fun q =>
 jn (Q59.l0 a0 q ([] : List (Bs × Bool)) 0) (fun (u : List (Bs × Bool)) =>
 some (0, 0))
 else
 some (1, 0)
theorem Q59.callee : Callee Tryz.prog 83 := ⟨_, Tryz.func83, by kernel_rfl, by kernel_rfl⟩
theorem Q59.spec {a0 : List Q0} (hr0 : RdS Q0.fl.rep R.heap A0 a0) (hn0 : a0.length = n0) (hc0 : n0 ≤ c0) {r : Int × Int} (j : Q59.f a0 = some r) :
 Spec Tryz.prog 83 [.slice A0 n0 c0] R (Fr) (fun v l' => v = .tuple #[i6 r.2, i6 r.1] ∧ Fr = l') := by
 subst hn0; refine Spec.of Tryz.func83 rfl rfl ?_; unfold Q59.f at j; have j := brun j; refine sR 2 rfl (nT (At.seq (At.seq (At.region ?_)))); refine At.run 1 rfl ?_; obtain ⟨h0, f0, j⟩ := bbind j; refine At.call rfl Q50.callee rfl rfl rfl (Q50.spec hr0 rfl hc0 f0) ?_; rintro _ _ ⟨rfl, rfl⟩; refine At.run 1 rfl (nT ?_); rcases bite j with ⟨b9, j⟩ | ⟨b9, j⟩
 ··refine At.condF rfl (nf b9) ?_
   refine At.skip (At.thn (sR 1 rfl ?_)); obtain ⟨C, f1, j⟩ := bbind j; refine At.call rfl Q49.callee rfl rfl rfl (Q49.spec hr0 rfl hc0 f1) ?_; rintro _ _ ⟨E, h1, d6, d7, d8, d9, e1, e2, e3, e4, rfl, rfl, rfl⟩; refine At.run 1 rfl (nT (At.seq (At.region ?_))); refine At.makeMap Fl.bs.ov Fl.bool.ov rfl rfl (fun u => ?_); refine At.run 1 rfl (nT (At.seq (sR 3 rfl (At.nil ?_)))); refine At.thn ?_; refine At.block ?_; obtain ⟨f2, f3, b2, j⟩ := bjoin j; obtain ⟨G, c4, a2⟩ := bsome j; clear j; unfold Q59.l0 at c4; obtain ⟨c5, a3⟩ := Q15.1 c4; clear c4; let I : HProp := pc E [.slice A0 a0.length c0, .slice d6 C.1.length d7, i6 C.2.2.2.2, .slice d8 ((List.replicate (a0.length : Int).toNat (0 : Int)).length) d9, .slice e1 ((List.replicate (a0.length : Int).toNat (false : Bool)).length) e2, .slice e3 ((List.replicate (a0.length : Int).toNat (0 : Int)).length) e4] 190; let J : HProp := row Q14.fl 242 d6 C.1.length d7 C.1; let U : HProp := row (Fl.int .i64) 3 d8 ((List.replicate (a0.length : Int).toNat (0 : Int)).length) d9 C.2.1; let V : HProp := row Fl.bool 4 e1 ((List.replicate (a0.length : Int).toNat (false : Bool)).length) e2 C.2.2.1; let Z : HProp := row (Fl.int .i64) 3 e3 ((List.replicate (a0.length : Int).toNat (0 : Int)).length) e4 C.2.2.2.1; refine At.loopJ (X := (List (Bs × Bool)) × Int) (Y := (List (Bs × Bool))) (e0 := 0) (fun s_ => [(4, bp E), (5, .map (some u)), (14, .slice A0 a0.length c0), (15, i6 (a0.length : Int)), (16, i6 s_.2)]) (fun s_ => mapo Fl.bs.ov Fl.bool.ov u s_.1 :: I :: J :: U :: V :: Z :: Fr) (fun m_ => fun s_ => iterN (fun t_ : (List (Bs × Bool)) × Int => Q59.l0b a0 C t_.1 t_.2) m_ (s_.1, s_.2) = some G) c5 (([] : List (Bs × Bool)), 0) a3 (fun a4 => []) (fun a4 => mapo Fl.bs.ov Fl.bool.ov u a4 :: I :: J :: U :: V :: Z :: Fr) (fun a4 => f2 (.inl a4) = some r) (fun a w e hs => ⟨e.sub ⟨rfl, rfl, rfl, rfl, rfl, trivial⟩, (by exact hs)⟩) ?_ (fun f4 => ?_)
   ·rintro a4 j; have j := (f3 _).symm.trans j
    ·refine At.ibx ?_; refine At.thn (sR 2 rfl (nT (At.ret (At.drop .z ?_)))); refine At.drop .z (At.drop .z (At.drop .z (At.drop .z (At.drop .z ?_)))); cases bret j; exact At.res (.inl rfl) rfl rfl ⟨rfl, rfl⟩
   ·clear a3 c5; rintro c5 ⟨D, p⟩ a3; obtain ⟨f5, f_, f6, hf_, j⟩ := bit a3; clear a3; have j : (Q59.l0b a0 C D p).bind _ = some G := j; unfold Q59.l0b at j
    ·refine sR 1 rfl (nT (At.seq ?_)); rcases bite j with ⟨c6, j⟩ | ⟨c6, j⟩
     ··refine At.condT rfl (decide_eq_true c6) ?_
       refine At.skip (At.thn (At.seq ?_)); obtain ⟨f7, f8, b3, j⟩ := bjoin j; refine At.join (X := (List (Bs × Bool))) (fun a1 => [(4, bp E), (5, .map (some u)), (14, .slice A0 a0.length c0), (15, i6 (a0.length : Int)), (16, i6 p)]) (fun a1 => mapo Fl.bs.ov Fl.bool.ov u a1 :: I :: J :: U :: V :: Z :: Fr) (fun a1 => f7 (.inl a1) = some G) ?_ (fun e5 => ?_)
       ·rintro a1 j; have j := (f8 _).symm.trans j
        ·refine At.region (At.run 2 rfl (At.nil ?_)); have j := bnx hf_ j; exact fun a w e hs => ⟨f5, (a1, IntKind.i64.wrap (p + 1)), f6, j, e.sub ⟨rfl, rfl, rfl, rfl, rfl, trivial⟩, hs⟩
       ··refine At.block ?_
         refine sR 1 rfl ?_; obtain ⟨b4, j⟩ := bnone j; refine At.y (Y.ixRd hr0 rfl rfl rfl rfl rfl rfl rfl b4.1 b4.2) rfl rfl rfl (At.y (Y.ldFl hr0 rfl (q := 0) rfl rfl b4.1 b4.2 rfl rfl rfl) rfl rfl rfl ?_); refine At.alloc rfl rfl rfl (fun a5 => ?_); refine At.run 1 rfl ?_; refine At.store rfl rfl rfl rfl .z rfl rfl rfl (.c (.c (.c (.c (.c .n))))) ?_; refine nT (At.seq ?_); refine At.block ?_; refine sR 1 rfl (At.y (Y.load rfl rfl .z rfl rfl rfl) rfl rfl rfl (At.run 2 rfl ?_)); obtain ⟨f9, g0, h2, j⟩ := bjoin j; let b5 : HProp := pc a5 [i6 ((gt a0 p).Kind), i6 ((gt a0 p).A), i6 ((gt a0 p).B), .string ⟨((gt a0 p).Name).toArray⟩, i6 ((gt a0 p).At)] 33; refine At.joinO 9 (X := Bool) (fun a6 => [(4, bp E), (5, .map (some u)), (6, i6 p), (7, bp a5), (14, .slice A0 a0.length c0), (15, i6 (a0.length : Int)), (16, i6 p), (34, .bool a6)]) (fun a6 => b5 :: mapo Fl.bs.ov Fl.bool.ov u D :: I :: J :: U :: V :: Z :: Fr) (fun a6 => f9 (.inl a6) = some G) ?_ (fun e6 => ?_)
         ·rintro a6 j; have j := (g0 _).symm.trans j
          ·refine At.run 1 rfl (nT ?_); rcases bite j with ⟨c7, j⟩ | ⟨c7, j⟩
           ··refine At.condT rfl c7 ?_
             refine sR 3 rfl (nT (At.ret ?_)); refine At.ibr ?_; refine At.thr ?_; refine At.ibr ?_; have j := bup b3 j; refine At.thr ?_; have j := bupL b2 a2 j; refine At.thr ?_; refine At.ibr ?_; refine At.thr (At.drop .z (At.drop .z (At.drop .z (At.drop .z (At.drop .z (At.drop .z (At.drop .z ?_))))))); cases bret j; exact At.res (.inl rfl) rfl rfl ⟨rfl, rfl⟩
           ··refine At.condF rfl (bn c7) ?_
             refine sR 1 rfl (At.y (Y.load rfl rfl .z rfl rfl rfl) rfl rfl rfl (At.run 2 rfl ?_)); obtain ⟨g1, g2, h3, j⟩ := bjoin j; refine At.joinO 8 (X := Bool) (fun a7 => [(4, bp E), (5, .map (some u)), (6, i6 p), (7, bp a5), (14, .slice A0 a0.length c0), (15, i6 (a0.length : Int)), (16, i6 p), (48, .bool a7)]) (fun a7 => b5 :: mapo Fl.bs.ov Fl.bool.ov u D :: I :: J :: U :: V :: Z :: Fr) (fun a7 => g1 (.inl a7) = some G) ?_ (fun e7 => ?_)
             ·rintro a7 j; have j := (g2 _).symm.trans j
              ·refine At.run 1 rfl (nT ?_); rcases bite j with ⟨c8, j⟩ | ⟨c8, j⟩
               ··refine At.condT rfl c8 ?_
                 refine sR 3 rfl (nT (At.ret ?_)); refine At.ibr ?_; refine At.thr ?_; refine At.ibr ?_; have j := bup b3 j; refine At.thr ?_; have j := bupL b2 a2 j; refine At.thr ?_; refine At.ibr ?_; refine At.thr (At.drop .z (At.drop .z (At.drop .z (At.drop .z (At.drop .z (At.drop .z (At.drop .z ?_))))))); cases bret j; exact At.res (.inl rfl) rfl rfl ⟨rfl, rfl⟩
               ··refine At.condF rfl (bn c8) ?_
                 refine At.seq (At.region (At.y (Y.load rfl rfl .z rfl rfl rfl) rfl rfl rfl ?_)); obtain ⟨h4, g3, j⟩ := bbind j; refine At.call rfl Q96.callee rfl rfl rfl (Q96.spec g3) ?_; rintro _ _ ⟨rfl, rfl⟩; refine At.run 1 rfl ?_; obtain ⟨g4, g5, h5, j⟩ := bjoin j; refine At.joinO 5 (X := Bool) (fun a8 => [(4, bp E), (5, .map (some u)), (6, i6 p), (7, bp a5), (14, .slice A0 a0.length c0), (15, i6 (a0.length : Int)), (16, i6 p), (58, .bool a8)]) (fun a8 => b5 :: mapo Fl.bs.ov Fl.bool.ov u D :: I :: J :: U :: V :: Z :: Fr) (fun a8 => g4 (.inl a8) = some G) ?_ (fun e8 => ?_)
                 ·rintro a8 j; have j := (g5 _).symm.trans j
                  ·refine At.run 1 rfl (nT ?_); rcases bite j with ⟨c9, j⟩ | ⟨c9, j⟩
                   ··refine At.condT rfl c9 ?_
                     refine sR 3 rfl (nT (At.ret ?_)); refine At.ibr ?_; refine At.thr ?_; refine At.ibr ?_; have j := bup b3 j; refine At.thr ?_; have j := bupL b2 a2 j; refine At.thr ?_; refine At.ibr ?_; refine At.thr (At.drop .z (At.drop .z (At.drop .z (At.drop .z (At.drop .z (At.drop .z (At.drop .z ?_))))))); cases bret j; exact At.res (.inl rfl) rfl rfl ⟨rfl, rfl⟩
                   ··refine At.condF rfl (bn c9) ?_
                     refine At.seq (At.region (At.y (Y.load rfl rfl .z rfl rfl rfl) rfl rfl rfl ?_)); obtain ⟨h6, g6, j⟩ := bbind j; refine At.call rfl Q96.callee rfl rfl rfl (Q96.spec g6) ?_; rintro _ _ ⟨rfl, rfl⟩; refine At.run 1 rfl ?_; obtain ⟨g7, g8, h7, j⟩ := bjoin j; refine At.joinO 9 (X := Bool) (fun a9 => [(4, bp E), (5, .map (some u)), (6, i6 p), (7, bp a5), (14, .slice A0 a0.length c0), (15, i6 (a0.length : Int)), (16, i6 p), (72, .bool a9)]) (fun a9 => b5 :: mapo Fl.bs.ov Fl.bool.ov u D :: I :: J :: U :: V :: Z :: Fr) (fun a9 => g7 (.inl a9) = some G) ?_ (fun e9 => ?_)
                     ·rintro a9 j; have j := (g8 _).symm.trans j
                      ·refine At.run 1 rfl (nT ?_); rcases bite j with ⟨d0, j⟩ | ⟨d0, j⟩
                       ··refine At.condT rfl d0 ?_
                         refine sR 3 rfl (nT (At.ret ?_)); refine At.ibr ?_; refine At.thr ?_; refine At.ibr ?_; have j := bup b3 j; refine At.thr ?_; have j := bupL b2 a2 j; refine At.thr ?_; refine At.ibr ?_; refine At.thr (At.drop .z (At.drop .z (At.drop .z (At.drop .z (At.drop .z (At.drop .z (At.drop .z ?_))))))); cases bret j; exact At.res (.inl rfl) rfl rfl ⟨rfl, rfl⟩
                       ··refine At.condF rfl (bn d0) ?_
                         refine At.skip ?_; refine At.ibn ?_; refine At.thn (At.seq (At.region (At.y (Y.load rfl rfl .z rfl rfl rfl) rfl rfl rfl ?_))); obtain ⟨h8, g9, j⟩ := bbind j; refine At.call rfl Q96.callee rfl rfl rfl (Q96.spec g9) ?_; rintro _ _ ⟨rfl, rfl⟩; refine nT ?_; rcases bite j with ⟨d1, j⟩ | ⟨d1, j⟩
                         ··refine At.condT rfl d1 ?_
                           refine At.region (At.run 2 rfl (At.y (Y.load rfl rfl .z rfl rfl rfl) rfl rfl rfl ?_)); refine At.mapUpdate (k := ((gt a0 p).Name)) (v := true) rfl (.s .z) rfl rfl (KeyOk.str rfl rfl) rfl rfl rfl rfl rfl ?_; refine At.nil ?_; refine At.ibn ?_; refine At.thn (At.drop (.s .z) ?_); exact fun a w e hs => e5 (mset D ((gt a0 p).Name) true) j a w (e.sub ⟨rfl, rfl, rfl, rfl, rfl, trivial⟩) hs
                         ··refine At.condF rfl (bn d1) ?_
                           refine At.skip ?_; refine At.ibn ?_; refine At.thn (At.drop .z ?_); exact fun a w e hs => e5 D j a w (e.sub ⟨rfl, rfl, rfl, rfl, rfl, trivial⟩) hs
                     ··rcases bite j with ⟨d2, j⟩ | ⟨d2, j⟩
                       ··refine At.know (t := 63) rfl d2 ?_
                         refine At.run 3 rfl (At.y (Y.load rfl rfl (.s (.s .z)) rfl rfl rfl) rfl rfl rfl (At.run 1 rfl ?_)); obtain ⟨b6, j⟩ := bnone j; refine At.y (Y.ix (.s (.s (.s (.s (.s (.s .z)))))) rfl rfl rfl rfl rfl rfl b6.1 b6.2) rfl rfl rfl ?_; refine At.y (Y.ld (.s (.s (.s (.s (.s (.s .z)))))) (q := 0) rfl rfl b6.1 b6.2 rfl rfl rfl) rfl rfl rfl ?_; refine At.run 2 rfl ?_; exact At.of (e9 (decide (4 < gt C.2.2.2.1 p)) j) ⟨rfl, rfl, rfl, rfl, rfl, rfl, rfl, rfl, trivial⟩
                       ··refine At.know (t := 63) rfl (bn d2) ?_
                         refine At.run 9 rfl ?_; exact At.of (e9 false j) ⟨rfl, rfl, rfl, rfl, rfl, rfl, rfl, rfl, trivial⟩
                 ··rcases bite j with ⟨d3, j⟩ | ⟨d3, j⟩
                   ··refine At.know (t := 53) rfl d3 ?_
                     refine At.run 2 rfl (At.y (Y.load rfl rfl .z rfl rfl rfl) rfl rfl rfl ?_); refine At.y (Y.lookup (k := ((gt a0 p).Name)) (z := false) (.s .z) rfl rfl (KeyOk.str rfl rfl) (by kernel_rfl) rfl rfl rfl) rfl rfl rfl ?_; refine At.run 1 rfl ?_; exact At.of (e8 ((mget D ((gt a0 p).Name)).getD false) j) ⟨rfl, rfl, rfl, rfl, rfl, rfl, rfl, rfl, trivial⟩
                   ··refine At.know (t := 53) rfl (bn d3) ?_
                     refine At.run 5 rfl ?_; exact At.of (e8 false j) ⟨rfl, rfl, rfl, rfl, rfl, rfl, rfl, rfl, trivial⟩
             ··rcases bite j with ⟨d4, j⟩ | ⟨d4, j⟩
               ··refine At.know (t := 40) rfl (decide_eq_true d4) ?_
                 refine At.run 3 rfl (At.y (Y.load rfl rfl (.s (.s .z)) rfl rfl rfl) rfl rfl rfl (At.run 1 rfl ?_)); obtain ⟨b7, j⟩ := bnone j; refine At.y (Y.ix (.s (.s (.s (.s (.s .z))))) rfl rfl rfl rfl rfl rfl b7.1 b7.2) rfl rfl rfl ?_; refine At.y (Y.ld (.s (.s (.s (.s (.s .z))))) (q := 0) rfl rfl b7.1 b7.2 rfl rfl rfl) rfl rfl rfl ?_; refine At.run 1 rfl ?_; exact At.of (e7 (gt C.2.2.1 p) j) ⟨rfl, rfl, rfl, rfl, rfl, rfl, rfl, rfl, trivial⟩
               ··refine At.know (t := 40) rfl (decide_eq_false d4) ?_
                 refine At.run 8 rfl ?_; exact At.of (e7 false j) ⟨rfl, rfl, rfl, rfl, rfl, rfl, rfl, rfl, trivial⟩
         ··rcases bite j with ⟨d5, j⟩ | ⟨d5, j⟩
           ··refine At.know (t := 25) rfl (decide_eq_true d5) ?_
             refine At.run 3 rfl (At.y (Y.load rfl rfl (.s (.s .z)) rfl rfl rfl) rfl rfl rfl (At.run 1 rfl ?_)); obtain ⟨b8, j⟩ := bnone j; refine At.y (Y.ix (.s (.s (.s (.s .z)))) rfl rfl rfl rfl rfl rfl b8.1 b8.2) rfl rfl rfl ?_; refine At.y (Y.ld (.s (.s (.s (.s .z)))) (q := 0) rfl rfl b8.1 b8.2 rfl rfl rfl) rfl rfl rfl ?_; refine At.run 2 rfl ?_; exact At.of (e6 (decide (gt C.2.1 p < 0)) j) ⟨rfl, rfl, rfl, rfl, rfl, rfl, rfl, rfl, trivial⟩
           ··refine At.know (t := 25) rfl (decide_eq_false d5) ?_
             refine At.run 9 rfl ?_; exact At.of (e6 false j) ⟨rfl, rfl, rfl, rfl, rfl, rfl, rfl, rfl, trivial⟩
     ··refine At.condF rfl (decide_eq_false c6) ?_
       refine At.exit ?_; refine At.the ?_; refine At.the ?_; exact fun a w e hs => f4 D (bdn j a2) a w (e.sub trivial) hs
 ··refine At.condT rfl (nt (bn b9)) ?_
   refine sR 2 rfl (nT (At.ret (At.thr ?_))); cases bret j; exact At.res (.inl rfl) rfl rfl ⟨rfl, rfl⟩

noncomputable def Q138.f (a0 : List Q0) : Option (List Int) :=
 (Q50.f a0).bind fun p =>
 if p = true then
 (Q49.f a0).bind fun q =>
 some q.2.1
 else
 some ([] : List Int)
theorem Q138.callee : Callee Tryz.prog 84 := ⟨_, Tryz.func84, by kernel_rfl, by kernel_rfl⟩
theorem Q138.spec {a0 : List Q0} (hr0 : RdS Q0.fl.rep R.heap A0 a0) (hn0 : a0.length = n0) (hc0 : n0 ≤ c0) {r : (List Int)} (j : Q138.f a0 = some r) :
 Spec Tryz.prog 84 [.slice A0 n0 c0] R (Fr) (fun v l' => ∃ (p : Nat) (u : Option Addr) (C : Nat), v = .slice u p C ∧ row (Fl.int .i64) 3 u p C r :: Fr = l' ∧ r.length = p) := by
 subst hn0; refine Spec.of Tryz.func84 rfl rfl ?_; unfold Q138.f at j; have j := brun j; refine sR 1 rfl (nT (At.seq (At.seq (At.region ?_)))); refine At.run 1 rfl ?_; obtain ⟨U, D, j⟩ := bbind j; refine At.call rfl Q50.callee rfl rfl rfl (Q50.spec hr0 rfl hc0 D) ?_; rintro _ _ ⟨rfl, rfl⟩; refine At.run 1 rfl (nT ?_); rcases bite j with ⟨q, j⟩ | ⟨q, j⟩
 ··refine At.condF rfl (nf q) ?_
   refine At.skip (At.thn (sR 1 rfl ?_)); obtain ⟨V, E, j⟩ := bbind j; refine At.call rfl Q49.callee rfl rfl rfl (Q49.spec hr0 rfl hc0 E) ?_; rintro _ _ ⟨X, Z, a1, a2, G, I, a3, a4, a5, a6, rfl, rfl, rfl⟩; refine At.run 2 rfl (At.y (Y.load rfl rfl .z rfl rfl rfl) rfl rfl rfl (At.run 1 rfl (nT (At.ret ?_)))); refine At.rowLen (.s (.s .z)) fun J => ?_; refine At.drop .z (At.drop .z (At.drop (.s .z) (At.drop (.s .z) ?_))); cases bret j; exact At.res (.inl rfl) rfl rfl ⟨(List.replicate (a0.length : Int).toNat (0 : Int)).length, G, I, rfl, rfl, J⟩
 ··refine At.condT rfl (nt (bn q)) ?_
   refine sR 1 rfl (nT (At.ret (At.thr ?_))); refine At.nilRow (Fl.int .i64) 3 ?_; cases bret j; exact At.res (.inl rfl) rfl rfl ⟨0, none, 0, rfl, rfl, rfl⟩

noncomputable def Q127.f (p : Int) (q : List (Bs × Q4)) (u : List (Q9 × Q4)) : Option Int :=
 some p
theorem Q127.callee : Callee Tryz.prog 47 := ⟨_, Tryz.func47, by kernel_rfl, by kernel_rfl⟩
theorem Q127.spec {p : Int} {q : List (Bs × Q4)} {u : List (Q9 × Q4)} {r : Int} (j : Q127.f p q u = some r) :
 Spec Tryz.prog 47 [bp b0] R (pc b0 [i6 p, .map (some b0_1), .map (some b0_2)] 82 :: mapo Fl.bs.ov Q4.fl.av b0_1 q :: mapo Q9.fl.av Q4.fl.av b0_2 u :: Fr) (fun v l' => v = i6 r ∧ pc b0 [i6 p, .map (some b0_1), .map (some b0_2)] 82 :: mapo Fl.bs.ov Q4.fl.av b0_1 q :: mapo Q9.fl.av Q4.fl.av b0_2 u :: Fr = l') := by
 refine Spec.of Tryz.func47 rfl rfl ?_; unfold Q127.f at j; have j := brun j; refine sR 1 rfl (nT (sR 3 rfl ?_)); refine At.y (Y.load rfl rfl .z rfl rfl rfl) rfl rfl rfl (At.run 1 rfl (nT (At.ret ?_))); cases bret j; exact At.res (.inl rfl) rfl rfl ⟨rfl, rfl⟩



noncomputable def Q133.f (q : Int) (p : List (Bs × Q4)) (u : List (Q9 × Q4)) (a1 : Bs) : Option (Int × Int × Int × Int) :=
 some (((mget p a1).getD (⟨(0 : Int), (0 : Int), (0 : Int), (0 : Int)⟩ : Q4)).c0, ((mget p a1).getD (⟨(0 : Int), (0 : Int), (0 : Int), (0 : Int)⟩ : Q4)).c1, ((mget p a1).getD (⟨(0 : Int), (0 : Int), (0 : Int), (0 : Int)⟩ : Q4)).c2, ((mget p a1).getD (⟨(0 : Int), (0 : Int), (0 : Int), (0 : Int)⟩ : Q4)).c3)
theorem Q133.callee : Callee Tryz.prog 19 := ⟨_, Tryz.func19, by kernel_rfl, by kernel_rfl⟩
theorem Q133.spec {p : Int} {q : List (Bs × Q4)} {u : List (Q9 × Q4)} {a1 : Bs} {r : Int × Int × Int × Int} (j : Q133.f p q u a1 = some r) :
 Spec Tryz.prog 19 [bp b0, .string ⟨(a1).toArray⟩] R (pc b0 [i6 p, .map (some b0_1), .map (some b0_2)] 82 :: mapo Fl.bs.ov Q4.fl.av b0_1 q :: mapo Q9.fl.av Q4.fl.av b0_2 u :: Fr) (fun v l' => v = .agg #[.int .u64 r.1, .int .u64 r.2.1, .int .u64 r.2.2.1, .int .u64 r.2.2.2] ∧ pc b0 [i6 p, .map (some b0_1), .map (some b0_2)] 82 :: mapo Fl.bs.ov Q4.fl.av b0_1 q :: mapo Q9.fl.av Q4.fl.av b0_2 u :: Fr = l') := by
 refine Spec.of Tryz.func19 rfl rfl ?_; unfold Q133.f at j; have j := brun j; refine At.seq (At.region ?_); refine At.alloc rfl rfl rfl (fun C => ?_); refine nT (sR 3 rfl (At.y (Y.load rfl rfl (.s .z) rfl rfl rfl) rfl rfl rfl (At.run 1 rfl ?_))); refine At.y (Y.lookup (k := a1) (z := (⟨(0 : Int), (0 : Int), (0 : Int), (0 : Int)⟩ : Q4)) (.s (.s .z)) rfl rfl (KeyOk.str rfl rfl) (by kernel_rfl) rfl rfl rfl) rfl rfl rfl ?_; refine At.store rfl rfl rfl rfl .z rfl rfl rfl (.c (.c (.c (.c .n)))) ?_; refine nT (At.ret ?_); refine At.resM (.inl rfl) rfl (RV.cell rfl rfl .z rfl rfl rfl RV.nil) ?_; refine At.drop .z ?_; cases bret j; exact fun a w e hs => ⟨_, ⟨rfl, rfl⟩, hs⟩



end Go.Bw
namespace Go.Bw
open Go Go.RowKit

section
variable {P : Program} [Tys P] {n : Nat} {ds : List Deferred} {R : Res} {env : List (Nat × Value)} {l : List HProp} {d ty t e : Nat} {pos : String} {af : Array Edge} {g : Option (Nat × Bool)} {dd : Option Nat}
theorem Y.ixTab {x y : Operand} {i : Int} {k kk : IntKind} {m b : Nat} {ii j : TI} (hi : ti P t = some ii) (hk : ii.k = .array m e) (hx : ev env x = some (.pointer (some ⟨b, 0, none⟩))) (hy : ev env y = some (.int k i)) (hj : ti P e = some j) (hjs : j.size = 1) (h0 : 0 ≤ i) (h1 : i < (m : Int)) :
 Y P n ds R env l ⟨dd, .indexAddr t x y, ty, pos, af, g⟩ (elp (some ⟨b, 0, none⟩) (i.toNat * (Fl.int kk).sz)) := fun a' w e0 hs => by
 have := Y.ixArr (P := P) (n := n) (ds := ds) (R := R) (l := l) (ty := ty) (pos := pos) (af := af) (g := g) (dd := dd) hi hk hx hy hj h0 h1 a' w e0 hs
 rw [hjs] at this
 exact this
end
theorem Q324 {W : World} {b : Nat} {k : IntKind} {tab : List Int} (h : ∀ i : Nat, i < tab.length → W.cell? ⟨b, i, none⟩ = some (.int k (tab.getD i 0))) : RdS (Fl.int k).rep (wh W) (some ⟨b, 0, none⟩) tab := fun i x hx => by
 have hi : i < tab.length := (List.getElem?_eq_some_iff.1 hx).1
 have hd : tab.getD i 0 = x := by rw [List.getD_eq_getElem?_getD, hx]; rfl
 refine ⟨_, _, rfl, rfl, fun j u hu => ?_⟩
 have hj : j = 0 := by
  have : j < 1 := (List.getElem?_eq_some_iff.1 hu).1
  omega
 subst hj
 have hu' : Value.int k x = u := by simpa [Fl.int] using hu
 subst hu'
 have hc := h i hi
 rw [hd] at hc
 simp only [World.cell?] at hc
 have ha : ((⟨b, 0, none⟩ : Addr).add (i * (Fl.int k).rep.sz)).add 0 = ⟨b, i, none⟩ := by
  rw [Q118, Q114]
  simp [show (Fl.int k).rep.sz = 1 from rfl]
 rw [ha]
 dsimp only at hc ⊢
 unfold wh
 cases hb : W.heap[b]? with
 | none => rw [hb] at hc; cases hc
 | some o =>
  rw [hb] at hc
  cases o with
  | cells arr ee fr => exact ⟨arr, ee, fr, rfl, rfl, by simpa using hc⟩
  | _ => simp at hc
end Go.Bw
namespace Go.Bw
open Go Go.RowKit

section
variable {α : Type} {P : Program} [Tys P] {os : List Oper} {Q : Exit → Act → World → Prop} {rest : List Oper} {n : Nat} {ds : List Deferred} {R : Res} {env : List (Nat × Value)} {l l' : List HProp}
variable {d ty t e : Nat} {pos : String} {af : Array Edge} {g : Option (Nat × Bool)}
theorem At.make0 (F : Fl α) {x y : Operand} {m : Int} {k k' : IntKind} {bytes : Nat} {ii j : TI} (hg : grd os env g = some true) (hi : ti P t = some ii) (hk : ii.k = .slice e) (hj : ti P e = some j) (hjs : j.size = F.sz) (hjb : j.bytes = bytes) (hjz : j.zero.length = j.size)
 (hx : ev env x = some (.int k 0)) (hy : ev env y = some (.int k' m)) (h0 : 0 ≤ m) (h1 : (bytes : Int) * m ≤ 281474976710656) (hb0 : 0 < bytes) (hd : Nat.blt d n = true)
 (h : ∀ A c, At n ds R ((d, .slice A ([] : List α).length c) :: env) (row F e A ([] : List α).length c ([] : List α) :: l) (wpList P os.toArray Q rest)) :
 At n ds R env l (wpList P os.toArray Q (⟨some d, .makeSlice t x y, ty, pos, af, g⟩ :: rest)) := Q88 hg rfl hd fun a w e0 hs => by
 obtain ⟨xi, zv, hxi, hsz, hby, hze, hzc⟩ := (Q13 hj).info
 have hm : m ≤ 9223372036854775807 := by
  have := Int.mul_le_mul_of_nonneg_right (show (1 : Int) ≤ (bytes : Int) by omega) h0
  omega
 have hm2 : m ≤ 281474976710656 := by
  have := Int.mul_le_mul_of_nonneg_right (show (1 : Int) ≤ (bytes : Int) by omega) h0
  omega
 have hr := run_make (P := P) w t e xi zv ((Q13 hi).slice hk) hxi hze k k' 0 m (Int.le_refl _) h0 (by rw [hby, hjb]; exact h1) hm
 refine ⟨.slice (some ⟨w.heap.size, 0, none⟩) 0 m.toNat, w.alloc (.cells (madeCells zv.cells (m.toNat * xi.size)) e), row F e (some ⟨w.heap.size, 0, none⟩) 0 m.toNat ([] : List α) :: l, ?_, ?_, h (some ⟨w.heap.size, 0, none⟩) m.toNat⟩
 ·simp only [execOp, e0.ev hx, e0.ev hy, Sem.run_bind, hr, Result.andThen, Sem.run_pure]; rfl
 ·refine (hs.alloc _).imp fun h' o => ?_
  refine ⟨by simp, .inr ⟨w.heap.size, _, rfl, o, by simp, by simp only [maxLen]; omega, ?_, by simp⟩⟩
  simp [madeCells, hsz, hjs]
end
end Go.Bw
namespace Go.Bw
open Go Go.RowKit Go.Proofs
variable {R : Res} {Fr : List HProp}
noncomputable def Q21.o1 (x : Int) : Int := IntKind.u64.wrap (band .u64 (Bw.shr .u64 x 1) 6148914691236517205 + band .u64 x 6148914691236517205)
noncomputable def Q21.o2 (x : Int) : Int := IntKind.u64.wrap (band .u64 (Bw.shr .u64 x 2) 3689348814741910323 + band .u64 x 3689348814741910323)
noncomputable def Q21.o3 (x : Int) : Int := band .u64 (IntKind.u64.wrap (Bw.shr .u64 x 4 + x)) 1085102592571150095
noncomputable def Q21.o4 (x : Int) : Int := IntKind.u64.wrap (x + Bw.shr .u64 x 8)
noncomputable def Q21.o5 (x : Int) : Int := IntKind.u64.wrap (x + Bw.shr .u64 x 16)
noncomputable def Q21.o6 (x : Int) : Int := IntKind.u64.wrap (x + Bw.shr .u64 x 32)
noncomputable def Q21.f (a0 : Int) : Option Int := some (band .i64 (IntKind.i64.wrap (Q21.o6 (Q21.o5 (Q21.o4 (Q21.o3 (Q21.o2 (Q21.o1 a0))))))) 127)
theorem Q21.callee : Callee Tryz.prog 53 := ⟨_, Tryz.func53, by kernel_rfl, by kernel_rfl⟩
theorem Q21.spec {a0 : Int} {r : Int} (j : Q21.f a0 = some r) :
 Spec Tryz.prog 53 [.int .u64 a0] R (Fr) (fun v l' => v = i6 r ∧ Fr = l') := by
 refine Spec.of Tryz.func53 rfl rfl ?_; unfold Q21.f at j; refine sR 1 rfl (nT (sR 1 rfl ?_)); refine At.y (Y.shr rfl rfl (by decide)) rfl rfl rfl (At.run 5 rfl (nT ?_)); refine At.sub (env' := [(0, .int .u64 (Q21.o1 a0))]) ⟨rfl, trivial⟩ ?_; generalize Q21.o1 a0 = z1 at j ⊢; refine sR 1 rfl (At.y (Y.shr rfl rfl (by decide)) rfl rfl rfl (At.run 5 rfl (nT ?_))); refine At.sub (env' := [(0, .int .u64 (Q21.o2 z1))]) ⟨rfl, trivial⟩ ?_; generalize Q21.o2 z1 = z2 at j ⊢; refine sR 1 rfl (At.y (Y.shr rfl rfl (by decide)) rfl rfl rfl (At.run 4 rfl (nT ?_))); refine At.sub (env' := [(0, .int .u64 (Q21.o3 z2))]) ⟨rfl, trivial⟩ ?_; generalize Q21.o3 z2 = z3 at j ⊢; refine sR 2 rfl (At.y (Y.shr rfl rfl (by decide)) rfl rfl rfl (At.run 2 rfl (nT ?_))); refine At.sub (env' := [(0, .int .u64 (Q21.o4 z3))]) ⟨rfl, trivial⟩ ?_; generalize Q21.o4 z3 = z4 at j ⊢; refine sR 2 rfl (At.y (Y.shr rfl rfl (by decide)) rfl rfl rfl (At.run 2 rfl (nT ?_))); refine At.sub (env' := [(0, .int .u64 (Q21.o5 z4))]) ⟨rfl, trivial⟩ ?_; generalize Q21.o5 z4 = z5 at j ⊢; refine sR 2 rfl (At.y (Y.shr rfl rfl (by decide)) rfl rfl rfl (At.run 2 rfl (nT ?_))); refine At.sub (env' := [(0, .int .u64 (Q21.o6 z5))]) ⟨rfl, trivial⟩ ?_; generalize Q21.o6 z5 = z6 at j ⊢; refine sR 4 rfl (nT (At.ret ?_)); obtain rfl := Option.some.inj j; exact At.res (.inl rfl) rfl rfl ⟨rfl, rfl⟩

noncomputable def Q136.f (p q u C : Int) : Option Int :=
 (Q21.f p).bind fun D =>
 (Q21.f q).bind fun E =>
 (Q21.f u).bind fun G =>
 (Q21.f C).bind fun I =>
 some (IntKind.i64.wrap (IntKind.i64.wrap (IntKind.i64.wrap (IntKind.i64.wrap (0 + D) + E) + G) + I))
theorem Q136.callee : Callee Tryz.prog 27 := ⟨_, Tryz.func27, by kernel_rfl, by kernel_rfl⟩
theorem Q136.spec {p q u C : Int} {r : Int} (j : Q136.f p q u C = some r) :
 Spec Tryz.prog 27 [.agg #[.int .u64 p, .int .u64 q, .int .u64 u, .int .u64 C]] R (Fr) (fun v l' => v = i6 r ∧ Fr = l') := by
 refine Spec.of Tryz.func27 rfl rfl ?_; unfold Q136.f at j; have j := brun j; refine At.seq (At.region ?_); refine At.box rfl rfl (cs := [.int .u64 p, .int .u64 q, .int .u64 u, .int .u64 C]) rfl rfl (fun J => ?_); refine At.run 1 rfl (nT (sR 1 rfl (nT ?_))); refine At.seq (At.seq (At.region (At.y (Y.load rfl rfl .z rfl rfl rfl) rfl rfl rfl (At.run 1 rfl (nT ?_))))); refine At.block ?_; refine At.rounds 5 ?_; refine At.round ?_; refine sR 1 rfl (nT (At.seq ?_)); refine At.condT rfl rfl ?_; refine At.skip (At.thn (At.seq ?_)); refine At.block ?_; refine At.seq (At.region ?_); refine At.y (Y.ixA rfl rfl rfl rfl rfl (show (0 : Int) ≤ 0 ∧ (0 : Int) < 4 by decide).1 (show (0 : Int) ≤ 0 ∧ (0 : Int) < 4 by decide).2 rfl) rfl rfl rfl ?_; refine At.run 1 rfl (nT (At.region (At.run 2 rfl ?_))); obtain ⟨U, D, j⟩ := bbind j; refine At.call rfl Q21.callee rfl rfl rfl (Q21.spec D) ?_; rintro _ _ ⟨rfl, rfl⟩; refine At.run 2 rfl (At.nil ?_); refine At.ibn ?_; refine At.thn (At.region (At.run 2 rfl (nT ?_))); refine At.round ?_; refine sR 1 rfl (nT (At.seq ?_)); refine At.condT rfl rfl ?_; refine At.skip (At.thn (At.seq ?_)); refine At.block ?_; refine At.seq (At.region ?_); refine At.y (Y.ixA rfl rfl rfl rfl rfl (show (0 : Int) ≤ 1 ∧ (1 : Int) < 4 by decide).1 (show (0 : Int) ≤ 1 ∧ (1 : Int) < 4 by decide).2 rfl) rfl rfl rfl ?_; refine At.run 1 rfl (nT (At.region (At.run 2 rfl ?_))); obtain ⟨V, E, j⟩ := bbind j; refine At.call rfl Q21.callee rfl rfl rfl (Q21.spec E) ?_; rintro _ _ ⟨rfl, rfl⟩; refine At.run 2 rfl (At.nil ?_); refine At.ibn ?_; refine At.thn (At.region (At.run 2 rfl (nT ?_))); refine At.round ?_; refine sR 1 rfl (nT (At.seq ?_)); refine At.condT rfl rfl ?_; refine At.skip (At.thn (At.seq ?_)); refine At.block ?_; refine At.seq (At.region ?_); refine At.y (Y.ixA rfl rfl rfl rfl rfl (show (0 : Int) ≤ 2 ∧ (2 : Int) < 4 by decide).1 (show (0 : Int) ≤ 2 ∧ (2 : Int) < 4 by decide).2 rfl) rfl rfl rfl ?_; refine At.run 1 rfl (nT (At.region (At.run 2 rfl ?_))); obtain ⟨X, G, j⟩ := bbind j; refine At.call rfl Q21.callee rfl rfl rfl (Q21.spec G) ?_; rintro _ _ ⟨rfl, rfl⟩; refine At.run 2 rfl (At.nil ?_); refine At.ibn ?_; refine At.thn (At.region (At.run 2 rfl (nT ?_))); refine At.round ?_; refine sR 1 rfl (nT (At.seq ?_)); refine At.condT rfl rfl ?_; refine At.skip (At.thn (At.seq ?_)); refine At.block ?_; refine At.seq (At.region ?_); refine At.y (Y.ixA rfl rfl rfl rfl rfl (show (0 : Int) ≤ 3 ∧ (3 : Int) < 4 by decide).1 (show (0 : Int) ≤ 3 ∧ (3 : Int) < 4 by decide).2 rfl) rfl rfl rfl ?_; refine At.run 1 rfl (nT (At.region (At.run 2 rfl ?_))); obtain ⟨Z, I, j⟩ := bbind j; refine At.call rfl Q21.callee rfl rfl rfl (Q21.spec I) ?_; rintro _ _ ⟨rfl, rfl⟩; refine At.run 2 rfl (At.nil ?_); refine At.ibn ?_; refine At.thn (At.region (At.run 2 rfl (nT ?_))); refine At.round ?_; refine sR 1 rfl (nT (At.seq ?_)); refine At.condF rfl rfl ?_; refine At.exit ?_; refine At.the ?_; refine At.the ?_; refine At.ibx ?_; refine At.thn (sR 2 rfl (nT (At.ret (At.drop .z ?_)))); cases bret j; exact At.res (.inl rfl) rfl rfl ⟨rfl, rfl⟩

noncomputable def Q26.ix (a0 : Int) : Int := Bw.shr .u64 (IntKind.u64.wrap ((band .u64 a0 (IntKind.u64.wrap (0 - a0))) * 285870213051353865)) 58
noncomputable def Q26.f (a0 : Int) : Option Int :=
 if a0 = 0 then
 some 64
 else
 if (0 : Int) ≤ Q26.ix a0 ∧ Q26.ix a0 < (64 : Int) then
 some (IntKind.i64.wrap (gt Tryz.gtab0 (Q26.ix a0)))
 else none
theorem Q26.callee : Callee Tryz.prog 36 := ⟨_, Tryz.func36, by kernel_rfl, by kernel_rfl⟩
theorem Q26.spec {a0 : Int} (hg0 : RdS (Fl.int .u8).rep R.heap (some ⟨0, 0, none⟩) Tryz.gtab0) {r : Int} (j : Q26.f a0 = some r) :
 Spec Tryz.prog 36 [.int .u64 a0] R (Fr) (fun v l' => v = i6 r ∧ Fr = l') := by
 refine Spec.of Tryz.func36 rfl rfl ?_; unfold Q26.f at j; have j := brun j; have hlen : Tryz.gtab0.length = 64 := rfl; generalize Tryz.gtab0 = tab at hg0 j hlen; obtain ⟨A, hA⟩ : ∃ A : Option Addr, (some ⟨0, 0, none⟩ : Option Addr) = A := ⟨_, rfl⟩; rw [hA] at hg0; refine sR 1 rfl (nT (At.seq (At.seq (At.region ?_)))); refine At.run 2 rfl (nT ?_); rcases bite j with ⟨u, j⟩ | ⟨u, j⟩
 ··refine At.condT rfl (decide_eq_true u) ?_
   refine sR 1 rfl (nT (At.ret (At.thr ?_))); cases bret j; exact At.res (.inl rfl) rfl rfl ⟨rfl, rfl⟩
 ··refine At.condF rfl (decide_eq_false u) ?_
   refine At.skip (At.thn (sR 5 rfl (At.y (Y.shr rfl rfl (by decide)) rfl rfl rfl ?_))); refine At.sub (env' := [(10, .int .u64 (Q26.ix a0))]) ⟨rfl, trivial⟩ ?_; generalize Q26.ix a0 = q at j ⊢; obtain ⟨p, j⟩ := bnone j; refine At.y (v := elp A (q.toNat * (Fl.int .u8).sz)) (by rw [← hA]; exact Y.ixTab (kk := .u8) rfl rfl rfl rfl rfl rfl p.1 p.2) rfl rfl rfl ?_; refine At.y (v := .int .u8 (gt tab q)) (Y.ldFl (ii := Tryz.ti5) hg0 hlen (i := q) (q := 0) rfl ?_ p.1 p.2 ?_ ?_ ?_) rfl rfl rfl ?_
   ·exact congrArg (fun k => some (elp A k)) (Nat.add_zero _).symm
   ·rfl
   ·rfl
   ·rfl
   refine At.run 2 rfl (nT (At.ret ?_)); cases bret j; exact At.res (.inl rfl) rfl rfl ⟨rfl, rfl⟩

noncomputable def Q19.l3b  (q : List Int) (p : Int) : Option (((List Int) × Int) ⊕ (((List Int)) ⊕ ((List Int)))) :=
 if p = 0 then
 dn (.inl q)
 else
 (Q26.f p).bind fun u =>
 if (q.length + ([(IntKind.i64.wrap (192 + u))] : List Int).length) * 8 ≤ 140737488355328 then
 nx ((q ++ ([(IntKind.i64.wrap (192 + u))] : List Int)), band .u64 p (IntKind.u64.wrap (p - 1)))
 else none
noncomputable def Q19.l3  (p : List Int) (q : Int) : Option (((List Int)) ⊕ ((List Int))) := iter (fun t_ : (List Int) × Int => Q19.l3b  t_.1 t_.2) (p, q)
noncomputable def Q19.l2b  (q : List Int) (p : Int) : Option (((List Int) × Int) ⊕ (((List Int)) ⊕ ((List Int)))) :=
 if p = 0 then
 dn (.inl q)
 else
 (Q26.f p).bind fun u =>
 if (q.length + ([(IntKind.i64.wrap (128 + u))] : List Int).length) * 8 ≤ 140737488355328 then
 nx ((q ++ ([(IntKind.i64.wrap (128 + u))] : List Int)), band .u64 p (IntKind.u64.wrap (p - 1)))
 else none
noncomputable def Q19.l2  (p : List Int) (q : Int) : Option (((List Int)) ⊕ ((List Int))) := iter (fun t_ : (List Int) × Int => Q19.l2b  t_.1 t_.2) (p, q)
noncomputable def Q19.l1b  (q : List Int) (p : Int) : Option (((List Int) × Int) ⊕ (((List Int)) ⊕ ((List Int)))) :=
 if p = 0 then
 dn (.inl q)
 else
 (Q26.f p).bind fun u =>
 if (q.length + ([(IntKind.i64.wrap (64 + u))] : List Int).length) * 8 ≤ 140737488355328 then
 nx ((q ++ ([(IntKind.i64.wrap (64 + u))] : List Int)), band .u64 p (IntKind.u64.wrap (p - 1)))
 else none
noncomputable def Q19.l1  (p : List Int) (q : Int) : Option (((List Int)) ⊕ ((List Int))) := iter (fun t_ : (List Int) × Int => Q19.l1b  t_.1 t_.2) (p, q)
noncomputable def Q19.l0b  (q : List Int) (p : Int) : Option (((List Int) × Int) ⊕ (((List Int)) ⊕ ((List Int)))) :=
 if p = 0 then
 dn (.inl q)
 else
 (Q26.f p).bind fun u =>
 if (q.length + ([(IntKind.i64.wrap (0 + u))] : List Int).length) * 8 ≤ 140737488355328 then
 nx ((q ++ ([(IntKind.i64.wrap (0 + u))] : List Int)), band .u64 p (IntKind.u64.wrap (p - 1)))
 else none
noncomputable def Q19.l0  (p : List Int) (q : Int) : Option (((List Int)) ⊕ ((List Int))) := iter (fun t_ : (List Int) × Int => Q19.l0b  t_.1 t_.2) (p, q)
noncomputable def Q19.f (p q u C : Int) : Option (List Int) :=
 (Q136.f p q u C).bind fun D =>
 if (0 : Int) ≤ D ∧ (8 : Int) * D ≤ 281474976710656 then
 jn (Q19.l0  ([] : List Int) p) (fun (E : List Int) =>
 jn (Q19.l1  E q) (fun (G : List Int) =>
 jn (Q19.l2  G u) (fun (I : List Int) =>
 jn (Q19.l3  I C) (fun (J : List Int) =>
 some J))))
 else none
theorem Q19.callee : Callee Tryz.prog 15 := ⟨_, Tryz.func15, by kernel_rfl, by kernel_rfl⟩
theorem Q19.spec {p q u C : Int} (hg0 : RdS (Fl.int .u8).rep R.heap (some ⟨0, 0, none⟩) Tryz.gtab0) {r : (List Int)} (j : Q19.f p q u C = some r) :
 Spec Tryz.prog 15 [.agg #[.int .u64 p, .int .u64 q, .int .u64 u, .int .u64 C]] R (Fr) (fun v l' => ∃ (a0 : Nat) (d0 : Option Addr) (d1 : Nat), v = .slice d0 a0 d1 ∧ row (Fl.int .i64) 3 d0 a0 d1 r :: Fr = l' ∧ r.length = a0) := by
 refine Spec.of Tryz.func15 rfl rfl ?_; unfold Q19.f at j; have j := brun j; refine At.seq (At.region ?_); refine At.box rfl rfl (cs := [.int .u64 p, .int .u64 q, .int .u64 u, .int .u64 C]) rfl rfl (fun d8 => ?_); refine At.run 1 rfl (nT (At.seq (At.region (At.y (Y.load rfl rfl .z rfl rfl rfl) rfl rfl rfl ?_)))); obtain ⟨p0, d9, j⟩ := bbind j; refine At.call rfl Q136.callee rfl rfl rfl (Q136.spec d9) ?_; rintro _ _ ⟨rfl, rfl⟩; obtain ⟨d2, j⟩ := bnone j; refine At.make0 (Fl.int .i64) rfl rfl rfl rfl rfl rfl rfl rfl rfl d2.1 d2.2 (by decide) rfl (fun e1 e2 => ?_); refine At.run 1 rfl (nT (At.seq (At.seq (At.region (At.y (Y.load rfl rfl (.s .z) rfl rfl rfl) rfl rfl rfl (At.run 1 rfl ?_)))))); refine nT ?_; refine At.block ?_; refine At.rounds 5 ?_; refine At.round ?_; refine sR 1 rfl (nT (At.seq ?_)); refine At.condT rfl rfl ?_; refine At.skip (At.thn (At.seq ?_)); refine At.block ?_; refine sR 1 rfl ?_; refine At.y (Y.ixA rfl rfl rfl rfl rfl (show (0 : Int) ≤ 0 ∧ (0 : Int) < 4 by decide).1 (show (0 : Int) ≤ 0 ∧ (0 : Int) < 4 by decide).2 rfl) rfl rfl rfl ?_; refine At.run 2 rfl (nT ?_); refine At.block ?_; obtain ⟨e3, e4, p1, j⟩ := bjoin j; obtain ⟨d3, a1, e5⟩ := bsome j; clear j; unfold Q19.l0 at a1; obtain ⟨a2, J⟩ := Q15.1 a1; clear a1; let T1 : HProp := pc d8 [.int .u64 p, .int .u64 q, .int .u64 u, .int .u64 C] 35; refine At.loopJ (X := (List Int) × Int × Nat × (Option Addr) × Nat) (Y := (List Int) × Nat × (Option Addr) × Nat) (e0 := 2) (fun s_ => [(3, .slice s_.2.2.2.1 s_.2.2.1 s_.2.2.2.2), (4, i6 0), (5, .int .u64 s_.2.1), (9, .agg #[.int .u64 p, .int .u64 q, .int .u64 u, .int .u64 C]), (10, i6 0)]) (fun s_ => row (Fl.int .i64) 3 s_.2.2.2.1 s_.2.2.1 s_.2.2.2.2 s_.1 :: T1 :: Fr) (fun m_ => fun s_ => iterN (fun t_ : (List Int) × Int => Q19.l0b  t_.1 t_.2) m_ (s_.1, s_.2.1) = some d3 ∧ s_.1.length = s_.2.2.1) a2 (([] : List Int), p, ([] : List Int).length, e1, e2) ⟨J, rfl⟩ (fun s_ => [(3, .slice s_.2.2.1 s_.2.1 s_.2.2.2), (9, .agg #[.int .u64 p, .int .u64 q, .int .u64 u, .int .u64 C]), (10, i6 0)]) (fun s_ => row (Fl.int .i64) 3 s_.2.2.1 s_.2.1 s_.2.2.2 s_.1 :: T1 :: Fr) (fun s_ => e3 (.inl s_.1) = some r ∧ s_.1.length = s_.2.1) (fun a w e hs => ⟨e.sub ⟨rfl, rfl, rfl, rfl, rfl, trivial⟩, (by exact hs)⟩) ?_ (fun e6 => ?_)
 ·rintro ⟨a3, e7, e8, e9⟩ ⟨j, f0⟩; obtain rfl : a3.length = e7 := f0; have j := (e4 _).symm.trans j
  ·refine At.ibx ?_; refine At.ibn ?_; refine At.thn (At.region (At.run 2 rfl (nT ?_))); refine At.round ?_; refine sR 1 rfl (nT (At.seq ?_)); refine At.condT rfl rfl ?_; refine At.skip (At.thn (At.seq ?_)); refine At.block ?_; refine sR 1 rfl ?_; refine At.y (Y.ixA rfl rfl rfl rfl rfl (show (0 : Int) ≤ 1 ∧ (1 : Int) < 4 by decide).1 (show (0 : Int) ≤ 1 ∧ (1 : Int) < 4 by decide).2 rfl) rfl rfl rfl ?_; refine At.run 2 rfl (nT ?_); refine At.block ?_; obtain ⟨f1, f2, p2, j⟩ := bjoin j; obtain ⟨d4, a4, f3⟩ := bsome j; clear j; unfold Q19.l1 at a4; obtain ⟨a5, U⟩ := Q15.1 a4; clear a4; refine At.loopJ (X := (List Int) × Int × Nat × (Option Addr) × Nat) (Y := (List Int) × Nat × (Option Addr) × Nat) (e0 := 2) (fun s_ => [(3, .slice s_.2.2.2.1 s_.2.2.1 s_.2.2.2.2), (4, i6 1), (5, .int .u64 s_.2.1), (9, .agg #[.int .u64 p, .int .u64 q, .int .u64 u, .int .u64 C]), (10, i6 1)]) (fun s_ => row (Fl.int .i64) 3 s_.2.2.2.1 s_.2.2.1 s_.2.2.2.2 s_.1 :: T1 :: Fr) (fun m_ => fun s_ => iterN (fun t_ : (List Int) × Int => Q19.l1b  t_.1 t_.2) m_ (s_.1, s_.2.1) = some d4 ∧ s_.1.length = s_.2.2.1) a5 (a3, q, a3.length, e8, e9) ⟨U, rfl⟩ (fun s_ => [(3, .slice s_.2.2.1 s_.2.1 s_.2.2.2), (9, .agg #[.int .u64 p, .int .u64 q, .int .u64 u, .int .u64 C]), (10, i6 1)]) (fun s_ => row (Fl.int .i64) 3 s_.2.2.1 s_.2.1 s_.2.2.2 s_.1 :: T1 :: Fr) (fun s_ => f1 (.inl s_.1) = some r ∧ s_.1.length = s_.2.1) (fun a w e hs => ⟨e.sub ⟨rfl, rfl, rfl, rfl, rfl, trivial⟩, (by exact hs)⟩) ?_ (fun f4 => ?_)
   ·rintro ⟨a6, f5, f6, f7⟩ ⟨j, f8⟩; obtain rfl : a6.length = f5 := f8; have j := (f2 _).symm.trans j
    ·refine At.ibx ?_; refine At.ibn ?_; refine At.thn (At.region (At.run 2 rfl (nT ?_))); refine At.round ?_; refine sR 1 rfl (nT (At.seq ?_)); refine At.condT rfl rfl ?_; refine At.skip (At.thn (At.seq ?_)); refine At.block ?_; refine sR 1 rfl ?_; refine At.y (Y.ixA rfl rfl rfl rfl rfl (show (0 : Int) ≤ 2 ∧ (2 : Int) < 4 by decide).1 (show (0 : Int) ≤ 2 ∧ (2 : Int) < 4 by decide).2 rfl) rfl rfl rfl ?_; refine At.run 2 rfl (nT ?_); refine At.block ?_; obtain ⟨f9, g0, p3, j⟩ := bjoin j; obtain ⟨d5, a7, g1⟩ := bsome j; clear j; unfold Q19.l2 at a7; obtain ⟨a8, V⟩ := Q15.1 a7; clear a7; refine At.loopJ (X := (List Int) × Int × Nat × (Option Addr) × Nat) (Y := (List Int) × Nat × (Option Addr) × Nat) (e0 := 2) (fun s_ => [(3, .slice s_.2.2.2.1 s_.2.2.1 s_.2.2.2.2), (4, i6 2), (5, .int .u64 s_.2.1), (9, .agg #[.int .u64 p, .int .u64 q, .int .u64 u, .int .u64 C]), (10, i6 2)]) (fun s_ => row (Fl.int .i64) 3 s_.2.2.2.1 s_.2.2.1 s_.2.2.2.2 s_.1 :: T1 :: Fr) (fun m_ => fun s_ => iterN (fun t_ : (List Int) × Int => Q19.l2b  t_.1 t_.2) m_ (s_.1, s_.2.1) = some d5 ∧ s_.1.length = s_.2.2.1) a8 (a6, u, a6.length, f6, f7) ⟨V, rfl⟩ (fun s_ => [(3, .slice s_.2.2.1 s_.2.1 s_.2.2.2), (9, .agg #[.int .u64 p, .int .u64 q, .int .u64 u, .int .u64 C]), (10, i6 2)]) (fun s_ => row (Fl.int .i64) 3 s_.2.2.1 s_.2.1 s_.2.2.2 s_.1 :: T1 :: Fr) (fun s_ => f9 (.inl s_.1) = some r ∧ s_.1.length = s_.2.1) (fun a w e hs => ⟨e.sub ⟨rfl, rfl, rfl, rfl, rfl, trivial⟩, (by exact hs)⟩) ?_ (fun g2 => ?_)
     ·rintro ⟨a9, g3, g4, g5⟩ ⟨j, g6⟩; obtain rfl : a9.length = g3 := g6; have j := (g0 _).symm.trans j
      ·refine At.ibx ?_; refine At.ibn ?_; refine At.thn (At.region (At.run 2 rfl (nT ?_))); refine At.round ?_; refine sR 1 rfl (nT (At.seq ?_)); refine At.condT rfl rfl ?_; refine At.skip (At.thn (At.seq ?_)); refine At.block ?_; refine sR 1 rfl ?_; refine At.y (Y.ixA rfl rfl rfl rfl rfl (show (0 : Int) ≤ 3 ∧ (3 : Int) < 4 by decide).1 (show (0 : Int) ≤ 3 ∧ (3 : Int) < 4 by decide).2 rfl) rfl rfl rfl ?_; refine At.run 2 rfl (nT ?_); refine At.block ?_; obtain ⟨g7, g8, p4, j⟩ := bjoin j; obtain ⟨d6, b2, g9⟩ := bsome j; clear j; unfold Q19.l3 at b2; obtain ⟨b3, Z⟩ := Q15.1 b2; clear b2; refine At.loopJ (X := (List Int) × Int × Nat × (Option Addr) × Nat) (Y := (List Int) × Nat × (Option Addr) × Nat) (e0 := 2) (fun s_ => [(3, .slice s_.2.2.2.1 s_.2.2.1 s_.2.2.2.2), (4, i6 3), (5, .int .u64 s_.2.1), (9, .agg #[.int .u64 p, .int .u64 q, .int .u64 u, .int .u64 C]), (10, i6 3)]) (fun s_ => row (Fl.int .i64) 3 s_.2.2.2.1 s_.2.2.1 s_.2.2.2.2 s_.1 :: T1 :: Fr) (fun m_ => fun s_ => iterN (fun t_ : (List Int) × Int => Q19.l3b  t_.1 t_.2) m_ (s_.1, s_.2.1) = some d6 ∧ s_.1.length = s_.2.2.1) b3 (a9, C, a9.length, g4, g5) ⟨Z, rfl⟩ (fun s_ => [(3, .slice s_.2.2.1 s_.2.1 s_.2.2.2), (9, .agg #[.int .u64 p, .int .u64 q, .int .u64 u, .int .u64 C]), (10, i6 3)]) (fun s_ => row (Fl.int .i64) 3 s_.2.2.1 s_.2.1 s_.2.2.2 s_.1 :: T1 :: Fr) (fun s_ => g7 (.inl s_.1) = some r ∧ s_.1.length = s_.2.1) (fun a w e hs => ⟨e.sub ⟨rfl, rfl, rfl, rfl, rfl, trivial⟩, (by exact hs)⟩) ?_ (fun h0 => ?_)
       ·rintro ⟨d7, h1, h2, h3⟩ ⟨j, h4⟩; obtain rfl : d7.length = h1 := h4; have j := (g8 _).symm.trans j
        ·refine At.ibx ?_; refine At.ibn ?_; refine At.thn (At.region (At.run 2 rfl (nT ?_))); refine At.round ?_; refine sR 1 rfl (nT (At.seq ?_)); refine At.condF rfl rfl ?_; refine At.exit ?_; refine At.the ?_; refine At.the ?_; refine At.ibx ?_; refine At.thn (sR 2 rfl (nT (At.ret (At.drop (.s .z) ?_)))); obtain rfl := (bret j).symm; exact At.res (.inl rfl) rfl rfl ⟨d7.length, h2, h3, rfl, rfl, rfl⟩
       ·clear Z b3; rintro b3 ⟨D, b4, h5, h6, h7⟩ ⟨Z, h8⟩; obtain rfl : D.length = h5 := h8; obtain ⟨h9, f_, k0, hf_, j⟩ := bit Z; clear Z; have j : (Q19.l3b  D b4).bind _ = some d6 := j; unfold Q19.l3b at j
        ·refine At.seq (sR 2 rfl (nT ?_)); rcases bite j with ⟨b5, j⟩ | ⟨b5, j⟩
         ··refine At.condF rfl (nf (decide_eq_true b5)) ?_
           refine At.exit ?_; refine At.the ?_; refine At.the ?_; exact fun a w e hs => h0 (D, D.length, h6, h7) ⟨(bdn j g9), rfl⟩ a w (e.sub ⟨rfl, rfl, rfl, trivial⟩) hs
         ··refine At.condT rfl (nt (decide_eq_false b5)) ?_
           refine At.skip (At.thn (At.seq ?_)); refine At.block ?_; refine At.region (At.run 4 rfl ?_); obtain ⟨b6, k1, j⟩ := bbind j; refine At.call rfl Q26.callee rfl rfl rfl (Q26.spec hg0 k1) ?_; rintro _ _ ⟨rfl, rfl⟩; refine At.run 1 rfl ?_; refine At.lit rfl (xo := [.tmp 25]) (ys := ([(IntKind.i64.wrap (192 + b6))] : List Int)) (Fl.int .i64) rfl rfl rfl rfl rfl rfl rfl rfl rfl rfl rfl (fun p5 p6 => ?_); obtain ⟨k2, j⟩ := bnone j; refine At.append rfl (.s .z) (Src.own .z (by simp)) rfl rfl rfl rfl rfl rfl rfl rfl k2 (by decide) rfl (fun k3 k4 => ?_); refine At.drop (.s .z) (At.run 1 rfl (At.nil ?_)); refine At.ibn ?_; refine At.thn (At.region (At.run 5 rfl (At.nil ?_))); have j := bnx hf_ j; exact fun a w e hs => ⟨h9, ((D ++ ([(IntKind.i64.wrap (192 + b6))] : List Int)), band .u64 b4 (IntKind.u64.wrap (b4 - 1)), (D ++ ([(IntKind.i64.wrap (192 + b6))] : List Int)).length, k3, k4), k0, ⟨j, rfl⟩, e.sub ⟨rfl, rfl, rfl, rfl, rfl, trivial⟩, hs⟩
     ·clear V a8; rintro a8 ⟨E, b7, k5, k6, k7⟩ ⟨V, k8⟩; obtain rfl : E.length = k5 := k8; obtain ⟨k9, f_, l6, hf_, j⟩ := bit V; clear V; have j : (Q19.l2b  E b7).bind _ = some d5 := j; unfold Q19.l2b at j
      ·refine At.seq (sR 2 rfl (nT ?_)); rcases bite j with ⟨b8, j⟩ | ⟨b8, j⟩
       ··refine At.condF rfl (nf (decide_eq_true b8)) ?_
         refine At.exit ?_; refine At.the ?_; refine At.the ?_; exact fun a w e hs => g2 (E, E.length, k6, k7) ⟨(bdn j g1), rfl⟩ a w (e.sub ⟨rfl, rfl, rfl, trivial⟩) hs
       ··refine At.condT rfl (nt (decide_eq_false b8)) ?_
         refine At.skip (At.thn (At.seq ?_)); refine At.block ?_; refine At.region (At.run 4 rfl ?_); obtain ⟨b9, l7, j⟩ := bbind j; refine At.call rfl Q26.callee rfl rfl rfl (Q26.spec hg0 l7) ?_; rintro _ _ ⟨rfl, rfl⟩; refine At.run 1 rfl ?_; refine At.lit rfl (xo := [.tmp 25]) (ys := ([(IntKind.i64.wrap (128 + b9))] : List Int)) (Fl.int .i64) rfl rfl rfl rfl rfl rfl rfl rfl rfl rfl rfl (fun p7 p8 => ?_); obtain ⟨l8, j⟩ := bnone j; refine At.append rfl (.s .z) (Src.own .z (by simp)) rfl rfl rfl rfl rfl rfl rfl rfl l8 (by decide) rfl (fun l9 m0 => ?_); refine At.drop (.s .z) (At.run 1 rfl (At.nil ?_)); refine At.ibn ?_; refine At.thn (At.region (At.run 5 rfl (At.nil ?_))); have j := bnx hf_ j; exact fun a w e hs => ⟨k9, ((E ++ ([(IntKind.i64.wrap (128 + b9))] : List Int)), band .u64 b7 (IntKind.u64.wrap (b7 - 1)), (E ++ ([(IntKind.i64.wrap (128 + b9))] : List Int)).length, l9, m0), l6, ⟨j, rfl⟩, e.sub ⟨rfl, rfl, rfl, rfl, rfl, trivial⟩, hs⟩
   ·clear U a5; rintro a5 ⟨G, c4, m1, m2, m3⟩ ⟨U, m4⟩; obtain rfl : G.length = m1 := m4; obtain ⟨m5, f_, m6, hf_, j⟩ := bit U; clear U; have j : (Q19.l1b  G c4).bind _ = some d4 := j; unfold Q19.l1b at j
    ·refine At.seq (sR 2 rfl (nT ?_)); rcases bite j with ⟨c5, j⟩ | ⟨c5, j⟩
     ··refine At.condF rfl (nf (decide_eq_true c5)) ?_
       refine At.exit ?_; refine At.the ?_; refine At.the ?_; exact fun a w e hs => f4 (G, G.length, m2, m3) ⟨(bdn j f3), rfl⟩ a w (e.sub ⟨rfl, rfl, rfl, trivial⟩) hs
     ··refine At.condT rfl (nt (decide_eq_false c5)) ?_
       refine At.skip (At.thn (At.seq ?_)); refine At.block ?_; refine At.region (At.run 4 rfl ?_); obtain ⟨c6, m7, j⟩ := bbind j; refine At.call rfl Q26.callee rfl rfl rfl (Q26.spec hg0 m7) ?_; rintro _ _ ⟨rfl, rfl⟩; refine At.run 1 rfl ?_; refine At.lit rfl (xo := [.tmp 25]) (ys := ([(IntKind.i64.wrap (64 + c6))] : List Int)) (Fl.int .i64) rfl rfl rfl rfl rfl rfl rfl rfl rfl rfl rfl (fun p9 q0 => ?_); obtain ⟨m8, j⟩ := bnone j; refine At.append rfl (.s .z) (Src.own .z (by simp)) rfl rfl rfl rfl rfl rfl rfl rfl m8 (by decide) rfl (fun m9 n2 => ?_); refine At.drop (.s .z) (At.run 1 rfl (At.nil ?_)); refine At.ibn ?_; refine At.thn (At.region (At.run 5 rfl (At.nil ?_))); have j := bnx hf_ j; exact fun a w e hs => ⟨m5, ((G ++ ([(IntKind.i64.wrap (64 + c6))] : List Int)), band .u64 c4 (IntKind.u64.wrap (c4 - 1)), (G ++ ([(IntKind.i64.wrap (64 + c6))] : List Int)).length, m9, n2), m6, ⟨j, rfl⟩, e.sub ⟨rfl, rfl, rfl, rfl, rfl, trivial⟩, hs⟩
 ·clear J a2; rintro a2 ⟨I, c7, n4, n5, n6⟩ ⟨J, n7⟩; obtain rfl : I.length = n4 := n7; obtain ⟨n8, f_, n9, hf_, j⟩ := bit J; clear J; have j : (Q19.l0b  I c7).bind _ = some d3 := j; unfold Q19.l0b at j
  ·refine At.seq (sR 2 rfl (nT ?_)); rcases bite j with ⟨c8, j⟩ | ⟨c8, j⟩
   ··refine At.condF rfl (nf (decide_eq_true c8)) ?_
     refine At.exit ?_; refine At.the ?_; refine At.the ?_; exact fun a w e hs => e6 (I, I.length, n5, n6) ⟨(bdn j e5), rfl⟩ a w (e.sub ⟨rfl, rfl, rfl, trivial⟩) hs
   ··refine At.condT rfl (nt (decide_eq_false c8)) ?_
     refine At.skip (At.thn (At.seq ?_)); refine At.block ?_; refine At.region (At.run 4 rfl ?_); obtain ⟨c9, o0, j⟩ := bbind j; refine At.call rfl Q26.callee rfl rfl rfl (Q26.spec hg0 o0) ?_; rintro _ _ ⟨rfl, rfl⟩; refine At.run 1 rfl ?_; refine At.lit rfl (xo := [.tmp 25]) (ys := ([(IntKind.i64.wrap (0 + c9))] : List Int)) (Fl.int .i64) rfl rfl rfl rfl rfl rfl rfl rfl rfl rfl rfl (fun q1 q2 => ?_); obtain ⟨o7, j⟩ := bnone j; refine At.append rfl (.s .z) (Src.own .z (by simp)) rfl rfl rfl rfl rfl rfl rfl rfl o7 (by decide) rfl (fun o8 o9 => ?_); refine At.drop (.s .z) (At.run 1 rfl (At.nil ?_)); refine At.ibn ?_; refine At.thn (At.region (At.run 5 rfl (At.nil ?_))); have j := bnx hf_ j; exact fun a w e hs => ⟨n8, ((I ++ ([(IntKind.i64.wrap (0 + c9))] : List Int)), band .u64 c7 (IntKind.u64.wrap (c7 - 1)), (I ++ ([(IntKind.i64.wrap (0 + c9))] : List Int)).length, o8, o9), n9, ⟨j, rfl⟩, e.sub ⟨rfl, rfl, rfl, rfl, rfl, trivial⟩, hs⟩


noncomputable def Q110.f (p q u C a1 : Int) : Option Bool :=
 jn (
 if 0 ≤ a1 then
 some (.inl (decide (a1 < 256)))
 else
 some (.inl false)) (fun (D : Bool) =>
 jn (
 if D = true then
 if (0 : Int) ≤ (Bw.shr .i64 a1 6) ∧ (Bw.shr .i64 a1 6) < (4 : Int) then
 if (Bw.shr .i64 a1 6) = 0 then
 if (0 : Int) ≤ IntKind.u64.wrap (band .i64 a1 63) then
 some (.inl (decide (band .u64 (Bw.shr .u64 p (IntKind.u64.wrap (band .i64 a1 63))) 1 = 1)))
 else none
 else
 if (Bw.shr .i64 a1 6) = 1 then
 if (0 : Int) ≤ IntKind.u64.wrap (band .i64 a1 63) then
 some (.inl (decide (band .u64 (Bw.shr .u64 q (IntKind.u64.wrap (band .i64 a1 63))) 1 = 1)))
 else none
 else
 if (Bw.shr .i64 a1 6) = 2 then
 if (0 : Int) ≤ IntKind.u64.wrap (band .i64 a1 63) then
 some (.inl (decide (band .u64 (Bw.shr .u64 u (IntKind.u64.wrap (band .i64 a1 63))) 1 = 1)))
 else none
 else
 if (0 : Int) ≤ IntKind.u64.wrap (band .i64 a1 63) then
 some (.inl (decide (band .u64 (Bw.shr .u64 C (IntKind.u64.wrap (band .i64 a1 63))) 1 = 1)))
 else none
 else none
 else
 some (.inl false)) (fun (E : Bool) =>
 some E))
theorem Q110.callee : Callee Tryz.prog 18 := ⟨_, Tryz.func18, by kernel_rfl, by kernel_rfl⟩
theorem Q110.spec {u C D E a1 : Int} {r : Bool} (j : Q110.f u C D E a1 = some r) :
 Spec Tryz.prog 18 [.agg #[.int .u64 u, .int .u64 C, .int .u64 D, .int .u64 E], i6 a1] R (Fr) (fun v l' => v = .bool r ∧ Fr = l') := by
 refine Spec.of Tryz.func18 rfl rfl ?_; unfold Q110.f at j; have j := brun j; refine At.seq (At.region ?_); refine At.box rfl rfl (cs := [.int .u64 u, .int .u64 C, .int .u64 D, .int .u64 E]) rfl rfl (fun Z => ?_); refine At.run 1 rfl (nT (sR 3 rfl ?_)); obtain ⟨a5, a6, b6, j⟩ := bjoin j; let T2 : HProp := pc Z [.int .u64 u, .int .u64 C, .int .u64 D, .int .u64 E] 35; refine At.joinO 3 (X := Bool) (fun G => [(1, i6 a1), (2, bp Z), (10, .bool G)]) (fun G => T2 :: Fr) (fun G => a5 (.inl G) = some r) ?_ (fun a0 => ?_)
 ·rintro G j; have j := (a6 _).symm.trans j
  ·refine At.run 1 rfl ?_; obtain ⟨a7, a8, b7, j⟩ := bjoin j; refine At.joinO 11 (X := Bool) (fun I => [(22, .bool I)]) (fun I => T2 :: Fr) (fun I => a7 (.inl I) = some r) ?_ (fun J => ?_)
   ·rintro I j; have j := (a8 _).symm.trans j
    ·refine At.run 1 rfl (nT (At.ret (At.drop .z ?_))); cases bret j; exact At.res (.inl rfl) rfl rfl ⟨rfl, rfl⟩
   ··rcases bite j with ⟨U, j⟩ | ⟨U, j⟩
     ··refine At.know (t := 11) rfl U ?_
       refine At.run 1 rfl (At.y (Y.shr rfl rfl (by decide)) rfl rfl rfl ?_); obtain ⟨p, j⟩ := bnone j; rcases bite j with ⟨a2, j⟩ | ⟨a2, j⟩
       ··refine At.y (Y.ixArrK rfl rfl rfl rfl rfl p.1 p.2 (q := 0) (off := 0) a2 rfl) rfl rfl rfl ?_
         refine At.y (Y.load rfl rfl .z rfl rfl rfl) rfl rfl rfl (At.run 3 rfl ?_); obtain ⟨a9, j⟩ := bnone j; refine At.y (Y.shr rfl rfl a9) rfl rfl rfl (At.run 3 rfl ?_); exact At.of (J (decide (band .u64 (Bw.shr .u64 u (IntKind.u64.wrap (band .i64 a1 63))) 1 = 1)) j) ⟨rfl, trivial⟩
       ··rcases bite j with ⟨a3, j⟩ | ⟨a3, j⟩
         ··refine At.y (Y.ixArrK rfl rfl rfl rfl rfl p.1 p.2 (q := 1) (off := 1) a3 rfl) rfl rfl rfl ?_
           refine At.y (Y.load rfl rfl .z rfl rfl rfl) rfl rfl rfl (At.run 3 rfl ?_); obtain ⟨b2, j⟩ := bnone j; refine At.y (Y.shr rfl rfl b2) rfl rfl rfl (At.run 3 rfl ?_); exact At.of (J (decide (band .u64 (Bw.shr .u64 C (IntKind.u64.wrap (band .i64 a1 63))) 1 = 1)) j) ⟨rfl, trivial⟩
         ··rcases bite j with ⟨a4, j⟩ | ⟨a4, j⟩
           ··refine At.y (Y.ixArrK rfl rfl rfl rfl rfl p.1 p.2 (q := 2) (off := 2) a4 rfl) rfl rfl rfl ?_
             refine At.y (Y.load rfl rfl .z rfl rfl rfl) rfl rfl rfl (At.run 3 rfl ?_); obtain ⟨b3, j⟩ := bnone j; refine At.y (Y.shr rfl rfl b3) rfl rfl rfl (At.run 3 rfl ?_); exact At.of (J (decide (band .u64 (Bw.shr .u64 D (IntKind.u64.wrap (band .i64 a1 63))) 1 = 1)) j) ⟨rfl, trivial⟩
           ··have b4 : (Bw.shr .i64 a1 6) = 3 := by have h1_ := p; omega
             refine At.y (Y.ixArrK rfl rfl rfl rfl rfl p.1 p.2 (q := 3) (off := 3) b4 rfl) rfl rfl rfl (At.y (Y.load rfl rfl .z rfl rfl rfl) rfl rfl rfl (At.run 3 rfl ?_)); obtain ⟨b5, j⟩ := bnone j; refine At.y (Y.shr rfl rfl b5) rfl rfl rfl (At.run 3 rfl ?_); exact At.of (J (decide (band .u64 (Bw.shr .u64 E (IntKind.u64.wrap (band .i64 a1 63))) 1 = 1)) j) ⟨rfl, trivial⟩
     ··refine At.know (t := 11) rfl (bn U) ?_
       refine At.run 11 rfl ?_; exact At.of (J false j) ⟨rfl, trivial⟩
 ··rcases bite j with ⟨V, j⟩ | ⟨V, j⟩
   ··refine At.know (t := 7) rfl (decide_eq_true V) ?_
     refine At.run 3 rfl ?_; exact At.of (a0 (decide (a1 < 256)) j) ⟨rfl, rfl, rfl, trivial⟩
   ··refine At.know (t := 7) rfl (decide_eq_false V) ?_
     refine At.run 3 rfl ?_; exact At.of (a0 false j) ⟨rfl, rfl, rfl, trivial⟩

end Go.Bw
namespace Go.Bw
open Go Go.RowKit Go.Proofs




/- told with Q343.f -/



end Go.Bw
namespace Go.Bw
open Go Go.RowKit Go.Proofs
variable {R : Res} {Fr : List HProp} {b0 b0_1 b0_2 : Nat}
noncomputable def Q137.f (q : Int) (u : List (Bs × Q4)) (p : List (Q9 × Q4)) (a1 : Int) (a2 : Bs) : Option (Int × Int × Int × Int) :=
 some (((mget p (⟨a1, a2⟩ : Q9)).getD (⟨(0 : Int), (0 : Int), (0 : Int), (0 : Int)⟩ : Q4)).c0, ((mget p (⟨a1, a2⟩ : Q9)).getD (⟨(0 : Int), (0 : Int), (0 : Int), (0 : Int)⟩ : Q4)).c1, ((mget p (⟨a1, a2⟩ : Q9)).getD (⟨(0 : Int), (0 : Int), (0 : Int), (0 : Int)⟩ : Q4)).c2, ((mget p (⟨a1, a2⟩ : Q9)).getD (⟨(0 : Int), (0 : Int), (0 : Int), (0 : Int)⟩ : Q4)).c3)
theorem Q137.callee : Callee Tryz.prog 17 := ⟨_, Tryz.func17, by kernel_rfl, by kernel_rfl⟩
theorem Q137.spec {p a1 : Int} {q : List (Bs × Q4)} {u : List (Q9 × Q4)} {a2 : Bs} {r : Int × Int × Int × Int} (j : Q137.f p q u a1 a2 = some r) :
 Spec Tryz.prog 17 [bp b0, i6 a1, .string ⟨(a2).toArray⟩] R (pc b0 [i6 p, .map (some b0_1), .map (some b0_2)] 82 :: mapo Fl.bs.ov Q4.fl.av b0_1 q :: mapo Q9.fl.av Q4.fl.av b0_2 u :: Fr) (fun v l' => v = .agg #[.int .u64 r.1, .int .u64 r.2.1, .int .u64 r.2.2.1, .int .u64 r.2.2.2] ∧ pc b0 [i6 p, .map (some b0_1), .map (some b0_2)] 82 :: mapo Fl.bs.ov Q4.fl.av b0_1 q :: mapo Q9.fl.av Q4.fl.av b0_2 u :: Fr = l') := by
 refine Spec.of Tryz.func17 rfl rfl ?_; unfold Q137.f at j; have j := brun j; refine At.seq (At.region ?_); refine At.alloc rfl rfl rfl (fun C => ?_); refine nT (sR 3 rfl (At.y (Y.load rfl rfl (.s .z) rfl rfl rfl) rfl rfl rfl (At.run 2 rfl ?_))); refine At.y (Y.build (is := [0, 1]) (xo := [.tmp 11, .tmp 12]) (vs := [i6 a1, .string ⟨(a2).toArray⟩]) (cs := [i6 a1, .string ⟨(a2).toArray⟩]) rfl rfl rfl rfl rfl rfl) rfl rfl rfl ?_; refine At.y (Y.lookup (k := (⟨a1, a2⟩ : Q9)) (z := (⟨(0 : Int), (0 : Int), (0 : Int), (0 : Int)⟩ : Q4)) (.s (.s (.s .z))) rfl rfl Q9.keyok (by kernel_rfl) rfl rfl rfl) rfl rfl rfl ?_; refine At.store rfl rfl rfl rfl .z rfl rfl rfl (.c (.c (.c (.c .n)))) ?_; refine nT (At.ret ?_); refine At.resM (.inl rfl) rfl (RV.cell rfl rfl .z rfl rfl rfl RV.nil) ?_; refine At.drop .z ?_; cases bret j; exact fun a w e hs => ⟨_, ⟨rfl, rfl⟩, hs⟩


end Go.Bw
