/- BuildPlaces, part 4: walks and plain laws. Conditions: none. -/
import Derived.Test.YtfbjkcnefhgodaaGreatDoorProg
import Derived.Deep.QuietTactic
import Derived.LaidMore
import Derived.ProofKit
import Derived.OpenShut
import Derived.Test.YtfbjkcnefhgodaaGreatDoorBwBuildPlacesC
set_option linter.unusedVariables false
set_option linter.unusedSimpArgs false
set_option linter.unusedSectionVars false
set_option maxRecDepth 100000
set_option maxHeartbeats 2000000
namespace Go.Bw
open Go Go.RowKit Go.Proofs
variable {R : Res} {Fr : List HProp} {A0 A0_0 A0_2 : Option Addr} {n0 c0 b0 n0_0 c0_0 n0_2 c0_2 b1 : Nat}
structure Q1 where
 Kind : Int
 A : Int
 B : Int
 Name : Bs
 At : Int
deriving Inhabited, DecidableEq
def Q1.fl : Fl Q1 := ⟨5, fun x => [i6 x.Kind, i6 x.A, i6 x.B, .string ⟨(x.Name).toArray⟩, i6 x.At], fun _ => rfl, fun x u hu => by simp at hu; rcases hu with rfl | rfl | rfl | rfl | rfl <;> rfl, by decide⟩
noncomputable def Q111.f (p q : Int) (u : Bs) (x : Int) : Option Bool :=
 some (decide (p = 1))
theorem Q111.callee : Callee Tryz.prog 65 := ⟨_, Tryz.func65, by kernel_rfl, by kernel_rfl⟩
theorem Q111.spec {p q u : Int} {x : Bs} {r : Bool} (j : Q111.f p q x u = some r) :
 Spec Tryz.prog 65 [.agg #[i6 p, i6 q, .string ⟨(x).toArray⟩, i6 u]] R (Fr) (fun v l' => v = .bool r ∧ Fr = l') := by
 refine Spec.of Tryz.func65 rfl rfl ?_; unfold Q111.f at j; have j := brun j; refine At.seq (At.region ?_); refine At.box rfl rfl (cs := [i6 p, i6 q, .string ⟨(x).toArray⟩, i6 u]) rfl rfl (fun C => ?_); refine At.run 1 rfl (nT (sR 1 rfl (At.y (Y.load rfl rfl .z rfl rfl rfl) rfl rfl rfl (At.run 2 rfl ?_)))); refine nT (At.ret (At.drop .z ?_)); cases bret j; exact At.res (.inl rfl) rfl rfl ⟨rfl, rfl⟩

noncomputable def Q70.l0b (a0 : List Q0) (p : Int) : Option ((Int) ⊕ ((Unit) ⊕ (Int))) :=
 if p < (a0.length : Int) then
 if (0 : Int) ≤ p ∧ p < (a0.length : Int) then
 (Q111.f ((gt a0 p).Kind) ((gt a0 p).At) ((gt a0 p).Text) ((gt a0 p).Number)).bind fun q =>
 if q = true then
 upL (some p)
 else
 nx (IntKind.i64.wrap (p + 1))
 else none
 else
 dn (.inl ())
noncomputable def Q70.l0 (a0 : List Q0) (p : Int) : Option ((Unit) ⊕ (Int)) := iter (fun t_ : Int => Q70.l0b a0 t_) p
noncomputable def Q70.f (a0 : List Q0) : Option Int :=
 jn (Q70.l0 a0 0) (fun (_ : Unit) =>
 some (-1))
theorem Q70.callee : Callee Tryz.prog 123 := ⟨_, Tryz.func123, by kernel_rfl, by kernel_rfl⟩
theorem Q70.spec {a0 : List Q0} (hr0 : RdS Q0.fl.rep R.heap A0 a0) (hn0 : a0.length = n0) (hc0 : n0 ≤ c0) {r : Int} (j : Q70.f a0 = some r) :
 Spec Tryz.prog 123 [.slice A0 n0 c0, .func (.func 65) #[] #[]] R (Fr) (fun v l' => v = i6 r ∧ Fr = l') := by
 subst hn0; refine Spec.of Tryz.func123 rfl rfl ?_; unfold Q70.f at j; have j := brun j; refine sR 1 rfl (nT (At.seq (At.seq (At.region ?_)))); refine At.run 3 rfl (nT ?_); refine At.block ?_; obtain ⟨L, M, N, j⟩ := bjoin j; obtain ⟨I, C, J⟩ := bsome j; clear j; unfold Q70.l0 at C; obtain ⟨D, u⟩ := Q14.1 C; clear C; refine At.loopJ (X := Int) (Y := Unit) (e0 := 0) (fun p => [(0, .slice A0 a0.length c0), (1, .func (.func 65) #[] #[]), (7, i6 (a0.length : Int)), (8, i6 p)]) (fun p => Fr) (fun m_ => fun p => iterN (fun t_ : Int => Q70.l0b a0 t_) m_ p = some I) D 0 u (fun _ => []) (fun _ => Fr) (fun _ => L (.inl ()) = some r) (fun a w e hs => ⟨e.sub ⟨rfl, rfl, rfl, rfl, trivial⟩, (by exact hs)⟩) ?_ (fun O => ?_)
 ·rintro _ j; have j := (M _).symm.trans j
  ·refine At.ibx ?_; refine At.thn (sR 1 rfl (nT (At.ret ?_))); cases bret j; exact At.res (.inl rfl) rfl rfl ⟨rfl, rfl⟩
 ·clear u D; rintro D p u; obtain ⟨U, f_, V, hf_, j⟩ := bit u; clear u; have j : (Q70.l0b a0 p).bind _ = some I := j; unfold Q70.l0b at j
  ·refine sR 1 rfl (nT (At.seq ?_)); rcases bite j with ⟨E, j⟩ | ⟨E, j⟩
   ··refine At.condT rfl (decide_eq_true E) ?_
     refine At.skip (At.thn (At.seq ?_)); refine At.block ?_; refine sR 2 rfl (nT (sR 3 rfl ?_)); obtain ⟨x, j⟩ := bnone j; refine At.y (Y.ixRd hr0 rfl rfl rfl rfl rfl rfl rfl x.1 x.2) rfl rfl rfl (At.y (Y.ldFl hr0 rfl (q := 0) rfl rfl x.1 x.2 rfl rfl rfl) rfl rfl rfl ?_); obtain ⟨a1, Z, j⟩ := bbind j; refine At.call rfl Q111.callee rfl rfl rfl (Q111.spec Z) ?_; rintro _ _ ⟨rfl, rfl⟩; refine nT ?_; rcases bite j with ⟨G, j⟩ | ⟨G, j⟩
     ··refine At.condT rfl G ?_
       refine sR 2 rfl (nT (At.ret ?_)); refine At.ibr ?_; refine At.thr ?_; have j := bupL N J j; refine At.thr ?_; refine At.ibr ?_; refine At.thr ?_; cases bret j; exact At.res (.inl rfl) rfl rfl ⟨rfl, rfl⟩
     ··refine At.condF rfl (bn G) ?_
       refine At.skip ?_; refine At.ibn ?_; refine At.thn (At.region (At.run 2 rfl (At.nil ?_))); have j := bnx hf_ j; exact fun a w e hs => ⟨U, (IntKind.i64.wrap (p + 1)), V, j, e.sub ⟨rfl, rfl, rfl, rfl, trivial⟩, hs⟩
   ··refine At.condF rfl (decide_eq_false E) ?_
     refine At.exit ?_; refine At.the ?_; refine At.the ?_; exact fun a w e hs => O () (bdn j J) a w (e.sub trivial) hs

noncomputable def Q65.l0b (a0 q : List Q0) (u p : Int) : Option (((List Q0) × Int × Int) ⊕ (((List Q0) × Int) ⊕ ((List Q0)))) :=
 if p < (a0.length : Int) then
 jn (
 if (0 : Int) ≤ p ∧ p < (a0.length : Int) then
 (Q111.f ((gt q p).Kind) ((gt q p).At) ((gt q p).Text) ((gt q p).Number)).bind fun x =>
 if x = true then
 some (.inl (q, u))
 else
 if (0 : Int) ≤ u ∧ u < (a0.length : Int) then
 some (.inl ((st q u (⟨(gt q p).Kind, (gt q p).At, (gt q p).Text, (gt q p).Number⟩ : Q0)), IntKind.i64.wrap (u + 1)))
 else none
 else none) (fun (s_ : (List Q0) × Int) =>
 nx (s_.1, s_.2, IntKind.i64.wrap (p + 1)))
 else
 dn (.inl (q, u))
noncomputable def Q65.l0 (a0 p : List Q0) (q u : Int) : Option (((List Q0) × Int) ⊕ ((List Q0))) := iter (fun t_ : (List Q0) × Int × Int => Q65.l0b a0 t_.1 t_.2.1 t_.2.2) (p, q, u)
noncomputable def Q65.f (a0 : List Q0) : Option (List Q0) :=
 (Q70.f a0).bind fun p =>
 if p = (-1) then
 some a0
 else
 jn (Q65.l0 a0 a0 p (IntKind.i64.wrap (p + 1))) (fun (s_ : (List Q0) × Int) =>
 if (0 : Int) ≤ s_.2 ∧ s_.2 ≤ (a0.length : Int) then
 some ((s_.1.take s_.2.toNat ++ List.replicate (a0.length - s_.2.toNat) (⟨(0 : Int), (0 : Int), ([] : Bs), (0 : Int)⟩ : Q0)).take s_.2.toNat)
 else none)
theorem Q65.callee : Callee Tryz.prog 64 := ⟨_, Tryz.func64, by kernel_rfl, by kernel_rfl⟩
theorem Q65.spec {a0 : List Q0} (hn0 : a0.length = n0) {r : (List Q0)} (j : Q65.f a0 = some r) :
 Spec Tryz.prog 64 [.slice A0 n0 c0, .func (.func 65) #[] #[]] R (row Q0.fl 115 A0 n0 c0 a0 :: Fr) (fun v l' => ∃ (I : Nat), v = .slice A0 I c0 ∧ row Q0.fl 115 A0 I c0 r :: Fr = l' ∧ r.length = I) := by
 subst hn0; refine Spec.of Tryz.func64 rfl rfl ?_; unfold Q65.f at j; have j := brun j; refine sR 1 rfl (nT (sR 2 rfl ?_)); refine At.freeze .z fun c5 a3 a4 a5 c6 Z => ?_; obtain ⟨a1, a6, j⟩ := bbind j; refine At.call rfl Q70.callee rfl rfl rfl (Q70.spec a3 a4 a5 a6) ?_; rintro _ _ ⟨rfl, rfl⟩; refine At.run 1 rfl (nT (At.seq (sR 2 rfl (At.nil ?_)))); refine At.thn ?_; rcases bite j with ⟨J, j⟩ | ⟨J, j⟩
 ··refine At.condT rfl (decide_eq_true J) ?_
   refine sR 2 rfl (nT (At.ret (At.thr ?_))); refine At.thaw Z ?_; obtain rfl := (bret j).symm; exact At.res (.inl rfl) rfl rfl ⟨a0.length, rfl, rfl, rfl⟩
 ··refine At.condF rfl (decide_eq_false J) ?_
   refine At.skip (At.thn (At.seq (sR 3 rfl (nT ?_)))); refine At.block ?_; refine At.thaw Z ?_; obtain ⟨a7, a8, c7, j⟩ := bjoin j; obtain ⟨L, M, a9⟩ := bsome j; clear j; unfold Q65.l0 at M; obtain ⟨N, C⟩ := Q14.1 M; clear M; refine At.loopJ (X := (List Q0) × Int × Int) (Y := (List Q0) × Int) (e0 := 0) (fun s_ => [(0, .slice A0 a0.length c0), (1, .func (.func 65) #[] #[]), (5, i6 s_.2.1), (6, i6 s_.2.2)]) (fun s_ => row Q0.fl 115 A0 a0.length c0 s_.1 :: Fr) (fun m_ => fun s_ => iterN (fun t_ : (List Q0) × Int × Int => Q65.l0b a0 t_.1 t_.2.1 t_.2.2) m_ (s_.1, s_.2.1, s_.2.2) = some L) N (a0, a1, IntKind.i64.wrap (a1 + 1)) C (fun s_ => [(0, .slice A0 a0.length c0), (5, i6 s_.2)]) (fun s_ => row Q0.fl 115 A0 a0.length c0 s_.1 :: Fr) (fun s_ => a7 (.inl (s_.1, s_.2)) = some r) (fun a w e hs => ⟨e.sub ⟨rfl, rfl, rfl, rfl, trivial⟩, (by exact hs)⟩) ?_ (fun b2 => ?_)
   ·rintro ⟨b3, O⟩ j; have j := (a8 _).symm.trans j
    ·refine At.ibx ?_; refine At.thn (sR 2 rfl ?_); obtain ⟨x, j⟩ := bnone j; refine At.y (Y.slSuf .z rfl rfl rfl rfl rfl rfl x.1 x.2) rfl rfl rfl ?_; refine At.clearSuf (z := (⟨(0 : Int), (0 : Int), ([] : Bs), (0 : Int)⟩ : Q0)) rfl .z rfl rfl rfl rfl rfl x.1 x.2 ?_; refine nT (sR 2 rfl ?_); refine At.cut rfl .z rfl rfl rfl rfl rfl x.1 x.2 rfl ?_; refine At.run 1 rfl (nT (At.ret ?_)); cases bret j; exact At.res (.inl rfl) rfl rfl ⟨((b3.take O.toNat ++ List.replicate (a0.length - O.toNat) (⟨(0 : Int), (0 : Int), ([] : Bs), (0 : Int)⟩ : Q0)).take O.toNat).length, rfl, rfl, rfl⟩
   ·clear C N; rintro N ⟨p, D, u⟩ C; obtain ⟨b4, f_, b5, hf_, j⟩ := bit C; clear C; have j : (Q65.l0b a0 p D u).bind _ = some L := j; unfold Q65.l0b at j
    ·refine At.seq (sR 4 rfl (nT ?_)); rcases bite j with ⟨U, j⟩ | ⟨U, j⟩
     ··refine At.condT rfl (decide_eq_true U) ?_
       refine At.skip (At.thn (At.seq ?_)); obtain ⟨b6, b7, c8, j⟩ := bjoin j; refine At.join (X := (List Q0) × Int) (fun s_ => [(0, .slice A0 a0.length c0), (1, .func (.func 65) #[] #[]), (5, i6 s_.2), (6, i6 u)]) (fun s_ => row Q0.fl 115 A0 a0.length c0 s_.1 :: Fr) (fun s_ => b6 (.inl (s_.1, s_.2)) = some L) ?_ (fun a2 => ?_)
       ·rintro ⟨b8, b9⟩ j; have j := (b7 _).symm.trans j
        ·refine At.region (At.run 3 rfl (At.nil ?_)); have j := bnx hf_ j; exact fun a w e hs => ⟨b4, (b8, b9, IntKind.i64.wrap (u + 1)), b5, j, e.sub ⟨rfl, rfl, rfl, rfl, trivial⟩, hs⟩
       ··refine At.block ?_
         refine sR 2 rfl ?_; obtain ⟨E, j⟩ := bnone j; refine At.y (Y.ix .z rfl rfl rfl rfl rfl rfl E.1 E.2) rfl rfl rfl (At.y (Y.ld .z (q := 0) rfl rfl E.1 E.2 rfl rfl rfl) rfl rfl rfl ?_); refine At.alloc rfl rfl rfl (fun c9 => ?_); refine At.store rfl rfl rfl rfl .z rfl rfl rfl (.c (.c (.c (.c .n)))) ?_; refine nT (sR 1 rfl (At.y (Y.load rfl rfl .z rfl rfl rfl) rfl rfl rfl ?_)); obtain ⟨d0, c4, j⟩ := bbind j; refine At.call rfl Q111.callee rfl rfl rfl (Q111.spec c4) ?_; rintro _ _ ⟨rfl, rfl⟩; refine At.run 1 rfl (nT ?_); rcases bite j with ⟨V, j⟩ | ⟨V, j⟩
         ··refine At.condF rfl (nf V) ?_
           refine At.skip ?_; refine At.ibn ?_; refine At.thn (At.drop .z ?_); exact fun a w e hs => a2 (p, D) j a w (e.sub ⟨rfl, rfl, rfl, rfl, trivial⟩) hs
         ··refine At.condT rfl (nt (bn V)) ?_
           refine sR 2 rfl (At.y (Y.load rfl rfl .z rfl rfl rfl) rfl rfl rfl ?_); obtain ⟨G, j⟩ := bnone j; refine At.y (Y.ix (.s .z) rfl rfl rfl rfl rfl rfl G.1 G.2) rfl rfl rfl ?_; refine At.st rfl (.s .z) (q := 0) (z := (⟨(gt p u).Kind, (gt p u).At, (gt p u).Text, (gt p u).Number⟩ : Q0)) rfl rfl rfl G.1 G.2 rfl rfl (.c (.c (.c (.c .n)))) ?_; refine nT (At.region (At.run 3 rfl (At.nil ?_))); refine At.ibn ?_; refine At.thn (At.drop (.s .z) ?_); exact fun a w e hs => a2 ((st p D (⟨(gt p u).Kind, (gt p u).At, (gt p u).Text, (gt p u).Number⟩ : Q0)), IntKind.i64.wrap (D + 1)) j a w (e.sub ⟨rfl, rfl, rfl, rfl, trivial⟩) hs
     ··refine At.condF rfl (decide_eq_false U) ?_
       refine At.exit ?_; refine At.the ?_; refine At.the ?_; exact fun a w e hs => b2 (p, D) (bdn j a9) a w (e.sub ⟨rfl, rfl, trivial⟩) hs

noncomputable def Q27.f (p : List Q0) (u : Int) (x : List Q1) (a1 : Bs) : Option Bool :=
 if (0 : Int) ≤ 0 ∧ 0 < (p.length : Int) then
 jn (
 if (gt p 0).Kind = 5 then
 some (.inl (bseq ((gt p 0).Text) a1))
 else
 some (.inl false)) (fun (q : Bool) =>
 some q)
 else none
theorem Q27.callee : Callee Tryz.prog 155 := ⟨_, Tryz.func155, by kernel_rfl, by kernel_rfl⟩
theorem Q27.spec {x : List Q0} {D : Int} {u : List Q1} {a1 : Bs} (hr0_0 : RdS Q0.fl.rep R.heap A0_0 x) (hn0_0 : x.length = n0_0) (hc0_0 : n0_0 ≤ c0_0) (hn0_2 : u.length = n0_2) {r : Bool} (j : Q27.f x D u a1 = some r) :
 Spec Tryz.prog 155 [bp b0, .string ⟨(a1).toArray⟩] R (pc b0 [.slice A0_0 n0_0 c0_0, i6 D, .slice A0_2 n0_2 c0_2] 128 :: row Q1.fl 33 A0_2 n0_2 c0_2 u :: Fr) (fun v l' => v = .bool r ∧ pc b0 [.slice A0_0 n0_0 c0_0, i6 D, .slice A0_2 n0_2 c0_2] 128 :: row Q1.fl 33 A0_2 n0_2 c0_2 u :: Fr = l') := by
 subst hn0_0; subst hn0_2; refine Spec.of Tryz.func155 rfl rfl ?_; unfold Q27.f at j; have j := brun j; refine sR 1 rfl (nT (sR 3 rfl ?_)); refine At.y (Y.load rfl rfl .z rfl rfl rfl) rfl rfl rfl ?_; obtain ⟨p, j⟩ := bnone j; refine At.y (Y.ixRd hr0_0 rfl rfl rfl rfl rfl rfl rfl p.1 p.2) rfl rfl rfl ?_; refine At.y (Y.fa (RdS.some_ hr0_0 rfl p.1 p.2) rfl rfl rfl rfl rfl rfl) rfl rfl rfl ?_; refine At.y (Y.ldFl hr0_0 rfl (q := 0) rfl rfl p.1 p.2 rfl rfl rfl) rfl rfl rfl (At.run 2 rfl ?_); obtain ⟨I, J, L, j⟩ := bjoin j; let T1 : HProp := pc b0 [.slice A0_0 x.length c0_0, i6 D, .slice A0_2 u.length c0_2] 128; refine At.joinO 10 (X := Bool) (fun C => [(23, .bool C)]) (fun C => T1 :: row Q1.fl 33 A0_2 u.length c0_2 u :: Fr) (fun C => I (.inl C) = some r) ?_ (fun G => ?_)
 ·rintro C j; have j := (J _).symm.trans j
  ·refine At.run 1 rfl (nT (At.ret ?_)); cases bret j; exact At.res (.inl rfl) rfl rfl ⟨rfl, rfl⟩
 ··rcases bite j with ⟨E, j⟩ | ⟨E, j⟩
   ··refine At.know (t := 13) rfl (decide_eq_true E) ?_
     refine At.run 3 rfl (At.y (Y.load rfl rfl .z rfl rfl rfl) rfl rfl rfl (At.y (Y.ixRd hr0_0 rfl rfl rfl rfl rfl rfl rfl p.1 p.2) rfl rfl rfl ?_)); refine At.y (Y.fa (RdS.some_ hr0_0 rfl p.1 p.2) rfl rfl rfl rfl rfl rfl) rfl rfl rfl ?_; refine At.y (Y.ldFl hr0_0 rfl (q := 2) rfl rfl p.1 p.2 rfl rfl rfl) rfl rfl rfl (At.run 3 rfl ?_); exact At.of (G (bseq ((gt x 0).Text) a1) j) ⟨rfl, trivial⟩
   ··refine At.know (t := 13) rfl (decide_eq_false E) ?_
     refine At.run 10 rfl ?_; exact At.of (G false j) ⟨rfl, trivial⟩

noncomputable def Q47.f (p : List Q0) (q : Int) (u : List Q1) : Option ((List Q0) × Int × Int × Bs × Int) :=
 if (0 : Int) ≤ 0 ∧ 0 < (p.length : Int) then
 if (0 : Int) ≤ 1 ∧ 1 ≤ (p.length : Int) then
 some ((p.drop (1 : Int).toNat), (gt p 0).Kind, (gt p 0).At, (gt p 0).Text, (gt p 0).Number)
 else none
 else none
theorem Q47.callee : Callee Tryz.prog 205 := ⟨_, Tryz.func205, by kernel_rfl, by kernel_rfl⟩
theorem Q47.spec {p : List Q0} {C : Int} {u : List Q1} (hr0_0 : RdS Q0.fl.rep R.heap A0_0 p) (hn0_0 : p.length = n0_0) (hc0_0 : n0_0 ≤ c0_0) (hn0_2 : u.length = n0_2) {r : (List Q0) × Int × Int × Bs × Int} (j : Q47.f p C u = some r) :
 Spec Tryz.prog 205 [bp b0] R (pc b0 [.slice A0_0 n0_0 c0_0, i6 C, .slice A0_2 n0_2 c0_2] 128 :: row Q1.fl 33 A0_2 n0_2 c0_2 u :: Fr) (fun v l' => ∃ (E : Option Addr) (D : Nat) (G : Nat), v = .agg #[i6 r.2.1, i6 r.2.2.1, .string ⟨(r.2.2.2.1).toArray⟩, i6 r.2.2.2.2] ∧ pc b0 [.slice E D G, i6 C, .slice A0_2 n0_2 c0_2] 128 :: row Q1.fl 33 A0_2 n0_2 c0_2 u :: Fr = l' ∧ RdS Q0.fl.rep R.heap E r.1 ∧ r.1.length = D ∧ D ≤ G) := by
 subst hn0_0; subst hn0_2; refine Spec.of Tryz.func205 rfl rfl ?_; unfold Q47.f at j; have j := brun j; refine At.seq (At.region ?_); refine At.alloc rfl rfl rfl (fun O => ?_); refine nT (sR 3 rfl (At.y (Y.load rfl rfl (.s .z) rfl rfl rfl) rfl rfl rfl ?_)); obtain ⟨x, j⟩ := bnone j; refine At.y (Y.ixRd hr0_0 rfl rfl rfl rfl rfl rfl rfl x.1 x.2) rfl rfl rfl (At.y (Y.ldFl hr0_0 rfl (q := 0) rfl rfl x.1 x.2 rfl rfl rfl) rfl rfl rfl ?_); refine At.alloc rfl rfl rfl (fun U => ?_); refine At.store rfl rfl rfl rfl .z rfl rfl rfl (.c (.c (.c (.c .n)))) ?_; refine nT (sR 4 rfl (At.y (Y.load rfl rfl (.s (.s .z)) rfl rfl rfl) rfl rfl rfl ?_)); obtain ⟨I, j⟩ := bnone j; obtain ⟨J, L, M, N⟩ := Y.slFromAt (P := Tryz.prog) (R := R) rfl hr0_0 hc0_0 I.1 I.2; refine At.y (N rfl rfl rfl rfl rfl rfl) rfl rfl rfl ?_; refine At.run 2 rfl ?_; refine At.store rfl rfl rfl rfl (.s (.s .z)) rfl rfl rfl (.c .n) ?_; refine nT (At.seq (At.region (At.y (Y.load rfl rfl (.s .z) rfl rfl rfl) rfl rfl rfl ?_))); refine At.store rfl rfl rfl rfl (.s (.s .z)) rfl rfl rfl (.c (.c (.c (.c .n)))) ?_; refine nT (At.ret ?_); refine At.resM (.inl rfl) rfl (RV.cell rfl rfl .z rfl rfl rfl RV.nil) ?_; refine At.drop .z (At.drop (.s .z) ?_); cases bret j; exact fun a w e hs => ⟨_, ⟨J, (p.drop (1 : Int).toNat).length, (c0_0 - (1 : Int).toNat), rfl, rfl, L, rfl, M⟩, hs⟩

noncomputable def Q31.f (u : List Q0) (q : Int) (x : List Q1) : Option ((List Q0) × Int × Int × Int × Bs × Int) :=
 if q = 60 then
 if (0 : Int) ≤ 0 ∧ 0 < (u.length : Int) then
 none
 else none
 else
 (Q47.f u (IntKind.i64.wrap (q + 1)) x).bind fun p =>
 some (p.1, IntKind.i64.wrap (q + 1), p.2.1, p.2.2.1, p.2.2.2.1, p.2.2.2.2)
theorem Q31.callee : Callee Tryz.prog 156 := ⟨_, Tryz.func156, by kernel_rfl, by kernel_rfl⟩
theorem Q31.spec {p : List Q0} {E : Int} {x : List Q1} (hr0_0 : RdS Q0.fl.rep R.heap A0_0 p) (hn0_0 : p.length = n0_0) (hc0_0 : n0_0 ≤ c0_0) (hn0_2 : x.length = n0_2) {r : (List Q0) × Int × Int × Int × Bs × Int} (j : Q31.f p E x = some r) :
 Spec Tryz.prog 156 [bp b0] R (pc b0 [.slice A0_0 n0_0 c0_0, i6 E, .slice A0_2 n0_2 c0_2] 128 :: row Q1.fl 33 A0_2 n0_2 c0_2 x :: Fr) (fun v l' => ∃ (G : Option Addr) (C : Nat) (I : Nat), v = .agg #[i6 r.2.2.1, i6 r.2.2.2.1, .string ⟨(r.2.2.2.2.1).toArray⟩, i6 r.2.2.2.2.2] ∧ pc b0 [.slice G C I, i6 r.2.1, .slice A0_2 n0_2 c0_2] 128 :: row Q1.fl 33 A0_2 n0_2 c0_2 x :: Fr = l' ∧ RdS Q0.fl.rep R.heap G r.1 ∧ r.1.length = C ∧ C ≤ I) := by
 subst hn0_0; subst hn0_2; refine Spec.of Tryz.func156 rfl rfl ?_; unfold Q31.f at j; have j := brun j; refine At.seq (At.region ?_); refine At.alloc rfl rfl rfl (fun V => ?_); refine nT (At.seq (sR 3 rfl (At.y (Y.load rfl rfl (.s .z) rfl rfl rfl) rfl rfl rfl (At.run 1 rfl ?_)))); refine nT ?_; rcases bite j with ⟨D, j⟩ | ⟨D, j⟩
 ··refine At.condT rfl (decide_eq_true D) ?_
   refine At.region (At.run 3 rfl (At.y (Y.load rfl rfl (.s .z) rfl rfl rfl) rfl rfl rfl ?_)); obtain ⟨u, j⟩ := bnone j; refine At.y (Y.ixRd hr0_0 rfl rfl rfl rfl rfl rfl rfl u.1 u.2) rfl rfl rfl ?_; refine At.y (Y.fa (RdS.some_ hr0_0 rfl u.1 u.2) rfl rfl rfl rfl rfl rfl) rfl rfl rfl ?_; refine At.y (Y.ldFl hr0_0 rfl (q := 1) rfl rfl u.1 u.2 rfl rfl rfl) rfl rfl rfl ?_; refine At.y (Y.build (is := [0, 1]) (xo := [.tmp 14, .const (i6 10)]) (vs := [i6 ((gt p 0).At), i6 10]) (cs := [i6 ((gt p 0).At), i6 10]) rfl rfl rfl rfl rfl rfl) rfl rfl rfl ?_; refine At.y (Y.build (is := [0]) (xo := [.tmp 15]) (vs := [.agg #[i6 ((gt p 0).At), i6 10]]) (cs := [i6 ((gt p 0).At), i6 10]) rfl rfl rfl rfl rfl (by kernel_rfl)) rfl rfl rfl ?_; cases j
 ··refine At.condF rfl (decide_eq_false D) ?_
   refine At.skip (At.thn (sR 3 rfl (At.y (Y.load rfl rfl (.s .z) rfl rfl rfl) rfl rfl rfl (At.run 3 rfl ?_)))); refine At.store rfl rfl rfl rfl (.s .z) rfl rfl rfl (.s (.c .n)) ?_; refine nT (sR 1 rfl (At.f2 (At.f1 ?_))); obtain ⟨J, L, j⟩ := bbind j; refine At.call rfl Q47.callee rfl rfl rfl (Q47.spec hr0_0 rfl hc0_0 rfl L) ?_; rintro _ _ ⟨M, X, N, rfl, rfl, O, rfl, U⟩; refine At.store rfl rfl rfl rfl (.s (.s .z)) rfl rfl rfl (.c (.c (.c (.c .n)))) ?_; refine nT (At.ret ?_); refine At.resM (.inl rfl) rfl (RV.cell rfl rfl .z rfl rfl rfl RV.nil) ?_; refine At.drop .z ?_; cases bret j; exact fun a w e hs => ⟨_, ⟨M, J.1.length, N, rfl, rfl, O, rfl, U⟩, hs⟩

noncomputable def Q103.f (a0 : Bs) : Option Bool :=
 jn (
 if bseq a0 ([116, 116] : Bs) = true then
 some (.inl true)
 else
 some (.inl (bseq a0 ([102, 102] : Bs)))) (fun (p : Bool) =>
 jn (
 if p = true then
 some (.inl true)
 else
 some (.inl (bseq a0 ([109, 117] : Bs)))) (fun (q : Bool) =>
 jn (
 if q = true then
 some (.inl true)
 else
 some (.inl (bseq a0 ([110, 117] : Bs)))) (fun (u : Bool) =>
 some u)))
theorem Q103.callee : Callee Tryz.prog 229 := ⟨_, Tryz.func229, by kernel_rfl, by kernel_rfl⟩
theorem Q103.spec {a0 : Bs} {r : Bool} (j : Q103.f a0 = some r) :
 Spec Tryz.prog 229 [.string ⟨(a0).toArray⟩] R (Fr) (fun v l' => v = .bool r ∧ Fr = l') := by
 refine Spec.of Tryz.func229 rfl rfl ?_; unfold Q103.f at j; have j := brun j; refine sR 1 rfl (nT (sR 3 rfl ?_)); obtain ⟨J, L, V, j⟩ := bjoin j; refine At.joinO 3 (X := Bool) (fun p => [(0, .string ⟨(a0).toArray⟩), (8, .bool p)]) (fun p => Fr) (fun p => J (.inl p) = some r) ?_ (fun E => ?_)
 ·rintro p j; have j := (L _).symm.trans j
  ·refine At.run 1 rfl ?_; obtain ⟨M, N, Z, j⟩ := bjoin j; refine At.joinO 3 (X := Bool) (fun q => [(0, .string ⟨(a0).toArray⟩), (12, .bool q)]) (fun q => Fr) (fun q => M (.inl q) = some r) ?_ (fun G => ?_)
   ·rintro q j; have j := (N _).symm.trans j
    ·refine At.run 1 rfl ?_; obtain ⟨O, U, a1, j⟩ := bjoin j; refine At.joinO 3 (X := Bool) (fun u => [(16, .bool u)]) (fun u => Fr) (fun u => O (.inl u) = some r) ?_ (fun I => ?_)
     ·rintro u j; have j := (U _).symm.trans j
      ·refine At.run 1 rfl (nT (At.ret ?_)); cases bret j; exact At.res (.inl rfl) rfl rfl ⟨rfl, rfl⟩
     ··rcases bite j with ⟨x, j⟩ | ⟨x, j⟩
       ··refine At.know (t := 13) rfl x ?_
         refine At.run 3 rfl ?_; exact At.of (I true j) ⟨rfl, trivial⟩
       ··refine At.know (t := 13) rfl (bn x) ?_
         refine At.run 3 rfl ?_; exact At.of (I (bseq a0 ([110, 117] : Bs)) j) ⟨rfl, trivial⟩
   ··rcases bite j with ⟨C, j⟩ | ⟨C, j⟩
     ··refine At.know (t := 9) rfl C ?_
       refine At.run 3 rfl ?_; exact At.of (G true j) ⟨rfl, rfl, trivial⟩
     ··refine At.know (t := 9) rfl (bn C) ?_
       refine At.run 3 rfl ?_; exact At.of (G (bseq a0 ([109, 117] : Bs)) j) ⟨rfl, rfl, trivial⟩
 ··rcases bite j with ⟨D, j⟩ | ⟨D, j⟩
   ··refine At.know (t := 5) rfl D ?_
     refine At.run 3 rfl ?_; exact At.of (E true j) ⟨rfl, rfl, trivial⟩
   ··refine At.know (t := 5) rfl (bn D) ?_
     refine At.run 3 rfl ?_; exact At.of (E (bseq a0 ([102, 102] : Bs)) j) ⟨rfl, rfl, trivial⟩

noncomputable def Q84.f (p : List Q0) (q : Int) (u : List Q1) (a1 : Bs) : Option (List Q0) :=
 (Q27.f p q u a1).bind fun x =>
 if x = true then
 (Q47.f p q u).bind fun C =>
 some C.1
 else
 none
theorem Q84.callee : Callee Tryz.prog 207 := ⟨_, Tryz.func207, by kernel_rfl, by kernel_rfl⟩
theorem Q84.spec {q : List Q0} {u : Int} {p : List Q1} {a1 : Bs} (hr0_0 : RdS Q0.fl.rep R.heap A0_0 q) (hn0_0 : q.length = n0_0) (hc0_0 : n0_0 ≤ c0_0) (hn0_2 : p.length = n0_2) {r : (List Q0)} (j : Q84.f q u p a1 = some r) :
 Spec Tryz.prog 207 [bp b0, .string ⟨(a1).toArray⟩] R (pc b0 [.slice A0_0 n0_0 c0_0, i6 u, .slice A0_2 n0_2 c0_2] 128 :: row Q1.fl 33 A0_2 n0_2 c0_2 p :: Fr) (fun v l' => ∃ (D : Option Addr) (x : Nat) (E : Nat), v = .tuple #[] ∧ pc b0 [.slice D x E, i6 u, .slice A0_2 n0_2 c0_2] 128 :: row Q1.fl 33 A0_2 n0_2 c0_2 p :: Fr = l' ∧ RdS Q0.fl.rep R.heap D r ∧ r.length = x ∧ x ≤ E) := by
 subst hn0_0; subst hn0_2; refine Spec.of Tryz.func207 rfl rfl ?_; unfold Q84.f at j; have j := brun j; refine At.seq (sR 2 rfl ?_); obtain ⟨U, G, j⟩ := bbind j; refine At.call rfl Q27.callee rfl rfl rfl (Q27.spec hr0_0 rfl hc0_0 rfl G) ?_; rintro _ _ ⟨rfl, rfl⟩; refine At.run 1 rfl (nT ?_); rcases bite j with ⟨C, j⟩ | ⟨C, j⟩
 ··refine At.condF rfl (nf C) ?_
   refine At.skip (At.thn (At.region (At.run 1 rfl ?_))); obtain ⟨I, J, j⟩ := bbind j; refine At.call rfl Q47.callee rfl rfl rfl (Q47.spec hr0_0 rfl hc0_0 rfl J) ?_; rintro _ _ ⟨L, V, M, rfl, rfl, N, rfl, O⟩; refine At.nil ?_; cases bret j; exact At.res (.inr rfl) rfl rfl ⟨L, I.1.length, M, rfl, rfl, N, rfl, O⟩
 ··refine At.condT rfl (nt (bn C)) ?_
   refine At.region (At.run 1 rfl ?_); cases j

noncomputable def Q100.f (p : List Q0) (q : Int) (u : List Q1) (a1 : Bs) : Option ((List Q0) × Bs) :=
 (Q27.f p q u ([45] : Bs)).bind fun C =>
 jn (
 if C = true then
 some (.inl false)
 else
 if (0 : Int) ≤ 0 ∧ 0 < (p.length : Int) then
 jn (
 if (gt p 0).Kind = 2 then
 (Q103.f ((gt p 0).Text)).bind fun D =>
 some (.inl D)
 else
 some (.inl true)) (fun (E : Bool) =>
 some (.inl E))
 else none) (fun (G : Bool) =>
 if G = true then
 none
 else
 (Q47.f p q u).bind fun x =>
 (Q84.f x.1 q u a1).bind fun I =>
 some (I, x.2.2.2.1))
theorem Q100.callee : Callee Tryz.prog 206 := ⟨_, Tryz.func206, by kernel_rfl, by kernel_rfl⟩
theorem Q100.spec {D : List Q0} {E : Int} {u : List Q1} {a1 : Bs} (hr0_0 : RdS Q0.fl.rep R.heap A0_0 D) (hn0_0 : D.length = n0_0) (hc0_0 : n0_0 ≤ c0_0) (hn0_2 : u.length = n0_2) {r : (List Q0) × Bs} (j : Q100.f D E u a1 = some r) :
 Spec Tryz.prog 206 [bp b0, .string ⟨(a1).toArray⟩] R (pc b0 [.slice A0_0 n0_0 c0_0, i6 E, .slice A0_2 n0_2 c0_2] 128 :: row Q1.fl 33 A0_2 n0_2 c0_2 u :: Fr) (fun v l' => ∃ (M : Option Addr) (G : Nat) (N : Nat), v = .string ⟨(r.2).toArray⟩ ∧ pc b0 [.slice M G N, i6 E, .slice A0_2 n0_2 c0_2] 128 :: row Q1.fl 33 A0_2 n0_2 c0_2 u :: Fr = l' ∧ RdS Q0.fl.rep R.heap M r.1 ∧ r.1.length = G ∧ G ≤ N) := by
 subst hn0_0; subst hn0_2; refine Spec.of Tryz.func206 rfl rfl ?_; unfold Q100.f at j; have j := brun j; refine sR 1 rfl (nT (At.seq (At.seq (At.region ?_)))); refine At.run 1 rfl ?_; obtain ⟨b7, V, j⟩ := bbind j; refine At.call rfl Q27.callee rfl rfl rfl (Q27.spec hr0_0 rfl hc0_0 rfl V) ?_; rintro _ _ ⟨rfl, rfl⟩; refine At.run 2 rfl ?_; obtain ⟨Z, a0, b8, j⟩ := bjoin j; let T2 : HProp := pc b0 [.slice A0_0 D.length c0_0, i6 E, .slice A0_2 u.length c0_2] 128; refine At.joinO 19 (X := Bool) (fun C => [(0, bp b0), (1, .string ⟨(a1).toArray⟩), (28, .bool C)]) (fun C => T2 :: row Q1.fl 33 A0_2 u.length c0_2 u :: Fr) (fun C => Z (.inl C) = some r) ?_ (fun O => ?_)
 ·rintro C j; have j := (a0 _).symm.trans j
  ·refine nT ?_; rcases bite j with ⟨I, j⟩ | ⟨I, j⟩
   ··refine At.condT rfl I ?_
     refine At.region (At.run 1 rfl ?_); cases j
   ··refine At.condF rfl (bn I) ?_
     refine At.skip (At.thn (sR 1 rfl ?_)); obtain ⟨b9, a2, j⟩ := bbind j; refine At.call rfl Q47.callee rfl rfl rfl (Q47.spec hr0_0 rfl hc0_0 rfl a2) ?_; rintro _ _ ⟨c4, c5, c6, rfl, rfl, a3, rfl, a4⟩; refine At.run 2 rfl (nT (sR 2 rfl ?_)); obtain ⟨a5, a6, j⟩ := bbind j; refine At.call rfl Q84.callee rfl rfl rfl (Q84.spec a3 rfl a4 rfl a6) ?_; rintro _ _ ⟨a7, c7, a8, rfl, rfl, a9, rfl, b2⟩; refine nT (sR 2 rfl (nT (At.ret ?_))); cases bret j; exact At.res (.inl rfl) rfl rfl ⟨a7, a5.length, a8, rfl, rfl, a9, rfl, b2⟩
 ··rcases bite j with ⟨J, j⟩ | ⟨J, j⟩
   ··refine At.know (t := 9) rfl (nf J) ?_
     refine At.run 19 rfl ?_; exact At.of (O false j) ⟨rfl, rfl, rfl, trivial⟩
   ··refine At.know (t := 9) rfl (nt (bn J)) ?_
     refine At.run 3 rfl (At.y (Y.load rfl rfl .z rfl rfl rfl) rfl rfl rfl ?_); obtain ⟨p, j⟩ := bnone j; refine At.y (Y.ixRd hr0_0 rfl rfl rfl rfl rfl rfl rfl p.1 p.2) rfl rfl rfl ?_; refine At.y (Y.fa (RdS.some_ hr0_0 rfl p.1 p.2) rfl rfl rfl rfl rfl rfl) rfl rfl rfl ?_; refine At.y (Y.ldFl hr0_0 rfl (q := 0) rfl rfl p.1 p.2 rfl rfl rfl) rfl rfl rfl (At.run 2 rfl ?_); obtain ⟨b3, b4, c8, j⟩ := bjoin j; refine At.joinO 9 (X := Bool) (fun x => [(0, bp b0), (1, .string ⟨(a1).toArray⟩), (9, .bool true), (27, .bool x)]) (fun x => T2 :: row Q1.fl 33 A0_2 u.length c0_2 u :: Fr) (fun x => b3 (.inl x) = some r) ?_ (fun U => ?_)
     ·rintro x j; have j := (b4 _).symm.trans j
      ·refine At.run 1 rfl ?_; exact At.of (O x j) ⟨rfl, rfl, rfl, trivial⟩
     ··rcases bite j with ⟨L, j⟩ | ⟨L, j⟩
       ··refine At.know (t := 18) rfl (nf (decide_eq_true L)) ?_
         refine At.run 3 rfl (At.y (Y.load rfl rfl .z rfl rfl rfl) rfl rfl rfl (At.y (Y.ixRd hr0_0 rfl rfl rfl rfl rfl rfl rfl p.1 p.2) rfl rfl rfl ?_)); refine At.y (Y.fa (RdS.some_ hr0_0 rfl p.1 p.2) rfl rfl rfl rfl rfl rfl) rfl rfl rfl ?_; refine At.y (Y.ldFl hr0_0 rfl (q := 2) rfl rfl p.1 p.2 rfl rfl rfl) rfl rfl rfl ?_; obtain ⟨b5, b6, j⟩ := bbind j; refine At.call rfl Q103.callee rfl rfl rfl (Q103.spec b6) ?_; rintro _ _ ⟨rfl, rfl⟩; refine At.run 1 rfl ?_; exact At.of (U b5 j) ⟨rfl, rfl, rfl, rfl, trivial⟩
       ··refine At.know (t := 18) rfl (nt (decide_eq_false L)) ?_
         refine At.run 9 rfl ?_; exact At.of (U true j) ⟨rfl, rfl, rfl, rfl, trivial⟩

noncomputable def Q20.f (E : List Q0) (G : Int) (p : List Q1) (q u x : Int) (C : Bs) (D : Int) : Option ((List Q1) × Int) :=
 if (p.length + ([(⟨q, u, x, C, D⟩ : Q1)] : List Q1).length) * 48 ≤ 140737488355328 then
 some ((p ++ ([(⟨q, u, x, C, D⟩ : Q1)] : List Q1)), IntKind.i64.wrap (((p ++ ([(⟨q, u, x, C, D⟩ : Q1)] : List Q1)).length : Int) - 1))
 else none
theorem Q20.callee : Callee Tryz.prog 157 := ⟨_, Tryz.func157, by kernel_rfl, by kernel_rfl⟩
theorem Q20.spec {E : List Q0} {G p q u x : Int} {D : List Q1} {C : Bs} (hr0_0 : RdS Q0.fl.rep R.heap A0_0 E) (hn0_0 : E.length = n0_0) (hc0_0 : n0_0 ≤ c0_0) (hn0_2 : D.length = n0_2) {r : (List Q1) × Int} (j : Q20.f E G D p q u C x = some r) :
 Spec Tryz.prog 157 [bp b0, .agg #[i6 p, i6 q, i6 u, .string ⟨(C).toArray⟩, i6 x]] R (pc b0 [.slice A0_0 n0_0 c0_0, i6 G, .slice A0_2 n0_2 c0_2] 128 :: row Q1.fl 33 A0_2 n0_2 c0_2 D :: Fr) (fun v l' => ∃ (I : Option Addr) (J : Nat), v = i6 r.2 ∧ pc b0 [.slice A0_0 n0_0 c0_0, i6 G, .slice I ((D ++ ([(⟨p, q, u, C, x⟩ : Q1)] : List Q1)).length) J] 128 :: row Q1.fl 33 I ((D ++ ([(⟨p, q, u, C, x⟩ : Q1)] : List Q1)).length) J r.1 :: Fr = l') := by
 subst hn0_0; subst hn0_2; refine Spec.of Tryz.func157 rfl rfl ?_; unfold Q20.f at j; have j := brun j; refine At.seq (At.region ?_); refine At.box rfl rfl (cs := [i6 p, i6 q, i6 u, .string ⟨(C).toArray⟩, i6 x]) rfl rfl (fun L => ?_); refine At.run 1 rfl (nT (At.seq ?_)); refine At.held [pc L [i6 p, i6 q, i6 u, .string ⟨(C).toArray⟩, i6 x] 33] 11 rfl ?_; refine At.H.pw 0 rfl rfl rfl rfl rfl (.c .z .n) ?_; refine At.H.pw 1 rfl rfl rfl rfl rfl (.c .z .n) ?_; refine At.H.pw 2 rfl rfl rfl rfl rfl (.c .z .n) ?_; refine At.H.pw 3 rfl rfl rfl rfl rfl (.c .z .n) ?_; refine At.H.tw 5 rfl (Y.load rfl rfl .z rfl rfl rfl) rfl rfl rfl (.c .z .n) ?_; obtain ⟨M, j⟩ := bnone j; let T3 : HProp := pc L [i6 p, i6 q, i6 u, .string ⟨(C).toArray⟩, i6 x] 33; refine At.H.joinK (X := (Option Addr) × Nat) (fun s_ => [(0, bp b0)]) (fun s_ => pc b0 [.slice A0_0 E.length c0_0, i6 G, .slice s_.1 ((D ++ ([(⟨p, q, u, C, x⟩ : Q1)] : List Q1)).length) s_.2] 128 :: row Q1.fl 33 s_.1 ((D ++ ([(⟨p, q, u, C, x⟩ : Q1)] : List Q1)).length) s_.2 (D ++ ([(⟨p, q, u, C, x⟩ : Q1)] : List Q1)) :: T3 :: Fr) (fun s_ => True) ?_ (fun N => ?_)
 ·rintro ⟨O, U⟩ -
  ·refine At.thn (sR 3 rfl (At.y (Y.load rfl rfl .z rfl rfl rfl) rfl rfl rfl (At.run 3 rfl (nT ?_)))); refine At.ret (At.drop (.s (.s .z)) ?_); cases bret j; exact At.res (.inl rfl) rfl rfl ⟨O, U, rfl, rfl⟩
 ·refine At.H.al [4, 6] (Q7 ?_ (Q7 ?_ Q8))
  ··refine At.HO.op rfl ?_
    refine At.y (Y.load rfl rfl (.s .z) rfl rfl rfl) rfl rfl rfl ?_; refine At.HO.back (.c .z .n) ?_; refine At.H.al [6] (Q7 ?_ Q8)
    ··refine At.HO.op rfl ?_
      refine At.lit rfl (xo := [.tmp 10]) (ys := ([(⟨p, q, u, C, x⟩ : Q1)] : List Q1)) Q1.fl rfl rfl rfl rfl rfl rfl rfl rfl rfl rfl rfl (fun a2 a3 => ?_); refine At.HO.back (.c (.s .z) .n) ?_; refine At.H.al [7] (Q7 ?_ Q8)
      ··refine At.HO.op rfl ?_
        refine At.append rfl (.s (.s (.s .z))) (Src.own .z (by simp)) rfl rfl rfl rfl rfl rfl rfl rfl M (by decide) rfl (fun V Z => ?_); refine At.drop (.s .z) ?_; refine At.HO.back (.c (.s .z) .n) ?_; refine At.H.pw 8 rfl rfl rfl rfl rfl (.c (.s .z) .n) ?_; refine At.H.pw 9 rfl rfl rfl rfl rfl (.c (.s .z) .n) ?_; refine At.H.al [10] (Q7 ?_ Q8)
        ··refine At.HO.op rfl ?_
          refine At.store rfl rfl rfl rfl (.s (.s .z)) rfl rfl rfl (.s (.s (.c .n))) ?_; refine At.HO.back (.c (.s (.s .z)) .n) ?_; refine At.H.done (by kernel_rfl) ?_; exact At.of (N (V, Z) trivial) ⟨rfl, trivial⟩
  ··refine At.HO.op rfl ?_
    refine At.lit rfl (xo := [.tmp 10]) (ys := ([(⟨p, q, u, C, x⟩ : Q1)] : List Q1)) Q1.fl rfl rfl rfl rfl rfl rfl rfl rfl rfl rfl rfl (fun a4 a5 => ?_); refine At.HO.back (.c (.s .z) .n) ?_; refine At.H.al [4] (Q7 ?_ Q8)
    ··refine At.HO.op rfl ?_
      refine At.y (Y.load rfl rfl (.s (.s .z)) rfl rfl rfl) rfl rfl rfl ?_; refine At.HO.back (.c (.s .z) .n) ?_; refine At.H.al [7] (Q7 ?_ Q8)
      ··refine At.HO.op rfl ?_
        refine At.append rfl (.s (.s (.s .z))) (Src.own .z (by simp)) rfl rfl rfl rfl rfl rfl rfl rfl M (by decide) rfl (fun a0 a1 => ?_); refine At.drop (.s .z) ?_; refine At.HO.back (.c (.s .z) .n) ?_; refine At.H.pw 8 rfl rfl rfl rfl rfl (.c (.s .z) .n) ?_; refine At.H.pw 9 rfl rfl rfl rfl rfl (.c (.s .z) .n) ?_; refine At.H.al [10] (Q7 ?_ Q8)
        ··refine At.HO.op rfl ?_
          refine At.store rfl rfl rfl rfl (.s (.s .z)) rfl rfl rfl (.s (.s (.c .n))) ?_; refine At.HO.back (.c (.s (.s .z)) .n) ?_; refine At.H.done (by kernel_rfl) ?_; exact At.of (N (a0, a1) trivial) ⟨rfl, trivial⟩

theorem Q11.callee : Callee Tryz.prog 66 := ⟨_, Tryz.func66, by kernel_rfl, by kernel_rfl⟩
def Q11.SP (self_ : (List Q0) → Int → (List Q1) → Option ((List Q1) × (List Q0) × Int × Int)) : Prop :=
 ∀ (R : Res) (Fr : List HProp) (b0 : Nat) (A0_0 : Option Addr) (n0_0 : Nat) (c0_0 : Nat) (A0_2 : Option Addr) (n0_2 : Nat) (c0_2 : Nat) (a0_0 : List Q0) (a0_1 : Int) (a0_2 : List Q1) (hr0_0 : RdS Q0.fl.rep R.heap A0_0 a0_0) (hn0_0 : a0_0.length = n0_0) (hc0_0 : n0_0 ≤ c0_0) (hn0_2 : a0_2.length = n0_2) {r : (List Q1) × (List Q0) × Int × Int} (j : self_ a0_0 a0_1 a0_2 = some r),
  Spec Tryz.prog 66 [bp b0] R (pc b0 [.slice A0_0 n0_0 c0_0, i6 a0_1, .slice A0_2 n0_2 c0_2] 128 :: row Q1.fl 33 A0_2 n0_2 c0_2 a0_2 :: Fr) (fun v l' => ∃ (w252 : Nat) (w254 : Option Addr) (w255 : Nat) (w256 : Option Addr) (w257 : Nat) (w258 : Nat), v = i6 r.2.2.2 ∧ pc b0 [.slice w256 w257 w258, i6 r.2.2.1, .slice w254 w252 w255] 128 :: row Q1.fl 33 w254 w252 w255 r.1 :: Fr = l' ∧ r.1.length = w252 ∧ RdS Q0.fl.rep R.heap w256 r.2.1 ∧ r.2.1.length = w257 ∧ w257 ≤ w258)
theorem Q22.callee : Callee Tryz.prog 124 := ⟨_, Tryz.func124, by kernel_rfl, by kernel_rfl⟩
def Q22.SP (self_ : (List Q0) → Int → (List Q1) → Bs → Int → Option ((List Q1) × (List Q0) × Int × Int)) : Prop :=
 ∀ (R : Res) (Fr : List HProp) (b0 : Nat) (A0_0 : Option Addr) (n0_0 : Nat) (c0_0 : Nat) (A0_2 : Option Addr) (n0_2 : Nat) (c0_2 : Nat) (a0_0 : List Q0) (a0_1 : Int) (a0_2 : List Q1) (a1 : Bs) (a2 : Int) (hr0_0 : RdS Q0.fl.rep R.heap A0_0 a0_0) (hn0_0 : a0_0.length = n0_0) (hc0_0 : n0_0 ≤ c0_0) (hn0_2 : a0_2.length = n0_2) {r : (List Q1) × (List Q0) × Int × Int} (j : self_ a0_0 a0_1 a0_2 a1 a2 = some r),
  Spec Tryz.prog 124 [bp b0, .string ⟨(a1).toArray⟩, i6 a2, .func (.func 125) #[bp b0] #[]] R (pc b0 [.slice A0_0 n0_0 c0_0, i6 a0_1, .slice A0_2 n0_2 c0_2] 128 :: row Q1.fl 33 A0_2 n0_2 c0_2 a0_2 :: Fr) (fun v l' => ∃ (w252 : Nat) (w254 : Option Addr) (w255 : Nat) (w256 : Option Addr) (w257 : Nat) (w258 : Nat), v = i6 r.2.2.2 ∧ pc b0 [.slice w256 w257 w258, i6 r.2.2.1, .slice w254 w252 w255] 128 :: row Q1.fl 33 w254 w252 w255 r.1 :: Fr = l' ∧ r.1.length = w252 ∧ RdS Q0.fl.rep R.heap w256 r.2.1 ∧ r.2.1.length = w257 ∧ w257 ≤ w258)
theorem Q29.callee : Callee Tryz.prog 125 := ⟨_, Tryz.func125, by kernel_rfl, by kernel_rfl⟩
def Q29.SP (self_ : (List Q0) → Int → (List Q1) → Option ((List Q1) × (List Q0) × Int × Int)) : Prop :=
 ∀ (R : Res) (Fr : List HProp) (b0 : Nat) (A0_0 : Option Addr) (n0_0 : Nat) (c0_0 : Nat) (A0_2 : Option Addr) (n0_2 : Nat) (c0_2 : Nat) (a0_0 : List Q0) (a0_1 : Int) (a0_2 : List Q1) (hr0_0 : RdS Q0.fl.rep R.heap A0_0 a0_0) (hn0_0 : a0_0.length = n0_0) (hc0_0 : n0_0 ≤ c0_0) (hn0_2 : a0_2.length = n0_2) {r : (List Q1) × (List Q0) × Int × Int} (j : self_ a0_0 a0_1 a0_2 = some r),
  Spec Tryz.prog 125 [bp b0] R (pc b0 [.slice A0_0 n0_0 c0_0, i6 a0_1, .slice A0_2 n0_2 c0_2] 128 :: row Q1.fl 33 A0_2 n0_2 c0_2 a0_2 :: Fr) (fun v l' => ∃ (w252 : Nat) (w254 : Option Addr) (w255 : Nat) (w256 : Option Addr) (w257 : Nat) (w258 : Nat), v = i6 r.2.2.2 ∧ pc b0 [.slice w256 w257 w258, i6 r.2.2.1, .slice w254 w252 w255] 128 :: row Q1.fl 33 w254 w252 w255 r.1 :: Fr = l' ∧ r.1.length = w252 ∧ RdS Q0.fl.rep R.heap w256 r.2.1 ∧ r.2.1.length = w257 ∧ w257 ≤ w258)
theorem Q21.callee : Callee Tryz.prog 124 := ⟨_, Tryz.func124, by kernel_rfl, by kernel_rfl⟩
def Q21.SP (self_ : (List Q0) → Int → (List Q1) → Bs → Int → Option ((List Q1) × (List Q0) × Int × Int)) : Prop :=
 ∀ (R : Res) (Fr : List HProp) (b0 : Nat) (A0_0 : Option Addr) (n0_0 : Nat) (c0_0 : Nat) (A0_2 : Option Addr) (n0_2 : Nat) (c0_2 : Nat) (a0_0 : List Q0) (a0_1 : Int) (a0_2 : List Q1) (a1 : Bs) (a2 : Int) (hr0_0 : RdS Q0.fl.rep R.heap A0_0 a0_0) (hn0_0 : a0_0.length = n0_0) (hc0_0 : n0_0 ≤ c0_0) (hn0_2 : a0_2.length = n0_2) {r : (List Q1) × (List Q0) × Int × Int} (j : self_ a0_0 a0_1 a0_2 a1 a2 = some r),
  Spec Tryz.prog 124 [bp b0, .string ⟨(a1).toArray⟩, i6 a2, .func (.func 158) #[bp b0] #[]] R (pc b0 [.slice A0_0 n0_0 c0_0, i6 a0_1, .slice A0_2 n0_2 c0_2] 128 :: row Q1.fl 33 A0_2 n0_2 c0_2 a0_2 :: Fr) (fun v l' => ∃ (w252 : Nat) (w254 : Option Addr) (w255 : Nat) (w256 : Option Addr) (w257 : Nat) (w258 : Nat), v = i6 r.2.2.2 ∧ pc b0 [.slice w256 w257 w258, i6 r.2.2.1, .slice w254 w252 w255] 128 :: row Q1.fl 33 w254 w252 w255 r.1 :: Fr = l' ∧ r.1.length = w252 ∧ RdS Q0.fl.rep R.heap w256 r.2.1 ∧ r.2.1.length = w257 ∧ w257 ≤ w258)
theorem Q28.callee : Callee Tryz.prog 158 := ⟨_, Tryz.func158, by kernel_rfl, by kernel_rfl⟩
def Q28.SP (self_ : (List Q0) → Int → (List Q1) → Option ((List Q1) × (List Q0) × Int × Int)) : Prop :=
 ∀ (R : Res) (Fr : List HProp) (b0 : Nat) (A0_0 : Option Addr) (n0_0 : Nat) (c0_0 : Nat) (A0_2 : Option Addr) (n0_2 : Nat) (c0_2 : Nat) (a0_0 : List Q0) (a0_1 : Int) (a0_2 : List Q1) (hr0_0 : RdS Q0.fl.rep R.heap A0_0 a0_0) (hn0_0 : a0_0.length = n0_0) (hc0_0 : n0_0 ≤ c0_0) (hn0_2 : a0_2.length = n0_2) {r : (List Q1) × (List Q0) × Int × Int} (j : self_ a0_0 a0_1 a0_2 = some r),
  Spec Tryz.prog 158 [bp b0] R (pc b0 [.slice A0_0 n0_0 c0_0, i6 a0_1, .slice A0_2 n0_2 c0_2] 128 :: row Q1.fl 33 A0_2 n0_2 c0_2 a0_2 :: Fr) (fun v l' => ∃ (w252 : Nat) (w254 : Option Addr) (w255 : Nat) (w256 : Option Addr) (w257 : Nat) (w258 : Nat), v = i6 r.2.2.2 ∧ pc b0 [.slice w256 w257 w258, i6 r.2.2.1, .slice w254 w252 w255] 128 :: row Q1.fl 33 w254 w252 w255 r.1 :: Fr = l' ∧ r.1.length = w252 ∧ RdS Q0.fl.rep R.heap w256 r.2.1 ∧ r.2.1.length = w257 ∧ w257 ≤ w258)
theorem Q35.callee : Callee Tryz.prog 208 := ⟨_, Tryz.func208, by kernel_rfl, by kernel_rfl⟩
def Q35.SP (self_ : (List Q0) → Int → (List Q1) → Option ((List Q1) × (List Q0) × Int × Int)) : Prop :=
 ∀ (R : Res) (Fr : List HProp) (b0 : Nat) (A0_0 : Option Addr) (n0_0 : Nat) (c0_0 : Nat) (A0_2 : Option Addr) (n0_2 : Nat) (c0_2 : Nat) (a0_0 : List Q0) (a0_1 : Int) (a0_2 : List Q1) (hr0_0 : RdS Q0.fl.rep R.heap A0_0 a0_0) (hn0_0 : a0_0.length = n0_0) (hc0_0 : n0_0 ≤ c0_0) (hn0_2 : a0_2.length = n0_2) {r : (List Q1) × (List Q0) × Int × Int} (j : self_ a0_0 a0_1 a0_2 = some r),
  Spec Tryz.prog 208 [bp b0] R (pc b0 [.slice A0_0 n0_0 c0_0, i6 a0_1, .slice A0_2 n0_2 c0_2] 128 :: row Q1.fl 33 A0_2 n0_2 c0_2 a0_2 :: Fr) (fun v l' => ∃ (w252 : Nat) (w254 : Option Addr) (w255 : Nat) (w257 : Option Addr) (w258 : Nat) (w259 : Nat), v = i6 r.2.2.2 ∧ pc b0 [.slice w257 w258 w259, i6 r.2.2.1, .slice w254 w252 w255] 128 :: row Q1.fl 33 w254 w252 w255 r.1 :: Fr = l' ∧ r.1.length = w252 ∧ RdS Q0.fl.rep R.heap w257 r.2.1 ∧ r.2.1.length = w258 ∧ w258 ≤ w259)
noncomputable def Q11.g (self_0 : (List Q0) → Int → (List Q1) → Option ((List Q1) × (List Q0) × Int × Int)) (self_1 : (List Q0) → Int → (List Q1) → Bs → Int → Option ((List Q1) × (List Q0) × Int × Int)) (self_2 : (List Q0) → Int → (List Q1) → Option ((List Q1) × (List Q0) × Int × Int)) (self_3 : (List Q0) → Int → (List Q1) → Bs → Int → Option ((List Q1) × (List Q0) × Int × Int)) (self_4 : (List Q0) → Int → (List Q1) → Option ((List Q1) × (List Q0) × Int × Int)) (self_5 : (List Q0) → Int → (List Q1) → Option ((List Q1) × (List Q0) × Int × Int)) (q : List Q0) (u : Int) (x : List Q1) : Option ((List Q1) × (List Q0) × Int × Int) :=
 (self_1 q u x ([124] : Bs) 7).bind fun p =>
 some (p.1, p.2.1, p.2.2.1, p.2.2.2)
noncomputable def Q22.l0b (a1 : Bs) (a2 : Int) (self_2 : (List Q0) → Int → (List Q1) → Option ((List Q1) × (List Q0) × Int × Int)) (q : List Q1) (u : List Q0) (x D : Int) : Option (((List Q1) × (List Q0) × Int × Int) ⊕ (((List Q1) × (List Q0) × Int × Int) ⊕ ((List Q1) × (List Q0) × Int × Int))) :=
 (Q27.f u x q a1).bind fun G =>
 if G = true then
 (Q31.f u x q).bind fun C =>
 (self_2 C.1 C.2.1 q).bind fun p =>
 (Q20.f p.2.1 p.2.2.1 p.1 a2 D p.2.2.2 ([] : Bs) C.2.2.2.1).bind fun E =>
 nx (E.1, p.2.1, p.2.2.1, E.2)
 else
 dn (.inl (q, u, x, D))
noncomputable def Q22.l0 (a1 : Bs) (a2 : Int) (self_2 : (List Q0) → Int → (List Q1) → Option ((List Q1) × (List Q0) × Int × Int)) (p : List Q1) (q : List Q0) (u x : Int) : Option (((List Q1) × (List Q0) × Int × Int) ⊕ ((List Q1) × (List Q0) × Int × Int)) := iter (fun t_ : (List Q1) × (List Q0) × Int × Int => Q22.l0b a1 a2 self_2 t_.1 t_.2.1 t_.2.2.1 t_.2.2.2) (p, q, u, x)
noncomputable def Q22.g (self_0 : (List Q0) → Int → (List Q1) → Option ((List Q1) × (List Q0) × Int × Int)) (self_1 : (List Q0) → Int → (List Q1) → Bs → Int → Option ((List Q1) × (List Q0) × Int × Int)) (self_2 : (List Q0) → Int → (List Q1) → Option ((List Q1) × (List Q0) × Int × Int)) (self_3 : (List Q0) → Int → (List Q1) → Bs → Int → Option ((List Q1) × (List Q0) × Int × Int)) (self_4 : (List Q0) → Int → (List Q1) → Option ((List Q1) × (List Q0) × Int × Int)) (self_5 : (List Q0) → Int → (List Q1) → Option ((List Q1) × (List Q0) × Int × Int)) (q : List Q0) (u : Int) (x : List Q1) (a1 : Bs) (a2 : Int) : Option ((List Q1) × (List Q0) × Int × Int) :=
 (self_2 q u x).bind fun p =>
 jn (Q22.l0 a1 a2 self_2 p.1 p.2.1 p.2.2.1 p.2.2.2) (fun (s_ : (List Q1) × (List Q0) × Int × Int) =>
 some (s_.1, s_.2.1, s_.2.2.1, s_.2.2.2))
noncomputable def Q29.g (self_0 : (List Q0) → Int → (List Q1) → Option ((List Q1) × (List Q0) × Int × Int)) (self_1 : (List Q0) → Int → (List Q1) → Bs → Int → Option ((List Q1) × (List Q0) × Int × Int)) (self_2 : (List Q0) → Int → (List Q1) → Option ((List Q1) × (List Q0) × Int × Int)) (self_3 : (List Q0) → Int → (List Q1) → Bs → Int → Option ((List Q1) × (List Q0) × Int × Int)) (self_4 : (List Q0) → Int → (List Q1) → Option ((List Q1) × (List Q0) × Int × Int)) (self_5 : (List Q0) → Int → (List Q1) → Option ((List Q1) × (List Q0) × Int × Int)) (q : List Q0) (u : Int) (x : List Q1) : Option ((List Q1) × (List Q0) × Int × Int) :=
 (self_3 q u x ([38] : Bs) 6).bind fun p =>
 some (p.1, p.2.1, p.2.2.1, p.2.2.2)
noncomputable def Q21.l0b (a1 : Bs) (a2 : Int) (self_4 : (List Q0) → Int → (List Q1) → Option ((List Q1) × (List Q0) × Int × Int)) (q : List Q1) (u : List Q0) (x D : Int) : Option (((List Q1) × (List Q0) × Int × Int) ⊕ (((List Q1) × (List Q0) × Int × Int) ⊕ ((List Q1) × (List Q0) × Int × Int))) :=
 (Q27.f u x q a1).bind fun G =>
 if G = true then
 (Q31.f u x q).bind fun C =>
 (self_4 C.1 C.2.1 q).bind fun p =>
 (Q20.f p.2.1 p.2.2.1 p.1 a2 D p.2.2.2 ([] : Bs) C.2.2.2.1).bind fun E =>
 nx (E.1, p.2.1, p.2.2.1, E.2)
 else
 dn (.inl (q, u, x, D))
noncomputable def Q21.l0 (a1 : Bs) (a2 : Int) (self_4 : (List Q0) → Int → (List Q1) → Option ((List Q1) × (List Q0) × Int × Int)) (p : List Q1) (q : List Q0) (u x : Int) : Option (((List Q1) × (List Q0) × Int × Int) ⊕ ((List Q1) × (List Q0) × Int × Int)) := iter (fun t_ : (List Q1) × (List Q0) × Int × Int => Q21.l0b a1 a2 self_4 t_.1 t_.2.1 t_.2.2.1 t_.2.2.2) (p, q, u, x)
noncomputable def Q21.g (self_0 : (List Q0) → Int → (List Q1) → Option ((List Q1) × (List Q0) × Int × Int)) (self_1 : (List Q0) → Int → (List Q1) → Bs → Int → Option ((List Q1) × (List Q0) × Int × Int)) (self_2 : (List Q0) → Int → (List Q1) → Option ((List Q1) × (List Q0) × Int × Int)) (self_3 : (List Q0) → Int → (List Q1) → Bs → Int → Option ((List Q1) × (List Q0) × Int × Int)) (self_4 : (List Q0) → Int → (List Q1) → Option ((List Q1) × (List Q0) × Int × Int)) (self_5 : (List Q0) → Int → (List Q1) → Option ((List Q1) × (List Q0) × Int × Int)) (q : List Q0) (u : Int) (x : List Q1) (a1 : Bs) (a2 : Int) : Option ((List Q1) × (List Q0) × Int × Int) :=
 (self_4 q u x).bind fun p =>
 jn (Q21.l0 a1 a2 self_4 p.1 p.2.1 p.2.2.1 p.2.2.2) (fun (s_ : (List Q1) × (List Q0) × Int × Int) =>
 some (s_.1, s_.2.1, s_.2.2.1, s_.2.2.2))
noncomputable def Q28.g (self_0 : (List Q0) → Int → (List Q1) → Option ((List Q1) × (List Q0) × Int × Int)) (self_1 : (List Q0) → Int → (List Q1) → Bs → Int → Option ((List Q1) × (List Q0) × Int × Int)) (self_2 : (List Q0) → Int → (List Q1) → Option ((List Q1) × (List Q0) × Int × Int)) (self_3 : (List Q0) → Int → (List Q1) → Bs → Int → Option ((List Q1) × (List Q0) × Int × Int)) (self_4 : (List Q0) → Int → (List Q1) → Option ((List Q1) × (List Q0) × Int × Int)) (self_5 : (List Q0) → Int → (List Q1) → Option ((List Q1) × (List Q0) × Int × Int)) (q : List Q0) (u : Int) (p : List Q1) : Option ((List Q1) × (List Q0) × Int × Int) :=
 (Q27.f q u p ([126] : Bs)).bind fun a0 =>
 if a0 = true then
 (Q31.f q u p).bind fun M =>
 (self_4 M.1 M.2.1 p).bind fun x =>
 (Q20.f x.2.1 x.2.2.1 x.1 5 x.2.2.2 0 ([] : Bs) M.2.2.2.1).bind fun N =>
 some (N.1, x.2.1, x.2.2.1, N.2)
 else
 (Q27.f q u p ([60] : Bs)).bind fun a1 =>
 if a1 = true then
 (Q31.f q u p).bind fun I =>
 (Q100.f I.1 I.2.1 p ([62] : Bs)).bind fun O =>
 (self_4 O.1 I.2.1 p).bind fun C =>
 (Q20.f C.2.1 C.2.2.1 C.1 8 C.2.2.2 0 O.2 I.2.2.2.1).bind fun U =>
 some (U.1, C.2.1, C.2.2.1, U.2)
 else
 (Q27.f q u p ([91] : Bs)).bind fun a2 =>
 if a2 = true then
 (Q31.f q u p).bind fun J =>
 (Q100.f J.1 J.2.1 p ([93] : Bs)).bind fun V =>
 (self_4 V.1 J.2.1 p).bind fun D =>
 (Q20.f D.2.1 D.2.2.1 D.1 9 D.2.2.2 0 V.2 J.2.2.2.1).bind fun X =>
 some (X.1, D.2.1, D.2.2.1, X.2)
 else
 (Q27.f q u p ([40] : Bs)).bind fun a3 =>
 if a3 = true then
 (Q47.f q u p).bind fun a4 =>
 (self_0 a4.1 u p).bind fun E =>
 (Q84.f E.2.1 E.2.2.1 E.1 ([41] : Bs)).bind fun a5 =>
 some (E.1, a5, E.2.2.1, E.2.2.2)
 else
 if (0 : Int) ≤ 0 ∧ 0 < (q.length : Int) then
 if (gt q 0).Kind = 3 then
 (Q31.f q u p).bind fun G =>
 (Q20.f G.1 G.2.1 p 4 0 0 G.2.2.2.2.1 G.2.2.2.1).bind fun Z =>
 some (Z.1, G.1, G.2.1, Z.2)
 else
 if (gt q 0).Kind = 2 then
 (self_5 q u p).bind fun L =>
 some (L.1, L.2.1, L.2.2.1, L.2.2.2)
 else
 none
 else none
noncomputable def Q35.g (self_0 : (List Q0) → Int → (List Q1) → Option ((List Q1) × (List Q0) × Int × Int)) (self_1 : (List Q0) → Int → (List Q1) → Bs → Int → Option ((List Q1) × (List Q0) × Int × Int)) (self_2 : (List Q0) → Int → (List Q1) → Option ((List Q1) × (List Q0) × Int × Int)) (self_3 : (List Q0) → Int → (List Q1) → Bs → Int → Option ((List Q1) × (List Q0) × Int × Int)) (self_4 : (List Q0) → Int → (List Q1) → Option ((List Q1) × (List Q0) × Int × Int)) (self_5 : (List Q0) → Int → (List Q1) → Option ((List Q1) × (List Q0) × Int × Int)) (I : List Q0) (J : Int) (q : List Q1) : Option ((List Q1) × (List Q0) × Int × Int) :=
 (Q31.f I J q).bind fun p =>
 jn (
 if bseq p.2.2.2.2.1 ([116, 116] : Bs) = true then
 (Q20.f p.1 p.2.1 q 1 0 0 ([] : Bs) p.2.2.2.1).bind fun x =>
 up (some (x.1, p.1, p.2.1, x.2))
 else
 if bseq p.2.2.2.2.1 ([102, 102] : Bs) = true then
 (Q20.f p.1 p.2.1 q 2 0 0 ([] : Bs) p.2.2.2.1).bind fun C =>
 up (some (C.1, p.1, p.2.1, C.2))
 else
 if bseq p.2.2.2.2.1 ([109, 117] : Bs) = true then
 some (.inl 10)
 else
 if bseq p.2.2.2.2.1 ([110, 117] : Bs) = true then
 some (.inl 11)
 else
 (Q20.f p.1 p.2.1 q 3 0 0 p.2.2.2.2.1 p.2.2.2.1).bind fun D =>
 up (some (D.1, p.1, p.2.1, D.2))) (fun (L : Int) =>
 if (0 : Int) ≤ 0 ∧ 0 < (p.1.length : Int) then
 if (gt p.1 0).Kind = 3 then
 (Q47.f p.1 p.2.1 q).bind fun E =>
 (Q84.f E.1 p.2.1 q ([46] : Bs)).bind fun M =>
 (self_0 M p.2.1 q).bind fun u =>
 (Q20.f u.2.1 u.2.2.1 u.1 L u.2.2.2 0 E.2.2.2.1 p.2.2.2.1).bind fun G =>
 some (G.1, u.2.1, u.2.2.1, G.2)
 else
 none
 else none)
noncomputable def Q11.tab : Nat → ((List Q0) → Int → (List Q1) → Option ((List Q1) × (List Q0) × Int × Int)) × ((List Q0) → Int → (List Q1) → Bs → Int → Option ((List Q1) × (List Q0) × Int × Int)) × ((List Q0) → Int → (List Q1) → Option ((List Q1) × (List Q0) × Int × Int)) × ((List Q0) → Int → (List Q1) → Bs → Int → Option ((List Q1) × (List Q0) × Int × Int)) × ((List Q0) → Int → (List Q1) → Option ((List Q1) × (List Q0) × Int × Int)) × ((List Q0) → Int → (List Q1) → Option ((List Q1) × (List Q0) × Int × Int))
 | 0 => (fun _ _ _ => none, fun _ _ _ _ _ => none, fun _ _ _ => none, fun _ _ _ _ _ => none, fun _ _ _ => none, fun _ _ _ => none)
 | k_ + 1 => (Q11.g ((Q11.tab k_).1) ((Q11.tab k_).2.1) ((Q11.tab k_).2.2.1) ((Q11.tab k_).2.2.2.1) ((Q11.tab k_).2.2.2.2.1) ((Q11.tab k_).2.2.2.2.2), Q22.g ((Q11.tab k_).1) ((Q11.tab k_).2.1) ((Q11.tab k_).2.2.1) ((Q11.tab k_).2.2.2.1) ((Q11.tab k_).2.2.2.2.1) ((Q11.tab k_).2.2.2.2.2), Q29.g ((Q11.tab k_).1) ((Q11.tab k_).2.1) ((Q11.tab k_).2.2.1) ((Q11.tab k_).2.2.2.1) ((Q11.tab k_).2.2.2.2.1) ((Q11.tab k_).2.2.2.2.2), Q21.g ((Q11.tab k_).1) ((Q11.tab k_).2.1) ((Q11.tab k_).2.2.1) ((Q11.tab k_).2.2.2.1) ((Q11.tab k_).2.2.2.2.1) ((Q11.tab k_).2.2.2.2.2), Q28.g ((Q11.tab k_).1) ((Q11.tab k_).2.1) ((Q11.tab k_).2.2.1) ((Q11.tab k_).2.2.2.1) ((Q11.tab k_).2.2.2.2.1) ((Q11.tab k_).2.2.2.2.2), Q35.g ((Q11.tab k_).1) ((Q11.tab k_).2.1) ((Q11.tab k_).2.2.1) ((Q11.tab k_).2.2.2.1) ((Q11.tab k_).2.2.2.2.1) ((Q11.tab k_).2.2.2.2.2))
noncomputable def Q11.n (k_ : Nat) : (List Q0) → Int → (List Q1) → Option ((List Q1) × (List Q0) × Int × Int) := (Q11.tab k_).1
noncomputable def Q11.f (p : List Q0) (q : Int) (u : List Q1) : Option ((List Q1) × (List Q0) × Int × Int) := recF fun k_ => Q11.n k_ p q u
noncomputable def Q22.n (k_ : Nat) : (List Q0) → Int → (List Q1) → Bs → Int → Option ((List Q1) × (List Q0) × Int × Int) := (Q11.tab k_).2.1
noncomputable def Q29.n (k_ : Nat) : (List Q0) → Int → (List Q1) → Option ((List Q1) × (List Q0) × Int × Int) := (Q11.tab k_).2.2.1
noncomputable def Q21.n (k_ : Nat) : (List Q0) → Int → (List Q1) → Bs → Int → Option ((List Q1) × (List Q0) × Int × Int) := (Q11.tab k_).2.2.2.1
noncomputable def Q28.n (k_ : Nat) : (List Q0) → Int → (List Q1) → Option ((List Q1) × (List Q0) × Int × Int) := (Q11.tab k_).2.2.2.2.1
noncomputable def Q35.n (k_ : Nat) : (List Q0) → Int → (List Q1) → Option ((List Q1) × (List Q0) × Int × Int) := (Q11.tab k_).2.2.2.2.2
theorem Q11.step (self_0 : (List Q0) → Int → (List Q1) → Option ((List Q1) × (List Q0) × Int × Int)) (self_1 : (List Q0) → Int → (List Q1) → Bs → Int → Option ((List Q1) × (List Q0) × Int × Int)) (self_2 : (List Q0) → Int → (List Q1) → Option ((List Q1) × (List Q0) × Int × Int)) (self_3 : (List Q0) → Int → (List Q1) → Bs → Int → Option ((List Q1) × (List Q0) × Int × Int)) (self_4 : (List Q0) → Int → (List Q1) → Option ((List Q1) × (List Q0) × Int × Int)) (self_5 : (List Q0) → Int → (List Q1) → Option ((List Q1) × (List Q0) × Int × Int)) (ih_0 : Q11.SP self_0) (ih_1 : Q22.SP self_1) (ih_2 : Q29.SP self_2) (ih_3 : Q21.SP self_3) (ih_4 : Q28.SP self_4) (ih_5 : Q35.SP self_5) :
 Q11.SP (Q11.g self_0 self_1 self_2 self_3 self_4 self_5) := by
 intro R Fr b0 A0_0 n0_0 c0_0 A0_2 n0_2 c0_2 p x q hr0_0 hn0_0 hc0_0 hn0_2 r j; subst hn0_0; subst hn0_2; refine Spec.of Tryz.func66 rfl rfl ?_; unfold Q11.g at j; have j := brun j; refine sR 1 rfl (nT (sR 3 rfl ?_)); obtain ⟨u, C, j⟩ := bbind j; refine At.call rfl Q22.callee rfl rfl rfl (ih_1 _ _ b0 A0_0 p.length c0_0 A0_2 q.length c0_2 p x q ([124] : Bs) 7 hr0_0 rfl hc0_0 rfl C) ?_; rintro _ _ ⟨M, D, E, G, N, I, rfl, rfl, rfl, J, rfl, L⟩; refine At.run 1 rfl (nT (At.ret ?_)); cases bret j; exact At.res (.inl rfl) rfl rfl ⟨u.1.length, D, E, G, u.2.1.length, I, rfl, rfl, rfl, J, rfl, L⟩
theorem Q22.step (self_0 : (List Q0) → Int → (List Q1) → Option ((List Q1) × (List Q0) × Int × Int)) (self_1 : (List Q0) → Int → (List Q1) → Bs → Int → Option ((List Q1) × (List Q0) × Int × Int)) (self_2 : (List Q0) → Int → (List Q1) → Option ((List Q1) × (List Q0) × Int × Int)) (self_3 : (List Q0) → Int → (List Q1) → Bs → Int → Option ((List Q1) × (List Q0) × Int × Int)) (self_4 : (List Q0) → Int → (List Q1) → Option ((List Q1) × (List Q0) × Int × Int)) (self_5 : (List Q0) → Int → (List Q1) → Option ((List Q1) × (List Q0) × Int × Int)) (ih_0 : Q11.SP self_0) (ih_1 : Q22.SP self_1) (ih_2 : Q29.SP self_2) (ih_3 : Q21.SP self_3) (ih_4 : Q28.SP self_4) (ih_5 : Q35.SP self_5) :
 Q22.SP (Q22.g self_0 self_1 self_2 self_3 self_4 self_5) := by
 intro R Fr b0 A0_0 n0_0 c0_0 A0_2 n0_2 c0_2 N a8 O a1 a2 hr0_0 hn0_0 hc0_0 hn0_2 r j; subst hn0_0; subst hn0_2; refine Spec.of Tryz.func124 rfl rfl ?_; unfold Q22.g at j; have j := brun j; refine sR 1 rfl (nT (sR 1 rfl ?_)); obtain ⟨u, a9, j⟩ := bbind j; refine At.callF rfl Q29.callee rfl rfl rfl (ih_2 _ _ b0 A0_0 N.length c0_0 A0_2 O.length c0_2 N a8 O hr0_0 rfl hc0_0 rfl a9) ?_; rintro _ _ ⟨g1, b2, b3, b4, g2, b5, rfl, rfl, rfl, b6, rfl, b7⟩; refine At.run 1 rfl (nT (At.seq ?_)); refine At.block ?_; obtain ⟨b8, b9, g3, j⟩ := bjoin j; obtain ⟨U, G, c4⟩ := bsome j; clear j; unfold Q22.l0 at G; obtain ⟨I, C⟩ := Q14.1 G; clear G; refine At.loopJ (X := (List Q1) × (List Q0) × Int × Int × Nat × (Option Addr) × Nat × (Option Addr) × Nat × Nat) (Y := (List Q1) × (List Q0) × Int × Int × Nat × (Option Addr) × Nat × (Option Addr) × Nat × Nat) (e0 := 0) (fun s_ => [(0, bp b0), (1, .string ⟨(a1).toArray⟩), (2, i6 a2), (3, .func (.func 125) #[bp b0] #[]), (9, i6 s_.2.2.2.1)]) (fun s_ => pc b0 [.slice s_.2.2.2.2.2.2.2.1 (d8 s_).1 (d8 s_).2, i6 s_.2.2.1, .slice s_.2.2.2.2.2.1 s_.2.2.2.2.1 s_.2.2.2.2.2.2.1] 128 :: row Q1.fl 33 s_.2.2.2.2.2.1 s_.2.2.2.2.1 s_.2.2.2.2.2.2.1 s_.1 :: Fr) (fun m_ => fun s_ => iterN (fun t_ : (List Q1) × (List Q0) × Int × Int => Q22.l0b a1 a2 self_2 t_.1 t_.2.1 t_.2.2.1 t_.2.2.2) m_ (s_.1, s_.2.1, s_.2.2.1, s_.2.2.2.1) = some U ∧ s_.1.length = s_.2.2.2.2.1 ∧ RdS Q0.fl.rep R.heap s_.2.2.2.2.2.2.2.1 s_.2.1 ∧ s_.2.1.length = (d8 s_).1 ∧ (d8 s_).1 ≤ (d8 s_).2) I (u.1, u.2.1, u.2.2.1, u.2.2.2, u.1.length, b2, b3, b4, u.2.1.length, b5) ⟨C, rfl, b6, rfl, b7⟩ (fun s_ => [(9, i6 s_.2.2.2.1)]) (fun s_ => pc b0 [.slice s_.2.2.2.2.2.2.2.1 (d8 s_).1 (d8 s_).2, i6 s_.2.2.1, .slice s_.2.2.2.2.2.1 s_.2.2.2.2.1 s_.2.2.2.2.2.2.1] 128 :: row Q1.fl 33 s_.2.2.2.2.2.1 s_.2.2.2.2.1 s_.2.2.2.2.2.2.1 s_.1 :: Fr) (fun s_ => b8 (.inl (s_.1, s_.2.1, s_.2.2.1, s_.2.2.2.1)) = some r ∧ s_.1.length = s_.2.2.2.2.1 ∧ RdS Q0.fl.rep R.heap s_.2.2.2.2.2.2.2.1 s_.2.1 ∧ s_.2.1.length = (d8 s_).1 ∧ (d8 s_).1 ≤ (d8 s_).2) (fun a w e hs => ⟨e.sub ⟨rfl, rfl, rfl, rfl, rfl, trivial⟩, (by exact hs)⟩) ?_ (fun c5 => ?_)
 ·rintro ⟨V, Z, g4, g5, c6, c7, c8, c9, d0, d1⟩ ⟨j, d2, d3, d4, d5⟩; obtain rfl : V.length = c6 := d2; obtain rfl : Z.length = d0 := d4; have j := (b9 _).symm.trans j
  ·refine At.ibx ?_; refine At.thn (sR 2 rfl (nT (At.ret ?_))); obtain rfl := (bret j).symm; exact At.res (.inl rfl) rfl rfl ⟨V.length, c7, c8, c9, Z.length, d1, rfl, rfl, rfl, d3, rfl, d5⟩
 ·clear C I; rintro I ⟨x, E, a0, D, d6, a3, a4, d7, d9, e1⟩ ⟨C, e2, J, e3, L⟩; obtain rfl : x.length = d6 := e2; obtain rfl : E.length = d9 := e3; obtain ⟨e4, f_, e5, hf_, j⟩ := bit C; clear C; have j : (Q22.l0b a1 a2 self_2 x E a0 D).bind _ = some U := j; unfold Q22.l0b at j
  ·refine At.seq (sR 2 rfl ?_); obtain ⟨g6, e6, j⟩ := bbind j; refine At.call rfl Q27.callee rfl rfl rfl (Q27.spec J rfl L rfl e6) ?_; rintro _ _ ⟨rfl, rfl⟩; refine nT ?_; rcases bite j with ⟨M, j⟩ | ⟨M, j⟩
   ··refine At.condT rfl M ?_
     refine At.skip (At.thn ?_); refine At.block ?_; refine sR 1 rfl ?_; obtain ⟨p, e7, j⟩ := bbind j; refine At.call rfl Q31.callee rfl rfl rfl (Q31.spec J rfl L rfl e7) ?_; rintro _ _ ⟨e8, g7, e9, rfl, rfl, f0, rfl, f1⟩; refine At.alloc rfl rfl rfl (fun f3 => ?_); refine At.store rfl rfl rfl rfl .z rfl rfl rfl (.c (.c (.c (.c .n)))) ?_; refine nT ?_; refine At.held [pc f3 [i6 p.2.2.1, i6 p.2.2.2.1, .string ⟨(p.2.2.2.2.1).toArray⟩, i6 p.2.2.2.2.2] 115] 10 rfl ?_; refine At.H.pw 0 rfl rfl rfl rfl rfl (.c .z .n) ?_; refine At.H.pw 1 rfl rfl rfl rfl rfl (.c .z .n) ?_; refine At.H.pw 2 rfl rfl rfl rfl rfl (.c .z .n) ?_; refine At.H.pw 3 rfl rfl rfl rfl rfl (.c .z .n) ?_; refine At.H.pw 5 rfl rfl rfl rfl rfl (.c .z .n) ?_; refine At.H.tw 6 rfl (Y.load rfl rfl .z rfl rfl rfl) rfl rfl rfl (.c .z .n) ?_; refine At.H.al [4] (Q7 ?_ Q8)
     ··refine At.HO.op rfl ?_
       refine At.f2 (At.f2 ?_); obtain ⟨q, f4, j⟩ := bbind j; refine At.callF rfl Q29.callee rfl rfl rfl (ih_2 _ _ b0 e8 p.1.length e9 a3 x.length a4 p.1 p.2.1 x f0 rfl f1 rfl f4) ?_; rintro _ _ ⟨g8, g9, h0, f5, h1, f6, rfl, rfl, rfl, a5, rfl, a6⟩; refine At.HO.back (.c (.s (.s .z)) .n) ?_; refine At.H.tw 7 rfl (Y.build (is := [0, 1, 2, 4]) (xo := [.tmp 19, .tmp 20, .tmp 22, .tmp 24]) (vs := [i6 a2, i6 D, i6 q.2.2.2, i6 p.2.2.2.1]) (cs := [i6 a2, i6 D, i6 q.2.2.2, .string ⟨(([] : Bs)).toArray⟩, i6 p.2.2.2.1]) rfl rfl rfl rfl rfl rfl) rfl rfl rfl (.c (.s (.s .z)) .n) ?_; refine At.H.al [8] (Q7 ?_ Q8)
       ··refine At.HO.op rfl ?_
         obtain ⟨a7, f7, j⟩ := bbind j; refine At.call rfl Q20.callee rfl rfl rfl (Q20.spec a5 rfl a6 rfl f7) ?_; rintro _ _ ⟨f8, f9, rfl, rfl⟩; refine At.HO.back (.c (.s (.s .z)) .n) ?_; refine At.H.pw 9 rfl rfl rfl rfl rfl (.c (.s (.s .z)) .n) ?_; refine At.H.done (by kernel_rfl) ?_; refine At.ibn ?_; refine At.rowLen (.s .z) fun g0 => ?_; refine At.drop (.s (.s .z)) ?_; have j := bnx hf_ j; exact fun a w e hs => ⟨e4, (a7.1, q.2.1, q.2.2.1, a7.2, (q.1 ++ ([(⟨a2, D, q.2.2.2, ([] : Bs), p.2.2.2.1⟩ : Q1)] : List Q1)).length, f8, f9, f5, q.2.1.length, f6), e5, ⟨j, g0, a5, rfl, a6⟩, e.sub ⟨rfl, rfl, rfl, rfl, rfl, trivial⟩, hs⟩
   ··refine At.condF rfl (bn M) ?_
     refine At.exit ?_; refine At.the ?_; refine At.the ?_; exact fun a w e hs => c5 (x, E, a0, D, x.length, a3, a4, d7, E.length, e1) ⟨(bdn j c4), rfl, J, rfl, L⟩ a w (e.sub ⟨rfl, trivial⟩) hs
theorem Q29.step (self_0 : (List Q0) → Int → (List Q1) → Option ((List Q1) × (List Q0) × Int × Int)) (self_1 : (List Q0) → Int → (List Q1) → Bs → Int → Option ((List Q1) × (List Q0) × Int × Int)) (self_2 : (List Q0) → Int → (List Q1) → Option ((List Q1) × (List Q0) × Int × Int)) (self_3 : (List Q0) → Int → (List Q1) → Bs → Int → Option ((List Q1) × (List Q0) × Int × Int)) (self_4 : (List Q0) → Int → (List Q1) → Option ((List Q1) × (List Q0) × Int × Int)) (self_5 : (List Q0) → Int → (List Q1) → Option ((List Q1) × (List Q0) × Int × Int)) (ih_0 : Q11.SP self_0) (ih_1 : Q22.SP self_1) (ih_2 : Q29.SP self_2) (ih_3 : Q21.SP self_3) (ih_4 : Q28.SP self_4) (ih_5 : Q35.SP self_5) :
 Q29.SP (Q29.g self_0 self_1 self_2 self_3 self_4 self_5) := by
 intro R Fr b0 A0_0 n0_0 c0_0 A0_2 n0_2 c0_2 p x q hr0_0 hn0_0 hc0_0 hn0_2 r j; subst hn0_0; subst hn0_2; refine Spec.of Tryz.func125 rfl rfl ?_; unfold Q29.g at j; have j := brun j; refine sR 1 rfl (nT (sR 3 rfl ?_)); obtain ⟨u, C, j⟩ := bbind j; refine At.call rfl Q21.callee rfl rfl rfl (ih_3 _ _ b0 A0_0 p.length c0_0 A0_2 q.length c0_2 p x q ([38] : Bs) 6 hr0_0 rfl hc0_0 rfl C) ?_; rintro _ _ ⟨M, D, E, G, N, I, rfl, rfl, rfl, J, rfl, L⟩; refine At.run 1 rfl (nT (At.ret ?_)); cases bret j; exact At.res (.inl rfl) rfl rfl ⟨u.1.length, D, E, G, u.2.1.length, I, rfl, rfl, rfl, J, rfl, L⟩
theorem Q21.step (self_0 : (List Q0) → Int → (List Q1) → Option ((List Q1) × (List Q0) × Int × Int)) (self_1 : (List Q0) → Int → (List Q1) → Bs → Int → Option ((List Q1) × (List Q0) × Int × Int)) (self_2 : (List Q0) → Int → (List Q1) → Option ((List Q1) × (List Q0) × Int × Int)) (self_3 : (List Q0) → Int → (List Q1) → Bs → Int → Option ((List Q1) × (List Q0) × Int × Int)) (self_4 : (List Q0) → Int → (List Q1) → Option ((List Q1) × (List Q0) × Int × Int)) (self_5 : (List Q0) → Int → (List Q1) → Option ((List Q1) × (List Q0) × Int × Int)) (ih_0 : Q11.SP self_0) (ih_1 : Q22.SP self_1) (ih_2 : Q29.SP self_2) (ih_3 : Q21.SP self_3) (ih_4 : Q28.SP self_4) (ih_5 : Q35.SP self_5) :
 Q21.SP (Q21.g self_0 self_1 self_2 self_3 self_4 self_5) := by
 intro R Fr b0 A0_0 n0_0 c0_0 A0_2 n0_2 c0_2 N a8 O a1 a2 hr0_0 hn0_0 hc0_0 hn0_2 r j; subst hn0_0; subst hn0_2; refine Spec.of Tryz.func124 rfl rfl ?_; unfold Q21.g at j; have j := brun j; refine sR 1 rfl (nT (sR 1 rfl ?_)); obtain ⟨u, a9, j⟩ := bbind j; refine At.callF rfl Q28.callee rfl rfl rfl (ih_4 _ _ b0 A0_0 N.length c0_0 A0_2 O.length c0_2 N a8 O hr0_0 rfl hc0_0 rfl a9) ?_; rintro _ _ ⟨g1, b2, b3, b4, g2, b5, rfl, rfl, rfl, b6, rfl, b7⟩; refine At.run 1 rfl (nT (At.seq ?_)); refine At.block ?_; obtain ⟨b8, b9, g3, j⟩ := bjoin j; obtain ⟨U, G, c4⟩ := bsome j; clear j; unfold Q21.l0 at G; obtain ⟨I, C⟩ := Q14.1 G; clear G; refine At.loopJ (X := (List Q1) × (List Q0) × Int × Int × Nat × (Option Addr) × Nat × (Option Addr) × Nat × Nat) (Y := (List Q1) × (List Q0) × Int × Int × Nat × (Option Addr) × Nat × (Option Addr) × Nat × Nat) (e0 := 0) (fun s_ => [(0, bp b0), (1, .string ⟨(a1).toArray⟩), (2, i6 a2), (3, .func (.func 158) #[bp b0] #[]), (9, i6 s_.2.2.2.1)]) (fun s_ => pc b0 [.slice s_.2.2.2.2.2.2.2.1 (d8 s_).1 (d8 s_).2, i6 s_.2.2.1, .slice s_.2.2.2.2.2.1 s_.2.2.2.2.1 s_.2.2.2.2.2.2.1] 128 :: row Q1.fl 33 s_.2.2.2.2.2.1 s_.2.2.2.2.1 s_.2.2.2.2.2.2.1 s_.1 :: Fr) (fun m_ => fun s_ => iterN (fun t_ : (List Q1) × (List Q0) × Int × Int => Q21.l0b a1 a2 self_4 t_.1 t_.2.1 t_.2.2.1 t_.2.2.2) m_ (s_.1, s_.2.1, s_.2.2.1, s_.2.2.2.1) = some U ∧ s_.1.length = s_.2.2.2.2.1 ∧ RdS Q0.fl.rep R.heap s_.2.2.2.2.2.2.2.1 s_.2.1 ∧ s_.2.1.length = (d8 s_).1 ∧ (d8 s_).1 ≤ (d8 s_).2) I (u.1, u.2.1, u.2.2.1, u.2.2.2, u.1.length, b2, b3, b4, u.2.1.length, b5) ⟨C, rfl, b6, rfl, b7⟩ (fun s_ => [(9, i6 s_.2.2.2.1)]) (fun s_ => pc b0 [.slice s_.2.2.2.2.2.2.2.1 (d8 s_).1 (d8 s_).2, i6 s_.2.2.1, .slice s_.2.2.2.2.2.1 s_.2.2.2.2.1 s_.2.2.2.2.2.2.1] 128 :: row Q1.fl 33 s_.2.2.2.2.2.1 s_.2.2.2.2.1 s_.2.2.2.2.2.2.1 s_.1 :: Fr) (fun s_ => b8 (.inl (s_.1, s_.2.1, s_.2.2.1, s_.2.2.2.1)) = some r ∧ s_.1.length = s_.2.2.2.2.1 ∧ RdS Q0.fl.rep R.heap s_.2.2.2.2.2.2.2.1 s_.2.1 ∧ s_.2.1.length = (d8 s_).1 ∧ (d8 s_).1 ≤ (d8 s_).2) (fun a w e hs => ⟨e.sub ⟨rfl, rfl, rfl, rfl, rfl, trivial⟩, (by exact hs)⟩) ?_ (fun c5 => ?_)
 ·rintro ⟨V, Z, g4, g5, c6, c7, c8, c9, d0, d1⟩ ⟨j, d2, d3, d4, d5⟩; obtain rfl : V.length = c6 := d2; obtain rfl : Z.length = d0 := d4; have j := (b9 _).symm.trans j
  ·refine At.ibx ?_; refine At.thn (sR 2 rfl (nT (At.ret ?_))); obtain rfl := (bret j).symm; exact At.res (.inl rfl) rfl rfl ⟨V.length, c7, c8, c9, Z.length, d1, rfl, rfl, rfl, d3, rfl, d5⟩
 ·clear C I; rintro I ⟨x, E, a0, D, d6, a3, a4, d7, d9, e1⟩ ⟨C, e2, J, e3, L⟩; obtain rfl : x.length = d6 := e2; obtain rfl : E.length = d9 := e3; obtain ⟨e4, f_, e5, hf_, j⟩ := bit C; clear C; have j : (Q21.l0b a1 a2 self_4 x E a0 D).bind _ = some U := j; unfold Q21.l0b at j
  ·refine At.seq (sR 2 rfl ?_); obtain ⟨g6, e6, j⟩ := bbind j; refine At.call rfl Q27.callee rfl rfl rfl (Q27.spec J rfl L rfl e6) ?_; rintro _ _ ⟨rfl, rfl⟩; refine nT ?_; rcases bite j with ⟨M, j⟩ | ⟨M, j⟩
   ··refine At.condT rfl M ?_
     refine At.skip (At.thn ?_); refine At.block ?_; refine sR 1 rfl ?_; obtain ⟨p, e7, j⟩ := bbind j; refine At.call rfl Q31.callee rfl rfl rfl (Q31.spec J rfl L rfl e7) ?_; rintro _ _ ⟨e8, g7, e9, rfl, rfl, f0, rfl, f1⟩; refine At.alloc rfl rfl rfl (fun f3 => ?_); refine At.store rfl rfl rfl rfl .z rfl rfl rfl (.c (.c (.c (.c .n)))) ?_; refine nT ?_; refine At.held [pc f3 [i6 p.2.2.1, i6 p.2.2.2.1, .string ⟨(p.2.2.2.2.1).toArray⟩, i6 p.2.2.2.2.2] 115] 10 rfl ?_; refine At.H.pw 0 rfl rfl rfl rfl rfl (.c .z .n) ?_; refine At.H.pw 1 rfl rfl rfl rfl rfl (.c .z .n) ?_; refine At.H.pw 2 rfl rfl rfl rfl rfl (.c .z .n) ?_; refine At.H.pw 3 rfl rfl rfl rfl rfl (.c .z .n) ?_; refine At.H.pw 5 rfl rfl rfl rfl rfl (.c .z .n) ?_; refine At.H.tw 6 rfl (Y.load rfl rfl .z rfl rfl rfl) rfl rfl rfl (.c .z .n) ?_; refine At.H.al [4] (Q7 ?_ Q8)
     ··refine At.HO.op rfl ?_
       refine At.f2 (At.f2 ?_); obtain ⟨q, f4, j⟩ := bbind j; refine At.callF rfl Q28.callee rfl rfl rfl (ih_4 _ _ b0 e8 p.1.length e9 a3 x.length a4 p.1 p.2.1 x f0 rfl f1 rfl f4) ?_; rintro _ _ ⟨g8, g9, h0, f5, h1, f6, rfl, rfl, rfl, a5, rfl, a6⟩; refine At.HO.back (.c (.s (.s .z)) .n) ?_; refine At.H.tw 7 rfl (Y.build (is := [0, 1, 2, 4]) (xo := [.tmp 19, .tmp 20, .tmp 22, .tmp 24]) (vs := [i6 a2, i6 D, i6 q.2.2.2, i6 p.2.2.2.1]) (cs := [i6 a2, i6 D, i6 q.2.2.2, .string ⟨(([] : Bs)).toArray⟩, i6 p.2.2.2.1]) rfl rfl rfl rfl rfl rfl) rfl rfl rfl (.c (.s (.s .z)) .n) ?_; refine At.H.al [8] (Q7 ?_ Q8)
       ··refine At.HO.op rfl ?_
         obtain ⟨a7, f7, j⟩ := bbind j; refine At.call rfl Q20.callee rfl rfl rfl (Q20.spec a5 rfl a6 rfl f7) ?_; rintro _ _ ⟨f8, f9, rfl, rfl⟩; refine At.HO.back (.c (.s (.s .z)) .n) ?_; refine At.H.pw 9 rfl rfl rfl rfl rfl (.c (.s (.s .z)) .n) ?_; refine At.H.done (by kernel_rfl) ?_; refine At.ibn ?_; refine At.rowLen (.s .z) fun g0 => ?_; refine At.drop (.s (.s .z)) ?_; have j := bnx hf_ j; exact fun a w e hs => ⟨e4, (a7.1, q.2.1, q.2.2.1, a7.2, (q.1 ++ ([(⟨a2, D, q.2.2.2, ([] : Bs), p.2.2.2.1⟩ : Q1)] : List Q1)).length, f8, f9, f5, q.2.1.length, f6), e5, ⟨j, g0, a5, rfl, a6⟩, e.sub ⟨rfl, rfl, rfl, rfl, rfl, trivial⟩, hs⟩
   ··refine At.condF rfl (bn M) ?_
     refine At.exit ?_; refine At.the ?_; refine At.the ?_; exact fun a w e hs => c5 (x, E, a0, D, x.length, a3, a4, d7, E.length, e1) ⟨(bdn j c4), rfl, J, rfl, L⟩ a w (e.sub ⟨rfl, trivial⟩) hs
theorem Q28.step (self_0 : (List Q0) → Int → (List Q1) → Option ((List Q1) × (List Q0) × Int × Int)) (self_1 : (List Q0) → Int → (List Q1) → Bs → Int → Option ((List Q1) × (List Q0) × Int × Int)) (self_2 : (List Q0) → Int → (List Q1) → Option ((List Q1) × (List Q0) × Int × Int)) (self_3 : (List Q0) → Int → (List Q1) → Bs → Int → Option ((List Q1) × (List Q0) × Int × Int)) (self_4 : (List Q0) → Int → (List Q1) → Option ((List Q1) × (List Q0) × Int × Int)) (self_5 : (List Q0) → Int → (List Q1) → Option ((List Q1) × (List Q0) × Int × Int)) (ih_0 : Q11.SP self_0) (ih_1 : Q22.SP self_1) (ih_2 : Q29.SP self_2) (ih_3 : Q21.SP self_3) (ih_4 : Q28.SP self_4) (ih_5 : Q35.SP self_5) :
 Q28.SP (Q28.g self_0 self_1 self_2 self_3 self_4 self_5) := by
 intro R Fr b0 A0_0 n0_0 c0_0 A0_2 n0_2 c0_2 a0 a1 u hr0_0 hn0_0 hc0_0 hn0_2 r j; subst hn0_0; subst hn0_2; refine Spec.of Tryz.func158 rfl rfl ?_; unfold Q28.g at j; have j := brun j; refine sR 1 rfl (nT (At.seq ?_)); refine At.block ?_; refine sR 1 rfl ?_; obtain ⟨m4, b4, j⟩ := bbind j; refine At.call rfl Q27.callee rfl rfl rfl (Q27.spec hr0_0 rfl hc0_0 rfl b4) ?_; rintro _ _ ⟨rfl, rfl⟩; refine At.run 1 rfl (nT ?_); rcases bite j with ⟨N, j⟩ | ⟨N, j⟩
 ··refine At.condT rfl N ?_
   refine sR 1 rfl ?_; obtain ⟨x, b5, j⟩ := bbind j; refine At.call rfl Q31.callee rfl rfl rfl (Q31.spec hr0_0 rfl hc0_0 rfl b5) ?_; rintro _ _ ⟨b6, m5, b7, rfl, rfl, b8, rfl, b9⟩; refine At.alloc rfl rfl rfl (fun c4 => ?_); refine At.store rfl rfl rfl rfl .z rfl rfl rfl (.c (.c (.c (.c .n)))) ?_; refine nT (At.seq ?_); refine At.held [pc c4 [i6 x.2.2.1, i6 x.2.2.2.1, .string ⟨(x.2.2.2.2.1).toArray⟩, i6 x.2.2.2.2.2] 115] 8 rfl ?_; refine At.H.pw 0 rfl rfl rfl rfl rfl (.c .z .n) ?_; refine At.H.pw 1 rfl rfl rfl rfl rfl (.c .z .n) ?_; refine At.H.pw 3 rfl rfl rfl rfl rfl (.c .z .n) ?_; refine At.H.tw 4 rfl (Y.load rfl rfl .z rfl rfl rfl) rfl rfl rfl (.c .z .n) ?_; refine At.H.al [2] (Q7 ?_ Q8)
   ··refine At.HO.op rfl ?_
     refine At.f2 (At.f2 ?_); obtain ⟨G, c5, j⟩ := bbind j; refine At.call rfl Q28.callee rfl rfl rfl (ih_4 _ _ b0 b6 x.1.length b7 A0_2 u.length c0_2 x.1 x.2.1 u b8 rfl b9 rfl c5) ?_; rintro _ _ ⟨m6, m7, m8, c6, m9, c7, rfl, rfl, rfl, a2, rfl, a3⟩; refine At.HO.back (.c (.s (.s .z)) .n) ?_; refine At.H.tw 5 rfl (Y.build (is := [0, 1, 4]) (xo := [.const (i6 5), .tmp 17, .tmp 19]) (vs := [i6 5, i6 G.2.2.2, i6 x.2.2.2.1]) (cs := [i6 5, i6 G.2.2.2, i6 0, .string ⟨(([] : Bs)).toArray⟩, i6 x.2.2.2.1]) rfl rfl rfl rfl rfl rfl) rfl rfl rfl (.c (.s (.s .z)) .n) ?_; refine At.H.al [6] (Q7 ?_ Q8)
     ··refine At.HO.op rfl ?_
       obtain ⟨n2, c8, j⟩ := bbind j; refine At.call rfl Q20.callee rfl rfl rfl (Q20.spec a2 rfl a3 rfl c8) ?_; rintro _ _ ⟨c9, d0, rfl, rfl⟩; refine At.HO.back (.c (.s (.s .z)) .n) ?_; refine At.H.pw 7 rfl rfl rfl rfl rfl (.c (.s (.s .z)) .n) ?_; refine At.H.done (by kernel_rfl) ?_; refine At.thn (At.ret ?_); refine At.ibr ?_; refine At.thr ?_; refine At.rowLen (.s .z) fun d1 => ?_; refine At.drop (.s (.s .z)) ?_; cases bret j; exact At.res (.inl rfl) rfl rfl ⟨(G.1 ++ ([(⟨5, G.2.2.2, 0, ([] : Bs), x.2.2.2.1⟩ : Q1)] : List Q1)).length, c9, d0, c6, G.2.1.length, c7, rfl, rfl, d1, a2, rfl, a3⟩
 ··refine At.condF rfl (bn N) ?_
   refine sR 1 rfl ?_; obtain ⟨n4, d2, j⟩ := bbind j; refine At.call rfl Q27.callee rfl rfl rfl (Q27.spec hr0_0 rfl hc0_0 rfl d2) ?_; rintro _ _ ⟨rfl, rfl⟩; refine At.run 1 rfl (nT ?_); rcases bite j with ⟨O, j⟩ | ⟨O, j⟩
   ··refine At.condT rfl O ?_
     refine sR 1 rfl ?_; obtain ⟨C, d3, j⟩ := bbind j; refine At.call rfl Q31.callee rfl rfl rfl (Q31.spec hr0_0 rfl hc0_0 rfl d3) ?_; rintro _ _ ⟨n5, n6, n7, rfl, rfl, d4, rfl, d5⟩; refine At.alloc rfl rfl rfl (fun d6 => ?_); refine At.store rfl rfl rfl rfl .z rfl rfl rfl (.c (.c (.c (.c .n)))) ?_; refine nT (sR 1 rfl (At.f2 (At.f2 ?_))); obtain ⟨I, d7, j⟩ := bbind j; refine At.call rfl Q100.callee rfl rfl rfl (Q100.spec d4 rfl d5 rfl d7) ?_; rintro _ _ ⟨d8, n8, d9, rfl, rfl, e0, rfl, e1⟩; refine At.run 1 rfl (nT (At.seq ?_)); refine At.held [pc d6 [i6 C.2.2.1, i6 C.2.2.2.1, .string ⟨(C.2.2.2.2.1).toArray⟩, i6 C.2.2.2.2.2] 115] 9 rfl ?_; refine At.H.pw 0 rfl rfl rfl rfl rfl (.c (.s (.s .z)) .n) ?_; refine At.H.pw 1 rfl rfl rfl rfl rfl (.c (.s (.s .z)) .n) ?_; refine At.H.pw 3 rfl rfl rfl rfl rfl (.c (.s (.s .z)) .n) ?_; refine At.H.pw 4 rfl rfl rfl rfl rfl (.c (.s (.s .z)) .n) ?_; refine At.H.tw 5 rfl (Y.load rfl rfl .z rfl rfl rfl) rfl rfl rfl (.c (.s (.s .z)) .n) ?_; refine At.H.al [2] (Q7 ?_ Q8)
     ··refine At.HO.op rfl ?_
       obtain ⟨J, e2, j⟩ := bbind j; refine At.call rfl Q28.callee rfl rfl rfl (ih_4 _ _ b0 d8 I.1.length d9 A0_2 u.length c0_2 I.1 C.2.1 u e0 rfl e1 rfl e2) ?_; rintro _ _ ⟨n9, o0, o7, e3, o8, e4, rfl, rfl, rfl, a4, rfl, a5⟩; refine At.HO.back (.c (.s (.s .z)) .n) ?_; refine At.H.tw 6 rfl (Y.build (is := [0, 1, 3, 4]) (xo := [.const (i6 8), .tmp 31, .tmp 32, .tmp 34]) (vs := [i6 8, i6 J.2.2.2, .string ⟨(I.2).toArray⟩, i6 C.2.2.2.1]) (cs := [i6 8, i6 J.2.2.2, i6 0, .string ⟨(I.2).toArray⟩, i6 C.2.2.2.1]) rfl rfl rfl rfl rfl rfl) rfl rfl rfl (.c (.s (.s .z)) .n) ?_; refine At.H.al [7] (Q7 ?_ Q8)
       ··refine At.HO.op rfl ?_
         obtain ⟨o9, e5, j⟩ := bbind j; refine At.call rfl Q20.callee rfl rfl rfl (Q20.spec a4 rfl a5 rfl e5) ?_; rintro _ _ ⟨e6, e7, rfl, rfl⟩; refine At.HO.back (.c (.s (.s .z)) .n) ?_; refine At.H.pw 8 rfl rfl rfl rfl rfl (.c (.s (.s .z)) .n) ?_; refine At.H.done (by kernel_rfl) ?_; refine At.thn (At.ret ?_); refine At.ibr ?_; refine At.thr ?_; refine At.rowLen (.s .z) fun e8 => ?_; refine At.drop (.s (.s .z)) ?_; cases bret j; exact At.res (.inl rfl) rfl rfl ⟨(J.1 ++ ([(⟨8, J.2.2.2, 0, I.2, C.2.2.2.1⟩ : Q1)] : List Q1)).length, e6, e7, e3, J.2.1.length, e4, rfl, rfl, e8, a4, rfl, a5⟩
   ··refine At.condF rfl (bn O) ?_
     refine sR 1 rfl ?_; obtain ⟨p0, e9, j⟩ := bbind j; refine At.call rfl Q27.callee rfl rfl rfl (Q27.spec hr0_0 rfl hc0_0 rfl e9) ?_; rintro _ _ ⟨rfl, rfl⟩; refine At.run 1 rfl (nT ?_); rcases bite j with ⟨U, j⟩ | ⟨U, j⟩
     ··refine At.condT rfl U ?_
       refine sR 1 rfl ?_; obtain ⟨D, f0, j⟩ := bbind j; refine At.call rfl Q31.callee rfl rfl rfl (Q31.spec hr0_0 rfl hc0_0 rfl f0) ?_; rintro _ _ ⟨p1, p2, p3, rfl, rfl, f1, rfl, f3⟩; refine At.alloc rfl rfl rfl (fun f4 => ?_); refine At.store rfl rfl rfl rfl .z rfl rfl rfl (.c (.c (.c (.c .n)))) ?_; refine nT (sR 1 rfl (At.f2 (At.f2 ?_))); obtain ⟨L, f5, j⟩ := bbind j; refine At.call rfl Q100.callee rfl rfl rfl (Q100.spec f1 rfl f3 rfl f5) ?_; rintro _ _ ⟨f6, p4, f7, rfl, rfl, f8, rfl, f9⟩; refine At.run 1 rfl (nT (At.seq ?_)); refine At.held [pc f4 [i6 D.2.2.1, i6 D.2.2.2.1, .string ⟨(D.2.2.2.2.1).toArray⟩, i6 D.2.2.2.2.2] 115] 9 rfl ?_; refine At.H.pw 0 rfl rfl rfl rfl rfl (.c (.s (.s .z)) .n) ?_; refine At.H.pw 1 rfl rfl rfl rfl rfl (.c (.s (.s .z)) .n) ?_; refine At.H.pw 3 rfl rfl rfl rfl rfl (.c (.s (.s .z)) .n) ?_; refine At.H.pw 4 rfl rfl rfl rfl rfl (.c (.s (.s .z)) .n) ?_; refine At.H.tw 5 rfl (Y.load rfl rfl .z rfl rfl rfl) rfl rfl rfl (.c (.s (.s .z)) .n) ?_; refine At.H.al [2] (Q7 ?_ Q8)
       ··refine At.HO.op rfl ?_
         obtain ⟨M, g0, j⟩ := bbind j; refine At.call rfl Q28.callee rfl rfl rfl (ih_4 _ _ b0 f6 L.1.length f7 A0_2 u.length c0_2 L.1 D.2.1 u f8 rfl f9 rfl g0) ?_; rintro _ _ ⟨p5, p6, p7, g1, p8, g2, rfl, rfl, rfl, a6, rfl, a7⟩; refine At.HO.back (.c (.s (.s .z)) .n) ?_; refine At.H.tw 6 rfl (Y.build (is := [0, 1, 3, 4]) (xo := [.const (i6 9), .tmp 46, .tmp 47, .tmp 49]) (vs := [i6 9, i6 M.2.2.2, .string ⟨(L.2).toArray⟩, i6 D.2.2.2.1]) (cs := [i6 9, i6 M.2.2.2, i6 0, .string ⟨(L.2).toArray⟩, i6 D.2.2.2.1]) rfl rfl rfl rfl rfl rfl) rfl rfl rfl (.c (.s (.s .z)) .n) ?_; refine At.H.al [7] (Q7 ?_ Q8)
         ··refine At.HO.op rfl ?_
           obtain ⟨p9, g3, j⟩ := bbind j; refine At.call rfl Q20.callee rfl rfl rfl (Q20.spec a6 rfl a7 rfl g3) ?_; rintro _ _ ⟨g4, g5, rfl, rfl⟩; refine At.HO.back (.c (.s (.s .z)) .n) ?_; refine At.H.pw 8 rfl rfl rfl rfl rfl (.c (.s (.s .z)) .n) ?_; refine At.H.done (by kernel_rfl) ?_; refine At.thn (At.ret ?_); refine At.ibr ?_; refine At.thr ?_; refine At.rowLen (.s .z) fun g6 => ?_; refine At.drop (.s (.s .z)) ?_; cases bret j; exact At.res (.inl rfl) rfl rfl ⟨(M.1 ++ ([(⟨9, M.2.2.2, 0, L.2, D.2.2.2.1⟩ : Q1)] : List Q1)).length, g4, g5, g1, M.2.1.length, g2, rfl, rfl, g6, a6, rfl, a7⟩
     ··refine At.condF rfl (bn U) ?_
       refine sR 1 rfl ?_; obtain ⟨q0, g7, j⟩ := bbind j; refine At.call rfl Q27.callee rfl rfl rfl (Q27.spec hr0_0 rfl hc0_0 rfl g7) ?_; rintro _ _ ⟨rfl, rfl⟩; refine At.run 1 rfl (nT ?_); rcases bite j with ⟨V, j⟩ | ⟨V, j⟩
       ··refine At.condT rfl V ?_
         refine sR 1 rfl ?_; obtain ⟨a8, g8, j⟩ := bbind j; refine At.call rfl Q47.callee rfl rfl rfl (Q47.spec hr0_0 rfl hc0_0 rfl g8) ?_; rintro _ _ ⟨g9, q1, h0, rfl, rfl, h1, rfl, h2⟩; refine nT (sR 1 rfl ?_); obtain ⟨h3, h4, j⟩ := bbind j; refine At.call rfl Q11.callee rfl rfl rfl (ih_0 _ _ b0 g9 a8.1.length h0 A0_2 u.length c0_2 a8.1 a1 u h1 rfl h2 rfl h4) ?_; rintro _ _ ⟨q2, h5, h6, q3, q4, q5, rfl, rfl, rfl, h7, rfl, h8⟩; refine At.run 1 rfl (nT (sR 1 rfl ?_)); obtain ⟨h9, k0, j⟩ := bbind j; refine At.call rfl Q84.callee rfl rfl rfl (Q84.spec h7 rfl h8 rfl k0) ?_; rintro _ _ ⟨k1, q6, k2, rfl, rfl, k3, rfl, k4⟩; refine nT (sR 2 rfl (nT (At.ret ?_))); refine At.ibr ?_; refine At.thr ?_; cases bret j; exact At.res (.inl rfl) rfl rfl ⟨h3.1.length, h5, h6, k1, h9.length, k2, rfl, rfl, rfl, k3, rfl, k4⟩
       ··refine At.condF rfl (bn V) ?_
         refine sR 3 rfl (At.y (Y.load rfl rfl .z rfl rfl rfl) rfl rfl rfl ?_); obtain ⟨p, j⟩ := bnone j; refine At.y (Y.ixRd hr0_0 rfl rfl rfl rfl rfl rfl rfl p.1 p.2) rfl rfl rfl ?_; refine At.y (Y.fa (RdS.some_ hr0_0 rfl p.1 p.2) rfl rfl rfl rfl rfl rfl) rfl rfl rfl ?_; refine At.y (Y.ldFl hr0_0 rfl (q := 0) rfl rfl p.1 p.2 rfl rfl rfl) rfl rfl rfl (At.run 2 rfl (nT ?_)); rcases bite j with ⟨X, j⟩ | ⟨X, j⟩
         ··refine At.condT rfl (decide_eq_true X) ?_
           refine sR 1 rfl ?_; obtain ⟨E, k5, j⟩ := bbind j; refine At.call rfl Q31.callee rfl rfl rfl (Q31.spec hr0_0 rfl hc0_0 rfl k5) ?_; rintro _ _ ⟨k6, q7, k7, rfl, rfl, a9, rfl, b2⟩; refine At.alloc rfl rfl rfl (fun q8 => ?_); refine At.store rfl rfl rfl rfl .z rfl rfl rfl (.c (.c (.c (.c .n)))) ?_; refine nT (sR 2 rfl (At.y (Y.load rfl rfl .z rfl rfl rfl) rfl rfl rfl (At.run 1 rfl (At.y (Y.load rfl rfl .z rfl rfl rfl) rfl rfl rfl ?_)))); refine At.y (Y.build (is := [0, 3, 4]) (xo := [.const (i6 4), .tmp 75, .tmp 77]) (vs := [i6 4, .string ⟨(E.2.2.2.2.1).toArray⟩, i6 E.2.2.2.1]) (cs := [i6 4, i6 0, i6 0, .string ⟨(E.2.2.2.2.1).toArray⟩, i6 E.2.2.2.1]) rfl rfl rfl rfl rfl rfl) rfl rfl rfl ?_; refine At.f2 (At.f2 ?_); obtain ⟨q9, k8, j⟩ := bbind j; refine At.call rfl Q20.callee rfl rfl rfl (Q20.spec a9 rfl b2 rfl k8) ?_; rintro _ _ ⟨k9, l5, rfl, rfl⟩; refine At.run 1 rfl (nT (At.ret ?_)); refine At.ibr ?_; refine At.thr ?_; refine At.rowLen (.s .z) fun l6 => ?_; refine At.drop (.s (.s .z)) ?_; cases bret j; exact At.res (.inl rfl) rfl rfl ⟨(u ++ ([(⟨4, 0, 0, E.2.2.2.2.1, E.2.2.2.1⟩ : Q1)] : List Q1)).length, k9, l5, k6, E.1.length, k7, rfl, rfl, l6, a9, rfl, b2⟩
         ··refine At.condF rfl (decide_eq_false X) ?_
           refine sR 3 rfl (At.y (Y.load rfl rfl .z rfl rfl rfl) rfl rfl rfl (At.y (Y.ixRd hr0_0 rfl rfl rfl rfl rfl rfl rfl p.1 p.2) rfl rfl rfl ?_)); refine At.y (Y.fa (RdS.some_ hr0_0 rfl p.1 p.2) rfl rfl rfl rfl rfl rfl) rfl rfl rfl ?_; refine At.y (Y.ldFl hr0_0 rfl (q := 0) rfl rfl p.1 p.2 rfl rfl rfl) rfl rfl rfl (At.run 2 rfl (nT ?_)); rcases bite j with ⟨Z, j⟩ | ⟨Z, j⟩
           ··refine At.condT rfl (decide_eq_true Z) ?_
             refine sR 1 rfl ?_; obtain ⟨b3, l7, j⟩ := bbind j; refine At.call rfl Q35.callee rfl rfl rfl (ih_5 _ _ b0 A0_0 a0.length c0_0 A0_2 u.length c0_2 a0 a1 u hr0_0 rfl hc0_0 rfl l7) ?_; rintro _ _ ⟨r0, l8, l9, m0, r1, m1, rfl, rfl, rfl, m2, rfl, m3⟩; refine At.run 1 rfl (nT (At.ret ?_)); refine At.ibr ?_; refine At.thr ?_; cases bret j; exact At.res (.inl rfl) rfl rfl ⟨b3.1.length, l8, l9, m0, b3.2.1.length, m1, rfl, rfl, rfl, m2, rfl, m3⟩
           ··refine At.condF rfl (decide_eq_false Z) ?_
             refine At.skip ?_; refine At.ibn ?_; refine At.thn (sR 1 rfl ?_); cases j
theorem Q35.step (self_0 : (List Q0) → Int → (List Q1) → Option ((List Q1) × (List Q0) × Int × Int)) (self_1 : (List Q0) → Int → (List Q1) → Bs → Int → Option ((List Q1) × (List Q0) × Int × Int)) (self_2 : (List Q0) → Int → (List Q1) → Option ((List Q1) × (List Q0) × Int × Int)) (self_3 : (List Q0) → Int → (List Q1) → Bs → Int → Option ((List Q1) × (List Q0) × Int × Int)) (self_4 : (List Q0) → Int → (List Q1) → Option ((List Q1) × (List Q0) × Int × Int)) (self_5 : (List Q0) → Int → (List Q1) → Option ((List Q1) × (List Q0) × Int × Int)) (ih_0 : Q11.SP self_0) (ih_1 : Q22.SP self_1) (ih_2 : Q29.SP self_2) (ih_3 : Q21.SP self_3) (ih_4 : Q28.SP self_4) (ih_5 : Q35.SP self_5) :
 Q35.SP (Q35.g self_0 self_1 self_2 self_3 self_4 self_5) := by
 intro R Fr b0 A0_0 n0_0 c0_0 A0_2 n0_2 c0_2 e1 e2 x hr0_0 hn0_0 hc0_0 hn0_2 r j; subst hn0_0; subst hn0_2; refine Spec.of Tryz.func208 rfl rfl ?_; unfold Q35.g at j; have j := brun j; refine sR 1 rfl (nT (sR 1 rfl ?_)); obtain ⟨p, a5, j⟩ := bbind j; refine At.call rfl Q31.callee rfl rfl rfl (Q31.spec hr0_0 rfl hc0_0 rfl a5) ?_; rintro _ _ ⟨I, e3, J, rfl, rfl, u, rfl, D⟩; refine At.alloc rfl rfl rfl (fun a0 => ?_); refine At.store rfl rfl rfl rfl .z rfl rfl rfl (.c (.c (.c (.c .n)))) ?_; refine nT (sR 1 rfl (nT (At.seq ?_))); refine sR 1 rfl (At.y (Y.load rfl rfl .z rfl rfl rfl) rfl rfl rfl (nT ?_)); obtain ⟨a6, a7, L, j⟩ := bjoin j; let T4 : HProp := pc a0 [i6 p.2.2.1, i6 p.2.2.2.1, .string ⟨(p.2.2.2.2.1).toArray⟩, i6 p.2.2.2.2.2] 115; let T5 : HProp := pc b0 [.slice I p.1.length J, i6 p.2.1, .slice A0_2 x.length c0_2] 128; refine At.join (X := Int) (fun C => [(0, bp b0), (3, bp a0), (4, i6 C)]) (fun C => T4 :: T5 :: row Q1.fl 33 A0_2 x.length c0_2 x :: Fr) (fun C => a6 (.inl C) = some r) ?_ (fun a1 => ?_)
 ·rintro C j; have j := (a7 _).symm.trans j
  ·refine At.seq (sR 3 rfl (At.y (Y.load rfl rfl (.s .z) rfl rfl rfl) rfl rfl rfl ?_)); obtain ⟨E, j⟩ := bnone j; refine At.y (Y.ixRd u rfl rfl rfl rfl rfl rfl rfl E.1 E.2) rfl rfl rfl ?_; refine At.y (Y.fa (RdS.some_ u rfl E.1 E.2) rfl rfl rfl rfl rfl rfl) rfl rfl rfl ?_; refine At.y (Y.ldFl u rfl (q := 0) rfl rfl E.1 E.2 rfl rfl rfl) rfl rfl rfl (At.run 1 rfl (nT ?_)); rcases bite j with ⟨M, j⟩ | ⟨M, j⟩
   ··refine At.condF rfl (nf (decide_eq_true M)) ?_
     refine At.skip (At.thn (sR 1 rfl (At.f2 (At.f2 ?_)))); obtain ⟨N, a8, j⟩ := bbind j; refine At.call rfl Q47.callee rfl rfl rfl (Q47.spec u rfl D rfl a8) ?_; rintro _ _ ⟨e4, e5, e6, rfl, rfl, a9, rfl, b2⟩; refine At.run 2 rfl (nT (sR 1 rfl ?_)); obtain ⟨a2, b3, j⟩ := bbind j; refine At.call rfl Q84.callee rfl rfl rfl (Q84.spec a9 rfl b2 rfl b3) ?_; rintro _ _ ⟨b4, e7, b5, rfl, rfl, b6, rfl, b7⟩; refine nT (At.seq ?_); refine At.held [T4] 10 rfl ?_; refine At.H.pw 0 rfl rfl rfl rfl rfl (.c (.s (.s .z)) .n) ?_; refine At.H.pw 1 rfl rfl rfl rfl rfl (.c (.s (.s .z)) .n) ?_; refine At.H.pw 2 rfl rfl rfl rfl rfl (.c (.s (.s .z)) .n) ?_; refine At.H.pw 4 rfl rfl rfl rfl rfl (.c (.s (.s .z)) .n) ?_; refine At.H.pw 5 rfl rfl rfl rfl rfl (.c (.s (.s .z)) .n) ?_; refine At.H.tw 6 rfl (Y.load rfl rfl .z rfl rfl rfl) rfl rfl rfl (.c (.s (.s .z)) .n) ?_; refine At.H.al [3] (Q7 ?_ Q8)
     ··refine At.HO.op rfl ?_
       obtain ⟨G, b8, j⟩ := bbind j; refine At.call rfl Q11.callee rfl rfl rfl (ih_0 _ _ b0 b4 a2.length b5 A0_2 x.length c0_2 a2 p.2.1 x b6 rfl b7 rfl b8) ?_; rintro _ _ ⟨e8, e9, f0, b9, f1, c4, rfl, rfl, rfl, a3, rfl, a4⟩; refine At.HO.back (.c (.s (.s .z)) .n) ?_; refine At.H.tw 7 rfl (Y.build (is := [0, 1, 3, 4]) (xo := [.tmp 51, .tmp 53, .tmp 54, .tmp 56]) (vs := [i6 C, i6 G.2.2.2, .string ⟨(N.2.2.2.1).toArray⟩, i6 p.2.2.2.1]) (cs := [i6 C, i6 G.2.2.2, i6 0, .string ⟨(N.2.2.2.1).toArray⟩, i6 p.2.2.2.1]) rfl rfl rfl rfl rfl rfl) rfl rfl rfl (.c (.s (.s .z)) .n) ?_; refine At.H.al [8] (Q7 ?_ Q8)
       ··refine At.HO.op rfl ?_
         obtain ⟨f3, c5, j⟩ := bbind j; refine At.call rfl Q20.callee rfl rfl rfl (Q20.spec a3 rfl a4 rfl c5) ?_; rintro _ _ ⟨c6, c7, rfl, rfl⟩; refine At.HO.back (.c (.s (.s .z)) .n) ?_; refine At.H.pw 9 rfl rfl rfl rfl rfl (.c (.s (.s .z)) .n) ?_; refine At.H.done (by kernel_rfl) ?_; refine At.thn (At.ret ?_); refine At.rowLen (.s .z) fun c8 => ?_; refine At.drop (.s (.s .z)) ?_; cases bret j; exact At.res (.inl rfl) rfl rfl ⟨(G.1 ++ ([(⟨C, G.2.2.2, 0, N.2.2.2.1, p.2.2.2.1⟩ : Q1)] : List Q1)).length, c6, c7, b9, G.2.1.length, c4, rfl, rfl, c8, a3, rfl, a4⟩
   ··refine At.condT rfl (nt (decide_eq_false M)) ?_
     refine At.region (At.run 1 rfl ?_); cases j
 ··refine At.block ?_
   refine sR 2 rfl (nT ?_); rcases bite j with ⟨O, j⟩ | ⟨O, j⟩
   ··refine At.condT rfl O ?_
     refine sR 2 rfl (At.y (Y.load rfl rfl .z rfl rfl rfl) rfl rfl rfl ?_); refine At.y (Y.build (is := [0, 4]) (xo := [.const (i6 1), .tmp 21]) (vs := [i6 1, i6 p.2.2.2.1]) (cs := [i6 1, i6 0, i6 0, .string ⟨(([] : Bs)).toArray⟩, i6 p.2.2.2.1]) rfl rfl rfl rfl rfl rfl) rfl rfl rfl ?_; refine At.f2 (At.f2 ?_); obtain ⟨f4, c9, j⟩ := bbind j; refine At.call rfl Q20.callee rfl rfl rfl (Q20.spec u rfl D rfl c9) ?_; rintro _ _ ⟨d0, d1, rfl, rfl⟩; refine At.run 1 rfl (nT (At.ret ?_)); refine At.ibr ?_; have j := bup L j; refine At.thr ?_; refine At.rowLen (.s .z) fun d2 => ?_; refine At.drop (.s (.s .z)) ?_; cases bret j; exact At.res (.inl rfl) rfl rfl ⟨(x ++ ([(⟨1, 0, 0, ([] : Bs), p.2.2.2.1⟩ : Q1)] : List Q1)).length, d0, d1, I, p.1.length, J, rfl, rfl, d2, u, rfl, D⟩
   ··refine At.condF rfl (bn O) ?_
     refine sR 2 rfl (nT ?_); rcases bite j with ⟨U, j⟩ | ⟨U, j⟩
     ··refine At.condT rfl U ?_
       refine sR 2 rfl (At.y (Y.load rfl rfl .z rfl rfl rfl) rfl rfl rfl ?_); refine At.y (Y.build (is := [0, 4]) (xo := [.const (i6 2), .tmp 28]) (vs := [i6 2, i6 p.2.2.2.1]) (cs := [i6 2, i6 0, i6 0, .string ⟨(([] : Bs)).toArray⟩, i6 p.2.2.2.1]) rfl rfl rfl rfl rfl rfl) rfl rfl rfl ?_; refine At.f2 (At.f2 ?_); obtain ⟨f5, d3, j⟩ := bbind j; refine At.call rfl Q20.callee rfl rfl rfl (Q20.spec u rfl D rfl d3) ?_; rintro _ _ ⟨d4, d5, rfl, rfl⟩; refine At.run 1 rfl (nT (At.ret ?_)); refine At.ibr ?_; have j := bup L j; refine At.thr ?_; refine At.rowLen (.s .z) fun d6 => ?_; refine At.drop (.s (.s .z)) ?_; cases bret j; exact At.res (.inl rfl) rfl rfl ⟨(x ++ ([(⟨2, 0, 0, ([] : Bs), p.2.2.2.1⟩ : Q1)] : List Q1)).length, d4, d5, I, p.1.length, J, rfl, rfl, d6, u, rfl, D⟩
     ··refine At.condF rfl (bn U) ?_
       refine sR 2 rfl (nT ?_); rcases bite j with ⟨V, j⟩ | ⟨V, j⟩
       ··refine At.condT rfl V ?_
         refine At.region (At.run 1 rfl (At.nil ?_)); refine At.ibn ?_; refine At.thn ?_; exact fun a w e hs => a1 10 j a w (e.sub ⟨rfl, rfl, rfl, trivial⟩) hs
       ··refine At.condF rfl (bn V) ?_
         refine sR 2 rfl (nT ?_); rcases bite j with ⟨Z, j⟩ | ⟨Z, j⟩
         ··refine At.condT rfl Z ?_
           refine At.skip ?_; refine At.ibn ?_; refine At.thn ?_; exact fun a w e hs => a1 11 j a w (e.sub ⟨rfl, rfl, rfl, trivial⟩) hs
         ··refine At.condF rfl (bn Z) ?_
           refine sR 2 rfl (At.y (Y.load rfl rfl .z rfl rfl rfl) rfl rfl rfl (At.run 1 rfl (At.y (Y.load rfl rfl .z rfl rfl rfl) rfl rfl rfl ?_))); refine At.y (Y.build (is := [0, 3, 4]) (xo := [.const (i6 3), .tmp 12, .tmp 14]) (vs := [i6 3, .string ⟨(p.2.2.2.2.1).toArray⟩, i6 p.2.2.2.1]) (cs := [i6 3, i6 0, i6 0, .string ⟨(p.2.2.2.2.1).toArray⟩, i6 p.2.2.2.1]) rfl rfl rfl rfl rfl rfl) rfl rfl rfl ?_; refine At.f2 (At.f2 ?_); obtain ⟨f6, d7, j⟩ := bbind j; refine At.call rfl Q20.callee rfl rfl rfl (Q20.spec u rfl D rfl d7) ?_; rintro _ _ ⟨d8, d9, rfl, rfl⟩; refine At.run 1 rfl (nT (At.ret ?_)); refine At.ibr ?_; have j := bup L j; refine At.thr ?_; refine At.rowLen (.s .z) fun e0 => ?_; refine At.drop (.s (.s .z)) ?_; cases bret j; exact At.res (.inl rfl) rfl rfl ⟨(x ++ ([(⟨3, 0, 0, p.2.2.2.2.1, p.2.2.2.1⟩ : Q1)] : List Q1)).length, d8, d9, I, p.1.length, J, rfl, rfl, e0, u, rfl, D⟩
theorem Q11.all : ∀ k_ : Nat, Q11.SP (Q11.n k_) ∧ Q22.SP (Q22.n k_) ∧ Q29.SP (Q29.n k_) ∧ Q21.SP (Q21.n k_) ∧ Q28.SP (Q28.n k_) ∧ Q35.SP (Q35.n k_)
 | 0 => ⟨(by intro R Fr b0 A0_0 n0_0 c0_0 A0_2 n0_2 c0_2 a0_0 a0_1 a0_2 hr0_0 hn0_0 hc0_0 hn0_2 r j; cases j), (by intro R Fr b0 A0_0 n0_0 c0_0 A0_2 n0_2 c0_2 a0_0 a0_1 a0_2 a1 a2 hr0_0 hn0_0 hc0_0 hn0_2 r j; cases j), (by intro R Fr b0 A0_0 n0_0 c0_0 A0_2 n0_2 c0_2 a0_0 a0_1 a0_2 hr0_0 hn0_0 hc0_0 hn0_2 r j; cases j), (by intro R Fr b0 A0_0 n0_0 c0_0 A0_2 n0_2 c0_2 a0_0 a0_1 a0_2 a1 a2 hr0_0 hn0_0 hc0_0 hn0_2 r j; cases j), (by intro R Fr b0 A0_0 n0_0 c0_0 A0_2 n0_2 c0_2 a0_0 a0_1 a0_2 hr0_0 hn0_0 hc0_0 hn0_2 r j; cases j), (by intro R Fr b0 A0_0 n0_0 c0_0 A0_2 n0_2 c0_2 a0_0 a0_1 a0_2 hr0_0 hn0_0 hc0_0 hn0_2 r j; cases j)⟩
 | k_ + 1 => ⟨Q11.step (Q11.n k_) (Q22.n k_) (Q29.n k_) (Q21.n k_) (Q28.n k_) (Q35.n k_) ((Q11.all k_).1) ((Q11.all k_).2.1) ((Q11.all k_).2.2.1) ((Q11.all k_).2.2.2.1) ((Q11.all k_).2.2.2.2.1) ((Q11.all k_).2.2.2.2.2), Q22.step (Q11.n k_) (Q22.n k_) (Q29.n k_) (Q21.n k_) (Q28.n k_) (Q35.n k_) ((Q11.all k_).1) ((Q11.all k_).2.1) ((Q11.all k_).2.2.1) ((Q11.all k_).2.2.2.1) ((Q11.all k_).2.2.2.2.1) ((Q11.all k_).2.2.2.2.2), Q29.step (Q11.n k_) (Q22.n k_) (Q29.n k_) (Q21.n k_) (Q28.n k_) (Q35.n k_) ((Q11.all k_).1) ((Q11.all k_).2.1) ((Q11.all k_).2.2.1) ((Q11.all k_).2.2.2.1) ((Q11.all k_).2.2.2.2.1) ((Q11.all k_).2.2.2.2.2), Q21.step (Q11.n k_) (Q22.n k_) (Q29.n k_) (Q21.n k_) (Q28.n k_) (Q35.n k_) ((Q11.all k_).1) ((Q11.all k_).2.1) ((Q11.all k_).2.2.1) ((Q11.all k_).2.2.2.1) ((Q11.all k_).2.2.2.2.1) ((Q11.all k_).2.2.2.2.2), Q28.step (Q11.n k_) (Q22.n k_) (Q29.n k_) (Q21.n k_) (Q28.n k_) (Q35.n k_) ((Q11.all k_).1) ((Q11.all k_).2.1) ((Q11.all k_).2.2.1) ((Q11.all k_).2.2.2.1) ((Q11.all k_).2.2.2.2.1) ((Q11.all k_).2.2.2.2.2), Q35.step (Q11.n k_) (Q22.n k_) (Q29.n k_) (Q21.n k_) (Q28.n k_) (Q35.n k_) ((Q11.all k_).1) ((Q11.all k_).2.1) ((Q11.all k_).2.2.1) ((Q11.all k_).2.2.2.1) ((Q11.all k_).2.2.2.2.1) ((Q11.all k_).2.2.2.2.2)⟩
theorem Q11.spec {p : List Q0} {u : Int} {q : List Q1} (hr0_0 : RdS Q0.fl.rep R.heap A0_0 p) (hn0_0 : p.length = n0_0) (hc0_0 : n0_0 ≤ c0_0) (hn0_2 : q.length = n0_2) {r : (List Q1) × (List Q0) × Int × Int} (j : Q11.f p u q = some r) :
 Spec Tryz.prog 66 [bp b0] R (pc b0 [.slice A0_0 n0_0 c0_0, i6 u, .slice A0_2 n0_2 c0_2] 128 :: row Q1.fl 33 A0_2 n0_2 c0_2 q :: Fr) (fun v l' => ∃ (x : Nat) (D : Option Addr) (E : Nat) (G : Option Addr) (C : Nat) (I : Nat), v = i6 r.2.2.2 ∧ pc b0 [.slice G C I, i6 r.2.2.1, .slice D x E] 128 :: row Q1.fl 33 D x E r.1 :: Fr = l' ∧ r.1.length = x ∧ RdS Q0.fl.rep R.heap G r.2.1 ∧ r.2.1.length = C ∧ C ≤ I) := by
 obtain ⟨k_, hk_⟩ := Q203 j; exact (Q11.all k_).1 R Fr b0 A0_0 n0_0 c0_0 A0_2 n0_2 c0_2 p u q hr0_0 hn0_0 hc0_0 hn0_2 hk_

/- told with Q11.f -/

/- told with Q11.f -/

/- told with Q11.f -/

/- told with Q11.f -/

/- told with Q11.f -/

noncomputable def Q127.f (p : List Q1) : Option Unit :=
 some ()
theorem Q127.callee : Callee Tryz.prog 63 := ⟨_, Tryz.func63, by kernel_rfl, by kernel_rfl⟩
theorem Q127.spec {p : List Q1} (hn0_0 : p.length = n0_0) {r : Unit} (j : Q127.f p = some r) :
 SpecD Tryz.prog 63 [bp b0, bp b1] .returning R (pc b0 [.slice A0_0 n0_0 c0_0] 27 :: row Q1.fl 33 A0_0 n0_0 c0_0 p :: pc b1 [.nilIface] 74 :: Fr) (fun v l' => v = .returning ∧ pc b0 [.slice A0_0 n0_0 c0_0] 27 :: row Q1.fl 33 A0_0 n0_0 c0_0 p :: pc b1 [.nilIface] 74 :: Fr = l') := by
 subst hn0_0; refine SpecD.of (d := 5) Tryz.func63 rfl rfl rfl rfl ?_; unfold Q127.f at j; have j := brun j; refine At.block ?_; refine At.seq (At.region ?_); refine At.y (Y.eqIfK (ti' := 0) none rfl rfl rfl rfl) rfl rfl rfl ?_; refine nT ?_; refine At.condT rfl rfl ?_; refine At.region (At.run 1 rfl (At.nil ?_)); refine At.ibn ?_; cases bret j; exact At.res (.inr rfl) rfl rfl ⟨rfl, rfl⟩

noncomputable def Q118.f (a0 : Bs) : Option ((Option Q3) × (List Q1)) :=
 (Q45.f a0).bind fun q =>
 if q.1.isNone = true then
 (Q65.f q.2).bind fun u =>
 (Q11.f u 0 ([] : List Q1)).bind fun p =>
 if (0 : Int) ≤ 0 ∧ 0 < (p.2.1.length : Int) then
 if (gt p.2.1 0).Kind = 0 then
 (Q127.f p.1).bind fun x =>
 some (none, p.1)
 else
 none
 else none
 else
 some (q.1, ([] : List Q1))
theorem Q118.callee : Callee Tryz.prog 31 := ⟨_, Tryz.func31, by kernel_rfl, by kernel_rfl⟩
theorem Q118.spec {a0 : Bs} {r : (Option Q3) × (List Q1)} (j : Q118.f a0 = some r) :
 Spec Tryz.prog 31 [.string ⟨(a0).toArray⟩] R (Fr) (fun v l' => ∃ (M : Option Nat) (C : Nat) (N : Option Addr) (O : Nat), v = .tuple #[.slice N C O, opti 110 M] ∧ row Q1.fl 33 N C O r.2 :: optb (Ow.fl Q3.fl) 121 M r.1 :: Fr = l' ∧ r.2.length = C) := by
 refine SpecE.ret (SpecE.ofD Tryz.func31 rfl rfl ?_); unfold Q118.f at j; have j := brun j; refine At.seq (At.region ?_); refine At.alloc rfl rfl rfl (fun U => ?_); refine At.alloc rfl rfl rfl (fun V => ?_); refine nT (sR 1 rfl ?_); obtain ⟨D, X, j⟩ := bbind j; refine At.call rfl Q45.callee rfl rfl rfl (Q45.spec X) ?_; rintro _ _ ⟨E, b2, u, x, rfl, rfl, rfl⟩; refine At.run 4 rfl ?_; refine At.store rfl rfl rfl rfl (.s (.s .z)) (Q219 _ _) rfl (Q212 _ _) (.c .n) ?_; refine nT (At.seq (At.seq (At.region (At.y (Y.load rfl rfl .z rfl rfl rfl) rfl rfl rfl ?_)))); refine At.y (Y.neOptI (.s (.s .z)) rfl rfl rfl) rfl rfl rfl ?_; refine nT ?_; rcases bite j with ⟨G, j⟩ | ⟨G, j⟩
 ··refine At.condF rfl (nf G) ?_
   refine At.skip (At.thn (sR 1 rfl ?_)); refine At.defer rfl rfl ?_; refine nT (sR 1 rfl (At.f1 ?_)); obtain ⟨I, Z, j⟩ := bbind j; refine At.call rfl Q65.callee rfl rfl rfl (Q65.spec rfl Z) ?_; rintro _ _ ⟨b3, rfl, rfl, rfl⟩; refine At.y (Y.build (is := [0]) (xo := [.tmp 16]) (vs := [.slice u I.length x]) (cs := [.slice u I.length x, i6 0, .slice none 0 0]) rfl rfl rfl rfl rfl rfl) rfl rfl rfl ?_; refine At.box rfl rfl (cs := [.slice u I.length x, i6 0, .slice none 0 0]) rfl rfl (fun b4 => ?_); refine At.run 1 rfl (nT (sR 1 rfl ?_)); refine At.nilRow Q1.fl 33 ?_; refine At.freeze (.s (.s .z)) fun b5 a1 a2 a3 b6 a4 => ?_; refine At.f1 ?_; obtain ⟨a5, a6, j⟩ := bbind j; refine At.call rfl Q11.callee rfl rfl rfl (Q11.spec a1 a2 a3 rfl a6) ?_; rintro _ _ ⟨b7, a7, a8, b8, b9, c4, rfl, rfl, rfl, J, rfl, c5⟩; refine nT (At.seq (sR 3 rfl (At.y (Y.load rfl rfl .z rfl rfl rfl) rfl rfl rfl ?_))); obtain ⟨p, j⟩ := bnone j; refine At.y (Y.ixRd J rfl rfl rfl rfl rfl rfl rfl p.1 p.2) rfl rfl rfl ?_; refine At.y (Y.fa (RdS.some_ J rfl p.1 p.2) rfl rfl rfl rfl rfl rfl) rfl rfl rfl ?_; refine At.y (Y.ldFl J rfl (q := 0) rfl rfl p.1 p.2 rfl rfl rfl) rfl rfl rfl (At.run 1 rfl (nT ?_)); rcases bite j with ⟨L, j⟩ | ⟨L, j⟩
   ··refine At.condF rfl (nf (decide_eq_true L)) ?_
     refine At.skip (At.thn (sR 3 rfl (At.y (Y.load rfl rfl .z rfl rfl rfl) rfl rfl rfl ?_))); refine At.store rfl rfl rfl rfl (.s (.s (.s (.s .z)))) rfl rfl rfl (.c .n) ?_; refine At.store rfl rfl rfl rfl (.s (.s (.s .z))) rfl rfl rfl (.c .n) ?_; refine nT (At.ret ?_); refine At.thaw a4 ?_; refine At.f1 (At.f4 (At.f3 ?_)); obtain ⟨c6, a9, j⟩ := bbind j; refine At.leaveD (.inl ⟨.inl rfl, rfl⟩) rfl Q127.callee (Q127.spec rfl a9) ?_; rintro _ _ ⟨rfl, rfl⟩; refine ⟨rfl, _, (RV.cell rfl rfl .z rfl rfl rfl (RV.cell rfl rfl (.s (.s .z)) rfl rfl rfl RV.nil)), ?_⟩; refine At.optNone (Ow.fl Q3.fl) 121 ?_; refine At.drop (.s .z) (At.drop (.s (.s .z)) (At.drop (.s (.s .z)) (At.drop (.s (.s .z)) (At.drop (.s (.s .z)) (At.f1 ?_))))); cases bret j; exact fun a w e hs => ⟨_, ⟨_, rfl, ⟨none, a5.1.length, a7, a8, rfl, rfl, rfl⟩⟩, hs⟩
   ··refine At.condT rfl (nt (decide_eq_false L)) ?_
     refine At.region (At.run 1 rfl ?_); cases j
 ··refine At.condT rfl (nt (bn G)) ?_
   refine At.seq ?_; refine At.held [pc V [opti 110 E] 74, row Q0.fl 115 u D.2.length x D.2, optb (Ow.fl Q3.fl) 121 E D.1, pc U [.slice none 0 0] 27] 3 rfl ?_; refine At.H.tw 0 rfl (Y.load rfl rfl .z rfl rfl rfl) rfl rfl rfl (.c .z (.c .z (.c .z (.c .z .n)))) ?_; refine At.H.al [1] (Q7 ?_ Q8)
   ··refine At.HO.op rfl ?_
     refine At.store rfl rfl rfl rfl (.s (.s (.s .z))) rfl rfl rfl (.c .n) ?_; refine At.HO.back (.c (.s .z) (.c (.s .z) (.c (.s .z) (.c .z .n)))) ?_; refine At.H.al [2] (Q7 ?_ Q8)
     ··refine At.HO.op rfl ?_
       refine At.store rfl rfl rfl rfl (.s .z) (Q219 _ _) rfl (Q212 _ _) (.c .n) ?_; refine At.HO.back (.c .z (.c (.s .z) (.c (.s .z) (.c .z .n)))) ?_; refine At.H.done (by kernel_rfl) ?_; refine At.thn (At.ret (At.thr ?_)); refine At.resMD (.inl rfl) rfl (RV.cell rfl rfl (.s .z) rfl rfl rfl (RV.cell rfl rfl .z rfl rfl rfl RV.nil)) ?_; refine At.nilRow Q1.fl 33 ?_; refine At.drop (.s .z) (At.drop (.s .z) (At.drop (.s .z) ?_)); cases bret j; exact fun a w e hs => ⟨_, ⟨_, rfl, ⟨E, 0, none, 0, rfl, rfl, rfl⟩⟩, hs⟩

end Go.Bw
namespace Go.Bw
open Go Go.RowKit Go.Proofs
variable {R : Res} {Fr : List HProp} {A0 A1 A0_0 A0_1 A0_3 A0_4 A0_5 : Option Addr} {n0 c0 n1 c1 b0 n0_0 c0_0 n0_1 c0_1 n0_3 c0_3 n0_4 c0_4 n0_5 c0_5 b0_1 b0_2 : Nat}
structure Q13 where
 node : Int
 nots : Int
deriving Inhabited, DecidableEq
def Q13.fl : Fl Q13 := ⟨2, fun x => [i6 x.node, i6 x.nots], fun _ => rfl, fun x u hu => by simp at hu; rcases hu with rfl | rfl <;> rfl, by decide⟩
noncomputable def Q113.f (a0 : List Q1) : Option (List Q1) :=
 if (0 + a0.length) * 48 ≤ 140737488355328 then some a0 else none
theorem Q113.callee : Callee Tryz.prog 82 := ⟨_, Tryz.func82, by kernel_rfl, by kernel_rfl⟩
theorem Q113.spec {a0 : List Q1} (hr0 : RdS (Q1.fl.rep) R.heap A0 a0) (hn0 : a0.length = n0) (hc0 : n0 ≤ c0) {r : List Q1} (j : Q113.f a0 = some r) :
 Spec Tryz.prog 82 [.slice A0 n0 c0] R (Fr) (fun v l' => ∃ (w1 : Option Addr) (w2 : Nat), v = .slice w1 r.length w2 ∧ row Q1.fl 33 w1 r.length w2 r :: Fr = l') := by
 subst hn0; refine Spec.of Tryz.func82 rfl rfl ?_; unfold Q113.f at j; have j := brun j; obtain ⟨hb, j⟩ := bnone j; cases bret j; refine sR 1 rfl (nT (At.seq (At.seq (At.region ?_)))); refine At.run 1 rfl ?_; refine At.y (Y.eqNil rfl rfl rfl rfl) rfl rfl rfl ?_; refine nT ?_; cases A0 with
 | none =>
  have ha : a0 = [] := RdS.isNil hr0; subst ha; refine At.condT rfl rfl ?_; refine sR 1 rfl (nT (At.ret (At.thr ?_))); refine At.nilRow Q1.fl 33 ?_; exact At.res (.inl rfl) rfl rfl ⟨_, _, rfl, rfl⟩
 | some ad =>
  refine At.condF rfl rfl ?_; refine At.skip (At.thn (At.seq (At.region ?_))); refine At.lit rfl (xo := []) (ys := ([] : List Q1)) Q1.fl rfl rfl rfl rfl rfl rfl rfl rfl rfl rfl rfl (fun B cb => ?_); refine At.run 1 rfl ?_; refine At.appendAll rfl .z (SrcE.rd hr0) rfl rfl rfl rfl rfl rfl rfl rfl rfl hb (by decide) rfl (fun A c => ?_); refine At.run 1 rfl (nT (At.ret ?_)); exact At.res (.inl rfl) rfl rfl ⟨_, _, rfl, rfl⟩

noncomputable def Q57.l0b (a0 : Bs) (p : Int) : Option ((Int) ⊕ ((Unit) ⊕ (Bool))) :=
 if p < (a0.length : Int) then
 if (0 : Int) ≤ p ∧ p < (a0.length : Int) then
 jn (
 if bor .u8 (bat a0 p) 32 < 97 then
 some (.inl true)
 else
 some (.inl (decide (122 < bor .u8 (bat a0 p) 32)))) (fun (q : Bool) =>
 jn (
 if q = true then
 jn (
 if bat a0 p < 48 then
 some (.inl (true, true))
 else
 some (.inl (false, decide (57 < bat a0 p)))) (fun (s_ : Bool × Bool) =>
 some (.inl s_.2))
 else
 some (.inl false)) (fun (u : Bool) =>
 jn (
 if u = true then
 some (.inl (!(decide (bat a0 p = 95))))
 else
 some (.inl false)) (fun (x : Bool) =>
 if x = true then
 upL (some false)
 else
 nx (IntKind.i64.wrap (p + 1)))))
 else none
 else
 dn (.inl ())
noncomputable def Q57.l0 (a0 : Bs) (p : Int) : Option ((Unit) ⊕ (Bool)) := iter (fun t_ : Int => Q57.l0b a0 t_) p
noncomputable def Q57.f (a0 : Bs) (a1 a2 : Int) : Option Bool :=
 jn (
 if (a0.length : Int) < 1 then
 some (.inl true)
 else
 some (.inl (decide (8 < (a0.length : Int))))) (fun (p : Bool) =>
 jn (
 if p = true then
 some (.inl true)
 else
 if (0 : Int) ≤ 0 ∧ 0 < (a0.length : Int) then
 some (.inl (decide (bat a0 0 < a1)))
 else none) (fun (q : Bool) =>
 jn (
 if q = true then
 some (.inl true)
 else
 if (0 : Int) ≤ 0 ∧ 0 < (a0.length : Int) then
 some (.inl (decide (a2 < bat a0 0)))
 else none) (fun (u : Bool) =>
 if u = true then
 some false
 else
 jn (Q57.l0 a0 0) (fun (_ : Unit) =>
 some true))))
theorem Q57.callee : Callee Tryz.prog 230 := ⟨_, Tryz.func230, by kernel_rfl, by kernel_rfl⟩
theorem Q57.spec {a0 : Bs} {a1 a2 : Int} {r : Bool} (j : Q57.f a0 a1 a2 = some r) :
 Spec Tryz.prog 230 [.string ⟨(a0).toArray⟩, .int .u8 a1, .int .u8 a2] R (Fr) (fun v l' => v = .bool r ∧ Fr = l') := by
 refine Spec.of Tryz.func230 rfl rfl ?_; unfold Q57.f at j; have j := brun j; refine sR 1 rfl (nT (At.seq (At.seq (At.region ?_)))); refine At.run 4 rfl ?_; obtain ⟨c4, c5, e6, j⟩ := bjoin j; refine At.joinO 4 (X := Bool) (fun u => [(0, .string ⟨(a0).toArray⟩), (1, .int .u8 a1), (2, .int .u8 a2), (16, .bool u)]) (fun u => Fr) (fun u => c4 (.inl u) = some r) ?_ (fun a7 => ?_)
 ·rintro u j; have j := (c5 _).symm.trans j
  ·refine At.run 1 rfl ?_; obtain ⟨c6, c7, e7, j⟩ := bjoin j; refine At.joinO 5 (X := Bool) (fun x => [(0, .string ⟨(a0).toArray⟩), (2, .int .u8 a2), (22, .bool x)]) (fun x => Fr) (fun x => c6 (.inl x) = some r) ?_ (fun a8 => ?_)
   ·rintro x j; have j := (c7 _).symm.trans j
    ·refine At.run 1 rfl ?_; obtain ⟨c8, c9, e8, j⟩ := bjoin j; refine At.joinO 5 (X := Bool) (fun C => [(0, .string ⟨(a0).toArray⟩), (28, .bool C)]) (fun C => Fr) (fun C => c8 (.inl C) = some r) ?_ (fun a9 => ?_)
     ·rintro C j; have j := (c9 _).symm.trans j
      ·refine nT ?_; rcases bite j with ⟨J, j⟩ | ⟨J, j⟩
       ··refine At.condT rfl J ?_
         refine sR 1 rfl (nT (At.ret (At.thr ?_))); cases bret j; exact At.res (.inl rfl) rfl rfl ⟨rfl, rfl⟩
       ··refine At.condF rfl (bn J) ?_
         refine At.skip (At.thn (At.seq (sR 3 rfl (nT ?_)))); refine At.block ?_; obtain ⟨d0, d1, d2, j⟩ := bjoin j; obtain ⟨q, L, b2⟩ := bsome j; clear j; unfold Q57.l0 at L; obtain ⟨M, D⟩ := Q14.1 L; clear L; refine At.loopJ (X := Int) (Y := Unit) (e0 := 0) (fun p => [(0, .string ⟨(a0).toArray⟩), (30, i6 (a0.length : Int)), (31, i6 p)]) (fun p => Fr) (fun m_ => fun p => iterN (fun t_ : Int => Q57.l0b a0 t_) m_ p = some q) M 0 D (fun _ => []) (fun _ => Fr) (fun _ => d0 (.inl ()) = some r) (fun a w e hs => ⟨e.sub ⟨rfl, rfl, rfl, trivial⟩, (by exact hs)⟩) ?_ (fun d3 => ?_)
         ·rintro _ j; have j := (d1 _).symm.trans j
          ·refine At.ibx ?_; refine At.thn (sR 1 rfl (nT (At.ret ?_))); cases bret j; exact At.res (.inl rfl) rfl rfl ⟨rfl, rfl⟩
         ·clear D M; rintro M p D; obtain ⟨d4, f_, d5, hf_, j⟩ := bit D; clear D; have j : (Q57.l0b a0 p).bind _ = some q := j; unfold Q57.l0b at j
          ·refine sR 1 rfl (nT (At.seq ?_)); rcases bite j with ⟨N, j⟩ | ⟨N, j⟩
           ··refine At.condT rfl (decide_eq_true N) ?_
             refine At.skip (At.thn (At.seq ?_)); refine At.block ?_; refine sR 2 rfl (nT (sR 2 rfl ?_)); obtain ⟨b3, j⟩ := bnone j; refine At.y (Y.ixStr rfl rfl rfl rfl b3.1 b3.2) rfl rfl rfl (At.run 1 rfl (nT (sR 4 rfl ?_))); obtain ⟨d6, d7, e9, j⟩ := bjoin j; refine At.joinO 4 (X := Bool) (fun E => [(0, .string ⟨(a0).toArray⟩), (8, .int .u8 (bat a0 p)), (30, i6 (a0.length : Int)), (31, i6 p), (44, .bool E)]) (fun E => Fr) (fun E => d6 (.inl E) = some q) ?_ (fun b4 => ?_)
             ·rintro E j; have j := (d7 _).symm.trans j
              ·refine At.run 1 rfl ?_; obtain ⟨d8, d9, f0, j⟩ := bjoin j; refine At.joinO 7 (X := Bool) (fun G => [(0, .string ⟨(a0).toArray⟩), (8, .int .u8 (bat a0 p)), (30, i6 (a0.length : Int)), (31, i6 p), (52, .bool G)]) (fun G => Fr) (fun G => d8 (.inl G) = some q) ?_ (fun b5 => ?_)
               ·rintro G j; have j := (d9 _).symm.trans j
                ·refine At.run 1 rfl ?_; obtain ⟨e1, e2, f1, j⟩ := bjoin j; refine At.joinO 3 (X := Bool) (fun I => [(0, .string ⟨(a0).toArray⟩), (30, i6 (a0.length : Int)), (31, i6 p), (56, .bool I)]) (fun I => Fr) (fun I => e1 (.inl I) = some q) ?_ (fun b6 => ?_)
                 ·rintro I j; have j := (e2 _).symm.trans j
                  ·refine nT ?_; rcases bite j with ⟨O, j⟩ | ⟨O, j⟩
                   ··refine At.condT rfl O ?_
                     refine sR 1 rfl (nT (At.ret ?_)); refine At.ibr ?_; refine At.thr ?_; have j := bupL d2 b2 j; refine At.thr ?_; refine At.ibr ?_; refine At.thr ?_; cases bret j; exact At.res (.inl rfl) rfl rfl ⟨rfl, rfl⟩
                   ··refine At.condF rfl (bn O) ?_
                     refine At.skip ?_; refine At.ibn ?_; refine At.thn (At.region (At.run 2 rfl (At.nil ?_))); have j := bnx hf_ j; exact fun a w e hs => ⟨d4, (IntKind.i64.wrap (p + 1)), d5, j, e.sub ⟨rfl, rfl, rfl, trivial⟩, hs⟩
                 ··rcases bite j with ⟨U, j⟩ | ⟨U, j⟩
                   ··refine At.know (t := 53) rfl U ?_
                     refine At.run 3 rfl ?_; exact At.of (b6 (!(decide (bat a0 p = 95))) j) ⟨rfl, rfl, rfl, rfl, trivial⟩
                   ··refine At.know (t := 53) rfl (bn U) ?_
                     refine At.run 3 rfl ?_; exact At.of (b6 false j) ⟨rfl, rfl, rfl, rfl, trivial⟩
               ··rcases bite j with ⟨V, j⟩ | ⟨V, j⟩
                 ··refine At.know (t := 45) rfl V ?_
                   refine At.run 3 rfl ?_; obtain ⟨e3, e4, f2, j⟩ := bjoin j; refine At.joinO 3 (X := Bool × Bool) (fun s_ => [(0, .string ⟨(a0).toArray⟩), (8, .int .u8 (bat a0 p)), (30, i6 (a0.length : Int)), (31, i6 p), (45, .bool true), (46, .int .u8 (bat a0 p)), (47, .bool (decide (bat a0 p < 48))), (48, .bool s_.1), (51, .bool s_.2)]) (fun s_ => Fr) (fun s_ => e3 (.inl (s_.1, s_.2)) = some q) ?_ (fun b7 => ?_)
                   ·rintro ⟨f3, e5⟩ j; have j := (e4 _).symm.trans j
                    ·refine At.run 1 rfl ?_; exact At.of (b5 e5 j) ⟨rfl, rfl, rfl, rfl, rfl, trivial⟩
                   ··rcases bite j with ⟨Z, j⟩ | ⟨Z, j⟩
                     ··refine At.know (t := 48) rfl (decide_eq_true Z) ?_
                       refine At.run 3 rfl ?_; exact At.of (b7 (true, true) j) ⟨rfl, rfl, rfl, rfl, rfl, rfl, rfl, rfl, rfl, trivial⟩
                     ··refine At.know (t := 48) rfl (decide_eq_false Z) ?_
                       refine At.run 3 rfl ?_; exact At.of (b7 (false, decide (57 < bat a0 p)) j) ⟨rfl, rfl, rfl, rfl, rfl, rfl, rfl, rfl, rfl, trivial⟩
                 ··refine At.know (t := 45) rfl (bn V) ?_
                   refine At.run 7 rfl ?_; exact At.of (b5 false j) ⟨rfl, rfl, rfl, rfl, rfl, trivial⟩
             ··rcases bite j with ⟨a3, j⟩ | ⟨a3, j⟩
               ··refine At.know (t := 40) rfl (decide_eq_true a3) ?_
                 refine At.run 4 rfl ?_; exact At.of (b4 true j) ⟨rfl, rfl, rfl, rfl, rfl, trivial⟩
               ··refine At.know (t := 40) rfl (decide_eq_false a3) ?_
                 refine At.run 4 rfl ?_; exact At.of (b4 (decide (122 < bor .u8 (bat a0 p) 32)) j) ⟨rfl, rfl, rfl, rfl, rfl, trivial⟩
           ··refine At.condF rfl (decide_eq_false N) ?_
             refine At.exit ?_; refine At.the ?_; refine At.the ?_; exact fun a w e hs => d3 () (bdn j b2) a w (e.sub trivial) hs
     ··rcases bite j with ⟨a4, j⟩ | ⟨a4, j⟩
       ··refine At.know (t := 23) rfl a4 ?_
         refine At.run 5 rfl ?_; exact At.of (a9 true j) ⟨rfl, rfl, trivial⟩
       ··refine At.know (t := 23) rfl (bn a4) ?_
         refine At.run 1 rfl ?_; obtain ⟨b8, j⟩ := bnone j; refine At.y (Y.ixStr rfl rfl rfl rfl b8.1 b8.2) rfl rfl rfl (At.run 3 rfl ?_); exact At.of (a9 (decide (a2 < bat a0 0)) j) ⟨rfl, rfl, trivial⟩
   ··rcases bite j with ⟨a5, j⟩ | ⟨a5, j⟩
     ··refine At.know (t := 17) rfl a5 ?_
       refine At.run 5 rfl ?_; exact At.of (a8 true j) ⟨rfl, rfl, rfl, trivial⟩
     ··refine At.know (t := 17) rfl (bn a5) ?_
       refine At.run 1 rfl ?_; obtain ⟨b9, j⟩ := bnone j; refine At.y (Y.ixStr rfl rfl rfl rfl b9.1 b9.2) rfl rfl rfl (At.run 3 rfl ?_); exact At.of (a8 (decide (bat a0 0 < a1)) j) ⟨rfl, rfl, rfl, trivial⟩
 ··rcases bite j with ⟨a6, j⟩ | ⟨a6, j⟩
   ··refine At.know (t := 12) rfl (decide_eq_true a6) ?_
     refine At.run 4 rfl ?_; exact At.of (a7 true j) ⟨rfl, rfl, rfl, rfl, trivial⟩
   ··refine At.know (t := 12) rfl (decide_eq_false a6) ?_
     refine At.run 4 rfl ?_; exact At.of (a7 (decide (8 < (a0.length : Int))) j) ⟨rfl, rfl, rfl, rfl, trivial⟩

noncomputable def Q109.f (a0 : Bs) : Option Bool :=
 (Q57.f a0 97 122).bind fun p =>
 jn (
 if p = true then
 (Q103.f a0).bind fun q =>
 some (.inl (!q))
 else
 some (.inl false)) (fun (u : Bool) =>
 some u)
theorem Q109.callee : Callee Tryz.prog 210 := ⟨_, Tryz.func210, by kernel_rfl, by kernel_rfl⟩
theorem Q109.spec {a0 : Bs} {r : Bool} (j : Q109.f a0 = some r) :
 Spec Tryz.prog 210 [.string ⟨(a0).toArray⟩] R (Fr) (fun v l' => v = .bool r ∧ Fr = l') := by
 refine Spec.of Tryz.func210 rfl rfl ?_; unfold Q109.f at j; have j := brun j; refine sR 1 rfl (nT (sR 1 rfl ?_)); obtain ⟨I, x, j⟩ := bbind j; refine At.call rfl Q57.callee rfl rfl rfl (Q57.spec x) ?_; rintro _ _ ⟨rfl, rfl⟩; refine At.run 1 rfl ?_; obtain ⟨C, D, J, j⟩ := bjoin j; refine At.joinO 4 (X := Bool) (fun p => [(9, .bool p)]) (fun p => Fr) (fun p => C (.inl p) = some r) ?_ (fun u => ?_)
 ·rintro p j; have j := (D _).symm.trans j
  ·refine At.run 1 rfl (nT (At.ret ?_)); cases bret j; exact At.res (.inl rfl) rfl rfl ⟨rfl, rfl⟩
 ··rcases bite j with ⟨q, j⟩ | ⟨q, j⟩
   ··refine At.know (t := 5) rfl q ?_
     refine At.run 1 rfl ?_; obtain ⟨E, G, j⟩ := bbind j; refine At.call rfl Q103.callee rfl rfl rfl (Q103.spec G) ?_; rintro _ _ ⟨rfl, rfl⟩; refine At.run 2 rfl ?_; exact At.of (u (!E) j) ⟨rfl, trivial⟩
   ··refine At.know (t := 5) rfl (bn q) ?_
     refine At.run 4 rfl ?_; exact At.of (u false j) ⟨rfl, trivial⟩

noncomputable def Q99.f (a0 : Bs) : Option Bool :=
 (Q57.f a0 65 90).bind fun p =>
 some p
theorem Q99.callee : Callee Tryz.prog 211 := ⟨_, Tryz.func211, by kernel_rfl, by kernel_rfl⟩
theorem Q99.spec {a0 : Bs} {r : Bool} (j : Q99.f a0 = some r) :
 Spec Tryz.prog 211 [.string ⟨(a0).toArray⟩] R (Fr) (fun v l' => v = .bool r ∧ Fr = l') := by
 refine Spec.of Tryz.func211 rfl rfl ?_; unfold Q99.f at j; have j := brun j; refine sR 1 rfl (nT (sR 1 rfl ?_)); obtain ⟨q, p, j⟩ := bbind j; refine At.call rfl Q57.callee rfl rfl rfl (Q57.spec p) ?_; rintro _ _ ⟨rfl, rfl⟩; refine At.run 1 rfl (nT (At.ret ?_)); cases bret j; exact At.res (.inl rfl) rfl rfl ⟨rfl, rfl⟩

noncomputable def Q129.f (p M N : Int) (q : Bs) (O : Int) : Option (Bool × Int) :=
 jn (
 if p = 1 then
 some (.inl (decide (p = 1)))
 else
 some (.inl (decide (p = 2)))) (fun (u : Bool) =>
 if u = true then
 some (bseq q ([] : Bs), 0)
 else
 if p = 3 then
 (Q109.f q).bind fun x =>
 some (x, 0)
 else
 if p = 4 then
 (Q99.f q).bind fun C =>
 some (C, 0)
 else
 if p = 5 then
 some (bseq q ([] : Bs), 1)
 else
 jn (
 if p = 8 then
 some (.inl (decide (p = 8)))
 else
 some (.inl (decide (p = 9)))) (fun (D : Bool) =>
 if D = true then
 jn (
 if bseq q ([45] : Bs) = true then
 some (.inl true)
 else
 (Q109.f q).bind fun E =>
 some (.inl E)) (fun (G : Bool) =>
 some (G, 1))
 else
 jn (
 if p = 10 then
 some (.inl (decide (p = 10)))
 else
 some (.inl (decide (p = 11)))) (fun (I : Bool) =>
 if I = true then
 (Q99.f q).bind fun J =>
 some (J, 1)
 else
 jn (
 if p = 6 then
 some (.inl (decide (p = 6)))
 else
 some (.inl (decide (p = 7)))) (fun (L : Bool) =>
 if L = true then
 some (bseq q ([] : Bs), 2)
 else
 some (false, 0)))))
theorem Q129.callee : Callee Tryz.prog 161 := ⟨_, Tryz.func161, by kernel_rfl, by kernel_rfl⟩
theorem Q129.spec {p G I J : Int} {L : Bs} {r : Bool × Int} (j : Q129.f p G I L J = some r) :
 Spec Tryz.prog 161 [.agg #[i6 p, i6 G, i6 I, .string ⟨(L).toArray⟩, i6 J]] R (Fr) (fun v l' => v = .tuple #[i6 r.2, .bool r.1] ∧ Fr = l') := by
 refine Spec.of Tryz.func161 rfl rfl ?_; unfold Q129.f at j; have j := brun j; refine At.seq (At.region ?_); refine At.box rfl rfl (cs := [i6 p, i6 G, i6 I, .string ⟨(L).toArray⟩, i6 J]) rfl rfl (fun q => ?_); refine At.run 2 rfl (nT (At.seq (sR 1 rfl (At.y (Y.load rfl rfl .z rfl rfl rfl) rfl rfl rfl ?_)))); refine nT ?_; refine At.block ?_; refine At.seq (sR 2 rfl (nT ?_)); obtain ⟨b3, b4, d2, j⟩ := bjoin j; let T1 : HProp := pc q [i6 p, i6 G, i6 I, .string ⟨(L).toArray⟩, i6 J] 33; refine At.join (X := Bool) (fun u => [(1, bp q), (5, i6 p), (6, .bool u)]) (fun u => T1 :: Fr) (fun u => b3 (.inl u) = some r) ?_ (fun a6 => ?_)
 ·rintro u j; have j := (b4 _).symm.trans j
  ·rcases bite j with ⟨M, j⟩ | ⟨M, j⟩
   ··refine At.condT rfl M ?_
     refine At.seq ?_; refine At.quiet (by kernel_rfl) ?_; refine At.Quiet.run 1 rfl ?_; refine At.Quiet.y (Y.load rfl rfl .z rfl rfl rfl) rfl rfl rfl ?_; refine At.Quiet.run 3 rfl (At.Quiet.nil (At.thn (At.ret ?_))); refine At.ibr ?_; refine At.thr (At.drop .z ?_); cases bret j; exact At.res (.inl rfl) rfl rfl ⟨rfl, rfl⟩
   ··refine At.condF rfl (bn M) ?_
     refine sR 2 rfl (nT ?_); rcases bite j with ⟨N, j⟩ | ⟨N, j⟩
     ··refine At.condT rfl (decide_eq_true N) ?_
       refine sR 1 rfl (At.y (Y.load rfl rfl .z rfl rfl rfl) rfl rfl rfl ?_); obtain ⟨d3, b5, j⟩ := bbind j; refine At.call rfl Q109.callee rfl rfl rfl (Q109.spec b5) ?_; rintro _ _ ⟨rfl, rfl⟩; refine At.run 2 rfl (nT (At.ret ?_)); refine At.ibr ?_; refine At.thr (At.drop .z ?_); cases bret j; exact At.res (.inl rfl) rfl rfl ⟨rfl, rfl⟩
     ··refine At.condF rfl (decide_eq_false N) ?_
       refine sR 2 rfl (nT ?_); rcases bite j with ⟨O, j⟩ | ⟨O, j⟩
       ··refine At.condT rfl (decide_eq_true O) ?_
         refine sR 1 rfl (At.y (Y.load rfl rfl .z rfl rfl rfl) rfl rfl rfl ?_); obtain ⟨d4, b6, j⟩ := bbind j; refine At.call rfl Q99.callee rfl rfl rfl (Q99.spec b6) ?_; rintro _ _ ⟨rfl, rfl⟩; refine At.run 2 rfl (nT (At.ret ?_)); refine At.ibr ?_; refine At.thr (At.drop .z ?_); cases bret j; exact At.res (.inl rfl) rfl rfl ⟨rfl, rfl⟩
       ··refine At.condF rfl (decide_eq_false O) ?_
         refine sR 2 rfl (nT ?_); rcases bite j with ⟨U, j⟩ | ⟨U, j⟩
         ··refine At.condT rfl (decide_eq_true U) ?_
           refine At.seq ?_; refine At.quiet (by kernel_rfl) ?_; refine At.Quiet.run 1 rfl ?_; refine At.Quiet.y (Y.load rfl rfl .z rfl rfl rfl) rfl rfl rfl ?_; refine At.Quiet.run 3 rfl (At.Quiet.nil (At.thn (At.ret ?_))); refine At.ibr ?_; refine At.thr (At.drop .z ?_); cases bret j; exact At.res (.inl rfl) rfl rfl ⟨rfl, rfl⟩
         ··refine At.condF rfl (decide_eq_false U) ?_
           refine At.seq (sR 2 rfl (nT ?_)); obtain ⟨b7, b8, d5, j⟩ := bjoin j; refine At.join (X := Bool) (fun x => [(1, bp q), (5, i6 p), (27, .bool x)]) (fun x => T1 :: Fr) (fun x => b7 (.inl x) = some r) ?_ (fun a7 => ?_)
           ·rintro x j; have j := (b8 _).symm.trans j
            ·rcases bite j with ⟨V, j⟩ | ⟨V, j⟩
             ··refine At.condT rfl V ?_
               refine sR 1 rfl (At.y (Y.load rfl rfl .z rfl rfl rfl) rfl rfl rfl (At.run 2 rfl ?_)); obtain ⟨b9, c4, d6, j⟩ := bjoin j; refine At.joinO 4 (X := Bool) (fun C => [(37, .bool C)]) (fun C => T1 :: Fr) (fun C => b9 (.inl C) = some r) ?_ (fun a8 => ?_)
               ·rintro C j; have j := (c4 _).symm.trans j
                ·refine At.run 2 rfl (nT (At.ret ?_)); refine At.ibr ?_; refine At.thr (At.drop .z ?_); cases bret j; exact At.res (.inl rfl) rfl rfl ⟨rfl, rfl⟩
               ··rcases bite j with ⟨Z, j⟩ | ⟨Z, j⟩
                 ··refine At.know (t := 33) rfl Z ?_
                   refine At.run 4 rfl ?_; exact At.of (a8 true j) ⟨rfl, trivial⟩
                 ··refine At.know (t := 33) rfl (bn Z) ?_
                   refine At.run 1 rfl (At.y (Y.load rfl rfl .z rfl rfl rfl) rfl rfl rfl ?_); obtain ⟨c5, c6, j⟩ := bbind j; refine At.call rfl Q109.callee rfl rfl rfl (Q109.spec c6) ?_; rintro _ _ ⟨rfl, rfl⟩; refine At.run 1 rfl ?_; exact At.of (a8 c5 j) ⟨rfl, trivial⟩
             ··refine At.condF rfl (bn V) ?_
               refine At.seq (sR 2 rfl (nT ?_)); obtain ⟨c7, c8, d7, j⟩ := bjoin j; refine At.join (X := Bool) (fun D => [(1, bp q), (5, i6 p), (38, .bool D)]) (fun D => T1 :: Fr) (fun D => c7 (.inl D) = some r) ?_ (fun a9 => ?_)
               ·rintro D j; have j := (c8 _).symm.trans j
                ·rcases bite j with ⟨a0, j⟩ | ⟨a0, j⟩
                 ··refine At.condT rfl a0 ?_
                   refine sR 1 rfl (At.y (Y.load rfl rfl .z rfl rfl rfl) rfl rfl rfl ?_); obtain ⟨d8, c9, j⟩ := bbind j; refine At.call rfl Q99.callee rfl rfl rfl (Q99.spec c9) ?_; rintro _ _ ⟨rfl, rfl⟩; refine At.run 2 rfl (nT (At.ret ?_)); refine At.ibr ?_; refine At.thr (At.drop .z ?_); cases bret j; exact At.res (.inl rfl) rfl rfl ⟨rfl, rfl⟩
                 ··refine At.condF rfl (bn a0) ?_
                   refine At.seq (sR 2 rfl (nT ?_)); obtain ⟨d0, d1, d9, j⟩ := bjoin j; refine At.join (X := Bool) (fun E => [(1, bp q), (44, .bool E)]) (fun E => T1 :: Fr) (fun E => d0 (.inl E) = some r) ?_ (fun b2 => ?_)
                   ·rintro E j; have j := (d1 _).symm.trans j
                    ·rcases bite j with ⟨a1, j⟩ | ⟨a1, j⟩
                     ··refine At.condT rfl a1 ?_
                       refine At.seq ?_; refine At.quiet (by kernel_rfl) ?_; refine At.Quiet.run 1 rfl ?_; refine At.Quiet.y (Y.load rfl rfl .z rfl rfl rfl) rfl rfl rfl ?_; refine At.Quiet.run 3 rfl (At.Quiet.nil (At.thn (At.ret ?_))); refine At.ibr ?_; refine At.thr (At.drop .z ?_); cases bret j; exact At.res (.inl rfl) rfl rfl ⟨rfl, rfl⟩
                     ··refine At.condF rfl (bn a1) ?_
                       refine At.skip ?_; refine At.ibn ?_; refine At.thn (sR 2 rfl (nT (At.ret (At.drop .z ?_)))); cases bret j; exact At.res (.inl rfl) rfl rfl ⟨rfl, rfl⟩
                   ··rcases bite j with ⟨a2, j⟩ | ⟨a2, j⟩
                     ··refine At.condT rfl (decide_eq_true a2) ?_
                       refine At.skip (At.thn ?_); exact fun a w e hs => b2 (decide (p = 6)) j a w (e.sub ⟨rfl, rfl, trivial⟩) hs
                     ··refine At.condF rfl (decide_eq_false a2) ?_
                       refine At.region (At.run 2 rfl (nT ?_)); exact fun a w e hs => b2 (decide (p = 7)) j a w (e.sub ⟨rfl, rfl, trivial⟩) hs
               ··rcases bite j with ⟨a3, j⟩ | ⟨a3, j⟩
                 ··refine At.condT rfl (decide_eq_true a3) ?_
                   refine At.skip (At.thn ?_); exact fun a w e hs => a9 (decide (p = 10)) j a w (e.sub ⟨rfl, rfl, rfl, trivial⟩) hs
                 ··refine At.condF rfl (decide_eq_false a3) ?_
                   refine At.region (At.run 2 rfl (nT ?_)); exact fun a w e hs => a9 (decide (p = 11)) j a w (e.sub ⟨rfl, rfl, rfl, trivial⟩) hs
           ··rcases bite j with ⟨a4, j⟩ | ⟨a4, j⟩
             ··refine At.condT rfl (decide_eq_true a4) ?_
               refine At.skip (At.thn ?_); exact fun a w e hs => a7 (decide (p = 8)) j a w (e.sub ⟨rfl, rfl, rfl, trivial⟩) hs
             ··refine At.condF rfl (decide_eq_false a4) ?_
               refine At.region (At.run 2 rfl (nT ?_)); exact fun a w e hs => a7 (decide (p = 9)) j a w (e.sub ⟨rfl, rfl, rfl, trivial⟩) hs
 ··rcases bite j with ⟨a5, j⟩ | ⟨a5, j⟩
   ··refine At.condT rfl (decide_eq_true a5) ?_
     refine At.skip (At.thn ?_); exact fun a w e hs => a6 (decide (p = 1)) j a w (e.sub ⟨rfl, rfl, rfl, trivial⟩) hs
   ··refine At.condF rfl (decide_eq_false a5) ?_
     refine At.region (At.run 2 rfl (nT ?_)); exact fun a w e hs => a6 (decide (p = 2)) j a w (e.sub ⟨rfl, rfl, rfl, trivial⟩) hs

noncomputable def Q136.f (a0 : Int) : Option Bool :=
 some (!(decide (a0 = 0)))
theorem Q136.callee : Callee Tryz.prog 162 := ⟨_, Tryz.func162, by kernel_rfl, by kernel_rfl⟩
theorem Q136.spec {a0 : Int} {r : Bool} (j : Q136.f a0 = some r) :
 Spec Tryz.prog 162 [i6 a0] R (Fr) (fun v l' => v = .bool r ∧ Fr = l') := by
 refine Spec.of Tryz.func162 rfl rfl ?_; unfold Q136.f at j; have j := brun j; refine sR 1 rfl (nT (sR 3 rfl ?_)); refine nT (At.ret ?_); cases bret j; exact At.res (.inl rfl) rfl rfl ⟨rfl, rfl⟩

noncomputable def Q82.l0b (a0 : List Int) (p : Int) : Option ((Int) ⊕ ((Unit) ⊕ (Int))) :=
 if p < (a0.length : Int) then
 if (0 : Int) ≤ p ∧ p < (a0.length : Int) then
 (Q136.f (gt a0 p)).bind fun q =>
 if q = true then
 upL (some p)
 else
 nx (IntKind.i64.wrap (p + 1))
 else none
 else
 dn (.inl ())
noncomputable def Q82.l0 (a0 : List Int) (p : Int) : Option ((Unit) ⊕ (Int)) := iter (fun t_ : Int => Q82.l0b a0 t_) p
noncomputable def Q82.f (a0 : List Int) : Option Int :=
 jn (Q82.l0 a0 0) (fun (_ : Unit) =>
 some (-1))
theorem Q82.callee : Callee Tryz.prog 129 := ⟨_, Tryz.func129, by kernel_rfl, by kernel_rfl⟩
theorem Q82.spec {a0 : List Int} (hr0 : RdS (Fl.int .i64).rep R.heap A0 a0) (hn0 : a0.length = n0) (hc0 : n0 ≤ c0) {r : Int} (j : Q82.f a0 = some r) :
 Spec Tryz.prog 129 [.slice A0 n0 c0, .func (.func 162) #[] #[]] R (Fr) (fun v l' => v = i6 r ∧ Fr = l') := by
 subst hn0; refine Spec.of Tryz.func129 rfl rfl ?_; unfold Q82.f at j; have j := brun j; refine sR 1 rfl (nT (At.seq (At.seq (At.region ?_)))); refine At.run 3 rfl (nT ?_); refine At.block ?_; obtain ⟨L, M, N, j⟩ := bjoin j; obtain ⟨I, C, J⟩ := bsome j; clear j; unfold Q82.l0 at C; obtain ⟨D, u⟩ := Q14.1 C; clear C; refine At.loopJ (X := Int) (Y := Unit) (e0 := 0) (fun p => [(0, .slice A0 a0.length c0), (1, .func (.func 162) #[] #[]), (7, i6 (a0.length : Int)), (8, i6 p)]) (fun p => Fr) (fun m_ => fun p => iterN (fun t_ : Int => Q82.l0b a0 t_) m_ p = some I) D 0 u (fun _ => []) (fun _ => Fr) (fun _ => L (.inl ()) = some r) (fun a w e hs => ⟨e.sub ⟨rfl, rfl, rfl, rfl, trivial⟩, (by exact hs)⟩) ?_ (fun O => ?_)
 ·rintro _ j; have j := (M _).symm.trans j
  ·refine At.ibx ?_; refine At.thn (sR 1 rfl (nT (At.ret ?_))); cases bret j; exact At.res (.inl rfl) rfl rfl ⟨rfl, rfl⟩
 ·clear u D; rintro D p u; obtain ⟨U, f_, V, hf_, j⟩ := bit u; clear u; have j : (Q82.l0b a0 p).bind _ = some I := j; unfold Q82.l0b at j
  ·refine sR 1 rfl (nT (At.seq ?_)); rcases bite j with ⟨E, j⟩ | ⟨E, j⟩
   ··refine At.condT rfl (decide_eq_true E) ?_
     refine At.skip (At.thn (At.seq ?_)); refine At.block ?_; refine sR 2 rfl (nT (sR 3 rfl ?_)); obtain ⟨x, j⟩ := bnone j; refine At.y (Y.ixRd hr0 rfl rfl rfl rfl rfl rfl rfl x.1 x.2) rfl rfl rfl (At.y (Y.ldFl hr0 rfl (q := 0) rfl rfl x.1 x.2 rfl rfl rfl) rfl rfl rfl ?_); obtain ⟨a1, Z, j⟩ := bbind j; refine At.call rfl Q136.callee rfl rfl rfl (Q136.spec Z) ?_; rintro _ _ ⟨rfl, rfl⟩; refine nT ?_; rcases bite j with ⟨G, j⟩ | ⟨G, j⟩
     ··refine At.condT rfl G ?_
       refine sR 2 rfl (nT (At.ret ?_)); refine At.ibr ?_; refine At.thr ?_; have j := bupL N J j; refine At.thr ?_; refine At.ibr ?_; refine At.thr ?_; cases bret j; exact At.res (.inl rfl) rfl rfl ⟨rfl, rfl⟩
     ··refine At.condF rfl (bn G) ?_
       refine At.skip ?_; refine At.ibn ?_; refine At.thn (At.region (At.run 2 rfl (At.nil ?_))); have j := bnx hf_ j; exact fun a w e hs => ⟨U, (IntKind.i64.wrap (p + 1)), V, j, e.sub ⟨rfl, rfl, rfl, rfl, trivial⟩, hs⟩
   ··refine At.condF rfl (decide_eq_false E) ?_
     refine At.exit ?_; refine At.the ?_; refine At.the ?_; exact fun a w e hs => O () (bdn j J) a w (e.sub trivial) hs

noncomputable def Q130.f (a0 : List Int) : Option Bool :=
 (Q82.f a0).bind fun p =>
 some (decide (0 ≤ p))
theorem Q130.callee : Callee Tryz.prog 72 := ⟨_, Tryz.func72, by kernel_rfl, by kernel_rfl⟩
theorem Q130.spec {a0 : List Int} (hr0 : RdS (Fl.int .i64).rep R.heap A0 a0) (hn0 : a0.length = n0) (hc0 : n0 ≤ c0) {r : Bool} (j : Q130.f a0 = some r) :
 Spec Tryz.prog 72 [.slice A0 n0 c0, .func (.func 162) #[] #[]] R (Fr) (fun v l' => v = .bool r ∧ Fr = l') := by
 subst hn0; refine Spec.of Tryz.func72 rfl rfl ?_; unfold Q130.f at j; have j := brun j; refine sR 1 rfl (nT (sR 2 rfl ?_)); obtain ⟨q, p, j⟩ := bbind j; refine At.call rfl Q82.callee rfl rfl rfl (Q82.spec hr0 rfl hc0 p) ?_; rintro _ _ ⟨rfl, rfl⟩; refine At.run 2 rfl (nT (At.ret ?_)); cases bret j; exact At.res (.inl rfl) rfl rfl ⟨rfl, rfl⟩

noncomputable def Q64.l0b (a0 a1 : List Int) (p : Int) : Option ((Int) ⊕ ((Unit) ⊕ (Bool))) :=
 if p < (a0.length : Int) then
 if (0 : Int) ≤ p ∧ p < (a0.length : Int) then
 if (0 : Int) ≤ p ∧ p < (a1.length : Int) then
 if gt a0 p = gt a1 p then
 nx (IntKind.i64.wrap (p + 1))
 else
 upL (some false)
 else none
 else none
 else
 dn (.inl ())
noncomputable def Q64.l0 (a0 a1 : List Int) (p : Int) : Option ((Unit) ⊕ (Bool)) := iter (fun t_ : Int => Q64.l0b a0 a1 t_) p
noncomputable def Q64.f (a0 a1 : List Int) : Option Bool :=
 if (a0.length : Int) = (a1.length : Int) then
 jn (Q64.l0 a0 a1 0) (fun (_ : Unit) =>
 some true)
 else
 some false
theorem Q64.callee : Callee Tryz.prog 163 := ⟨_, Tryz.func163, by kernel_rfl, by kernel_rfl⟩
theorem Q64.spec {a0 a1 : List Int} (hr0 : RdS (Fl.int .i64).rep R.heap A0 a0) (hn0 : a0.length = n0) (hc0 : n0 ≤ c0) (hr1 : RdS (Fl.int .i64).rep R.heap A1 a1) (hn1 : a1.length = n1) (hc1 : n1 ≤ c1) {r : Bool} (j : Q64.f a0 a1 = some r) :
 Spec Tryz.prog 163 [.slice A0 n0 c0, .slice A1 n1 c1] R (Fr) (fun v l' => v = .bool r ∧ Fr = l') := by
 subst hn0; subst hn1; refine Spec.of Tryz.func163 rfl rfl ?_; unfold Q64.f at j; have j := brun j; refine sR 1 rfl (nT (At.seq (At.seq (At.region ?_)))); refine At.run 5 rfl (nT ?_); rcases bite j with ⟨D, j⟩ | ⟨D, j⟩
 ··refine At.condF rfl (nf (decide_eq_true D)) ?_
   refine At.skip (At.thn (At.seq (sR 3 rfl (nT ?_)))); refine At.block ?_; obtain ⟨N, O, U, j⟩ := bjoin j; obtain ⟨L, E, M⟩ := bsome j; clear j; unfold Q64.l0 at E; obtain ⟨G, u⟩ := Q14.1 E; clear E; refine At.loopJ (X := Int) (Y := Unit) (e0 := 0) (fun p => [(0, .slice A0 a0.length c0), (1, .slice A1 a1.length c1), (12, i6 (a0.length : Int)), (13, i6 p)]) (fun p => Fr) (fun m_ => fun p => iterN (fun t_ : Int => Q64.l0b a0 a1 t_) m_ p = some L) G 0 u (fun _ => []) (fun _ => Fr) (fun _ => N (.inl ()) = some r) (fun a w e hs => ⟨e.sub ⟨rfl, rfl, rfl, rfl, trivial⟩, (by exact hs)⟩) ?_ (fun V => ?_)
   ·rintro _ j; have j := (O _).symm.trans j
    ·refine At.ibx ?_; refine At.thn (sR 1 rfl (nT (At.ret ?_))); cases bret j; exact At.res (.inl rfl) rfl rfl ⟨rfl, rfl⟩
   ·clear u G; rintro G p u; obtain ⟨Z, f_, a2, hf_, j⟩ := bit u; clear u; have j : (Q64.l0b a0 a1 p).bind _ = some L := j; unfold Q64.l0b at j
    ·refine sR 1 rfl (nT (At.seq ?_)); rcases bite j with ⟨I, j⟩ | ⟨I, j⟩
     ··refine At.condT rfl (decide_eq_true I) ?_
       refine At.skip (At.thn (At.seq ?_)); refine At.block ?_; refine sR 2 rfl (nT (At.seq ?_)); refine At.quiet (by kernel_rfl) ?_; refine At.Quiet.run 2 rfl ?_; obtain ⟨x, j⟩ := bnone j; refine At.Quiet.y (Y.ixRd hr0 rfl rfl rfl rfl rfl rfl rfl x.1 x.2) rfl rfl rfl ?_; refine At.Quiet.y (Y.ldFl hr0 rfl (q := 0) rfl rfl x.1 x.2 rfl rfl rfl) rfl rfl rfl ?_; refine At.Quiet.run 2 rfl ?_; obtain ⟨C, j⟩ := bnone j; refine At.Quiet.y (Y.ixRd hr1 rfl rfl rfl rfl rfl rfl rfl C.1 C.2) rfl rfl rfl ?_; refine At.Quiet.y (Y.ldFl hr1 rfl (q := 0) rfl rfl C.1 C.2 rfl rfl rfl) rfl rfl rfl ?_; refine At.Quiet.run 1 rfl (At.Quiet.nil (At.thn ?_)); rcases bite j with ⟨J, j⟩ | ⟨J, j⟩
       ··refine At.condF rfl (nf (decide_eq_true J)) ?_
         refine At.skip ?_; refine At.ibn ?_; refine At.thn (At.region (At.run 2 rfl (At.nil ?_))); have j := bnx hf_ j; exact fun a w e hs => ⟨Z, (IntKind.i64.wrap (p + 1)), a2, j, e.sub ⟨rfl, rfl, rfl, rfl, trivial⟩, hs⟩
       ··refine At.condT rfl (nt (decide_eq_false J)) ?_
         refine sR 1 rfl (nT (At.ret ?_)); refine At.ibr ?_; refine At.thr ?_; have j := bupL U M j; refine At.thr ?_; refine At.ibr ?_; refine At.thr ?_; cases bret j; exact At.res (.inl rfl) rfl rfl ⟨rfl, rfl⟩
     ··refine At.condF rfl (decide_eq_false I) ?_
       refine At.exit ?_; refine At.the ?_; refine At.the ?_; exact fun a w e hs => V () (bdn j M) a w (e.sub trivial) hs
 ··refine At.condT rfl (nt (decide_eq_false D)) ?_
   refine sR 1 rfl (nT (At.ret (At.thr ?_))); cases bret j; exact At.res (.inl rfl) rfl rfl ⟨rfl, rfl⟩

noncomputable def Q54.l0b (a0 : List Q1) (q : List Int) (p : Int) : Option (((List Int) × Int) ⊕ (((List Int)) ⊕ (Bool))) :=
 if p < (a0.length : Int) then
 if (0 : Int) ≤ p ∧ p < (a0.length : Int) then
 (Q129.f ((gt a0 p).Kind) ((gt a0 p).A) ((gt a0 p).B) ((gt a0 p).Name) ((gt a0 p).At)).bind fun u =>
 jn (
 if u.1 = true then
 some (.inl (decide ((q.length : Int) < u.2)))
 else
 some (.inl true)) (fun (x : Bool) =>
 if x = true then
 upL (some false)
 else
 if (0 : Int) ≤ u.2 ∧ u.2 ≤ (([((gt a0 p).A), ((gt a0 p).B)] : List Int).length : Int) then
 (Q130.f (([((gt a0 p).A), ((gt a0 p).B)] : List Int).drop u.2.toNat)).bind fun C =>
 jn (
 if C = true then
 some (.inl true)
 else
 if (0 : Int) ≤ IntKind.i64.wrap ((q.length : Int) - u.2) ∧ IntKind.i64.wrap ((q.length : Int) - u.2) ≤ (q.length : Int) then
 (Q64.f (q.drop (IntKind.i64.wrap ((q.length : Int) - u.2)).toNat) (([((gt a0 p).A), ((gt a0 p).B)] : List Int).take u.2.toNat)).bind fun D =>
 some (.inl (!D))
 else none) (fun (E : Bool) =>
 if E = true then
 upL (some false)
 else
 if (0 : Int) ≤ IntKind.i64.wrap ((q.length : Int) - u.2) ∧ IntKind.i64.wrap ((q.length : Int) - u.2) ≤ (q.length : Int) then
 if ((q.take (IntKind.i64.wrap ((q.length : Int) - u.2)).toNat).length + ([p] : List Int).length) * 8 ≤ 140737488355328 then
 nx (((q.take (IntKind.i64.wrap ((q.length : Int) - u.2)).toNat) ++ ([p] : List Int)), IntKind.i64.wrap (p + 1))
 else none
 else none)
 else none)
 else none
 else
 dn (.inl q)
noncomputable def Q54.l0 (a0 : List Q1) (p : List Int) (q : Int) : Option (((List Int)) ⊕ (Bool)) := iter (fun t_ : (List Int) × Int => Q54.l0b a0 t_.1 t_.2) (p, q)
noncomputable def Q54.f (a0 : List Q1) : Option Bool :=
 jn (
 if (a0.length : Int) < 1 then
 some (.inl true)
 else
 some (.inl (decide (60 < (a0.length : Int))))) (fun (p : Bool) =>
 if p = true then
 some false
 else
 jn (Q54.l0 a0 ([] : List Int) 0) (fun (q : List Int) =>
 some (decide ((q.length : Int) = 1))))
theorem Q54.callee : Callee Tryz.prog 133 := ⟨_, Tryz.func133, by kernel_rfl, by kernel_rfl⟩
theorem Q54.spec {a0 : List Q1} (hr0 : RdS Q1.fl.rep R.heap A0 a0) (hn0 : a0.length = n0) (hc0 : n0 ≤ c0) {r : Bool} (j : Q54.f a0 = some r) :
 Spec Tryz.prog 133 [.slice A0 n0 c0] R (Fr) (fun v l' => v = .bool r ∧ Fr = l') := by
 subst hn0; refine Spec.of Tryz.func133 rfl rfl ?_; unfold Q54.f at j; have j := brun j; refine sR 1 rfl (nT (At.seq (At.seq (At.region ?_)))); refine At.run 4 rfl ?_; obtain ⟨c7, c8, g2, j⟩ := bjoin j; refine At.joinO 4 (X := Bool) (fun C => [(0, .slice A0 a0.length c0), (16, .bool C)]) (fun C => Fr) (fun C => c7 (.inl C) = some r) ?_ (fun a9 => ?_)
 ·rintro C j; have j := (c8 _).symm.trans j
  ·refine nT ?_; rcases bite j with ⟨O, j⟩ | ⟨O, j⟩
   ··refine At.condT rfl O ?_
     refine sR 1 rfl (nT (At.ret (At.thr ?_))); cases bret j; exact At.res (.inl rfl) rfl rfl ⟨rfl, rfl⟩
   ··refine At.condF rfl (bn O) ?_
     refine At.skip (At.thn (sR 1 rfl (nT (At.seq ?_)))); refine sR 3 rfl (nT ?_); refine At.block ?_; obtain ⟨c9, d0, b2, j⟩ := bjoin j; obtain ⟨I, U, V⟩ := bsome j; clear j; unfold Q54.l0 at U; obtain ⟨Z, D⟩ := Q14.1 U; clear U; refine At.nilRow (Fl.int .i64) 3 ?_; refine At.loopJ (X := (List Int) × Int × Nat × (Option Addr) × Nat) (Y := (List Int) × Nat × (Option Addr) × Nat) (e0 := 0) (fun s_ => [(3, .slice s_.2.2.2.1 s_.2.2.1 s_.2.2.2.2), (17, .slice A0 a0.length c0), (18, i6 (a0.length : Int)), (19, i6 s_.2.1)]) (fun s_ => row (Fl.int .i64) 3 s_.2.2.2.1 s_.2.2.1 s_.2.2.2.2 s_.1 :: Fr) (fun m_ => fun s_ => iterN (fun t_ : (List Int) × Int => Q54.l0b a0 t_.1 t_.2) m_ (s_.1, s_.2.1) = some I ∧ s_.1.length = s_.2.2.1) Z (([] : List Int), 0, 0, none, 0) ⟨D, rfl⟩ (fun s_ => [(3, .slice s_.2.2.1 s_.2.1 s_.2.2.2)]) (fun s_ => row (Fl.int .i64) 3 s_.2.2.1 s_.2.1 s_.2.2.2 s_.1 :: Fr) (fun s_ => c9 (.inl s_.1) = some r ∧ s_.1.length = s_.2.1) (fun a w e hs => ⟨e.sub ⟨rfl, rfl, rfl, rfl, trivial⟩, (by exact hs)⟩) ?_ (fun d1 => ?_)
     ·rintro ⟨d2, d3, g3, g4⟩ ⟨j, d4⟩; obtain rfl : d2.length = d3 := d4; have j := (d0 _).symm.trans j
      ·refine At.ibx ?_; refine At.thn (sR 4 rfl (nT (At.ret (At.drop .z ?_)))); cases bret j; exact At.res (.inl rfl) rfl rfl ⟨rfl, rfl⟩
     ·clear D Z; rintro Z ⟨u, p, d5, J, L⟩ ⟨D, d6⟩; obtain rfl : u.length = d5 := d6; obtain ⟨d7, f_, d8, hf_, j⟩ := bit D; clear D; have j : (Q54.l0b a0 u p).bind _ = some I := j; unfold Q54.l0b at j
      ·refine sR 1 rfl (nT (At.seq ?_)); rcases bite j with ⟨a1, j⟩ | ⟨a1, j⟩
       ··refine At.condT rfl (decide_eq_true a1) ?_
         refine At.skip (At.thn (At.seq ?_)); refine At.block ?_; refine sR 1 rfl ?_; obtain ⟨M, j⟩ := bnone j; refine At.y (Y.ixRd hr0 rfl rfl rfl rfl rfl rfl rfl M.1 M.2) rfl rfl rfl (At.y (Y.ldFl hr0 rfl (q := 0) rfl rfl M.1 M.2 rfl rfl rfl) rfl rfl rfl ?_); refine At.alloc rfl rfl rfl (fun b3 => ?_); refine At.run 1 rfl ?_; refine At.store rfl rfl rfl rfl .z rfl rfl rfl (.c (.c (.c (.c (.c .n))))) ?_; refine nT (At.seq (At.region (At.y (Y.load rfl rfl .z rfl rfl rfl) rfl rfl rfl ?_))); obtain ⟨x, d9, j⟩ := bbind j; refine At.call rfl Q129.callee rfl rfl rfl (Q129.spec d9) ?_; rintro _ _ ⟨rfl, rfl⟩; refine At.run 5 rfl (nT (At.seq (sR 3 rfl ?_))); obtain ⟨e1, e2, g5, j⟩ := bjoin j; let T2 : HProp := pc b3 [i6 ((gt a0 p).Kind), i6 ((gt a0 p).A), i6 ((gt a0 p).B), .string ⟨((gt a0 p).Name).toArray⟩, i6 ((gt a0 p).At)] 33; refine At.joinO 5 (X := Bool) (fun E => [(3, .slice J u.length L), (4, i6 p), (5, bp b3), (6, i6 x.2), (17, .slice A0 a0.length c0), (18, i6 (a0.length : Int)), (19, i6 p), (36, .bool E)]) (fun E => T2 :: row (Fl.int .i64) 3 J u.length L u :: Fr) (fun E => e1 (.inl E) = some I) ?_ (fun b4 => ?_)
         ·rintro E j; have j := (e2 _).symm.trans j
          ·refine nT ?_; rcases bite j with ⟨a2, j⟩ | ⟨a2, j⟩
           ··refine At.condT rfl a2 ?_
             refine sR 1 rfl (nT (At.ret (At.thr ?_))); refine At.ibr ?_; refine At.thr ?_; have j := bupL b2 V j; refine At.thr ?_; refine At.ibr ?_; refine At.thr (At.drop .z (At.drop .z ?_)); cases bret j; exact At.res (.inl rfl) rfl rfl ⟨rfl, rfl⟩
           ··refine At.condF rfl (bn a2) ?_
             refine At.skip (At.thn (sR 1 rfl (At.y (Y.load rfl rfl .z rfl rfl rfl) rfl rfl rfl (At.run 1 rfl (At.y (Y.load rfl rfl .z rfl rfl rfl) rfl rfl rfl ?_))))); refine At.lit rfl (xo := [.tmp 38, .tmp 40]) (ys := ([((gt a0 p).A), ((gt a0 p).B)] : List Int)) (Fl.int .i64) rfl rfl rfl rfl rfl rfl rfl rfl rfl rfl rfl (fun g6 e3 => ?_); refine At.run 1 rfl (nT (At.seq (At.seq ?_))); refine At.freeze .z fun g7 b5 a3 a4 g8 b6 => ?_; refine At.freeze (.s .z) fun b7 e4 e5 e6 b8 b9 => ?_; refine At.quiet (by kernel_rfl) ?_; refine At.Quiet.run 2 rfl ?_; obtain ⟨N, j⟩ := bnone j; obtain ⟨g9, e7, e8, e9⟩ := Y.slFromAt (P := Tryz.prog) (R := b7) a3 b5 a4 N.1 N.2; refine At.Quiet.y (e9 rfl rfl rfl rfl rfl rfl) rfl rfl rfl ?_; obtain ⟨h0, f0, j⟩ := bbind j; refine At.Quiet.call rfl Q130.callee rfl rfl rfl (Q130.spec (RdS.mono b8 e7) rfl e8 f0) (fun _ _ h_ => ⟨h_.1, fun _ hs => h_.2 ▸ hs⟩) ?_; refine At.Quiet.run 1 rfl ?_; obtain ⟨f1, f2, h1, j⟩ := bjoin j; refine At.Quiet.joinO 12 (X := Bool) (fun G => [(3, .slice J u.length L), (4, i6 p), (6, i6 x.2), (17, .slice A0 a0.length c0), (18, i6 (a0.length : Int)), (19, i6 p), (58, .bool G)]) (fun G => T2 :: Fr) (fun G => f1 (.inl G) = some I) ?_ (fun c4 => ?_)
             ·rintro G j; have j := (f2 _).symm.trans j
              ·refine At.Quiet.nil (At.thn ?_); rcases bite j with ⟨a5, j⟩ | ⟨a5, j⟩
               ··refine At.condT rfl a5 ?_
                 refine sR 1 rfl (nT (At.ret (At.thr ?_))); refine At.ibr ?_; refine At.thr ?_; have j := bupL b2 V j; refine At.thr ?_; refine At.ibr ?_; refine At.thr ?_; refine At.thaw b9 ?_; refine At.thaw b6 ?_; refine At.drop .z (At.drop .z (At.drop .z ?_)); cases bret j; exact At.res (.inl rfl) rfl rfl ⟨rfl, rfl⟩
               ··refine At.condF rfl (bn a5) ?_
                 refine At.skip (At.thn (At.region (At.run 5 rfl ?_))); refine At.thaw b9 ?_; obtain ⟨c5, j⟩ := bnone j; refine At.cut rfl .z rfl rfl rfl rfl rfl c5.1 c5.2 rfl ?_; refine At.run 1 rfl ?_; refine At.lit rfl (xo := [.tmp 65]) (ys := ([p] : List Int)) (Fl.int .i64) rfl rfl rfl rfl rfl rfl rfl rfl rfl rfl rfl (fun h2 h3 => ?_); obtain ⟨f3, j⟩ := bnone j; refine At.append rfl (.s .z) (Src.own .z (by simp)) rfl rfl rfl rfl rfl rfl rfl rfl f3 (by decide) rfl (fun f4 f5 => ?_); refine At.drop (.s .z) (At.run 1 rfl (At.nil ?_)); refine At.ibn ?_; refine At.thn (At.region (At.run 2 rfl (At.nil ?_))); refine At.thaw b6 ?_; refine At.drop .z (At.drop (.s .z) ?_); have j := bnx hf_ j; exact fun a w e hs => ⟨d7, (((u.take (IntKind.i64.wrap ((u.length : Int) - x.2)).toNat) ++ ([p] : List Int)), IntKind.i64.wrap (p + 1), ((u.take (IntKind.i64.wrap ((u.length : Int) - x.2)).toNat) ++ ([p] : List Int)).length, f4, f5), d8, ⟨j, rfl⟩, e.sub ⟨rfl, rfl, rfl, rfl, trivial⟩, hs⟩
             ··rcases bite j with ⟨a6, j⟩ | ⟨a6, j⟩
               ··refine At.Quiet.know (t := 46) rfl a6 ?_
                 refine At.Quiet.run 12 rfl ?_; exact At.Quiet.of (c4 true j) ⟨rfl, rfl, rfl, rfl, rfl, rfl, rfl, trivial⟩
               ··refine At.Quiet.know (t := 46) rfl (bn a6) ?_
                 refine At.Quiet.run 5 rfl ?_; obtain ⟨c6, j⟩ := bnone j; obtain ⟨h4, f6, f7, f8⟩ := Y.slFromAt (P := Tryz.prog) (R := b7) e5 e4 e6 c6.1 c6.2; refine At.Quiet.y (f8 rfl rfl rfl rfl rfl rfl) rfl rfl rfl ?_; refine At.Quiet.run 2 rfl ?_; have f9 : (([((gt a0 p).A), ((gt a0 p).B)] : List Int).take x.2.toNat).length ≤ e3 := Nat.le_trans (List.length_take_le' _ _) (by have h1_ := (show ([((gt a0 p).A), ((gt a0 p).B)] : List Int).length = ([((gt a0 p).A), ((gt a0 p).B)] : List Int).length from a3); have h2_ := a4; omega); refine At.Quiet.y (Y.slTo a3 rfl rfl rfl rfl rfl a4 N.1 N.2) rfl rfl rfl ?_; obtain ⟨g0, g1, j⟩ := bbind j; refine At.Quiet.call rfl Q64.callee rfl rfl rfl (Q64.spec f6 rfl f7 (RdS.mono b8 (RdS.take b5 _)) rfl f9 g1) (fun _ _ h_ => ⟨h_.1, fun _ hs => h_.2 ▸ hs⟩) ?_; refine At.Quiet.run 2 rfl ?_; exact At.Quiet.of (c4 (!g0) j) ⟨rfl, rfl, rfl, rfl, rfl, rfl, rfl, trivial⟩
         ··rcases bite j with ⟨a7, j⟩ | ⟨a7, j⟩
           ··refine At.know (t := 31) rfl (nf a7) ?_
             refine At.run 5 rfl ?_; exact At.of (b4 (decide ((u.length : Int) < x.2)) j) ⟨rfl, rfl, rfl, rfl, rfl, rfl, rfl, rfl, trivial⟩
           ··refine At.know (t := 31) rfl (nt (bn a7)) ?_
             refine At.run 5 rfl ?_; exact At.of (b4 true j) ⟨rfl, rfl, rfl, rfl, rfl, rfl, rfl, rfl, trivial⟩
       ··refine At.condF rfl (decide_eq_false a1) ?_
         refine At.exit ?_; refine At.the ?_; refine At.the ?_; exact fun a w e hs => d1 (u, u.length, J, L) ⟨(bdn j V), rfl⟩ a w (e.sub ⟨rfl, trivial⟩) hs
 ··rcases bite j with ⟨a8, j⟩ | ⟨a8, j⟩
   ··refine At.know (t := 12) rfl (decide_eq_true a8) ?_
     refine At.run 4 rfl ?_; exact At.of (a9 true j) ⟨rfl, rfl, trivial⟩
   ··refine At.know (t := 12) rfl (decide_eq_false a8) ?_
     refine At.run 4 rfl ?_; exact At.of (a9 (decide (60 < (a0.length : Int))) j) ⟨rfl, rfl, trivial⟩

noncomputable def Q76.l0b (u : List Q1) (q : List Q13) (a1 : Bs) (p : Int) : Option ((Int) ⊕ ((Unit) ⊕ (Bool × Int × Int))) :=
 if 0 ≤ p then
 if (0 : Int) ≤ p ∧ p < (q.length : Int) then
 if (0 : Int) ≤ (gt q p).node ∧ (gt q p).node < (u.length : Int) then
 if bseq ((gt u ((gt q p).node)).Name) a1 = true then
 upL (some (true, (gt q p).node, (gt q p).nots))
 else
 nx (IntKind.i64.wrap (p - 1))
 else none
 else none
 else
 dn (.inl ())
noncomputable def Q76.l0 (p : List Q1) (q : List Q13) (a1 : Bs) (u : Int) : Option ((Unit) ⊕ (Bool × Int × Int)) := iter (fun t_ : Int => Q76.l0b p q a1 t_) u
noncomputable def Q76.f (q : List Q1) (p : List Q13) (u : Int) (x : List Int) (C : List Bool) (D : List Int) (a1 : Bs) : Option (Bool × Int × Int) :=
 jn (Q76.l0 q p a1 (IntKind.i64.wrap ((p.length : Int) - 1))) (fun (_ : Unit) =>
 some (false, 0, 0))
theorem Q76.callee : Callee Tryz.prog 212 := ⟨_, Tryz.func212, by kernel_rfl, by kernel_rfl⟩
theorem Q76.spec {G : List Q1} {p : List Q13} {L : Int} {x C : List Int} {D : List Bool} {a1 : Bs} (hr0_0 : RdS Q1.fl.rep R.heap A0_0 G) (hn0_0 : G.length = n0_0) (hc0_0 : n0_0 ≤ c0_0) (hn0_1 : p.length = n0_1) (hn0_3 : x.length = n0_3) (hn0_4 : D.length = n0_4) (hn0_5 : C.length = n0_5) {r : Bool × Int × Int} (j : Q76.f G p L x D C a1 = some r) :
 Spec Tryz.prog 212 [bp b0, .string ⟨(a1).toArray⟩] R (pc b0 [.slice A0_0 n0_0 c0_0, .slice A0_1 n0_1 c0_1, i6 L, .slice A0_3 n0_3 c0_3, .slice A0_4 n0_4 c0_4, .slice A0_5 n0_5 c0_5] 190 :: row Q13.fl 242 A0_1 n0_1 c0_1 p :: row (Fl.int .i64) 3 A0_3 n0_3 c0_3 x :: row Fl.bool 4 A0_4 n0_4 c0_4 D :: row (Fl.int .i64) 3 A0_5 n0_5 c0_5 C :: Fr) (fun v l' => v = .tuple #[.agg #[i6 r.2.1, i6 r.2.2], .bool r.1] ∧ pc b0 [.slice A0_0 n0_0 c0_0, .slice A0_1 n0_1 c0_1, i6 L, .slice A0_3 n0_3 c0_3, .slice A0_4 n0_4 c0_4, .slice A0_5 n0_5 c0_5] 190 :: row Q13.fl 242 A0_1 n0_1 c0_1 p :: row (Fl.int .i64) 3 A0_3 n0_3 c0_3 x :: row Fl.bool 4 A0_4 n0_4 c0_4 D :: row (Fl.int .i64) 3 A0_5 n0_5 c0_5 C :: Fr = l') := by
 subst hn0_0; subst hn0_1; subst hn0_3; subst hn0_4; subst hn0_5; refine Spec.of Tryz.func212 rfl rfl ?_; unfold Q76.f at j; have j := brun j; refine At.seq (At.region ?_); refine At.alloc rfl rfl rfl (fun M => ?_); refine At.run 1 rfl (nT (At.seq (sR 3 rfl (At.y (Y.load rfl rfl (.s .z) rfl rfl rfl) rfl rfl rfl ?_)))); refine At.run 3 rfl (nT ?_); refine At.block ?_; obtain ⟨a2, a3, a4, j⟩ := bjoin j; obtain ⟨Z, N, a0⟩ := bsome j; clear j; unfold Q76.l0 at N; obtain ⟨O, J⟩ := Q14.1 N; clear N; let T3 : HProp := pt M (.cells ([i6 0, i6 0] : List Value).toArray 242); let T4 : HProp := pc b0 [.slice A0_0 G.length c0_0, .slice A0_1 p.length c0_1, i6 L, .slice A0_3 x.length c0_3, .slice A0_4 D.length c0_4, .slice A0_5 C.length c0_5] 190; let T5 : HProp := row Q13.fl 242 A0_1 p.length c0_1 p; let T6 : HProp := row (Fl.int .i64) 3 A0_3 x.length c0_3 x; let T7 : HProp := row Fl.bool 4 A0_4 D.length c0_4 D; let T8 : HProp := row (Fl.int .i64) 3 A0_5 C.length c0_5 C; refine At.loopJ (X := Int) (Y := Unit) (e0 := 0) (fun E => [(0, bp b0), (1, .string ⟨(a1).toArray⟩), (4, bp M), (6, i6 E)]) (fun E => T3 :: T4 :: T5 :: T6 :: T7 :: T8 :: Fr) (fun m_ => fun E => iterN (fun t_ : Int => Q76.l0b G p a1 t_) m_ E = some Z) O (IntKind.i64.wrap ((p.length : Int) - 1)) J (fun _ => [(4, bp M)]) (fun _ => T3 :: T4 :: T5 :: T6 :: T7 :: T8 :: Fr) (fun _ => a2 (.inl ()) = some r) (fun a w e hs => ⟨e.sub ⟨rfl, rfl, rfl, rfl, trivial⟩, (by exact hs)⟩) ?_ (fun a5 => ?_)
 ·rintro _ j; have j := (a3 _).symm.trans j
  ·refine At.ibx ?_; refine At.thn (At.seq (At.region ?_)); refine At.y (Y.build (is := []) (xo := []) (vs := []) (cs := [i6 0, i6 0]) rfl rfl rfl rfl rfl rfl) rfl rfl rfl ?_; refine At.store rfl rfl rfl rfl .z rfl rfl rfl (.c (.c .n)) ?_; refine At.run 1 rfl (nT (At.ret ?_)); refine At.resM (.inl rfl) rfl (RV.cell rfl rfl .z rfl rfl rfl (RV.tmp rfl RV.nil)) ?_; refine At.drop .z ?_; cases bret j; exact fun a w e hs => ⟨_, ⟨rfl, rfl⟩, hs⟩
 ·clear J O; rintro O E J; obtain ⟨a6, f_, a7, hf_, j⟩ := bit J; clear J; have j : (Q76.l0b G p a1 E).bind _ = some Z := j; unfold Q76.l0b at j
  ·refine At.seq (sR 2 rfl (nT ?_)); rcases bite j with ⟨U, j⟩ | ⟨U, j⟩
   ··refine At.condT rfl (decide_eq_true U) ?_
     refine At.skip (At.thn (At.seq ?_)); refine At.block ?_; refine At.seq ?_; refine At.quiet (by kernel_rfl) ?_; refine At.Quiet.run 3 rfl ?_; refine At.Quiet.y (Y.load rfl rfl (.s .z) rfl rfl rfl) rfl rfl rfl ?_; refine At.Quiet.run 3 rfl ?_; refine At.Quiet.y (Y.load rfl rfl (.s .z) rfl rfl rfl) rfl rfl rfl ?_; refine At.Quiet.run 1 rfl ?_; obtain ⟨u, j⟩ := bnone j; refine At.Quiet.y (Y.ix (.s (.s .z)) rfl rfl rfl rfl rfl rfl u.1 u.2) rfl rfl rfl ?_; refine At.Quiet.y (Y.faOwn (.s (.s .z)) u.1 u.2 rfl rfl rfl rfl rfl rfl) rfl rfl rfl ?_; refine At.Quiet.y (Y.ld (.s (.s .z)) (q := 0) rfl rfl u.1 u.2 rfl rfl rfl) rfl rfl rfl ?_; obtain ⟨I, j⟩ := bnone j; refine At.Quiet.y (Y.ixRd hr0_0 rfl rfl rfl rfl rfl rfl rfl I.1 I.2) rfl rfl rfl ?_; refine At.Quiet.y (Y.fa (RdS.some_ hr0_0 rfl I.1 I.2) rfl rfl rfl rfl rfl rfl) rfl rfl rfl ?_; refine At.Quiet.y (Y.ldFl hr0_0 rfl (q := 3) rfl rfl I.1 I.2 rfl rfl rfl) rfl rfl rfl ?_; refine At.Quiet.run 2 rfl (At.Quiet.nil (At.thn ?_)); rcases bite j with ⟨V, j⟩ | ⟨V, j⟩
     ··refine At.condT rfl V ?_
       refine sR 3 rfl (At.y (Y.load rfl rfl (.s .z) rfl rfl rfl) rfl rfl rfl (At.run 1 rfl (At.y (Y.ix (.s (.s .z)) rfl rfl rfl rfl rfl rfl u.1 u.2) rfl rfl rfl (At.y (Y.ld (.s (.s .z)) (q := 0) rfl rfl u.1 u.2 rfl rfl rfl) rfl rfl rfl ?_)))); refine At.store rfl rfl rfl rfl .z rfl rfl rfl (.c (.c .n)) ?_; refine At.run 1 rfl (nT (At.ret ?_)); refine At.ibr ?_; refine At.thr ?_; have j := bupL a4 a0 j; refine At.thr ?_; refine At.ibr ?_; refine At.thr ?_; refine At.resM (.inl rfl) rfl (RV.cell rfl rfl .z rfl rfl rfl (RV.tmp rfl RV.nil)) ?_; refine At.drop .z ?_; cases bret j; exact fun a w e hs => ⟨_, ⟨rfl, rfl⟩, hs⟩
     ··refine At.condF rfl (bn V) ?_
       refine At.skip ?_; refine At.ibn ?_; refine At.thn (At.region (At.run 3 rfl (At.nil ?_))); have j := bnx hf_ j; exact fun a w e hs => ⟨a6, (IntKind.i64.wrap (E - 1)), a7, j, e.sub ⟨rfl, rfl, rfl, rfl, trivial⟩, hs⟩
   ··refine At.condF rfl (decide_eq_false U) ?_
     refine At.exit ?_; refine At.the ?_; refine At.the ?_; exact fun a w e hs => a5 () (bdn j a0) a w (e.sub ⟨rfl, trivial⟩) hs

noncomputable def Q37.g (self_ : (List Q1) → (List Q13) → Int → (List Int) → (List Bool) → (List Int) → Int → Option ((List Bool) × (List Int) × (List Q13) × (List Int) × Int)) (p : List Q1) (C : List Q13) (u : Int) (D : List Int) (E : List Bool) (q : List Int) (a1 : Int) : Option ((List Bool) × (List Int) × (List Q13) × (List Int) × Int) :=
 if (0 : Int) ≤ a1 ∧ a1 < (p.length : Int) then
 if (gt p a1).Kind = 4 then
 (Q76.f p C u D E q ((gt p a1).Name)).bind fun M =>
 if M.1 = true then
 if (0 : Int) ≤ a1 ∧ a1 < (D.length : Int) then
 if (0 : Int) ≤ a1 ∧ a1 < (E.length : Int) then
 some ((st E a1 (!(decide ((Int.tmod (IntKind.i64.wrap (u - M.2.2)) 2) = 0)))), (st D a1 M.2.1), C, q, u)
 else none
 else none
 else
 some (E, D, C, q, u)
 else
 if (gt p a1).Kind = 5 then
 (self_ p C (IntKind.i64.wrap (u + 1)) D E q ((gt p a1).A)).bind fun I =>
 if (0 : Int) ≤ (gt p a1).A ∧ (gt p a1).A < (q.length : Int) then
 if (0 : Int) ≤ a1 ∧ a1 < (q.length : Int) then
 some (I.1, I.2.1, I.2.2.1, (st I.2.2.2.1 a1 (gt I.2.2.2.1 ((gt p a1).A))), IntKind.i64.wrap (I.2.2.2.2 - 1))
 else none
 else none
 else
 jn (
 if (gt p a1).Kind = 8 then
 some (.inl (decide ((gt p a1).Kind = 8)))
 else
 some (.inl (decide ((gt p a1).Kind = 9)))) (fun (N : Bool) =>
 if N = true then
 (self_ p C u D E q ((gt p a1).A)).bind fun J =>
 if (0 : Int) ≤ (gt p a1).A ∧ (gt p a1).A < (q.length : Int) then
 if (0 : Int) ≤ a1 ∧ a1 < (q.length : Int) then
 some (J.1, J.2.1, J.2.2.1, (st J.2.2.2.1 a1 (gt J.2.2.2.1 ((gt p a1).A))), J.2.2.2.2)
 else none
 else none
 else
 jn (
 if (gt p a1).Kind = 6 then
 some (.inl (decide ((gt p a1).Kind = 6)))
 else
 some (.inl (decide ((gt p a1).Kind = 7)))) (fun (O : Bool) =>
 if O = true then
 (self_ p C u D E q ((gt p a1).A)).bind fun L =>
 (self_ p L.2.2.1 L.2.2.2.2 L.2.1 L.1 L.2.2.2.1 ((gt p a1).B)).bind fun G =>
 if (0 : Int) ≤ (gt p a1).A ∧ (gt p a1).A < (q.length : Int) then
 if (0 : Int) ≤ (gt p a1).B ∧ (gt p a1).B < (q.length : Int) then
 if (0 : Int) ≤ a1 ∧ a1 < (q.length : Int) then
 some (G.1, G.2.1, G.2.2.1, (st G.2.2.2.1 a1 (if gt G.2.2.2.1 ((gt p a1).A) < gt G.2.2.2.1 ((gt p a1).B) then gt G.2.2.2.1 ((gt p a1).B) else gt G.2.2.2.1 ((gt p a1).A))), G.2.2.2.2)
 else none
 else none
 else none
 else
 jn (
 if (gt p a1).Kind = 10 then
 some (.inl (decide ((gt p a1).Kind = 10)))
 else
 some (.inl (decide ((gt p a1).Kind = 11)))) (fun (U : Bool) =>
 if U = true then
 if (C.length + ([(⟨a1, u⟩ : Q13)] : List Q13).length) * 16 ≤ 140737488355328 then
 (self_ p (C ++ ([(⟨a1, u⟩ : Q13)] : List Q13)) u D E q ((gt p a1).A)).bind fun x =>
 if (0 : Int) ≤ IntKind.i64.wrap ((x.2.2.1.length : Int) - 1) ∧ IntKind.i64.wrap ((x.2.2.1.length : Int) - 1) ≤ (x.2.2.1.length : Int) then
 if (0 : Int) ≤ (gt p a1).A ∧ (gt p a1).A < (q.length : Int) then
 if (0 : Int) ≤ a1 ∧ a1 < (q.length : Int) then
 some (x.1, x.2.1, (x.2.2.1.take (IntKind.i64.wrap ((x.2.2.1.length : Int) - 1)).toNat), (st x.2.2.2.1 a1 (IntKind.i64.wrap (gt x.2.2.2.1 ((gt p a1).A) + 1))), x.2.2.2.2)
 else none
 else none
 else none
 else none
 else
 some (E, D, C, q, u))))
 else none
noncomputable def Q37.n : Nat → (List Q1) → (List Q13) → Int → (List Int) → (List Bool) → (List Int) → Int → Option ((List Bool) × (List Int) × (List Q13) × (List Int) × Int)
 | 0, _, _, _, _, _, _, _ => none
 | k_ + 1, a0_0, a0_1, a0_2, a0_3, a0_4, a0_5, a1 => Q37.g (Q37.n k_) a0_0 a0_1 a0_2 a0_3 a0_4 a0_5 a1
noncomputable def Q37.f (p : List Q1) (q : List Q13) (u : Int) (x : List Int) (C : List Bool) (D : List Int) (a1 : Int) : Option ((List Bool) × (List Int) × (List Q13) × (List Int) × Int) := recF fun k_ => Q37.n k_ p q u x C D a1
theorem Q37.callee : Callee Tryz.prog 164 := ⟨_, Tryz.func164, by kernel_rfl, by kernel_rfl⟩
theorem Q37.specN (k_ : Nat) : ∀ (R : Res) (Fr : List HProp) (b0 : Nat) (A0_0 : Option Addr) (n0_0 : Nat) (c0_0 : Nat) (A0_1 : Option Addr) (n0_1 : Nat) (c0_1 : Nat) (A0_3 : Option Addr) (n0_3 : Nat) (c0_3 : Nat) (A0_4 : Option Addr) (n0_4 : Nat) (c0_4 : Nat) (A0_5 : Option Addr) (n0_5 : Nat) (c0_5 : Nat) (p : List Q1) (D : List Q13) (E : Int) (x : List Int) (C : List Bool) (u : List Int) (a1 : Int) (hr0_0 : RdS Q1.fl.rep R.heap A0_0 p) (hn0_0 : p.length = n0_0) (hc0_0 : n0_0 ≤ c0_0) (hn0_1 : D.length = n0_1) (hn0_3 : x.length = n0_3) (hn0_4 : C.length = n0_4) (hn0_5 : u.length = n0_5) {r : (List Bool) × (List Int) × (List Q13) × (List Int) × Int} (j : Q37.n k_ p D E x C u a1 = some r),
 Spec Tryz.prog 164 [bp b0, i6 a1] R (pc b0 [.slice A0_0 n0_0 c0_0, .slice A0_1 n0_1 c0_1, i6 E, .slice A0_3 n0_3 c0_3, .slice A0_4 n0_4 c0_4, .slice A0_5 n0_5 c0_5] 190 :: row Q13.fl 242 A0_1 n0_1 c0_1 D :: row (Fl.int .i64) 3 A0_3 n0_3 c0_3 x :: row Fl.bool 4 A0_4 n0_4 c0_4 C :: row (Fl.int .i64) 3 A0_5 n0_5 c0_5 u :: Fr) (fun v l' => ∃ (b4 : Nat) (d3 : Option Addr) (d4 : Nat), v = .tuple #[] ∧ pc b0 [.slice A0_0 n0_0 c0_0, .slice d3 b4 d4, i6 r.2.2.2.2, .slice A0_3 n0_3 c0_3, .slice A0_4 n0_4 c0_4, .slice A0_5 n0_5 c0_5] 190 :: row Q13.fl 242 d3 b4 d4 r.2.2.1 :: row (Fl.int .i64) 3 A0_3 n0_3 c0_3 r.2.1 :: row Fl.bool 4 A0_4 n0_4 c0_4 r.1 :: row (Fl.int .i64) 3 A0_5 n0_5 c0_5 r.2.2.2.1 :: Fr = l' ∧ r.2.2.1.length = b4) := by
 induction k_ with
 | zero => intro R Fr b0 A0_0 n0_0 c0_0 A0_1 n0_1 c0_1 A0_3 n0_3 c0_3 A0_4 n0_4 c0_4 A0_5 n0_5 c0_5 p D E x C u a1 hr0_0 hn0_0 hc0_0 hn0_1 hn0_3 hn0_4 hn0_5 r j; cases j
 | succ k_ ih =>
  intro R Fr b0 A0_0 n0_0 c0_0 A0_1 n0_1 c0_1 A0_3 n0_3 c0_3 A0_4 n0_4 c0_4 A0_5 n0_5 c0_5 p D E x C u a1 hr0_0 hn0_0 hc0_0 hn0_1 hn0_3 hn0_4 hn0_5 r j; have j : Q37.g (Q37.n k_) p D E x C u a1 = some r := j; generalize Q37.n k_ = self_ at ih j; subst hn0_0; subst hn0_1; subst hn0_3; subst hn0_4; subst hn0_5; refine Spec.of Tryz.func164 rfl rfl ?_; unfold Q37.g at j; have j := brun j; refine sR 3 rfl (At.y (Y.load rfl rfl .z rfl rfl rfl) rfl rfl rfl (At.run 1 rfl ?_)); obtain ⟨U, j⟩ := bnone j; refine At.y (Y.ixRd hr0_0 rfl rfl rfl rfl rfl rfl rfl U.1 U.2) rfl rfl rfl (At.y (Y.ldFl hr0_0 rfl (q := 0) rfl rfl U.1 U.2 rfl rfl rfl) rfl rfl rfl ?_); refine At.alloc rfl rfl rfl (fun I => ?_); refine At.store rfl rfl rfl rfl .z rfl rfl rfl (.c (.c (.c (.c (.c .n))))) ?_; refine nT (sR 1 rfl (At.y (Y.load rfl rfl .z rfl rfl rfl) rfl rfl rfl (nT ?_))); refine At.block ?_; refine sR 2 rfl (nT ?_); rcases bite j with ⟨b5, j⟩ | ⟨b5, j⟩
  ··refine At.condT rfl (decide_eq_true b5) ?_
    refine sR 2 rfl (At.y (Y.load rfl rfl .z rfl rfl rfl) rfl rfl rfl (At.f5 (At.f5 (At.f5 (At.f5 ?_))))); refine At.f5 ?_; obtain ⟨V, e1, j⟩ := bbind j; refine At.call rfl Q76.callee rfl rfl rfl (Q76.spec hr0_0 rfl hc0_0 rfl rfl rfl rfl e1) ?_; rintro _ _ ⟨rfl, rfl⟩; refine At.run 3 rfl ?_; refine At.alloc rfl rfl rfl (fun e2 => ?_); refine At.store rfl rfl rfl rfl .z rfl rfl rfl (.c (.c .n)) ?_; refine At.run 1 rfl (nT (sR 1 rfl (nT ?_))); rcases bite j with ⟨b6, j⟩ | ⟨b6, j⟩
    ··refine At.condT rfl b6 ?_
      refine At.held [pc e2 [i6 V.2.1, i6 V.2.2] 242, pc b0 [.slice A0_0 p.length c0_0, .slice A0_1 D.length c0_1, i6 E, .slice A0_3 x.length c0_3, .slice A0_4 C.length c0_4, .slice A0_5 u.length c0_5] 190, row Q13.fl 242 A0_1 D.length c0_1 D, row (Fl.int .i64) 3 A0_5 u.length c0_5 u, pc I [i6 ((gt p a1).Kind), i6 ((gt p a1).A), i6 ((gt p a1).B), .string ⟨((gt p a1).Name).toArray⟩, i6 ((gt p a1).At)] 33] 25 rfl ?_; refine At.H.pw 0 rfl rfl rfl rfl rfl (.c .z (.c .z (.c .z (.c (.s (.s .z)) (.c (.s (.s .z)) .n))))) ?_; refine At.H.pw 1 rfl rfl rfl rfl rfl (.c .z (.c .z (.c .z (.c (.s (.s .z)) (.c (.s (.s .z)) .n))))) ?_; refine At.H.pw 2 rfl rfl rfl rfl rfl (.c .z (.c .z (.c .z (.c (.s (.s .z)) (.c (.s (.s .z)) .n))))) ?_; refine At.H.tw 3 rfl (Y.load rfl rfl (.s .z) rfl rfl rfl) rfl rfl rfl (.c .z (.c .z (.c .z (.c (.s (.s .z)) (.c (.s (.s .z)) .n))))) ?_; refine At.H.pw 4 rfl rfl rfl rfl rfl (.c .z (.c .z (.c .z (.c (.s (.s .z)) (.c (.s (.s .z)) .n))))) ?_; refine At.H.pw 5 rfl rfl rfl rfl rfl (.c .z (.c .z (.c .z (.c (.s (.s .z)) (.c (.s (.s .z)) .n))))) ?_; refine At.H.pw 6 rfl rfl rfl rfl rfl (.c .z (.c .z (.c .z (.c (.s (.s .z)) (.c (.s (.s .z)) .n))))) ?_; refine At.H.pw 7 rfl rfl rfl rfl rfl (.c .z (.c .z (.c .z (.c (.s (.s .z)) (.c (.s (.s .z)) .n))))) ?_; refine At.H.tw 8 rfl (Y.load rfl rfl (.s .z) rfl rfl rfl) rfl rfl rfl (.c .z (.c .z (.c .z (.c (.s (.s .z)) (.c (.s (.s .z)) .n))))) ?_; refine At.H.pw 9 rfl rfl rfl rfl rfl (.c .z (.c .z (.c .z (.c (.s (.s .z)) (.c (.s (.s .z)) .n))))) ?_; refine At.H.pw 10 rfl rfl rfl rfl rfl (.c .z (.c .z (.c .z (.c (.s (.s .z)) (.c (.s (.s .z)) .n))))) ?_; refine At.H.tw 11 rfl (Y.load rfl rfl .z rfl rfl rfl) rfl rfl rfl (.c .z (.c .z (.c .z (.c (.s (.s .z)) (.c (.s (.s .z)) .n))))) ?_; refine At.H.pw 12 rfl rfl rfl rfl rfl (.c .z (.c .z (.c .z (.c (.s (.s .z)) (.c (.s (.s .z)) .n))))) ?_; refine At.H.pw 13 rfl rfl rfl rfl rfl (.c .z (.c .z (.c .z (.c (.s (.s .z)) (.c (.s (.s .z)) .n))))) ?_; refine At.H.pw 14 rfl rfl rfl rfl rfl (.c .z (.c .z (.c .z (.c (.s (.s .z)) (.c (.s (.s .z)) .n))))) ?_; refine At.H.tw 15 rfl (Y.load rfl rfl (.s .z) rfl rfl rfl) rfl rfl rfl (.c .z (.c .z (.c .z (.c (.s (.s .z)) (.c (.s (.s .z)) .n))))) ?_; refine At.H.pw 16 rfl rfl rfl rfl rfl (.c .z (.c .z (.c .z (.c (.s (.s .z)) (.c (.s (.s .z)) .n))))) ?_; refine At.H.tw 17 rfl (Y.load rfl rfl .z rfl rfl rfl) rfl rfl rfl (.c .z (.c .z (.c .z (.c (.s (.s .z)) (.c (.s (.s .z)) .n))))) ?_; refine At.H.pw 18 rfl rfl rfl rfl rfl (.c .z (.c .z (.c .z (.c (.s (.s .z)) (.c (.s (.s .z)) .n))))) ?_; refine At.H.tw 19 rfl (Y.rem rfl rfl (by decide)) rfl rfl rfl (.c .z (.c .z (.c .z (.c (.s (.s .z)) (.c (.s (.s .z)) .n))))) ?_; refine At.H.pw 20 rfl rfl rfl rfl rfl (.c .z (.c .z (.c .z (.c (.s (.s .z)) (.c (.s (.s .z)) .n))))) ?_; refine At.H.al [21] (Q7 ?_ Q8)
      ··refine At.HO.op rfl ?_
        obtain ⟨Z, j⟩ := bnone j; refine At.y (Y.ix (.s (.s (.s .z))) rfl rfl rfl rfl rfl rfl Z.1 Z.2) rfl rfl rfl ?_; refine At.HO.back (.c .z (.c .z (.c .z (.c (.s (.s .z)) (.c (.s (.s .z)) .n))))) ?_; refine At.H.al [22] (Q7 ?_ Q8)
        ··refine At.HO.op rfl ?_
          refine At.st rfl (.s (.s (.s .z))) (q := 0) (z := V.2.1) rfl rfl rfl Z.1 Z.2 rfl rfl (.c .n) ?_; refine At.HO.back (.c (.s .z) (.c (.s .z) (.c (.s .z) (.c (.s (.s .z)) (.c (.s (.s .z)) .n))))) ?_; refine At.H.al [23] (Q7 ?_ Q8)
          ··refine At.HO.op rfl ?_
            obtain ⟨a0, j⟩ := bnone j; refine At.y (Y.ix (.s (.s (.s (.s .z)))) rfl rfl rfl rfl rfl rfl a0.1 a0.2) rfl rfl rfl ?_; refine At.HO.back (.c (.s .z) (.c (.s .z) (.c (.s .z) (.c (.s (.s .z)) (.c (.s (.s .z)) .n))))) ?_; refine At.H.al [24] (Q7 ?_ Q8)
            ··refine At.HO.op rfl ?_
              refine At.st rfl (.s (.s (.s (.s .z)))) (q := 0) (z := (!(decide ((Int.tmod (IntKind.i64.wrap (E - V.2.2)) 2) = 0)))) rfl rfl rfl a0.1 a0.2 rfl rfl (.c .n) ?_; refine At.HO.back (.c (.s (.s .z)) (.c (.s (.s .z)) (.c (.s (.s .z)) (.c (.s (.s .z)) (.c (.s (.s .z)) .n))))) ?_; refine At.H.done (by kernel_rfl) ?_; refine At.ibn ?_; refine At.drop (.s (.s .z)) (At.drop (.s (.s (.s (.s (.s .z))))) (At.f4 (At.f1 (At.f2 (At.f4 (At.f4 ?_)))))); obtain rfl := (bret j).symm; exact At.res (.inr rfl) rfl rfl ⟨D.length, A0_1, c0_1, rfl, rfl, rfl⟩
    ··refine At.condF rfl (bn b6) ?_
      refine At.skip ?_; refine At.ibn ?_; refine At.drop .z (At.drop (.s (.s (.s (.s (.s .z))))) ?_); obtain rfl := (bret j).symm; exact At.res (.inr rfl) rfl rfl ⟨D.length, A0_1, c0_1, rfl, rfl, rfl⟩
  ··refine At.condF rfl (decide_eq_false b5) ?_
    refine sR 2 rfl (nT ?_); rcases bite j with ⟨b7, j⟩ | ⟨b7, j⟩
    ··refine At.condT rfl (decide_eq_true b7) ?_
      refine sR 3 rfl (At.y (Y.load rfl rfl (.s .z) rfl rfl rfl) rfl rfl rfl (At.run 3 rfl ?_)); refine At.store rfl rfl rfl rfl (.s .z) rfl rfl rfl (.s (.s (.c .n))) ?_; refine nT (sR 2 rfl (At.y (Y.load rfl rfl (.s .z) rfl rfl rfl) rfl rfl rfl (At.f5 (At.f5 ?_)))); refine At.f5 (At.f5 (At.f4 ?_)); obtain ⟨d5, e3, j⟩ := bbind j; refine At.call rfl Q37.callee rfl rfl rfl (ih _ _ b0 A0_0 p.length c0_0 A0_1 D.length c0_1 A0_3 x.length c0_3 A0_4 C.length c0_4 A0_5 u.length c0_5 p D (IntKind.i64.wrap (E + 1)) x C u ((gt p a1).A) hr0_0 rfl hc0_0 rfl rfl rfl rfl e3) ?_; rintro _ _ ⟨h9, e4, e5, rfl, rfl, rfl⟩; refine nT (sR 3 rfl (At.y (Y.load rfl rfl .z rfl rfl rfl) rfl rfl rfl (At.run 3 rfl ?_))); refine At.store rfl rfl rfl rfl .z rfl rfl rfl (.s (.s (.c .n))) ?_; refine nT ?_; refine At.still 14 (by kernel_rfl) ?_; refine At.Still.run 3 rfl ?_; refine At.Still.y (Y.load rfl rfl .z rfl rfl rfl) rfl rfl rfl ?_; refine At.Still.run 4 rfl ?_; refine At.Still.y (Y.load rfl rfl .z rfl rfl rfl) rfl rfl rfl ?_; refine At.Still.run 1 rfl ?_; refine At.Still.y (Y.load rfl rfl (.s (.s (.s (.s (.s .z))))) rfl rfl rfl) rfl rfl rfl ?_; obtain ⟨a2, j⟩ := bnone j; refine At.Still.y (Y.ix (.s (.s (.s (.s .z)))) rfl rfl rfl rfl rfl rfl a2.1 a2.2) rfl rfl rfl ?_; refine At.Still.y (Y.ld (.s (.s (.s (.s .z)))) (q := 0) rfl rfl a2.1 a2.2 rfl rfl rfl) rfl rfl rfl ?_; obtain ⟨a3, j⟩ := bnone j; refine At.Still.y (Y.ix (.s (.s (.s (.s .z)))) rfl rfl rfl rfl rfl rfl a3.1 a3.2) rfl rfl rfl ?_; refine At.Still.nil ?_; refine At.st rfl (.s (.s (.s (.s .z)))) (q := 0) (z := (gt d5.2.2.2.1 ((gt p a1).A))) rfl rfl rfl a3.1 a3.2 rfl rfl (.c .n) ?_; refine At.nil ?_; refine At.ibn ?_; refine At.drop (.s (.s (.s (.s (.s .z))))) (At.f4 (At.f4 (At.f4 (At.f4 ?_)))); cases bret j; exact At.res (.inr rfl) rfl rfl ⟨d5.2.2.1.length, e4, e5, rfl, rfl, rfl⟩
    ··refine At.condF rfl (decide_eq_false b7) ?_
      refine At.seq (sR 2 rfl (nT ?_)); obtain ⟨e6, e7, k0, j⟩ := bjoin j; let T9 : HProp := pc I [i6 ((gt p a1).Kind), i6 ((gt p a1).A), i6 ((gt p a1).B), .string ⟨((gt p a1).Name).toArray⟩, i6 ((gt p a1).At)] 33; let b8 : HProp := pc b0 [.slice A0_0 p.length c0_0, .slice A0_1 D.length c0_1, i6 E, .slice A0_3 x.length c0_3, .slice A0_4 C.length c0_4, .slice A0_5 u.length c0_5] 190; refine At.join (X := Bool) (fun L => [(0, bp b0), (1, i6 a1), (4, bp I), (15, i6 ((gt p a1).Kind)), (83, .bool L)]) (fun L => T9 :: b8 :: row Q13.fl 242 A0_1 D.length c0_1 D :: row (Fl.int .i64) 3 A0_3 x.length c0_3 x :: row Fl.bool 4 A0_4 C.length c0_4 C :: row (Fl.int .i64) 3 A0_5 u.length c0_5 u :: Fr) (fun L => e6 (.inl L) = some r) ?_ (fun d6 => ?_)
      ·rintro L j; have j := (e7 _).symm.trans j
       ·rcases bite j with ⟨b9, j⟩ | ⟨b9, j⟩
        ··refine At.condT rfl b9 ?_
          refine sR 2 rfl (At.y (Y.load rfl rfl .z rfl rfl rfl) rfl rfl rfl (At.f5 (At.f5 (At.f5 (At.f5 ?_))))); refine At.f5 ?_; obtain ⟨d7, e8, j⟩ := bbind j; refine At.call rfl Q37.callee rfl rfl rfl (ih _ _ b0 A0_0 p.length c0_0 A0_1 D.length c0_1 A0_3 x.length c0_3 A0_4 C.length c0_4 A0_5 u.length c0_5 p D E x C u ((gt p a1).A) hr0_0 rfl hc0_0 rfl rfl rfl rfl e8) ?_; rintro _ _ ⟨k1, e9, f0, rfl, rfl, rfl⟩; refine nT ?_; refine At.still 14 (by kernel_rfl) ?_; refine At.Still.run 3 rfl ?_; refine At.Still.y (Y.load rfl rfl .z rfl rfl rfl) rfl rfl rfl ?_; refine At.Still.run 4 rfl ?_; refine At.Still.y (Y.load rfl rfl .z rfl rfl rfl) rfl rfl rfl ?_; refine At.Still.run 1 rfl ?_; refine At.Still.y (Y.load rfl rfl (.s (.s (.s (.s (.s .z))))) rfl rfl rfl) rfl rfl rfl ?_; obtain ⟨a4, j⟩ := bnone j; refine At.Still.y (Y.ix (.s (.s (.s (.s .z)))) rfl rfl rfl rfl rfl rfl a4.1 a4.2) rfl rfl rfl ?_; refine At.Still.y (Y.ld (.s (.s (.s (.s .z)))) (q := 0) rfl rfl a4.1 a4.2 rfl rfl rfl) rfl rfl rfl ?_; obtain ⟨a5, j⟩ := bnone j; refine At.Still.y (Y.ix (.s (.s (.s (.s .z)))) rfl rfl rfl rfl rfl rfl a5.1 a5.2) rfl rfl rfl ?_; refine At.Still.nil ?_; refine At.st rfl (.s (.s (.s (.s .z)))) (q := 0) (z := (gt d7.2.2.2.1 ((gt p a1).A))) rfl rfl rfl a5.1 a5.2 rfl rfl (.c .n) ?_; refine At.nil ?_; refine At.ibn ?_; refine At.drop (.s (.s (.s (.s (.s .z))))) (At.f4 (At.f4 (At.f4 (At.f4 ?_)))); cases bret j; exact At.res (.inr rfl) rfl rfl ⟨d7.2.2.1.length, e9, f0, rfl, rfl, rfl⟩
        ··refine At.condF rfl (bn b9) ?_
          refine At.seq (sR 2 rfl (nT ?_)); obtain ⟨f3, f6, k2, j⟩ := bjoin j; refine At.join (X := Bool) (fun M => [(0, bp b0), (1, i6 a1), (4, bp I), (15, i6 ((gt p a1).Kind)), (104, .bool M)]) (fun M => T9 :: b8 :: row Q13.fl 242 A0_1 D.length c0_1 D :: row (Fl.int .i64) 3 A0_3 x.length c0_3 x :: row Fl.bool 4 A0_4 C.length c0_4 C :: row (Fl.int .i64) 3 A0_5 u.length c0_5 u :: Fr) (fun M => f3 (.inl M) = some r) ?_ (fun d8 => ?_)
          ·rintro M j; have j := (f6 _).symm.trans j
           ·rcases bite j with ⟨c4, j⟩ | ⟨c4, j⟩
            ··refine At.condT rfl c4 ?_
              refine sR 2 rfl (At.y (Y.load rfl rfl .z rfl rfl rfl) rfl rfl rfl (At.f5 (At.f5 (At.f5 (At.f5 ?_))))); refine At.f5 ?_; obtain ⟨J, f7, j⟩ := bbind j; refine At.call rfl Q37.callee rfl rfl rfl (ih _ _ b0 A0_0 p.length c0_0 A0_1 D.length c0_1 A0_3 x.length c0_3 A0_4 C.length c0_4 A0_5 u.length c0_5 p D E x C u ((gt p a1).A) hr0_0 rfl hc0_0 rfl rfl rfl rfl f7) ?_; rintro _ _ ⟨k3, f8, f9, rfl, rfl, rfl⟩; refine nT (sR 2 rfl ?_); refine At.y (Y.load rfl rfl (.s (.s (.s (.s (.s .z))))) rfl rfl rfl) rfl rfl rfl ?_; refine At.rowLen (.s (.s .z)) fun g0 => ?_; refine At.rowLen (.s (.s (.s .z))) fun g1 => ?_; refine At.rowLen (.s (.s (.s (.s .z)))) fun g2 => ?_; obtain ⟨N, g3, j⟩ := bbind j; refine At.call rfl Q37.callee rfl rfl rfl (ih _ _ b0 A0_0 p.length c0_0 f8 J.2.2.1.length f9 A0_3 x.length c0_3 A0_4 C.length c0_4 A0_5 u.length c0_5 p J.2.2.1 J.2.2.2.2 J.2.1 J.1 J.2.2.2.1 ((gt p a1).B) hr0_0 rfl hc0_0 rfl g0 g1 g2 g3) ?_; rintro _ _ ⟨k4, g4, g5, rfl, rfl, rfl⟩; refine nT ?_; refine At.still 23 (by kernel_rfl) ?_; refine At.Still.run 3 rfl ?_; refine At.Still.y (Y.load rfl rfl .z rfl rfl rfl) rfl rfl rfl ?_; refine At.Still.run 4 rfl ?_; refine At.Still.y (Y.load rfl rfl .z rfl rfl rfl) rfl rfl rfl ?_; refine At.Still.run 1 rfl ?_; refine At.Still.y (Y.load rfl rfl (.s (.s (.s (.s (.s .z))))) rfl rfl rfl) rfl rfl rfl ?_; obtain ⟨a6, j⟩ := bnone j; refine At.Still.y (Y.ix (.s (.s (.s (.s .z)))) rfl rfl rfl rfl rfl rfl a6.1 a6.2) rfl rfl rfl ?_; refine At.Still.y (Y.ld (.s (.s (.s (.s .z)))) (q := 0) rfl rfl a6.1 a6.2 rfl rfl rfl) rfl rfl rfl ?_; refine At.Still.run 3 rfl ?_; refine At.Still.y (Y.load rfl rfl .z rfl rfl rfl) rfl rfl rfl ?_; refine At.Still.run 1 rfl ?_; refine At.Still.y (Y.load rfl rfl (.s (.s (.s (.s (.s .z))))) rfl rfl rfl) rfl rfl rfl ?_; obtain ⟨a7, j⟩ := bnone j; refine At.Still.y (Y.ix (.s (.s (.s (.s .z)))) rfl rfl rfl rfl rfl rfl a7.1 a7.2) rfl rfl rfl ?_; refine At.Still.y (Y.ld (.s (.s (.s (.s .z)))) (q := 0) rfl rfl a7.1 a7.2 rfl rfl rfl) rfl rfl rfl ?_; refine At.Still.run 1 rfl ?_; obtain ⟨a8, j⟩ := bnone j; refine At.Still.y (Y.ix (.s (.s (.s (.s .z)))) rfl rfl rfl rfl rfl rfl a8.1 a8.2) rfl rfl rfl ?_; refine At.Still.nil ?_; refine At.st rfl (.s (.s (.s (.s .z)))) (q := 0) (z := (if gt N.2.2.2.1 ((gt p a1).A) < gt N.2.2.2.1 ((gt p a1).B) then gt N.2.2.2.1 ((gt p a1).B) else gt N.2.2.2.1 ((gt p a1).A))) rfl rfl rfl a8.1 a8.2 rfl rfl (.c .n) ?_; refine At.nil ?_; refine At.ibn ?_; refine At.drop (.s (.s (.s (.s (.s .z))))) (At.f4 (At.f4 (At.f4 (At.f4 ?_)))); cases bret j; exact At.res (.inr rfl) rfl rfl ⟨N.2.2.1.length, g4, g5, rfl, rfl, rfl⟩
            ··refine At.condF rfl (bn c4) ?_
              refine At.seq (sR 2 rfl (nT ?_)); obtain ⟨g6, g7, k5, j⟩ := bjoin j; refine At.join (X := Bool) (fun O => [(0, bp b0), (1, i6 a1), (4, bp I), (138, .bool O)]) (fun O => T9 :: b8 :: row Q13.fl 242 A0_1 D.length c0_1 D :: row (Fl.int .i64) 3 A0_3 x.length c0_3 x :: row Fl.bool 4 A0_4 C.length c0_4 C :: row (Fl.int .i64) 3 A0_5 u.length c0_5 u :: Fr) (fun O => g6 (.inl O) = some r) ?_ (fun d9 => ?_)
              ·rintro O j; have j := (g7 _).symm.trans j
               ·rcases bite j with ⟨c5, j⟩ | ⟨c5, j⟩
                ··refine At.condT rfl c5 ?_
                  refine At.seq ?_; refine At.held [T9, row (Fl.int .i64) 3 A0_3 x.length c0_3 x, row Fl.bool 4 A0_4 C.length c0_4 C, row (Fl.int .i64) 3 A0_5 u.length c0_5 u] 16 rfl ?_; refine At.H.pw 0 rfl rfl rfl rfl rfl (.c .z (.c (.s (.s .z)) (.c (.s (.s .z)) (.c (.s (.s .z)) .n)))) ?_; refine At.H.pw 1 rfl rfl rfl rfl rfl (.c .z (.c (.s (.s .z)) (.c (.s (.s .z)) (.c (.s (.s .z)) .n)))) ?_; refine At.H.pw 2 rfl rfl rfl rfl rfl (.c .z (.c (.s (.s .z)) (.c (.s (.s .z)) (.c (.s (.s .z)) .n)))) ?_; refine At.H.pw 3 rfl rfl rfl rfl rfl (.c .z (.c (.s (.s .z)) (.c (.s (.s .z)) (.c (.s (.s .z)) .n)))) ?_; refine At.H.pw 5 rfl rfl rfl rfl rfl (.c .z (.c (.s (.s .z)) (.c (.s (.s .z)) (.c (.s (.s .z)) .n)))) ?_; refine At.H.pw 6 rfl rfl rfl rfl rfl (.c .z (.c (.s (.s .z)) (.c (.s (.s .z)) (.c (.s (.s .z)) .n)))) ?_; refine At.H.pw 7 rfl rfl rfl rfl rfl (.c .z (.c (.s (.s .z)) (.c (.s (.s .z)) (.c (.s (.s .z)) .n)))) ?_; refine At.H.pw 8 rfl rfl rfl rfl rfl (.c .z (.c (.s (.s .z)) (.c (.s (.s .z)) (.c (.s (.s .z)) .n)))) ?_; obtain ⟨c6, j⟩ := bnone j; refine At.H.joinK (X := (Option Addr) × Nat) (fun s_ => [(0, bp b0), (1, i6 a1), (4, bp I)]) (fun s_ => pc b0 [.slice A0_0 p.length c0_0, .slice s_.1 ((D ++ ([(⟨a1, E⟩ : Q13)] : List Q13)).length) s_.2, i6 E, .slice A0_3 x.length c0_3, .slice A0_4 C.length c0_4, .slice A0_5 u.length c0_5] 190 :: row Q13.fl 242 s_.1 ((D ++ ([(⟨a1, E⟩ : Q13)] : List Q13)).length) s_.2 (D ++ ([(⟨a1, E⟩ : Q13)] : List Q13)) :: T9 :: row (Fl.int .i64) 3 A0_3 x.length c0_3 x :: row Fl.bool 4 A0_4 C.length c0_4 C :: row (Fl.int .i64) 3 A0_5 u.length c0_5 u :: Fr) (fun s_ => True) ?_ (fun c7 => ?_)
                  ·rintro ⟨g8, g9⟩ -
                   ·refine At.thn (sR 2 rfl (At.y (Y.load rfl rfl (.s (.s .z)) rfl rfl rfl) rfl rfl rfl (At.f5 (At.f5 (At.f5 ?_))))); refine At.f4 (At.f4 ?_); obtain ⟨G, h0, j⟩ := bbind j; refine At.call rfl Q37.callee rfl rfl rfl (ih _ _ b0 A0_0 p.length c0_0 g8 ((D ++ ([(⟨a1, E⟩ : Q13)] : List Q13)).length) g9 A0_3 x.length c0_3 A0_4 C.length c0_4 A0_5 u.length c0_5 p (D ++ ([(⟨a1, E⟩ : Q13)] : List Q13)) E x C u ((gt p a1).A) hr0_0 rfl hc0_0 rfl rfl rfl rfl h0) ?_; rintro _ _ ⟨k6, c8, c9, rfl, rfl, rfl⟩; refine nT (At.seq ?_); refine At.held [row (Fl.int .i64) 3 A0_3 x.length c0_3 G.2.1, row Fl.bool 4 A0_4 C.length c0_4 G.1, row (Fl.int .i64) 3 A0_5 u.length c0_5 G.2.2.2.1, T9] 15 rfl ?_; refine At.H.pw 0 rfl rfl rfl rfl rfl (.c (.s (.s .z)) (.c (.s (.s .z)) (.c (.s (.s .z)) (.c (.s (.s .z)) .n)))) ?_; refine At.H.pw 1 rfl rfl rfl rfl rfl (.c (.s (.s .z)) (.c (.s (.s .z)) (.c (.s (.s .z)) (.c (.s (.s .z)) .n)))) ?_; refine At.H.pw 2 rfl rfl rfl rfl rfl (.c (.s (.s .z)) (.c (.s (.s .z)) (.c (.s (.s .z)) (.c (.s (.s .z)) .n)))) ?_; refine At.H.pw 3 rfl rfl rfl rfl rfl (.c (.s (.s .z)) (.c (.s (.s .z)) (.c (.s (.s .z)) (.c (.s (.s .z)) .n)))) ?_; refine At.H.pw 5 rfl rfl rfl rfl rfl (.c (.s (.s .z)) (.c (.s (.s .z)) (.c (.s (.s .z)) (.c (.s (.s .z)) .n)))) ?_; refine At.H.pw 6 rfl rfl rfl rfl rfl (.c (.s (.s .z)) (.c (.s (.s .z)) (.c (.s (.s .z)) (.c (.s (.s .z)) .n)))) ?_; refine At.H.pw 7 rfl rfl rfl rfl rfl (.c (.s (.s .z)) (.c (.s (.s .z)) (.c (.s (.s .z)) (.c (.s (.s .z)) .n)))) ?_; obtain ⟨a9, j⟩ := bnone j; let h1 : HProp := pc b0 [.slice A0_0 p.length c0_0, .slice c8 ((G.2.2.1.take (IntKind.i64.wrap ((G.2.2.1.length : Int) - 1)).toNat).length) c9, i6 G.2.2.2.2, .slice A0_3 x.length c0_3, .slice A0_4 C.length c0_4, .slice A0_5 u.length c0_5] 190; let h2 : HProp := row Q13.fl 242 c8 ((G.2.2.1.take (IntKind.i64.wrap ((G.2.2.1.length : Int) - 1)).toNat).length) c9 (G.2.2.1.take (IntKind.i64.wrap ((G.2.2.1.length : Int) - 1)).toNat); refine At.H.joinK (X := Unit) (fun _ => [(0, bp b0), (1, i6 a1), (4, bp I)]) (fun _ => h1 :: h2 :: row (Fl.int .i64) 3 A0_3 x.length c0_3 G.2.1 :: row Fl.bool 4 A0_4 C.length c0_4 G.1 :: row (Fl.int .i64) 3 A0_5 u.length c0_5 G.2.2.2.1 :: T9 :: Fr) (fun _ => True) ?_ (fun e0 => ?_)
                    ·rintro _ -
                     ·refine At.thn ?_; refine At.still 15 (by kernel_rfl) ?_; refine At.Still.run 3 rfl ?_; refine At.Still.y (Y.load rfl rfl .z rfl rfl rfl) rfl rfl rfl ?_; refine At.Still.run 4 rfl ?_; refine At.Still.y (Y.load rfl rfl .z rfl rfl rfl) rfl rfl rfl ?_; refine At.Still.run 1 rfl ?_; refine At.Still.y (Y.load rfl rfl (.s (.s (.s (.s (.s .z))))) rfl rfl rfl) rfl rfl rfl ?_; obtain ⟨b2, j⟩ := bnone j; refine At.Still.y (Y.ix (.s (.s (.s (.s .z)))) rfl rfl rfl rfl rfl rfl b2.1 b2.2) rfl rfl rfl ?_; refine At.Still.y (Y.ld (.s (.s (.s (.s .z)))) (q := 0) rfl rfl b2.1 b2.2 rfl rfl rfl) rfl rfl rfl ?_; refine At.Still.run 1 rfl ?_; obtain ⟨b3, j⟩ := bnone j; refine At.Still.y (Y.ix (.s (.s (.s (.s .z)))) rfl rfl rfl rfl rfl rfl b3.1 b3.2) rfl rfl rfl ?_; refine At.Still.nil ?_; refine At.st rfl (.s (.s (.s (.s .z)))) (q := 0) (z := (IntKind.i64.wrap (gt G.2.2.2.1 ((gt p a1).A) + 1))) rfl rfl rfl b3.1 b3.2 rfl rfl (.c .n) ?_; refine At.nil ?_; refine At.ibn ?_; refine At.drop (.s (.s (.s (.s (.s .z))))) (At.f4 (At.f4 (At.f4 (At.f4 ?_)))); cases bret j; exact At.res (.inr rfl) rfl rfl ⟨(G.2.2.1.take (IntKind.i64.wrap ((G.2.2.1.length : Int) - 1)).toNat).length, c8, c9, rfl, rfl, rfl⟩
                    ·refine At.H.al [4, 8] (Q7 ?_ (Q7 ?_ Q8))
                     ··refine At.HO.op rfl ?_
                       refine At.y (Y.load rfl rfl .z rfl rfl rfl) rfl rfl rfl ?_; refine At.HO.back (.c (.s (.s .z)) (.c (.s (.s .z)) (.c (.s (.s .z)) (.c (.s (.s .z)) .n)))) ?_; refine At.H.al [8] (Q7 ?_ Q8)
                       ··refine At.HO.op rfl ?_
                         refine At.y (Y.load rfl rfl .z rfl rfl rfl) rfl rfl rfl ?_; refine At.HO.back (.c (.s (.s .z)) (.c (.s (.s .z)) (.c (.s (.s .z)) (.c (.s (.s .z)) .n)))) ?_; refine At.H.pw 9 rfl rfl rfl rfl rfl (.c (.s (.s .z)) (.c (.s (.s .z)) (.c (.s (.s .z)) (.c (.s (.s .z)) .n)))) ?_; refine At.H.pw 10 rfl rfl rfl rfl rfl (.c (.s (.s .z)) (.c (.s (.s .z)) (.c (.s (.s .z)) (.c (.s (.s .z)) .n)))) ?_; refine At.H.al [11] (Q7 ?_ Q8)
                         ··refine At.HO.op rfl ?_
                           refine At.cut rfl (.s .z) rfl rfl rfl rfl rfl a9.1 a9.2 rfl ?_; refine At.HO.back (.c (.s (.s .z)) (.c (.s (.s .z)) (.c (.s (.s .z)) (.c (.s (.s .z)) .n)))) ?_; refine At.H.pw 12 rfl rfl rfl rfl rfl (.c (.s (.s .z)) (.c (.s (.s .z)) (.c (.s (.s .z)) (.c (.s (.s .z)) .n)))) ?_; refine At.H.pw 13 rfl rfl rfl rfl rfl (.c (.s (.s .z)) (.c (.s (.s .z)) (.c (.s (.s .z)) (.c (.s (.s .z)) .n)))) ?_; refine At.H.al [14] (Q7 ?_ Q8)
                           ··refine At.HO.op rfl ?_
                             refine At.store rfl rfl rfl rfl (.s .z) rfl rfl rfl (.s (.c .n)) ?_; refine At.HO.back (.c (.s (.s .z)) (.c (.s (.s .z)) (.c (.s (.s .z)) (.c (.s (.s .z)) .n)))) ?_; refine At.H.done (by kernel_rfl) ?_; exact At.of (e0 () trivial) ⟨rfl, rfl, rfl, trivial⟩
                     ··refine At.HO.op rfl ?_
                       refine At.y (Y.load rfl rfl .z rfl rfl rfl) rfl rfl rfl ?_; refine At.HO.back (.c (.s (.s .z)) (.c (.s (.s .z)) (.c (.s (.s .z)) (.c (.s (.s .z)) .n)))) ?_; refine At.H.pw 9 rfl rfl rfl rfl rfl (.c (.s (.s .z)) (.c (.s (.s .z)) (.c (.s (.s .z)) (.c (.s (.s .z)) .n)))) ?_; refine At.H.pw 10 rfl rfl rfl rfl rfl (.c (.s (.s .z)) (.c (.s (.s .z)) (.c (.s (.s .z)) (.c (.s (.s .z)) .n)))) ?_; refine At.H.al [4] (Q7 ?_ Q8)
                       ··refine At.HO.op rfl ?_
                         refine At.y (Y.load rfl rfl .z rfl rfl rfl) rfl rfl rfl ?_; refine At.HO.back (.c (.s (.s .z)) (.c (.s (.s .z)) (.c (.s (.s .z)) (.c (.s (.s .z)) .n)))) ?_; refine At.H.al [11] (Q7 ?_ Q8)
                         ··refine At.HO.op rfl ?_
                           refine At.cut rfl (.s .z) rfl rfl rfl rfl rfl a9.1 a9.2 rfl ?_; refine At.HO.back (.c (.s (.s .z)) (.c (.s (.s .z)) (.c (.s (.s .z)) (.c (.s (.s .z)) .n)))) ?_; refine At.H.pw 12 rfl rfl rfl rfl rfl (.c (.s (.s .z)) (.c (.s (.s .z)) (.c (.s (.s .z)) (.c (.s (.s .z)) .n)))) ?_; refine At.H.pw 13 rfl rfl rfl rfl rfl (.c (.s (.s .z)) (.c (.s (.s .z)) (.c (.s (.s .z)) (.c (.s (.s .z)) .n)))) ?_; refine At.H.al [14] (Q7 ?_ Q8)
                           ··refine At.HO.op rfl ?_
                             refine At.store rfl rfl rfl rfl (.s .z) rfl rfl rfl (.s (.c .n)) ?_; refine At.HO.back (.c (.s (.s .z)) (.c (.s (.s .z)) (.c (.s (.s .z)) (.c (.s (.s .z)) .n)))) ?_; refine At.H.done (by kernel_rfl) ?_; exact At.of (e0 () trivial) ⟨rfl, rfl, rfl, trivial⟩
                  ·refine At.H.al [4, 9] (Q7 ?_ (Q7 ?_ Q8))
                   ··refine At.HO.op rfl ?_
                     refine At.y (Y.load rfl rfl (.s .z) rfl rfl rfl) rfl rfl rfl ?_; refine At.HO.back (.c .z (.c (.s (.s .z)) (.c (.s (.s .z)) (.c (.s (.s .z)) .n)))) ?_; refine At.H.al [9] (Q7 ?_ Q8)
                     ··refine At.HO.op rfl ?_
                       refine At.y (Y.load rfl rfl (.s .z) rfl rfl rfl) rfl rfl rfl ?_; refine At.HO.back (.c .z (.c (.s (.s .z)) (.c (.s (.s .z)) (.c (.s (.s .z)) .n)))) ?_; refine At.H.tw 10 rfl (Y.build (is := [0, 1]) (xo := [.tmp 146, .tmp 150]) (vs := [i6 a1, i6 E]) (cs := [i6 a1, i6 E]) rfl rfl rfl rfl rfl rfl) rfl rfl rfl (.c .z (.c (.s (.s .z)) (.c (.s (.s .z)) (.c (.s (.s .z)) .n)))) ?_; refine At.H.al [11] (Q7 ?_ Q8)
                       ··refine At.HO.op rfl ?_
                         refine At.lit rfl (xo := [.tmp 151]) (ys := ([(⟨a1, E⟩ : Q13)] : List Q13)) Q13.fl rfl rfl rfl rfl rfl rfl rfl rfl rfl rfl rfl (fun k7 k8 => ?_); refine At.HO.back (.c (.s .z) (.c (.s (.s (.s .z))) (.c (.s (.s (.s .z))) (.c (.s (.s (.s .z))) .n)))) ?_; refine At.H.al [12] (Q7 ?_ Q8)
                         ··refine At.HO.op rfl ?_
                           refine At.append rfl (.s (.s (.s .z))) (Src.own .z (by simp)) rfl rfl rfl rfl rfl rfl rfl rfl c6 (by decide) rfl (fun h3 h4 => ?_); refine At.drop (.s .z) ?_; refine At.HO.back (.c (.s .z) (.c (.s (.s .z)) (.c (.s (.s .z)) (.c (.s (.s .z)) .n)))) ?_; refine At.H.pw 13 rfl rfl rfl rfl rfl (.c (.s .z) (.c (.s (.s .z)) (.c (.s (.s .z)) (.c (.s (.s .z)) .n)))) ?_; refine At.H.pw 14 rfl rfl rfl rfl rfl (.c (.s .z) (.c (.s (.s .z)) (.c (.s (.s .z)) (.c (.s (.s .z)) .n)))) ?_; refine At.H.al [15] (Q7 ?_ Q8)
                           ··refine At.HO.op rfl ?_
                             refine At.store rfl rfl rfl rfl (.s (.s .z)) rfl rfl rfl (.s (.c .n)) ?_; refine At.HO.back (.c (.s (.s .z)) (.c (.s (.s .z)) (.c (.s (.s .z)) (.c (.s (.s .z)) .n)))) ?_; refine At.H.done (by kernel_rfl) ?_; exact At.of (c7 (h3, h4) trivial) ⟨rfl, rfl, rfl, trivial⟩
                   ··refine At.HO.op rfl ?_
                     refine At.y (Y.load rfl rfl (.s .z) rfl rfl rfl) rfl rfl rfl ?_; refine At.HO.back (.c .z (.c (.s (.s .z)) (.c (.s (.s .z)) (.c (.s (.s .z)) .n)))) ?_; refine At.H.tw 10 rfl (Y.build (is := [0, 1]) (xo := [.tmp 146, .tmp 150]) (vs := [i6 a1, i6 E]) (cs := [i6 a1, i6 E]) rfl rfl rfl rfl rfl rfl) rfl rfl rfl (.c .z (.c (.s (.s .z)) (.c (.s (.s .z)) (.c (.s (.s .z)) .n)))) ?_; refine At.H.al [4, 11] (Q7 ?_ (Q7 ?_ Q8))
                     ··refine At.HO.op rfl ?_
                       refine At.y (Y.load rfl rfl (.s .z) rfl rfl rfl) rfl rfl rfl ?_; refine At.HO.back (.c .z (.c (.s (.s .z)) (.c (.s (.s .z)) (.c (.s (.s .z)) .n)))) ?_; refine At.H.al [11] (Q7 ?_ Q8)
                       ··refine At.HO.op rfl ?_
                         refine At.lit rfl (xo := [.tmp 151]) (ys := ([(⟨a1, E⟩ : Q13)] : List Q13)) Q13.fl rfl rfl rfl rfl rfl rfl rfl rfl rfl rfl rfl (fun k9 l5 => ?_); refine At.HO.back (.c (.s .z) (.c (.s (.s (.s .z))) (.c (.s (.s (.s .z))) (.c (.s (.s (.s .z))) .n)))) ?_; refine At.H.al [12] (Q7 ?_ Q8)
                         ··refine At.HO.op rfl ?_
                           refine At.append rfl (.s (.s (.s .z))) (Src.own .z (by simp)) rfl rfl rfl rfl rfl rfl rfl rfl c6 (by decide) rfl (fun h5 h6 => ?_); refine At.drop (.s .z) ?_; refine At.HO.back (.c (.s .z) (.c (.s (.s .z)) (.c (.s (.s .z)) (.c (.s (.s .z)) .n)))) ?_; refine At.H.pw 13 rfl rfl rfl rfl rfl (.c (.s .z) (.c (.s (.s .z)) (.c (.s (.s .z)) (.c (.s (.s .z)) .n)))) ?_; refine At.H.pw 14 rfl rfl rfl rfl rfl (.c (.s .z) (.c (.s (.s .z)) (.c (.s (.s .z)) (.c (.s (.s .z)) .n)))) ?_; refine At.H.al [15] (Q7 ?_ Q8)
                           ··refine At.HO.op rfl ?_
                             refine At.store rfl rfl rfl rfl (.s (.s .z)) rfl rfl rfl (.s (.c .n)) ?_; refine At.HO.back (.c (.s (.s .z)) (.c (.s (.s .z)) (.c (.s (.s .z)) (.c (.s (.s .z)) .n)))) ?_; refine At.H.done (by kernel_rfl) ?_; exact At.of (c7 (h5, h6) trivial) ⟨rfl, rfl, rfl, trivial⟩
                     ··refine At.HO.op rfl ?_
                       refine At.lit rfl (xo := [.tmp 151]) (ys := ([(⟨a1, E⟩ : Q13)] : List Q13)) Q13.fl rfl rfl rfl rfl rfl rfl rfl rfl rfl rfl rfl (fun l6 l7 => ?_); refine At.HO.back (.c (.s .z) (.c (.s (.s (.s .z))) (.c (.s (.s (.s .z))) (.c (.s (.s (.s .z))) .n)))) ?_; refine At.H.al [4] (Q7 ?_ Q8)
                       ··refine At.HO.op rfl ?_
                         refine At.y (Y.load rfl rfl (.s (.s .z)) rfl rfl rfl) rfl rfl rfl ?_; refine At.HO.back (.c (.s .z) (.c (.s (.s (.s .z))) (.c (.s (.s (.s .z))) (.c (.s (.s (.s .z))) .n)))) ?_; refine At.H.al [12] (Q7 ?_ Q8)
                         ··refine At.HO.op rfl ?_
                           refine At.append rfl (.s (.s (.s .z))) (Src.own .z (by simp)) rfl rfl rfl rfl rfl rfl rfl rfl c6 (by decide) rfl (fun h7 h8 => ?_); refine At.drop (.s .z) ?_; refine At.HO.back (.c (.s .z) (.c (.s (.s .z)) (.c (.s (.s .z)) (.c (.s (.s .z)) .n)))) ?_; refine At.H.pw 13 rfl rfl rfl rfl rfl (.c (.s .z) (.c (.s (.s .z)) (.c (.s (.s .z)) (.c (.s (.s .z)) .n)))) ?_; refine At.H.pw 14 rfl rfl rfl rfl rfl (.c (.s .z) (.c (.s (.s .z)) (.c (.s (.s .z)) (.c (.s (.s .z)) .n)))) ?_; refine At.H.al [15] (Q7 ?_ Q8)
                           ··refine At.HO.op rfl ?_
                             refine At.store rfl rfl rfl rfl (.s (.s .z)) rfl rfl rfl (.s (.c .n)) ?_; refine At.HO.back (.c (.s (.s .z)) (.c (.s (.s .z)) (.c (.s (.s .z)) (.c (.s (.s .z)) .n)))) ?_; refine At.H.done (by kernel_rfl) ?_; exact At.of (c7 (h7, h8) trivial) ⟨rfl, rfl, rfl, trivial⟩
                ··refine At.condF rfl (bn c5) ?_
                  refine At.skip ?_; refine At.ibn ?_; refine At.drop .z ?_; obtain rfl := (bret j).symm; exact At.res (.inr rfl) rfl rfl ⟨D.length, A0_1, c0_1, rfl, rfl, rfl⟩
              ··rcases bite j with ⟨d0, j⟩ | ⟨d0, j⟩
                ··refine At.condT rfl (decide_eq_true d0) ?_
                  refine At.skip (At.thn ?_); exact fun a w e hs => d9 (decide ((gt p a1).Kind = 10)) j a w (e.sub ⟨rfl, rfl, rfl, rfl, trivial⟩) hs
                ··refine At.condF rfl (decide_eq_false d0) ?_
                  refine At.region (At.run 2 rfl (nT ?_)); exact fun a w e hs => d9 (decide ((gt p a1).Kind = 11)) j a w (e.sub ⟨rfl, rfl, rfl, rfl, trivial⟩) hs
          ··rcases bite j with ⟨d1, j⟩ | ⟨d1, j⟩
            ··refine At.condT rfl (decide_eq_true d1) ?_
              refine At.skip (At.thn ?_); exact fun a w e hs => d8 (decide ((gt p a1).Kind = 6)) j a w (e.sub ⟨rfl, rfl, rfl, rfl, rfl, trivial⟩) hs
            ··refine At.condF rfl (decide_eq_false d1) ?_
              refine At.region (At.run 2 rfl (nT ?_)); exact fun a w e hs => d8 (decide ((gt p a1).Kind = 7)) j a w (e.sub ⟨rfl, rfl, rfl, rfl, rfl, trivial⟩) hs
      ··rcases bite j with ⟨d2, j⟩ | ⟨d2, j⟩
        ··refine At.condT rfl (decide_eq_true d2) ?_
          refine At.skip (At.thn ?_); exact fun a w e hs => d6 (decide ((gt p a1).Kind = 8)) j a w (e.sub ⟨rfl, rfl, rfl, rfl, rfl, trivial⟩) hs
        ··refine At.condF rfl (decide_eq_false d2) ?_
          refine At.region (At.run 2 rfl (nT ?_)); exact fun a w e hs => d6 (decide ((gt p a1).Kind = 9)) j a w (e.sub ⟨rfl, rfl, rfl, rfl, rfl, trivial⟩) hs
theorem Q37.spec {p : List Q1} {q : List Q13} {D a1 : Int} {u x : List Int} {C : List Bool} (hr0_0 : RdS Q1.fl.rep R.heap A0_0 p) (hn0_0 : p.length = n0_0) (hc0_0 : n0_0 ≤ c0_0) (hn0_1 : q.length = n0_1) (hn0_3 : u.length = n0_3) (hn0_4 : C.length = n0_4) (hn0_5 : x.length = n0_5) {r : (List Bool) × (List Int) × (List Q13) × (List Int) × Int} (j : Q37.f p q D u C x a1 = some r) :
 Spec Tryz.prog 164 [bp b0, i6 a1] R (pc b0 [.slice A0_0 n0_0 c0_0, .slice A0_1 n0_1 c0_1, i6 D, .slice A0_3 n0_3 c0_3, .slice A0_4 n0_4 c0_4, .slice A0_5 n0_5 c0_5] 190 :: row Q13.fl 242 A0_1 n0_1 c0_1 q :: row (Fl.int .i64) 3 A0_3 n0_3 c0_3 u :: row Fl.bool 4 A0_4 n0_4 c0_4 C :: row (Fl.int .i64) 3 A0_5 n0_5 c0_5 x :: Fr) (fun v l' => ∃ (E : Nat) (G : Option Addr) (I : Nat), v = .tuple #[] ∧ pc b0 [.slice A0_0 n0_0 c0_0, .slice G E I, i6 r.2.2.2.2, .slice A0_3 n0_3 c0_3, .slice A0_4 n0_4 c0_4, .slice A0_5 n0_5 c0_5] 190 :: row Q13.fl 242 G E I r.2.2.1 :: row (Fl.int .i64) 3 A0_3 n0_3 c0_3 r.2.1 :: row Fl.bool 4 A0_4 n0_4 c0_4 r.1 :: row (Fl.int .i64) 3 A0_5 n0_5 c0_5 r.2.2.2.1 :: Fr = l' ∧ r.2.2.1.length = E) := by
 obtain ⟨k_, hk_⟩ := Q203 j; exact Q37.specN k_ R Fr b0 A0_0 n0_0 c0_0 A0_1 n0_1 c0_1 A0_3 n0_3 c0_3 A0_4 n0_4 c0_4 A0_5 n0_5 c0_5 p q D u C x a1 hr0_0 hn0_0 hc0_0 hn0_1 hn0_3 hn0_4 hn0_5 hk_

noncomputable def Q55.l0b (a0 : List Q1) (q : List Int) (p : Int) : Option (((List Int) × Int) ⊕ (((List Int)) ⊕ ((List Q13) × (List Int) × (List Bool) × (List Int) × Int))) :=
 if p < ((List.replicate (a0.length : Int).toNat (0 : Int)).length : Int) then
 if (0 : Int) ≤ p ∧ p < ((List.replicate (a0.length : Int).toNat (0 : Int)).length : Int) then
 nx ((st q p (-1)), IntKind.i64.wrap (p + 1))
 else none
 else
 dn (.inl q)
noncomputable def Q55.l0 (a0 : List Q1) (p : List Int) (q : Int) : Option (((List Int)) ⊕ ((List Q13) × (List Int) × (List Bool) × (List Int) × Int)) := iter (fun t_ : (List Int) × Int => Q55.l0b a0 t_.1 t_.2) (p, q)
noncomputable def Q55.f (a0 : List Q1) : Option ((List Q13) × (List Int) × (List Bool) × (List Int) × Int) :=
 if (0 : Int) ≤ (a0.length : Int) ∧ (8 : Int) * (a0.length : Int) ≤ 281474976710656 then
 if (0 : Int) ≤ (a0.length : Int) ∧ (1 : Int) * (a0.length : Int) ≤ 281474976710656 then
 jn (Q55.l0 a0 (List.replicate (a0.length : Int).toNat (0 : Int)) 0) (fun (q : List Int) =>
 (Q37.f a0 ([] : List Q13) 0 q (List.replicate (a0.length : Int).toNat (false : Bool)) (List.replicate (a0.length : Int).toNat (0 : Int)) (IntKind.i64.wrap ((a0.length : Int) - 1))).bind fun p =>
 some (p.2.2.1, p.2.1, p.1, p.2.2.2.1, p.2.2.2.2))
 else none
 else none
theorem Q55.callee : Callee Tryz.prog 134 := ⟨_, Tryz.func134, by kernel_rfl, by kernel_rfl⟩
theorem Q55.spec {a0 : List Q1} (hr0 : RdS Q1.fl.rep R.heap A0 a0) (hn0 : a0.length = n0) (hc0 : n0 ≤ c0) {r : (List Q13) × (List Int) × (List Bool) × (List Int) × Int} (j : Q55.f a0 = some r) :
 Spec Tryz.prog 134 [.slice A0 n0 c0] R (Fr) (fun v l' => ∃ (e1 : Nat) (d0 : Nat) (e2 : Option Addr) (e3 : Nat) (e4 : Option Addr) (e5 : Nat) (e6 : Option Addr) (e7 : Nat) (e8 : Option Addr) (e9 : Nat), v = bp e1 ∧ pc e1 [.slice A0 n0 c0, .slice e2 d0 e3, i6 r.2.2.2.2, .slice e4 ((List.replicate (n0 : Int).toNat (0 : Int)).length) e5, .slice e6 ((List.replicate (n0 : Int).toNat (false : Bool)).length) e7, .slice e8 ((List.replicate (n0 : Int).toNat (0 : Int)).length) e9] 190 :: row Q13.fl 242 e2 d0 e3 r.1 :: row (Fl.int .i64) 3 e4 ((List.replicate (n0 : Int).toNat (0 : Int)).length) e5 r.2.1 :: row Fl.bool 4 e6 ((List.replicate (n0 : Int).toNat (false : Bool)).length) e7 r.2.2.1 :: row (Fl.int .i64) 3 e8 ((List.replicate (n0 : Int).toNat (0 : Int)).length) e9 r.2.2.2.1 :: Fr = l' ∧ r.1.length = d0) := by
 subst hn0; refine Spec.of Tryz.func134 rfl rfl ?_; unfold Q55.f at j; have j := brun j; refine sR 1 rfl (nT (At.seq ?_)); refine At.held [] 13 rfl ?_; refine At.H.pw 0 rfl rfl rfl rfl rfl .n ?_; refine At.H.pw 1 rfl rfl rfl rfl rfl .n ?_; refine At.H.pw 2 rfl rfl rfl rfl rfl .n ?_; refine At.H.pw 4 rfl rfl rfl rfl rfl .n ?_; refine At.H.pw 5 rfl rfl rfl rfl rfl .n ?_; refine At.H.pw 7 rfl rfl rfl rfl rfl .n ?_; refine At.H.pw 8 rfl rfl rfl rfl rfl .n ?_; obtain ⟨p, j⟩ := bnone j; obtain ⟨u, j⟩ := bnone j; refine At.H.joinK (X := Nat × (Option Addr) × Nat × (Option Addr) × Nat × (Option Addr) × Nat) (fun s_ => [(0, .slice A0 a0.length c0), (3, .pointer (some ⟨s_.1, 0, none⟩))]) (fun s_ => pt s_.1 (.cells [.slice A0 a0.length c0, .slice none 0 0, i6 0, .slice s_.2.2.2.2.2.1 ((List.replicate (a0.length : Int).toNat (0 : Int)).length) s_.2.2.2.2.2.2, .slice s_.2.2.2.1 ((List.replicate (a0.length : Int).toNat (false : Bool)).length) s_.2.2.2.2.1, .slice s_.2.1 ((List.replicate (a0.length : Int).toNat (0 : Int)).length) s_.2.2.1].toArray 190) :: row (Fl.int .i64) 3 s_.2.1 ((List.replicate (a0.length : Int).toNat (0 : Int)).length) s_.2.2.1 (List.replicate (a0.length : Int).toNat (0 : Int)) :: row Fl.bool 4 s_.2.2.2.1 ((List.replicate (a0.length : Int).toNat (false : Bool)).length) s_.2.2.2.2.1 (List.replicate (a0.length : Int).toNat (false : Bool)) :: row (Fl.int .i64) 3 s_.2.2.2.2.2.1 ((List.replicate (a0.length : Int).toNat (0 : Int)).length) s_.2.2.2.2.2.2 (List.replicate (a0.length : Int).toNat (0 : Int)) :: Fr) (fun s_ => True) ?_ (fun J => ?_)
 ·rintro ⟨N, d1, d2, d3, d4, O, U⟩ -
  ·refine At.thn (At.seq (sR 3 rfl (At.y (Y.load rfl rfl .z rfl rfl rfl) rfl rfl rfl (At.run 2 rfl (At.nil ?_))))); refine At.thn ?_; refine At.block ?_; obtain ⟨f8, f9, h5, j⟩ := bjoin j; obtain ⟨f0, d5, g0⟩ := bsome j; clear j; unfold Q55.l0 at d5; obtain ⟨d6, L⟩ := Q14.1 d5; clear d5; let f5 : HProp := pc N [.slice A0 a0.length c0, .slice none 0 0, i6 0, .slice O ((List.replicate (a0.length : Int).toNat (0 : Int)).length) U, .slice d3 ((List.replicate (a0.length : Int).toNat (false : Bool)).length) d4, .slice d1 ((List.replicate (a0.length : Int).toNat (0 : Int)).length) d2] 190; let f6 : HProp := row (Fl.int .i64) 3 d1 ((List.replicate (a0.length : Int).toNat (0 : Int)).length) d2 (List.replicate (a0.length : Int).toNat (0 : Int)); let f7 : HProp := row Fl.bool 4 d3 ((List.replicate (a0.length : Int).toNat (false : Bool)).length) d4 (List.replicate (a0.length : Int).toNat (false : Bool)); refine At.loopJ (X := (List Int) × Int) (Y := (List Int)) (e0 := 0) (fun s_ => [(0, .slice A0 a0.length c0), (3, bp N), (21, i6 ((List.replicate (a0.length : Int).toNat (0 : Int)).length : Int)), (22, i6 s_.2)]) (fun s_ => f5 :: f6 :: f7 :: row (Fl.int .i64) 3 O ((List.replicate (a0.length : Int).toNat (0 : Int)).length) U s_.1 :: Fr) (fun m_ => fun s_ => iterN (fun t_ : (List Int) × Int => Q55.l0b a0 t_.1 t_.2) m_ (s_.1, s_.2) = some f0) d6 ((List.replicate (a0.length : Int).toNat (0 : Int)), 0) L (fun M => [(0, .slice A0 a0.length c0), (3, bp N)]) (fun M => f5 :: f6 :: f7 :: row (Fl.int .i64) 3 O ((List.replicate (a0.length : Int).toNat (0 : Int)).length) U M :: Fr) (fun M => f8 (.inl M) = some r) (fun a w e hs => ⟨e.sub ⟨rfl, rfl, rfl, rfl, trivial⟩, (by exact hs)⟩) ?_ (fun g1 => ?_)
   ·rintro M j; have j := (f9 _).symm.trans j
    ·refine At.ibx ?_; refine At.thn (sR 4 rfl ?_); refine At.nilRow Q13.fl 242 ?_; refine At.rowLen (.s (.s (.s (.s .z)))) fun g2 => ?_; refine At.f2 (At.f3 (At.f4 (At.f3 (At.f4 ?_)))); obtain ⟨g3, g4, j⟩ := bbind j; refine At.call rfl Q37.callee rfl rfl rfl (Q37.spec hr0 rfl hc0 rfl g2 rfl rfl g4) ?_; rintro _ _ ⟨h6, g5, g6, rfl, rfl, rfl⟩; refine nT (sR 2 rfl (nT (At.ret ?_))); cases bret j; exact At.res (.inl rfl) rfl rfl ⟨N, g3.2.2.1.length, g5, g6, O, U, d3, d4, d1, d2, rfl, rfl, rfl⟩
   ·clear L d6; rintro d6 ⟨d7, d8⟩ L; obtain ⟨g7, f_, g8, hf_, j⟩ := bit L; clear L; have j : (Q55.l0b a0 d7 d8).bind _ = some f0 := j; unfold Q55.l0b at j
    ·refine sR 1 rfl (nT (At.seq ?_)); rcases bite j with ⟨d9, j⟩ | ⟨d9, j⟩
     ··refine At.condT rfl (decide_eq_true d9) ?_
       refine At.skip (At.thn (At.seq ?_)); refine At.block ?_; refine sR 2 rfl (nT (At.region (At.run 3 rfl (At.y (Y.load rfl rfl .z rfl rfl rfl) rfl rfl rfl ?_)))); refine At.run 1 rfl ?_; obtain ⟨V, j⟩ := bnone j; refine At.y (Y.ix (.s (.s (.s .z))) rfl rfl rfl rfl rfl rfl V.1 V.2) rfl rfl rfl ?_; refine At.st rfl (.s (.s (.s .z))) (q := 0) (z := (-1)) rfl rfl rfl V.1 V.2 rfl rfl (.c .n) ?_; refine At.nil ?_; refine At.ibn ?_; refine At.thn (At.region (At.run 2 rfl (At.nil (At.f3 (At.f3 (At.f3 ?_)))))); have j := bnx hf_ j; exact fun a w e hs => ⟨g7, ((st d7 d8 (-1)), IntKind.i64.wrap (d8 + 1)), g8, j, e.sub ⟨rfl, rfl, rfl, rfl, trivial⟩, hs⟩
     ··refine At.condF rfl (decide_eq_false d9) ?_
       refine At.exit ?_; refine At.the ?_; refine At.the ?_; exact fun a w e hs => g1 d7 (bdn j g0) a w (e.sub ⟨rfl, rfl, trivial⟩) hs
 ·refine At.H.al [3, 6, 9] (Q7 ?_ (Q7 ?_ (Q7 ?_ Q8)))
  ··refine At.HO.op rfl ?_
    refine At.make (F := (Fl.int .i64)) (z := 0) rfl rfl rfl rfl rfl rfl rfl rfl rfl rfl p.1 p.2 (by decide) rfl (fun x C => ?_); refine At.HO.back .n ?_; refine At.H.al [6, 9] (Q7 ?_ (Q7 ?_ Q8))
    ··refine At.HO.op rfl ?_
      refine At.make (F := Fl.bool) (z := false) rfl rfl rfl rfl rfl rfl rfl rfl rfl rfl u.1 u.2 (by decide) rfl (fun Z a1 => ?_); refine At.HO.back .n ?_; refine At.H.al [9] (Q7 ?_ Q8)
      ··refine At.HO.op rfl ?_
        refine At.make (F := (Fl.int .i64)) (z := 0) rfl rfl rfl rfl rfl rfl rfl rfl rfl rfl p.1 p.2 (by decide) rfl (fun a2 a3 => ?_); refine At.HO.back .n ?_; refine At.H.tw 10 rfl (Y.build (is := [0, 3, 4, 5]) (xo := [.tmp 5, .tmp 8, .tmp 11, .tmp 14]) (vs := [.slice A0 a0.length c0, .slice x ((List.replicate (a0.length : Int).toNat (0 : Int)).length) C, .slice Z ((List.replicate (a0.length : Int).toNat (false : Bool)).length) a1, .slice a2 ((List.replicate (a0.length : Int).toNat (0 : Int)).length) a3]) (cs := [.slice A0 a0.length c0, .slice none 0 0, i6 0, .slice x ((List.replicate (a0.length : Int).toNat (0 : Int)).length) C, .slice Z ((List.replicate (a0.length : Int).toNat (false : Bool)).length) a1, .slice a2 ((List.replicate (a0.length : Int).toNat (0 : Int)).length) a3]) rfl rfl rfl rfl rfl rfl) rfl rfl rfl .n ?_; refine At.H.al [11] (Q7 ?_ Q8)
        ··refine At.HO.op rfl ?_
          refine At.box rfl rfl (cs := [.slice A0 a0.length c0, .slice none 0 0, i6 0, .slice x ((List.replicate (a0.length : Int).toNat (0 : Int)).length) C, .slice Z ((List.replicate (a0.length : Int).toNat (false : Bool)).length) a1, .slice a2 ((List.replicate (a0.length : Int).toNat (0 : Int)).length) a3]) rfl rfl (fun g9 => ?_); refine At.HO.back .n ?_; refine At.H.pw 12 rfl rfl rfl rfl rfl .n ?_; refine At.H.done (by kernel_rfl) ?_; exact At.of (J (g9, a2, a3, Z, a1, x, C) trivial) ⟨rfl, rfl, trivial⟩
    ··refine At.HO.op rfl ?_
      refine At.make (F := (Fl.int .i64)) (z := 0) rfl rfl rfl rfl rfl rfl rfl rfl rfl rfl p.1 p.2 (by decide) rfl (fun a4 a5 => ?_); refine At.HO.back .n ?_; refine At.H.al [6] (Q7 ?_ Q8)
      ··refine At.HO.op rfl ?_
        refine At.make (F := Fl.bool) (z := false) rfl rfl rfl rfl rfl rfl rfl rfl rfl rfl u.1 u.2 (by decide) rfl (fun a6 a7 => ?_); refine At.HO.back .n ?_; refine At.H.tw 10 rfl (Y.build (is := [0, 3, 4, 5]) (xo := [.tmp 5, .tmp 8, .tmp 11, .tmp 14]) (vs := [.slice A0 a0.length c0, .slice x ((List.replicate (a0.length : Int).toNat (0 : Int)).length) C, .slice a6 ((List.replicate (a0.length : Int).toNat (false : Bool)).length) a7, .slice a4 ((List.replicate (a0.length : Int).toNat (0 : Int)).length) a5]) (cs := [.slice A0 a0.length c0, .slice none 0 0, i6 0, .slice x ((List.replicate (a0.length : Int).toNat (0 : Int)).length) C, .slice a6 ((List.replicate (a0.length : Int).toNat (false : Bool)).length) a7, .slice a4 ((List.replicate (a0.length : Int).toNat (0 : Int)).length) a5]) rfl rfl rfl rfl rfl rfl) rfl rfl rfl .n ?_; refine At.H.al [11] (Q7 ?_ Q8)
        ··refine At.HO.op rfl ?_
          refine At.box rfl rfl (cs := [.slice A0 a0.length c0, .slice none 0 0, i6 0, .slice x ((List.replicate (a0.length : Int).toNat (0 : Int)).length) C, .slice a6 ((List.replicate (a0.length : Int).toNat (false : Bool)).length) a7, .slice a4 ((List.replicate (a0.length : Int).toNat (0 : Int)).length) a5]) rfl rfl (fun h0 => ?_); refine At.HO.back .n ?_; refine At.H.pw 12 rfl rfl rfl rfl rfl .n ?_; refine At.H.done (by kernel_rfl) ?_; refine At.f3 (At.f2 (At.f3 (At.f3 ?_))); exact At.of (J (h0, a4, a5, a6, a7, x, C) trivial) ⟨rfl, rfl, trivial⟩
  ··refine At.HO.op rfl ?_
    refine At.make (F := Fl.bool) (z := false) rfl rfl rfl rfl rfl rfl rfl rfl rfl rfl u.1 u.2 (by decide) rfl (fun D E => ?_); refine At.HO.back .n ?_; refine At.H.al [3, 9] (Q7 ?_ (Q7 ?_ Q8))
    ··refine At.HO.op rfl ?_
      refine At.make (F := (Fl.int .i64)) (z := 0) rfl rfl rfl rfl rfl rfl rfl rfl rfl rfl p.1 p.2 (by decide) rfl (fun a8 a9 => ?_); refine At.HO.back .n ?_; refine At.H.al [9] (Q7 ?_ Q8)
      ··refine At.HO.op rfl ?_
        refine At.make (F := (Fl.int .i64)) (z := 0) rfl rfl rfl rfl rfl rfl rfl rfl rfl rfl p.1 p.2 (by decide) rfl (fun b2 b3 => ?_); refine At.HO.back .n ?_; refine At.H.tw 10 rfl (Y.build (is := [0, 3, 4, 5]) (xo := [.tmp 5, .tmp 8, .tmp 11, .tmp 14]) (vs := [.slice A0 a0.length c0, .slice a8 ((List.replicate (a0.length : Int).toNat (0 : Int)).length) a9, .slice D ((List.replicate (a0.length : Int).toNat (false : Bool)).length) E, .slice b2 ((List.replicate (a0.length : Int).toNat (0 : Int)).length) b3]) (cs := [.slice A0 a0.length c0, .slice none 0 0, i6 0, .slice a8 ((List.replicate (a0.length : Int).toNat (0 : Int)).length) a9, .slice D ((List.replicate (a0.length : Int).toNat (false : Bool)).length) E, .slice b2 ((List.replicate (a0.length : Int).toNat (0 : Int)).length) b3]) rfl rfl rfl rfl rfl rfl) rfl rfl rfl .n ?_; refine At.H.al [11] (Q7 ?_ Q8)
        ··refine At.HO.op rfl ?_
          refine At.box rfl rfl (cs := [.slice A0 a0.length c0, .slice none 0 0, i6 0, .slice a8 ((List.replicate (a0.length : Int).toNat (0 : Int)).length) a9, .slice D ((List.replicate (a0.length : Int).toNat (false : Bool)).length) E, .slice b2 ((List.replicate (a0.length : Int).toNat (0 : Int)).length) b3]) rfl rfl (fun h1 => ?_); refine At.HO.back .n ?_; refine At.H.pw 12 rfl rfl rfl rfl rfl .n ?_; refine At.H.done (by kernel_rfl) ?_; refine At.f2 (At.f3 (At.f3 (At.f3 ?_))); exact At.of (J (h1, b2, b3, D, E, a8, a9) trivial) ⟨rfl, rfl, trivial⟩
    ··refine At.HO.op rfl ?_
      refine At.make (F := (Fl.int .i64)) (z := 0) rfl rfl rfl rfl rfl rfl rfl rfl rfl rfl p.1 p.2 (by decide) rfl (fun b4 b5 => ?_); refine At.HO.back .n ?_; refine At.H.al [3] (Q7 ?_ Q8)
      ··refine At.HO.op rfl ?_
        refine At.make (F := (Fl.int .i64)) (z := 0) rfl rfl rfl rfl rfl rfl rfl rfl rfl rfl p.1 p.2 (by decide) rfl (fun b6 b7 => ?_); refine At.HO.back .n ?_; refine At.H.tw 10 rfl (Y.build (is := [0, 3, 4, 5]) (xo := [.tmp 5, .tmp 8, .tmp 11, .tmp 14]) (vs := [.slice A0 a0.length c0, .slice b6 ((List.replicate (a0.length : Int).toNat (0 : Int)).length) b7, .slice D ((List.replicate (a0.length : Int).toNat (false : Bool)).length) E, .slice b4 ((List.replicate (a0.length : Int).toNat (0 : Int)).length) b5]) (cs := [.slice A0 a0.length c0, .slice none 0 0, i6 0, .slice b6 ((List.replicate (a0.length : Int).toNat (0 : Int)).length) b7, .slice D ((List.replicate (a0.length : Int).toNat (false : Bool)).length) E, .slice b4 ((List.replicate (a0.length : Int).toNat (0 : Int)).length) b5]) rfl rfl rfl rfl rfl rfl) rfl rfl rfl .n ?_; refine At.H.al [11] (Q7 ?_ Q8)
        ··refine At.HO.op rfl ?_
          refine At.box rfl rfl (cs := [.slice A0 a0.length c0, .slice none 0 0, i6 0, .slice b6 ((List.replicate (a0.length : Int).toNat (0 : Int)).length) b7, .slice D ((List.replicate (a0.length : Int).toNat (false : Bool)).length) E, .slice b4 ((List.replicate (a0.length : Int).toNat (0 : Int)).length) b5]) rfl rfl (fun h2 => ?_); refine At.HO.back .n ?_; refine At.H.pw 12 rfl rfl rfl rfl rfl .n ?_; refine At.H.done (by kernel_rfl) ?_; refine At.f1 (At.f3 (At.f3 (At.f3 ?_))); exact At.of (J (h2, b4, b5, D, E, b6, b7) trivial) ⟨rfl, rfl, trivial⟩
  ··refine At.HO.op rfl ?_
    refine At.make (F := (Fl.int .i64)) (z := 0) rfl rfl rfl rfl rfl rfl rfl rfl rfl rfl p.1 p.2 (by decide) rfl (fun G I => ?_); refine At.HO.back .n ?_; refine At.H.al [3, 6] (Q7 ?_ (Q7 ?_ Q8))
    ··refine At.HO.op rfl ?_
      refine At.make (F := (Fl.int .i64)) (z := 0) rfl rfl rfl rfl rfl rfl rfl rfl rfl rfl p.1 p.2 (by decide) rfl (fun b8 b9 => ?_); refine At.HO.back .n ?_; refine At.H.al [6] (Q7 ?_ Q8)
      ··refine At.HO.op rfl ?_
        refine At.make (F := Fl.bool) (z := false) rfl rfl rfl rfl rfl rfl rfl rfl rfl rfl u.1 u.2 (by decide) rfl (fun c4 c5 => ?_); refine At.HO.back .n ?_; refine At.H.tw 10 rfl (Y.build (is := [0, 3, 4, 5]) (xo := [.tmp 5, .tmp 8, .tmp 11, .tmp 14]) (vs := [.slice A0 a0.length c0, .slice b8 ((List.replicate (a0.length : Int).toNat (0 : Int)).length) b9, .slice c4 ((List.replicate (a0.length : Int).toNat (false : Bool)).length) c5, .slice G ((List.replicate (a0.length : Int).toNat (0 : Int)).length) I]) (cs := [.slice A0 a0.length c0, .slice none 0 0, i6 0, .slice b8 ((List.replicate (a0.length : Int).toNat (0 : Int)).length) b9, .slice c4 ((List.replicate (a0.length : Int).toNat (false : Bool)).length) c5, .slice G ((List.replicate (a0.length : Int).toNat (0 : Int)).length) I]) rfl rfl rfl rfl rfl rfl) rfl rfl rfl .n ?_; refine At.H.al [11] (Q7 ?_ Q8)
        ··refine At.HO.op rfl ?_
          refine At.box rfl rfl (cs := [.slice A0 a0.length c0, .slice none 0 0, i6 0, .slice b8 ((List.replicate (a0.length : Int).toNat (0 : Int)).length) b9, .slice c4 ((List.replicate (a0.length : Int).toNat (false : Bool)).length) c5, .slice G ((List.replicate (a0.length : Int).toNat (0 : Int)).length) I]) rfl rfl (fun h3 => ?_); refine At.HO.back .n ?_; refine At.H.pw 12 rfl rfl rfl rfl rfl .n ?_; refine At.H.done (by kernel_rfl) ?_; refine At.f2 (At.f2 (At.f3 (At.f3 ?_))); exact At.of (J (h3, G, I, c4, c5, b8, b9) trivial) ⟨rfl, rfl, trivial⟩
    ··refine At.HO.op rfl ?_
      refine At.make (F := Fl.bool) (z := false) rfl rfl rfl rfl rfl rfl rfl rfl rfl rfl u.1 u.2 (by decide) rfl (fun c6 c7 => ?_); refine At.HO.back .n ?_; refine At.H.al [3] (Q7 ?_ Q8)
      ··refine At.HO.op rfl ?_
        refine At.make (F := (Fl.int .i64)) (z := 0) rfl rfl rfl rfl rfl rfl rfl rfl rfl rfl p.1 p.2 (by decide) rfl (fun c8 c9 => ?_); refine At.HO.back .n ?_; refine At.H.tw 10 rfl (Y.build (is := [0, 3, 4, 5]) (xo := [.tmp 5, .tmp 8, .tmp 11, .tmp 14]) (vs := [.slice A0 a0.length c0, .slice c8 ((List.replicate (a0.length : Int).toNat (0 : Int)).length) c9, .slice c6 ((List.replicate (a0.length : Int).toNat (false : Bool)).length) c7, .slice G ((List.replicate (a0.length : Int).toNat (0 : Int)).length) I]) (cs := [.slice A0 a0.length c0, .slice none 0 0, i6 0, .slice c8 ((List.replicate (a0.length : Int).toNat (0 : Int)).length) c9, .slice c6 ((List.replicate (a0.length : Int).toNat (false : Bool)).length) c7, .slice G ((List.replicate (a0.length : Int).toNat (0 : Int)).length) I]) rfl rfl rfl rfl rfl rfl) rfl rfl rfl .n ?_; refine At.H.al [11] (Q7 ?_ Q8)
        ··refine At.HO.op rfl ?_
          refine At.box rfl rfl (cs := [.slice A0 a0.length c0, .slice none 0 0, i6 0, .slice c8 ((List.replicate (a0.length : Int).toNat (0 : Int)).length) c9, .slice c6 ((List.replicate (a0.length : Int).toNat (false : Bool)).length) c7, .slice G ((List.replicate (a0.length : Int).toNat (0 : Int)).length) I]) rfl rfl (fun h4 => ?_); refine At.HO.back .n ?_; refine At.H.pw 12 rfl rfl rfl rfl rfl .n ?_; refine At.H.done (by kernel_rfl) ?_; refine At.f1 (At.f2 (At.f3 (At.f3 ?_))); exact At.of (J (h4, G, I, c6, c7, c8, c9) trivial) ⟨rfl, rfl, trivial⟩

noncomputable def Q85.f (p u x : Int) (C : Bs) (D : Int) : Option Bool :=
 jn (
 if p = 10 then
 some (.inl true)
 else
 some (.inl (decide (p = 11)))) (fun (q : Bool) =>
 some q)
theorem Q85.callee : Callee Tryz.prog 135 := ⟨_, Tryz.func135, by kernel_rfl, by kernel_rfl⟩
theorem Q85.spec {p u x C : Int} {D : Bs} {r : Bool} (j : Q85.f p u x D C = some r) :
 Spec Tryz.prog 135 [.agg #[i6 p, i6 u, i6 x, .string ⟨(D).toArray⟩, i6 C]] R (Fr) (fun v l' => v = .bool r ∧ Fr = l') := by
 refine Spec.of Tryz.func135 rfl rfl ?_; unfold Q85.f at j; have j := brun j; refine At.seq (At.region ?_); refine At.box rfl rfl (cs := [i6 p, i6 u, i6 x, .string ⟨(D).toArray⟩, i6 C]) rfl rfl (fun I => ?_); refine At.run 1 rfl (nT (sR 1 rfl (At.y (Y.load rfl rfl .z rfl rfl rfl) rfl rfl rfl (At.run 2 rfl ?_)))); obtain ⟨J, L, N, j⟩ := bjoin j; let M : HProp := pc I [i6 p, i6 u, i6 x, .string ⟨(D).toArray⟩, i6 C] 33; refine At.joinO 4 (X := Bool) (fun q => [(10, .bool q)]) (fun q => M :: Fr) (fun q => J (.inl q) = some r) ?_ (fun G => ?_)
 ·rintro q j; have j := (L _).symm.trans j
  ·refine At.run 1 rfl (nT (At.ret (At.drop .z ?_))); cases bret j; exact At.res (.inl rfl) rfl rfl ⟨rfl, rfl⟩
 ··rcases bite j with ⟨E, j⟩ | ⟨E, j⟩
   ··refine At.know (t := 6) rfl (decide_eq_true E) ?_
     refine At.run 4 rfl ?_; exact At.of (G true j) ⟨rfl, trivial⟩
   ··refine At.know (t := 6) rfl (decide_eq_false E) ?_
     refine At.run 1 rfl (At.y (Y.load rfl rfl .z rfl rfl rfl) rfl rfl rfl (At.run 2 rfl ?_)); exact At.of (G (decide (p = 11)) j) ⟨rfl, trivial⟩

noncomputable def Q68.l0b (a0 : List Q1) (u : (List Q13) × (List Int) × (List Bool) × (List Int) × Int) (q : List (Bs × Bool)) (p : Int) : Option (((List (Bs × Bool)) × Int) ⊕ (((List (Bs × Bool))) ⊕ (Int × Int))) :=
 if p < (a0.length : Int) then
 jn (
 if (0 : Int) ≤ p ∧ p < (a0.length : Int) then
 jn (
 if (gt a0 p).Kind = 4 then
 if (0 : Int) ≤ p ∧ p < ((List.replicate (a0.length : Int).toNat (0 : Int)).length : Int) then
 some (.inl (decide (gt u.2.1 p < 0)))
 else none
 else
 some (.inl false)) (fun (x : Bool) =>
 if x = true then
 up (upL (some (11, p)))
 else
 jn (
 if (gt a0 p).Kind = 4 then
 if (0 : Int) ≤ p ∧ p < ((List.replicate (a0.length : Int).toNat (false : Bool)).length : Int) then
 some (.inl (gt u.2.2.1 p))
 else none
 else
 some (.inl false)) (fun (C : Bool) =>
 if C = true then
 up (upL (some (12, p)))
 else
 (Q85.f ((gt a0 p).Kind) ((gt a0 p).A) ((gt a0 p).B) ((gt a0 p).Name) ((gt a0 p).At)).bind fun D =>
 jn (
 if D = true then
 some (.inl ((mget q ((gt a0 p).Name)).getD false))
 else
 some (.inl false)) (fun (E : Bool) =>
 if E = true then
 up (upL (some (9, p)))
 else
 (Q85.f ((gt a0 p).Kind) ((gt a0 p).A) ((gt a0 p).B) ((gt a0 p).Name) ((gt a0 p).At)).bind fun G =>
 jn (
 if G = true then
 if (0 : Int) ≤ p ∧ p < ((List.replicate (a0.length : Int).toNat (0 : Int)).length : Int) then
 some (.inl (decide (4 < gt u.2.2.2.1 p)))
 else none
 else
 some (.inl false)) (fun (I : Bool) =>
 if I = true then
 up (upL (some (13, p)))
 else
 (Q85.f ((gt a0 p).Kind) ((gt a0 p).A) ((gt a0 p).B) ((gt a0 p).Name) ((gt a0 p).At)).bind fun J =>
 if J = true then
 some (.inl (mset q ((gt a0 p).Name) true))
 else
 some (.inl q)))))
 else none) (fun (L : List (Bs × Bool)) =>
 nx (L, IntKind.i64.wrap (p + 1)))
 else
 dn (.inl q)
noncomputable def Q68.l0 (a0 : List Q1) (p : (List Q13) × (List Int) × (List Bool) × (List Int) × Int) (q : List (Bs × Bool)) (u : Int) : Option (((List (Bs × Bool))) ⊕ (Int × Int)) := iter (fun t_ : (List (Bs × Bool)) × Int => Q68.l0b a0 p t_.1 t_.2) (q, u)
noncomputable def Q68.f (a0 : List Q1) : Option (Int × Int) :=
 (Q54.f a0).bind fun p =>
 if p = true then
 (Q55.f a0).bind fun q =>
 jn (Q68.l0 a0 q ([] : List (Bs × Bool)) 0) (fun (u : List (Bs × Bool)) =>
 some (0, 0))
 else
 some (1, 0)
theorem Q68.callee : Callee Tryz.prog 83 := ⟨_, Tryz.func83, by kernel_rfl, by kernel_rfl⟩
theorem Q68.spec {a0 : List Q1} (hr0 : RdS Q1.fl.rep R.heap A0 a0) (hn0 : a0.length = n0) (hc0 : n0 ≤ c0) {r : Int × Int} (j : Q68.f a0 = some r) :
 Spec Tryz.prog 83 [.slice A0 n0 c0] R (Fr) (fun v l' => v = .tuple #[i6 r.2, i6 r.1] ∧ Fr = l') := by
 subst hn0; refine Spec.of Tryz.func83 rfl rfl ?_; unfold Q68.f at j; have j := brun j; refine sR 2 rfl (nT (At.seq (At.seq (At.region ?_)))); refine At.run 1 rfl ?_; obtain ⟨g5, e5, j⟩ := bbind j; refine At.call rfl Q54.callee rfl rfl rfl (Q54.spec hr0 rfl hc0 e5) ?_; rintro _ _ ⟨rfl, rfl⟩; refine At.run 1 rfl (nT ?_); rcases bite j with ⟨b4, j⟩ | ⟨b4, j⟩
 ··refine At.condF rfl (nf b4) ?_
   refine At.skip (At.thn (sR 1 rfl ?_)); obtain ⟨x, e6, j⟩ := bbind j; refine At.call rfl Q55.callee rfl rfl rfl (Q55.spec hr0 rfl hc0 e6) ?_; rintro _ _ ⟨D, g6, d1, d2, d3, d4, d5, d6, d7, d8, rfl, rfl, rfl⟩; refine At.run 1 rfl (nT (At.seq (At.region ?_))); refine At.makeMap Fl.bs.ov Fl.bool.ov rfl rfl (fun u => ?_); refine At.run 1 rfl (nT (At.seq (sR 3 rfl (At.nil ?_)))); refine At.thn ?_; refine At.block ?_; obtain ⟨e7, e8, a5, j⟩ := bjoin j; obtain ⟨E, b5, O⟩ := bsome j; clear j; unfold Q68.l0 at b5; obtain ⟨b6, U⟩ := Q14.1 b5; clear b5; let G : HProp := pc D [.slice A0 a0.length c0, .slice d1 x.1.length d2, i6 x.2.2.2.2, .slice d3 ((List.replicate (a0.length : Int).toNat (0 : Int)).length) d4, .slice d5 ((List.replicate (a0.length : Int).toNat (false : Bool)).length) d6, .slice d7 ((List.replicate (a0.length : Int).toNat (0 : Int)).length) d8] 190; let I : HProp := row Q13.fl 242 d1 x.1.length d2 x.1; let J : HProp := row (Fl.int .i64) 3 d3 ((List.replicate (a0.length : Int).toNat (0 : Int)).length) d4 x.2.1; let L : HProp := row Fl.bool 4 d5 ((List.replicate (a0.length : Int).toNat (false : Bool)).length) d6 x.2.2.1; let M : HProp := row (Fl.int .i64) 3 d7 ((List.replicate (a0.length : Int).toNat (0 : Int)).length) d8 x.2.2.2.1; refine At.loopJ (X := (List (Bs × Bool)) × Int) (Y := (List (Bs × Bool))) (e0 := 0) (fun s_ => [(4, bp D), (5, .map (some u)), (14, .slice A0 a0.length c0), (15, i6 (a0.length : Int)), (16, i6 s_.2)]) (fun s_ => mapo Fl.bs.ov Fl.bool.ov u s_.1 :: G :: I :: J :: L :: M :: Fr) (fun m_ => fun s_ => iterN (fun t_ : (List (Bs × Bool)) × Int => Q68.l0b a0 x t_.1 t_.2) m_ (s_.1, s_.2) = some E) b6 (([] : List (Bs × Bool)), 0) U (fun V => []) (fun V => mapo Fl.bs.ov Fl.bool.ov u V :: G :: I :: J :: L :: M :: Fr) (fun V => e7 (.inl V) = some r) (fun a w e hs => ⟨e.sub ⟨rfl, rfl, rfl, rfl, rfl, trivial⟩, (by exact hs)⟩) ?_ (fun e9 => ?_)
   ·rintro V j; have j := (e8 _).symm.trans j
    ·refine At.ibx ?_; refine At.thn (sR 2 rfl (nT (At.ret (At.drop .z ?_)))); refine At.drop .z (At.drop .z (At.drop .z (At.drop .z (At.drop .z ?_)))); cases bret j; exact At.res (.inl rfl) rfl rfl ⟨rfl, rfl⟩
   ·clear U b6; rintro b6 ⟨C, p⟩ U; obtain ⟨f0, f_, f1, hf_, j⟩ := bit U; clear U; have j : (Q68.l0b a0 x C p).bind _ = some E := j; unfold Q68.l0b at j
    ·refine sR 1 rfl (nT (At.seq ?_)); rcases bite j with ⟨b7, j⟩ | ⟨b7, j⟩
     ··refine At.condT rfl (decide_eq_true b7) ?_
       refine At.skip (At.thn (At.seq ?_)); obtain ⟨f2, f3, a6, j⟩ := bjoin j; refine At.join (X := (List (Bs × Bool))) (fun N => [(4, bp D), (5, .map (some u)), (14, .slice A0 a0.length c0), (15, i6 (a0.length : Int)), (16, i6 p)]) (fun N => mapo Fl.bs.ov Fl.bool.ov u N :: G :: I :: J :: L :: M :: Fr) (fun N => f2 (.inl N) = some E) ?_ (fun d9 => ?_)
       ·rintro N j; have j := (f3 _).symm.trans j
        ·refine At.region (At.run 2 rfl (At.nil ?_)); have j := bnx hf_ j; exact fun a w e hs => ⟨f0, (N, IntKind.i64.wrap (p + 1)), f1, j, e.sub ⟨rfl, rfl, rfl, rfl, rfl, trivial⟩, hs⟩
       ··refine At.block ?_
         refine sR 1 rfl ?_; obtain ⟨a7, j⟩ := bnone j; refine At.y (Y.ixRd hr0 rfl rfl rfl rfl rfl rfl rfl a7.1 a7.2) rfl rfl rfl (At.y (Y.ldFl hr0 rfl (q := 0) rfl rfl a7.1 a7.2 rfl rfl rfl) rfl rfl rfl ?_); refine At.alloc rfl rfl rfl (fun Z => ?_); refine At.run 1 rfl ?_; refine At.store rfl rfl rfl rfl .z rfl rfl rfl (.c (.c (.c (.c (.c .n))))) ?_; refine nT (At.seq ?_); refine At.block ?_; refine sR 1 rfl (At.y (Y.load rfl rfl .z rfl rfl rfl) rfl rfl rfl (At.run 2 rfl ?_)); obtain ⟨f4, f5, g7, j⟩ := bjoin j; let a8 : HProp := pc Z [i6 ((gt a0 p).Kind), i6 ((gt a0 p).A), i6 ((gt a0 p).B), .string ⟨((gt a0 p).Name).toArray⟩, i6 ((gt a0 p).At)] 33; refine At.joinO 9 (X := Bool) (fun a1 => [(4, bp D), (5, .map (some u)), (6, i6 p), (7, bp Z), (14, .slice A0 a0.length c0), (15, i6 (a0.length : Int)), (16, i6 p), (34, .bool a1)]) (fun a1 => a8 :: mapo Fl.bs.ov Fl.bool.ov u C :: G :: I :: J :: L :: M :: Fr) (fun a1 => f4 (.inl a1) = some E) ?_ (fun e1 => ?_)
         ·rintro a1 j; have j := (f5 _).symm.trans j
          ·refine At.run 1 rfl (nT ?_); rcases bite j with ⟨b8, j⟩ | ⟨b8, j⟩
           ··refine At.condT rfl b8 ?_
             refine sR 3 rfl (nT (At.ret ?_)); refine At.ibr ?_; refine At.thr ?_; refine At.ibr ?_; have j := bup a6 j; refine At.thr ?_; have j := bupL a5 O j; refine At.thr ?_; refine At.ibr ?_; refine At.thr (At.drop .z (At.drop .z (At.drop .z (At.drop .z (At.drop .z (At.drop .z (At.drop .z ?_))))))); cases bret j; exact At.res (.inl rfl) rfl rfl ⟨rfl, rfl⟩
           ··refine At.condF rfl (bn b8) ?_
             refine sR 1 rfl (At.y (Y.load rfl rfl .z rfl rfl rfl) rfl rfl rfl (At.run 2 rfl ?_)); obtain ⟨f6, f7, g8, j⟩ := bjoin j; refine At.joinO 8 (X := Bool) (fun a2 => [(4, bp D), (5, .map (some u)), (6, i6 p), (7, bp Z), (14, .slice A0 a0.length c0), (15, i6 (a0.length : Int)), (16, i6 p), (48, .bool a2)]) (fun a2 => a8 :: mapo Fl.bs.ov Fl.bool.ov u C :: G :: I :: J :: L :: M :: Fr) (fun a2 => f6 (.inl a2) = some E) ?_ (fun e2 => ?_)
             ·rintro a2 j; have j := (f7 _).symm.trans j
              ·refine At.run 1 rfl (nT ?_); rcases bite j with ⟨b9, j⟩ | ⟨b9, j⟩
               ··refine At.condT rfl b9 ?_
                 refine sR 3 rfl (nT (At.ret ?_)); refine At.ibr ?_; refine At.thr ?_; refine At.ibr ?_; have j := bup a6 j; refine At.thr ?_; have j := bupL a5 O j; refine At.thr ?_; refine At.ibr ?_; refine At.thr (At.drop .z (At.drop .z (At.drop .z (At.drop .z (At.drop .z (At.drop .z (At.drop .z ?_))))))); cases bret j; exact At.res (.inl rfl) rfl rfl ⟨rfl, rfl⟩
               ··refine At.condF rfl (bn b9) ?_
                 refine At.seq (At.region (At.y (Y.load rfl rfl .z rfl rfl rfl) rfl rfl rfl ?_)); obtain ⟨g9, f8, j⟩ := bbind j; refine At.call rfl Q85.callee rfl rfl rfl (Q85.spec f8) ?_; rintro _ _ ⟨rfl, rfl⟩; refine At.run 1 rfl ?_; obtain ⟨f9, g0, h0, j⟩ := bjoin j; refine At.joinO 5 (X := Bool) (fun a3 => [(4, bp D), (5, .map (some u)), (6, i6 p), (7, bp Z), (14, .slice A0 a0.length c0), (15, i6 (a0.length : Int)), (16, i6 p), (58, .bool a3)]) (fun a3 => a8 :: mapo Fl.bs.ov Fl.bool.ov u C :: G :: I :: J :: L :: M :: Fr) (fun a3 => f9 (.inl a3) = some E) ?_ (fun e3 => ?_)
                 ·rintro a3 j; have j := (g0 _).symm.trans j
                  ·refine At.run 1 rfl (nT ?_); rcases bite j with ⟨c4, j⟩ | ⟨c4, j⟩
                   ··refine At.condT rfl c4 ?_
                     refine sR 3 rfl (nT (At.ret ?_)); refine At.ibr ?_; refine At.thr ?_; refine At.ibr ?_; have j := bup a6 j; refine At.thr ?_; have j := bupL a5 O j; refine At.thr ?_; refine At.ibr ?_; refine At.thr (At.drop .z (At.drop .z (At.drop .z (At.drop .z (At.drop .z (At.drop .z (At.drop .z ?_))))))); cases bret j; exact At.res (.inl rfl) rfl rfl ⟨rfl, rfl⟩
                   ··refine At.condF rfl (bn c4) ?_
                     refine At.seq (At.region (At.y (Y.load rfl rfl .z rfl rfl rfl) rfl rfl rfl ?_)); obtain ⟨h1, g1, j⟩ := bbind j; refine At.call rfl Q85.callee rfl rfl rfl (Q85.spec g1) ?_; rintro _ _ ⟨rfl, rfl⟩; refine At.run 1 rfl ?_; obtain ⟨g2, g3, h2, j⟩ := bjoin j; refine At.joinO 9 (X := Bool) (fun a4 => [(4, bp D), (5, .map (some u)), (6, i6 p), (7, bp Z), (14, .slice A0 a0.length c0), (15, i6 (a0.length : Int)), (16, i6 p), (72, .bool a4)]) (fun a4 => a8 :: mapo Fl.bs.ov Fl.bool.ov u C :: G :: I :: J :: L :: M :: Fr) (fun a4 => g2 (.inl a4) = some E) ?_ (fun e4 => ?_)
                     ·rintro a4 j; have j := (g3 _).symm.trans j
                      ·refine At.run 1 rfl (nT ?_); rcases bite j with ⟨c5, j⟩ | ⟨c5, j⟩
                       ··refine At.condT rfl c5 ?_
                         refine sR 3 rfl (nT (At.ret ?_)); refine At.ibr ?_; refine At.thr ?_; refine At.ibr ?_; have j := bup a6 j; refine At.thr ?_; have j := bupL a5 O j; refine At.thr ?_; refine At.ibr ?_; refine At.thr (At.drop .z (At.drop .z (At.drop .z (At.drop .z (At.drop .z (At.drop .z (At.drop .z ?_))))))); cases bret j; exact At.res (.inl rfl) rfl rfl ⟨rfl, rfl⟩
                       ··refine At.condF rfl (bn c5) ?_
                         refine At.skip ?_; refine At.ibn ?_; refine At.thn (At.seq (At.region (At.y (Y.load rfl rfl .z rfl rfl rfl) rfl rfl rfl ?_))); obtain ⟨h3, g4, j⟩ := bbind j; refine At.call rfl Q85.callee rfl rfl rfl (Q85.spec g4) ?_; rintro _ _ ⟨rfl, rfl⟩; refine nT ?_; rcases bite j with ⟨c6, j⟩ | ⟨c6, j⟩
                         ··refine At.condT rfl c6 ?_
                           refine At.region (At.run 2 rfl (At.y (Y.load rfl rfl .z rfl rfl rfl) rfl rfl rfl ?_)); refine At.mapUpdate (k := ((gt a0 p).Name)) (v := true) rfl (.s .z) rfl rfl (KeyOk.str rfl rfl) rfl rfl rfl rfl rfl ?_; refine At.nil ?_; refine At.ibn ?_; refine At.thn (At.drop (.s .z) ?_); exact fun a w e hs => d9 (mset C ((gt a0 p).Name) true) j a w (e.sub ⟨rfl, rfl, rfl, rfl, rfl, trivial⟩) hs
                         ··refine At.condF rfl (bn c6) ?_
                           refine At.skip ?_; refine At.ibn ?_; refine At.thn (At.drop .z ?_); exact fun a w e hs => d9 C j a w (e.sub ⟨rfl, rfl, rfl, rfl, rfl, trivial⟩) hs
                     ··rcases bite j with ⟨c7, j⟩ | ⟨c7, j⟩
                       ··refine At.know (t := 63) rfl c7 ?_
                         refine At.run 3 rfl (At.y (Y.load rfl rfl (.s (.s .z)) rfl rfl rfl) rfl rfl rfl (At.run 1 rfl ?_)); obtain ⟨a9, j⟩ := bnone j; refine At.y (Y.ix (.s (.s (.s (.s (.s (.s .z)))))) rfl rfl rfl rfl rfl rfl a9.1 a9.2) rfl rfl rfl ?_; refine At.y (Y.ld (.s (.s (.s (.s (.s (.s .z)))))) (q := 0) rfl rfl a9.1 a9.2 rfl rfl rfl) rfl rfl rfl ?_; refine At.run 2 rfl ?_; exact At.of (e4 (decide (4 < gt x.2.2.2.1 p)) j) ⟨rfl, rfl, rfl, rfl, rfl, rfl, rfl, rfl, trivial⟩
                       ··refine At.know (t := 63) rfl (bn c7) ?_
                         refine At.run 9 rfl ?_; exact At.of (e4 false j) ⟨rfl, rfl, rfl, rfl, rfl, rfl, rfl, rfl, trivial⟩
                 ··rcases bite j with ⟨c8, j⟩ | ⟨c8, j⟩
                   ··refine At.know (t := 53) rfl c8 ?_
                     refine At.run 2 rfl (At.y (Y.load rfl rfl .z rfl rfl rfl) rfl rfl rfl ?_); refine At.y (Y.lookup (k := ((gt a0 p).Name)) (z := false) (.s .z) rfl rfl (KeyOk.str rfl rfl) (by kernel_rfl) rfl rfl rfl) rfl rfl rfl ?_; refine At.run 1 rfl ?_; exact At.of (e3 ((mget C ((gt a0 p).Name)).getD false) j) ⟨rfl, rfl, rfl, rfl, rfl, rfl, rfl, rfl, trivial⟩
                   ··refine At.know (t := 53) rfl (bn c8) ?_
                     refine At.run 5 rfl ?_; exact At.of (e3 false j) ⟨rfl, rfl, rfl, rfl, rfl, rfl, rfl, rfl, trivial⟩
             ··rcases bite j with ⟨c9, j⟩ | ⟨c9, j⟩
               ··refine At.know (t := 40) rfl (decide_eq_true c9) ?_
                 refine At.run 3 rfl (At.y (Y.load rfl rfl (.s (.s .z)) rfl rfl rfl) rfl rfl rfl (At.run 1 rfl ?_)); obtain ⟨b2, j⟩ := bnone j; refine At.y (Y.ix (.s (.s (.s (.s (.s .z))))) rfl rfl rfl rfl rfl rfl b2.1 b2.2) rfl rfl rfl ?_; refine At.y (Y.ld (.s (.s (.s (.s (.s .z))))) (q := 0) rfl rfl b2.1 b2.2 rfl rfl rfl) rfl rfl rfl ?_; refine At.run 1 rfl ?_; exact At.of (e2 (gt x.2.2.1 p) j) ⟨rfl, rfl, rfl, rfl, rfl, rfl, rfl, rfl, trivial⟩
               ··refine At.know (t := 40) rfl (decide_eq_false c9) ?_
                 refine At.run 8 rfl ?_; exact At.of (e2 false j) ⟨rfl, rfl, rfl, rfl, rfl, rfl, rfl, rfl, trivial⟩
         ··rcases bite j with ⟨d0, j⟩ | ⟨d0, j⟩
           ··refine At.know (t := 25) rfl (decide_eq_true d0) ?_
             refine At.run 3 rfl (At.y (Y.load rfl rfl (.s (.s .z)) rfl rfl rfl) rfl rfl rfl (At.run 1 rfl ?_)); obtain ⟨b3, j⟩ := bnone j; refine At.y (Y.ix (.s (.s (.s (.s .z)))) rfl rfl rfl rfl rfl rfl b3.1 b3.2) rfl rfl rfl ?_; refine At.y (Y.ld (.s (.s (.s (.s .z)))) (q := 0) rfl rfl b3.1 b3.2 rfl rfl rfl) rfl rfl rfl ?_; refine At.run 2 rfl ?_; exact At.of (e1 (decide (gt x.2.1 p < 0)) j) ⟨rfl, rfl, rfl, rfl, rfl, rfl, rfl, rfl, trivial⟩
           ··refine At.know (t := 25) rfl (decide_eq_false d0) ?_
             refine At.run 9 rfl ?_; exact At.of (e1 false j) ⟨rfl, rfl, rfl, rfl, rfl, rfl, rfl, rfl, trivial⟩
     ··refine At.condF rfl (decide_eq_false b7) ?_
       refine At.exit ?_; refine At.the ?_; refine At.the ?_; exact fun a w e hs => e9 C (bdn j O) a w (e.sub trivial) hs
 ··refine At.condT rfl (nt (bn b4)) ?_
   refine sR 2 rfl (nT (At.ret (At.thr ?_))); cases bret j; exact At.res (.inl rfl) rfl rfl ⟨rfl, rfl⟩

noncomputable def Q133.f (a0 : List Q1) : Option (List Int) :=
 (Q54.f a0).bind fun p =>
 if p = true then
 (Q55.f a0).bind fun q =>
 some q.2.1
 else
 some ([] : List Int)
theorem Q133.callee : Callee Tryz.prog 84 := ⟨_, Tryz.func84, by kernel_rfl, by kernel_rfl⟩
theorem Q133.spec {a0 : List Q1} (hr0 : RdS Q1.fl.rep R.heap A0 a0) (hn0 : a0.length = n0) (hc0 : n0 ≤ c0) {r : (List Int)} (j : Q133.f a0 = some r) :
 Spec Tryz.prog 84 [.slice A0 n0 c0] R (Fr) (fun v l' => ∃ (p : Nat) (u : Option Addr) (x : Nat), v = .slice u p x ∧ row (Fl.int .i64) 3 u p x r :: Fr = l' ∧ r.length = p) := by
 subst hn0; refine Spec.of Tryz.func84 rfl rfl ?_; unfold Q133.f at j; have j := brun j; refine sR 1 rfl (nT (At.seq (At.seq (At.region ?_)))); refine At.run 1 rfl ?_; obtain ⟨J, C, j⟩ := bbind j; refine At.call rfl Q54.callee rfl rfl rfl (Q54.spec hr0 rfl hc0 C) ?_; rintro _ _ ⟨rfl, rfl⟩; refine At.run 1 rfl (nT ?_); rcases bite j with ⟨q, j⟩ | ⟨q, j⟩
 ··refine At.condF rfl (nf q) ?_
   refine At.skip (At.thn (sR 1 rfl ?_)); obtain ⟨L, D, j⟩ := bbind j; refine At.call rfl Q55.callee rfl rfl rfl (Q55.spec hr0 rfl hc0 D) ?_; rintro _ _ ⟨M, N, O, U, E, G, V, X, Z, a1, rfl, rfl, rfl⟩; refine At.run 2 rfl (At.y (Y.load rfl rfl .z rfl rfl rfl) rfl rfl rfl (At.run 1 rfl (nT (At.ret ?_)))); refine At.rowLen (.s (.s .z)) fun I => ?_; refine At.drop .z (At.drop .z (At.drop (.s .z) (At.drop (.s .z) ?_))); cases bret j; exact At.res (.inl rfl) rfl rfl ⟨(List.replicate (a0.length : Int).toNat (0 : Int)).length, E, G, rfl, rfl, I⟩
 ··refine At.condT rfl (nt (bn q)) ?_
   refine sR 1 rfl (nT (At.ret (At.thr ?_))); refine At.nilRow (Fl.int .i64) 3 ?_; cases bret j; exact At.res (.inl rfl) rfl rfl ⟨0, none, 0, rfl, rfl, rfl⟩

noncomputable def Q123.f (p : Int) (q : List (Bs × Q4)) (u : List (Q10 × Q4)) : Option Int :=
 some p
theorem Q123.callee : Callee Tryz.prog 47 := ⟨_, Tryz.func47, by kernel_rfl, by kernel_rfl⟩
theorem Q123.spec {p : Int} {q : List (Bs × Q4)} {u : List (Q10 × Q4)} {r : Int} (j : Q123.f p q u = some r) :
 Spec Tryz.prog 47 [bp b0] R (pc b0 [i6 p, .map (some b0_1), .map (some b0_2)] 82 :: mapo Fl.bs.ov Q4.fl.av b0_1 q :: mapo Q10.fl.av Q4.fl.av b0_2 u :: Fr) (fun v l' => v = i6 r ∧ pc b0 [i6 p, .map (some b0_1), .map (some b0_2)] 82 :: mapo Fl.bs.ov Q4.fl.av b0_1 q :: mapo Q10.fl.av Q4.fl.av b0_2 u :: Fr = l') := by
 refine Spec.of Tryz.func47 rfl rfl ?_; unfold Q123.f at j; have j := brun j; refine sR 1 rfl (nT (sR 3 rfl ?_)); refine At.y (Y.load rfl rfl .z rfl rfl rfl) rfl rfl rfl (At.run 1 rfl (nT (At.ret ?_))); cases bret j; exact At.res (.inl rfl) rfl rfl ⟨rfl, rfl⟩



noncomputable def Q137.f (q : Int) (p : List (Bs × Q4)) (u : List (Q10 × Q4)) (a1 : Bs) : Option (Int × Int × Int × Int) :=
 some (((mget p a1).getD (⟨(0 : Int), (0 : Int), (0 : Int), (0 : Int)⟩ : Q4)).c0, ((mget p a1).getD (⟨(0 : Int), (0 : Int), (0 : Int), (0 : Int)⟩ : Q4)).c1, ((mget p a1).getD (⟨(0 : Int), (0 : Int), (0 : Int), (0 : Int)⟩ : Q4)).c2, ((mget p a1).getD (⟨(0 : Int), (0 : Int), (0 : Int), (0 : Int)⟩ : Q4)).c3)
theorem Q137.callee : Callee Tryz.prog 19 := ⟨_, Tryz.func19, by kernel_rfl, by kernel_rfl⟩
theorem Q137.spec {p : Int} {q : List (Bs × Q4)} {u : List (Q10 × Q4)} {a1 : Bs} {r : Int × Int × Int × Int} (j : Q137.f p q u a1 = some r) :
 Spec Tryz.prog 19 [bp b0, .string ⟨(a1).toArray⟩] R (pc b0 [i6 p, .map (some b0_1), .map (some b0_2)] 82 :: mapo Fl.bs.ov Q4.fl.av b0_1 q :: mapo Q10.fl.av Q4.fl.av b0_2 u :: Fr) (fun v l' => v = .agg #[.int .u64 r.1, .int .u64 r.2.1, .int .u64 r.2.2.1, .int .u64 r.2.2.2] ∧ pc b0 [i6 p, .map (some b0_1), .map (some b0_2)] 82 :: mapo Fl.bs.ov Q4.fl.av b0_1 q :: mapo Q10.fl.av Q4.fl.av b0_2 u :: Fr = l') := by
 refine Spec.of Tryz.func19 rfl rfl ?_; unfold Q137.f at j; have j := brun j; refine At.seq (At.region ?_); refine At.alloc rfl rfl rfl (fun x => ?_); refine nT (sR 3 rfl (At.y (Y.load rfl rfl (.s .z) rfl rfl rfl) rfl rfl rfl (At.run 1 rfl ?_))); refine At.y (Y.lookup (k := a1) (z := (⟨(0 : Int), (0 : Int), (0 : Int), (0 : Int)⟩ : Q4)) (.s (.s .z)) rfl rfl (KeyOk.str rfl rfl) (by kernel_rfl) rfl rfl rfl) rfl rfl rfl ?_; refine At.store rfl rfl rfl rfl .z rfl rfl rfl (.c (.c (.c (.c .n)))) ?_; refine nT (At.ret ?_); refine At.resM (.inl rfl) rfl (RV.cell rfl rfl .z rfl rfl rfl RV.nil) ?_; refine At.drop .z ?_; cases bret j; exact fun a w e hs => ⟨_, ⟨rfl, rfl⟩, hs⟩



end Go.Bw
namespace Go.Bw
open Go Go.RowKit

section
variable {P : Program} [Tys P] {n : Nat} {ds : List Deferred} {R : Res} {env : List (Nat × Value)} {l : List HProp} {d ty t e : Nat} {pos : String} {af : Array Edge} {g : Option (Nat × Bool)} {dd : Option Nat}
theorem Y.ixTab {x y : Operand} {i : Int} {k kk : IntKind} {m b : Nat} {ii j : TI} (hi : ti P t = some ii) (hk : ii.k = .array m e) (hx : ev env x = some (.pointer (some ⟨b, 0, none⟩))) (hy : ev env y = some (.int k i)) (hj : ti P e = some j) (hjs : j.size = 1) (h0 : 0 ≤ i) (h1 : i < (m : Int)) :
 Y P n ds R env l ⟨dd, .indexAddr t x y, ty, pos, af, g⟩ (elp (some ⟨b, 0, none⟩) (i.toNat * (Fl.int kk).sz)) := fun a' w e0 hs => by
 have := Y.ixArr (P := P) (n := n) (ds := ds) (R := R) (l := l) (ty := ty) (pos := pos) (af := af) (g := g) (dd := dd) hi hk hx hy hj h0 h1 a' w e0 hs
 rw [hjs] at this
 exact this
end
theorem Q261 {W : World} {b : Nat} {k : IntKind} {tab : List Int} (h : ∀ i : Nat, i < tab.length → W.cell? ⟨b, i, none⟩ = some (.int k (tab.getD i 0))) : RdS (Fl.int k).rep (wh W) (some ⟨b, 0, none⟩) tab := fun i x hx => by
 have hi : i < tab.length := (List.getElem?_eq_some_iff.1 hx).1
 have hd : tab.getD i 0 = x := by rw [List.getD_eq_getElem?_getD, hx]; rfl
 refine ⟨_, _, rfl, rfl, fun j u hu => ?_⟩
 have hj : j = 0 := by
  have : j < 1 := (List.getElem?_eq_some_iff.1 hu).1
  omega
 subst hj
 have hu' : Value.int k x = u := by simpa [Fl.int] using hu
 subst hu'
 have hc := h i hi
 rw [hd] at hc
 simp only [World.cell?] at hc
 have ha : ((⟨b, 0, none⟩ : Addr).add (i * (Fl.int k).rep.sz)).add 0 = ⟨b, i, none⟩ := by
  rw [Q114, Q110]
  simp [show (Fl.int k).rep.sz = 1 from rfl]
 rw [ha]
 dsimp only at hc ⊢
 unfold wh
 cases hb : W.heap[b]? with
 | none => rw [hb] at hc; cases hc
 | some o =>
  rw [hb] at hc
  cases o with
  | cells arr ee fr => exact ⟨arr, ee, fr, rfl, rfl, by simpa using hc⟩
  | _ => simp at hc
end Go.Bw
namespace Go.Bw
open Go Go.RowKit

section
variable {α : Type} {P : Program} [Tys P] {os : List Oper} {Q : Exit → Act → World → Prop} {rest : List Oper} {n : Nat} {ds : List Deferred} {R : Res} {env : List (Nat × Value)} {l l' : List HProp}
variable {d ty t e : Nat} {pos : String} {af : Array Edge} {g : Option (Nat × Bool)}
theorem At.make0 (F : Fl α) {x y : Operand} {m : Int} {k k' : IntKind} {bytes : Nat} {ii j : TI} (hg : grd os env g = some true) (hi : ti P t = some ii) (hk : ii.k = .slice e) (hj : ti P e = some j) (hjs : j.size = F.sz) (hjb : j.bytes = bytes) (hjz : j.zero.length = j.size)
 (hx : ev env x = some (.int k 0)) (hy : ev env y = some (.int k' m)) (h0 : 0 ≤ m) (h1 : (bytes : Int) * m ≤ 281474976710656) (hb0 : 0 < bytes) (hd : Nat.blt d n = true)
 (h : ∀ A c, At n ds R ((d, .slice A ([] : List α).length c) :: env) (row F e A ([] : List α).length c ([] : List α) :: l) (wpList P os.toArray Q rest)) :
 At n ds R env l (wpList P os.toArray Q (⟨some d, .makeSlice t x y, ty, pos, af, g⟩ :: rest)) := Q79 hg rfl hd fun a w e0 hs => by
 obtain ⟨xi, zv, hxi, hsz, hby, hze, hzc⟩ := (Q12 hj).info
 have hm : m ≤ 9223372036854775807 := by
  have := Int.mul_le_mul_of_nonneg_right (show (1 : Int) ≤ (bytes : Int) by omega) h0
  omega
 have hm2 : m ≤ 281474976710656 := by
  have := Int.mul_le_mul_of_nonneg_right (show (1 : Int) ≤ (bytes : Int) by omega) h0
  omega
 have hr := run_make (P := P) w t e xi zv ((Q12 hi).slice hk) hxi hze k k' 0 m (Int.le_refl _) h0 (by rw [hby, hjb]; exact h1) hm
 refine ⟨.slice (some ⟨w.heap.size, 0, none⟩) 0 m.toNat, w.alloc (.cells (madeCells zv.cells (m.toNat * xi.size)) e), row F e (some ⟨w.heap.size, 0, none⟩) 0 m.toNat ([] : List α) :: l, ?_, ?_, h (some ⟨w.heap.size, 0, none⟩) m.toNat⟩
 ·simp only [execOp, e0.ev hx, e0.ev hy, Sem.run_bind, hr, Result.andThen, Sem.run_pure]; rfl
 ·refine (hs.alloc _).imp fun h' o => ?_
  refine ⟨by simp, .inr ⟨w.heap.size, _, rfl, o, by simp, by simp only [maxLen]; omega, ?_, by simp⟩⟩
  simp [madeCells, hsz, hjs]
end
end Go.Bw
namespace Go.Bw
open Go Go.RowKit Go.Proofs
variable {R : Res} {Fr : List HProp}
noncomputable def Q16.o1 (x : Int) : Int := IntKind.u64.wrap (band .u64 (Bw.shr .u64 x 1) 6148914691236517205 + band .u64 x 6148914691236517205)
noncomputable def Q16.o2 (x : Int) : Int := IntKind.u64.wrap (band .u64 (Bw.shr .u64 x 2) 3689348814741910323 + band .u64 x 3689348814741910323)
noncomputable def Q16.o3 (x : Int) : Int := band .u64 (IntKind.u64.wrap (Bw.shr .u64 x 4 + x)) 1085102592571150095
noncomputable def Q16.o4 (x : Int) : Int := IntKind.u64.wrap (x + Bw.shr .u64 x 8)
noncomputable def Q16.o5 (x : Int) : Int := IntKind.u64.wrap (x + Bw.shr .u64 x 16)
noncomputable def Q16.o6 (x : Int) : Int := IntKind.u64.wrap (x + Bw.shr .u64 x 32)
noncomputable def Q16.f (a0 : Int) : Option Int := some (band .i64 (IntKind.i64.wrap (Q16.o6 (Q16.o5 (Q16.o4 (Q16.o3 (Q16.o2 (Q16.o1 a0))))))) 127)
theorem Q16.callee : Callee Tryz.prog 53 := ⟨_, Tryz.func53, by kernel_rfl, by kernel_rfl⟩
theorem Q16.spec {a0 : Int} {r : Int} (j : Q16.f a0 = some r) :
 Spec Tryz.prog 53 [.int .u64 a0] R (Fr) (fun v l' => v = i6 r ∧ Fr = l') := by
 refine Spec.of Tryz.func53 rfl rfl ?_; unfold Q16.f at j; refine sR 1 rfl (nT (sR 1 rfl ?_)); refine At.y (Y.shr rfl rfl (by decide)) rfl rfl rfl (At.run 5 rfl (nT ?_)); refine At.sub (env' := [(0, .int .u64 (Q16.o1 a0))]) ⟨rfl, trivial⟩ ?_; generalize Q16.o1 a0 = z1 at j ⊢; refine sR 1 rfl (At.y (Y.shr rfl rfl (by decide)) rfl rfl rfl (At.run 5 rfl (nT ?_))); refine At.sub (env' := [(0, .int .u64 (Q16.o2 z1))]) ⟨rfl, trivial⟩ ?_; generalize Q16.o2 z1 = z2 at j ⊢; refine sR 1 rfl (At.y (Y.shr rfl rfl (by decide)) rfl rfl rfl (At.run 4 rfl (nT ?_))); refine At.sub (env' := [(0, .int .u64 (Q16.o3 z2))]) ⟨rfl, trivial⟩ ?_; generalize Q16.o3 z2 = z3 at j ⊢; refine sR 2 rfl (At.y (Y.shr rfl rfl (by decide)) rfl rfl rfl (At.run 2 rfl (nT ?_))); refine At.sub (env' := [(0, .int .u64 (Q16.o4 z3))]) ⟨rfl, trivial⟩ ?_; generalize Q16.o4 z3 = z4 at j ⊢; refine sR 2 rfl (At.y (Y.shr rfl rfl (by decide)) rfl rfl rfl (At.run 2 rfl (nT ?_))); refine At.sub (env' := [(0, .int .u64 (Q16.o5 z4))]) ⟨rfl, trivial⟩ ?_; generalize Q16.o5 z4 = z5 at j ⊢; refine sR 2 rfl (At.y (Y.shr rfl rfl (by decide)) rfl rfl rfl (At.run 2 rfl (nT ?_))); refine At.sub (env' := [(0, .int .u64 (Q16.o6 z5))]) ⟨rfl, trivial⟩ ?_; generalize Q16.o6 z5 = z6 at j ⊢; refine sR 4 rfl (nT (At.ret ?_)); obtain rfl := Option.some.inj j; exact At.res (.inl rfl) rfl rfl ⟨rfl, rfl⟩

noncomputable def Q152.f (p q u x : Int) : Option Int :=
 (Q16.f p).bind fun C =>
 (Q16.f q).bind fun D =>
 (Q16.f u).bind fun E =>
 (Q16.f x).bind fun G =>
 some (IntKind.i64.wrap (IntKind.i64.wrap (IntKind.i64.wrap (IntKind.i64.wrap (0 + C) + D) + E) + G))
theorem Q152.callee : Callee Tryz.prog 27 := ⟨_, Tryz.func27, by kernel_rfl, by kernel_rfl⟩
theorem Q152.spec {p q u x : Int} {r : Int} (j : Q152.f p q u x = some r) :
 Spec Tryz.prog 27 [.agg #[.int .u64 p, .int .u64 q, .int .u64 u, .int .u64 x]] R (Fr) (fun v l' => v = i6 r ∧ Fr = l') := by
 refine Spec.of Tryz.func27 rfl rfl ?_; unfold Q152.f at j; have j := brun j; refine At.seq (At.region ?_); refine At.box rfl rfl (cs := [.int .u64 p, .int .u64 q, .int .u64 u, .int .u64 x]) rfl rfl (fun I => ?_); refine At.run 1 rfl (nT (sR 1 rfl (nT ?_))); refine At.seq (At.seq (At.region (At.y (Y.load rfl rfl .z rfl rfl rfl) rfl rfl rfl (At.run 1 rfl (nT ?_))))); refine At.block ?_; refine At.rounds 5 ?_; refine At.round ?_; refine sR 1 rfl (nT (At.seq ?_)); refine At.condT rfl rfl ?_; refine At.skip (At.thn (At.seq ?_)); refine At.block ?_; refine At.seq (At.region ?_); refine At.y (Y.ixA rfl rfl rfl rfl rfl (show (0 : Int) ≤ 0 ∧ (0 : Int) < 4 by decide).1 (show (0 : Int) ≤ 0 ∧ (0 : Int) < 4 by decide).2 rfl) rfl rfl rfl ?_; refine At.run 1 rfl (nT (At.region (At.run 2 rfl ?_))); obtain ⟨J, C, j⟩ := bbind j; refine At.call rfl Q16.callee rfl rfl rfl (Q16.spec C) ?_; rintro _ _ ⟨rfl, rfl⟩; refine At.run 2 rfl (At.nil ?_); refine At.ibn ?_; refine At.thn (At.region (At.run 2 rfl (nT ?_))); refine At.round ?_; refine sR 1 rfl (nT (At.seq ?_)); refine At.condT rfl rfl ?_; refine At.skip (At.thn (At.seq ?_)); refine At.block ?_; refine At.seq (At.region ?_); refine At.y (Y.ixA rfl rfl rfl rfl rfl (show (0 : Int) ≤ 1 ∧ (1 : Int) < 4 by decide).1 (show (0 : Int) ≤ 1 ∧ (1 : Int) < 4 by decide).2 rfl) rfl rfl rfl ?_; refine At.run 1 rfl (nT (At.region (At.run 2 rfl ?_))); obtain ⟨L, D, j⟩ := bbind j; refine At.call rfl Q16.callee rfl rfl rfl (Q16.spec D) ?_; rintro _ _ ⟨rfl, rfl⟩; refine At.run 2 rfl (At.nil ?_); refine At.ibn ?_; refine At.thn (At.region (At.run 2 rfl (nT ?_))); refine At.round ?_; refine sR 1 rfl (nT (At.seq ?_)); refine At.condT rfl rfl ?_; refine At.skip (At.thn (At.seq ?_)); refine At.block ?_; refine At.seq (At.region ?_); refine At.y (Y.ixA rfl rfl rfl rfl rfl (show (0 : Int) ≤ 2 ∧ (2 : Int) < 4 by decide).1 (show (0 : Int) ≤ 2 ∧ (2 : Int) < 4 by decide).2 rfl) rfl rfl rfl ?_; refine At.run 1 rfl (nT (At.region (At.run 2 rfl ?_))); obtain ⟨M, E, j⟩ := bbind j; refine At.call rfl Q16.callee rfl rfl rfl (Q16.spec E) ?_; rintro _ _ ⟨rfl, rfl⟩; refine At.run 2 rfl (At.nil ?_); refine At.ibn ?_; refine At.thn (At.region (At.run 2 rfl (nT ?_))); refine At.round ?_; refine sR 1 rfl (nT (At.seq ?_)); refine At.condT rfl rfl ?_; refine At.skip (At.thn (At.seq ?_)); refine At.block ?_; refine At.seq (At.region ?_); refine At.y (Y.ixA rfl rfl rfl rfl rfl (show (0 : Int) ≤ 3 ∧ (3 : Int) < 4 by decide).1 (show (0 : Int) ≤ 3 ∧ (3 : Int) < 4 by decide).2 rfl) rfl rfl rfl ?_; refine At.run 1 rfl (nT (At.region (At.run 2 rfl ?_))); obtain ⟨N, G, j⟩ := bbind j; refine At.call rfl Q16.callee rfl rfl rfl (Q16.spec G) ?_; rintro _ _ ⟨rfl, rfl⟩; refine At.run 2 rfl (At.nil ?_); refine At.ibn ?_; refine At.thn (At.region (At.run 2 rfl (nT ?_))); refine At.round ?_; refine sR 1 rfl (nT (At.seq ?_)); refine At.condF rfl rfl ?_; refine At.exit ?_; refine At.the ?_; refine At.the ?_; refine At.ibx ?_; refine At.thn (sR 2 rfl (nT (At.ret (At.drop .z ?_)))); cases bret j; exact At.res (.inl rfl) rfl rfl ⟨rfl, rfl⟩

noncomputable def Q26.ix (a0 : Int) : Int := Bw.shr .u64 (IntKind.u64.wrap ((band .u64 a0 (IntKind.u64.wrap (0 - a0))) * 285870213051353865)) 58
noncomputable def Q26.f (a0 : Int) : Option Int :=
 if a0 = 0 then
 some 64
 else
 if (0 : Int) ≤ Q26.ix a0 ∧ Q26.ix a0 < (64 : Int) then
 some (IntKind.i64.wrap (gt Tryz.gtab0 (Q26.ix a0)))
 else none
theorem Q26.callee : Callee Tryz.prog 36 := ⟨_, Tryz.func36, by kernel_rfl, by kernel_rfl⟩
theorem Q26.spec {a0 : Int} (hg0 : RdS (Fl.int .u8).rep R.heap (some ⟨0, 0, none⟩) Tryz.gtab0) {r : Int} (j : Q26.f a0 = some r) :
 Spec Tryz.prog 36 [.int .u64 a0] R (Fr) (fun v l' => v = i6 r ∧ Fr = l') := by
 refine Spec.of Tryz.func36 rfl rfl ?_; unfold Q26.f at j; have j := brun j; have hlen : Tryz.gtab0.length = 64 := rfl; generalize Tryz.gtab0 = tab at hg0 j hlen; obtain ⟨A, hA⟩ : ∃ A : Option Addr, (some ⟨0, 0, none⟩ : Option Addr) = A := ⟨_, rfl⟩; rw [hA] at hg0; refine sR 1 rfl (nT (At.seq (At.seq (At.region ?_)))); refine At.run 2 rfl (nT ?_); rcases bite j with ⟨u, j⟩ | ⟨u, j⟩
 ··refine At.condT rfl (decide_eq_true u) ?_
   refine sR 1 rfl (nT (At.ret (At.thr ?_))); cases bret j; exact At.res (.inl rfl) rfl rfl ⟨rfl, rfl⟩
 ··refine At.condF rfl (decide_eq_false u) ?_
   refine At.skip (At.thn (sR 5 rfl (At.y (Y.shr rfl rfl (by decide)) rfl rfl rfl ?_))); refine At.sub (env' := [(10, .int .u64 (Q26.ix a0))]) ⟨rfl, trivial⟩ ?_; generalize Q26.ix a0 = q at j ⊢; obtain ⟨p, j⟩ := bnone j; refine At.y (v := elp A (q.toNat * (Fl.int .u8).sz)) (by rw [← hA]; exact Y.ixTab (kk := .u8) rfl rfl rfl rfl rfl rfl p.1 p.2) rfl rfl rfl ?_; refine At.y (v := .int .u8 (gt tab q)) (Y.ldFl (ii := Tryz.ti5) hg0 hlen (i := q) (q := 0) rfl ?_ p.1 p.2 ?_ ?_ ?_) rfl rfl rfl ?_
   ·exact congrArg (fun k => some (elp A k)) (Nat.add_zero _).symm
   ·rfl
   ·rfl
   ·rfl
   refine At.run 2 rfl (nT (At.ret ?_)); cases bret j; exact At.res (.inl rfl) rfl rfl ⟨rfl, rfl⟩

noncomputable def Q17.l3b  (q : List Int) (p : Int) : Option (((List Int) × Int) ⊕ (((List Int)) ⊕ ((List Int)))) :=
 if p = 0 then
 dn (.inl q)
 else
 (Q26.f p).bind fun u =>
 if (q.length + ([(IntKind.i64.wrap (192 + u))] : List Int).length) * 8 ≤ 140737488355328 then
 nx ((q ++ ([(IntKind.i64.wrap (192 + u))] : List Int)), band .u64 p (IntKind.u64.wrap (p - 1)))
 else none
noncomputable def Q17.l3  (p : List Int) (q : Int) : Option (((List Int)) ⊕ ((List Int))) := iter (fun t_ : (List Int) × Int => Q17.l3b  t_.1 t_.2) (p, q)
noncomputable def Q17.l2b  (q : List Int) (p : Int) : Option (((List Int) × Int) ⊕ (((List Int)) ⊕ ((List Int)))) :=
 if p = 0 then
 dn (.inl q)
 else
 (Q26.f p).bind fun u =>
 if (q.length + ([(IntKind.i64.wrap (128 + u))] : List Int).length) * 8 ≤ 140737488355328 then
 nx ((q ++ ([(IntKind.i64.wrap (128 + u))] : List Int)), band .u64 p (IntKind.u64.wrap (p - 1)))
 else none
noncomputable def Q17.l2  (p : List Int) (q : Int) : Option (((List Int)) ⊕ ((List Int))) := iter (fun t_ : (List Int) × Int => Q17.l2b  t_.1 t_.2) (p, q)
noncomputable def Q17.l1b  (q : List Int) (p : Int) : Option (((List Int) × Int) ⊕ (((List Int)) ⊕ ((List Int)))) :=
 if p = 0 then
 dn (.inl q)
 else
 (Q26.f p).bind fun u =>
 if (q.length + ([(IntKind.i64.wrap (64 + u))] : List Int).length) * 8 ≤ 140737488355328 then
 nx ((q ++ ([(IntKind.i64.wrap (64 + u))] : List Int)), band .u64 p (IntKind.u64.wrap (p - 1)))
 else none
noncomputable def Q17.l1  (p : List Int) (q : Int) : Option (((List Int)) ⊕ ((List Int))) := iter (fun t_ : (List Int) × Int => Q17.l1b  t_.1 t_.2) (p, q)
noncomputable def Q17.l0b  (q : List Int) (p : Int) : Option (((List Int) × Int) ⊕ (((List Int)) ⊕ ((List Int)))) :=
 if p = 0 then
 dn (.inl q)
 else
 (Q26.f p).bind fun u =>
 if (q.length + ([(IntKind.i64.wrap (0 + u))] : List Int).length) * 8 ≤ 140737488355328 then
 nx ((q ++ ([(IntKind.i64.wrap (0 + u))] : List Int)), band .u64 p (IntKind.u64.wrap (p - 1)))
 else none
noncomputable def Q17.l0  (p : List Int) (q : Int) : Option (((List Int)) ⊕ ((List Int))) := iter (fun t_ : (List Int) × Int => Q17.l0b  t_.1 t_.2) (p, q)
noncomputable def Q17.f (p q u x : Int) : Option (List Int) :=
 (Q152.f p q u x).bind fun C =>
 if (0 : Int) ≤ C ∧ (8 : Int) * C ≤ 281474976710656 then
 jn (Q17.l0  ([] : List Int) p) (fun (D : List Int) =>
 jn (Q17.l1  D q) (fun (E : List Int) =>
 jn (Q17.l2  E u) (fun (G : List Int) =>
 jn (Q17.l3  G x) (fun (I : List Int) =>
 some I))))
 else none
theorem Q17.callee : Callee Tryz.prog 15 := ⟨_, Tryz.func15, by kernel_rfl, by kernel_rfl⟩
theorem Q17.spec {p q u x : Int} (hg0 : RdS (Fl.int .u8).rep R.heap (some ⟨0, 0, none⟩) Tryz.gtab0) {r : (List Int)} (j : Q17.f p q u x = some r) :
 Spec Tryz.prog 15 [.agg #[.int .u64 p, .int .u64 q, .int .u64 u, .int .u64 x]] R (Fr) (fun v l' => ∃ (N : Nat) (c5 : Option Addr) (c6 : Nat), v = .slice c5 N c6 ∧ row (Fl.int .i64) 3 c5 N c6 r :: Fr = l' ∧ r.length = N) := by
 refine Spec.of Tryz.func15 rfl rfl ?_; unfold Q17.f at j; have j := brun j; refine At.seq (At.region ?_); refine At.box rfl rfl (cs := [.int .u64 p, .int .u64 q, .int .u64 u, .int .u64 x]) rfl rfl (fun d3 => ?_); refine At.run 1 rfl (nT (At.seq (At.region (At.y (Y.load rfl rfl .z rfl rfl rfl) rfl rfl rfl ?_)))); obtain ⟨n8, d4, j⟩ := bbind j; refine At.call rfl Q152.callee rfl rfl rfl (Q152.spec d4) ?_; rintro _ _ ⟨rfl, rfl⟩; obtain ⟨c7, j⟩ := bnone j; refine At.make0 (Fl.int .i64) rfl rfl rfl rfl rfl rfl rfl rfl rfl c7.1 c7.2 (by decide) rfl (fun d5 d6 => ?_); refine At.run 1 rfl (nT (At.seq (At.seq (At.region (At.y (Y.load rfl rfl (.s .z) rfl rfl rfl) rfl rfl rfl (At.run 1 rfl ?_)))))); refine nT ?_; refine At.block ?_; refine At.rounds 5 ?_; refine At.round ?_; refine sR 1 rfl (nT (At.seq ?_)); refine At.condT rfl rfl ?_; refine At.skip (At.thn (At.seq ?_)); refine At.block ?_; refine sR 1 rfl ?_; refine At.y (Y.ixA rfl rfl rfl rfl rfl (show (0 : Int) ≤ 0 ∧ (0 : Int) < 4 by decide).1 (show (0 : Int) ≤ 0 ∧ (0 : Int) < 4 by decide).2 rfl) rfl rfl rfl ?_; refine At.run 2 rfl (nT ?_); refine At.block ?_; obtain ⟨d7, d8, n9, j⟩ := bjoin j; obtain ⟨c8, O, d9⟩ := bsome j; clear j; unfold Q17.l0 at O; obtain ⟨U, I⟩ := Q14.1 O; clear O; let T1 : HProp := pc d3 [.int .u64 p, .int .u64 q, .int .u64 u, .int .u64 x] 35; refine At.loopJ (X := (List Int) × Int × Nat × (Option Addr) × Nat) (Y := (List Int) × Nat × (Option Addr) × Nat) (e0 := 2) (fun s_ => [(3, .slice s_.2.2.2.1 s_.2.2.1 s_.2.2.2.2), (4, i6 0), (5, .int .u64 s_.2.1), (9, .agg #[.int .u64 p, .int .u64 q, .int .u64 u, .int .u64 x]), (10, i6 0)]) (fun s_ => row (Fl.int .i64) 3 s_.2.2.2.1 s_.2.2.1 s_.2.2.2.2 s_.1 :: T1 :: Fr) (fun m_ => fun s_ => iterN (fun t_ : (List Int) × Int => Q17.l0b  t_.1 t_.2) m_ (s_.1, s_.2.1) = some c8 ∧ s_.1.length = s_.2.2.1) U (([] : List Int), p, ([] : List Int).length, d5, d6) ⟨I, rfl⟩ (fun s_ => [(3, .slice s_.2.2.1 s_.2.1 s_.2.2.2), (9, .agg #[.int .u64 p, .int .u64 q, .int .u64 u, .int .u64 x]), (10, i6 0)]) (fun s_ => row (Fl.int .i64) 3 s_.2.2.1 s_.2.1 s_.2.2.2 s_.1 :: T1 :: Fr) (fun s_ => d7 (.inl s_.1) = some r ∧ s_.1.length = s_.2.1) (fun a w e hs => ⟨e.sub ⟨rfl, rfl, rfl, rfl, rfl, trivial⟩, (by exact hs)⟩) ?_ (fun e1 => ?_)
 ·rintro ⟨V, e2, e3, e4⟩ ⟨j, e5⟩; obtain rfl : V.length = e2 := e5; have j := (d8 _).symm.trans j
  ·refine At.ibx ?_; refine At.ibn ?_; refine At.thn (At.region (At.run 2 rfl (nT ?_))); refine At.round ?_; refine sR 1 rfl (nT (At.seq ?_)); refine At.condT rfl rfl ?_; refine At.skip (At.thn (At.seq ?_)); refine At.block ?_; refine sR 1 rfl ?_; refine At.y (Y.ixA rfl rfl rfl rfl rfl (show (0 : Int) ≤ 1 ∧ (1 : Int) < 4 by decide).1 (show (0 : Int) ≤ 1 ∧ (1 : Int) < 4 by decide).2 rfl) rfl rfl rfl ?_; refine At.run 2 rfl (nT ?_); refine At.block ?_; obtain ⟨e6, e7, o0, j⟩ := bjoin j; obtain ⟨c9, Z, e8⟩ := bsome j; clear j; unfold Q17.l1 at Z; obtain ⟨a0, J⟩ := Q14.1 Z; clear Z; refine At.loopJ (X := (List Int) × Int × Nat × (Option Addr) × Nat) (Y := (List Int) × Nat × (Option Addr) × Nat) (e0 := 2) (fun s_ => [(3, .slice s_.2.2.2.1 s_.2.2.1 s_.2.2.2.2), (4, i6 1), (5, .int .u64 s_.2.1), (9, .agg #[.int .u64 p, .int .u64 q, .int .u64 u, .int .u64 x]), (10, i6 1)]) (fun s_ => row (Fl.int .i64) 3 s_.2.2.2.1 s_.2.2.1 s_.2.2.2.2 s_.1 :: T1 :: Fr) (fun m_ => fun s_ => iterN (fun t_ : (List Int) × Int => Q17.l1b  t_.1 t_.2) m_ (s_.1, s_.2.1) = some c9 ∧ s_.1.length = s_.2.2.1) a0 (V, q, V.length, e3, e4) ⟨J, rfl⟩ (fun s_ => [(3, .slice s_.2.2.1 s_.2.1 s_.2.2.2), (9, .agg #[.int .u64 p, .int .u64 q, .int .u64 u, .int .u64 x]), (10, i6 1)]) (fun s_ => row (Fl.int .i64) 3 s_.2.2.1 s_.2.1 s_.2.2.2 s_.1 :: T1 :: Fr) (fun s_ => e6 (.inl s_.1) = some r ∧ s_.1.length = s_.2.1) (fun a w e hs => ⟨e.sub ⟨rfl, rfl, rfl, rfl, rfl, trivial⟩, (by exact hs)⟩) ?_ (fun e9 => ?_)
   ·rintro ⟨a1, f0, f1, f2⟩ ⟨j, f3⟩; obtain rfl : a1.length = f0 := f3; have j := (e7 _).symm.trans j
    ·refine At.ibx ?_; refine At.ibn ?_; refine At.thn (At.region (At.run 2 rfl (nT ?_))); refine At.round ?_; refine sR 1 rfl (nT (At.seq ?_)); refine At.condT rfl rfl ?_; refine At.skip (At.thn (At.seq ?_)); refine At.block ?_; refine sR 1 rfl ?_; refine At.y (Y.ixA rfl rfl rfl rfl rfl (show (0 : Int) ≤ 2 ∧ (2 : Int) < 4 by decide).1 (show (0 : Int) ≤ 2 ∧ (2 : Int) < 4 by decide).2 rfl) rfl rfl rfl ?_; refine At.run 2 rfl (nT ?_); refine At.block ?_; obtain ⟨f4, f5, o7, j⟩ := bjoin j; obtain ⟨d0, a2, f6⟩ := bsome j; clear j; unfold Q17.l2 at a2; obtain ⟨a3, L⟩ := Q14.1 a2; clear a2; refine At.loopJ (X := (List Int) × Int × Nat × (Option Addr) × Nat) (Y := (List Int) × Nat × (Option Addr) × Nat) (e0 := 2) (fun s_ => [(3, .slice s_.2.2.2.1 s_.2.2.1 s_.2.2.2.2), (4, i6 2), (5, .int .u64 s_.2.1), (9, .agg #[.int .u64 p, .int .u64 q, .int .u64 u, .int .u64 x]), (10, i6 2)]) (fun s_ => row (Fl.int .i64) 3 s_.2.2.2.1 s_.2.2.1 s_.2.2.2.2 s_.1 :: T1 :: Fr) (fun m_ => fun s_ => iterN (fun t_ : (List Int) × Int => Q17.l2b  t_.1 t_.2) m_ (s_.1, s_.2.1) = some d0 ∧ s_.1.length = s_.2.2.1) a3 (a1, u, a1.length, f1, f2) ⟨L, rfl⟩ (fun s_ => [(3, .slice s_.2.2.1 s_.2.1 s_.2.2.2), (9, .agg #[.int .u64 p, .int .u64 q, .int .u64 u, .int .u64 x]), (10, i6 2)]) (fun s_ => row (Fl.int .i64) 3 s_.2.2.1 s_.2.1 s_.2.2.2 s_.1 :: T1 :: Fr) (fun s_ => f4 (.inl s_.1) = some r ∧ s_.1.length = s_.2.1) (fun a w e hs => ⟨e.sub ⟨rfl, rfl, rfl, rfl, rfl, trivial⟩, (by exact hs)⟩) ?_ (fun f7 => ?_)
     ·rintro ⟨a4, f8, f9, g0⟩ ⟨j, g1⟩; obtain rfl : a4.length = f8 := g1; have j := (f5 _).symm.trans j
      ·refine At.ibx ?_; refine At.ibn ?_; refine At.thn (At.region (At.run 2 rfl (nT ?_))); refine At.round ?_; refine sR 1 rfl (nT (At.seq ?_)); refine At.condT rfl rfl ?_; refine At.skip (At.thn (At.seq ?_)); refine At.block ?_; refine sR 1 rfl ?_; refine At.y (Y.ixA rfl rfl rfl rfl rfl (show (0 : Int) ≤ 3 ∧ (3 : Int) < 4 by decide).1 (show (0 : Int) ≤ 3 ∧ (3 : Int) < 4 by decide).2 rfl) rfl rfl rfl ?_; refine At.run 2 rfl (nT ?_); refine At.block ?_; obtain ⟨g2, g3, o8, j⟩ := bjoin j; obtain ⟨d1, a5, g4⟩ := bsome j; clear j; unfold Q17.l3 at a5; obtain ⟨a6, M⟩ := Q14.1 a5; clear a5; refine At.loopJ (X := (List Int) × Int × Nat × (Option Addr) × Nat) (Y := (List Int) × Nat × (Option Addr) × Nat) (e0 := 2) (fun s_ => [(3, .slice s_.2.2.2.1 s_.2.2.1 s_.2.2.2.2), (4, i6 3), (5, .int .u64 s_.2.1), (9, .agg #[.int .u64 p, .int .u64 q, .int .u64 u, .int .u64 x]), (10, i6 3)]) (fun s_ => row (Fl.int .i64) 3 s_.2.2.2.1 s_.2.2.1 s_.2.2.2.2 s_.1 :: T1 :: Fr) (fun m_ => fun s_ => iterN (fun t_ : (List Int) × Int => Q17.l3b  t_.1 t_.2) m_ (s_.1, s_.2.1) = some d1 ∧ s_.1.length = s_.2.2.1) a6 (a4, x, a4.length, f9, g0) ⟨M, rfl⟩ (fun s_ => [(3, .slice s_.2.2.1 s_.2.1 s_.2.2.2), (9, .agg #[.int .u64 p, .int .u64 q, .int .u64 u, .int .u64 x]), (10, i6 3)]) (fun s_ => row (Fl.int .i64) 3 s_.2.2.1 s_.2.1 s_.2.2.2 s_.1 :: T1 :: Fr) (fun s_ => g2 (.inl s_.1) = some r ∧ s_.1.length = s_.2.1) (fun a w e hs => ⟨e.sub ⟨rfl, rfl, rfl, rfl, rfl, trivial⟩, (by exact hs)⟩) ?_ (fun g5 => ?_)
       ·rintro ⟨d2, g6, g7, g8⟩ ⟨j, g9⟩; obtain rfl : d2.length = g6 := g9; have j := (g3 _).symm.trans j
        ·refine At.ibx ?_; refine At.ibn ?_; refine At.thn (At.region (At.run 2 rfl (nT ?_))); refine At.round ?_; refine sR 1 rfl (nT (At.seq ?_)); refine At.condF rfl rfl ?_; refine At.exit ?_; refine At.the ?_; refine At.the ?_; refine At.ibx ?_; refine At.thn (sR 2 rfl (nT (At.ret (At.drop (.s .z) ?_)))); obtain rfl := (bret j).symm; exact At.res (.inl rfl) rfl rfl ⟨d2.length, g7, g8, rfl, rfl, rfl⟩
       ·clear M a6; rintro a6 ⟨C, a7, h0, h1, h2⟩ ⟨M, h3⟩; obtain rfl : C.length = h0 := h3; obtain ⟨h4, f_, h5, hf_, j⟩ := bit M; clear M; have j : (Q17.l3b  C a7).bind _ = some d1 := j; unfold Q17.l3b at j
        ·refine At.seq (sR 2 rfl (nT ?_)); rcases bite j with ⟨a8, j⟩ | ⟨a8, j⟩
         ··refine At.condF rfl (nf (decide_eq_true a8)) ?_
           refine At.exit ?_; refine At.the ?_; refine At.the ?_; exact fun a w e hs => g5 (C, C.length, h1, h2) ⟨(bdn j g4), rfl⟩ a w (e.sub ⟨rfl, rfl, rfl, trivial⟩) hs
         ··refine At.condT rfl (nt (decide_eq_false a8)) ?_
           refine At.skip (At.thn (At.seq ?_)); refine At.block ?_; refine At.region (At.run 4 rfl ?_); obtain ⟨a9, h6, j⟩ := bbind j; refine At.call rfl Q26.callee rfl rfl rfl (Q26.spec hg0 h6) ?_; rintro _ _ ⟨rfl, rfl⟩; refine At.run 1 rfl ?_; refine At.lit rfl (xo := [.tmp 25]) (ys := ([(IntKind.i64.wrap (192 + a9))] : List Int)) (Fl.int .i64) rfl rfl rfl rfl rfl rfl rfl rfl rfl rfl rfl (fun o9 p0 => ?_); obtain ⟨h7, j⟩ := bnone j; refine At.append rfl (.s .z) (Src.own .z (by simp)) rfl rfl rfl rfl rfl rfl rfl rfl h7 (by decide) rfl (fun h8 h9 => ?_); refine At.drop (.s .z) (At.run 1 rfl (At.nil ?_)); refine At.ibn ?_; refine At.thn (At.region (At.run 5 rfl (At.nil ?_))); have j := bnx hf_ j; exact fun a w e hs => ⟨h4, ((C ++ ([(IntKind.i64.wrap (192 + a9))] : List Int)), band .u64 a7 (IntKind.u64.wrap (a7 - 1)), (C ++ ([(IntKind.i64.wrap (192 + a9))] : List Int)).length, h8, h9), h5, ⟨j, rfl⟩, e.sub ⟨rfl, rfl, rfl, rfl, rfl, trivial⟩, hs⟩
     ·clear L a3; rintro a3 ⟨D, b2, k0, k1, k2⟩ ⟨L, k3⟩; obtain rfl : D.length = k0 := k3; obtain ⟨k4, f_, k5, hf_, j⟩ := bit L; clear L; have j : (Q17.l2b  D b2).bind _ = some d0 := j; unfold Q17.l2b at j
      ·refine At.seq (sR 2 rfl (nT ?_)); rcases bite j with ⟨b3, j⟩ | ⟨b3, j⟩
       ··refine At.condF rfl (nf (decide_eq_true b3)) ?_
         refine At.exit ?_; refine At.the ?_; refine At.the ?_; exact fun a w e hs => f7 (D, D.length, k1, k2) ⟨(bdn j f6), rfl⟩ a w (e.sub ⟨rfl, rfl, rfl, trivial⟩) hs
       ··refine At.condT rfl (nt (decide_eq_false b3)) ?_
         refine At.skip (At.thn (At.seq ?_)); refine At.block ?_; refine At.region (At.run 4 rfl ?_); obtain ⟨b4, k6, j⟩ := bbind j; refine At.call rfl Q26.callee rfl rfl rfl (Q26.spec hg0 k6) ?_; rintro _ _ ⟨rfl, rfl⟩; refine At.run 1 rfl ?_; refine At.lit rfl (xo := [.tmp 25]) (ys := ([(IntKind.i64.wrap (128 + b4))] : List Int)) (Fl.int .i64) rfl rfl rfl rfl rfl rfl rfl rfl rfl rfl rfl (fun p1 p2 => ?_); obtain ⟨k7, j⟩ := bnone j; refine At.append rfl (.s .z) (Src.own .z (by simp)) rfl rfl rfl rfl rfl rfl rfl rfl k7 (by decide) rfl (fun k8 k9 => ?_); refine At.drop (.s .z) (At.run 1 rfl (At.nil ?_)); refine At.ibn ?_; refine At.thn (At.region (At.run 5 rfl (At.nil ?_))); have j := bnx hf_ j; exact fun a w e hs => ⟨k4, ((D ++ ([(IntKind.i64.wrap (128 + b4))] : List Int)), band .u64 b2 (IntKind.u64.wrap (b2 - 1)), (D ++ ([(IntKind.i64.wrap (128 + b4))] : List Int)).length, k8, k9), k5, ⟨j, rfl⟩, e.sub ⟨rfl, rfl, rfl, rfl, rfl, trivial⟩, hs⟩
   ·clear J a0; rintro a0 ⟨E, b5, l5, l6, l7⟩ ⟨J, l8⟩; obtain rfl : E.length = l5 := l8; obtain ⟨l9, f_, m0, hf_, j⟩ := bit J; clear J; have j : (Q17.l1b  E b5).bind _ = some c9 := j; unfold Q17.l1b at j
    ·refine At.seq (sR 2 rfl (nT ?_)); rcases bite j with ⟨b6, j⟩ | ⟨b6, j⟩
     ··refine At.condF rfl (nf (decide_eq_true b6)) ?_
       refine At.exit ?_; refine At.the ?_; refine At.the ?_; exact fun a w e hs => e9 (E, E.length, l6, l7) ⟨(bdn j e8), rfl⟩ a w (e.sub ⟨rfl, rfl, rfl, trivial⟩) hs
     ··refine At.condT rfl (nt (decide_eq_false b6)) ?_
       refine At.skip (At.thn (At.seq ?_)); refine At.block ?_; refine At.region (At.run 4 rfl ?_); obtain ⟨b7, m1, j⟩ := bbind j; refine At.call rfl Q26.callee rfl rfl rfl (Q26.spec hg0 m1) ?_; rintro _ _ ⟨rfl, rfl⟩; refine At.run 1 rfl ?_; refine At.lit rfl (xo := [.tmp 25]) (ys := ([(IntKind.i64.wrap (64 + b7))] : List Int)) (Fl.int .i64) rfl rfl rfl rfl rfl rfl rfl rfl rfl rfl rfl (fun p3 p4 => ?_); obtain ⟨m2, j⟩ := bnone j; refine At.append rfl (.s .z) (Src.own .z (by simp)) rfl rfl rfl rfl rfl rfl rfl rfl m2 (by decide) rfl (fun m3 m4 => ?_); refine At.drop (.s .z) (At.run 1 rfl (At.nil ?_)); refine At.ibn ?_; refine At.thn (At.region (At.run 5 rfl (At.nil ?_))); have j := bnx hf_ j; exact fun a w e hs => ⟨l9, ((E ++ ([(IntKind.i64.wrap (64 + b7))] : List Int)), band .u64 b5 (IntKind.u64.wrap (b5 - 1)), (E ++ ([(IntKind.i64.wrap (64 + b7))] : List Int)).length, m3, m4), m0, ⟨j, rfl⟩, e.sub ⟨rfl, rfl, rfl, rfl, rfl, trivial⟩, hs⟩
 ·clear I U; rintro U ⟨G, b8, m5, m6, m7⟩ ⟨I, m8⟩; obtain rfl : G.length = m5 := m8; obtain ⟨m9, f_, n2, hf_, j⟩ := bit I; clear I; have j : (Q17.l0b  G b8).bind _ = some c8 := j; unfold Q17.l0b at j
  ·refine At.seq (sR 2 rfl (nT ?_)); rcases bite j with ⟨b9, j⟩ | ⟨b9, j⟩
   ··refine At.condF rfl (nf (decide_eq_true b9)) ?_
     refine At.exit ?_; refine At.the ?_; refine At.the ?_; exact fun a w e hs => e1 (G, G.length, m6, m7) ⟨(bdn j d9), rfl⟩ a w (e.sub ⟨rfl, rfl, rfl, trivial⟩) hs
   ··refine At.condT rfl (nt (decide_eq_false b9)) ?_
     refine At.skip (At.thn (At.seq ?_)); refine At.block ?_; refine At.region (At.run 4 rfl ?_); obtain ⟨c4, n4, j⟩ := bbind j; refine At.call rfl Q26.callee rfl rfl rfl (Q26.spec hg0 n4) ?_; rintro _ _ ⟨rfl, rfl⟩; refine At.run 1 rfl ?_; refine At.lit rfl (xo := [.tmp 25]) (ys := ([(IntKind.i64.wrap (0 + c4))] : List Int)) (Fl.int .i64) rfl rfl rfl rfl rfl rfl rfl rfl rfl rfl rfl (fun p5 p6 => ?_); obtain ⟨n5, j⟩ := bnone j; refine At.append rfl (.s .z) (Src.own .z (by simp)) rfl rfl rfl rfl rfl rfl rfl rfl n5 (by decide) rfl (fun n6 n7 => ?_); refine At.drop (.s .z) (At.run 1 rfl (At.nil ?_)); refine At.ibn ?_; refine At.thn (At.region (At.run 5 rfl (At.nil ?_))); have j := bnx hf_ j; exact fun a w e hs => ⟨m9, ((G ++ ([(IntKind.i64.wrap (0 + c4))] : List Int)), band .u64 b8 (IntKind.u64.wrap (b8 - 1)), (G ++ ([(IntKind.i64.wrap (0 + c4))] : List Int)).length, n6, n7), n2, ⟨j, rfl⟩, e.sub ⟨rfl, rfl, rfl, rfl, rfl, trivial⟩, hs⟩


noncomputable def Q144.f (p q u x a1 : Int) : Option Bool :=
 jn (
 if 0 ≤ a1 then
 some (.inl (decide (a1 < 256)))
 else
 some (.inl false)) (fun (C : Bool) =>
 jn (
 if C = true then
 if (0 : Int) ≤ (Bw.shr .i64 a1 6) ∧ (Bw.shr .i64 a1 6) < (4 : Int) then
 if (Bw.shr .i64 a1 6) = 0 then
 if (0 : Int) ≤ IntKind.u64.wrap (band .i64 a1 63) then
 some (.inl (decide (band .u64 (Bw.shr .u64 p (IntKind.u64.wrap (band .i64 a1 63))) 1 = 1)))
 else none
 else
 if (Bw.shr .i64 a1 6) = 1 then
 if (0 : Int) ≤ IntKind.u64.wrap (band .i64 a1 63) then
 some (.inl (decide (band .u64 (Bw.shr .u64 q (IntKind.u64.wrap (band .i64 a1 63))) 1 = 1)))
 else none
 else
 if (Bw.shr .i64 a1 6) = 2 then
 if (0 : Int) ≤ IntKind.u64.wrap (band .i64 a1 63) then
 some (.inl (decide (band .u64 (Bw.shr .u64 u (IntKind.u64.wrap (band .i64 a1 63))) 1 = 1)))
 else none
 else
 if (0 : Int) ≤ IntKind.u64.wrap (band .i64 a1 63) then
 some (.inl (decide (band .u64 (Bw.shr .u64 x (IntKind.u64.wrap (band .i64 a1 63))) 1 = 1)))
 else none
 else none
 else
 some (.inl false)) (fun (D : Bool) =>
 some D))
theorem Q144.callee : Callee Tryz.prog 18 := ⟨_, Tryz.func18, by kernel_rfl, by kernel_rfl⟩
theorem Q144.spec {u x C D a1 : Int} {r : Bool} (j : Q144.f u x C D a1 = some r) :
 Spec Tryz.prog 18 [.agg #[.int .u64 u, .int .u64 x, .int .u64 C, .int .u64 D], i6 a1] R (Fr) (fun v l' => v = .bool r ∧ Fr = l') := by
 refine Spec.of Tryz.func18 rfl rfl ?_; unfold Q144.f at j; have j := brun j; refine At.seq (At.region ?_); refine At.box rfl rfl (cs := [.int .u64 u, .int .u64 x, .int .u64 C, .int .u64 D]) rfl rfl (fun M => ?_); refine At.run 1 rfl (nT (sR 3 rfl ?_)); obtain ⟨Z, a0, a9, j⟩ := bjoin j; let T2 : HProp := pc M [.int .u64 u, .int .u64 x, .int .u64 C, .int .u64 D] 35; refine At.joinO 3 (X := Bool) (fun E => [(1, i6 a1), (2, bp M), (10, .bool E)]) (fun E => T2 :: Fr) (fun E => Z (.inl E) = some r) ?_ (fun N => ?_)
 ·rintro E j; have j := (a0 _).symm.trans j
  ·refine At.run 1 rfl ?_; obtain ⟨a2, a3, b2, j⟩ := bjoin j; refine At.joinO 11 (X := Bool) (fun G => [(22, .bool G)]) (fun G => T2 :: Fr) (fun G => a2 (.inl G) = some r) ?_ (fun I => ?_)
   ·rintro G j; have j := (a3 _).symm.trans j
    ·refine At.run 1 rfl (nT (At.ret (At.drop .z ?_))); cases bret j; exact At.res (.inl rfl) rfl rfl ⟨rfl, rfl⟩
   ··rcases bite j with ⟨J, j⟩ | ⟨J, j⟩
     ··refine At.know (t := 11) rfl J ?_
       refine At.run 1 rfl (At.y (Y.shr rfl rfl (by decide)) rfl rfl rfl ?_); obtain ⟨p, j⟩ := bnone j; rcases bite j with ⟨O, j⟩ | ⟨O, j⟩
       ··refine At.y (Y.ixArrK rfl rfl rfl rfl rfl p.1 p.2 (q := 0) (off := 0) O rfl) rfl rfl rfl ?_
         refine At.y (Y.load rfl rfl .z rfl rfl rfl) rfl rfl rfl (At.run 3 rfl ?_); obtain ⟨a4, j⟩ := bnone j; refine At.y (Y.shr rfl rfl a4) rfl rfl rfl (At.run 3 rfl ?_); exact At.of (I (decide (band .u64 (Bw.shr .u64 u (IntKind.u64.wrap (band .i64 a1 63))) 1 = 1)) j) ⟨rfl, trivial⟩
       ··rcases bite j with ⟨U, j⟩ | ⟨U, j⟩
         ··refine At.y (Y.ixArrK rfl rfl rfl rfl rfl p.1 p.2 (q := 1) (off := 1) U rfl) rfl rfl rfl ?_
           refine At.y (Y.load rfl rfl .z rfl rfl rfl) rfl rfl rfl (At.run 3 rfl ?_); obtain ⟨a5, j⟩ := bnone j; refine At.y (Y.shr rfl rfl a5) rfl rfl rfl (At.run 3 rfl ?_); exact At.of (I (decide (band .u64 (Bw.shr .u64 x (IntKind.u64.wrap (band .i64 a1 63))) 1 = 1)) j) ⟨rfl, trivial⟩
         ··rcases bite j with ⟨V, j⟩ | ⟨V, j⟩
           ··refine At.y (Y.ixArrK rfl rfl rfl rfl rfl p.1 p.2 (q := 2) (off := 2) V rfl) rfl rfl rfl ?_
             refine At.y (Y.load rfl rfl .z rfl rfl rfl) rfl rfl rfl (At.run 3 rfl ?_); obtain ⟨a6, j⟩ := bnone j; refine At.y (Y.shr rfl rfl a6) rfl rfl rfl (At.run 3 rfl ?_); exact At.of (I (decide (band .u64 (Bw.shr .u64 C (IntKind.u64.wrap (band .i64 a1 63))) 1 = 1)) j) ⟨rfl, trivial⟩
           ··have a7 : (Bw.shr .i64 a1 6) = 3 := by have h1_ := p; omega
             refine At.y (Y.ixArrK rfl rfl rfl rfl rfl p.1 p.2 (q := 3) (off := 3) a7 rfl) rfl rfl rfl (At.y (Y.load rfl rfl .z rfl rfl rfl) rfl rfl rfl (At.run 3 rfl ?_)); obtain ⟨a8, j⟩ := bnone j; refine At.y (Y.shr rfl rfl a8) rfl rfl rfl (At.run 3 rfl ?_); exact At.of (I (decide (band .u64 (Bw.shr .u64 D (IntKind.u64.wrap (band .i64 a1 63))) 1 = 1)) j) ⟨rfl, trivial⟩
     ··refine At.know (t := 11) rfl (bn J) ?_
       refine At.run 11 rfl ?_; exact At.of (I false j) ⟨rfl, trivial⟩
 ··rcases bite j with ⟨L, j⟩ | ⟨L, j⟩
   ··refine At.know (t := 7) rfl (decide_eq_true L) ?_
     refine At.run 3 rfl ?_; exact At.of (N (decide (a1 < 256)) j) ⟨rfl, rfl, rfl, trivial⟩
   ··refine At.know (t := 7) rfl (decide_eq_false L) ?_
     refine At.run 3 rfl ?_; exact At.of (N false j) ⟨rfl, rfl, rfl, trivial⟩

end Go.Bw
