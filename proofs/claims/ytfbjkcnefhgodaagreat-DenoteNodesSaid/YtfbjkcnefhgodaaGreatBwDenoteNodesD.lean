/- DenoteNodes, part 4: walks and plain laws. Conditions: none. -/
import Derived.Test.YtfbjkcnefhgodaaGreatProg
import Derived.Deep.QuietTactic
import Derived.Test.YtfbjkcnefhgodaaGreatBwDenoteNodesC
set_option linter.unusedVariables false
set_option linter.unusedSimpArgs false
set_option linter.unusedSectionVars false
set_option maxRecDepth 100000
set_option maxHeartbeats 2000000
namespace Go.Bw
open Go Go.RowKit Go.Proofs
variable {R : Res} {Fr : List HProp} {A0 A0_0 A0_2 : Option Addr} {n0 c0 b0 n0_0 c0_0 n0_2 c0_2 b1 : Nat}
structure Q2 where
 Kind : Int
 A : Int
 B : Int
 Name : Bs
 At : Int
deriving Inhabited, DecidableEq
def Q2.fl : Fl Q2 := ⟨5, fun x => [i6 x.Kind, i6 x.A, i6 x.B, .string ⟨(x.Name).toArray⟩, i6 x.At], fun _ => rfl, fun x u hu => by simp at hu; rcases hu with rfl | rfl | rfl | rfl | rfl <;> rfl, by decide⟩
noncomputable def Q115.f (p q : Int) (u : Bs) (x : Int) : Option Bool :=
 some (decide (p = 1))
theorem Q115.callee : Callee Tryz.prog 51 := ⟨_, Tryz.func51, by kernel_rfl, by kernel_rfl⟩
theorem Q115.spec {p q u : Int} {x : Bs} {r : Bool} (j : Q115.f p q x u = some r) :
 Spec Tryz.prog 51 [.agg #[i6 p, i6 q, .string ⟨(x).toArray⟩, i6 u]] R (Fr) (fun v l' => v = .bool r ∧ Fr = l') := by
 refine Spec.of Tryz.func51 rfl rfl ?_; unfold Q115.f at j; have j := brun j; refine At.seq (At.region ?_); refine At.box rfl rfl (cs := [i6 p, i6 q, .string ⟨(x).toArray⟩, i6 u]) rfl rfl (fun D => ?_); refine At.run 1 rfl (nT (sR 1 rfl (At.y (Y.load rfl rfl .z rfl rfl rfl) rfl rfl rfl (At.run 2 rfl ?_)))); refine nT (At.ret (At.drop .z ?_)); cases bret j; exact At.res (.inl rfl) rfl rfl ⟨rfl, rfl⟩

noncomputable def Q81.l0b (a0 : List Q1) (p : Int) : Option ((Int) ⊕ ((Unit) ⊕ (Int))) :=
 if p < (a0.length : Int) then
 if (0 : Int) ≤ p ∧ p < (a0.length : Int) then
 (Q115.f ((gt a0 p).Kind) ((gt a0 p).At) ((gt a0 p).Text) ((gt a0 p).Number)).bind fun q =>
 if q = true then
 upL (some p)
 else
 nx (IntKind.i64.wrap (p + 1))
 else none
 else
 dn (.inl ())
noncomputable def Q81.l0 (a0 : List Q1) (p : Int) : Option ((Unit) ⊕ (Int)) := iter (fun t_ : Int => Q81.l0b a0 t_) p
noncomputable def Q81.f (a0 : List Q1) : Option Int :=
 jn (Q81.l0 a0 0) (fun (_ : Unit) =>
 some (-1))
theorem Q81.callee : Callee Tryz.prog 98 := ⟨_, Tryz.func98, by kernel_rfl, by kernel_rfl⟩
theorem Q81.spec {a0 : List Q1} (hr0 : RdS Q1.fl.rep R.heap A0 a0) (hn0 : a0.length = n0) (hc0 : n0 ≤ c0) {r : Int} (j : Q81.f a0 = some r) :
 Spec Tryz.prog 98 [.slice A0 n0 c0, .func (.func 51) #[] #[]] R (Fr) (fun v l' => v = i6 r ∧ Fr = l') := by
 subst hn0; refine Spec.of Tryz.func98 rfl rfl ?_; unfold Q81.f at j; have j := brun j; refine sR 1 rfl (nT (At.seq (At.seq (At.region ?_)))); refine At.run 3 rfl (nT ?_); refine At.block ?_; obtain ⟨O, U, V, j⟩ := bjoin j; obtain ⟨L, D, M⟩ := bsome j; clear j; unfold Q81.l0 at D; obtain ⟨G, u⟩ := Q17.1 D; clear D; refine At.loopJ (X := Int) (Y := Unit) (e0 := 0) (fun p => [(0, .slice A0 a0.length c0), (1, .func (.func 51) #[] #[]), (7, i6 (a0.length : Int)), (8, i6 p)]) (fun p => Fr) (fun m_ => fun p => iterN (fun t_ : Int => Q81.l0b a0 t_) m_ p = some L) G 0 u (fun _ => []) (fun _ => Fr) (fun _ => O (.inl ()) = some r) (fun a w e hs => ⟨e.sub ⟨rfl, rfl, rfl, rfl, trivial⟩, (by exact hs)⟩) ?_ (fun Z => ?_)
 ·rintro _ j; have j := (U _).symm.trans j
  ·refine At.ibx ?_; refine At.thn (sR 1 rfl (nT (At.ret ?_))); cases bret j; exact At.res (.inl rfl) rfl rfl ⟨rfl, rfl⟩
 ·clear u G; rintro G p u; obtain ⟨a1, f_, a2, hf_, j⟩ := bit u; clear u; have j : (Q81.l0b a0 p).bind _ = some L := j; unfold Q81.l0b at j
  ·refine sR 1 rfl (nT (At.seq ?_)); rcases bite j with ⟨I, j⟩ | ⟨I, j⟩
   ··refine At.condT rfl (decide_eq_true I) ?_
     refine At.skip (At.thn (At.seq ?_)); refine At.block ?_; refine sR 2 rfl (nT (sR 3 rfl ?_)); obtain ⟨x, j⟩ := bnone j; refine At.y (Y.ixRd hr0 rfl rfl rfl rfl rfl rfl rfl x.1 x.2) rfl rfl rfl (At.y (Y.ldFl hr0 rfl (q := 0) rfl rfl x.1 x.2 rfl rfl rfl) rfl rfl rfl ?_); obtain ⟨a4, a3, j⟩ := bbind j; refine At.call rfl Q115.callee rfl rfl rfl (Q115.spec a3) ?_; rintro _ _ ⟨rfl, rfl⟩; refine nT ?_; rcases bite j with ⟨J, j⟩ | ⟨J, j⟩
     ··refine At.condT rfl J ?_
       refine sR 2 rfl (nT (At.ret ?_)); refine At.ibr ?_; refine At.thr ?_; have j := bupL V M j; refine At.thr ?_; refine At.ibr ?_; refine At.thr ?_; cases bret j; exact At.res (.inl rfl) rfl rfl ⟨rfl, rfl⟩
     ··refine At.condF rfl (bn J) ?_
       refine At.skip ?_; refine At.ibn ?_; refine At.thn (At.region (At.run 2 rfl (At.nil ?_))); have j := bnx hf_ j; exact fun a w e hs => ⟨a1, (IntKind.i64.wrap (p + 1)), a2, j, e.sub ⟨rfl, rfl, rfl, rfl, trivial⟩, hs⟩
   ··refine At.condF rfl (decide_eq_false I) ?_
     refine At.exit ?_; refine At.the ?_; refine At.the ?_; exact fun a w e hs => Z () (bdn j M) a w (e.sub trivial) hs

noncomputable def Q75.l0b (a0 q : List Q1) (u p : Int) : Option (((List Q1) × Int × Int) ⊕ (((List Q1) × Int) ⊕ ((List Q1)))) :=
 if p < (a0.length : Int) then
 jn (
 if (0 : Int) ≤ p ∧ p < (a0.length : Int) then
 (Q115.f ((gt q p).Kind) ((gt q p).At) ((gt q p).Text) ((gt q p).Number)).bind fun x =>
 if x = true then
 some (.inl (q, u))
 else
 if (0 : Int) ≤ u ∧ u < (a0.length : Int) then
 some (.inl ((st q u (⟨(gt q p).Kind, (gt q p).At, (gt q p).Text, (gt q p).Number⟩ : Q1)), IntKind.i64.wrap (u + 1)))
 else none
 else none) (fun (s_ : (List Q1) × Int) =>
 nx (s_.1, s_.2, IntKind.i64.wrap (p + 1)))
 else
 dn (.inl (q, u))
noncomputable def Q75.l0 (a0 p : List Q1) (q u : Int) : Option (((List Q1) × Int) ⊕ ((List Q1))) := iter (fun t_ : (List Q1) × Int × Int => Q75.l0b a0 t_.1 t_.2.1 t_.2.2) (p, q, u)
noncomputable def Q75.f (a0 : List Q1) : Option (List Q1) :=
 (Q81.f a0).bind fun p =>
 if p = (-1) then
 some a0
 else
 jn (Q75.l0 a0 a0 p (IntKind.i64.wrap (p + 1))) (fun (s_ : (List Q1) × Int) =>
 if (0 : Int) ≤ s_.2 ∧ s_.2 ≤ (a0.length : Int) then
 some ((s_.1.take s_.2.toNat ++ List.replicate (a0.length - s_.2.toNat) (⟨(0 : Int), (0 : Int), ([] : Bs), (0 : Int)⟩ : Q1)).take s_.2.toNat)
 else none)
theorem Q75.callee : Callee Tryz.prog 50 := ⟨_, Tryz.func50, by kernel_rfl, by kernel_rfl⟩
theorem Q75.spec {a0 : List Q1} (hn0 : a0.length = n0) {r : (List Q1)} (j : Q75.f a0 = some r) :
 Spec Tryz.prog 50 [.slice A0 n0 c0, .func (.func 51) #[] #[]] R (row Q1.fl 101 A0 n0 c0 a0 :: Fr) (fun v l' => ∃ (L : Nat), v = .slice A0 L c0 ∧ row Q1.fl 101 A0 L c0 r :: Fr = l' ∧ r.length = L) := by
 subst hn0; refine Spec.of Tryz.func50 rfl rfl ?_; unfold Q75.f at j; have j := brun j; refine sR 1 rfl (nT (sR 2 rfl ?_)); refine At.freeze .z fun c8 a6 a7 a8 c9 a3 => ?_; obtain ⟨a4, a9, j⟩ := bbind j; refine At.call rfl Q81.callee rfl rfl rfl (Q81.spec a6 a7 a8 a9) ?_; rintro _ _ ⟨rfl, rfl⟩; refine At.run 1 rfl (nT (At.seq (sR 2 rfl (At.nil ?_)))); refine At.thn ?_; rcases bite j with ⟨M, j⟩ | ⟨M, j⟩
 ··refine At.condT rfl (decide_eq_true M) ?_
   refine sR 2 rfl (nT (At.ret (At.thr ?_))); refine At.thaw a3 ?_; cases bret j; exact At.res (.inl rfl) rfl rfl ⟨a0.length, rfl, rfl, rfl⟩
 ··refine At.condF rfl (decide_eq_false M) ?_
   refine At.skip (At.thn (At.seq (sR 3 rfl (nT ?_)))); refine At.block ?_; refine At.thaw a3 ?_; obtain ⟨b2, b3, d0, j⟩ := bjoin j; obtain ⟨O, U, b4⟩ := bsome j; clear j; unfold Q75.l0 at U; obtain ⟨V, D⟩ := Q17.1 U; clear U; refine At.loopJ (X := (List Q1) × Int × Int) (Y := (List Q1) × Int) (e0 := 0) (fun s_ => [(0, .slice A0 a0.length c0), (1, .func (.func 51) #[] #[]), (5, i6 s_.2.1), (6, i6 s_.2.2)]) (fun s_ => row Q1.fl 101 A0 a0.length c0 s_.1 :: Fr) (fun m_ => fun s_ => iterN (fun t_ : (List Q1) × Int × Int => Q75.l0b a0 t_.1 t_.2.1 t_.2.2) m_ (s_.1, s_.2.1, s_.2.2) = some O) V (a0, a4, IntKind.i64.wrap (a4 + 1)) D (fun s_ => [(0, .slice A0 a0.length c0), (5, i6 s_.2)]) (fun s_ => row Q1.fl 101 A0 a0.length c0 s_.1 :: Fr) (fun s_ => b2 (.inl (s_.1, s_.2)) = some r) (fun a w e hs => ⟨e.sub ⟨rfl, rfl, rfl, rfl, trivial⟩, (by exact hs)⟩) ?_ (fun b5 => ?_)
   ·rintro ⟨b6, Z⟩ j; have j := (b3 _).symm.trans j
    ·refine At.ibx ?_; refine At.thn (sR 2 rfl ?_); obtain ⟨x, j⟩ := bnone j; refine At.y (Y.slSuf .z rfl rfl rfl rfl rfl rfl x.1 x.2) rfl rfl rfl ?_; refine At.clearSuf (z := (⟨(0 : Int), (0 : Int), ([] : Bs), (0 : Int)⟩ : Q1)) rfl .z rfl rfl rfl rfl rfl x.1 x.2 ?_; refine nT (sR 2 rfl ?_); refine At.cut rfl .z rfl rfl rfl rfl rfl x.1 x.2 rfl ?_; refine At.run 1 rfl (nT (At.ret ?_)); cases bret j; exact At.res (.inl rfl) rfl rfl ⟨((b6.take Z.toNat ++ List.replicate (a0.length - Z.toNat) (⟨(0 : Int), (0 : Int), ([] : Bs), (0 : Int)⟩ : Q1)).take Z.toNat).length, rfl, rfl, rfl⟩
   ·clear D V; rintro V ⟨p, G, u⟩ D; obtain ⟨b7, f_, b8, hf_, j⟩ := bit D; clear D; have j : (Q75.l0b a0 p G u).bind _ = some O := j; unfold Q75.l0b at j
    ·refine At.seq (sR 4 rfl (nT ?_)); rcases bite j with ⟨a1, j⟩ | ⟨a1, j⟩
     ··refine At.condT rfl (decide_eq_true a1) ?_
       refine At.skip (At.thn (At.seq ?_)); obtain ⟨b9, c4, d1, j⟩ := bjoin j; refine At.join (X := (List Q1) × Int) (fun s_ => [(0, .slice A0 a0.length c0), (1, .func (.func 51) #[] #[]), (5, i6 s_.2), (6, i6 u)]) (fun s_ => row Q1.fl 101 A0 a0.length c0 s_.1 :: Fr) (fun s_ => b9 (.inl (s_.1, s_.2)) = some O) ?_ (fun a5 => ?_)
       ·rintro ⟨c5, c6⟩ j; have j := (c4 _).symm.trans j
        ·refine At.region (At.run 3 rfl (At.nil ?_)); have j := bnx hf_ j; exact fun a w e hs => ⟨b7, (c5, c6, IntKind.i64.wrap (u + 1)), b8, j, e.sub ⟨rfl, rfl, rfl, rfl, trivial⟩, hs⟩
       ··refine At.block ?_
         refine sR 2 rfl ?_; obtain ⟨I, j⟩ := bnone j; refine At.y (Y.ix .z rfl rfl rfl rfl rfl rfl I.1 I.2) rfl rfl rfl (At.y (Y.ld .z (q := 0) rfl rfl I.1 I.2 rfl rfl rfl) rfl rfl rfl ?_); refine At.alloc rfl rfl rfl (fun d2 => ?_); refine At.store rfl rfl rfl rfl .z rfl rfl rfl (.c (.c (.c (.c .n)))) ?_; refine nT (sR 1 rfl (At.y (Y.load rfl rfl .z rfl rfl rfl) rfl rfl rfl ?_)); obtain ⟨d3, c7, j⟩ := bbind j; refine At.call rfl Q115.callee rfl rfl rfl (Q115.spec c7) ?_; rintro _ _ ⟨rfl, rfl⟩; refine At.run 1 rfl (nT ?_); rcases bite j with ⟨a2, j⟩ | ⟨a2, j⟩
         ··refine At.condF rfl (nf a2) ?_
           refine At.skip ?_; refine At.ibn ?_; refine At.thn (At.drop .z ?_); exact fun a w e hs => a5 (p, G) j a w (e.sub ⟨rfl, rfl, rfl, rfl, trivial⟩) hs
         ··refine At.condT rfl (nt (bn a2)) ?_
           refine sR 2 rfl (At.y (Y.load rfl rfl .z rfl rfl rfl) rfl rfl rfl ?_); obtain ⟨J, j⟩ := bnone j; refine At.y (Y.ix (.s .z) rfl rfl rfl rfl rfl rfl J.1 J.2) rfl rfl rfl ?_; refine At.st rfl (.s .z) (q := 0) (z := (⟨(gt p u).Kind, (gt p u).At, (gt p u).Text, (gt p u).Number⟩ : Q1)) rfl rfl rfl J.1 J.2 rfl rfl (.c (.c (.c (.c .n)))) ?_; refine nT (At.region (At.run 3 rfl (At.nil ?_))); refine At.ibn ?_; refine At.thn (At.drop (.s .z) ?_); exact fun a w e hs => a5 ((st p G (⟨(gt p u).Kind, (gt p u).At, (gt p u).Text, (gt p u).Number⟩ : Q1)), IntKind.i64.wrap (G + 1)) j a w (e.sub ⟨rfl, rfl, rfl, rfl, trivial⟩) hs
     ··refine At.condF rfl (decide_eq_false a1) ?_
       refine At.exit ?_; refine At.the ?_; refine At.the ?_; exact fun a w e hs => b5 (p, G) (bdn j b4) a w (e.sub ⟨rfl, rfl, trivial⟩) hs

noncomputable def Q28.f (p : List Q1) (u : Int) (x : List Q2) (a1 : Bs) : Option Bool :=
 if (0 : Int) ≤ 0 ∧ 0 < (p.length : Int) then
 jn (
 if (gt p 0).Kind = 5 then
 some (.inl (bseq ((gt p 0).Text) a1))
 else
 some (.inl false)) (fun (q : Bool) =>
 some q)
 else none
theorem Q28.callee : Callee Tryz.prog 130 := ⟨_, Tryz.func130, by kernel_rfl, by kernel_rfl⟩
theorem Q28.spec {x : List Q1} {G : Int} {u : List Q2} {a1 : Bs} (hr0_0 : RdS Q1.fl.rep R.heap A0_0 x) (hn0_0 : x.length = n0_0) (hc0_0 : n0_0 ≤ c0_0) (hn0_2 : u.length = n0_2) {r : Bool} (j : Q28.f x G u a1 = some r) :
 Spec Tryz.prog 130 [bp b0, .string ⟨(a1).toArray⟩] R (pc b0 [.slice A0_0 n0_0 c0_0, i6 G, .slice A0_2 n0_2 c0_2] 114 :: row Q2.fl 51 A0_2 n0_2 c0_2 u :: Fr) (fun v l' => v = .bool r ∧ pc b0 [.slice A0_0 n0_0 c0_0, i6 G, .slice A0_2 n0_2 c0_2] 114 :: row Q2.fl 51 A0_2 n0_2 c0_2 u :: Fr = l') := by
 subst hn0_0; subst hn0_2; refine Spec.of Tryz.func130 rfl rfl ?_; unfold Q28.f at j; have j := brun j; refine sR 1 rfl (nT (sR 3 rfl ?_)); refine At.y (Y.load rfl rfl .z rfl rfl rfl) rfl rfl rfl ?_; obtain ⟨p, j⟩ := bnone j; refine At.y (Y.ixRd hr0_0 rfl rfl rfl rfl rfl rfl rfl p.1 p.2) rfl rfl rfl ?_; refine At.y (Y.fa (RdS.some_ hr0_0 rfl p.1 p.2) rfl rfl rfl rfl rfl rfl) rfl rfl rfl ?_; refine At.y (Y.ldFl hr0_0 rfl (q := 0) rfl rfl p.1 p.2 rfl rfl rfl) rfl rfl rfl (At.run 2 rfl ?_); obtain ⟨L, M, O, j⟩ := bjoin j; let T1 : HProp := pc b0 [.slice A0_0 x.length c0_0, i6 G, .slice A0_2 u.length c0_2] 114; refine At.joinO 10 (X := Bool) (fun D => [(23, .bool D)]) (fun D => T1 :: row Q2.fl 51 A0_2 u.length c0_2 u :: Fr) (fun D => L (.inl D) = some r) ?_ (fun J => ?_)
 ·rintro D j; have j := (M _).symm.trans j
  ·refine At.run 1 rfl (nT (At.ret ?_)); cases bret j; exact At.res (.inl rfl) rfl rfl ⟨rfl, rfl⟩
 ··rcases bite j with ⟨I, j⟩ | ⟨I, j⟩
   ··refine At.know (t := 13) rfl (decide_eq_true I) ?_
     refine At.run 3 rfl (At.y (Y.load rfl rfl .z rfl rfl rfl) rfl rfl rfl (At.y (Y.ixRd hr0_0 rfl rfl rfl rfl rfl rfl rfl p.1 p.2) rfl rfl rfl ?_)); refine At.y (Y.fa (RdS.some_ hr0_0 rfl p.1 p.2) rfl rfl rfl rfl rfl rfl) rfl rfl rfl ?_; refine At.y (Y.ldFl hr0_0 rfl (q := 2) rfl rfl p.1 p.2 rfl rfl rfl) rfl rfl rfl (At.run 3 rfl ?_); exact At.of (J (bseq ((gt x 0).Text) a1) j) ⟨rfl, trivial⟩
   ··refine At.know (t := 13) rfl (decide_eq_false I) ?_
     refine At.run 10 rfl ?_; exact At.of (J false j) ⟨rfl, trivial⟩

noncomputable def Q53.f (p : List Q1) (q : Int) (u : List Q2) : Option ((List Q1) × Int × Int × Bs × Int) :=
 if (0 : Int) ≤ 0 ∧ 0 < (p.length : Int) then
 if (0 : Int) ≤ 1 ∧ 1 ≤ (p.length : Int) then
 some ((p.drop (1 : Int).toNat), (gt p 0).Kind, (gt p 0).At, (gt p 0).Text, (gt p 0).Number)
 else none
 else none
theorem Q53.callee : Callee Tryz.prog 179 := ⟨_, Tryz.func179, by kernel_rfl, by kernel_rfl⟩
theorem Q53.spec {p : List Q1} {D : Int} {u : List Q2} (hr0_0 : RdS Q1.fl.rep R.heap A0_0 p) (hn0_0 : p.length = n0_0) (hc0_0 : n0_0 ≤ c0_0) (hn0_2 : u.length = n0_2) {r : (List Q1) × Int × Int × Bs × Int} (j : Q53.f p D u = some r) :
 Spec Tryz.prog 179 [bp b0] R (pc b0 [.slice A0_0 n0_0 c0_0, i6 D, .slice A0_2 n0_2 c0_2] 114 :: row Q2.fl 51 A0_2 n0_2 c0_2 u :: Fr) (fun v l' => ∃ (I : Option Addr) (G : Nat) (J : Nat), v = .agg #[i6 r.2.1, i6 r.2.2.1, .string ⟨(r.2.2.2.1).toArray⟩, i6 r.2.2.2.2] ∧ pc b0 [.slice I G J, i6 D, .slice A0_2 n0_2 c0_2] 114 :: row Q2.fl 51 A0_2 n0_2 c0_2 u :: Fr = l' ∧ RdS Q1.fl.rep R.heap I r.1 ∧ r.1.length = G ∧ G ≤ J) := by
 subst hn0_0; subst hn0_2; refine Spec.of Tryz.func179 rfl rfl ?_; unfold Q53.f at j; have j := brun j; refine At.seq (At.region ?_); refine At.alloc rfl rfl rfl (fun X => ?_); refine nT (sR 3 rfl (At.y (Y.load rfl rfl (.s .z) rfl rfl rfl) rfl rfl rfl ?_)); obtain ⟨x, j⟩ := bnone j; refine At.y (Y.ixRd hr0_0 rfl rfl rfl rfl rfl rfl rfl x.1 x.2) rfl rfl rfl (At.y (Y.ldFl hr0_0 rfl (q := 0) rfl rfl x.1 x.2 rfl rfl rfl) rfl rfl rfl ?_); refine At.alloc rfl rfl rfl (fun Z => ?_); refine At.store rfl rfl rfl rfl .z rfl rfl rfl (.c (.c (.c (.c .n)))) ?_; refine nT (sR 4 rfl (At.y (Y.load rfl rfl (.s (.s .z)) rfl rfl rfl) rfl rfl rfl ?_)); obtain ⟨L, j⟩ := bnone j; obtain ⟨M, O, U, V⟩ := Y.slFromAt (P := Tryz.prog) (R := R) rfl hr0_0 hc0_0 L.1 L.2; refine At.y (V rfl rfl rfl rfl rfl rfl) rfl rfl rfl ?_; refine At.run 2 rfl ?_; refine At.store rfl rfl rfl rfl (.s (.s .z)) rfl rfl rfl (.c .n) ?_; refine nT (At.seq (At.region (At.y (Y.load rfl rfl (.s .z) rfl rfl rfl) rfl rfl rfl ?_))); refine At.store rfl rfl rfl rfl (.s (.s .z)) rfl rfl rfl (.c (.c (.c (.c .n)))) ?_; refine nT (At.ret ?_); refine At.resM (.inl rfl) rfl (RV.cell rfl rfl .z rfl rfl rfl RV.nil) ?_; refine At.drop .z (At.drop (.s .z) ?_); cases bret j; exact fun a w e hs => ⟨_, ⟨M, (p.drop (1 : Int).toNat).length, (c0_0 - (1 : Int).toNat), rfl, rfl, O, rfl, U⟩, hs⟩

noncomputable def Q32.f (u : List Q1) (q : Int) (x : List Q2) : Option ((List Q1) × Int × Int × Int × Bs × Int) :=
 if q = 60 then
 if (0 : Int) ≤ 0 ∧ 0 < (u.length : Int) then
 none
 else none
 else
 (Q53.f u (IntKind.i64.wrap (q + 1)) x).bind fun p =>
 some (p.1, IntKind.i64.wrap (q + 1), p.2.1, p.2.2.1, p.2.2.2.1, p.2.2.2.2)
theorem Q32.callee : Callee Tryz.prog 131 := ⟨_, Tryz.func131, by kernel_rfl, by kernel_rfl⟩
theorem Q32.spec {p : List Q1} {I : Int} {x : List Q2} (hr0_0 : RdS Q1.fl.rep R.heap A0_0 p) (hn0_0 : p.length = n0_0) (hc0_0 : n0_0 ≤ c0_0) (hn0_2 : x.length = n0_2) {r : (List Q1) × Int × Int × Int × Bs × Int} (j : Q32.f p I x = some r) :
 Spec Tryz.prog 131 [bp b0] R (pc b0 [.slice A0_0 n0_0 c0_0, i6 I, .slice A0_2 n0_2 c0_2] 114 :: row Q2.fl 51 A0_2 n0_2 c0_2 x :: Fr) (fun v l' => ∃ (J : Option Addr) (D : Nat) (L : Nat), v = .agg #[i6 r.2.2.1, i6 r.2.2.2.1, .string ⟨(r.2.2.2.2.1).toArray⟩, i6 r.2.2.2.2.2] ∧ pc b0 [.slice J D L, i6 r.2.1, .slice A0_2 n0_2 c0_2] 114 :: row Q2.fl 51 A0_2 n0_2 c0_2 x :: Fr = l' ∧ RdS Q1.fl.rep R.heap J r.1 ∧ r.1.length = D ∧ D ≤ L) := by
 subst hn0_0; subst hn0_2; refine Spec.of Tryz.func131 rfl rfl ?_; unfold Q32.f at j; have j := brun j; refine At.seq (At.region ?_); refine At.alloc rfl rfl rfl (fun a0 => ?_); refine nT (At.seq (sR 3 rfl (At.y (Y.load rfl rfl (.s .z) rfl rfl rfl) rfl rfl rfl (At.run 1 rfl ?_)))); refine nT ?_; rcases bite j with ⟨G, j⟩ | ⟨G, j⟩
 ··refine At.condT rfl (decide_eq_true G) ?_
   refine At.region (At.run 3 rfl (At.y (Y.load rfl rfl (.s .z) rfl rfl rfl) rfl rfl rfl ?_)); obtain ⟨u, j⟩ := bnone j; refine At.y (Y.ixRd hr0_0 rfl rfl rfl rfl rfl rfl rfl u.1 u.2) rfl rfl rfl ?_; refine At.y (Y.fa (RdS.some_ hr0_0 rfl u.1 u.2) rfl rfl rfl rfl rfl rfl) rfl rfl rfl ?_; refine At.y (Y.ldFl hr0_0 rfl (q := 1) rfl rfl u.1 u.2 rfl rfl rfl) rfl rfl rfl ?_; refine At.y (Y.build (is := [0, 1]) (xo := [.tmp 14, .const (i6 10)]) (vs := [i6 ((gt p 0).At), i6 10]) (cs := [i6 ((gt p 0).At), i6 10]) rfl rfl rfl rfl rfl rfl) rfl rfl rfl ?_; refine At.y (Y.build (is := [0]) (xo := [.tmp 15]) (vs := [.agg #[i6 ((gt p 0).At), i6 10]]) (cs := [i6 ((gt p 0).At), i6 10]) rfl rfl rfl rfl rfl (by kernel_rfl)) rfl rfl rfl ?_; cases j
 ··refine At.condF rfl (decide_eq_false G) ?_
   refine At.skip (At.thn (sR 3 rfl (At.y (Y.load rfl rfl (.s .z) rfl rfl rfl) rfl rfl rfl (At.run 3 rfl ?_)))); refine At.store rfl rfl rfl rfl (.s .z) rfl rfl rfl (.s (.c .n)) ?_; refine nT (sR 1 rfl (At.f2 (At.f1 ?_))); obtain ⟨M, O, j⟩ := bbind j; refine At.call rfl Q53.callee rfl rfl rfl (Q53.spec hr0_0 rfl hc0_0 rfl O) ?_; rintro _ _ ⟨U, a1, V, rfl, rfl, X, rfl, Z⟩; refine At.store rfl rfl rfl rfl (.s (.s .z)) rfl rfl rfl (.c (.c (.c (.c .n)))) ?_; refine nT (At.ret ?_); refine At.resM (.inl rfl) rfl (RV.cell rfl rfl .z rfl rfl rfl RV.nil) ?_; refine At.drop .z ?_; cases bret j; exact fun a w e hs => ⟨_, ⟨U, M.1.length, V, rfl, rfl, X, rfl, Z⟩, hs⟩

noncomputable def Q98.f (a0 : Bs) : Option Bool :=
 jn (
 if bseq a0 ([116, 116] : Bs) = true then
 some (.inl true)
 else
 some (.inl (bseq a0 ([102, 102] : Bs)))) (fun (p : Bool) =>
 jn (
 if p = true then
 some (.inl true)
 else
 some (.inl (bseq a0 ([109, 117] : Bs)))) (fun (q : Bool) =>
 jn (
 if q = true then
 some (.inl true)
 else
 some (.inl (bseq a0 ([110, 117] : Bs)))) (fun (u : Bool) =>
 some u)))
theorem Q98.callee : Callee Tryz.prog 203 := ⟨_, Tryz.func203, by kernel_rfl, by kernel_rfl⟩
theorem Q98.spec {a0 : Bs} {r : Bool} (j : Q98.f a0 = some r) :
 Spec Tryz.prog 203 [.string ⟨(a0).toArray⟩] R (Fr) (fun v l' => v = .bool r ∧ Fr = l') := by
 refine Spec.of Tryz.func203 rfl rfl ?_; unfold Q98.f at j; have j := brun j; refine sR 1 rfl (nT (sR 3 rfl ?_)); obtain ⟨M, O, a2, j⟩ := bjoin j; refine At.joinO 3 (X := Bool) (fun p => [(0, .string ⟨(a0).toArray⟩), (8, .bool p)]) (fun p => Fr) (fun p => M (.inl p) = some r) ?_ (fun I => ?_)
 ·rintro p j; have j := (O _).symm.trans j
  ·refine At.run 1 rfl ?_; obtain ⟨U, V, a3, j⟩ := bjoin j; refine At.joinO 3 (X := Bool) (fun q => [(0, .string ⟨(a0).toArray⟩), (12, .bool q)]) (fun q => Fr) (fun q => U (.inl q) = some r) ?_ (fun J => ?_)
   ·rintro q j; have j := (V _).symm.trans j
    ·refine At.run 1 rfl ?_; obtain ⟨Z, a1, a4, j⟩ := bjoin j; refine At.joinO 3 (X := Bool) (fun u => [(16, .bool u)]) (fun u => Fr) (fun u => Z (.inl u) = some r) ?_ (fun L => ?_)
     ·rintro u j; have j := (a1 _).symm.trans j
      ·refine At.run 1 rfl (nT (At.ret ?_)); cases bret j; exact At.res (.inl rfl) rfl rfl ⟨rfl, rfl⟩
     ··rcases bite j with ⟨x, j⟩ | ⟨x, j⟩
       ··refine At.know (t := 13) rfl x ?_
         refine At.run 3 rfl ?_; exact At.of (L true j) ⟨rfl, trivial⟩
       ··refine At.know (t := 13) rfl (bn x) ?_
         refine At.run 3 rfl ?_; exact At.of (L (bseq a0 ([110, 117] : Bs)) j) ⟨rfl, trivial⟩
   ··rcases bite j with ⟨D, j⟩ | ⟨D, j⟩
     ··refine At.know (t := 9) rfl D ?_
       refine At.run 3 rfl ?_; exact At.of (J true j) ⟨rfl, rfl, trivial⟩
     ··refine At.know (t := 9) rfl (bn D) ?_
       refine At.run 3 rfl ?_; exact At.of (J (bseq a0 ([109, 117] : Bs)) j) ⟨rfl, rfl, trivial⟩
 ··rcases bite j with ⟨G, j⟩ | ⟨G, j⟩
   ··refine At.know (t := 5) rfl G ?_
     refine At.run 3 rfl ?_; exact At.of (I true j) ⟨rfl, rfl, trivial⟩
   ··refine At.know (t := 5) rfl (bn G) ?_
     refine At.run 3 rfl ?_; exact At.of (I (bseq a0 ([102, 102] : Bs)) j) ⟨rfl, rfl, trivial⟩

noncomputable def Q91.f (p : List Q1) (q : Int) (u : List Q2) (a1 : Bs) : Option (List Q1) :=
 (Q28.f p q u a1).bind fun x =>
 if x = true then
 (Q53.f p q u).bind fun D =>
 some D.1
 else
 none
theorem Q91.callee : Callee Tryz.prog 181 := ⟨_, Tryz.func181, by kernel_rfl, by kernel_rfl⟩
theorem Q91.spec {q : List Q1} {u : Int} {p : List Q2} {a1 : Bs} (hr0_0 : RdS Q1.fl.rep R.heap A0_0 q) (hn0_0 : q.length = n0_0) (hc0_0 : n0_0 ≤ c0_0) (hn0_2 : p.length = n0_2) {r : (List Q1)} (j : Q91.f q u p a1 = some r) :
 Spec Tryz.prog 181 [bp b0, .string ⟨(a1).toArray⟩] R (pc b0 [.slice A0_0 n0_0 c0_0, i6 u, .slice A0_2 n0_2 c0_2] 114 :: row Q2.fl 51 A0_2 n0_2 c0_2 p :: Fr) (fun v l' => ∃ (G : Option Addr) (x : Nat) (I : Nat), v = .tuple #[] ∧ pc b0 [.slice G x I, i6 u, .slice A0_2 n0_2 c0_2] 114 :: row Q2.fl 51 A0_2 n0_2 c0_2 p :: Fr = l' ∧ RdS Q1.fl.rep R.heap G r ∧ r.length = x ∧ x ≤ I) := by
 subst hn0_0; subst hn0_2; refine Spec.of Tryz.func181 rfl rfl ?_; unfold Q91.f at j; have j := brun j; refine At.seq (sR 2 rfl ?_); obtain ⟨Z, J, j⟩ := bbind j; refine At.call rfl Q28.callee rfl rfl rfl (Q28.spec hr0_0 rfl hc0_0 rfl J) ?_; rintro _ _ ⟨rfl, rfl⟩; refine At.run 1 rfl (nT ?_); rcases bite j with ⟨D, j⟩ | ⟨D, j⟩
 ··refine At.condF rfl (nf D) ?_
   refine At.skip (At.thn (At.region (At.run 1 rfl ?_))); obtain ⟨L, M, j⟩ := bbind j; refine At.call rfl Q53.callee rfl rfl rfl (Q53.spec hr0_0 rfl hc0_0 rfl M) ?_; rintro _ _ ⟨O, a0, U, rfl, rfl, V, rfl, X⟩; refine At.nil ?_; cases bret j; exact At.res (.inr rfl) rfl rfl ⟨O, L.1.length, U, rfl, rfl, V, rfl, X⟩
 ··refine At.condT rfl (nt (bn D)) ?_
   refine At.region (At.run 1 rfl ?_); cases j

noncomputable def Q114.f (p : List Q1) (q : Int) (u : List Q2) (a1 : Bs) : Option ((List Q1) × Bs) :=
 (Q28.f p q u ([45] : Bs)).bind fun D =>
 jn (
 if D = true then
 some (.inl false)
 else
 if (0 : Int) ≤ 0 ∧ 0 < (p.length : Int) then
 jn (
 if (gt p 0).Kind = 2 then
 (Q98.f ((gt p 0).Text)).bind fun G =>
 some (.inl G)
 else
 some (.inl true)) (fun (I : Bool) =>
 some (.inl I))
 else none) (fun (J : Bool) =>
 if J = true then
 none
 else
 (Q53.f p q u).bind fun x =>
 (Q91.f x.1 q u a1).bind fun L =>
 some (L, x.2.2.2.1))
theorem Q114.callee : Callee Tryz.prog 180 := ⟨_, Tryz.func180, by kernel_rfl, by kernel_rfl⟩
theorem Q114.spec {G : List Q1} {I : Int} {u : List Q2} {a1 : Bs} (hr0_0 : RdS Q1.fl.rep R.heap A0_0 G) (hn0_0 : G.length = n0_0) (hc0_0 : n0_0 ≤ c0_0) (hn0_2 : u.length = n0_2) {r : (List Q1) × Bs} (j : Q114.f G I u a1 = some r) :
 Spec Tryz.prog 180 [bp b0, .string ⟨(a1).toArray⟩] R (pc b0 [.slice A0_0 n0_0 c0_0, i6 I, .slice A0_2 n0_2 c0_2] 114 :: row Q2.fl 51 A0_2 n0_2 c0_2 u :: Fr) (fun v l' => ∃ (U : Option Addr) (J : Nat) (V : Nat), v = .string ⟨(r.2).toArray⟩ ∧ pc b0 [.slice U J V, i6 I, .slice A0_2 n0_2 c0_2] 114 :: row Q2.fl 51 A0_2 n0_2 c0_2 u :: Fr = l' ∧ RdS Q1.fl.rep R.heap U r.1 ∧ r.1.length = J ∧ J ≤ V) := by
 subst hn0_0; subst hn0_2; refine Spec.of Tryz.func180 rfl rfl ?_; unfold Q114.f at j; have j := brun j; refine sR 1 rfl (nT (At.seq (At.seq (At.region ?_)))); refine At.run 1 rfl ?_; obtain ⟨c4, a2, j⟩ := bbind j; refine At.call rfl Q28.callee rfl rfl rfl (Q28.spec hr0_0 rfl hc0_0 rfl a2) ?_; rintro _ _ ⟨rfl, rfl⟩; refine At.run 2 rfl ?_; obtain ⟨a3, a4, c5, j⟩ := bjoin j; let T2 : HProp := pc b0 [.slice A0_0 G.length c0_0, i6 I, .slice A0_2 u.length c0_2] 114; refine At.joinO 19 (X := Bool) (fun D => [(0, bp b0), (1, .string ⟨(a1).toArray⟩), (28, .bool D)]) (fun D => T2 :: row Q2.fl 51 A0_2 u.length c0_2 u :: Fr) (fun D => a3 (.inl D) = some r) ?_ (fun Z => ?_)
 ·rintro D j; have j := (a4 _).symm.trans j
  ·refine nT ?_; rcases bite j with ⟨L, j⟩ | ⟨L, j⟩
   ··refine At.condT rfl L ?_
     refine At.region (At.run 1 rfl ?_); cases j
   ··refine At.condF rfl (bn L) ?_
     refine At.skip (At.thn (sR 1 rfl ?_)); obtain ⟨c6, a5, j⟩ := bbind j; refine At.call rfl Q53.callee rfl rfl rfl (Q53.spec hr0_0 rfl hc0_0 rfl a5) ?_; rintro _ _ ⟨c7, c8, c9, rfl, rfl, a6, rfl, a7⟩; refine At.run 2 rfl (nT (sR 2 rfl ?_)); obtain ⟨a8, a9, j⟩ := bbind j; refine At.call rfl Q91.callee rfl rfl rfl (Q91.spec a6 rfl a7 rfl a9) ?_; rintro _ _ ⟨b2, d0, b3, rfl, rfl, b4, rfl, b5⟩; refine nT (sR 2 rfl (nT (At.ret ?_))); cases bret j; exact At.res (.inl rfl) rfl rfl ⟨b2, a8.length, b3, rfl, rfl, b4, rfl, b5⟩
 ··rcases bite j with ⟨M, j⟩ | ⟨M, j⟩
   ··refine At.know (t := 9) rfl (nf M) ?_
     refine At.run 19 rfl ?_; exact At.of (Z false j) ⟨rfl, rfl, rfl, trivial⟩
   ··refine At.know (t := 9) rfl (nt (bn M)) ?_
     refine At.run 3 rfl (At.y (Y.load rfl rfl .z rfl rfl rfl) rfl rfl rfl ?_); obtain ⟨p, j⟩ := bnone j; refine At.y (Y.ixRd hr0_0 rfl rfl rfl rfl rfl rfl rfl p.1 p.2) rfl rfl rfl ?_; refine At.y (Y.fa (RdS.some_ hr0_0 rfl p.1 p.2) rfl rfl rfl rfl rfl rfl) rfl rfl rfl ?_; refine At.y (Y.ldFl hr0_0 rfl (q := 0) rfl rfl p.1 p.2 rfl rfl rfl) rfl rfl rfl (At.run 2 rfl ?_); obtain ⟨b6, b7, d1, j⟩ := bjoin j; refine At.joinO 9 (X := Bool) (fun x => [(0, bp b0), (1, .string ⟨(a1).toArray⟩), (9, .bool true), (27, .bool x)]) (fun x => T2 :: row Q2.fl 51 A0_2 u.length c0_2 u :: Fr) (fun x => b6 (.inl x) = some r) ?_ (fun a0 => ?_)
     ·rintro x j; have j := (b7 _).symm.trans j
      ·refine At.run 1 rfl ?_; exact At.of (Z x j) ⟨rfl, rfl, rfl, trivial⟩
     ··rcases bite j with ⟨O, j⟩ | ⟨O, j⟩
       ··refine At.know (t := 18) rfl (nf (decide_eq_true O)) ?_
         refine At.run 3 rfl (At.y (Y.load rfl rfl .z rfl rfl rfl) rfl rfl rfl (At.y (Y.ixRd hr0_0 rfl rfl rfl rfl rfl rfl rfl p.1 p.2) rfl rfl rfl ?_)); refine At.y (Y.fa (RdS.some_ hr0_0 rfl p.1 p.2) rfl rfl rfl rfl rfl rfl) rfl rfl rfl ?_; refine At.y (Y.ldFl hr0_0 rfl (q := 2) rfl rfl p.1 p.2 rfl rfl rfl) rfl rfl rfl ?_; obtain ⟨b8, b9, j⟩ := bbind j; refine At.call rfl Q98.callee rfl rfl rfl (Q98.spec b9) ?_; rintro _ _ ⟨rfl, rfl⟩; refine At.run 1 rfl ?_; exact At.of (a0 b8 j) ⟨rfl, rfl, rfl, rfl, trivial⟩
       ··refine At.know (t := 18) rfl (nt (decide_eq_false O)) ?_
         refine At.run 9 rfl ?_; exact At.of (a0 true j) ⟨rfl, rfl, rfl, rfl, trivial⟩

noncomputable def Q22.f (I : List Q1) (J : Int) (p : List Q2) (q u x : Int) (D : Bs) (G : Int) : Option ((List Q2) × Int) :=
 if (p.length + ([(⟨q, u, x, D, G⟩ : Q2)] : List Q2).length) * 48 ≤ 140737488355328 then
 some ((p ++ ([(⟨q, u, x, D, G⟩ : Q2)] : List Q2)), IntKind.i64.wrap (((p ++ ([(⟨q, u, x, D, G⟩ : Q2)] : List Q2)).length : Int) - 1))
 else none
theorem Q22.callee : Callee Tryz.prog 132 := ⟨_, Tryz.func132, by kernel_rfl, by kernel_rfl⟩
theorem Q22.spec {I : List Q1} {J p q u x : Int} {G : List Q2} {D : Bs} (hr0_0 : RdS Q1.fl.rep R.heap A0_0 I) (hn0_0 : I.length = n0_0) (hc0_0 : n0_0 ≤ c0_0) (hn0_2 : G.length = n0_2) {r : (List Q2) × Int} (j : Q22.f I J G p q u D x = some r) :
 Spec Tryz.prog 132 [bp b0, .agg #[i6 p, i6 q, i6 u, .string ⟨(D).toArray⟩, i6 x]] R (pc b0 [.slice A0_0 n0_0 c0_0, i6 J, .slice A0_2 n0_2 c0_2] 114 :: row Q2.fl 51 A0_2 n0_2 c0_2 G :: Fr) (fun v l' => ∃ (L : Option Addr) (M : Nat), v = i6 r.2 ∧ pc b0 [.slice A0_0 n0_0 c0_0, i6 J, .slice L ((G ++ ([(⟨p, q, u, D, x⟩ : Q2)] : List Q2)).length) M] 114 :: row Q2.fl 51 L ((G ++ ([(⟨p, q, u, D, x⟩ : Q2)] : List Q2)).length) M r.1 :: Fr = l') := by
 subst hn0_0; subst hn0_2; refine Spec.of Tryz.func132 rfl rfl ?_; unfold Q22.f at j; have j := brun j; refine At.seq (At.region ?_); refine At.box rfl rfl (cs := [i6 p, i6 q, i6 u, .string ⟨(D).toArray⟩, i6 x]) rfl rfl (fun O => ?_); refine At.run 1 rfl (nT (At.seq ?_)); refine At.held [pc O [i6 p, i6 q, i6 u, .string ⟨(D).toArray⟩, i6 x] 51] 11 rfl ?_; refine At.H.pw 0 rfl rfl rfl rfl rfl (.c .z .n) ?_; refine At.H.pw 1 rfl rfl rfl rfl rfl (.c .z .n) ?_; refine At.H.pw 2 rfl rfl rfl rfl rfl (.c .z .n) ?_; refine At.H.pw 3 rfl rfl rfl rfl rfl (.c .z .n) ?_; refine At.H.tw 5 rfl (Y.load rfl rfl .z rfl rfl rfl) rfl rfl rfl (.c .z .n) ?_; obtain ⟨U, j⟩ := bnone j; let T3 : HProp := pc O [i6 p, i6 q, i6 u, .string ⟨(D).toArray⟩, i6 x] 51; refine At.H.joinK (X := (Option Addr) × Nat) (fun s_ => [(0, bp b0)]) (fun s_ => pc b0 [.slice A0_0 I.length c0_0, i6 J, .slice s_.1 ((G ++ ([(⟨p, q, u, D, x⟩ : Q2)] : List Q2)).length) s_.2] 114 :: row Q2.fl 51 s_.1 ((G ++ ([(⟨p, q, u, D, x⟩ : Q2)] : List Q2)).length) s_.2 (G ++ ([(⟨p, q, u, D, x⟩ : Q2)] : List Q2)) :: T3 :: Fr) (fun s_ => True) ?_ (fun V => ?_)
 ·rintro ⟨Z, a0⟩ -
  ·refine At.thn (sR 3 rfl (At.y (Y.load rfl rfl .z rfl rfl rfl) rfl rfl rfl (At.run 3 rfl (nT ?_)))); refine At.ret (At.drop (.s (.s .z)) ?_); cases bret j; exact At.res (.inl rfl) rfl rfl ⟨Z, a0, rfl, rfl⟩
 ·refine At.H.al [4, 6] (Q6 ?_ (Q6 ?_ Q7))
  ··refine At.HO.op rfl ?_
    refine At.y (Y.load rfl rfl (.s .z) rfl rfl rfl) rfl rfl rfl ?_; refine At.HO.back (.c .z .n) ?_; refine At.H.al [6] (Q6 ?_ Q7)
    ··refine At.HO.op rfl ?_
      refine At.lit rfl (xo := [.tmp 10]) (ys := ([(⟨p, q, u, D, x⟩ : Q2)] : List Q2)) Q2.fl rfl rfl rfl rfl rfl rfl rfl rfl rfl rfl rfl (fun a5 a6 => ?_); refine At.HO.back (.c (.s .z) .n) ?_; refine At.H.al [7] (Q6 ?_ Q7)
      ··refine At.HO.op rfl ?_
        refine At.append rfl (.s (.s (.s .z))) (Src.own .z (by simp)) rfl rfl rfl rfl rfl rfl rfl rfl U (by decide) rfl (fun a1 a2 => ?_); refine At.drop (.s .z) ?_; refine At.HO.back (.c (.s .z) .n) ?_; refine At.H.pw 8 rfl rfl rfl rfl rfl (.c (.s .z) .n) ?_; refine At.H.pw 9 rfl rfl rfl rfl rfl (.c (.s .z) .n) ?_; refine At.H.al [10] (Q6 ?_ Q7)
        ··refine At.HO.op rfl ?_
          refine At.store rfl rfl rfl rfl (.s (.s .z)) rfl rfl rfl (.s (.s (.c .n))) ?_; refine At.HO.back (.c (.s (.s .z)) .n) ?_; refine At.H.done (by kernel_rfl) ?_; exact At.of (V (a1, a2) trivial) ⟨rfl, trivial⟩
  ··refine At.HO.op rfl ?_
    refine At.lit rfl (xo := [.tmp 10]) (ys := ([(⟨p, q, u, D, x⟩ : Q2)] : List Q2)) Q2.fl rfl rfl rfl rfl rfl rfl rfl rfl rfl rfl rfl (fun a7 a8 => ?_); refine At.HO.back (.c (.s .z) .n) ?_; refine At.H.al [4] (Q6 ?_ Q7)
    ··refine At.HO.op rfl ?_
      refine At.y (Y.load rfl rfl (.s (.s .z)) rfl rfl rfl) rfl rfl rfl ?_; refine At.HO.back (.c (.s .z) .n) ?_; refine At.H.al [7] (Q6 ?_ Q7)
      ··refine At.HO.op rfl ?_
        refine At.append rfl (.s (.s (.s .z))) (Src.own .z (by simp)) rfl rfl rfl rfl rfl rfl rfl rfl U (by decide) rfl (fun a3 a4 => ?_); refine At.drop (.s .z) ?_; refine At.HO.back (.c (.s .z) .n) ?_; refine At.H.pw 8 rfl rfl rfl rfl rfl (.c (.s .z) .n) ?_; refine At.H.pw 9 rfl rfl rfl rfl rfl (.c (.s .z) .n) ?_; refine At.H.al [10] (Q6 ?_ Q7)
        ··refine At.HO.op rfl ?_
          refine At.store rfl rfl rfl rfl (.s (.s .z)) rfl rfl rfl (.s (.s (.c .n))) ?_; refine At.HO.back (.c (.s (.s .z)) .n) ?_; refine At.H.done (by kernel_rfl) ?_; exact At.of (V (a3, a4) trivial) ⟨rfl, trivial⟩

theorem Q10.callee : Callee Tryz.prog 52 := ⟨_, Tryz.func52, by kernel_rfl, by kernel_rfl⟩
def Q10.SP (self_ : (List Q1) → Int → (List Q2) → Option ((List Q2) × (List Q1) × Int × Int)) : Prop :=
 ∀ (R : Res) (Fr : List HProp) (b0 : Nat) (A0_0 : Option Addr) (n0_0 : Nat) (c0_0 : Nat) (A0_2 : Option Addr) (n0_2 : Nat) (c0_2 : Nat) (a0_0 : List Q1) (a0_1 : Int) (a0_2 : List Q2) (hr0_0 : RdS Q1.fl.rep R.heap A0_0 a0_0) (hn0_0 : a0_0.length = n0_0) (hc0_0 : n0_0 ≤ c0_0) (hn0_2 : a0_2.length = n0_2) {r : (List Q2) × (List Q1) × Int × Int} (j : self_ a0_0 a0_1 a0_2 = some r),
  Spec Tryz.prog 52 [bp b0] R (pc b0 [.slice A0_0 n0_0 c0_0, i6 a0_1, .slice A0_2 n0_2 c0_2] 114 :: row Q2.fl 51 A0_2 n0_2 c0_2 a0_2 :: Fr) (fun v l' => ∃ (w252 : Nat) (w254 : Option Addr) (w255 : Nat) (w256 : Option Addr) (w257 : Nat) (w258 : Nat), v = i6 r.2.2.2 ∧ pc b0 [.slice w256 w257 w258, i6 r.2.2.1, .slice w254 w252 w255] 114 :: row Q2.fl 51 w254 w252 w255 r.1 :: Fr = l' ∧ r.1.length = w252 ∧ RdS Q1.fl.rep R.heap w256 r.2.1 ∧ r.2.1.length = w257 ∧ w257 ≤ w258)
theorem Q23.callee : Callee Tryz.prog 99 := ⟨_, Tryz.func99, by kernel_rfl, by kernel_rfl⟩
def Q23.SP (self_ : (List Q1) → Int → (List Q2) → Bs → Int → Option ((List Q2) × (List Q1) × Int × Int)) : Prop :=
 ∀ (R : Res) (Fr : List HProp) (b0 : Nat) (A0_0 : Option Addr) (n0_0 : Nat) (c0_0 : Nat) (A0_2 : Option Addr) (n0_2 : Nat) (c0_2 : Nat) (a0_0 : List Q1) (a0_1 : Int) (a0_2 : List Q2) (a1 : Bs) (a2 : Int) (hr0_0 : RdS Q1.fl.rep R.heap A0_0 a0_0) (hn0_0 : a0_0.length = n0_0) (hc0_0 : n0_0 ≤ c0_0) (hn0_2 : a0_2.length = n0_2) {r : (List Q2) × (List Q1) × Int × Int} (j : self_ a0_0 a0_1 a0_2 a1 a2 = some r),
  Spec Tryz.prog 99 [bp b0, .string ⟨(a1).toArray⟩, i6 a2, .func (.func 100) #[bp b0] #[]] R (pc b0 [.slice A0_0 n0_0 c0_0, i6 a0_1, .slice A0_2 n0_2 c0_2] 114 :: row Q2.fl 51 A0_2 n0_2 c0_2 a0_2 :: Fr) (fun v l' => ∃ (w252 : Nat) (w254 : Option Addr) (w255 : Nat) (w256 : Option Addr) (w257 : Nat) (w258 : Nat), v = i6 r.2.2.2 ∧ pc b0 [.slice w256 w257 w258, i6 r.2.2.1, .slice w254 w252 w255] 114 :: row Q2.fl 51 w254 w252 w255 r.1 :: Fr = l' ∧ r.1.length = w252 ∧ RdS Q1.fl.rep R.heap w256 r.2.1 ∧ r.2.1.length = w257 ∧ w257 ≤ w258)
theorem Q31.callee : Callee Tryz.prog 100 := ⟨_, Tryz.func100, by kernel_rfl, by kernel_rfl⟩
def Q31.SP (self_ : (List Q1) → Int → (List Q2) → Option ((List Q2) × (List Q1) × Int × Int)) : Prop :=
 ∀ (R : Res) (Fr : List HProp) (b0 : Nat) (A0_0 : Option Addr) (n0_0 : Nat) (c0_0 : Nat) (A0_2 : Option Addr) (n0_2 : Nat) (c0_2 : Nat) (a0_0 : List Q1) (a0_1 : Int) (a0_2 : List Q2) (hr0_0 : RdS Q1.fl.rep R.heap A0_0 a0_0) (hn0_0 : a0_0.length = n0_0) (hc0_0 : n0_0 ≤ c0_0) (hn0_2 : a0_2.length = n0_2) {r : (List Q2) × (List Q1) × Int × Int} (j : self_ a0_0 a0_1 a0_2 = some r),
  Spec Tryz.prog 100 [bp b0] R (pc b0 [.slice A0_0 n0_0 c0_0, i6 a0_1, .slice A0_2 n0_2 c0_2] 114 :: row Q2.fl 51 A0_2 n0_2 c0_2 a0_2 :: Fr) (fun v l' => ∃ (w252 : Nat) (w254 : Option Addr) (w255 : Nat) (w256 : Option Addr) (w257 : Nat) (w258 : Nat), v = i6 r.2.2.2 ∧ pc b0 [.slice w256 w257 w258, i6 r.2.2.1, .slice w254 w252 w255] 114 :: row Q2.fl 51 w254 w252 w255 r.1 :: Fr = l' ∧ r.1.length = w252 ∧ RdS Q1.fl.rep R.heap w256 r.2.1 ∧ r.2.1.length = w257 ∧ w257 ≤ w258)
theorem Q24.callee : Callee Tryz.prog 99 := ⟨_, Tryz.func99, by kernel_rfl, by kernel_rfl⟩
def Q24.SP (self_ : (List Q1) → Int → (List Q2) → Bs → Int → Option ((List Q2) × (List Q1) × Int × Int)) : Prop :=
 ∀ (R : Res) (Fr : List HProp) (b0 : Nat) (A0_0 : Option Addr) (n0_0 : Nat) (c0_0 : Nat) (A0_2 : Option Addr) (n0_2 : Nat) (c0_2 : Nat) (a0_0 : List Q1) (a0_1 : Int) (a0_2 : List Q2) (a1 : Bs) (a2 : Int) (hr0_0 : RdS Q1.fl.rep R.heap A0_0 a0_0) (hn0_0 : a0_0.length = n0_0) (hc0_0 : n0_0 ≤ c0_0) (hn0_2 : a0_2.length = n0_2) {r : (List Q2) × (List Q1) × Int × Int} (j : self_ a0_0 a0_1 a0_2 a1 a2 = some r),
  Spec Tryz.prog 99 [bp b0, .string ⟨(a1).toArray⟩, i6 a2, .func (.func 133) #[bp b0] #[]] R (pc b0 [.slice A0_0 n0_0 c0_0, i6 a0_1, .slice A0_2 n0_2 c0_2] 114 :: row Q2.fl 51 A0_2 n0_2 c0_2 a0_2 :: Fr) (fun v l' => ∃ (w252 : Nat) (w254 : Option Addr) (w255 : Nat) (w256 : Option Addr) (w257 : Nat) (w258 : Nat), v = i6 r.2.2.2 ∧ pc b0 [.slice w256 w257 w258, i6 r.2.2.1, .slice w254 w252 w255] 114 :: row Q2.fl 51 w254 w252 w255 r.1 :: Fr = l' ∧ r.1.length = w252 ∧ RdS Q1.fl.rep R.heap w256 r.2.1 ∧ r.2.1.length = w257 ∧ w257 ≤ w258)
theorem Q27.callee : Callee Tryz.prog 133 := ⟨_, Tryz.func133, by kernel_rfl, by kernel_rfl⟩
def Q27.SP (self_ : (List Q1) → Int → (List Q2) → Option ((List Q2) × (List Q1) × Int × Int)) : Prop :=
 ∀ (R : Res) (Fr : List HProp) (b0 : Nat) (A0_0 : Option Addr) (n0_0 : Nat) (c0_0 : Nat) (A0_2 : Option Addr) (n0_2 : Nat) (c0_2 : Nat) (a0_0 : List Q1) (a0_1 : Int) (a0_2 : List Q2) (hr0_0 : RdS Q1.fl.rep R.heap A0_0 a0_0) (hn0_0 : a0_0.length = n0_0) (hc0_0 : n0_0 ≤ c0_0) (hn0_2 : a0_2.length = n0_2) {r : (List Q2) × (List Q1) × Int × Int} (j : self_ a0_0 a0_1 a0_2 = some r),
  Spec Tryz.prog 133 [bp b0] R (pc b0 [.slice A0_0 n0_0 c0_0, i6 a0_1, .slice A0_2 n0_2 c0_2] 114 :: row Q2.fl 51 A0_2 n0_2 c0_2 a0_2 :: Fr) (fun v l' => ∃ (w252 : Nat) (w254 : Option Addr) (w255 : Nat) (w256 : Option Addr) (w257 : Nat) (w258 : Nat), v = i6 r.2.2.2 ∧ pc b0 [.slice w256 w257 w258, i6 r.2.2.1, .slice w254 w252 w255] 114 :: row Q2.fl 51 w254 w252 w255 r.1 :: Fr = l' ∧ r.1.length = w252 ∧ RdS Q1.fl.rep R.heap w256 r.2.1 ∧ r.2.1.length = w257 ∧ w257 ≤ w258)
theorem Q34.callee : Callee Tryz.prog 182 := ⟨_, Tryz.func182, by kernel_rfl, by kernel_rfl⟩
def Q34.SP (self_ : (List Q1) → Int → (List Q2) → Option ((List Q2) × (List Q1) × Int × Int)) : Prop :=
 ∀ (R : Res) (Fr : List HProp) (b0 : Nat) (A0_0 : Option Addr) (n0_0 : Nat) (c0_0 : Nat) (A0_2 : Option Addr) (n0_2 : Nat) (c0_2 : Nat) (a0_0 : List Q1) (a0_1 : Int) (a0_2 : List Q2) (hr0_0 : RdS Q1.fl.rep R.heap A0_0 a0_0) (hn0_0 : a0_0.length = n0_0) (hc0_0 : n0_0 ≤ c0_0) (hn0_2 : a0_2.length = n0_2) {r : (List Q2) × (List Q1) × Int × Int} (j : self_ a0_0 a0_1 a0_2 = some r),
  Spec Tryz.prog 182 [bp b0] R (pc b0 [.slice A0_0 n0_0 c0_0, i6 a0_1, .slice A0_2 n0_2 c0_2] 114 :: row Q2.fl 51 A0_2 n0_2 c0_2 a0_2 :: Fr) (fun v l' => ∃ (w252 : Nat) (w254 : Option Addr) (w255 : Nat) (w257 : Option Addr) (w258 : Nat) (w259 : Nat), v = i6 r.2.2.2 ∧ pc b0 [.slice w257 w258 w259, i6 r.2.2.1, .slice w254 w252 w255] 114 :: row Q2.fl 51 w254 w252 w255 r.1 :: Fr = l' ∧ r.1.length = w252 ∧ RdS Q1.fl.rep R.heap w257 r.2.1 ∧ r.2.1.length = w258 ∧ w258 ≤ w259)
noncomputable def Q10.g (self_0 : (List Q1) → Int → (List Q2) → Option ((List Q2) × (List Q1) × Int × Int)) (self_1 : (List Q1) → Int → (List Q2) → Bs → Int → Option ((List Q2) × (List Q1) × Int × Int)) (self_2 : (List Q1) → Int → (List Q2) → Option ((List Q2) × (List Q1) × Int × Int)) (self_3 : (List Q1) → Int → (List Q2) → Bs → Int → Option ((List Q2) × (List Q1) × Int × Int)) (self_4 : (List Q1) → Int → (List Q2) → Option ((List Q2) × (List Q1) × Int × Int)) (self_5 : (List Q1) → Int → (List Q2) → Option ((List Q2) × (List Q1) × Int × Int)) (q : List Q1) (u : Int) (x : List Q2) : Option ((List Q2) × (List Q1) × Int × Int) :=
 (self_1 q u x ([124] : Bs) 7).bind fun p =>
 some (p.1, p.2.1, p.2.2.1, p.2.2.2)
noncomputable def Q23.l0b (a1 : Bs) (a2 : Int) (self_2 : (List Q1) → Int → (List Q2) → Option ((List Q2) × (List Q1) × Int × Int)) (q : List Q2) (u : List Q1) (x G : Int) : Option (((List Q2) × (List Q1) × Int × Int) ⊕ (((List Q2) × (List Q1) × Int × Int) ⊕ ((List Q2) × (List Q1) × Int × Int))) :=
 (Q28.f u x q a1).bind fun J =>
 if J = true then
 (Q32.f u x q).bind fun D =>
 (self_2 D.1 D.2.1 q).bind fun p =>
 (Q22.f p.2.1 p.2.2.1 p.1 a2 G p.2.2.2 ([] : Bs) D.2.2.2.1).bind fun I =>
 nx (I.1, p.2.1, p.2.2.1, I.2)
 else
 dn (.inl (q, u, x, G))
noncomputable def Q23.l0 (a1 : Bs) (a2 : Int) (self_2 : (List Q1) → Int → (List Q2) → Option ((List Q2) × (List Q1) × Int × Int)) (p : List Q2) (q : List Q1) (u x : Int) : Option (((List Q2) × (List Q1) × Int × Int) ⊕ ((List Q2) × (List Q1) × Int × Int)) := iter (fun t_ : (List Q2) × (List Q1) × Int × Int => Q23.l0b a1 a2 self_2 t_.1 t_.2.1 t_.2.2.1 t_.2.2.2) (p, q, u, x)
noncomputable def Q23.g (self_0 : (List Q1) → Int → (List Q2) → Option ((List Q2) × (List Q1) × Int × Int)) (self_1 : (List Q1) → Int → (List Q2) → Bs → Int → Option ((List Q2) × (List Q1) × Int × Int)) (self_2 : (List Q1) → Int → (List Q2) → Option ((List Q2) × (List Q1) × Int × Int)) (self_3 : (List Q1) → Int → (List Q2) → Bs → Int → Option ((List Q2) × (List Q1) × Int × Int)) (self_4 : (List Q1) → Int → (List Q2) → Option ((List Q2) × (List Q1) × Int × Int)) (self_5 : (List Q1) → Int → (List Q2) → Option ((List Q2) × (List Q1) × Int × Int)) (q : List Q1) (u : Int) (x : List Q2) (a1 : Bs) (a2 : Int) : Option ((List Q2) × (List Q1) × Int × Int) :=
 (self_2 q u x).bind fun p =>
 jn (Q23.l0 a1 a2 self_2 p.1 p.2.1 p.2.2.1 p.2.2.2) (fun (s_ : (List Q2) × (List Q1) × Int × Int) =>
 some (s_.1, s_.2.1, s_.2.2.1, s_.2.2.2))
noncomputable def Q31.g (self_0 : (List Q1) → Int → (List Q2) → Option ((List Q2) × (List Q1) × Int × Int)) (self_1 : (List Q1) → Int → (List Q2) → Bs → Int → Option ((List Q2) × (List Q1) × Int × Int)) (self_2 : (List Q1) → Int → (List Q2) → Option ((List Q2) × (List Q1) × Int × Int)) (self_3 : (List Q1) → Int → (List Q2) → Bs → Int → Option ((List Q2) × (List Q1) × Int × Int)) (self_4 : (List Q1) → Int → (List Q2) → Option ((List Q2) × (List Q1) × Int × Int)) (self_5 : (List Q1) → Int → (List Q2) → Option ((List Q2) × (List Q1) × Int × Int)) (q : List Q1) (u : Int) (x : List Q2) : Option ((List Q2) × (List Q1) × Int × Int) :=
 (self_3 q u x ([38] : Bs) 6).bind fun p =>
 some (p.1, p.2.1, p.2.2.1, p.2.2.2)
noncomputable def Q24.l0b (a1 : Bs) (a2 : Int) (self_4 : (List Q1) → Int → (List Q2) → Option ((List Q2) × (List Q1) × Int × Int)) (q : List Q2) (u : List Q1) (x G : Int) : Option (((List Q2) × (List Q1) × Int × Int) ⊕ (((List Q2) × (List Q1) × Int × Int) ⊕ ((List Q2) × (List Q1) × Int × Int))) :=
 (Q28.f u x q a1).bind fun J =>
 if J = true then
 (Q32.f u x q).bind fun D =>
 (self_4 D.1 D.2.1 q).bind fun p =>
 (Q22.f p.2.1 p.2.2.1 p.1 a2 G p.2.2.2 ([] : Bs) D.2.2.2.1).bind fun I =>
 nx (I.1, p.2.1, p.2.2.1, I.2)
 else
 dn (.inl (q, u, x, G))
noncomputable def Q24.l0 (a1 : Bs) (a2 : Int) (self_4 : (List Q1) → Int → (List Q2) → Option ((List Q2) × (List Q1) × Int × Int)) (p : List Q2) (q : List Q1) (u x : Int) : Option (((List Q2) × (List Q1) × Int × Int) ⊕ ((List Q2) × (List Q1) × Int × Int)) := iter (fun t_ : (List Q2) × (List Q1) × Int × Int => Q24.l0b a1 a2 self_4 t_.1 t_.2.1 t_.2.2.1 t_.2.2.2) (p, q, u, x)
noncomputable def Q24.g (self_0 : (List Q1) → Int → (List Q2) → Option ((List Q2) × (List Q1) × Int × Int)) (self_1 : (List Q1) → Int → (List Q2) → Bs → Int → Option ((List Q2) × (List Q1) × Int × Int)) (self_2 : (List Q1) → Int → (List Q2) → Option ((List Q2) × (List Q1) × Int × Int)) (self_3 : (List Q1) → Int → (List Q2) → Bs → Int → Option ((List Q2) × (List Q1) × Int × Int)) (self_4 : (List Q1) → Int → (List Q2) → Option ((List Q2) × (List Q1) × Int × Int)) (self_5 : (List Q1) → Int → (List Q2) → Option ((List Q2) × (List Q1) × Int × Int)) (q : List Q1) (u : Int) (x : List Q2) (a1 : Bs) (a2 : Int) : Option ((List Q2) × (List Q1) × Int × Int) :=
 (self_4 q u x).bind fun p =>
 jn (Q24.l0 a1 a2 self_4 p.1 p.2.1 p.2.2.1 p.2.2.2) (fun (s_ : (List Q2) × (List Q1) × Int × Int) =>
 some (s_.1, s_.2.1, s_.2.2.1, s_.2.2.2))
noncomputable def Q27.g (self_0 : (List Q1) → Int → (List Q2) → Option ((List Q2) × (List Q1) × Int × Int)) (self_1 : (List Q1) → Int → (List Q2) → Bs → Int → Option ((List Q2) × (List Q1) × Int × Int)) (self_2 : (List Q1) → Int → (List Q2) → Option ((List Q2) × (List Q1) × Int × Int)) (self_3 : (List Q1) → Int → (List Q2) → Bs → Int → Option ((List Q2) × (List Q1) × Int × Int)) (self_4 : (List Q1) → Int → (List Q2) → Option ((List Q2) × (List Q1) × Int × Int)) (self_5 : (List Q1) → Int → (List Q2) → Option ((List Q2) × (List Q1) × Int × Int)) (q : List Q1) (u : Int) (p : List Q2) : Option ((List Q2) × (List Q1) × Int × Int) :=
 (Q28.f q u p ([126] : Bs)).bind fun a3 =>
 if a3 = true then
 (Q32.f q u p).bind fun U =>
 (self_4 U.1 U.2.1 p).bind fun x =>
 (Q22.f x.2.1 x.2.2.1 x.1 5 x.2.2.2 0 ([] : Bs) U.2.2.2.1).bind fun V =>
 some (V.1, x.2.1, x.2.2.1, V.2)
 else
 (Q28.f q u p ([60] : Bs)).bind fun a4 =>
 if a4 = true then
 (Q32.f q u p).bind fun L =>
 (Q114.f L.1 L.2.1 p ([62] : Bs)).bind fun X =>
 (self_4 X.1 L.2.1 p).bind fun D =>
 (Q22.f D.2.1 D.2.2.1 D.1 8 D.2.2.2 0 X.2 L.2.2.2.1).bind fun Z =>
 some (Z.1, D.2.1, D.2.2.1, Z.2)
 else
 (Q28.f q u p ([91] : Bs)).bind fun a5 =>
 if a5 = true then
 (Q32.f q u p).bind fun M =>
 (Q114.f M.1 M.2.1 p ([93] : Bs)).bind fun a0 =>
 (self_4 a0.1 M.2.1 p).bind fun G =>
 (Q22.f G.2.1 G.2.2.1 G.1 9 G.2.2.2 0 a0.2 M.2.2.2.1).bind fun a1 =>
 some (a1.1, G.2.1, G.2.2.1, a1.2)
 else
 (Q28.f q u p ([40] : Bs)).bind fun a6 =>
 if a6 = true then
 (Q53.f q u p).bind fun a7 =>
 (self_0 a7.1 u p).bind fun I =>
 (Q91.f I.2.1 I.2.2.1 I.1 ([41] : Bs)).bind fun a8 =>
 some (I.1, a8, I.2.2.1, I.2.2.2)
 else
 if (0 : Int) ≤ 0 ∧ 0 < (q.length : Int) then
 if (gt q 0).Kind = 3 then
 (Q32.f q u p).bind fun J =>
 (Q22.f J.1 J.2.1 p 4 0 0 J.2.2.2.2.1 J.2.2.2.1).bind fun a2 =>
 some (a2.1, J.1, J.2.1, a2.2)
 else
 if (gt q 0).Kind = 2 then
 (self_5 q u p).bind fun O =>
 some (O.1, O.2.1, O.2.2.1, O.2.2.2)
 else
 none
 else none
noncomputable def Q34.g (self_0 : (List Q1) → Int → (List Q2) → Option ((List Q2) × (List Q1) × Int × Int)) (self_1 : (List Q1) → Int → (List Q2) → Bs → Int → Option ((List Q2) × (List Q1) × Int × Int)) (self_2 : (List Q1) → Int → (List Q2) → Option ((List Q2) × (List Q1) × Int × Int)) (self_3 : (List Q1) → Int → (List Q2) → Bs → Int → Option ((List Q2) × (List Q1) × Int × Int)) (self_4 : (List Q1) → Int → (List Q2) → Option ((List Q2) × (List Q1) × Int × Int)) (self_5 : (List Q1) → Int → (List Q2) → Option ((List Q2) × (List Q1) × Int × Int)) (L : List Q1) (M : Int) (q : List Q2) : Option ((List Q2) × (List Q1) × Int × Int) :=
 (Q32.f L M q).bind fun p =>
 jn (
 if bseq p.2.2.2.2.1 ([116, 116] : Bs) = true then
 (Q22.f p.1 p.2.1 q 1 0 0 ([] : Bs) p.2.2.2.1).bind fun x =>
 up (some (x.1, p.1, p.2.1, x.2))
 else
 if bseq p.2.2.2.2.1 ([102, 102] : Bs) = true then
 (Q22.f p.1 p.2.1 q 2 0 0 ([] : Bs) p.2.2.2.1).bind fun D =>
 up (some (D.1, p.1, p.2.1, D.2))
 else
 if bseq p.2.2.2.2.1 ([109, 117] : Bs) = true then
 some (.inl 10)
 else
 if bseq p.2.2.2.2.1 ([110, 117] : Bs) = true then
 some (.inl 11)
 else
 (Q22.f p.1 p.2.1 q 3 0 0 p.2.2.2.2.1 p.2.2.2.1).bind fun G =>
 up (some (G.1, p.1, p.2.1, G.2))) (fun (O : Int) =>
 if (0 : Int) ≤ 0 ∧ 0 < (p.1.length : Int) then
 if (gt p.1 0).Kind = 3 then
 (Q53.f p.1 p.2.1 q).bind fun I =>
 (Q91.f I.1 p.2.1 q ([46] : Bs)).bind fun U =>
 (self_0 U p.2.1 q).bind fun u =>
 (Q22.f u.2.1 u.2.2.1 u.1 O u.2.2.2 0 I.2.2.2.1 p.2.2.2.1).bind fun J =>
 some (J.1, u.2.1, u.2.2.1, J.2)
 else
 none
 else none)
noncomputable def Q10.tab : Nat → ((List Q1) → Int → (List Q2) → Option ((List Q2) × (List Q1) × Int × Int)) × ((List Q1) → Int → (List Q2) → Bs → Int → Option ((List Q2) × (List Q1) × Int × Int)) × ((List Q1) → Int → (List Q2) → Option ((List Q2) × (List Q1) × Int × Int)) × ((List Q1) → Int → (List Q2) → Bs → Int → Option ((List Q2) × (List Q1) × Int × Int)) × ((List Q1) → Int → (List Q2) → Option ((List Q2) × (List Q1) × Int × Int)) × ((List Q1) → Int → (List Q2) → Option ((List Q2) × (List Q1) × Int × Int))
 | 0 => (fun _ _ _ => none, fun _ _ _ _ _ => none, fun _ _ _ => none, fun _ _ _ _ _ => none, fun _ _ _ => none, fun _ _ _ => none)
 | k_ + 1 => (Q10.g ((Q10.tab k_).1) ((Q10.tab k_).2.1) ((Q10.tab k_).2.2.1) ((Q10.tab k_).2.2.2.1) ((Q10.tab k_).2.2.2.2.1) ((Q10.tab k_).2.2.2.2.2), Q23.g ((Q10.tab k_).1) ((Q10.tab k_).2.1) ((Q10.tab k_).2.2.1) ((Q10.tab k_).2.2.2.1) ((Q10.tab k_).2.2.2.2.1) ((Q10.tab k_).2.2.2.2.2), Q31.g ((Q10.tab k_).1) ((Q10.tab k_).2.1) ((Q10.tab k_).2.2.1) ((Q10.tab k_).2.2.2.1) ((Q10.tab k_).2.2.2.2.1) ((Q10.tab k_).2.2.2.2.2), Q24.g ((Q10.tab k_).1) ((Q10.tab k_).2.1) ((Q10.tab k_).2.2.1) ((Q10.tab k_).2.2.2.1) ((Q10.tab k_).2.2.2.2.1) ((Q10.tab k_).2.2.2.2.2), Q27.g ((Q10.tab k_).1) ((Q10.tab k_).2.1) ((Q10.tab k_).2.2.1) ((Q10.tab k_).2.2.2.1) ((Q10.tab k_).2.2.2.2.1) ((Q10.tab k_).2.2.2.2.2), Q34.g ((Q10.tab k_).1) ((Q10.tab k_).2.1) ((Q10.tab k_).2.2.1) ((Q10.tab k_).2.2.2.1) ((Q10.tab k_).2.2.2.2.1) ((Q10.tab k_).2.2.2.2.2))
noncomputable def Q10.n (k_ : Nat) : (List Q1) → Int → (List Q2) → Option ((List Q2) × (List Q1) × Int × Int) := (Q10.tab k_).1
noncomputable def Q10.f (p : List Q1) (q : Int) (u : List Q2) : Option ((List Q2) × (List Q1) × Int × Int) := recF fun k_ => Q10.n k_ p q u
noncomputable def Q23.n (k_ : Nat) : (List Q1) → Int → (List Q2) → Bs → Int → Option ((List Q2) × (List Q1) × Int × Int) := (Q10.tab k_).2.1
noncomputable def Q31.n (k_ : Nat) : (List Q1) → Int → (List Q2) → Option ((List Q2) × (List Q1) × Int × Int) := (Q10.tab k_).2.2.1
noncomputable def Q24.n (k_ : Nat) : (List Q1) → Int → (List Q2) → Bs → Int → Option ((List Q2) × (List Q1) × Int × Int) := (Q10.tab k_).2.2.2.1
noncomputable def Q27.n (k_ : Nat) : (List Q1) → Int → (List Q2) → Option ((List Q2) × (List Q1) × Int × Int) := (Q10.tab k_).2.2.2.2.1
noncomputable def Q34.n (k_ : Nat) : (List Q1) → Int → (List Q2) → Option ((List Q2) × (List Q1) × Int × Int) := (Q10.tab k_).2.2.2.2.2
theorem Q10.step (self_0 : (List Q1) → Int → (List Q2) → Option ((List Q2) × (List Q1) × Int × Int)) (self_1 : (List Q1) → Int → (List Q2) → Bs → Int → Option ((List Q2) × (List Q1) × Int × Int)) (self_2 : (List Q1) → Int → (List Q2) → Option ((List Q2) × (List Q1) × Int × Int)) (self_3 : (List Q1) → Int → (List Q2) → Bs → Int → Option ((List Q2) × (List Q1) × Int × Int)) (self_4 : (List Q1) → Int → (List Q2) → Option ((List Q2) × (List Q1) × Int × Int)) (self_5 : (List Q1) → Int → (List Q2) → Option ((List Q2) × (List Q1) × Int × Int)) (ih_0 : Q10.SP self_0) (ih_1 : Q23.SP self_1) (ih_2 : Q31.SP self_2) (ih_3 : Q24.SP self_3) (ih_4 : Q27.SP self_4) (ih_5 : Q34.SP self_5) :
 Q10.SP (Q10.g self_0 self_1 self_2 self_3 self_4 self_5) := by
 intro R Fr b0 A0_0 n0_0 c0_0 A0_2 n0_2 c0_2 p x q hr0_0 hn0_0 hc0_0 hn0_2 r j; subst hn0_0; subst hn0_2; refine Spec.of Tryz.func52 rfl rfl ?_; unfold Q10.g at j; have j := brun j; refine sR 1 rfl (nT (sR 3 rfl ?_)); obtain ⟨u, D, j⟩ := bbind j; refine At.call rfl Q23.callee rfl rfl rfl (ih_1 _ _ b0 A0_0 p.length c0_0 A0_2 q.length c0_2 p x q ([124] : Bs) 7 hr0_0 rfl hc0_0 rfl D) ?_; rintro _ _ ⟨U, G, I, J, V, L, rfl, rfl, rfl, M, rfl, O⟩; refine At.run 1 rfl (nT (At.ret ?_)); cases bret j; exact At.res (.inl rfl) rfl rfl ⟨u.1.length, G, I, J, u.2.1.length, L, rfl, rfl, rfl, M, rfl, O⟩
theorem Q23.step (self_0 : (List Q1) → Int → (List Q2) → Option ((List Q2) × (List Q1) × Int × Int)) (self_1 : (List Q1) → Int → (List Q2) → Bs → Int → Option ((List Q2) × (List Q1) × Int × Int)) (self_2 : (List Q1) → Int → (List Q2) → Option ((List Q2) × (List Q1) × Int × Int)) (self_3 : (List Q1) → Int → (List Q2) → Bs → Int → Option ((List Q2) × (List Q1) × Int × Int)) (self_4 : (List Q1) → Int → (List Q2) → Option ((List Q2) × (List Q1) × Int × Int)) (self_5 : (List Q1) → Int → (List Q2) → Option ((List Q2) × (List Q1) × Int × Int)) (ih_0 : Q10.SP self_0) (ih_1 : Q23.SP self_1) (ih_2 : Q31.SP self_2) (ih_3 : Q24.SP self_3) (ih_4 : Q27.SP self_4) (ih_5 : Q34.SP self_5) :
 Q23.SP (Q23.g self_0 self_1 self_2 self_3 self_4 self_5) := by
 intro R Fr b0 A0_0 n0_0 c0_0 A0_2 n0_2 c0_2 V b3 Z a1 a2 hr0_0 hn0_0 hc0_0 hn0_2 r j; subst hn0_0; subst hn0_2; refine Spec.of Tryz.func99 rfl rfl ?_; unfold Q23.g at j; have j := brun j; refine sR 1 rfl (nT (sR 1 rfl ?_)); obtain ⟨u, b4, j⟩ := bbind j; refine At.callF rfl Q31.callee rfl rfl rfl (ih_2 _ _ b0 A0_0 V.length c0_0 A0_2 Z.length c0_2 V b3 Z hr0_0 rfl hc0_0 rfl b4) ?_; rintro _ _ ⟨g4, b5, b6, b7, g5, b8, rfl, rfl, rfl, b9, rfl, c4⟩; refine At.run 1 rfl (nT (At.seq ?_)); refine At.block ?_; obtain ⟨c5, c6, g6, j⟩ := bjoin j; obtain ⟨a0, J, c7⟩ := bsome j; clear j; unfold Q23.l0 at J; obtain ⟨L, D⟩ := Q17.1 J; clear J; refine At.loopJ (X := (List Q2) × (List Q1) × Int × Int × Nat × (Option Addr) × Nat × (Option Addr) × Nat × Nat) (Y := (List Q2) × (List Q1) × Int × Int × Nat × (Option Addr) × Nat × (Option Addr) × Nat × Nat) (e0 := 0) (fun s_ => [(0, bp b0), (1, .string ⟨(a1).toArray⟩), (2, i6 a2), (3, .func (.func 100) #[bp b0] #[]), (9, i6 s_.2.2.2.1)]) (fun s_ => pc b0 [.slice s_.2.2.2.2.2.2.2.1 (d8 s_).1 (d8 s_).2, i6 s_.2.2.1, .slice s_.2.2.2.2.2.1 s_.2.2.2.2.1 s_.2.2.2.2.2.2.1] 114 :: row Q2.fl 51 s_.2.2.2.2.2.1 s_.2.2.2.2.1 s_.2.2.2.2.2.2.1 s_.1 :: Fr) (fun m_ => fun s_ => iterN (fun t_ : (List Q2) × (List Q1) × Int × Int => Q23.l0b a1 a2 self_2 t_.1 t_.2.1 t_.2.2.1 t_.2.2.2) m_ (s_.1, s_.2.1, s_.2.2.1, s_.2.2.2.1) = some a0 ∧ s_.1.length = s_.2.2.2.2.1 ∧ RdS Q1.fl.rep R.heap s_.2.2.2.2.2.2.2.1 s_.2.1 ∧ s_.2.1.length = (d8 s_).1 ∧ (d8 s_).1 ≤ (d8 s_).2) L (u.1, u.2.1, u.2.2.1, u.2.2.2, u.1.length, b5, b6, b7, u.2.1.length, b8) ⟨D, rfl, b9, rfl, c4⟩ (fun s_ => [(9, i6 s_.2.2.2.1)]) (fun s_ => pc b0 [.slice s_.2.2.2.2.2.2.2.1 (d8 s_).1 (d8 s_).2, i6 s_.2.2.1, .slice s_.2.2.2.2.2.1 s_.2.2.2.2.1 s_.2.2.2.2.2.2.1] 114 :: row Q2.fl 51 s_.2.2.2.2.2.1 s_.2.2.2.2.1 s_.2.2.2.2.2.2.1 s_.1 :: Fr) (fun s_ => c5 (.inl (s_.1, s_.2.1, s_.2.2.1, s_.2.2.2.1)) = some r ∧ s_.1.length = s_.2.2.2.2.1 ∧ RdS Q1.fl.rep R.heap s_.2.2.2.2.2.2.2.1 s_.2.1 ∧ s_.2.1.length = (d8 s_).1 ∧ (d8 s_).1 ≤ (d8 s_).2) (fun a w e hs => ⟨e.sub ⟨rfl, rfl, rfl, rfl, rfl, trivial⟩, (by exact hs)⟩) ?_ (fun c8 => ?_)
 ·rintro ⟨a3, a4, g7, g8, c9, d0, d1, d2, d3, d4⟩ ⟨j, d5, d6, d7, d9⟩; obtain rfl : a3.length = c9 := d5; obtain rfl : a4.length = d3 := d7; have j := (c6 _).symm.trans j
  ·refine At.ibx ?_; refine At.thn (sR 2 rfl (nT (At.ret ?_))); cases bret j; exact At.res (.inl rfl) rfl rfl ⟨a3.length, d0, d1, d2, a4.length, d4, rfl, rfl, rfl, d6, rfl, d9⟩
 ·clear D L; rintro L ⟨x, I, a5, G, e1, a6, a7, e2, e3, e4⟩ ⟨D, e5, M, e6, O⟩; obtain rfl : x.length = e1 := e5; obtain rfl : I.length = e3 := e6; obtain ⟨e7, f_, e8, hf_, j⟩ := bit D; clear D; have j : (Q23.l0b a1 a2 self_2 x I a5 G).bind _ = some a0 := j; unfold Q23.l0b at j
  ·refine At.seq (sR 2 rfl ?_); obtain ⟨g9, e9, j⟩ := bbind j; refine At.call rfl Q28.callee rfl rfl rfl (Q28.spec M rfl O rfl e9) ?_; rintro _ _ ⟨rfl, rfl⟩; refine nT ?_; rcases bite j with ⟨U, j⟩ | ⟨U, j⟩
   ··refine At.condT rfl U ?_
     refine At.skip (At.thn ?_); refine At.block ?_; refine sR 1 rfl ?_; obtain ⟨p, f0, j⟩ := bbind j; refine At.call rfl Q32.callee rfl rfl rfl (Q32.spec M rfl O rfl f0) ?_; rintro _ _ ⟨f1, h0, f3, rfl, rfl, f4, rfl, f5⟩; refine At.alloc rfl rfl rfl (fun f6 => ?_); refine At.store rfl rfl rfl rfl .z rfl rfl rfl (.c (.c (.c (.c .n)))) ?_; refine nT ?_; refine At.held [pc f6 [i6 p.2.2.1, i6 p.2.2.2.1, .string ⟨(p.2.2.2.2.1).toArray⟩, i6 p.2.2.2.2.2] 101] 10 rfl ?_; refine At.H.pw 0 rfl rfl rfl rfl rfl (.c .z .n) ?_; refine At.H.pw 1 rfl rfl rfl rfl rfl (.c .z .n) ?_; refine At.H.pw 2 rfl rfl rfl rfl rfl (.c .z .n) ?_; refine At.H.pw 3 rfl rfl rfl rfl rfl (.c .z .n) ?_; refine At.H.pw 5 rfl rfl rfl rfl rfl (.c .z .n) ?_; refine At.H.tw 6 rfl (Y.load rfl rfl .z rfl rfl rfl) rfl rfl rfl (.c .z .n) ?_; refine At.H.al [4] (Q6 ?_ Q7)
     ··refine At.HO.op rfl ?_
       refine At.f2 (At.f2 ?_); obtain ⟨q, f7, j⟩ := bbind j; refine At.callF rfl Q31.callee rfl rfl rfl (ih_2 _ _ b0 f1 p.1.length f3 a6 x.length a7 p.1 p.2.1 x f4 rfl f5 rfl f7) ?_; rintro _ _ ⟨h1, h2, h3, f8, h4, f9, rfl, rfl, rfl, a8, rfl, a9⟩; refine At.HO.back (.c (.s (.s .z)) .n) ?_; refine At.H.tw 7 rfl (Y.build (is := [0, 1, 2, 4]) (xo := [.tmp 19, .tmp 20, .tmp 22, .tmp 24]) (vs := [i6 a2, i6 G, i6 q.2.2.2, i6 p.2.2.2.1]) (cs := [i6 a2, i6 G, i6 q.2.2.2, .string ⟨(([] : Bs)).toArray⟩, i6 p.2.2.2.1]) rfl rfl rfl rfl rfl rfl) rfl rfl rfl (.c (.s (.s .z)) .n) ?_; refine At.H.al [8] (Q6 ?_ Q7)
       ··refine At.HO.op rfl ?_
         obtain ⟨b2, g0, j⟩ := bbind j; refine At.call rfl Q22.callee rfl rfl rfl (Q22.spec a8 rfl a9 rfl g0) ?_; rintro _ _ ⟨g1, g2, rfl, rfl⟩; refine At.HO.back (.c (.s (.s .z)) .n) ?_; refine At.H.pw 9 rfl rfl rfl rfl rfl (.c (.s (.s .z)) .n) ?_; refine At.H.done (by kernel_rfl) ?_; refine At.ibn ?_; refine At.rowLen (.s .z) fun g3 => ?_; refine At.drop (.s (.s .z)) ?_; have j := bnx hf_ j; exact fun a w e hs => ⟨e7, (b2.1, q.2.1, q.2.2.1, b2.2, (q.1 ++ ([(⟨a2, G, q.2.2.2, ([] : Bs), p.2.2.2.1⟩ : Q2)] : List Q2)).length, g1, g2, f8, q.2.1.length, f9), e8, ⟨j, g3, a8, rfl, a9⟩, e.sub ⟨rfl, rfl, rfl, rfl, rfl, trivial⟩, hs⟩
   ··refine At.condF rfl (bn U) ?_
     refine At.exit ?_; refine At.the ?_; refine At.the ?_; exact fun a w e hs => c8 (x, I, a5, G, x.length, a6, a7, e2, I.length, e4) ⟨(bdn j c7), rfl, M, rfl, O⟩ a w (e.sub ⟨rfl, trivial⟩) hs
theorem Q31.step (self_0 : (List Q1) → Int → (List Q2) → Option ((List Q2) × (List Q1) × Int × Int)) (self_1 : (List Q1) → Int → (List Q2) → Bs → Int → Option ((List Q2) × (List Q1) × Int × Int)) (self_2 : (List Q1) → Int → (List Q2) → Option ((List Q2) × (List Q1) × Int × Int)) (self_3 : (List Q1) → Int → (List Q2) → Bs → Int → Option ((List Q2) × (List Q1) × Int × Int)) (self_4 : (List Q1) → Int → (List Q2) → Option ((List Q2) × (List Q1) × Int × Int)) (self_5 : (List Q1) → Int → (List Q2) → Option ((List Q2) × (List Q1) × Int × Int)) (ih_0 : Q10.SP self_0) (ih_1 : Q23.SP self_1) (ih_2 : Q31.SP self_2) (ih_3 : Q24.SP self_3) (ih_4 : Q27.SP self_4) (ih_5 : Q34.SP self_5) :
 Q31.SP (Q31.g self_0 self_1 self_2 self_3 self_4 self_5) := by
 intro R Fr b0 A0_0 n0_0 c0_0 A0_2 n0_2 c0_2 p x q hr0_0 hn0_0 hc0_0 hn0_2 r j; subst hn0_0; subst hn0_2; refine Spec.of Tryz.func100 rfl rfl ?_; unfold Q31.g at j; have j := brun j; refine sR 1 rfl (nT (sR 3 rfl ?_)); obtain ⟨u, D, j⟩ := bbind j; refine At.call rfl Q24.callee rfl rfl rfl (ih_3 _ _ b0 A0_0 p.length c0_0 A0_2 q.length c0_2 p x q ([38] : Bs) 6 hr0_0 rfl hc0_0 rfl D) ?_; rintro _ _ ⟨U, G, I, J, V, L, rfl, rfl, rfl, M, rfl, O⟩; refine At.run 1 rfl (nT (At.ret ?_)); cases bret j; exact At.res (.inl rfl) rfl rfl ⟨u.1.length, G, I, J, u.2.1.length, L, rfl, rfl, rfl, M, rfl, O⟩
theorem Q24.step (self_0 : (List Q1) → Int → (List Q2) → Option ((List Q2) × (List Q1) × Int × Int)) (self_1 : (List Q1) → Int → (List Q2) → Bs → Int → Option ((List Q2) × (List Q1) × Int × Int)) (self_2 : (List Q1) → Int → (List Q2) → Option ((List Q2) × (List Q1) × Int × Int)) (self_3 : (List Q1) → Int → (List Q2) → Bs → Int → Option ((List Q2) × (List Q1) × Int × Int)) (self_4 : (List Q1) → Int → (List Q2) → Option ((List Q2) × (List Q1) × Int × Int)) (self_5 : (List Q1) → Int → (List Q2) → Option ((List Q2) × (List Q1) × Int × Int)) (ih_0 : Q10.SP self_0) (ih_1 : Q23.SP self_1) (ih_2 : Q31.SP self_2) (ih_3 : Q24.SP self_3) (ih_4 : Q27.SP self_4) (ih_5 : Q34.SP self_5) :
 Q24.SP (Q24.g self_0 self_1 self_2 self_3 self_4 self_5) := by
 intro R Fr b0 A0_0 n0_0 c0_0 A0_2 n0_2 c0_2 V b3 Z a1 a2 hr0_0 hn0_0 hc0_0 hn0_2 r j; subst hn0_0; subst hn0_2; refine Spec.of Tryz.func99 rfl rfl ?_; unfold Q24.g at j; have j := brun j; refine sR 1 rfl (nT (sR 1 rfl ?_)); obtain ⟨u, b4, j⟩ := bbind j; refine At.callF rfl Q27.callee rfl rfl rfl (ih_4 _ _ b0 A0_0 V.length c0_0 A0_2 Z.length c0_2 V b3 Z hr0_0 rfl hc0_0 rfl b4) ?_; rintro _ _ ⟨g4, b5, b6, b7, g5, b8, rfl, rfl, rfl, b9, rfl, c4⟩; refine At.run 1 rfl (nT (At.seq ?_)); refine At.block ?_; obtain ⟨c5, c6, g6, j⟩ := bjoin j; obtain ⟨a0, J, c7⟩ := bsome j; clear j; unfold Q24.l0 at J; obtain ⟨L, D⟩ := Q17.1 J; clear J; refine At.loopJ (X := (List Q2) × (List Q1) × Int × Int × Nat × (Option Addr) × Nat × (Option Addr) × Nat × Nat) (Y := (List Q2) × (List Q1) × Int × Int × Nat × (Option Addr) × Nat × (Option Addr) × Nat × Nat) (e0 := 0) (fun s_ => [(0, bp b0), (1, .string ⟨(a1).toArray⟩), (2, i6 a2), (3, .func (.func 133) #[bp b0] #[]), (9, i6 s_.2.2.2.1)]) (fun s_ => pc b0 [.slice s_.2.2.2.2.2.2.2.1 (d8 s_).1 (d8 s_).2, i6 s_.2.2.1, .slice s_.2.2.2.2.2.1 s_.2.2.2.2.1 s_.2.2.2.2.2.2.1] 114 :: row Q2.fl 51 s_.2.2.2.2.2.1 s_.2.2.2.2.1 s_.2.2.2.2.2.2.1 s_.1 :: Fr) (fun m_ => fun s_ => iterN (fun t_ : (List Q2) × (List Q1) × Int × Int => Q24.l0b a1 a2 self_4 t_.1 t_.2.1 t_.2.2.1 t_.2.2.2) m_ (s_.1, s_.2.1, s_.2.2.1, s_.2.2.2.1) = some a0 ∧ s_.1.length = s_.2.2.2.2.1 ∧ RdS Q1.fl.rep R.heap s_.2.2.2.2.2.2.2.1 s_.2.1 ∧ s_.2.1.length = (d8 s_).1 ∧ (d8 s_).1 ≤ (d8 s_).2) L (u.1, u.2.1, u.2.2.1, u.2.2.2, u.1.length, b5, b6, b7, u.2.1.length, b8) ⟨D, rfl, b9, rfl, c4⟩ (fun s_ => [(9, i6 s_.2.2.2.1)]) (fun s_ => pc b0 [.slice s_.2.2.2.2.2.2.2.1 (d8 s_).1 (d8 s_).2, i6 s_.2.2.1, .slice s_.2.2.2.2.2.1 s_.2.2.2.2.1 s_.2.2.2.2.2.2.1] 114 :: row Q2.fl 51 s_.2.2.2.2.2.1 s_.2.2.2.2.1 s_.2.2.2.2.2.2.1 s_.1 :: Fr) (fun s_ => c5 (.inl (s_.1, s_.2.1, s_.2.2.1, s_.2.2.2.1)) = some r ∧ s_.1.length = s_.2.2.2.2.1 ∧ RdS Q1.fl.rep R.heap s_.2.2.2.2.2.2.2.1 s_.2.1 ∧ s_.2.1.length = (d8 s_).1 ∧ (d8 s_).1 ≤ (d8 s_).2) (fun a w e hs => ⟨e.sub ⟨rfl, rfl, rfl, rfl, rfl, trivial⟩, (by exact hs)⟩) ?_ (fun c8 => ?_)
 ·rintro ⟨a3, a4, g7, g8, c9, d0, d1, d2, d3, d4⟩ ⟨j, d5, d6, d7, d9⟩; obtain rfl : a3.length = c9 := d5; obtain rfl : a4.length = d3 := d7; have j := (c6 _).symm.trans j
  ·refine At.ibx ?_; refine At.thn (sR 2 rfl (nT (At.ret ?_))); cases bret j; exact At.res (.inl rfl) rfl rfl ⟨a3.length, d0, d1, d2, a4.length, d4, rfl, rfl, rfl, d6, rfl, d9⟩
 ·clear D L; rintro L ⟨x, I, a5, G, e1, a6, a7, e2, e3, e4⟩ ⟨D, e5, M, e6, O⟩; obtain rfl : x.length = e1 := e5; obtain rfl : I.length = e3 := e6; obtain ⟨e7, f_, e8, hf_, j⟩ := bit D; clear D; have j : (Q24.l0b a1 a2 self_4 x I a5 G).bind _ = some a0 := j; unfold Q24.l0b at j
  ·refine At.seq (sR 2 rfl ?_); obtain ⟨g9, e9, j⟩ := bbind j; refine At.call rfl Q28.callee rfl rfl rfl (Q28.spec M rfl O rfl e9) ?_; rintro _ _ ⟨rfl, rfl⟩; refine nT ?_; rcases bite j with ⟨U, j⟩ | ⟨U, j⟩
   ··refine At.condT rfl U ?_
     refine At.skip (At.thn ?_); refine At.block ?_; refine sR 1 rfl ?_; obtain ⟨p, f0, j⟩ := bbind j; refine At.call rfl Q32.callee rfl rfl rfl (Q32.spec M rfl O rfl f0) ?_; rintro _ _ ⟨f1, h0, f3, rfl, rfl, f4, rfl, f5⟩; refine At.alloc rfl rfl rfl (fun f6 => ?_); refine At.store rfl rfl rfl rfl .z rfl rfl rfl (.c (.c (.c (.c .n)))) ?_; refine nT ?_; refine At.held [pc f6 [i6 p.2.2.1, i6 p.2.2.2.1, .string ⟨(p.2.2.2.2.1).toArray⟩, i6 p.2.2.2.2.2] 101] 10 rfl ?_; refine At.H.pw 0 rfl rfl rfl rfl rfl (.c .z .n) ?_; refine At.H.pw 1 rfl rfl rfl rfl rfl (.c .z .n) ?_; refine At.H.pw 2 rfl rfl rfl rfl rfl (.c .z .n) ?_; refine At.H.pw 3 rfl rfl rfl rfl rfl (.c .z .n) ?_; refine At.H.pw 5 rfl rfl rfl rfl rfl (.c .z .n) ?_; refine At.H.tw 6 rfl (Y.load rfl rfl .z rfl rfl rfl) rfl rfl rfl (.c .z .n) ?_; refine At.H.al [4] (Q6 ?_ Q7)
     ··refine At.HO.op rfl ?_
       refine At.f2 (At.f2 ?_); obtain ⟨q, f7, j⟩ := bbind j; refine At.callF rfl Q27.callee rfl rfl rfl (ih_4 _ _ b0 f1 p.1.length f3 a6 x.length a7 p.1 p.2.1 x f4 rfl f5 rfl f7) ?_; rintro _ _ ⟨h1, h2, h3, f8, h4, f9, rfl, rfl, rfl, a8, rfl, a9⟩; refine At.HO.back (.c (.s (.s .z)) .n) ?_; refine At.H.tw 7 rfl (Y.build (is := [0, 1, 2, 4]) (xo := [.tmp 19, .tmp 20, .tmp 22, .tmp 24]) (vs := [i6 a2, i6 G, i6 q.2.2.2, i6 p.2.2.2.1]) (cs := [i6 a2, i6 G, i6 q.2.2.2, .string ⟨(([] : Bs)).toArray⟩, i6 p.2.2.2.1]) rfl rfl rfl rfl rfl rfl) rfl rfl rfl (.c (.s (.s .z)) .n) ?_; refine At.H.al [8] (Q6 ?_ Q7)
       ··refine At.HO.op rfl ?_
         obtain ⟨b2, g0, j⟩ := bbind j; refine At.call rfl Q22.callee rfl rfl rfl (Q22.spec a8 rfl a9 rfl g0) ?_; rintro _ _ ⟨g1, g2, rfl, rfl⟩; refine At.HO.back (.c (.s (.s .z)) .n) ?_; refine At.H.pw 9 rfl rfl rfl rfl rfl (.c (.s (.s .z)) .n) ?_; refine At.H.done (by kernel_rfl) ?_; refine At.ibn ?_; refine At.rowLen (.s .z) fun g3 => ?_; refine At.drop (.s (.s .z)) ?_; have j := bnx hf_ j; exact fun a w e hs => ⟨e7, (b2.1, q.2.1, q.2.2.1, b2.2, (q.1 ++ ([(⟨a2, G, q.2.2.2, ([] : Bs), p.2.2.2.1⟩ : Q2)] : List Q2)).length, g1, g2, f8, q.2.1.length, f9), e8, ⟨j, g3, a8, rfl, a9⟩, e.sub ⟨rfl, rfl, rfl, rfl, rfl, trivial⟩, hs⟩
   ··refine At.condF rfl (bn U) ?_
     refine At.exit ?_; refine At.the ?_; refine At.the ?_; exact fun a w e hs => c8 (x, I, a5, G, x.length, a6, a7, e2, I.length, e4) ⟨(bdn j c7), rfl, M, rfl, O⟩ a w (e.sub ⟨rfl, trivial⟩) hs
theorem Q27.step (self_0 : (List Q1) → Int → (List Q2) → Option ((List Q2) × (List Q1) × Int × Int)) (self_1 : (List Q1) → Int → (List Q2) → Bs → Int → Option ((List Q2) × (List Q1) × Int × Int)) (self_2 : (List Q1) → Int → (List Q2) → Option ((List Q2) × (List Q1) × Int × Int)) (self_3 : (List Q1) → Int → (List Q2) → Bs → Int → Option ((List Q2) × (List Q1) × Int × Int)) (self_4 : (List Q1) → Int → (List Q2) → Option ((List Q2) × (List Q1) × Int × Int)) (self_5 : (List Q1) → Int → (List Q2) → Option ((List Q2) × (List Q1) × Int × Int)) (ih_0 : Q10.SP self_0) (ih_1 : Q23.SP self_1) (ih_2 : Q31.SP self_2) (ih_3 : Q24.SP self_3) (ih_4 : Q27.SP self_4) (ih_5 : Q34.SP self_5) :
 Q27.SP (Q27.g self_0 self_1 self_2 self_3 self_4 self_5) := by
 intro R Fr b0 A0_0 n0_0 c0_0 A0_2 n0_2 c0_2 a3 a4 u hr0_0 hn0_0 hc0_0 hn0_2 r j; subst hn0_0; subst hn0_2; refine Spec.of Tryz.func133 rfl rfl ?_; unfold Q27.g at j; have j := brun j; refine sR 1 rfl (nT (At.seq ?_)); refine At.block ?_; refine sR 1 rfl ?_; obtain ⟨m6, b7, j⟩ := bbind j; refine At.call rfl Q28.callee rfl rfl rfl (Q28.spec hr0_0 rfl hc0_0 rfl b7) ?_; rintro _ _ ⟨rfl, rfl⟩; refine At.run 1 rfl (nT ?_); rcases bite j with ⟨V, j⟩ | ⟨V, j⟩
 ··refine At.condT rfl V ?_
   refine sR 1 rfl ?_; obtain ⟨x, b8, j⟩ := bbind j; refine At.call rfl Q32.callee rfl rfl rfl (Q32.spec hr0_0 rfl hc0_0 rfl b8) ?_; rintro _ _ ⟨b9, m7, c4, rfl, rfl, c5, rfl, c6⟩; refine At.alloc rfl rfl rfl (fun c7 => ?_); refine At.store rfl rfl rfl rfl .z rfl rfl rfl (.c (.c (.c (.c .n)))) ?_; refine nT (At.seq ?_); refine At.held [pc c7 [i6 x.2.2.1, i6 x.2.2.2.1, .string ⟨(x.2.2.2.2.1).toArray⟩, i6 x.2.2.2.2.2] 101] 8 rfl ?_; refine At.H.pw 0 rfl rfl rfl rfl rfl (.c .z .n) ?_; refine At.H.pw 1 rfl rfl rfl rfl rfl (.c .z .n) ?_; refine At.H.pw 3 rfl rfl rfl rfl rfl (.c .z .n) ?_; refine At.H.tw 4 rfl (Y.load rfl rfl .z rfl rfl rfl) rfl rfl rfl (.c .z .n) ?_; refine At.H.al [2] (Q6 ?_ Q7)
   ··refine At.HO.op rfl ?_
     refine At.f2 (At.f2 ?_); obtain ⟨J, c8, j⟩ := bbind j; refine At.call rfl Q27.callee rfl rfl rfl (ih_4 _ _ b0 b9 x.1.length c4 A0_2 u.length c0_2 x.1 x.2.1 u c5 rfl c6 rfl c8) ?_; rintro _ _ ⟨m8, m9, n2, c9, n3, d0, rfl, rfl, rfl, a5, rfl, a6⟩; refine At.HO.back (.c (.s (.s .z)) .n) ?_; refine At.H.tw 5 rfl (Y.build (is := [0, 1, 4]) (xo := [.const (i6 5), .tmp 17, .tmp 19]) (vs := [i6 5, i6 J.2.2.2, i6 x.2.2.2.1]) (cs := [i6 5, i6 J.2.2.2, i6 0, .string ⟨(([] : Bs)).toArray⟩, i6 x.2.2.2.1]) rfl rfl rfl rfl rfl rfl) rfl rfl rfl (.c (.s (.s .z)) .n) ?_; refine At.H.al [6] (Q6 ?_ Q7)
     ··refine At.HO.op rfl ?_
       obtain ⟨n4, d1, j⟩ := bbind j; refine At.call rfl Q22.callee rfl rfl rfl (Q22.spec a5 rfl a6 rfl d1) ?_; rintro _ _ ⟨d2, d3, rfl, rfl⟩; refine At.HO.back (.c (.s (.s .z)) .n) ?_; refine At.H.pw 7 rfl rfl rfl rfl rfl (.c (.s (.s .z)) .n) ?_; refine At.H.done (by kernel_rfl) ?_; refine At.thn (At.ret ?_); refine At.ibr ?_; refine At.thr ?_; refine At.rowLen (.s .z) fun d4 => ?_; refine At.drop (.s (.s .z)) ?_; cases bret j; exact At.res (.inl rfl) rfl rfl ⟨(J.1 ++ ([(⟨5, J.2.2.2, 0, ([] : Bs), x.2.2.2.1⟩ : Q2)] : List Q2)).length, d2, d3, c9, J.2.1.length, d0, rfl, rfl, d4, a5, rfl, a6⟩
 ··refine At.condF rfl (bn V) ?_
   refine sR 1 rfl ?_; obtain ⟨n5, d5, j⟩ := bbind j; refine At.call rfl Q28.callee rfl rfl rfl (Q28.spec hr0_0 rfl hc0_0 rfl d5) ?_; rintro _ _ ⟨rfl, rfl⟩; refine At.run 1 rfl (nT ?_); rcases bite j with ⟨X, j⟩ | ⟨X, j⟩
   ··refine At.condT rfl X ?_
     refine sR 1 rfl ?_; obtain ⟨D, d6, j⟩ := bbind j; refine At.call rfl Q32.callee rfl rfl rfl (Q32.spec hr0_0 rfl hc0_0 rfl d6) ?_; rintro _ _ ⟨n6, n7, n8, rfl, rfl, d7, rfl, d8⟩; refine At.alloc rfl rfl rfl (fun d9 => ?_); refine At.store rfl rfl rfl rfl .z rfl rfl rfl (.c (.c (.c (.c .n)))) ?_; refine nT (sR 1 rfl (At.f2 (At.f2 ?_))); obtain ⟨L, e0, j⟩ := bbind j; refine At.call rfl Q114.callee rfl rfl rfl (Q114.spec d7 rfl d8 rfl e0) ?_; rintro _ _ ⟨e1, n9, e2, rfl, rfl, e3, rfl, e4⟩; refine At.run 1 rfl (nT (At.seq ?_)); refine At.held [pc d9 [i6 D.2.2.1, i6 D.2.2.2.1, .string ⟨(D.2.2.2.2.1).toArray⟩, i6 D.2.2.2.2.2] 101] 9 rfl ?_; refine At.H.pw 0 rfl rfl rfl rfl rfl (.c (.s (.s .z)) .n) ?_; refine At.H.pw 1 rfl rfl rfl rfl rfl (.c (.s (.s .z)) .n) ?_; refine At.H.pw 3 rfl rfl rfl rfl rfl (.c (.s (.s .z)) .n) ?_; refine At.H.pw 4 rfl rfl rfl rfl rfl (.c (.s (.s .z)) .n) ?_; refine At.H.tw 5 rfl (Y.load rfl rfl .z rfl rfl rfl) rfl rfl rfl (.c (.s (.s .z)) .n) ?_; refine At.H.al [2] (Q6 ?_ Q7)
     ··refine At.HO.op rfl ?_
       obtain ⟨M, e5, j⟩ := bbind j; refine At.call rfl Q27.callee rfl rfl rfl (ih_4 _ _ b0 e1 L.1.length e2 A0_2 u.length c0_2 L.1 D.2.1 u e3 rfl e4 rfl e5) ?_; rintro _ _ ⟨o0, o7, o8, e6, o9, e7, rfl, rfl, rfl, a7, rfl, a8⟩; refine At.HO.back (.c (.s (.s .z)) .n) ?_; refine At.H.tw 6 rfl (Y.build (is := [0, 1, 3, 4]) (xo := [.const (i6 8), .tmp 31, .tmp 32, .tmp 34]) (vs := [i6 8, i6 M.2.2.2, .string ⟨(L.2).toArray⟩, i6 D.2.2.2.1]) (cs := [i6 8, i6 M.2.2.2, i6 0, .string ⟨(L.2).toArray⟩, i6 D.2.2.2.1]) rfl rfl rfl rfl rfl rfl) rfl rfl rfl (.c (.s (.s .z)) .n) ?_; refine At.H.al [7] (Q6 ?_ Q7)
       ··refine At.HO.op rfl ?_
         obtain ⟨p0, e8, j⟩ := bbind j; refine At.call rfl Q22.callee rfl rfl rfl (Q22.spec a7 rfl a8 rfl e8) ?_; rintro _ _ ⟨e9, f0, rfl, rfl⟩; refine At.HO.back (.c (.s (.s .z)) .n) ?_; refine At.H.pw 8 rfl rfl rfl rfl rfl (.c (.s (.s .z)) .n) ?_; refine At.H.done (by kernel_rfl) ?_; refine At.thn (At.ret ?_); refine At.ibr ?_; refine At.thr ?_; refine At.rowLen (.s .z) fun f1 => ?_; refine At.drop (.s (.s .z)) ?_; cases bret j; exact At.res (.inl rfl) rfl rfl ⟨(M.1 ++ ([(⟨8, M.2.2.2, 0, L.2, D.2.2.2.1⟩ : Q2)] : List Q2)).length, e9, f0, e6, M.2.1.length, e7, rfl, rfl, f1, a7, rfl, a8⟩
   ··refine At.condF rfl (bn X) ?_
     refine sR 1 rfl ?_; obtain ⟨p1, f3, j⟩ := bbind j; refine At.call rfl Q28.callee rfl rfl rfl (Q28.spec hr0_0 rfl hc0_0 rfl f3) ?_; rintro _ _ ⟨rfl, rfl⟩; refine At.run 1 rfl (nT ?_); rcases bite j with ⟨Z, j⟩ | ⟨Z, j⟩
     ··refine At.condT rfl Z ?_
       refine sR 1 rfl ?_; obtain ⟨G, f4, j⟩ := bbind j; refine At.call rfl Q32.callee rfl rfl rfl (Q32.spec hr0_0 rfl hc0_0 rfl f4) ?_; rintro _ _ ⟨p2, p3, p4, rfl, rfl, f5, rfl, f6⟩; refine At.alloc rfl rfl rfl (fun f7 => ?_); refine At.store rfl rfl rfl rfl .z rfl rfl rfl (.c (.c (.c (.c .n)))) ?_; refine nT (sR 1 rfl (At.f2 (At.f2 ?_))); obtain ⟨O, f8, j⟩ := bbind j; refine At.call rfl Q114.callee rfl rfl rfl (Q114.spec f5 rfl f6 rfl f8) ?_; rintro _ _ ⟨f9, p5, g0, rfl, rfl, g1, rfl, g2⟩; refine At.run 1 rfl (nT (At.seq ?_)); refine At.held [pc f7 [i6 G.2.2.1, i6 G.2.2.2.1, .string ⟨(G.2.2.2.2.1).toArray⟩, i6 G.2.2.2.2.2] 101] 9 rfl ?_; refine At.H.pw 0 rfl rfl rfl rfl rfl (.c (.s (.s .z)) .n) ?_; refine At.H.pw 1 rfl rfl rfl rfl rfl (.c (.s (.s .z)) .n) ?_; refine At.H.pw 3 rfl rfl rfl rfl rfl (.c (.s (.s .z)) .n) ?_; refine At.H.pw 4 rfl rfl rfl rfl rfl (.c (.s (.s .z)) .n) ?_; refine At.H.tw 5 rfl (Y.load rfl rfl .z rfl rfl rfl) rfl rfl rfl (.c (.s (.s .z)) .n) ?_; refine At.H.al [2] (Q6 ?_ Q7)
       ··refine At.HO.op rfl ?_
         obtain ⟨U, g3, j⟩ := bbind j; refine At.call rfl Q27.callee rfl rfl rfl (ih_4 _ _ b0 f9 O.1.length g0 A0_2 u.length c0_2 O.1 G.2.1 u g1 rfl g2 rfl g3) ?_; rintro _ _ ⟨p6, p7, p8, g4, p9, g5, rfl, rfl, rfl, a9, rfl, b2⟩; refine At.HO.back (.c (.s (.s .z)) .n) ?_; refine At.H.tw 6 rfl (Y.build (is := [0, 1, 3, 4]) (xo := [.const (i6 9), .tmp 46, .tmp 47, .tmp 49]) (vs := [i6 9, i6 U.2.2.2, .string ⟨(O.2).toArray⟩, i6 G.2.2.2.1]) (cs := [i6 9, i6 U.2.2.2, i6 0, .string ⟨(O.2).toArray⟩, i6 G.2.2.2.1]) rfl rfl rfl rfl rfl rfl) rfl rfl rfl (.c (.s (.s .z)) .n) ?_; refine At.H.al [7] (Q6 ?_ Q7)
         ··refine At.HO.op rfl ?_
           obtain ⟨q0, g6, j⟩ := bbind j; refine At.call rfl Q22.callee rfl rfl rfl (Q22.spec a9 rfl b2 rfl g6) ?_; rintro _ _ ⟨g7, g8, rfl, rfl⟩; refine At.HO.back (.c (.s (.s .z)) .n) ?_; refine At.H.pw 8 rfl rfl rfl rfl rfl (.c (.s (.s .z)) .n) ?_; refine At.H.done (by kernel_rfl) ?_; refine At.thn (At.ret ?_); refine At.ibr ?_; refine At.thr ?_; refine At.rowLen (.s .z) fun g9 => ?_; refine At.drop (.s (.s .z)) ?_; cases bret j; exact At.res (.inl rfl) rfl rfl ⟨(U.1 ++ ([(⟨9, U.2.2.2, 0, O.2, G.2.2.2.1⟩ : Q2)] : List Q2)).length, g7, g8, g4, U.2.1.length, g5, rfl, rfl, g9, a9, rfl, b2⟩
     ··refine At.condF rfl (bn Z) ?_
       refine sR 1 rfl ?_; obtain ⟨q1, h0, j⟩ := bbind j; refine At.call rfl Q28.callee rfl rfl rfl (Q28.spec hr0_0 rfl hc0_0 rfl h0) ?_; rintro _ _ ⟨rfl, rfl⟩; refine At.run 1 rfl (nT ?_); rcases bite j with ⟨a0, j⟩ | ⟨a0, j⟩
       ··refine At.condT rfl a0 ?_
         refine sR 1 rfl ?_; obtain ⟨b3, h1, j⟩ := bbind j; refine At.call rfl Q53.callee rfl rfl rfl (Q53.spec hr0_0 rfl hc0_0 rfl h1) ?_; rintro _ _ ⟨h2, q2, h3, rfl, rfl, h4, rfl, h5⟩; refine nT (sR 1 rfl ?_); obtain ⟨h6, h7, j⟩ := bbind j; refine At.call rfl Q10.callee rfl rfl rfl (ih_0 _ _ b0 h2 b3.1.length h3 A0_2 u.length c0_2 b3.1 a4 u h4 rfl h5 rfl h7) ?_; rintro _ _ ⟨q3, h8, h9, q4, q5, q6, rfl, rfl, rfl, k0, rfl, k1⟩; refine At.run 1 rfl (nT (sR 1 rfl ?_)); obtain ⟨k2, k3, j⟩ := bbind j; refine At.call rfl Q91.callee rfl rfl rfl (Q91.spec k0 rfl k1 rfl k3) ?_; rintro _ _ ⟨k4, q7, k5, rfl, rfl, k6, rfl, k7⟩; refine nT (sR 2 rfl (nT (At.ret ?_))); refine At.ibr ?_; refine At.thr ?_; cases bret j; exact At.res (.inl rfl) rfl rfl ⟨h6.1.length, h8, h9, k4, k2.length, k5, rfl, rfl, rfl, k6, rfl, k7⟩
       ··refine At.condF rfl (bn a0) ?_
         refine sR 3 rfl (At.y (Y.load rfl rfl .z rfl rfl rfl) rfl rfl rfl ?_); obtain ⟨p, j⟩ := bnone j; refine At.y (Y.ixRd hr0_0 rfl rfl rfl rfl rfl rfl rfl p.1 p.2) rfl rfl rfl ?_; refine At.y (Y.fa (RdS.some_ hr0_0 rfl p.1 p.2) rfl rfl rfl rfl rfl rfl) rfl rfl rfl ?_; refine At.y (Y.ldFl hr0_0 rfl (q := 0) rfl rfl p.1 p.2 rfl rfl rfl) rfl rfl rfl (At.run 2 rfl (nT ?_)); rcases bite j with ⟨a1, j⟩ | ⟨a1, j⟩
         ··refine At.condT rfl (decide_eq_true a1) ?_
           refine sR 1 rfl ?_; obtain ⟨I, k8, j⟩ := bbind j; refine At.call rfl Q32.callee rfl rfl rfl (Q32.spec hr0_0 rfl hc0_0 rfl k8) ?_; rintro _ _ ⟨k9, q8, l4, rfl, rfl, b4, rfl, b5⟩; refine At.alloc rfl rfl rfl (fun q9 => ?_); refine At.store rfl rfl rfl rfl .z rfl rfl rfl (.c (.c (.c (.c .n)))) ?_; refine nT (sR 2 rfl (At.y (Y.load rfl rfl .z rfl rfl rfl) rfl rfl rfl (At.run 1 rfl (At.y (Y.load rfl rfl .z rfl rfl rfl) rfl rfl rfl ?_)))); refine At.y (Y.build (is := [0, 3, 4]) (xo := [.const (i6 4), .tmp 75, .tmp 77]) (vs := [i6 4, .string ⟨(I.2.2.2.2.1).toArray⟩, i6 I.2.2.2.1]) (cs := [i6 4, i6 0, i6 0, .string ⟨(I.2.2.2.2.1).toArray⟩, i6 I.2.2.2.1]) rfl rfl rfl rfl rfl rfl) rfl rfl rfl ?_; refine At.f2 (At.f2 ?_); obtain ⟨r0, l5, j⟩ := bbind j; refine At.call rfl Q22.callee rfl rfl rfl (Q22.spec b4 rfl b5 rfl l5) ?_; rintro _ _ ⟨l6, l7, rfl, rfl⟩; refine At.run 1 rfl (nT (At.ret ?_)); refine At.ibr ?_; refine At.thr ?_; refine At.rowLen (.s .z) fun l8 => ?_; refine At.drop (.s (.s .z)) ?_; cases bret j; exact At.res (.inl rfl) rfl rfl ⟨(u ++ ([(⟨4, 0, 0, I.2.2.2.2.1, I.2.2.2.1⟩ : Q2)] : List Q2)).length, l6, l7, k9, I.1.length, l4, rfl, rfl, l8, b4, rfl, b5⟩
         ··refine At.condF rfl (decide_eq_false a1) ?_
           refine sR 3 rfl (At.y (Y.load rfl rfl .z rfl rfl rfl) rfl rfl rfl (At.y (Y.ixRd hr0_0 rfl rfl rfl rfl rfl rfl rfl p.1 p.2) rfl rfl rfl ?_)); refine At.y (Y.fa (RdS.some_ hr0_0 rfl p.1 p.2) rfl rfl rfl rfl rfl rfl) rfl rfl rfl ?_; refine At.y (Y.ldFl hr0_0 rfl (q := 0) rfl rfl p.1 p.2 rfl rfl rfl) rfl rfl rfl (At.run 2 rfl (nT ?_)); rcases bite j with ⟨a2, j⟩ | ⟨a2, j⟩
           ··refine At.condT rfl (decide_eq_true a2) ?_
             refine sR 1 rfl ?_; obtain ⟨b6, l9, j⟩ := bbind j; refine At.call rfl Q34.callee rfl rfl rfl (ih_5 _ _ b0 A0_0 a3.length c0_0 A0_2 u.length c0_2 a3 a4 u hr0_0 rfl hc0_0 rfl l9) ?_; rintro _ _ ⟨r1, m0, m1, m2, r2, m3, rfl, rfl, rfl, m4, rfl, m5⟩; refine At.run 1 rfl (nT (At.ret ?_)); refine At.ibr ?_; refine At.thr ?_; cases bret j; exact At.res (.inl rfl) rfl rfl ⟨b6.1.length, m0, m1, m2, b6.2.1.length, m3, rfl, rfl, rfl, m4, rfl, m5⟩
           ··refine At.condF rfl (decide_eq_false a2) ?_
             refine At.skip ?_; refine At.ibn ?_; refine At.thn (sR 1 rfl ?_); cases j
theorem Q34.step (self_0 : (List Q1) → Int → (List Q2) → Option ((List Q2) × (List Q1) × Int × Int)) (self_1 : (List Q1) → Int → (List Q2) → Bs → Int → Option ((List Q2) × (List Q1) × Int × Int)) (self_2 : (List Q1) → Int → (List Q2) → Option ((List Q2) × (List Q1) × Int × Int)) (self_3 : (List Q1) → Int → (List Q2) → Bs → Int → Option ((List Q2) × (List Q1) × Int × Int)) (self_4 : (List Q1) → Int → (List Q2) → Option ((List Q2) × (List Q1) × Int × Int)) (self_5 : (List Q1) → Int → (List Q2) → Option ((List Q2) × (List Q1) × Int × Int)) (ih_0 : Q10.SP self_0) (ih_1 : Q23.SP self_1) (ih_2 : Q31.SP self_2) (ih_3 : Q24.SP self_3) (ih_4 : Q27.SP self_4) (ih_5 : Q34.SP self_5) :
 Q34.SP (Q34.g self_0 self_1 self_2 self_3 self_4 self_5) := by
 intro R Fr b0 A0_0 n0_0 c0_0 A0_2 n0_2 c0_2 e4 e5 x hr0_0 hn0_0 hc0_0 hn0_2 r j; subst hn0_0; subst hn0_2; refine Spec.of Tryz.func182 rfl rfl ?_; unfold Q34.g at j; have j := brun j; refine sR 1 rfl (nT (sR 1 rfl ?_)); obtain ⟨p, a8, j⟩ := bbind j; refine At.call rfl Q32.callee rfl rfl rfl (Q32.spec hr0_0 rfl hc0_0 rfl a8) ?_; rintro _ _ ⟨L, e6, M, rfl, rfl, u, rfl, G⟩; refine At.alloc rfl rfl rfl (fun a3 => ?_); refine At.store rfl rfl rfl rfl .z rfl rfl rfl (.c (.c (.c (.c .n)))) ?_; refine nT (sR 1 rfl (nT (At.seq ?_))); refine sR 1 rfl (At.y (Y.load rfl rfl .z rfl rfl rfl) rfl rfl rfl (nT ?_)); obtain ⟨a9, b2, O, j⟩ := bjoin j; let T4 : HProp := pc a3 [i6 p.2.2.1, i6 p.2.2.2.1, .string ⟨(p.2.2.2.2.1).toArray⟩, i6 p.2.2.2.2.2] 101; let T5 : HProp := pc b0 [.slice L p.1.length M, i6 p.2.1, .slice A0_2 x.length c0_2] 114; refine At.join (X := Int) (fun D => [(0, bp b0), (3, bp a3), (4, i6 D)]) (fun D => T4 :: T5 :: row Q2.fl 51 A0_2 x.length c0_2 x :: Fr) (fun D => a9 (.inl D) = some r) ?_ (fun a4 => ?_)
 ·rintro D j; have j := (b2 _).symm.trans j
  ·refine At.seq (sR 3 rfl (At.y (Y.load rfl rfl (.s .z) rfl rfl rfl) rfl rfl rfl ?_)); obtain ⟨I, j⟩ := bnone j; refine At.y (Y.ixRd u rfl rfl rfl rfl rfl rfl rfl I.1 I.2) rfl rfl rfl ?_; refine At.y (Y.fa (RdS.some_ u rfl I.1 I.2) rfl rfl rfl rfl rfl rfl) rfl rfl rfl ?_; refine At.y (Y.ldFl u rfl (q := 0) rfl rfl I.1 I.2 rfl rfl rfl) rfl rfl rfl (At.run 1 rfl (nT ?_)); rcases bite j with ⟨U, j⟩ | ⟨U, j⟩
   ··refine At.condF rfl (nf (decide_eq_true U)) ?_
     refine At.skip (At.thn (sR 1 rfl (At.f2 (At.f2 ?_)))); obtain ⟨V, b3, j⟩ := bbind j; refine At.call rfl Q53.callee rfl rfl rfl (Q53.spec u rfl G rfl b3) ?_; rintro _ _ ⟨e7, e8, e9, rfl, rfl, b4, rfl, b5⟩; refine At.run 2 rfl (nT (sR 1 rfl ?_)); obtain ⟨a5, b6, j⟩ := bbind j; refine At.call rfl Q91.callee rfl rfl rfl (Q91.spec b4 rfl b5 rfl b6) ?_; rintro _ _ ⟨b7, f0, b8, rfl, rfl, b9, rfl, c4⟩; refine nT (At.seq ?_); refine At.held [T4] 10 rfl ?_; refine At.H.pw 0 rfl rfl rfl rfl rfl (.c (.s (.s .z)) .n) ?_; refine At.H.pw 1 rfl rfl rfl rfl rfl (.c (.s (.s .z)) .n) ?_; refine At.H.pw 2 rfl rfl rfl rfl rfl (.c (.s (.s .z)) .n) ?_; refine At.H.pw 4 rfl rfl rfl rfl rfl (.c (.s (.s .z)) .n) ?_; refine At.H.pw 5 rfl rfl rfl rfl rfl (.c (.s (.s .z)) .n) ?_; refine At.H.tw 6 rfl (Y.load rfl rfl .z rfl rfl rfl) rfl rfl rfl (.c (.s (.s .z)) .n) ?_; refine At.H.al [3] (Q6 ?_ Q7)
     ··refine At.HO.op rfl ?_
       obtain ⟨J, c5, j⟩ := bbind j; refine At.call rfl Q10.callee rfl rfl rfl (ih_0 _ _ b0 b7 a5.length b8 A0_2 x.length c0_2 a5 p.2.1 x b9 rfl c4 rfl c5) ?_; rintro _ _ ⟨f1, f3, f4, c6, f5, c7, rfl, rfl, rfl, a6, rfl, a7⟩; refine At.HO.back (.c (.s (.s .z)) .n) ?_; refine At.H.tw 7 rfl (Y.build (is := [0, 1, 3, 4]) (xo := [.tmp 51, .tmp 53, .tmp 54, .tmp 56]) (vs := [i6 D, i6 J.2.2.2, .string ⟨(V.2.2.2.1).toArray⟩, i6 p.2.2.2.1]) (cs := [i6 D, i6 J.2.2.2, i6 0, .string ⟨(V.2.2.2.1).toArray⟩, i6 p.2.2.2.1]) rfl rfl rfl rfl rfl rfl) rfl rfl rfl (.c (.s (.s .z)) .n) ?_; refine At.H.al [8] (Q6 ?_ Q7)
       ··refine At.HO.op rfl ?_
         obtain ⟨f6, c8, j⟩ := bbind j; refine At.call rfl Q22.callee rfl rfl rfl (Q22.spec a6 rfl a7 rfl c8) ?_; rintro _ _ ⟨c9, d0, rfl, rfl⟩; refine At.HO.back (.c (.s (.s .z)) .n) ?_; refine At.H.pw 9 rfl rfl rfl rfl rfl (.c (.s (.s .z)) .n) ?_; refine At.H.done (by kernel_rfl) ?_; refine At.thn (At.ret ?_); refine At.rowLen (.s .z) fun d1 => ?_; refine At.drop (.s (.s .z)) ?_; cases bret j; exact At.res (.inl rfl) rfl rfl ⟨(J.1 ++ ([(⟨D, J.2.2.2, 0, V.2.2.2.1, p.2.2.2.1⟩ : Q2)] : List Q2)).length, c9, d0, c6, J.2.1.length, c7, rfl, rfl, d1, a6, rfl, a7⟩
   ··refine At.condT rfl (nt (decide_eq_false U)) ?_
     refine At.region (At.run 1 rfl ?_); cases j
 ··refine At.block ?_
   refine sR 2 rfl (nT ?_); rcases bite j with ⟨Z, j⟩ | ⟨Z, j⟩
   ··refine At.condT rfl Z ?_
     refine sR 2 rfl (At.y (Y.load rfl rfl .z rfl rfl rfl) rfl rfl rfl ?_); refine At.y (Y.build (is := [0, 4]) (xo := [.const (i6 1), .tmp 21]) (vs := [i6 1, i6 p.2.2.2.1]) (cs := [i6 1, i6 0, i6 0, .string ⟨(([] : Bs)).toArray⟩, i6 p.2.2.2.1]) rfl rfl rfl rfl rfl rfl) rfl rfl rfl ?_; refine At.f2 (At.f2 ?_); obtain ⟨f7, d2, j⟩ := bbind j; refine At.call rfl Q22.callee rfl rfl rfl (Q22.spec u rfl G rfl d2) ?_; rintro _ _ ⟨d3, d4, rfl, rfl⟩; refine At.run 1 rfl (nT (At.ret ?_)); refine At.ibr ?_; have j := bup O j; refine At.thr ?_; refine At.rowLen (.s .z) fun d5 => ?_; refine At.drop (.s (.s .z)) ?_; cases bret j; exact At.res (.inl rfl) rfl rfl ⟨(x ++ ([(⟨1, 0, 0, ([] : Bs), p.2.2.2.1⟩ : Q2)] : List Q2)).length, d3, d4, L, p.1.length, M, rfl, rfl, d5, u, rfl, G⟩
   ··refine At.condF rfl (bn Z) ?_
     refine sR 2 rfl (nT ?_); rcases bite j with ⟨a0, j⟩ | ⟨a0, j⟩
     ··refine At.condT rfl a0 ?_
       refine sR 2 rfl (At.y (Y.load rfl rfl .z rfl rfl rfl) rfl rfl rfl ?_); refine At.y (Y.build (is := [0, 4]) (xo := [.const (i6 2), .tmp 28]) (vs := [i6 2, i6 p.2.2.2.1]) (cs := [i6 2, i6 0, i6 0, .string ⟨(([] : Bs)).toArray⟩, i6 p.2.2.2.1]) rfl rfl rfl rfl rfl rfl) rfl rfl rfl ?_; refine At.f2 (At.f2 ?_); obtain ⟨f8, d6, j⟩ := bbind j; refine At.call rfl Q22.callee rfl rfl rfl (Q22.spec u rfl G rfl d6) ?_; rintro _ _ ⟨d7, d8, rfl, rfl⟩; refine At.run 1 rfl (nT (At.ret ?_)); refine At.ibr ?_; have j := bup O j; refine At.thr ?_; refine At.rowLen (.s .z) fun d9 => ?_; refine At.drop (.s (.s .z)) ?_; cases bret j; exact At.res (.inl rfl) rfl rfl ⟨(x ++ ([(⟨2, 0, 0, ([] : Bs), p.2.2.2.1⟩ : Q2)] : List Q2)).length, d7, d8, L, p.1.length, M, rfl, rfl, d9, u, rfl, G⟩
     ··refine At.condF rfl (bn a0) ?_
       refine sR 2 rfl (nT ?_); rcases bite j with ⟨a1, j⟩ | ⟨a1, j⟩
       ··refine At.condT rfl a1 ?_
         refine At.region (At.run 1 rfl (At.nil ?_)); refine At.ibn ?_; refine At.thn ?_; exact fun a w e hs => a4 10 j a w (e.sub ⟨rfl, rfl, rfl, trivial⟩) hs
       ··refine At.condF rfl (bn a1) ?_
         refine sR 2 rfl (nT ?_); rcases bite j with ⟨a2, j⟩ | ⟨a2, j⟩
         ··refine At.condT rfl a2 ?_
           refine At.skip ?_; refine At.ibn ?_; refine At.thn ?_; exact fun a w e hs => a4 11 j a w (e.sub ⟨rfl, rfl, rfl, trivial⟩) hs
         ··refine At.condF rfl (bn a2) ?_
           refine sR 2 rfl (At.y (Y.load rfl rfl .z rfl rfl rfl) rfl rfl rfl (At.run 1 rfl (At.y (Y.load rfl rfl .z rfl rfl rfl) rfl rfl rfl ?_))); refine At.y (Y.build (is := [0, 3, 4]) (xo := [.const (i6 3), .tmp 12, .tmp 14]) (vs := [i6 3, .string ⟨(p.2.2.2.2.1).toArray⟩, i6 p.2.2.2.1]) (cs := [i6 3, i6 0, i6 0, .string ⟨(p.2.2.2.2.1).toArray⟩, i6 p.2.2.2.1]) rfl rfl rfl rfl rfl rfl) rfl rfl rfl ?_; refine At.f2 (At.f2 ?_); obtain ⟨f9, e0, j⟩ := bbind j; refine At.call rfl Q22.callee rfl rfl rfl (Q22.spec u rfl G rfl e0) ?_; rintro _ _ ⟨e1, e2, rfl, rfl⟩; refine At.run 1 rfl (nT (At.ret ?_)); refine At.ibr ?_; have j := bup O j; refine At.thr ?_; refine At.rowLen (.s .z) fun e3 => ?_; refine At.drop (.s (.s .z)) ?_; cases bret j; exact At.res (.inl rfl) rfl rfl ⟨(x ++ ([(⟨3, 0, 0, p.2.2.2.2.1, p.2.2.2.1⟩ : Q2)] : List Q2)).length, e1, e2, L, p.1.length, M, rfl, rfl, e3, u, rfl, G⟩
theorem Q10.all : ∀ k_ : Nat, Q10.SP (Q10.n k_) ∧ Q23.SP (Q23.n k_) ∧ Q31.SP (Q31.n k_) ∧ Q24.SP (Q24.n k_) ∧ Q27.SP (Q27.n k_) ∧ Q34.SP (Q34.n k_)
 | 0 => ⟨(by intro R Fr b0 A0_0 n0_0 c0_0 A0_2 n0_2 c0_2 a0_0 a0_1 a0_2 hr0_0 hn0_0 hc0_0 hn0_2 r j; cases j), (by intro R Fr b0 A0_0 n0_0 c0_0 A0_2 n0_2 c0_2 a0_0 a0_1 a0_2 a1 a2 hr0_0 hn0_0 hc0_0 hn0_2 r j; cases j), (by intro R Fr b0 A0_0 n0_0 c0_0 A0_2 n0_2 c0_2 a0_0 a0_1 a0_2 hr0_0 hn0_0 hc0_0 hn0_2 r j; cases j), (by intro R Fr b0 A0_0 n0_0 c0_0 A0_2 n0_2 c0_2 a0_0 a0_1 a0_2 a1 a2 hr0_0 hn0_0 hc0_0 hn0_2 r j; cases j), (by intro R Fr b0 A0_0 n0_0 c0_0 A0_2 n0_2 c0_2 a0_0 a0_1 a0_2 hr0_0 hn0_0 hc0_0 hn0_2 r j; cases j), (by intro R Fr b0 A0_0 n0_0 c0_0 A0_2 n0_2 c0_2 a0_0 a0_1 a0_2 hr0_0 hn0_0 hc0_0 hn0_2 r j; cases j)⟩
 | k_ + 1 => ⟨Q10.step (Q10.n k_) (Q23.n k_) (Q31.n k_) (Q24.n k_) (Q27.n k_) (Q34.n k_) ((Q10.all k_).1) ((Q10.all k_).2.1) ((Q10.all k_).2.2.1) ((Q10.all k_).2.2.2.1) ((Q10.all k_).2.2.2.2.1) ((Q10.all k_).2.2.2.2.2), Q23.step (Q10.n k_) (Q23.n k_) (Q31.n k_) (Q24.n k_) (Q27.n k_) (Q34.n k_) ((Q10.all k_).1) ((Q10.all k_).2.1) ((Q10.all k_).2.2.1) ((Q10.all k_).2.2.2.1) ((Q10.all k_).2.2.2.2.1) ((Q10.all k_).2.2.2.2.2), Q31.step (Q10.n k_) (Q23.n k_) (Q31.n k_) (Q24.n k_) (Q27.n k_) (Q34.n k_) ((Q10.all k_).1) ((Q10.all k_).2.1) ((Q10.all k_).2.2.1) ((Q10.all k_).2.2.2.1) ((Q10.all k_).2.2.2.2.1) ((Q10.all k_).2.2.2.2.2), Q24.step (Q10.n k_) (Q23.n k_) (Q31.n k_) (Q24.n k_) (Q27.n k_) (Q34.n k_) ((Q10.all k_).1) ((Q10.all k_).2.1) ((Q10.all k_).2.2.1) ((Q10.all k_).2.2.2.1) ((Q10.all k_).2.2.2.2.1) ((Q10.all k_).2.2.2.2.2), Q27.step (Q10.n k_) (Q23.n k_) (Q31.n k_) (Q24.n k_) (Q27.n k_) (Q34.n k_) ((Q10.all k_).1) ((Q10.all k_).2.1) ((Q10.all k_).2.2.1) ((Q10.all k_).2.2.2.1) ((Q10.all k_).2.2.2.2.1) ((Q10.all k_).2.2.2.2.2), Q34.step (Q10.n k_) (Q23.n k_) (Q31.n k_) (Q24.n k_) (Q27.n k_) (Q34.n k_) ((Q10.all k_).1) ((Q10.all k_).2.1) ((Q10.all k_).2.2.1) ((Q10.all k_).2.2.2.1) ((Q10.all k_).2.2.2.2.1) ((Q10.all k_).2.2.2.2.2)⟩
theorem Q10.spec {p : List Q1} {u : Int} {q : List Q2} (hr0_0 : RdS Q1.fl.rep R.heap A0_0 p) (hn0_0 : p.length = n0_0) (hc0_0 : n0_0 ≤ c0_0) (hn0_2 : q.length = n0_2) {r : (List Q2) × (List Q1) × Int × Int} (j : Q10.f p u q = some r) :
 Spec Tryz.prog 52 [bp b0] R (pc b0 [.slice A0_0 n0_0 c0_0, i6 u, .slice A0_2 n0_2 c0_2] 114 :: row Q2.fl 51 A0_2 n0_2 c0_2 q :: Fr) (fun v l' => ∃ (x : Nat) (G : Option Addr) (I : Nat) (J : Option Addr) (D : Nat) (L : Nat), v = i6 r.2.2.2 ∧ pc b0 [.slice J D L, i6 r.2.2.1, .slice G x I] 114 :: row Q2.fl 51 G x I r.1 :: Fr = l' ∧ r.1.length = x ∧ RdS Q1.fl.rep R.heap J r.2.1 ∧ r.2.1.length = D ∧ D ≤ L) := by
 obtain ⟨k_, hk_⟩ := Q208 j; exact (Q10.all k_).1 R Fr b0 A0_0 n0_0 c0_0 A0_2 n0_2 c0_2 p u q hr0_0 hn0_0 hc0_0 hn0_2 hk_

/- told with Q10.f -/

/- told with Q10.f -/

/- told with Q10.f -/

/- told with Q10.f -/

/- told with Q10.f -/

noncomputable def Q146.f (p : List Q2) : Option Unit :=
 some ()
theorem Q146.callee : Callee Tryz.prog 49 := ⟨_, Tryz.func49, by kernel_rfl, by kernel_rfl⟩
theorem Q146.spec {p : List Q2} (hn0_0 : p.length = n0_0) {r : Unit} (j : Q146.f p = some r) :
 SpecD Tryz.prog 49 [bp b0, bp b1] .returning R (pc b0 [.slice A0_0 n0_0 c0_0] 27 :: row Q2.fl 51 A0_0 n0_0 c0_0 p :: pc b1 [.nilIface] 64 :: Fr) (fun v l' => v = .returning ∧ pc b0 [.slice A0_0 n0_0 c0_0] 27 :: row Q2.fl 51 A0_0 n0_0 c0_0 p :: pc b1 [.nilIface] 64 :: Fr = l') := by
 subst hn0_0; refine SpecD.of (d := 5) Tryz.func49 rfl rfl rfl rfl ?_; unfold Q146.f at j; have j := brun j; refine At.block ?_; refine At.seq (At.region ?_); refine At.y (Y.eqIfK (ti' := 0) none rfl rfl rfl rfl) rfl rfl rfl ?_; refine nT ?_; refine At.condT rfl rfl ?_; refine At.region (At.run 1 rfl (At.nil ?_)); refine At.ibn ?_; cases bret j; exact At.res (.inr rfl) rfl rfl ⟨rfl, rfl⟩

noncomputable def Q130.f (a0 : Bs) : Option ((Option Q5) × (List Q2)) :=
 (Q61.f a0).bind fun q =>
 if q.1.isNone = true then
 (Q75.f q.2).bind fun u =>
 (Q10.f u 0 ([] : List Q2)).bind fun p =>
 if (0 : Int) ≤ 0 ∧ 0 < (p.2.1.length : Int) then
 if (gt p.2.1 0).Kind = 0 then
 (Q146.f p.1).bind fun x =>
 some (none, p.1)
 else
 none
 else none
 else
 some (q.1, ([] : List Q2))
theorem Q130.callee : Callee Tryz.prog 28 := ⟨_, Tryz.func28, by kernel_rfl, by kernel_rfl⟩
theorem Q130.spec {a0 : Bs} {r : (Option Q5) × (List Q2)} (j : Q130.f a0 = some r) :
 Spec Tryz.prog 28 [.string ⟨(a0).toArray⟩] R (Fr) (fun v l' => ∃ (U : Option Nat) (D : Nat) (V : Option Addr) (X : Nat), v = .tuple #[.slice V D X, opti 96 U] ∧ row Q2.fl 51 V D X r.2 :: optb (Ow.fl Q5.fl) 107 U r.1 :: Fr = l' ∧ r.2.length = D) := by
 refine SpecE.ret (SpecE.ofD Tryz.func28 rfl rfl ?_); unfold Q130.f at j; have j := brun j; refine At.seq (At.region ?_); refine At.alloc rfl rfl rfl (fun Z => ?_); refine At.alloc rfl rfl rfl (fun a1 => ?_); refine nT (sR 1 rfl ?_); obtain ⟨G, a2, j⟩ := bbind j; refine At.call rfl Q61.callee rfl rfl rfl (Q61.spec a2) ?_; rintro _ _ ⟨I, b5, u, x, rfl, rfl, rfl⟩; refine At.run 4 rfl ?_; refine At.store rfl rfl rfl rfl (.s (.s .z)) (Q262 _ _) rfl (Q236 _ _) (.c .n) ?_; refine nT (At.seq (At.seq (At.region (At.y (Y.load rfl rfl .z rfl rfl rfl) rfl rfl rfl ?_)))); refine At.y (Y.neOptI (.s (.s .z)) rfl rfl rfl) rfl rfl rfl ?_; refine nT ?_; rcases bite j with ⟨J, j⟩ | ⟨J, j⟩
 ··refine At.condF rfl (nf J) ?_
   refine At.skip (At.thn (sR 1 rfl ?_)); refine At.defer rfl rfl ?_; refine nT (sR 1 rfl (At.f1 ?_)); obtain ⟨L, a3, j⟩ := bbind j; refine At.call rfl Q75.callee rfl rfl rfl (Q75.spec rfl a3) ?_; rintro _ _ ⟨b6, rfl, rfl, rfl⟩; refine At.y (Y.build (is := [0]) (xo := [.tmp 16]) (vs := [.slice u L.length x]) (cs := [.slice u L.length x, i6 0, .slice none 0 0]) rfl rfl rfl rfl rfl rfl) rfl rfl rfl ?_; refine At.box rfl rfl (cs := [.slice u L.length x, i6 0, .slice none 0 0]) rfl rfl (fun b7 => ?_); refine At.run 1 rfl (nT (sR 1 rfl ?_)); refine At.nilRow Q2.fl 51 ?_; refine At.freeze (.s (.s .z)) fun b8 a4 a5 a6 b9 a7 => ?_; refine At.f1 ?_; obtain ⟨a8, a9, j⟩ := bbind j; refine At.call rfl Q10.callee rfl rfl rfl (Q10.spec a4 a5 a6 rfl a9) ?_; rintro _ _ ⟨c4, b2, b3, c5, c6, c7, rfl, rfl, rfl, M, rfl, c8⟩; refine nT (At.seq (sR 3 rfl (At.y (Y.load rfl rfl .z rfl rfl rfl) rfl rfl rfl ?_))); obtain ⟨p, j⟩ := bnone j; refine At.y (Y.ixRd M rfl rfl rfl rfl rfl rfl rfl p.1 p.2) rfl rfl rfl ?_; refine At.y (Y.fa (RdS.some_ M rfl p.1 p.2) rfl rfl rfl rfl rfl rfl) rfl rfl rfl ?_; refine At.y (Y.ldFl M rfl (q := 0) rfl rfl p.1 p.2 rfl rfl rfl) rfl rfl rfl (At.run 1 rfl (nT ?_)); rcases bite j with ⟨O, j⟩ | ⟨O, j⟩
   ··refine At.condF rfl (nf (decide_eq_true O)) ?_
     refine At.skip (At.thn (sR 3 rfl (At.y (Y.load rfl rfl .z rfl rfl rfl) rfl rfl rfl ?_))); refine At.store rfl rfl rfl rfl (.s (.s (.s (.s .z)))) rfl rfl rfl (.c .n) ?_; refine At.store rfl rfl rfl rfl (.s (.s (.s .z))) rfl rfl rfl (.c .n) ?_; refine nT (At.ret ?_); refine At.thaw a7 ?_; refine At.f1 (At.f4 (At.f3 ?_)); obtain ⟨c9, b4, j⟩ := bbind j; refine At.leaveD (.inl ⟨.inl rfl, rfl⟩) rfl Q146.callee (Q146.spec rfl b4) ?_; rintro _ _ ⟨rfl, rfl⟩; refine ⟨rfl, _, (RV.cell rfl rfl .z rfl rfl rfl (RV.cell rfl rfl (.s (.s .z)) rfl rfl rfl RV.nil)), ?_⟩; refine At.optNone (Ow.fl Q5.fl) 107 ?_; refine At.drop (.s .z) (At.drop (.s (.s .z)) (At.drop (.s (.s .z)) (At.drop (.s (.s .z)) (At.drop (.s (.s .z)) (At.f1 ?_))))); cases bret j; exact fun a w e hs => ⟨_, ⟨_, rfl, ⟨none, a8.1.length, b2, b3, rfl, rfl, rfl⟩⟩, hs⟩
   ··refine At.condT rfl (nt (decide_eq_false O)) ?_
     refine At.region (At.run 1 rfl ?_); cases j
 ··refine At.condT rfl (nt (bn J)) ?_
   refine At.seq ?_; refine At.held [pc a1 [opti 96 I] 64, row Q1.fl 101 u G.2.length x G.2, optb (Ow.fl Q5.fl) 107 I G.1, pc Z [.slice none 0 0] 27] 3 rfl ?_; refine At.H.tw 0 rfl (Y.load rfl rfl .z rfl rfl rfl) rfl rfl rfl (.c .z (.c .z (.c .z (.c .z .n)))) ?_; refine At.H.al [1] (Q6 ?_ Q7)
   ··refine At.HO.op rfl ?_
     refine At.store rfl rfl rfl rfl (.s (.s (.s .z))) rfl rfl rfl (.c .n) ?_; refine At.HO.back (.c (.s .z) (.c (.s .z) (.c (.s .z) (.c .z .n)))) ?_; refine At.H.al [2] (Q6 ?_ Q7)
     ··refine At.HO.op rfl ?_
       refine At.store rfl rfl rfl rfl (.s .z) (Q262 _ _) rfl (Q236 _ _) (.c .n) ?_; refine At.HO.back (.c .z (.c (.s .z) (.c (.s .z) (.c .z .n)))) ?_; refine At.H.done (by kernel_rfl) ?_; refine At.thn (At.ret (At.thr ?_)); refine At.resMD (.inl rfl) rfl (RV.cell rfl rfl (.s .z) rfl rfl rfl (RV.cell rfl rfl .z rfl rfl rfl RV.nil)) ?_; refine At.nilRow Q2.fl 51 ?_; refine At.drop (.s .z) (At.drop (.s .z) (At.drop (.s .z) ?_)); cases bret j; exact fun a w e hs => ⟨_, ⟨_, rfl, ⟨I, 0, none, 0, rfl, rfl, rfl⟩⟩, hs⟩

end Go.Bw
namespace Go.Bw
open Go Go.RowKit

section
variable {α : Type} {P : Program} [Tys P] {os : List Oper} {Q : Exit → Act → World → Prop} {rest : List Oper} {n : Nat} {ds : List Deferred} {R : Res} {env : List (Nat × Value)} {l l' : List HProp}
variable {d ty t e : Nat} {pos : String} {af : Array Edge} {g : Option (Nat × Bool)}
theorem At.makeW {F : Fl α} {x y : Operand} {m : Int} {k k' : IntKind} {bytes : Nat} {z : α} {ii j : TI} (hg : grd os env g = some true) (hi : ti P t = some ii) (hk : ii.k = .slice e) (hj : ti P e = some j) (hjs : j.size = F.sz) (hjb : j.bytes = bytes) (hz : j.zero = F.enc z)
 (hx : ev env x = some (.int k m)) (hy : ev env y = some (.int k' m)) (h0 : 0 ≤ m) (h1 : (bytes : Int) * m ≤ 281474976710656) (hb0 : 0 < bytes) (hd : Nat.blt d n = true)
 (h : ∀ A c, At n ds R ((d, .slice A (List.replicate m.toNat z).length c) :: env) (row F e A (List.replicate m.toNat z).length c (List.replicate m.toNat z) :: l) (wpList P os.toArray Q rest)) :
 At n ds R env l (wpList P os.toArray Q (⟨some d, .makeSlice t x y, ty, pos, af, g⟩ :: rest)) := Q85 hg rfl hd fun a w e0 hs => by
 obtain ⟨xi, zv, hxi, hsz, hby, hze, hzc⟩ := (Q12 hj).info
 have hm : m ≤ 9223372036854775807 := by
  have := Int.mul_le_mul_of_nonneg_right (show (1 : Int) ≤ (bytes : Int) by omega) h0
  omega
 have hr := run_make (P := P) w t e xi zv ((Q12 hi).slice hk) hxi hze k k' m m h0 (Int.le_refl _) (by rw [hby, hjb]; exact h1) hm
 refine ⟨.slice (some ⟨w.heap.size, 0, none⟩) m.toNat m.toNat, w.alloc (.cells (madeCells zv.cells (m.toNat * xi.size)) e), row F e (some ⟨w.heap.size, 0, none⟩) m.toNat m.toNat (List.replicate m.toNat z) :: l, ?_, ?_, by have := h (some ⟨w.heap.size, 0, none⟩) m.toNat; rwa [List.length_replicate] at this⟩
 ·simp only [execOp, e0.ev hx, e0.ev hy, Sem.run_bind, hr, Result.andThen, Sem.run_pure]
 ·refine (hs.alloc _).imp fun h' o => ?_
  have hl := F.len z
  have hp := F.pos
  have hcells : (madeCells zv.cells (m.toNat * xi.size)).toList = (List.replicate m.toNat z).flatMap F.enc := by
   rw [hsz, hjs, hzc, hz]
   unfold madeCells
   simp only [Array.toList_map, Array.toList_range]
   apply List.ext_getElem?
   intro q
   by_cases hq : q < m.toNat * F.sz
   ·have hd := Nat.div_lt_of_lt_mul (by rwa [Nat.mul_comm] at hq : q < F.sz * m.toNat)
    have := Q133 F (xs := List.replicate m.toNat z) (i := q / F.sz) (x := z) (j := q % F.sz) (by simp [hd]) (Nat.mod_lt _ hp)
    rw [Nat.div_add_mod'] at this
    rw [this]
    have hlt : q % F.sz < (F.enc z).length := by rw [hl]; exact Nat.mod_lt _ hp
    have hg := List.getElem?_eq_getElem hlt
    rw [hg]
    simp [hq, hl, hg]
   ·rw [List.getElem?_eq_none (by simp; omega), List.getElem?_eq_none (by rw [Q37, List.length_replicate]; omega)]
  refine ⟨by rw [Q37, List.length_replicate], .inr ⟨w.heap.size, _, rfl, o, by simp, by simp only [maxLen]; omega, ?_, ?_⟩⟩
  ·simp [madeCells, hsz, hjs]
  ·rw [hcells, List.take_of_length_le (by rw [Q37]; simp)]
end
end Go.Bw
namespace Go.Bw
open Go Go.RowKit Go.Proofs
variable {R : Res} {Fr : List HProp} {A0 A1 A0_0 A0_1 A0_3 A0_4 A0_5 A0_2 A0_7 : Option Addr} {n0 c0 n1 c1 b0 n0_0 c0_0 n0_1 c0_1 n0_3 c0_3 n0_4 c0_4 n0_5 c0_5 b0_1 b0_2 b0_0 b0_0_1 b0_0_2 n0_2 c0_2 n0_7 c0_7 : Nat}
structure Q13 where
 node : Int
 nots : Int
deriving Inhabited, DecidableEq
def Q13.fl : Fl Q13 := ⟨2, fun x => [i6 x.node, i6 x.nots], fun _ => rfl, fun x u hu => by simp at hu; rcases hu with rfl | rfl <;> rfl, by decide⟩
noncomputable def Q118.f (a0 : List Q2) : Option (List Q2) :=
 if (0 + a0.length) * 48 ≤ 140737488355328 then some a0 else none
theorem Q118.callee : Callee Tryz.prog 68 := ⟨_, Tryz.func68, by kernel_rfl, by kernel_rfl⟩
theorem Q118.spec {a0 : List Q2} (hr0 : RdS (Q2.fl.rep) R.heap A0 a0) (hn0 : a0.length = n0) (hc0 : n0 ≤ c0) {r : List Q2} (j : Q118.f a0 = some r) :
 Spec Tryz.prog 68 [.slice A0 n0 c0] R (Fr) (fun v l' => ∃ (w1 : Option Addr) (w2 : Nat), v = .slice w1 r.length w2 ∧ row Q2.fl 51 w1 r.length w2 r :: Fr = l') := by
 subst hn0; refine Spec.of Tryz.func68 rfl rfl ?_; unfold Q118.f at j; have j := brun j; obtain ⟨hb, j⟩ := bnone j; cases bret j; refine sR 1 rfl (nT (At.seq (At.seq (At.region ?_)))); refine At.run 1 rfl ?_; refine At.y (Y.eqNil rfl rfl rfl rfl) rfl rfl rfl ?_; refine nT ?_; cases A0 with
 | none =>
  have ha : a0 = [] := RdS.isNil hr0; subst ha; refine At.condT rfl rfl ?_; refine sR 1 rfl (nT (At.ret (At.thr ?_))); refine At.nilRow Q2.fl 51 ?_; exact At.res (.inl rfl) rfl rfl ⟨_, _, rfl, rfl⟩
 | some ad =>
  refine At.condF rfl rfl ?_; refine At.skip (At.thn (At.seq (At.region ?_))); refine At.lit rfl (xo := []) (ys := ([] : List Q2)) Q2.fl rfl rfl rfl rfl rfl rfl rfl rfl rfl rfl rfl (fun B cb => ?_); refine At.run 1 rfl ?_; refine At.appendAll rfl .z (SrcE.rd hr0) rfl rfl rfl rfl rfl rfl rfl rfl rfl hb (by decide) rfl (fun A c => ?_); refine At.run 1 rfl (nT (At.ret ?_)); exact At.res (.inl rfl) rfl rfl ⟨_, _, rfl, rfl⟩

noncomputable def Q44.l0b (a0 : Bs) (p : Int) : Option ((Int) ⊕ ((Unit) ⊕ (Bool))) :=
 if p < (a0.length : Int) then
 if (0 : Int) ≤ p ∧ p < (a0.length : Int) then
 jn (
 if bor .u8 (bat a0 p) 32 < 97 then
 some (.inl true)
 else
 some (.inl (decide (122 < bor .u8 (bat a0 p) 32)))) (fun (q : Bool) =>
 jn (
 if q = true then
 jn (
 if bat a0 p < 48 then
 some (.inl (true, true))
 else
 some (.inl (false, decide (57 < bat a0 p)))) (fun (s_ : Bool × Bool) =>
 some (.inl s_.2))
 else
 some (.inl false)) (fun (u : Bool) =>
 jn (
 if u = true then
 some (.inl (!(decide (bat a0 p = 95))))
 else
 some (.inl false)) (fun (x : Bool) =>
 if x = true then
 upL (some false)
 else
 nx (IntKind.i64.wrap (p + 1)))))
 else none
 else
 dn (.inl ())
noncomputable def Q44.l0 (a0 : Bs) (p : Int) : Option ((Unit) ⊕ (Bool)) := iter (fun t_ : Int => Q44.l0b a0 t_) p
noncomputable def Q44.f (a0 : Bs) (a1 a2 : Int) : Option Bool :=
 jn (
 if (a0.length : Int) < 1 then
 some (.inl true)
 else
 some (.inl (decide (8 < (a0.length : Int))))) (fun (p : Bool) =>
 jn (
 if p = true then
 some (.inl true)
 else
 if (0 : Int) ≤ 0 ∧ 0 < (a0.length : Int) then
 some (.inl (decide (bat a0 0 < a1)))
 else none) (fun (q : Bool) =>
 jn (
 if q = true then
 some (.inl true)
 else
 if (0 : Int) ≤ 0 ∧ 0 < (a0.length : Int) then
 some (.inl (decide (a2 < bat a0 0)))
 else none) (fun (u : Bool) =>
 if u = true then
 some false
 else
 jn (Q44.l0 a0 0) (fun (_ : Unit) =>
 some true))))
theorem Q44.callee : Callee Tryz.prog 204 := ⟨_, Tryz.func204, by kernel_rfl, by kernel_rfl⟩
theorem Q44.spec {a0 : Bs} {a1 a2 : Int} {r : Bool} (j : Q44.f a0 a1 a2 = some r) :
 Spec Tryz.prog 204 [.string ⟨(a0).toArray⟩, .int .u8 a1, .int .u8 a2] R (Fr) (fun v l' => v = .bool r ∧ Fr = l') := by
 refine Spec.of Tryz.func204 rfl rfl ?_; unfold Q44.f at j; have j := brun j; refine sR 1 rfl (nT (At.seq (At.seq (At.region ?_)))); refine At.run 4 rfl ?_; obtain ⟨c7, c8, e9, j⟩ := bjoin j; refine At.joinO 4 (X := Bool) (fun u => [(0, .string ⟨(a0).toArray⟩), (1, .int .u8 a1), (2, .int .u8 a2), (16, .bool u)]) (fun u => Fr) (fun u => c7 (.inl u) = some r) ?_ (fun b2 => ?_)
 ·rintro u j; have j := (c8 _).symm.trans j
  ·refine At.run 1 rfl ?_; obtain ⟨c9, d0, f0, j⟩ := bjoin j; refine At.joinO 5 (X := Bool) (fun x => [(0, .string ⟨(a0).toArray⟩), (2, .int .u8 a2), (22, .bool x)]) (fun x => Fr) (fun x => c9 (.inl x) = some r) ?_ (fun b3 => ?_)
   ·rintro x j; have j := (d0 _).symm.trans j
    ·refine At.run 1 rfl ?_; obtain ⟨d1, d2, f1, j⟩ := bjoin j; refine At.joinO 5 (X := Bool) (fun D => [(0, .string ⟨(a0).toArray⟩), (28, .bool D)]) (fun D => Fr) (fun D => d1 (.inl D) = some r) ?_ (fun b4 => ?_)
     ·rintro D j; have j := (d2 _).symm.trans j
      ·refine nT ?_; rcases bite j with ⟨M, j⟩ | ⟨M, j⟩
       ··refine At.condT rfl M ?_
         refine sR 1 rfl (nT (At.ret (At.thr ?_))); cases bret j; exact At.res (.inl rfl) rfl rfl ⟨rfl, rfl⟩
       ··refine At.condF rfl (bn M) ?_
         refine At.skip (At.thn (At.seq (sR 3 rfl (nT ?_)))); refine At.block ?_; obtain ⟨d3, d4, d5, j⟩ := bjoin j; obtain ⟨q, O, b5⟩ := bsome j; clear j; unfold Q44.l0 at O; obtain ⟨U, G⟩ := Q17.1 O; clear O; refine At.loopJ (X := Int) (Y := Unit) (e0 := 0) (fun p => [(0, .string ⟨(a0).toArray⟩), (30, i6 (a0.length : Int)), (31, i6 p)]) (fun p => Fr) (fun m_ => fun p => iterN (fun t_ : Int => Q44.l0b a0 t_) m_ p = some q) U 0 G (fun _ => []) (fun _ => Fr) (fun _ => d3 (.inl ()) = some r) (fun a w e hs => ⟨e.sub ⟨rfl, rfl, rfl, trivial⟩, (by exact hs)⟩) ?_ (fun d6 => ?_)
         ·rintro _ j; have j := (d4 _).symm.trans j
          ·refine At.ibx ?_; refine At.thn (sR 1 rfl (nT (At.ret ?_))); cases bret j; exact At.res (.inl rfl) rfl rfl ⟨rfl, rfl⟩
         ·clear G U; rintro U p G; obtain ⟨d7, f_, d8, hf_, j⟩ := bit G; clear G; have j : (Q44.l0b a0 p).bind _ = some q := j; unfold Q44.l0b at j
          ·refine sR 1 rfl (nT (At.seq ?_)); rcases bite j with ⟨V, j⟩ | ⟨V, j⟩
           ··refine At.condT rfl (decide_eq_true V) ?_
             refine At.skip (At.thn (At.seq ?_)); refine At.block ?_; refine sR 2 rfl (nT (sR 2 rfl ?_)); obtain ⟨b6, j⟩ := bnone j; refine At.y (Y.ixStr rfl rfl rfl rfl b6.1 b6.2) rfl rfl rfl (At.run 1 rfl (nT (sR 4 rfl ?_))); obtain ⟨d9, e1, f2, j⟩ := bjoin j; refine At.joinO 4 (X := Bool) (fun I => [(0, .string ⟨(a0).toArray⟩), (8, .int .u8 (bat a0 p)), (30, i6 (a0.length : Int)), (31, i6 p), (44, .bool I)]) (fun I => Fr) (fun I => d9 (.inl I) = some q) ?_ (fun b7 => ?_)
             ·rintro I j; have j := (e1 _).symm.trans j
              ·refine At.run 1 rfl ?_; obtain ⟨e2, e3, f3, j⟩ := bjoin j; refine At.joinO 7 (X := Bool) (fun J => [(0, .string ⟨(a0).toArray⟩), (8, .int .u8 (bat a0 p)), (30, i6 (a0.length : Int)), (31, i6 p), (52, .bool J)]) (fun J => Fr) (fun J => e2 (.inl J) = some q) ?_ (fun b8 => ?_)
               ·rintro J j; have j := (e3 _).symm.trans j
                ·refine At.run 1 rfl ?_; obtain ⟨e4, e5, f4, j⟩ := bjoin j; refine At.joinO 3 (X := Bool) (fun L => [(0, .string ⟨(a0).toArray⟩), (30, i6 (a0.length : Int)), (31, i6 p), (56, .bool L)]) (fun L => Fr) (fun L => e4 (.inl L) = some q) ?_ (fun b9 => ?_)
                 ·rintro L j; have j := (e5 _).symm.trans j
                  ·refine nT ?_; rcases bite j with ⟨Z, j⟩ | ⟨Z, j⟩
                   ··refine At.condT rfl Z ?_
                     refine sR 1 rfl (nT (At.ret ?_)); refine At.ibr ?_; refine At.thr ?_; have j := bupL d5 b5 j; refine At.thr ?_; refine At.ibr ?_; refine At.thr ?_; cases bret j; exact At.res (.inl rfl) rfl rfl ⟨rfl, rfl⟩
                   ··refine At.condF rfl (bn Z) ?_
                     refine At.skip ?_; refine At.ibn ?_; refine At.thn (At.region (At.run 2 rfl (At.nil ?_))); have j := bnx hf_ j; exact fun a w e hs => ⟨d7, (IntKind.i64.wrap (p + 1)), d8, j, e.sub ⟨rfl, rfl, rfl, trivial⟩, hs⟩
                 ··rcases bite j with ⟨a3, j⟩ | ⟨a3, j⟩
                   ··refine At.know (t := 53) rfl a3 ?_
                     refine At.run 3 rfl ?_; exact At.of (b9 (!(decide (bat a0 p = 95))) j) ⟨rfl, rfl, rfl, rfl, trivial⟩
                   ··refine At.know (t := 53) rfl (bn a3) ?_
                     refine At.run 3 rfl ?_; exact At.of (b9 false j) ⟨rfl, rfl, rfl, rfl, trivial⟩
               ··rcases bite j with ⟨a4, j⟩ | ⟨a4, j⟩
                 ··refine At.know (t := 45) rfl a4 ?_
                   refine At.run 3 rfl ?_; obtain ⟨e6, e7, f5, j⟩ := bjoin j; refine At.joinO 3 (X := Bool × Bool) (fun s_ => [(0, .string ⟨(a0).toArray⟩), (8, .int .u8 (bat a0 p)), (30, i6 (a0.length : Int)), (31, i6 p), (45, .bool true), (46, .int .u8 (bat a0 p)), (47, .bool (decide (bat a0 p < 48))), (48, .bool s_.1), (51, .bool s_.2)]) (fun s_ => Fr) (fun s_ => e6 (.inl (s_.1, s_.2)) = some q) ?_ (fun c4 => ?_)
                   ·rintro ⟨f6, e8⟩ j; have j := (e7 _).symm.trans j
                    ·refine At.run 1 rfl ?_; exact At.of (b8 e8 j) ⟨rfl, rfl, rfl, rfl, rfl, trivial⟩
                   ··rcases bite j with ⟨a5, j⟩ | ⟨a5, j⟩
                     ··refine At.know (t := 48) rfl (decide_eq_true a5) ?_
                       refine At.run 3 rfl ?_; exact At.of (c4 (true, true) j) ⟨rfl, rfl, rfl, rfl, rfl, rfl, rfl, rfl, rfl, trivial⟩
                     ··refine At.know (t := 48) rfl (decide_eq_false a5) ?_
                       refine At.run 3 rfl ?_; exact At.of (c4 (false, decide (57 < bat a0 p)) j) ⟨rfl, rfl, rfl, rfl, rfl, rfl, rfl, rfl, rfl, trivial⟩
                 ··refine At.know (t := 45) rfl (bn a4) ?_
                   refine At.run 7 rfl ?_; exact At.of (b8 false j) ⟨rfl, rfl, rfl, rfl, rfl, trivial⟩
             ··rcases bite j with ⟨a6, j⟩ | ⟨a6, j⟩
               ··refine At.know (t := 40) rfl (decide_eq_true a6) ?_
                 refine At.run 4 rfl ?_; exact At.of (b7 true j) ⟨rfl, rfl, rfl, rfl, rfl, trivial⟩
               ··refine At.know (t := 40) rfl (decide_eq_false a6) ?_
                 refine At.run 4 rfl ?_; exact At.of (b7 (decide (122 < bor .u8 (bat a0 p) 32)) j) ⟨rfl, rfl, rfl, rfl, rfl, trivial⟩
           ··refine At.condF rfl (decide_eq_false V) ?_
             refine At.exit ?_; refine At.the ?_; refine At.the ?_; exact fun a w e hs => d6 () (bdn j b5) a w (e.sub trivial) hs
     ··rcases bite j with ⟨a7, j⟩ | ⟨a7, j⟩
       ··refine At.know (t := 23) rfl a7 ?_
         refine At.run 5 rfl ?_; exact At.of (b4 true j) ⟨rfl, rfl, trivial⟩
       ··refine At.know (t := 23) rfl (bn a7) ?_
         refine At.run 1 rfl ?_; obtain ⟨c5, j⟩ := bnone j; refine At.y (Y.ixStr rfl rfl rfl rfl c5.1 c5.2) rfl rfl rfl (At.run 3 rfl ?_); exact At.of (b4 (decide (a2 < bat a0 0)) j) ⟨rfl, rfl, trivial⟩
   ··rcases bite j with ⟨a8, j⟩ | ⟨a8, j⟩
     ··refine At.know (t := 17) rfl a8 ?_
       refine At.run 5 rfl ?_; exact At.of (b3 true j) ⟨rfl, rfl, rfl, trivial⟩
     ··refine At.know (t := 17) rfl (bn a8) ?_
       refine At.run 1 rfl ?_; obtain ⟨c6, j⟩ := bnone j; refine At.y (Y.ixStr rfl rfl rfl rfl c6.1 c6.2) rfl rfl rfl (At.run 3 rfl ?_); exact At.of (b3 (decide (bat a0 0 < a1)) j) ⟨rfl, rfl, rfl, trivial⟩
 ··rcases bite j with ⟨a9, j⟩ | ⟨a9, j⟩
   ··refine At.know (t := 12) rfl (decide_eq_true a9) ?_
     refine At.run 4 rfl ?_; exact At.of (b2 true j) ⟨rfl, rfl, rfl, rfl, trivial⟩
   ··refine At.know (t := 12) rfl (decide_eq_false a9) ?_
     refine At.run 4 rfl ?_; exact At.of (b2 (decide (8 < (a0.length : Int))) j) ⟨rfl, rfl, rfl, rfl, trivial⟩

noncomputable def Q95.f (a0 : Bs) : Option Bool :=
 (Q44.f a0 97 122).bind fun p =>
 jn (
 if p = true then
 (Q98.f a0).bind fun q =>
 some (.inl (!q))
 else
 some (.inl false)) (fun (u : Bool) =>
 some u)
theorem Q95.callee : Callee Tryz.prog 184 := ⟨_, Tryz.func184, by kernel_rfl, by kernel_rfl⟩
theorem Q95.spec {a0 : Bs} {r : Bool} (j : Q95.f a0 = some r) :
 Spec Tryz.prog 184 [.string ⟨(a0).toArray⟩] R (Fr) (fun v l' => v = .bool r ∧ Fr = l') := by
 refine Spec.of Tryz.func184 rfl rfl ?_; unfold Q95.f at j; have j := brun j; refine sR 1 rfl (nT (sR 1 rfl ?_)); obtain ⟨L, x, j⟩ := bbind j; refine At.call rfl Q44.callee rfl rfl rfl (Q44.spec x) ?_; rintro _ _ ⟨rfl, rfl⟩; refine At.run 1 rfl ?_; obtain ⟨D, G, M, j⟩ := bjoin j; refine At.joinO 4 (X := Bool) (fun p => [(9, .bool p)]) (fun p => Fr) (fun p => D (.inl p) = some r) ?_ (fun u => ?_)
 ·rintro p j; have j := (G _).symm.trans j
  ·refine At.run 1 rfl (nT (At.ret ?_)); cases bret j; exact At.res (.inl rfl) rfl rfl ⟨rfl, rfl⟩
 ··rcases bite j with ⟨q, j⟩ | ⟨q, j⟩
   ··refine At.know (t := 5) rfl q ?_
     refine At.run 1 rfl ?_; obtain ⟨I, J, j⟩ := bbind j; refine At.call rfl Q98.callee rfl rfl rfl (Q98.spec J) ?_; rintro _ _ ⟨rfl, rfl⟩; refine At.run 2 rfl ?_; exact At.of (u (!I) j) ⟨rfl, trivial⟩
   ··refine At.know (t := 5) rfl (bn q) ?_
     refine At.run 4 rfl ?_; exact At.of (u false j) ⟨rfl, trivial⟩

noncomputable def Q94.f (a0 : Bs) : Option Bool :=
 (Q44.f a0 65 90).bind fun p =>
 some p
theorem Q94.callee : Callee Tryz.prog 185 := ⟨_, Tryz.func185, by kernel_rfl, by kernel_rfl⟩
theorem Q94.spec {a0 : Bs} {r : Bool} (j : Q94.f a0 = some r) :
 Spec Tryz.prog 185 [.string ⟨(a0).toArray⟩] R (Fr) (fun v l' => v = .bool r ∧ Fr = l') := by
 refine Spec.of Tryz.func185 rfl rfl ?_; unfold Q94.f at j; have j := brun j; refine sR 1 rfl (nT (sR 1 rfl ?_)); obtain ⟨q, p, j⟩ := bbind j; refine At.call rfl Q44.callee rfl rfl rfl (Q44.spec p) ?_; rintro _ _ ⟨rfl, rfl⟩; refine At.run 1 rfl (nT (At.ret ?_)); cases bret j; exact At.res (.inl rfl) rfl rfl ⟨rfl, rfl⟩

noncomputable def Q121.f (p U V : Int) (q : Bs) (X : Int) : Option (Bool × Int) :=
 jn (
 if p = 1 then
 some (.inl (decide (p = 1)))
 else
 some (.inl (decide (p = 2)))) (fun (u : Bool) =>
 if u = true then
 some (bseq q ([] : Bs), 0)
 else
 if p = 3 then
 (Q95.f q).bind fun x =>
 some (x, 0)
 else
 if p = 4 then
 (Q94.f q).bind fun D =>
 some (D, 0)
 else
 if p = 5 then
 some (bseq q ([] : Bs), 1)
 else
 jn (
 if p = 8 then
 some (.inl (decide (p = 8)))
 else
 some (.inl (decide (p = 9)))) (fun (G : Bool) =>
 if G = true then
 jn (
 if bseq q ([45] : Bs) = true then
 some (.inl true)
 else
 (Q95.f q).bind fun I =>
 some (.inl I)) (fun (J : Bool) =>
 some (J, 1))
 else
 jn (
 if p = 10 then
 some (.inl (decide (p = 10)))
 else
 some (.inl (decide (p = 11)))) (fun (L : Bool) =>
 if L = true then
 (Q94.f q).bind fun M =>
 some (M, 1)
 else
 jn (
 if p = 6 then
 some (.inl (decide (p = 6)))
 else
 some (.inl (decide (p = 7)))) (fun (O : Bool) =>
 if O = true then
 some (bseq q ([] : Bs), 2)
 else
 some (false, 0)))))
theorem Q121.callee : Callee Tryz.prog 136 := ⟨_, Tryz.func136, by kernel_rfl, by kernel_rfl⟩
theorem Q121.spec {p J L M : Int} {O : Bs} {r : Bool × Int} (j : Q121.f p J L O M = some r) :
 Spec Tryz.prog 136 [.agg #[i6 p, i6 J, i6 L, .string ⟨(O).toArray⟩, i6 M]] R (Fr) (fun v l' => v = .tuple #[i6 r.2, .bool r.1] ∧ Fr = l') := by
 refine Spec.of Tryz.func136 rfl rfl ?_; unfold Q121.f at j; have j := brun j; refine At.seq (At.region ?_); refine At.box rfl rfl (cs := [i6 p, i6 J, i6 L, .string ⟨(O).toArray⟩, i6 M]) rfl rfl (fun q => ?_); refine At.run 2 rfl (nT (At.seq (sR 1 rfl (At.y (Y.load rfl rfl .z rfl rfl rfl) rfl rfl rfl ?_)))); refine nT ?_; refine At.block ?_; refine At.seq (sR 2 rfl (nT ?_)); obtain ⟨b6, b7, d5, j⟩ := bjoin j; let T1 : HProp := pc q [i6 p, i6 J, i6 L, .string ⟨(O).toArray⟩, i6 M] 51; refine At.join (X := Bool) (fun u => [(1, bp q), (5, i6 p), (6, .bool u)]) (fun u => T1 :: Fr) (fun u => b6 (.inl u) = some r) ?_ (fun a9 => ?_)
 ·rintro u j; have j := (b7 _).symm.trans j
  ·rcases bite j with ⟨U, j⟩ | ⟨U, j⟩
   ··refine At.condT rfl U ?_
     refine At.seq ?_; refine At.quiet (by kernel_rfl) ?_; refine At.Quiet.run 1 rfl ?_; refine At.Quiet.y (Y.load rfl rfl .z rfl rfl rfl) rfl rfl rfl ?_; refine At.Quiet.run 3 rfl (At.Quiet.nil (At.thn (At.ret ?_))); refine At.ibr ?_; refine At.thr (At.drop .z ?_); cases bret j; exact At.res (.inl rfl) rfl rfl ⟨rfl, rfl⟩
   ··refine At.condF rfl (bn U) ?_
     refine sR 2 rfl (nT ?_); rcases bite j with ⟨V, j⟩ | ⟨V, j⟩
     ··refine At.condT rfl (decide_eq_true V) ?_
       refine sR 1 rfl (At.y (Y.load rfl rfl .z rfl rfl rfl) rfl rfl rfl ?_); obtain ⟨d6, b8, j⟩ := bbind j; refine At.call rfl Q95.callee rfl rfl rfl (Q95.spec b8) ?_; rintro _ _ ⟨rfl, rfl⟩; refine At.run 2 rfl (nT (At.ret ?_)); refine At.ibr ?_; refine At.thr (At.drop .z ?_); cases bret j; exact At.res (.inl rfl) rfl rfl ⟨rfl, rfl⟩
     ··refine At.condF rfl (decide_eq_false V) ?_
       refine sR 2 rfl (nT ?_); rcases bite j with ⟨Z, j⟩ | ⟨Z, j⟩
       ··refine At.condT rfl (decide_eq_true Z) ?_
         refine sR 1 rfl (At.y (Y.load rfl rfl .z rfl rfl rfl) rfl rfl rfl ?_); obtain ⟨d7, b9, j⟩ := bbind j; refine At.call rfl Q94.callee rfl rfl rfl (Q94.spec b9) ?_; rintro _ _ ⟨rfl, rfl⟩; refine At.run 2 rfl (nT (At.ret ?_)); refine At.ibr ?_; refine At.thr (At.drop .z ?_); cases bret j; exact At.res (.inl rfl) rfl rfl ⟨rfl, rfl⟩
       ··refine At.condF rfl (decide_eq_false Z) ?_
         refine sR 2 rfl (nT ?_); rcases bite j with ⟨a0, j⟩ | ⟨a0, j⟩
         ··refine At.condT rfl (decide_eq_true a0) ?_
           refine At.seq ?_; refine At.quiet (by kernel_rfl) ?_; refine At.Quiet.run 1 rfl ?_; refine At.Quiet.y (Y.load rfl rfl .z rfl rfl rfl) rfl rfl rfl ?_; refine At.Quiet.run 3 rfl (At.Quiet.nil (At.thn (At.ret ?_))); refine At.ibr ?_; refine At.thr (At.drop .z ?_); cases bret j; exact At.res (.inl rfl) rfl rfl ⟨rfl, rfl⟩
         ··refine At.condF rfl (decide_eq_false a0) ?_
           refine At.seq (sR 2 rfl (nT ?_)); obtain ⟨c4, c5, d8, j⟩ := bjoin j; refine At.join (X := Bool) (fun x => [(1, bp q), (5, i6 p), (27, .bool x)]) (fun x => T1 :: Fr) (fun x => c4 (.inl x) = some r) ?_ (fun b2 => ?_)
           ·rintro x j; have j := (c5 _).symm.trans j
            ·rcases bite j with ⟨a1, j⟩ | ⟨a1, j⟩
             ··refine At.condT rfl a1 ?_
               refine sR 1 rfl (At.y (Y.load rfl rfl .z rfl rfl rfl) rfl rfl rfl (At.run 2 rfl ?_)); obtain ⟨c6, c7, d9, j⟩ := bjoin j; refine At.joinO 4 (X := Bool) (fun D => [(37, .bool D)]) (fun D => T1 :: Fr) (fun D => c6 (.inl D) = some r) ?_ (fun b3 => ?_)
               ·rintro D j; have j := (c7 _).symm.trans j
                ·refine At.run 2 rfl (nT (At.ret ?_)); refine At.ibr ?_; refine At.thr (At.drop .z ?_); cases bret j; exact At.res (.inl rfl) rfl rfl ⟨rfl, rfl⟩
               ··rcases bite j with ⟨a2, j⟩ | ⟨a2, j⟩
                 ··refine At.know (t := 33) rfl a2 ?_
                   refine At.run 4 rfl ?_; exact At.of (b3 true j) ⟨rfl, trivial⟩
                 ··refine At.know (t := 33) rfl (bn a2) ?_
                   refine At.run 1 rfl (At.y (Y.load rfl rfl .z rfl rfl rfl) rfl rfl rfl ?_); obtain ⟨c8, c9, j⟩ := bbind j; refine At.call rfl Q95.callee rfl rfl rfl (Q95.spec c9) ?_; rintro _ _ ⟨rfl, rfl⟩; refine At.run 1 rfl ?_; exact At.of (b3 c8 j) ⟨rfl, trivial⟩
             ··refine At.condF rfl (bn a1) ?_
               refine At.seq (sR 2 rfl (nT ?_)); obtain ⟨d0, d1, e0, j⟩ := bjoin j; refine At.join (X := Bool) (fun G => [(1, bp q), (5, i6 p), (38, .bool G)]) (fun G => T1 :: Fr) (fun G => d0 (.inl G) = some r) ?_ (fun b4 => ?_)
               ·rintro G j; have j := (d1 _).symm.trans j
                ·rcases bite j with ⟨a3, j⟩ | ⟨a3, j⟩
                 ··refine At.condT rfl a3 ?_
                   refine sR 1 rfl (At.y (Y.load rfl rfl .z rfl rfl rfl) rfl rfl rfl ?_); obtain ⟨e1, d2, j⟩ := bbind j; refine At.call rfl Q94.callee rfl rfl rfl (Q94.spec d2) ?_; rintro _ _ ⟨rfl, rfl⟩; refine At.run 2 rfl (nT (At.ret ?_)); refine At.ibr ?_; refine At.thr (At.drop .z ?_); cases bret j; exact At.res (.inl rfl) rfl rfl ⟨rfl, rfl⟩
                 ··refine At.condF rfl (bn a3) ?_
                   refine At.seq (sR 2 rfl (nT ?_)); obtain ⟨d3, d4, e2, j⟩ := bjoin j; refine At.join (X := Bool) (fun I => [(1, bp q), (44, .bool I)]) (fun I => T1 :: Fr) (fun I => d3 (.inl I) = some r) ?_ (fun b5 => ?_)
                   ·rintro I j; have j := (d4 _).symm.trans j
                    ·rcases bite j with ⟨a4, j⟩ | ⟨a4, j⟩
                     ··refine At.condT rfl a4 ?_
                       refine At.seq ?_; refine At.quiet (by kernel_rfl) ?_; refine At.Quiet.run 1 rfl ?_; refine At.Quiet.y (Y.load rfl rfl .z rfl rfl rfl) rfl rfl rfl ?_; refine At.Quiet.run 3 rfl (At.Quiet.nil (At.thn (At.ret ?_))); refine At.ibr ?_; refine At.thr (At.drop .z ?_); cases bret j; exact At.res (.inl rfl) rfl rfl ⟨rfl, rfl⟩
                     ··refine At.condF rfl (bn a4) ?_
                       refine At.skip ?_; refine At.ibn ?_; refine At.thn (sR 2 rfl (nT (At.ret (At.drop .z ?_)))); cases bret j; exact At.res (.inl rfl) rfl rfl ⟨rfl, rfl⟩
                   ··rcases bite j with ⟨a5, j⟩ | ⟨a5, j⟩
                     ··refine At.condT rfl (decide_eq_true a5) ?_
                       refine At.skip (At.thn ?_); exact fun a w e hs => b5 (decide (p = 6)) j a w (e.sub ⟨rfl, rfl, trivial⟩) hs
                     ··refine At.condF rfl (decide_eq_false a5) ?_
                       refine At.region (At.run 2 rfl (nT ?_)); exact fun a w e hs => b5 (decide (p = 7)) j a w (e.sub ⟨rfl, rfl, trivial⟩) hs
               ··rcases bite j with ⟨a6, j⟩ | ⟨a6, j⟩
                 ··refine At.condT rfl (decide_eq_true a6) ?_
                   refine At.skip (At.thn ?_); exact fun a w e hs => b4 (decide (p = 10)) j a w (e.sub ⟨rfl, rfl, rfl, trivial⟩) hs
                 ··refine At.condF rfl (decide_eq_false a6) ?_
                   refine At.region (At.run 2 rfl (nT ?_)); exact fun a w e hs => b4 (decide (p = 11)) j a w (e.sub ⟨rfl, rfl, rfl, trivial⟩) hs
           ··rcases bite j with ⟨a7, j⟩ | ⟨a7, j⟩
             ··refine At.condT rfl (decide_eq_true a7) ?_
               refine At.skip (At.thn ?_); exact fun a w e hs => b2 (decide (p = 8)) j a w (e.sub ⟨rfl, rfl, rfl, trivial⟩) hs
             ··refine At.condF rfl (decide_eq_false a7) ?_
               refine At.region (At.run 2 rfl (nT ?_)); exact fun a w e hs => b2 (decide (p = 9)) j a w (e.sub ⟨rfl, rfl, rfl, trivial⟩) hs
 ··rcases bite j with ⟨a8, j⟩ | ⟨a8, j⟩
   ··refine At.condT rfl (decide_eq_true a8) ?_
     refine At.skip (At.thn ?_); exact fun a w e hs => a9 (decide (p = 1)) j a w (e.sub ⟨rfl, rfl, rfl, trivial⟩) hs
   ··refine At.condF rfl (decide_eq_false a8) ?_
     refine At.region (At.run 2 rfl (nT ?_)); exact fun a w e hs => a9 (decide (p = 2)) j a w (e.sub ⟨rfl, rfl, rfl, trivial⟩) hs

noncomputable def Q136.f (a0 : Int) : Option Bool :=
 some (!(decide (a0 = 0)))
theorem Q136.callee : Callee Tryz.prog 137 := ⟨_, Tryz.func137, by kernel_rfl, by kernel_rfl⟩
theorem Q136.spec {a0 : Int} {r : Bool} (j : Q136.f a0 = some r) :
 Spec Tryz.prog 137 [i6 a0] R (Fr) (fun v l' => v = .bool r ∧ Fr = l') := by
 refine Spec.of Tryz.func137 rfl rfl ?_; unfold Q136.f at j; have j := brun j; refine sR 1 rfl (nT (sR 3 rfl ?_)); refine nT (At.ret ?_); cases bret j; exact At.res (.inl rfl) rfl rfl ⟨rfl, rfl⟩

noncomputable def Q60.l0b (a0 : List Int) (p : Int) : Option ((Int) ⊕ ((Unit) ⊕ (Int))) :=
 if p < (a0.length : Int) then
 if (0 : Int) ≤ p ∧ p < (a0.length : Int) then
 (Q136.f (gt a0 p)).bind fun q =>
 if q = true then
 upL (some p)
 else
 nx (IntKind.i64.wrap (p + 1))
 else none
 else
 dn (.inl ())
noncomputable def Q60.l0 (a0 : List Int) (p : Int) : Option ((Unit) ⊕ (Int)) := iter (fun t_ : Int => Q60.l0b a0 t_) p
noncomputable def Q60.f (a0 : List Int) : Option Int :=
 jn (Q60.l0 a0 0) (fun (_ : Unit) =>
 some (-1))
theorem Q60.callee : Callee Tryz.prog 104 := ⟨_, Tryz.func104, by kernel_rfl, by kernel_rfl⟩
theorem Q60.spec {a0 : List Int} (hr0 : RdS (Fl.int .i64).rep R.heap A0 a0) (hn0 : a0.length = n0) (hc0 : n0 ≤ c0) {r : Int} (j : Q60.f a0 = some r) :
 Spec Tryz.prog 104 [.slice A0 n0 c0, .func (.func 137) #[] #[]] R (Fr) (fun v l' => v = i6 r ∧ Fr = l') := by
 subst hn0; refine Spec.of Tryz.func104 rfl rfl ?_; unfold Q60.f at j; have j := brun j; refine sR 1 rfl (nT (At.seq (At.seq (At.region ?_)))); refine At.run 3 rfl (nT ?_); refine At.block ?_; obtain ⟨O, U, V, j⟩ := bjoin j; obtain ⟨L, D, M⟩ := bsome j; clear j; unfold Q60.l0 at D; obtain ⟨G, u⟩ := Q17.1 D; clear D; refine At.loopJ (X := Int) (Y := Unit) (e0 := 0) (fun p => [(0, .slice A0 a0.length c0), (1, .func (.func 137) #[] #[]), (7, i6 (a0.length : Int)), (8, i6 p)]) (fun p => Fr) (fun m_ => fun p => iterN (fun t_ : Int => Q60.l0b a0 t_) m_ p = some L) G 0 u (fun _ => []) (fun _ => Fr) (fun _ => O (.inl ()) = some r) (fun a w e hs => ⟨e.sub ⟨rfl, rfl, rfl, rfl, trivial⟩, (by exact hs)⟩) ?_ (fun Z => ?_)
 ·rintro _ j; have j := (U _).symm.trans j
  ·refine At.ibx ?_; refine At.thn (sR 1 rfl (nT (At.ret ?_))); cases bret j; exact At.res (.inl rfl) rfl rfl ⟨rfl, rfl⟩
 ·clear u G; rintro G p u; obtain ⟨a1, f_, a2, hf_, j⟩ := bit u; clear u; have j : (Q60.l0b a0 p).bind _ = some L := j; unfold Q60.l0b at j
  ·refine sR 1 rfl (nT (At.seq ?_)); rcases bite j with ⟨I, j⟩ | ⟨I, j⟩
   ··refine At.condT rfl (decide_eq_true I) ?_
     refine At.skip (At.thn (At.seq ?_)); refine At.block ?_; refine sR 2 rfl (nT (sR 3 rfl ?_)); obtain ⟨x, j⟩ := bnone j; refine At.y (Y.ixRd hr0 rfl rfl rfl rfl rfl rfl rfl x.1 x.2) rfl rfl rfl (At.y (Y.ldFl hr0 rfl (q := 0) rfl rfl x.1 x.2 rfl rfl rfl) rfl rfl rfl ?_); obtain ⟨a4, a3, j⟩ := bbind j; refine At.call rfl Q136.callee rfl rfl rfl (Q136.spec a3) ?_; rintro _ _ ⟨rfl, rfl⟩; refine nT ?_; rcases bite j with ⟨J, j⟩ | ⟨J, j⟩
     ··refine At.condT rfl J ?_
       refine sR 2 rfl (nT (At.ret ?_)); refine At.ibr ?_; refine At.thr ?_; have j := bupL V M j; refine At.thr ?_; refine At.ibr ?_; refine At.thr ?_; cases bret j; exact At.res (.inl rfl) rfl rfl ⟨rfl, rfl⟩
     ··refine At.condF rfl (bn J) ?_
       refine At.skip ?_; refine At.ibn ?_; refine At.thn (At.region (At.run 2 rfl (At.nil ?_))); have j := bnx hf_ j; exact fun a w e hs => ⟨a1, (IntKind.i64.wrap (p + 1)), a2, j, e.sub ⟨rfl, rfl, rfl, rfl, trivial⟩, hs⟩
   ··refine At.condF rfl (decide_eq_false I) ?_
     refine At.exit ?_; refine At.the ?_; refine At.the ?_; exact fun a w e hs => Z () (bdn j M) a w (e.sub trivial) hs

noncomputable def Q124.f (a0 : List Int) : Option Bool :=
 (Q60.f a0).bind fun p =>
 some (decide (0 ≤ p))
theorem Q124.callee : Callee Tryz.prog 58 := ⟨_, Tryz.func58, by kernel_rfl, by kernel_rfl⟩
theorem Q124.spec {a0 : List Int} (hr0 : RdS (Fl.int .i64).rep R.heap A0 a0) (hn0 : a0.length = n0) (hc0 : n0 ≤ c0) {r : Bool} (j : Q124.f a0 = some r) :
 Spec Tryz.prog 58 [.slice A0 n0 c0, .func (.func 137) #[] #[]] R (Fr) (fun v l' => v = .bool r ∧ Fr = l') := by
 subst hn0; refine Spec.of Tryz.func58 rfl rfl ?_; unfold Q124.f at j; have j := brun j; refine sR 1 rfl (nT (sR 2 rfl ?_)); obtain ⟨q, p, j⟩ := bbind j; refine At.call rfl Q60.callee rfl rfl rfl (Q60.spec hr0 rfl hc0 p) ?_; rintro _ _ ⟨rfl, rfl⟩; refine At.run 2 rfl (nT (At.ret ?_)); cases bret j; exact At.res (.inl rfl) rfl rfl ⟨rfl, rfl⟩

noncomputable def Q49.l0b (a0 a1 : List Int) (p : Int) : Option ((Int) ⊕ ((Unit) ⊕ (Bool))) :=
 if p < (a0.length : Int) then
 if (0 : Int) ≤ p ∧ p < (a0.length : Int) then
 if (0 : Int) ≤ p ∧ p < (a1.length : Int) then
 if gt a0 p = gt a1 p then
 nx (IntKind.i64.wrap (p + 1))
 else
 upL (some false)
 else none
 else none
 else
 dn (.inl ())
noncomputable def Q49.l0 (a0 a1 : List Int) (p : Int) : Option ((Unit) ⊕ (Bool)) := iter (fun t_ : Int => Q49.l0b a0 a1 t_) p
noncomputable def Q49.f (a0 a1 : List Int) : Option Bool :=
 if (a0.length : Int) = (a1.length : Int) then
 jn (Q49.l0 a0 a1 0) (fun (_ : Unit) =>
 some true)
 else
 some false
theorem Q49.callee : Callee Tryz.prog 138 := ⟨_, Tryz.func138, by kernel_rfl, by kernel_rfl⟩
theorem Q49.spec {a0 a1 : List Int} (hr0 : RdS (Fl.int .i64).rep R.heap A0 a0) (hn0 : a0.length = n0) (hc0 : n0 ≤ c0) (hr1 : RdS (Fl.int .i64).rep R.heap A1 a1) (hn1 : a1.length = n1) (hc1 : n1 ≤ c1) {r : Bool} (j : Q49.f a0 a1 = some r) :
 Spec Tryz.prog 138 [.slice A0 n0 c0, .slice A1 n1 c1] R (Fr) (fun v l' => v = .bool r ∧ Fr = l') := by
 subst hn0; subst hn1; refine Spec.of Tryz.func138 rfl rfl ?_; unfold Q49.f at j; have j := brun j; refine sR 1 rfl (nT (At.seq (At.seq (At.region ?_)))); refine At.run 5 rfl (nT ?_); rcases bite j with ⟨G, j⟩ | ⟨G, j⟩
 ··refine At.condF rfl (nf (decide_eq_true G)) ?_
   refine At.skip (At.thn (At.seq (sR 3 rfl (nT ?_)))); refine At.block ?_; obtain ⟨V, Z, a2, j⟩ := bjoin j; obtain ⟨O, I, U⟩ := bsome j; clear j; unfold Q49.l0 at I; obtain ⟨J, u⟩ := Q17.1 I; clear I; refine At.loopJ (X := Int) (Y := Unit) (e0 := 0) (fun p => [(0, .slice A0 a0.length c0), (1, .slice A1 a1.length c1), (12, i6 (a0.length : Int)), (13, i6 p)]) (fun p => Fr) (fun m_ => fun p => iterN (fun t_ : Int => Q49.l0b a0 a1 t_) m_ p = some O) J 0 u (fun _ => []) (fun _ => Fr) (fun _ => V (.inl ()) = some r) (fun a w e hs => ⟨e.sub ⟨rfl, rfl, rfl, rfl, trivial⟩, (by exact hs)⟩) ?_ (fun a3 => ?_)
   ·rintro _ j; have j := (Z _).symm.trans j
    ·refine At.ibx ?_; refine At.thn (sR 1 rfl (nT (At.ret ?_))); cases bret j; exact At.res (.inl rfl) rfl rfl ⟨rfl, rfl⟩
   ·clear u J; rintro J p u; obtain ⟨a4, f_, a5, hf_, j⟩ := bit u; clear u; have j : (Q49.l0b a0 a1 p).bind _ = some O := j; unfold Q49.l0b at j
    ·refine sR 1 rfl (nT (At.seq ?_)); rcases bite j with ⟨L, j⟩ | ⟨L, j⟩
     ··refine At.condT rfl (decide_eq_true L) ?_
       refine At.skip (At.thn (At.seq ?_)); refine At.block ?_; refine sR 2 rfl (nT (At.seq ?_)); refine At.quiet (by kernel_rfl) ?_; refine At.Quiet.run 2 rfl ?_; obtain ⟨x, j⟩ := bnone j; refine At.Quiet.y (Y.ixRd hr0 rfl rfl rfl rfl rfl rfl rfl x.1 x.2) rfl rfl rfl ?_; refine At.Quiet.y (Y.ldFl hr0 rfl (q := 0) rfl rfl x.1 x.2 rfl rfl rfl) rfl rfl rfl ?_; refine At.Quiet.run 2 rfl ?_; obtain ⟨D, j⟩ := bnone j; refine At.Quiet.y (Y.ixRd hr1 rfl rfl rfl rfl rfl rfl rfl D.1 D.2) rfl rfl rfl ?_; refine At.Quiet.y (Y.ldFl hr1 rfl (q := 0) rfl rfl D.1 D.2 rfl rfl rfl) rfl rfl rfl ?_; refine At.Quiet.run 1 rfl (At.Quiet.nil (At.thn ?_)); rcases bite j with ⟨M, j⟩ | ⟨M, j⟩
       ··refine At.condF rfl (nf (decide_eq_true M)) ?_
         refine At.skip ?_; refine At.ibn ?_; refine At.thn (At.region (At.run 2 rfl (At.nil ?_))); have j := bnx hf_ j; exact fun a w e hs => ⟨a4, (IntKind.i64.wrap (p + 1)), a5, j, e.sub ⟨rfl, rfl, rfl, rfl, trivial⟩, hs⟩
       ··refine At.condT rfl (nt (decide_eq_false M)) ?_
         refine sR 1 rfl (nT (At.ret ?_)); refine At.ibr ?_; refine At.thr ?_; have j := bupL a2 U j; refine At.thr ?_; refine At.ibr ?_; refine At.thr ?_; cases bret j; exact At.res (.inl rfl) rfl rfl ⟨rfl, rfl⟩
     ··refine At.condF rfl (decide_eq_false L) ?_
       refine At.exit ?_; refine At.the ?_; refine At.the ?_; exact fun a w e hs => a3 () (bdn j U) a w (e.sub trivial) hs
 ··refine At.condT rfl (nt (decide_eq_false G)) ?_
   refine sR 1 rfl (nT (At.ret (At.thr ?_))); cases bret j; exact At.res (.inl rfl) rfl rfl ⟨rfl, rfl⟩

noncomputable def Q38.l0b (a0 : List Q2) (q : List Int) (p : Int) : Option (((List Int) × Int) ⊕ (((List Int)) ⊕ (Bool))) :=
 if p < (a0.length : Int) then
 if (0 : Int) ≤ p ∧ p < (a0.length : Int) then
 (Q121.f ((gt a0 p).Kind) ((gt a0 p).A) ((gt a0 p).B) ((gt a0 p).Name) ((gt a0 p).At)).bind fun u =>
 jn (
 if u.1 = true then
 some (.inl (decide ((q.length : Int) < u.2)))
 else
 some (.inl true)) (fun (x : Bool) =>
 if x = true then
 upL (some false)
 else
 if (0 : Int) ≤ u.2 ∧ u.2 ≤ (([((gt a0 p).A), ((gt a0 p).B)] : List Int).length : Int) then
 (Q124.f (([((gt a0 p).A), ((gt a0 p).B)] : List Int).drop u.2.toNat)).bind fun D =>
 jn (
 if D = true then
 some (.inl true)
 else
 if (0 : Int) ≤ IntKind.i64.wrap ((q.length : Int) - u.2) ∧ IntKind.i64.wrap ((q.length : Int) - u.2) ≤ (q.length : Int) then
 (Q49.f (q.drop (IntKind.i64.wrap ((q.length : Int) - u.2)).toNat) (([((gt a0 p).A), ((gt a0 p).B)] : List Int).take u.2.toNat)).bind fun G =>
 some (.inl (!G))
 else none) (fun (I : Bool) =>
 if I = true then
 upL (some false)
 else
 if (0 : Int) ≤ IntKind.i64.wrap ((q.length : Int) - u.2) ∧ IntKind.i64.wrap ((q.length : Int) - u.2) ≤ (q.length : Int) then
 if ((q.take (IntKind.i64.wrap ((q.length : Int) - u.2)).toNat).length + ([p] : List Int).length) * 8 ≤ 140737488355328 then
 nx (((q.take (IntKind.i64.wrap ((q.length : Int) - u.2)).toNat) ++ ([p] : List Int)), IntKind.i64.wrap (p + 1))
 else none
 else none)
 else none)
 else none
 else
 dn (.inl q)
noncomputable def Q38.l0 (a0 : List Q2) (p : List Int) (q : Int) : Option (((List Int)) ⊕ (Bool)) := iter (fun t_ : (List Int) × Int => Q38.l0b a0 t_.1 t_.2) (p, q)
noncomputable def Q38.f (a0 : List Q2) : Option Bool :=
 jn (
 if (a0.length : Int) < 1 then
 some (.inl true)
 else
 some (.inl (decide (60 < (a0.length : Int))))) (fun (p : Bool) =>
 if p = true then
 some false
 else
 jn (Q38.l0 a0 ([] : List Int) 0) (fun (q : List Int) =>
 some (decide ((q.length : Int) = 1))))
theorem Q38.callee : Callee Tryz.prog 108 := ⟨_, Tryz.func108, by kernel_rfl, by kernel_rfl⟩
theorem Q38.spec {a0 : List Q2} (hr0 : RdS Q2.fl.rep R.heap A0 a0) (hn0 : a0.length = n0) (hc0 : n0 ≤ c0) {r : Bool} (j : Q38.f a0 = some r) :
 Spec Tryz.prog 108 [.slice A0 n0 c0] R (Fr) (fun v l' => v = .bool r ∧ Fr = l') := by
 subst hn0; refine Spec.of Tryz.func108 rfl rfl ?_; unfold Q38.f at j; have j := brun j; refine sR 1 rfl (nT (At.seq (At.seq (At.region ?_)))); refine At.run 4 rfl ?_; obtain ⟨d0, d1, g5, j⟩ := bjoin j; refine At.joinO 4 (X := Bool) (fun D => [(0, .slice A0 a0.length c0), (16, .bool D)]) (fun D => Fr) (fun D => d0 (.inl D) = some r) ?_ (fun b4 => ?_)
 ·rintro D j; have j := (d1 _).symm.trans j
  ·refine nT ?_; rcases bite j with ⟨Z, j⟩ | ⟨Z, j⟩
   ··refine At.condT rfl Z ?_
     refine sR 1 rfl (nT (At.ret (At.thr ?_))); cases bret j; exact At.res (.inl rfl) rfl rfl ⟨rfl, rfl⟩
   ··refine At.condF rfl (bn Z) ?_
     refine At.skip (At.thn (sR 1 rfl (nT (At.seq ?_)))); refine sR 3 rfl (nT ?_); refine At.block ?_; obtain ⟨d2, d3, b5, j⟩ := bjoin j; obtain ⟨L, a1, a2⟩ := bsome j; clear j; unfold Q38.l0 at a1; obtain ⟨a3, G⟩ := Q17.1 a1; clear a1; refine At.nilRow (Fl.int .i64) 3 ?_; refine At.loopJ (X := (List Int) × Int × Nat × (Option Addr) × Nat) (Y := (List Int) × Nat × (Option Addr) × Nat) (e0 := 0) (fun s_ => [(3, .slice s_.2.2.2.1 s_.2.2.1 s_.2.2.2.2), (17, .slice A0 a0.length c0), (18, i6 (a0.length : Int)), (19, i6 s_.2.1)]) (fun s_ => row (Fl.int .i64) 3 s_.2.2.2.1 s_.2.2.1 s_.2.2.2.2 s_.1 :: Fr) (fun m_ => fun s_ => iterN (fun t_ : (List Int) × Int => Q38.l0b a0 t_.1 t_.2) m_ (s_.1, s_.2.1) = some L ∧ s_.1.length = s_.2.2.1) a3 (([] : List Int), 0, 0, none, 0) ⟨G, rfl⟩ (fun s_ => [(3, .slice s_.2.2.1 s_.2.1 s_.2.2.2)]) (fun s_ => row (Fl.int .i64) 3 s_.2.2.1 s_.2.1 s_.2.2.2 s_.1 :: Fr) (fun s_ => d2 (.inl s_.1) = some r ∧ s_.1.length = s_.2.1) (fun a w e hs => ⟨e.sub ⟨rfl, rfl, rfl, rfl, trivial⟩, (by exact hs)⟩) ?_ (fun d4 => ?_)
     ·rintro ⟨d5, d6, g6, g7⟩ ⟨j, d7⟩; obtain rfl : d5.length = d6 := d7; have j := (d3 _).symm.trans j
      ·refine At.ibx ?_; refine At.thn (sR 4 rfl (nT (At.ret (At.drop .z ?_)))); cases bret j; exact At.res (.inl rfl) rfl rfl ⟨rfl, rfl⟩
     ·clear G a3; rintro a3 ⟨u, p, d8, M, O⟩ ⟨G, d9⟩; obtain rfl : u.length = d8 := d9; obtain ⟨e1, f_, e2, hf_, j⟩ := bit G; clear G; have j : (Q38.l0b a0 u p).bind _ = some L := j; unfold Q38.l0b at j
      ·refine sR 1 rfl (nT (At.seq ?_)); rcases bite j with ⟨a4, j⟩ | ⟨a4, j⟩
       ··refine At.condT rfl (decide_eq_true a4) ?_
         refine At.skip (At.thn (At.seq ?_)); refine At.block ?_; refine sR 1 rfl ?_; obtain ⟨U, j⟩ := bnone j; refine At.y (Y.ixRd hr0 rfl rfl rfl rfl rfl rfl rfl U.1 U.2) rfl rfl rfl (At.y (Y.ldFl hr0 rfl (q := 0) rfl rfl U.1 U.2 rfl rfl rfl) rfl rfl rfl ?_); refine At.alloc rfl rfl rfl (fun b6 => ?_); refine At.run 1 rfl ?_; refine At.store rfl rfl rfl rfl .z rfl rfl rfl (.c (.c (.c (.c (.c .n))))) ?_; refine nT (At.seq (At.region (At.y (Y.load rfl rfl .z rfl rfl rfl) rfl rfl rfl ?_))); obtain ⟨x, e3, j⟩ := bbind j; refine At.call rfl Q121.callee rfl rfl rfl (Q121.spec e3) ?_; rintro _ _ ⟨rfl, rfl⟩; refine At.run 5 rfl (nT (At.seq (sR 3 rfl ?_))); obtain ⟨e4, e5, g8, j⟩ := bjoin j; let T2 : HProp := pc b6 [i6 ((gt a0 p).Kind), i6 ((gt a0 p).A), i6 ((gt a0 p).B), .string ⟨((gt a0 p).Name).toArray⟩, i6 ((gt a0 p).At)] 51; refine At.joinO 5 (X := Bool) (fun I => [(3, .slice M u.length O), (4, i6 p), (5, bp b6), (6, i6 x.2), (17, .slice A0 a0.length c0), (18, i6 (a0.length : Int)), (19, i6 p), (36, .bool I)]) (fun I => T2 :: row (Fl.int .i64) 3 M u.length O u :: Fr) (fun I => e4 (.inl I) = some L) ?_ (fun b7 => ?_)
         ·rintro I j; have j := (e5 _).symm.trans j
          ·refine nT ?_; rcases bite j with ⟨a5, j⟩ | ⟨a5, j⟩
           ··refine At.condT rfl a5 ?_
             refine sR 1 rfl (nT (At.ret (At.thr ?_))); refine At.ibr ?_; refine At.thr ?_; have j := bupL b5 a2 j; refine At.thr ?_; refine At.ibr ?_; refine At.thr (At.drop .z (At.drop .z ?_)); cases bret j; exact At.res (.inl rfl) rfl rfl ⟨rfl, rfl⟩
           ··refine At.condF rfl (bn a5) ?_
             refine At.skip (At.thn (sR 1 rfl (At.y (Y.load rfl rfl .z rfl rfl rfl) rfl rfl rfl (At.run 1 rfl (At.y (Y.load rfl rfl .z rfl rfl rfl) rfl rfl rfl ?_))))); refine At.lit rfl (xo := [.tmp 38, .tmp 40]) (ys := ([((gt a0 p).A), ((gt a0 p).B)] : List Int)) (Fl.int .i64) rfl rfl rfl rfl rfl rfl rfl rfl rfl rfl rfl (fun g9 e6 => ?_); refine At.run 1 rfl (nT (At.seq (At.seq ?_))); refine At.freeze .z fun h0 b8 a6 a7 h1 b9 => ?_; refine At.freeze (.s .z) fun c4 e7 e8 e9 c5 c6 => ?_; refine At.quiet (by kernel_rfl) ?_; refine At.Quiet.run 2 rfl ?_; obtain ⟨V, j⟩ := bnone j; obtain ⟨h2, f0, f1, f2⟩ := Y.slFromAt (P := Tryz.prog) (R := c4) a6 b8 a7 V.1 V.2; refine At.Quiet.y (f2 rfl rfl rfl rfl rfl rfl) rfl rfl rfl ?_; obtain ⟨h3, f3, j⟩ := bbind j; refine At.Quiet.call rfl Q124.callee rfl rfl rfl (Q124.spec (RdS.mono c5 f0) rfl f1 f3) (fun _ _ h_ => ⟨h_.1, fun _ hs => h_.2 ▸ hs⟩) ?_; refine At.Quiet.run 1 rfl ?_; obtain ⟨f4, f5, h4, j⟩ := bjoin j; refine At.Quiet.joinO 12 (X := Bool) (fun J => [(3, .slice M u.length O), (4, i6 p), (6, i6 x.2), (17, .slice A0 a0.length c0), (18, i6 (a0.length : Int)), (19, i6 p), (58, .bool J)]) (fun J => T2 :: Fr) (fun J => f4 (.inl J) = some L) ?_ (fun c7 => ?_)
             ·rintro J j; have j := (f5 _).symm.trans j
              ·refine At.Quiet.nil (At.thn ?_); rcases bite j with ⟨a8, j⟩ | ⟨a8, j⟩
               ··refine At.condT rfl a8 ?_
                 refine sR 1 rfl (nT (At.ret (At.thr ?_))); refine At.ibr ?_; refine At.thr ?_; have j := bupL b5 a2 j; refine At.thr ?_; refine At.ibr ?_; refine At.thr ?_; refine At.thaw c6 ?_; refine At.thaw b9 ?_; refine At.drop .z (At.drop .z (At.drop .z ?_)); cases bret j; exact At.res (.inl rfl) rfl rfl ⟨rfl, rfl⟩
               ··refine At.condF rfl (bn a8) ?_
                 refine At.skip (At.thn (At.region (At.run 5 rfl ?_))); refine At.thaw c6 ?_; obtain ⟨c8, j⟩ := bnone j; refine At.cut rfl .z rfl rfl rfl rfl rfl c8.1 c8.2 rfl ?_; refine At.run 1 rfl ?_; refine At.lit rfl (xo := [.tmp 65]) (ys := ([p] : List Int)) (Fl.int .i64) rfl rfl rfl rfl rfl rfl rfl rfl rfl rfl rfl (fun h5 h6 => ?_); obtain ⟨f6, j⟩ := bnone j; refine At.append rfl (.s .z) (Src.own .z (by simp)) rfl rfl rfl rfl rfl rfl rfl rfl f6 (by decide) rfl (fun f7 f8 => ?_); refine At.drop (.s .z) (At.run 1 rfl (At.nil ?_)); refine At.ibn ?_; refine At.thn (At.region (At.run 2 rfl (At.nil ?_))); refine At.thaw b9 ?_; refine At.drop .z (At.drop (.s .z) ?_); have j := bnx hf_ j; exact fun a w e hs => ⟨e1, (((u.take (IntKind.i64.wrap ((u.length : Int) - x.2)).toNat) ++ ([p] : List Int)), IntKind.i64.wrap (p + 1), ((u.take (IntKind.i64.wrap ((u.length : Int) - x.2)).toNat) ++ ([p] : List Int)).length, f7, f8), e2, ⟨j, rfl⟩, e.sub ⟨rfl, rfl, rfl, rfl, trivial⟩, hs⟩
             ··rcases bite j with ⟨a9, j⟩ | ⟨a9, j⟩
               ··refine At.Quiet.know (t := 46) rfl a9 ?_
                 refine At.Quiet.run 12 rfl ?_; exact At.Quiet.of (c7 true j) ⟨rfl, rfl, rfl, rfl, rfl, rfl, rfl, trivial⟩
               ··refine At.Quiet.know (t := 46) rfl (bn a9) ?_
                 refine At.Quiet.run 5 rfl ?_; obtain ⟨c9, j⟩ := bnone j; obtain ⟨h7, f9, g0, g1⟩ := Y.slFromAt (P := Tryz.prog) (R := c4) e8 e7 e9 c9.1 c9.2; refine At.Quiet.y (g1 rfl rfl rfl rfl rfl rfl) rfl rfl rfl ?_; refine At.Quiet.run 2 rfl ?_; have g2 : (([((gt a0 p).A), ((gt a0 p).B)] : List Int).take x.2.toNat).length ≤ e6 := Nat.le_trans (List.length_take_le' _ _) (by have h1_ := (show ([((gt a0 p).A), ((gt a0 p).B)] : List Int).length = ([((gt a0 p).A), ((gt a0 p).B)] : List Int).length from a6); have h2_ := a7; omega); refine At.Quiet.y (Y.slTo a6 rfl rfl rfl rfl rfl a7 V.1 V.2) rfl rfl rfl ?_; obtain ⟨g3, g4, j⟩ := bbind j; refine At.Quiet.call rfl Q49.callee rfl rfl rfl (Q49.spec f9 rfl g0 (RdS.mono c5 (RdS.take b8 _)) rfl g2 g4) (fun _ _ h_ => ⟨h_.1, fun _ hs => h_.2 ▸ hs⟩) ?_; refine At.Quiet.run 2 rfl ?_; exact At.Quiet.of (c7 (!g3) j) ⟨rfl, rfl, rfl, rfl, rfl, rfl, rfl, trivial⟩
         ··rcases bite j with ⟨b2, j⟩ | ⟨b2, j⟩
           ··refine At.know (t := 31) rfl (nf b2) ?_
             refine At.run 5 rfl ?_; exact At.of (b7 (decide ((u.length : Int) < x.2)) j) ⟨rfl, rfl, rfl, rfl, rfl, rfl, rfl, rfl, trivial⟩
           ··refine At.know (t := 31) rfl (nt (bn b2)) ?_
             refine At.run 5 rfl ?_; exact At.of (b7 true j) ⟨rfl, rfl, rfl, rfl, rfl, rfl, rfl, rfl, trivial⟩
       ··refine At.condF rfl (decide_eq_false a4) ?_
         refine At.exit ?_; refine At.the ?_; refine At.the ?_; exact fun a w e hs => d4 (u, u.length, M, O) ⟨(bdn j a2), rfl⟩ a w (e.sub ⟨rfl, trivial⟩) hs
 ··rcases bite j with ⟨b3, j⟩ | ⟨b3, j⟩
   ··refine At.know (t := 12) rfl (decide_eq_true b3) ?_
     refine At.run 4 rfl ?_; exact At.of (b4 true j) ⟨rfl, rfl, trivial⟩
   ··refine At.know (t := 12) rfl (decide_eq_false b3) ?_
     refine At.run 4 rfl ?_; exact At.of (b4 (decide (60 < (a0.length : Int))) j) ⟨rfl, rfl, trivial⟩

noncomputable def Q47.l0b (u : List Q2) (q : List Q13) (a1 : Bs) (p : Int) : Option ((Int) ⊕ ((Unit) ⊕ (Bool × Int × Int))) :=
 if 0 ≤ p then
 if (0 : Int) ≤ p ∧ p < (q.length : Int) then
 if (0 : Int) ≤ (gt q p).node ∧ (gt q p).node < (u.length : Int) then
 if bseq ((gt u ((gt q p).node)).Name) a1 = true then
 upL (some (true, (gt q p).node, (gt q p).nots))
 else
 nx (IntKind.i64.wrap (p - 1))
 else none
 else none
 else
 dn (.inl ())
noncomputable def Q47.l0 (p : List Q2) (q : List Q13) (a1 : Bs) (u : Int) : Option ((Unit) ⊕ (Bool × Int × Int)) := iter (fun t_ : Int => Q47.l0b p q a1 t_) u
noncomputable def Q47.f (q : List Q2) (p : List Q13) (u : Int) (x : List Int) (D : List Bool) (G : List Int) (a1 : Bs) : Option (Bool × Int × Int) :=
 jn (Q47.l0 q p a1 (IntKind.i64.wrap ((p.length : Int) - 1))) (fun (_ : Unit) =>
 some (false, 0, 0))
theorem Q47.callee : Callee Tryz.prog 186 := ⟨_, Tryz.func186, by kernel_rfl, by kernel_rfl⟩
theorem Q47.spec {J : List Q2} {p : List Q13} {O : Int} {x D : List Int} {G : List Bool} {a1 : Bs} (hr0_0 : RdS Q2.fl.rep R.heap A0_0 J) (hn0_0 : J.length = n0_0) (hc0_0 : n0_0 ≤ c0_0) (hn0_1 : p.length = n0_1) (hn0_3 : x.length = n0_3) (hn0_4 : G.length = n0_4) (hn0_5 : D.length = n0_5) {r : Bool × Int × Int} (j : Q47.f J p O x G D a1 = some r) :
 Spec Tryz.prog 186 [bp b0, .string ⟨(a1).toArray⟩] R (pc b0 [.slice A0_0 n0_0 c0_0, .slice A0_1 n0_1 c0_1, i6 O, .slice A0_3 n0_3 c0_3, .slice A0_4 n0_4 c0_4, .slice A0_5 n0_5 c0_5] 165 :: row Q13.fl 218 A0_1 n0_1 c0_1 p :: row (Fl.int .i64) 3 A0_3 n0_3 c0_3 x :: row Fl.bool 4 A0_4 n0_4 c0_4 G :: row (Fl.int .i64) 3 A0_5 n0_5 c0_5 D :: Fr) (fun v l' => v = .tuple #[.agg #[i6 r.2.1, i6 r.2.2], .bool r.1] ∧ pc b0 [.slice A0_0 n0_0 c0_0, .slice A0_1 n0_1 c0_1, i6 O, .slice A0_3 n0_3 c0_3, .slice A0_4 n0_4 c0_4, .slice A0_5 n0_5 c0_5] 165 :: row Q13.fl 218 A0_1 n0_1 c0_1 p :: row (Fl.int .i64) 3 A0_3 n0_3 c0_3 x :: row Fl.bool 4 A0_4 n0_4 c0_4 G :: row (Fl.int .i64) 3 A0_5 n0_5 c0_5 D :: Fr = l') := by
 subst hn0_0; subst hn0_1; subst hn0_3; subst hn0_4; subst hn0_5; refine Spec.of Tryz.func186 rfl rfl ?_; unfold Q47.f at j; have j := brun j; refine At.seq (At.region ?_); refine At.alloc rfl rfl rfl (fun U => ?_); refine At.run 1 rfl (nT (At.seq (sR 3 rfl (At.y (Y.load rfl rfl (.s .z) rfl rfl rfl) rfl rfl rfl ?_)))); refine At.run 3 rfl (nT ?_); refine At.block ?_; obtain ⟨a5, a6, a7, j⟩ := bjoin j; obtain ⟨a3, V, a4⟩ := bsome j; clear j; unfold Q47.l0 at V; obtain ⟨Z, M⟩ := Q17.1 V; clear V; let T3 : HProp := pt U (.cells ([i6 0, i6 0] : List Value).toArray 218); let T4 : HProp := pc b0 [.slice A0_0 J.length c0_0, .slice A0_1 p.length c0_1, i6 O, .slice A0_3 x.length c0_3, .slice A0_4 G.length c0_4, .slice A0_5 D.length c0_5] 165; let T5 : HProp := row Q13.fl 218 A0_1 p.length c0_1 p; let T6 : HProp := row (Fl.int .i64) 3 A0_3 x.length c0_3 x; let T7 : HProp := row Fl.bool 4 A0_4 G.length c0_4 G; let T8 : HProp := row (Fl.int .i64) 3 A0_5 D.length c0_5 D; refine At.loopJ (X := Int) (Y := Unit) (e0 := 0) (fun I => [(0, bp b0), (1, .string ⟨(a1).toArray⟩), (4, bp U), (6, i6 I)]) (fun I => T3 :: T4 :: T5 :: T6 :: T7 :: T8 :: Fr) (fun m_ => fun I => iterN (fun t_ : Int => Q47.l0b J p a1 t_) m_ I = some a3) Z (IntKind.i64.wrap ((p.length : Int) - 1)) M (fun _ => [(4, bp U)]) (fun _ => T3 :: T4 :: T5 :: T6 :: T7 :: T8 :: Fr) (fun _ => a5 (.inl ()) = some r) (fun a w e hs => ⟨e.sub ⟨rfl, rfl, rfl, rfl, trivial⟩, (by exact hs)⟩) ?_ (fun a8 => ?_)
 ·rintro _ j; have j := (a6 _).symm.trans j
  ·refine At.ibx ?_; refine At.thn (At.seq (At.region ?_)); refine At.y (Y.build (is := []) (xo := []) (vs := []) (cs := [i6 0, i6 0]) rfl rfl rfl rfl rfl rfl) rfl rfl rfl ?_; refine At.store rfl rfl rfl rfl .z rfl rfl rfl (.c (.c .n)) ?_; refine At.run 1 rfl (nT (At.ret ?_)); refine At.resM (.inl rfl) rfl (RV.cell rfl rfl .z rfl rfl rfl (RV.tmp rfl RV.nil)) ?_; refine At.drop .z ?_; cases bret j; exact fun a w e hs => ⟨_, ⟨rfl, rfl⟩, hs⟩
 ·clear M Z; rintro Z I M; obtain ⟨a9, f_, b2, hf_, j⟩ := bit M; clear M; have j : (Q47.l0b J p a1 I).bind _ = some a3 := j; unfold Q47.l0b at j
  ·refine At.seq (sR 2 rfl (nT ?_)); rcases bite j with ⟨a0, j⟩ | ⟨a0, j⟩
   ··refine At.condT rfl (decide_eq_true a0) ?_
     refine At.skip (At.thn (At.seq ?_)); refine At.block ?_; refine At.seq ?_; refine At.quiet (by kernel_rfl) ?_; refine At.Quiet.run 3 rfl ?_; refine At.Quiet.y (Y.load rfl rfl (.s .z) rfl rfl rfl) rfl rfl rfl ?_; refine At.Quiet.run 3 rfl ?_; refine At.Quiet.y (Y.load rfl rfl (.s .z) rfl rfl rfl) rfl rfl rfl ?_; refine At.Quiet.run 1 rfl ?_; obtain ⟨u, j⟩ := bnone j; refine At.Quiet.y (Y.ix (.s (.s .z)) rfl rfl rfl rfl rfl rfl u.1 u.2) rfl rfl rfl ?_; refine At.Quiet.y (Y.faOwn (.s (.s .z)) u.1 u.2 rfl rfl rfl rfl rfl rfl) rfl rfl rfl ?_; refine At.Quiet.y (Y.ld (.s (.s .z)) (q := 0) rfl rfl u.1 u.2 rfl rfl rfl) rfl rfl rfl ?_; obtain ⟨L, j⟩ := bnone j; refine At.Quiet.y (Y.ixRd hr0_0 rfl rfl rfl rfl rfl rfl rfl L.1 L.2) rfl rfl rfl ?_; refine At.Quiet.y (Y.fa (RdS.some_ hr0_0 rfl L.1 L.2) rfl rfl rfl rfl rfl rfl) rfl rfl rfl ?_; refine At.Quiet.y (Y.ldFl hr0_0 rfl (q := 3) rfl rfl L.1 L.2 rfl rfl rfl) rfl rfl rfl ?_; refine At.Quiet.run 2 rfl (At.Quiet.nil (At.thn ?_)); rcases bite j with ⟨a2, j⟩ | ⟨a2, j⟩
     ··refine At.condT rfl a2 ?_
       refine sR 3 rfl (At.y (Y.load rfl rfl (.s .z) rfl rfl rfl) rfl rfl rfl (At.run 1 rfl (At.y (Y.ix (.s (.s .z)) rfl rfl rfl rfl rfl rfl u.1 u.2) rfl rfl rfl (At.y (Y.ld (.s (.s .z)) (q := 0) rfl rfl u.1 u.2 rfl rfl rfl) rfl rfl rfl ?_)))); refine At.store rfl rfl rfl rfl .z rfl rfl rfl (.c (.c .n)) ?_; refine At.run 1 rfl (nT (At.ret ?_)); refine At.ibr ?_; refine At.thr ?_; have j := bupL a7 a4 j; refine At.thr ?_; refine At.ibr ?_; refine At.thr ?_; refine At.resM (.inl rfl) rfl (RV.cell rfl rfl .z rfl rfl rfl (RV.tmp rfl RV.nil)) ?_; refine At.drop .z ?_; cases bret j; exact fun a w e hs => ⟨_, ⟨rfl, rfl⟩, hs⟩
     ··refine At.condF rfl (bn a2) ?_
       refine At.skip ?_; refine At.ibn ?_; refine At.thn (At.region (At.run 3 rfl (At.nil ?_))); have j := bnx hf_ j; exact fun a w e hs => ⟨a9, (IntKind.i64.wrap (I - 1)), b2, j, e.sub ⟨rfl, rfl, rfl, rfl, trivial⟩, hs⟩
   ··refine At.condF rfl (decide_eq_false a0) ?_
     refine At.exit ?_; refine At.the ?_; refine At.the ?_; exact fun a w e hs => a8 () (bdn j a4) a w (e.sub ⟨rfl, trivial⟩) hs

noncomputable def Q19.g (self_ : (List Q2) → (List Q13) → Int → (List Int) → (List Bool) → (List Int) → Int → Option ((List Bool) × (List Int) × (List Q13) × (List Int) × Int)) (p : List Q2) (D : List Q13) (u : Int) (G : List Int) (I : List Bool) (q : List Int) (a1 : Int) : Option ((List Bool) × (List Int) × (List Q13) × (List Int) × Int) :=
 if (0 : Int) ≤ a1 ∧ a1 < (p.length : Int) then
 if (gt p a1).Kind = 4 then
 (Q47.f p D u G I q ((gt p a1).Name)).bind fun U =>
 if U.1 = true then
 if (0 : Int) ≤ a1 ∧ a1 < (G.length : Int) then
 if (0 : Int) ≤ a1 ∧ a1 < (I.length : Int) then
 some ((st I a1 (!(decide ((Int.tmod (IntKind.i64.wrap (u - U.2.2)) 2) = 0)))), (st G a1 U.2.1), D, q, u)
 else none
 else none
 else
 some (I, G, D, q, u)
 else
 if (gt p a1).Kind = 5 then
 (self_ p D (IntKind.i64.wrap (u + 1)) G I q ((gt p a1).A)).bind fun L =>
 if (0 : Int) ≤ (gt p a1).A ∧ (gt p a1).A < (q.length : Int) then
 if (0 : Int) ≤ a1 ∧ a1 < (q.length : Int) then
 some (L.1, L.2.1, L.2.2.1, (st L.2.2.2.1 a1 (gt L.2.2.2.1 ((gt p a1).A))), IntKind.i64.wrap (L.2.2.2.2 - 1))
 else none
 else none
 else
 jn (
 if (gt p a1).Kind = 8 then
 some (.inl (decide ((gt p a1).Kind = 8)))
 else
 some (.inl (decide ((gt p a1).Kind = 9)))) (fun (V : Bool) =>
 if V = true then
 (self_ p D u G I q ((gt p a1).A)).bind fun M =>
 if (0 : Int) ≤ (gt p a1).A ∧ (gt p a1).A < (q.length : Int) then
 if (0 : Int) ≤ a1 ∧ a1 < (q.length : Int) then
 some (M.1, M.2.1, M.2.2.1, (st M.2.2.2.1 a1 (gt M.2.2.2.1 ((gt p a1).A))), M.2.2.2.2)
 else none
 else none
 else
 jn (
 if (gt p a1).Kind = 6 then
 some (.inl (decide ((gt p a1).Kind = 6)))
 else
 some (.inl (decide ((gt p a1).Kind = 7)))) (fun (X : Bool) =>
 if X = true then
 (self_ p D u G I q ((gt p a1).A)).bind fun O =>
 (self_ p O.2.2.1 O.2.2.2.2 O.2.1 O.1 O.2.2.2.1 ((gt p a1).B)).bind fun J =>
 if (0 : Int) ≤ (gt p a1).A ∧ (gt p a1).A < (q.length : Int) then
 if (0 : Int) ≤ (gt p a1).B ∧ (gt p a1).B < (q.length : Int) then
 if (0 : Int) ≤ a1 ∧ a1 < (q.length : Int) then
 some (J.1, J.2.1, J.2.2.1, (st J.2.2.2.1 a1 (if gt J.2.2.2.1 ((gt p a1).A) < gt J.2.2.2.1 ((gt p a1).B) then gt J.2.2.2.1 ((gt p a1).B) else gt J.2.2.2.1 ((gt p a1).A))), J.2.2.2.2)
 else none
 else none
 else none
 else
 jn (
 if (gt p a1).Kind = 10 then
 some (.inl (decide ((gt p a1).Kind = 10)))
 else
 some (.inl (decide ((gt p a1).Kind = 11)))) (fun (Z : Bool) =>
 if Z = true then
 if (D.length + ([(⟨a1, u⟩ : Q13)] : List Q13).length) * 16 ≤ 140737488355328 then
 (self_ p (D ++ ([(⟨a1, u⟩ : Q13)] : List Q13)) u G I q ((gt p a1).A)).bind fun x =>
 if (0 : Int) ≤ IntKind.i64.wrap ((x.2.2.1.length : Int) - 1) ∧ IntKind.i64.wrap ((x.2.2.1.length : Int) - 1) ≤ (x.2.2.1.length : Int) then
 if (0 : Int) ≤ (gt p a1).A ∧ (gt p a1).A < (q.length : Int) then
 if (0 : Int) ≤ a1 ∧ a1 < (q.length : Int) then
 some (x.1, x.2.1, (x.2.2.1.take (IntKind.i64.wrap ((x.2.2.1.length : Int) - 1)).toNat), (st x.2.2.2.1 a1 (IntKind.i64.wrap (gt x.2.2.2.1 ((gt p a1).A) + 1))), x.2.2.2.2)
 else none
 else none
 else none
 else none
 else
 some (I, G, D, q, u))))
 else none
noncomputable def Q19.n : Nat → (List Q2) → (List Q13) → Int → (List Int) → (List Bool) → (List Int) → Int → Option ((List Bool) × (List Int) × (List Q13) × (List Int) × Int)
 | 0, _, _, _, _, _, _, _ => none
 | k_ + 1, a0_0, a0_1, a0_2, a0_3, a0_4, a0_5, a1 => Q19.g (Q19.n k_) a0_0 a0_1 a0_2 a0_3 a0_4 a0_5 a1
noncomputable def Q19.f (p : List Q2) (q : List Q13) (u : Int) (x : List Int) (D : List Bool) (G : List Int) (a1 : Int) : Option ((List Bool) × (List Int) × (List Q13) × (List Int) × Int) := recF fun k_ => Q19.n k_ p q u x D G a1
theorem Q19.callee : Callee Tryz.prog 139 := ⟨_, Tryz.func139, by kernel_rfl, by kernel_rfl⟩
theorem Q19.specN (k_ : Nat) : ∀ (R : Res) (Fr : List HProp) (b0 : Nat) (A0_0 : Option Addr) (n0_0 : Nat) (c0_0 : Nat) (A0_1 : Option Addr) (n0_1 : Nat) (c0_1 : Nat) (A0_3 : Option Addr) (n0_3 : Nat) (c0_3 : Nat) (A0_4 : Option Addr) (n0_4 : Nat) (c0_4 : Nat) (A0_5 : Option Addr) (n0_5 : Nat) (c0_5 : Nat) (p : List Q2) (G : List Q13) (I : Int) (x : List Int) (D : List Bool) (u : List Int) (a1 : Int) (hr0_0 : RdS Q2.fl.rep R.heap A0_0 p) (hn0_0 : p.length = n0_0) (hc0_0 : n0_0 ≤ c0_0) (hn0_1 : G.length = n0_1) (hn0_3 : x.length = n0_3) (hn0_4 : D.length = n0_4) (hn0_5 : u.length = n0_5) {r : (List Bool) × (List Int) × (List Q13) × (List Int) × Int} (j : Q19.n k_ p G I x D u a1 = some r),
 Spec Tryz.prog 139 [bp b0, i6 a1] R (pc b0 [.slice A0_0 n0_0 c0_0, .slice A0_1 n0_1 c0_1, i6 I, .slice A0_3 n0_3 c0_3, .slice A0_4 n0_4 c0_4, .slice A0_5 n0_5 c0_5] 165 :: row Q13.fl 218 A0_1 n0_1 c0_1 G :: row (Fl.int .i64) 3 A0_3 n0_3 c0_3 x :: row Fl.bool 4 A0_4 n0_4 c0_4 D :: row (Fl.int .i64) 3 A0_5 n0_5 c0_5 u :: Fr) (fun v l' => ∃ (b7 : Nat) (d6 : Option Addr) (d7 : Nat), v = .tuple #[] ∧ pc b0 [.slice A0_0 n0_0 c0_0, .slice d6 b7 d7, i6 r.2.2.2.2, .slice A0_3 n0_3 c0_3, .slice A0_4 n0_4 c0_4, .slice A0_5 n0_5 c0_5] 165 :: row Q13.fl 218 d6 b7 d7 r.2.2.1 :: row (Fl.int .i64) 3 A0_3 n0_3 c0_3 r.2.1 :: row Fl.bool 4 A0_4 n0_4 c0_4 r.1 :: row (Fl.int .i64) 3 A0_5 n0_5 c0_5 r.2.2.2.1 :: Fr = l' ∧ r.2.2.1.length = b7) := by
 induction k_ with
 | zero => intro R Fr b0 A0_0 n0_0 c0_0 A0_1 n0_1 c0_1 A0_3 n0_3 c0_3 A0_4 n0_4 c0_4 A0_5 n0_5 c0_5 p G I x D u a1 hr0_0 hn0_0 hc0_0 hn0_1 hn0_3 hn0_4 hn0_5 r j; cases j
 | succ k_ ih =>
  intro R Fr b0 A0_0 n0_0 c0_0 A0_1 n0_1 c0_1 A0_3 n0_3 c0_3 A0_4 n0_4 c0_4 A0_5 n0_5 c0_5 p G I x D u a1 hr0_0 hn0_0 hc0_0 hn0_1 hn0_3 hn0_4 hn0_5 r j; have j : Q19.g (Q19.n k_) p G I x D u a1 = some r := j; generalize Q19.n k_ = self_ at ih j; subst hn0_0; subst hn0_1; subst hn0_3; subst hn0_4; subst hn0_5; refine Spec.of Tryz.func139 rfl rfl ?_; unfold Q19.g at j; have j := brun j; refine sR 3 rfl (At.y (Y.load rfl rfl .z rfl rfl rfl) rfl rfl rfl (At.run 1 rfl ?_)); obtain ⟨a0, j⟩ := bnone j; refine At.y (Y.ixRd hr0_0 rfl rfl rfl rfl rfl rfl rfl a0.1 a0.2) rfl rfl rfl (At.y (Y.ldFl hr0_0 rfl (q := 0) rfl rfl a0.1 a0.2 rfl rfl rfl) rfl rfl rfl ?_); refine At.alloc rfl rfl rfl (fun L => ?_); refine At.store rfl rfl rfl rfl .z rfl rfl rfl (.c (.c (.c (.c (.c .n))))) ?_; refine nT (sR 1 rfl (At.y (Y.load rfl rfl .z rfl rfl rfl) rfl rfl rfl (nT ?_))); refine At.block ?_; refine sR 2 rfl (nT ?_); rcases bite j with ⟨b8, j⟩ | ⟨b8, j⟩
  ··refine At.condT rfl (decide_eq_true b8) ?_
    refine sR 2 rfl (At.y (Y.load rfl rfl .z rfl rfl rfl) rfl rfl rfl (At.f5 (At.f5 (At.f5 (At.f5 ?_))))); refine At.f5 ?_; obtain ⟨a2, e4, j⟩ := bbind j; refine At.call rfl Q47.callee rfl rfl rfl (Q47.spec hr0_0 rfl hc0_0 rfl rfl rfl rfl e4) ?_; rintro _ _ ⟨rfl, rfl⟩; refine At.run 3 rfl ?_; refine At.alloc rfl rfl rfl (fun e5 => ?_); refine At.store rfl rfl rfl rfl .z rfl rfl rfl (.c (.c .n)) ?_; refine At.run 1 rfl (nT (sR 1 rfl (nT ?_))); rcases bite j with ⟨b9, j⟩ | ⟨b9, j⟩
    ··refine At.condT rfl b9 ?_
      refine At.held [pc e5 [i6 a2.2.1, i6 a2.2.2] 218, pc b0 [.slice A0_0 p.length c0_0, .slice A0_1 G.length c0_1, i6 I, .slice A0_3 x.length c0_3, .slice A0_4 D.length c0_4, .slice A0_5 u.length c0_5] 165, row Q13.fl 218 A0_1 G.length c0_1 G, row (Fl.int .i64) 3 A0_5 u.length c0_5 u, pc L [i6 ((gt p a1).Kind), i6 ((gt p a1).A), i6 ((gt p a1).B), .string ⟨((gt p a1).Name).toArray⟩, i6 ((gt p a1).At)] 51] 25 rfl ?_; refine At.H.pw 0 rfl rfl rfl rfl rfl (.c .z (.c .z (.c .z (.c (.s (.s .z)) (.c (.s (.s .z)) .n))))) ?_; refine At.H.pw 1 rfl rfl rfl rfl rfl (.c .z (.c .z (.c .z (.c (.s (.s .z)) (.c (.s (.s .z)) .n))))) ?_; refine At.H.pw 2 rfl rfl rfl rfl rfl (.c .z (.c .z (.c .z (.c (.s (.s .z)) (.c (.s (.s .z)) .n))))) ?_; refine At.H.tw 3 rfl (Y.load rfl rfl (.s .z) rfl rfl rfl) rfl rfl rfl (.c .z (.c .z (.c .z (.c (.s (.s .z)) (.c (.s (.s .z)) .n))))) ?_; refine At.H.pw 4 rfl rfl rfl rfl rfl (.c .z (.c .z (.c .z (.c (.s (.s .z)) (.c (.s (.s .z)) .n))))) ?_; refine At.H.pw 5 rfl rfl rfl rfl rfl (.c .z (.c .z (.c .z (.c (.s (.s .z)) (.c (.s (.s .z)) .n))))) ?_; refine At.H.pw 6 rfl rfl rfl rfl rfl (.c .z (.c .z (.c .z (.c (.s (.s .z)) (.c (.s (.s .z)) .n))))) ?_; refine At.H.pw 7 rfl rfl rfl rfl rfl (.c .z (.c .z (.c .z (.c (.s (.s .z)) (.c (.s (.s .z)) .n))))) ?_; refine At.H.tw 8 rfl (Y.load rfl rfl (.s .z) rfl rfl rfl) rfl rfl rfl (.c .z (.c .z (.c .z (.c (.s (.s .z)) (.c (.s (.s .z)) .n))))) ?_; refine At.H.pw 9 rfl rfl rfl rfl rfl (.c .z (.c .z (.c .z (.c (.s (.s .z)) (.c (.s (.s .z)) .n))))) ?_; refine At.H.pw 10 rfl rfl rfl rfl rfl (.c .z (.c .z (.c .z (.c (.s (.s .z)) (.c (.s (.s .z)) .n))))) ?_; refine At.H.tw 11 rfl (Y.load rfl rfl .z rfl rfl rfl) rfl rfl rfl (.c .z (.c .z (.c .z (.c (.s (.s .z)) (.c (.s (.s .z)) .n))))) ?_; refine At.H.pw 12 rfl rfl rfl rfl rfl (.c .z (.c .z (.c .z (.c (.s (.s .z)) (.c (.s (.s .z)) .n))))) ?_; refine At.H.pw 13 rfl rfl rfl rfl rfl (.c .z (.c .z (.c .z (.c (.s (.s .z)) (.c (.s (.s .z)) .n))))) ?_; refine At.H.pw 14 rfl rfl rfl rfl rfl (.c .z (.c .z (.c .z (.c (.s (.s .z)) (.c (.s (.s .z)) .n))))) ?_; refine At.H.tw 15 rfl (Y.load rfl rfl (.s .z) rfl rfl rfl) rfl rfl rfl (.c .z (.c .z (.c .z (.c (.s (.s .z)) (.c (.s (.s .z)) .n))))) ?_; refine At.H.pw 16 rfl rfl rfl rfl rfl (.c .z (.c .z (.c .z (.c (.s (.s .z)) (.c (.s (.s .z)) .n))))) ?_; refine At.H.tw 17 rfl (Y.load rfl rfl .z rfl rfl rfl) rfl rfl rfl (.c .z (.c .z (.c .z (.c (.s (.s .z)) (.c (.s (.s .z)) .n))))) ?_; refine At.H.pw 18 rfl rfl rfl rfl rfl (.c .z (.c .z (.c .z (.c (.s (.s .z)) (.c (.s (.s .z)) .n))))) ?_; refine At.H.tw 19 rfl (Y.rem rfl rfl (by decide)) rfl rfl rfl (.c .z (.c .z (.c .z (.c (.s (.s .z)) (.c (.s (.s .z)) .n))))) ?_; refine At.H.pw 20 rfl rfl rfl rfl rfl (.c .z (.c .z (.c .z (.c (.s (.s .z)) (.c (.s (.s .z)) .n))))) ?_; refine At.H.al [21] (Q6 ?_ Q7)
      ··refine At.HO.op rfl ?_
        obtain ⟨a3, j⟩ := bnone j; refine At.y (Y.ix (.s (.s (.s .z))) rfl rfl rfl rfl rfl rfl a3.1 a3.2) rfl rfl rfl ?_; refine At.HO.back (.c .z (.c .z (.c .z (.c (.s (.s .z)) (.c (.s (.s .z)) .n))))) ?_; refine At.H.al [22] (Q6 ?_ Q7)
        ··refine At.HO.op rfl ?_
          refine At.st rfl (.s (.s (.s .z))) (q := 0) (z := a2.2.1) rfl rfl rfl a3.1 a3.2 rfl rfl (.c .n) ?_; refine At.HO.back (.c (.s .z) (.c (.s .z) (.c (.s .z) (.c (.s (.s .z)) (.c (.s (.s .z)) .n))))) ?_; refine At.H.al [23] (Q6 ?_ Q7)
          ··refine At.HO.op rfl ?_
            obtain ⟨a4, j⟩ := bnone j; refine At.y (Y.ix (.s (.s (.s (.s .z)))) rfl rfl rfl rfl rfl rfl a4.1 a4.2) rfl rfl rfl ?_; refine At.HO.back (.c (.s .z) (.c (.s .z) (.c (.s .z) (.c (.s (.s .z)) (.c (.s (.s .z)) .n))))) ?_; refine At.H.al [24] (Q6 ?_ Q7)
            ··refine At.HO.op rfl ?_
              refine At.st rfl (.s (.s (.s (.s .z)))) (q := 0) (z := (!(decide ((Int.tmod (IntKind.i64.wrap (I - a2.2.2)) 2) = 0)))) rfl rfl rfl a4.1 a4.2 rfl rfl (.c .n) ?_; refine At.HO.back (.c (.s (.s .z)) (.c (.s (.s .z)) (.c (.s (.s .z)) (.c (.s (.s .z)) (.c (.s (.s .z)) .n))))) ?_; refine At.H.done (by kernel_rfl) ?_; refine At.ibn ?_; refine At.drop (.s (.s .z)) (At.drop (.s (.s (.s (.s (.s .z))))) (At.f4 (At.f1 (At.f2 (At.f4 (At.f4 ?_)))))); cases bret j; exact At.res (.inr rfl) rfl rfl ⟨G.length, A0_1, c0_1, rfl, rfl, rfl⟩
    ··refine At.condF rfl (bn b9) ?_
      refine At.skip ?_; refine At.ibn ?_; refine At.drop .z (At.drop (.s (.s (.s (.s (.s .z))))) ?_); cases bret j; exact At.res (.inr rfl) rfl rfl ⟨G.length, A0_1, c0_1, rfl, rfl, rfl⟩
  ··refine At.condF rfl (decide_eq_false b8) ?_
    refine sR 2 rfl (nT ?_); rcases bite j with ⟨c4, j⟩ | ⟨c4, j⟩
    ··refine At.condT rfl (decide_eq_true c4) ?_
      refine sR 3 rfl (At.y (Y.load rfl rfl (.s .z) rfl rfl rfl) rfl rfl rfl (At.run 3 rfl ?_)); refine At.store rfl rfl rfl rfl (.s .z) rfl rfl rfl (.s (.s (.c .n))) ?_; refine nT (sR 2 rfl (At.y (Y.load rfl rfl (.s .z) rfl rfl rfl) rfl rfl rfl (At.f5 (At.f5 ?_)))); refine At.f5 (At.f5 (At.f4 ?_)); obtain ⟨d8, e6, j⟩ := bbind j; refine At.call rfl Q19.callee rfl rfl rfl (ih _ _ b0 A0_0 p.length c0_0 A0_1 G.length c0_1 A0_3 x.length c0_3 A0_4 D.length c0_4 A0_5 u.length c0_5 p G (IntKind.i64.wrap (I + 1)) x D u ((gt p a1).A) hr0_0 rfl hc0_0 rfl rfl rfl rfl e6) ?_; rintro _ _ ⟨k2, e7, e8, rfl, rfl, rfl⟩; refine nT (sR 3 rfl (At.y (Y.load rfl rfl .z rfl rfl rfl) rfl rfl rfl (At.run 3 rfl ?_))); refine At.store rfl rfl rfl rfl .z rfl rfl rfl (.s (.s (.c .n))) ?_; refine nT ?_; refine At.still 14 (by kernel_rfl) ?_; refine At.Still.run 3 rfl ?_; refine At.Still.y (Y.load rfl rfl .z rfl rfl rfl) rfl rfl rfl ?_; refine At.Still.run 4 rfl ?_; refine At.Still.y (Y.load rfl rfl .z rfl rfl rfl) rfl rfl rfl ?_; refine At.Still.run 1 rfl ?_; refine At.Still.y (Y.load rfl rfl (.s (.s (.s (.s (.s .z))))) rfl rfl rfl) rfl rfl rfl ?_; obtain ⟨a5, j⟩ := bnone j; refine At.Still.y (Y.ix (.s (.s (.s (.s .z)))) rfl rfl rfl rfl rfl rfl a5.1 a5.2) rfl rfl rfl ?_; refine At.Still.y (Y.ld (.s (.s (.s (.s .z)))) (q := 0) rfl rfl a5.1 a5.2 rfl rfl rfl) rfl rfl rfl ?_; obtain ⟨a6, j⟩ := bnone j; refine At.Still.y (Y.ix (.s (.s (.s (.s .z)))) rfl rfl rfl rfl rfl rfl a6.1 a6.2) rfl rfl rfl ?_; refine At.Still.nil ?_; refine At.st rfl (.s (.s (.s (.s .z)))) (q := 0) (z := (gt d8.2.2.2.1 ((gt p a1).A))) rfl rfl rfl a6.1 a6.2 rfl rfl (.c .n) ?_; refine At.nil ?_; refine At.ibn ?_; refine At.drop (.s (.s (.s (.s (.s .z))))) (At.f4 (At.f4 (At.f4 (At.f4 ?_)))); cases bret j; exact At.res (.inr rfl) rfl rfl ⟨d8.2.2.1.length, e7, e8, rfl, rfl, rfl⟩
    ··refine At.condF rfl (decide_eq_false c4) ?_
      refine At.seq (sR 2 rfl (nT ?_)); obtain ⟨e9, f0, k3, j⟩ := bjoin j; let T9 : HProp := pc L [i6 ((gt p a1).Kind), i6 ((gt p a1).A), i6 ((gt p a1).B), .string ⟨((gt p a1).Name).toArray⟩, i6 ((gt p a1).At)] 51; let c5 : HProp := pc b0 [.slice A0_0 p.length c0_0, .slice A0_1 G.length c0_1, i6 I, .slice A0_3 x.length c0_3, .slice A0_4 D.length c0_4, .slice A0_5 u.length c0_5] 165; refine At.join (X := Bool) (fun O => [(0, bp b0), (1, i6 a1), (4, bp L), (15, i6 ((gt p a1).Kind)), (83, .bool O)]) (fun O => T9 :: c5 :: row Q13.fl 218 A0_1 G.length c0_1 G :: row (Fl.int .i64) 3 A0_3 x.length c0_3 x :: row Fl.bool 4 A0_4 D.length c0_4 D :: row (Fl.int .i64) 3 A0_5 u.length c0_5 u :: Fr) (fun O => e9 (.inl O) = some r) ?_ (fun d9 => ?_)
      ·rintro O j; have j := (f0 _).symm.trans j
       ·rcases bite j with ⟨c6, j⟩ | ⟨c6, j⟩
        ··refine At.condT rfl c6 ?_
          refine sR 2 rfl (At.y (Y.load rfl rfl .z rfl rfl rfl) rfl rfl rfl (At.f5 (At.f5 (At.f5 (At.f5 ?_))))); refine At.f5 ?_; obtain ⟨e0, f3, j⟩ := bbind j; refine At.call rfl Q19.callee rfl rfl rfl (ih _ _ b0 A0_0 p.length c0_0 A0_1 G.length c0_1 A0_3 x.length c0_3 A0_4 D.length c0_4 A0_5 u.length c0_5 p G I x D u ((gt p a1).A) hr0_0 rfl hc0_0 rfl rfl rfl rfl f3) ?_; rintro _ _ ⟨k4, f6, f7, rfl, rfl, rfl⟩; refine nT ?_; refine At.still 14 (by kernel_rfl) ?_; refine At.Still.run 3 rfl ?_; refine At.Still.y (Y.load rfl rfl .z rfl rfl rfl) rfl rfl rfl ?_; refine At.Still.run 4 rfl ?_; refine At.Still.y (Y.load rfl rfl .z rfl rfl rfl) rfl rfl rfl ?_; refine At.Still.run 1 rfl ?_; refine At.Still.y (Y.load rfl rfl (.s (.s (.s (.s (.s .z))))) rfl rfl rfl) rfl rfl rfl ?_; obtain ⟨a7, j⟩ := bnone j; refine At.Still.y (Y.ix (.s (.s (.s (.s .z)))) rfl rfl rfl rfl rfl rfl a7.1 a7.2) rfl rfl rfl ?_; refine At.Still.y (Y.ld (.s (.s (.s (.s .z)))) (q := 0) rfl rfl a7.1 a7.2 rfl rfl rfl) rfl rfl rfl ?_; obtain ⟨a8, j⟩ := bnone j; refine At.Still.y (Y.ix (.s (.s (.s (.s .z)))) rfl rfl rfl rfl rfl rfl a8.1 a8.2) rfl rfl rfl ?_; refine At.Still.nil ?_; refine At.st rfl (.s (.s (.s (.s .z)))) (q := 0) (z := (gt e0.2.2.2.1 ((gt p a1).A))) rfl rfl rfl a8.1 a8.2 rfl rfl (.c .n) ?_; refine At.nil ?_; refine At.ibn ?_; refine At.drop (.s (.s (.s (.s (.s .z))))) (At.f4 (At.f4 (At.f4 (At.f4 ?_)))); cases bret j; exact At.res (.inr rfl) rfl rfl ⟨e0.2.2.1.length, f6, f7, rfl, rfl, rfl⟩
        ··refine At.condF rfl (bn c6) ?_
          refine At.seq (sR 2 rfl (nT ?_)); obtain ⟨f8, f9, k5, j⟩ := bjoin j; refine At.join (X := Bool) (fun U => [(0, bp b0), (1, i6 a1), (4, bp L), (15, i6 ((gt p a1).Kind)), (104, .bool U)]) (fun U => T9 :: c5 :: row Q13.fl 218 A0_1 G.length c0_1 G :: row (Fl.int .i64) 3 A0_3 x.length c0_3 x :: row Fl.bool 4 A0_4 D.length c0_4 D :: row (Fl.int .i64) 3 A0_5 u.length c0_5 u :: Fr) (fun U => f8 (.inl U) = some r) ?_ (fun e1 => ?_)
          ·rintro U j; have j := (f9 _).symm.trans j
           ·rcases bite j with ⟨c7, j⟩ | ⟨c7, j⟩
            ··refine At.condT rfl c7 ?_
              refine sR 2 rfl (At.y (Y.load rfl rfl .z rfl rfl rfl) rfl rfl rfl (At.f5 (At.f5 (At.f5 (At.f5 ?_))))); refine At.f5 ?_; obtain ⟨M, g0, j⟩ := bbind j; refine At.call rfl Q19.callee rfl rfl rfl (ih _ _ b0 A0_0 p.length c0_0 A0_1 G.length c0_1 A0_3 x.length c0_3 A0_4 D.length c0_4 A0_5 u.length c0_5 p G I x D u ((gt p a1).A) hr0_0 rfl hc0_0 rfl rfl rfl rfl g0) ?_; rintro _ _ ⟨k6, g1, g2, rfl, rfl, rfl⟩; refine nT (sR 2 rfl ?_); refine At.y (Y.load rfl rfl (.s (.s (.s (.s (.s .z))))) rfl rfl rfl) rfl rfl rfl ?_; refine At.rowLen (.s (.s .z)) fun g3 => ?_; refine At.rowLen (.s (.s (.s .z))) fun g4 => ?_; refine At.rowLen (.s (.s (.s (.s .z)))) fun g5 => ?_; obtain ⟨V, g6, j⟩ := bbind j; refine At.call rfl Q19.callee rfl rfl rfl (ih _ _ b0 A0_0 p.length c0_0 g1 M.2.2.1.length g2 A0_3 x.length c0_3 A0_4 D.length c0_4 A0_5 u.length c0_5 p M.2.2.1 M.2.2.2.2 M.2.1 M.1 M.2.2.2.1 ((gt p a1).B) hr0_0 rfl hc0_0 rfl g3 g4 g5 g6) ?_; rintro _ _ ⟨k7, g7, g8, rfl, rfl, rfl⟩; refine nT ?_; refine At.still 23 (by kernel_rfl) ?_; refine At.Still.run 3 rfl ?_; refine At.Still.y (Y.load rfl rfl .z rfl rfl rfl) rfl rfl rfl ?_; refine At.Still.run 4 rfl ?_; refine At.Still.y (Y.load rfl rfl .z rfl rfl rfl) rfl rfl rfl ?_; refine At.Still.run 1 rfl ?_; refine At.Still.y (Y.load rfl rfl (.s (.s (.s (.s (.s .z))))) rfl rfl rfl) rfl rfl rfl ?_; obtain ⟨a9, j⟩ := bnone j; refine At.Still.y (Y.ix (.s (.s (.s (.s .z)))) rfl rfl rfl rfl rfl rfl a9.1 a9.2) rfl rfl rfl ?_; refine At.Still.y (Y.ld (.s (.s (.s (.s .z)))) (q := 0) rfl rfl a9.1 a9.2 rfl rfl rfl) rfl rfl rfl ?_; refine At.Still.run 3 rfl ?_; refine At.Still.y (Y.load rfl rfl .z rfl rfl rfl) rfl rfl rfl ?_; refine At.Still.run 1 rfl ?_; refine At.Still.y (Y.load rfl rfl (.s (.s (.s (.s (.s .z))))) rfl rfl rfl) rfl rfl rfl ?_; obtain ⟨b2, j⟩ := bnone j; refine At.Still.y (Y.ix (.s (.s (.s (.s .z)))) rfl rfl rfl rfl rfl rfl b2.1 b2.2) rfl rfl rfl ?_; refine At.Still.y (Y.ld (.s (.s (.s (.s .z)))) (q := 0) rfl rfl b2.1 b2.2 rfl rfl rfl) rfl rfl rfl ?_; refine At.Still.run 1 rfl ?_; obtain ⟨b3, j⟩ := bnone j; refine At.Still.y (Y.ix (.s (.s (.s (.s .z)))) rfl rfl rfl rfl rfl rfl b3.1 b3.2) rfl rfl rfl ?_; refine At.Still.nil ?_; refine At.st rfl (.s (.s (.s (.s .z)))) (q := 0) (z := (if gt V.2.2.2.1 ((gt p a1).A) < gt V.2.2.2.1 ((gt p a1).B) then gt V.2.2.2.1 ((gt p a1).B) else gt V.2.2.2.1 ((gt p a1).A))) rfl rfl rfl b3.1 b3.2 rfl rfl (.c .n) ?_; refine At.nil ?_; refine At.ibn ?_; refine At.drop (.s (.s (.s (.s (.s .z))))) (At.f4 (At.f4 (At.f4 (At.f4 ?_)))); cases bret j; exact At.res (.inr rfl) rfl rfl ⟨V.2.2.1.length, g7, g8, rfl, rfl, rfl⟩
            ··refine At.condF rfl (bn c7) ?_
              refine At.seq (sR 2 rfl (nT ?_)); obtain ⟨g9, h0, k8, j⟩ := bjoin j; refine At.join (X := Bool) (fun Z => [(0, bp b0), (1, i6 a1), (4, bp L), (138, .bool Z)]) (fun Z => T9 :: c5 :: row Q13.fl 218 A0_1 G.length c0_1 G :: row (Fl.int .i64) 3 A0_3 x.length c0_3 x :: row Fl.bool 4 A0_4 D.length c0_4 D :: row (Fl.int .i64) 3 A0_5 u.length c0_5 u :: Fr) (fun Z => g9 (.inl Z) = some r) ?_ (fun e2 => ?_)
              ·rintro Z j; have j := (h0 _).symm.trans j
               ·rcases bite j with ⟨c8, j⟩ | ⟨c8, j⟩
                ··refine At.condT rfl c8 ?_
                  refine At.seq ?_; refine At.held [T9, row (Fl.int .i64) 3 A0_3 x.length c0_3 x, row Fl.bool 4 A0_4 D.length c0_4 D, row (Fl.int .i64) 3 A0_5 u.length c0_5 u] 16 rfl ?_; refine At.H.pw 0 rfl rfl rfl rfl rfl (.c .z (.c (.s (.s .z)) (.c (.s (.s .z)) (.c (.s (.s .z)) .n)))) ?_; refine At.H.pw 1 rfl rfl rfl rfl rfl (.c .z (.c (.s (.s .z)) (.c (.s (.s .z)) (.c (.s (.s .z)) .n)))) ?_; refine At.H.pw 2 rfl rfl rfl rfl rfl (.c .z (.c (.s (.s .z)) (.c (.s (.s .z)) (.c (.s (.s .z)) .n)))) ?_; refine At.H.pw 3 rfl rfl rfl rfl rfl (.c .z (.c (.s (.s .z)) (.c (.s (.s .z)) (.c (.s (.s .z)) .n)))) ?_; refine At.H.pw 5 rfl rfl rfl rfl rfl (.c .z (.c (.s (.s .z)) (.c (.s (.s .z)) (.c (.s (.s .z)) .n)))) ?_; refine At.H.pw 6 rfl rfl rfl rfl rfl (.c .z (.c (.s (.s .z)) (.c (.s (.s .z)) (.c (.s (.s .z)) .n)))) ?_; refine At.H.pw 7 rfl rfl rfl rfl rfl (.c .z (.c (.s (.s .z)) (.c (.s (.s .z)) (.c (.s (.s .z)) .n)))) ?_; refine At.H.pw 8 rfl rfl rfl rfl rfl (.c .z (.c (.s (.s .z)) (.c (.s (.s .z)) (.c (.s (.s .z)) .n)))) ?_; obtain ⟨c9, j⟩ := bnone j; refine At.H.joinK (X := (Option Addr) × Nat) (fun s_ => [(0, bp b0), (1, i6 a1), (4, bp L)]) (fun s_ => pc b0 [.slice A0_0 p.length c0_0, .slice s_.1 ((G ++ ([(⟨a1, I⟩ : Q13)] : List Q13)).length) s_.2, i6 I, .slice A0_3 x.length c0_3, .slice A0_4 D.length c0_4, .slice A0_5 u.length c0_5] 165 :: row Q13.fl 218 s_.1 ((G ++ ([(⟨a1, I⟩ : Q13)] : List Q13)).length) s_.2 (G ++ ([(⟨a1, I⟩ : Q13)] : List Q13)) :: T9 :: row (Fl.int .i64) 3 A0_3 x.length c0_3 x :: row Fl.bool 4 A0_4 D.length c0_4 D :: row (Fl.int .i64) 3 A0_5 u.length c0_5 u :: Fr) (fun s_ => True) ?_ (fun d0 => ?_)
                  ·rintro ⟨h1, h2⟩ -
                   ·refine At.thn (sR 2 rfl (At.y (Y.load rfl rfl (.s (.s .z)) rfl rfl rfl) rfl rfl rfl (At.f5 (At.f5 (At.f5 ?_))))); refine At.f4 (At.f4 ?_); obtain ⟨J, h3, j⟩ := bbind j; refine At.call rfl Q19.callee rfl rfl rfl (ih _ _ b0 A0_0 p.length c0_0 h1 ((G ++ ([(⟨a1, I⟩ : Q13)] : List Q13)).length) h2 A0_3 x.length c0_3 A0_4 D.length c0_4 A0_5 u.length c0_5 p (G ++ ([(⟨a1, I⟩ : Q13)] : List Q13)) I x D u ((gt p a1).A) hr0_0 rfl hc0_0 rfl rfl rfl rfl h3) ?_; rintro _ _ ⟨k9, d1, d2, rfl, rfl, rfl⟩; refine nT (At.seq ?_); refine At.held [row (Fl.int .i64) 3 A0_3 x.length c0_3 J.2.1, row Fl.bool 4 A0_4 D.length c0_4 J.1, row (Fl.int .i64) 3 A0_5 u.length c0_5 J.2.2.2.1, T9] 15 rfl ?_; refine At.H.pw 0 rfl rfl rfl rfl rfl (.c (.s (.s .z)) (.c (.s (.s .z)) (.c (.s (.s .z)) (.c (.s (.s .z)) .n)))) ?_; refine At.H.pw 1 rfl rfl rfl rfl rfl (.c (.s (.s .z)) (.c (.s (.s .z)) (.c (.s (.s .z)) (.c (.s (.s .z)) .n)))) ?_; refine At.H.pw 2 rfl rfl rfl rfl rfl (.c (.s (.s .z)) (.c (.s (.s .z)) (.c (.s (.s .z)) (.c (.s (.s .z)) .n)))) ?_; refine At.H.pw 3 rfl rfl rfl rfl rfl (.c (.s (.s .z)) (.c (.s (.s .z)) (.c (.s (.s .z)) (.c (.s (.s .z)) .n)))) ?_; refine At.H.pw 5 rfl rfl rfl rfl rfl (.c (.s (.s .z)) (.c (.s (.s .z)) (.c (.s (.s .z)) (.c (.s (.s .z)) .n)))) ?_; refine At.H.pw 6 rfl rfl rfl rfl rfl (.c (.s (.s .z)) (.c (.s (.s .z)) (.c (.s (.s .z)) (.c (.s (.s .z)) .n)))) ?_; refine At.H.pw 7 rfl rfl rfl rfl rfl (.c (.s (.s .z)) (.c (.s (.s .z)) (.c (.s (.s .z)) (.c (.s (.s .z)) .n)))) ?_; obtain ⟨b4, j⟩ := bnone j; let h4 : HProp := pc b0 [.slice A0_0 p.length c0_0, .slice d1 ((J.2.2.1.take (IntKind.i64.wrap ((J.2.2.1.length : Int) - 1)).toNat).length) d2, i6 J.2.2.2.2, .slice A0_3 x.length c0_3, .slice A0_4 D.length c0_4, .slice A0_5 u.length c0_5] 165; let h5 : HProp := row Q13.fl 218 d1 ((J.2.2.1.take (IntKind.i64.wrap ((J.2.2.1.length : Int) - 1)).toNat).length) d2 (J.2.2.1.take (IntKind.i64.wrap ((J.2.2.1.length : Int) - 1)).toNat); refine At.H.joinK (X := Unit) (fun _ => [(0, bp b0), (1, i6 a1), (4, bp L)]) (fun _ => h4 :: h5 :: row (Fl.int .i64) 3 A0_3 x.length c0_3 J.2.1 :: row Fl.bool 4 A0_4 D.length c0_4 J.1 :: row (Fl.int .i64) 3 A0_5 u.length c0_5 J.2.2.2.1 :: T9 :: Fr) (fun _ => True) ?_ (fun e3 => ?_)
                    ·rintro _ -
                     ·refine At.thn ?_; refine At.still 15 (by kernel_rfl) ?_; refine At.Still.run 3 rfl ?_; refine At.Still.y (Y.load rfl rfl .z rfl rfl rfl) rfl rfl rfl ?_; refine At.Still.run 4 rfl ?_; refine At.Still.y (Y.load rfl rfl .z rfl rfl rfl) rfl rfl rfl ?_; refine At.Still.run 1 rfl ?_; refine At.Still.y (Y.load rfl rfl (.s (.s (.s (.s (.s .z))))) rfl rfl rfl) rfl rfl rfl ?_; obtain ⟨b5, j⟩ := bnone j; refine At.Still.y (Y.ix (.s (.s (.s (.s .z)))) rfl rfl rfl rfl rfl rfl b5.1 b5.2) rfl rfl rfl ?_; refine At.Still.y (Y.ld (.s (.s (.s (.s .z)))) (q := 0) rfl rfl b5.1 b5.2 rfl rfl rfl) rfl rfl rfl ?_; refine At.Still.run 1 rfl ?_; obtain ⟨b6, j⟩ := bnone j; refine At.Still.y (Y.ix (.s (.s (.s (.s .z)))) rfl rfl rfl rfl rfl rfl b6.1 b6.2) rfl rfl rfl ?_; refine At.Still.nil ?_; refine At.st rfl (.s (.s (.s (.s .z)))) (q := 0) (z := (IntKind.i64.wrap (gt J.2.2.2.1 ((gt p a1).A) + 1))) rfl rfl rfl b6.1 b6.2 rfl rfl (.c .n) ?_; refine At.nil ?_; refine At.ibn ?_; refine At.drop (.s (.s (.s (.s (.s .z))))) (At.f4 (At.f4 (At.f4 (At.f4 ?_)))); cases bret j; exact At.res (.inr rfl) rfl rfl ⟨(J.2.2.1.take (IntKind.i64.wrap ((J.2.2.1.length : Int) - 1)).toNat).length, d1, d2, rfl, rfl, rfl⟩
                    ·refine At.H.al [4, 8] (Q6 ?_ (Q6 ?_ Q7))
                     ··refine At.HO.op rfl ?_
                       refine At.y (Y.load rfl rfl .z rfl rfl rfl) rfl rfl rfl ?_; refine At.HO.back (.c (.s (.s .z)) (.c (.s (.s .z)) (.c (.s (.s .z)) (.c (.s (.s .z)) .n)))) ?_; refine At.H.al [8] (Q6 ?_ Q7)
                       ··refine At.HO.op rfl ?_
                         refine At.y (Y.load rfl rfl .z rfl rfl rfl) rfl rfl rfl ?_; refine At.HO.back (.c (.s (.s .z)) (.c (.s (.s .z)) (.c (.s (.s .z)) (.c (.s (.s .z)) .n)))) ?_; refine At.H.pw 9 rfl rfl rfl rfl rfl (.c (.s (.s .z)) (.c (.s (.s .z)) (.c (.s (.s .z)) (.c (.s (.s .z)) .n)))) ?_; refine At.H.pw 10 rfl rfl rfl rfl rfl (.c (.s (.s .z)) (.c (.s (.s .z)) (.c (.s (.s .z)) (.c (.s (.s .z)) .n)))) ?_; refine At.H.al [11] (Q6 ?_ Q7)
                         ··refine At.HO.op rfl ?_
                           refine At.cut rfl (.s .z) rfl rfl rfl rfl rfl b4.1 b4.2 rfl ?_; refine At.HO.back (.c (.s (.s .z)) (.c (.s (.s .z)) (.c (.s (.s .z)) (.c (.s (.s .z)) .n)))) ?_; refine At.H.pw 12 rfl rfl rfl rfl rfl (.c (.s (.s .z)) (.c (.s (.s .z)) (.c (.s (.s .z)) (.c (.s (.s .z)) .n)))) ?_; refine At.H.pw 13 rfl rfl rfl rfl rfl (.c (.s (.s .z)) (.c (.s (.s .z)) (.c (.s (.s .z)) (.c (.s (.s .z)) .n)))) ?_; refine At.H.al [14] (Q6 ?_ Q7)
                           ··refine At.HO.op rfl ?_
                             refine At.store rfl rfl rfl rfl (.s .z) rfl rfl rfl (.s (.c .n)) ?_; refine At.HO.back (.c (.s (.s .z)) (.c (.s (.s .z)) (.c (.s (.s .z)) (.c (.s (.s .z)) .n)))) ?_; refine At.H.done (by kernel_rfl) ?_; exact At.of (e3 () trivial) ⟨rfl, rfl, rfl, trivial⟩
                     ··refine At.HO.op rfl ?_
                       refine At.y (Y.load rfl rfl .z rfl rfl rfl) rfl rfl rfl ?_; refine At.HO.back (.c (.s (.s .z)) (.c (.s (.s .z)) (.c (.s (.s .z)) (.c (.s (.s .z)) .n)))) ?_; refine At.H.pw 9 rfl rfl rfl rfl rfl (.c (.s (.s .z)) (.c (.s (.s .z)) (.c (.s (.s .z)) (.c (.s (.s .z)) .n)))) ?_; refine At.H.pw 10 rfl rfl rfl rfl rfl (.c (.s (.s .z)) (.c (.s (.s .z)) (.c (.s (.s .z)) (.c (.s (.s .z)) .n)))) ?_; refine At.H.al [4] (Q6 ?_ Q7)
                       ··refine At.HO.op rfl ?_
                         refine At.y (Y.load rfl rfl .z rfl rfl rfl) rfl rfl rfl ?_; refine At.HO.back (.c (.s (.s .z)) (.c (.s (.s .z)) (.c (.s (.s .z)) (.c (.s (.s .z)) .n)))) ?_; refine At.H.al [11] (Q6 ?_ Q7)
                         ··refine At.HO.op rfl ?_
                           refine At.cut rfl (.s .z) rfl rfl rfl rfl rfl b4.1 b4.2 rfl ?_; refine At.HO.back (.c (.s (.s .z)) (.c (.s (.s .z)) (.c (.s (.s .z)) (.c (.s (.s .z)) .n)))) ?_; refine At.H.pw 12 rfl rfl rfl rfl rfl (.c (.s (.s .z)) (.c (.s (.s .z)) (.c (.s (.s .z)) (.c (.s (.s .z)) .n)))) ?_; refine At.H.pw 13 rfl rfl rfl rfl rfl (.c (.s (.s .z)) (.c (.s (.s .z)) (.c (.s (.s .z)) (.c (.s (.s .z)) .n)))) ?_; refine At.H.al [14] (Q6 ?_ Q7)
                           ··refine At.HO.op rfl ?_
                             refine At.store rfl rfl rfl rfl (.s .z) rfl rfl rfl (.s (.c .n)) ?_; refine At.HO.back (.c (.s (.s .z)) (.c (.s (.s .z)) (.c (.s (.s .z)) (.c (.s (.s .z)) .n)))) ?_; refine At.H.done (by kernel_rfl) ?_; exact At.of (e3 () trivial) ⟨rfl, rfl, rfl, trivial⟩
                  ·refine At.H.al [4, 9] (Q6 ?_ (Q6 ?_ Q7))
                   ··refine At.HO.op rfl ?_
                     refine At.y (Y.load rfl rfl (.s .z) rfl rfl rfl) rfl rfl rfl ?_; refine At.HO.back (.c .z (.c (.s (.s .z)) (.c (.s (.s .z)) (.c (.s (.s .z)) .n)))) ?_; refine At.H.al [9] (Q6 ?_ Q7)
                     ··refine At.HO.op rfl ?_
                       refine At.y (Y.load rfl rfl (.s .z) rfl rfl rfl) rfl rfl rfl ?_; refine At.HO.back (.c .z (.c (.s (.s .z)) (.c (.s (.s .z)) (.c (.s (.s .z)) .n)))) ?_; refine At.H.tw 10 rfl (Y.build (is := [0, 1]) (xo := [.tmp 146, .tmp 150]) (vs := [i6 a1, i6 I]) (cs := [i6 a1, i6 I]) rfl rfl rfl rfl rfl rfl) rfl rfl rfl (.c .z (.c (.s (.s .z)) (.c (.s (.s .z)) (.c (.s (.s .z)) .n)))) ?_; refine At.H.al [11] (Q6 ?_ Q7)
                       ··refine At.HO.op rfl ?_
                         refine At.lit rfl (xo := [.tmp 151]) (ys := ([(⟨a1, I⟩ : Q13)] : List Q13)) Q13.fl rfl rfl rfl rfl rfl rfl rfl rfl rfl rfl rfl (fun l4 l5 => ?_); refine At.HO.back (.c (.s .z) (.c (.s (.s (.s .z))) (.c (.s (.s (.s .z))) (.c (.s (.s (.s .z))) .n)))) ?_; refine At.H.al [12] (Q6 ?_ Q7)
                         ··refine At.HO.op rfl ?_
                           refine At.append rfl (.s (.s (.s .z))) (Src.own .z (by simp)) rfl rfl rfl rfl rfl rfl rfl rfl c9 (by decide) rfl (fun h6 h7 => ?_); refine At.drop (.s .z) ?_; refine At.HO.back (.c (.s .z) (.c (.s (.s .z)) (.c (.s (.s .z)) (.c (.s (.s .z)) .n)))) ?_; refine At.H.pw 13 rfl rfl rfl rfl rfl (.c (.s .z) (.c (.s (.s .z)) (.c (.s (.s .z)) (.c (.s (.s .z)) .n)))) ?_; refine At.H.pw 14 rfl rfl rfl rfl rfl (.c (.s .z) (.c (.s (.s .z)) (.c (.s (.s .z)) (.c (.s (.s .z)) .n)))) ?_; refine At.H.al [15] (Q6 ?_ Q7)
                           ··refine At.HO.op rfl ?_
                             refine At.store rfl rfl rfl rfl (.s (.s .z)) rfl rfl rfl (.s (.c .n)) ?_; refine At.HO.back (.c (.s (.s .z)) (.c (.s (.s .z)) (.c (.s (.s .z)) (.c (.s (.s .z)) .n)))) ?_; refine At.H.done (by kernel_rfl) ?_; exact At.of (d0 (h6, h7) trivial) ⟨rfl, rfl, rfl, trivial⟩
                   ··refine At.HO.op rfl ?_
                     refine At.y (Y.load rfl rfl (.s .z) rfl rfl rfl) rfl rfl rfl ?_; refine At.HO.back (.c .z (.c (.s (.s .z)) (.c (.s (.s .z)) (.c (.s (.s .z)) .n)))) ?_; refine At.H.tw 10 rfl (Y.build (is := [0, 1]) (xo := [.tmp 146, .tmp 150]) (vs := [i6 a1, i6 I]) (cs := [i6 a1, i6 I]) rfl rfl rfl rfl rfl rfl) rfl rfl rfl (.c .z (.c (.s (.s .z)) (.c (.s (.s .z)) (.c (.s (.s .z)) .n)))) ?_; refine At.H.al [4, 11] (Q6 ?_ (Q6 ?_ Q7))
                     ··refine At.HO.op rfl ?_
                       refine At.y (Y.load rfl rfl (.s .z) rfl rfl rfl) rfl rfl rfl ?_; refine At.HO.back (.c .z (.c (.s (.s .z)) (.c (.s (.s .z)) (.c (.s (.s .z)) .n)))) ?_; refine At.H.al [11] (Q6 ?_ Q7)
                       ··refine At.HO.op rfl ?_
                         refine At.lit rfl (xo := [.tmp 151]) (ys := ([(⟨a1, I⟩ : Q13)] : List Q13)) Q13.fl rfl rfl rfl rfl rfl rfl rfl rfl rfl rfl rfl (fun l6 l7 => ?_); refine At.HO.back (.c (.s .z) (.c (.s (.s (.s .z))) (.c (.s (.s (.s .z))) (.c (.s (.s (.s .z))) .n)))) ?_; refine At.H.al [12] (Q6 ?_ Q7)
                         ··refine At.HO.op rfl ?_
                           refine At.append rfl (.s (.s (.s .z))) (Src.own .z (by simp)) rfl rfl rfl rfl rfl rfl rfl rfl c9 (by decide) rfl (fun h8 h9 => ?_); refine At.drop (.s .z) ?_; refine At.HO.back (.c (.s .z) (.c (.s (.s .z)) (.c (.s (.s .z)) (.c (.s (.s .z)) .n)))) ?_; refine At.H.pw 13 rfl rfl rfl rfl rfl (.c (.s .z) (.c (.s (.s .z)) (.c (.s (.s .z)) (.c (.s (.s .z)) .n)))) ?_; refine At.H.pw 14 rfl rfl rfl rfl rfl (.c (.s .z) (.c (.s (.s .z)) (.c (.s (.s .z)) (.c (.s (.s .z)) .n)))) ?_; refine At.H.al [15] (Q6 ?_ Q7)
                           ··refine At.HO.op rfl ?_
                             refine At.store rfl rfl rfl rfl (.s (.s .z)) rfl rfl rfl (.s (.c .n)) ?_; refine At.HO.back (.c (.s (.s .z)) (.c (.s (.s .z)) (.c (.s (.s .z)) (.c (.s (.s .z)) .n)))) ?_; refine At.H.done (by kernel_rfl) ?_; exact At.of (d0 (h8, h9) trivial) ⟨rfl, rfl, rfl, trivial⟩
                     ··refine At.HO.op rfl ?_
                       refine At.lit rfl (xo := [.tmp 151]) (ys := ([(⟨a1, I⟩ : Q13)] : List Q13)) Q13.fl rfl rfl rfl rfl rfl rfl rfl rfl rfl rfl rfl (fun l8 l9 => ?_); refine At.HO.back (.c (.s .z) (.c (.s (.s (.s .z))) (.c (.s (.s (.s .z))) (.c (.s (.s (.s .z))) .n)))) ?_; refine At.H.al [4] (Q6 ?_ Q7)
                       ··refine At.HO.op rfl ?_
                         refine At.y (Y.load rfl rfl (.s (.s .z)) rfl rfl rfl) rfl rfl rfl ?_; refine At.HO.back (.c (.s .z) (.c (.s (.s (.s .z))) (.c (.s (.s (.s .z))) (.c (.s (.s (.s .z))) .n)))) ?_; refine At.H.al [12] (Q6 ?_ Q7)
                         ··refine At.HO.op rfl ?_
                           refine At.append rfl (.s (.s (.s .z))) (Src.own .z (by simp)) rfl rfl rfl rfl rfl rfl rfl rfl c9 (by decide) rfl (fun k0 k1 => ?_); refine At.drop (.s .z) ?_; refine At.HO.back (.c (.s .z) (.c (.s (.s .z)) (.c (.s (.s .z)) (.c (.s (.s .z)) .n)))) ?_; refine At.H.pw 13 rfl rfl rfl rfl rfl (.c (.s .z) (.c (.s (.s .z)) (.c (.s (.s .z)) (.c (.s (.s .z)) .n)))) ?_; refine At.H.pw 14 rfl rfl rfl rfl rfl (.c (.s .z) (.c (.s (.s .z)) (.c (.s (.s .z)) (.c (.s (.s .z)) .n)))) ?_; refine At.H.al [15] (Q6 ?_ Q7)
                           ··refine At.HO.op rfl ?_
                             refine At.store rfl rfl rfl rfl (.s (.s .z)) rfl rfl rfl (.s (.c .n)) ?_; refine At.HO.back (.c (.s (.s .z)) (.c (.s (.s .z)) (.c (.s (.s .z)) (.c (.s (.s .z)) .n)))) ?_; refine At.H.done (by kernel_rfl) ?_; exact At.of (d0 (k0, k1) trivial) ⟨rfl, rfl, rfl, trivial⟩
                ··refine At.condF rfl (bn c8) ?_
                  refine At.skip ?_; refine At.ibn ?_; refine At.drop .z ?_; cases bret j; exact At.res (.inr rfl) rfl rfl ⟨G.length, A0_1, c0_1, rfl, rfl, rfl⟩
              ··rcases bite j with ⟨d3, j⟩ | ⟨d3, j⟩
                ··refine At.condT rfl (decide_eq_true d3) ?_
                  refine At.skip (At.thn ?_); exact fun a w e hs => e2 (decide ((gt p a1).Kind = 10)) j a w (e.sub ⟨rfl, rfl, rfl, rfl, trivial⟩) hs
                ··refine At.condF rfl (decide_eq_false d3) ?_
                  refine At.region (At.run 2 rfl (nT ?_)); exact fun a w e hs => e2 (decide ((gt p a1).Kind = 11)) j a w (e.sub ⟨rfl, rfl, rfl, rfl, trivial⟩) hs
          ··rcases bite j with ⟨d4, j⟩ | ⟨d4, j⟩
            ··refine At.condT rfl (decide_eq_true d4) ?_
              refine At.skip (At.thn ?_); exact fun a w e hs => e1 (decide ((gt p a1).Kind = 6)) j a w (e.sub ⟨rfl, rfl, rfl, rfl, rfl, trivial⟩) hs
            ··refine At.condF rfl (decide_eq_false d4) ?_
              refine At.region (At.run 2 rfl (nT ?_)); exact fun a w e hs => e1 (decide ((gt p a1).Kind = 7)) j a w (e.sub ⟨rfl, rfl, rfl, rfl, rfl, trivial⟩) hs
      ··rcases bite j with ⟨d5, j⟩ | ⟨d5, j⟩
        ··refine At.condT rfl (decide_eq_true d5) ?_
          refine At.skip (At.thn ?_); exact fun a w e hs => d9 (decide ((gt p a1).Kind = 8)) j a w (e.sub ⟨rfl, rfl, rfl, rfl, rfl, trivial⟩) hs
        ··refine At.condF rfl (decide_eq_false d5) ?_
          refine At.region (At.run 2 rfl (nT ?_)); exact fun a w e hs => d9 (decide ((gt p a1).Kind = 9)) j a w (e.sub ⟨rfl, rfl, rfl, rfl, rfl, trivial⟩) hs
theorem Q19.spec {p : List Q2} {q : List Q13} {G a1 : Int} {u x : List Int} {D : List Bool} (hr0_0 : RdS Q2.fl.rep R.heap A0_0 p) (hn0_0 : p.length = n0_0) (hc0_0 : n0_0 ≤ c0_0) (hn0_1 : q.length = n0_1) (hn0_3 : u.length = n0_3) (hn0_4 : D.length = n0_4) (hn0_5 : x.length = n0_5) {r : (List Bool) × (List Int) × (List Q13) × (List Int) × Int} (j : Q19.f p q G u D x a1 = some r) :
 Spec Tryz.prog 139 [bp b0, i6 a1] R (pc b0 [.slice A0_0 n0_0 c0_0, .slice A0_1 n0_1 c0_1, i6 G, .slice A0_3 n0_3 c0_3, .slice A0_4 n0_4 c0_4, .slice A0_5 n0_5 c0_5] 165 :: row Q13.fl 218 A0_1 n0_1 c0_1 q :: row (Fl.int .i64) 3 A0_3 n0_3 c0_3 u :: row Fl.bool 4 A0_4 n0_4 c0_4 D :: row (Fl.int .i64) 3 A0_5 n0_5 c0_5 x :: Fr) (fun v l' => ∃ (I : Nat) (J : Option Addr) (L : Nat), v = .tuple #[] ∧ pc b0 [.slice A0_0 n0_0 c0_0, .slice J I L, i6 r.2.2.2.2, .slice A0_3 n0_3 c0_3, .slice A0_4 n0_4 c0_4, .slice A0_5 n0_5 c0_5] 165 :: row Q13.fl 218 J I L r.2.2.1 :: row (Fl.int .i64) 3 A0_3 n0_3 c0_3 r.2.1 :: row Fl.bool 4 A0_4 n0_4 c0_4 r.1 :: row (Fl.int .i64) 3 A0_5 n0_5 c0_5 r.2.2.2.1 :: Fr = l' ∧ r.2.2.1.length = I) := by
 obtain ⟨k_, hk_⟩ := Q208 j; exact Q19.specN k_ R Fr b0 A0_0 n0_0 c0_0 A0_1 n0_1 c0_1 A0_3 n0_3 c0_3 A0_4 n0_4 c0_4 A0_5 n0_5 c0_5 p q G u D x a1 hr0_0 hn0_0 hc0_0 hn0_1 hn0_3 hn0_4 hn0_5 hk_

noncomputable def Q41.l0b (a0 : List Q2) (q : List Int) (p : Int) : Option (((List Int) × Int) ⊕ (((List Int)) ⊕ ((List Q13) × (List Int) × (List Bool) × (List Int) × Int))) :=
 if p < ((List.replicate (a0.length : Int).toNat (0 : Int)).length : Int) then
 if (0 : Int) ≤ p ∧ p < ((List.replicate (a0.length : Int).toNat (0 : Int)).length : Int) then
 nx ((st q p (-1)), IntKind.i64.wrap (p + 1))
 else none
 else
 dn (.inl q)
noncomputable def Q41.l0 (a0 : List Q2) (p : List Int) (q : Int) : Option (((List Int)) ⊕ ((List Q13) × (List Int) × (List Bool) × (List Int) × Int)) := iter (fun t_ : (List Int) × Int => Q41.l0b a0 t_.1 t_.2) (p, q)
noncomputable def Q41.f (a0 : List Q2) : Option ((List Q13) × (List Int) × (List Bool) × (List Int) × Int) :=
 if (0 : Int) ≤ (a0.length : Int) ∧ (8 : Int) * (a0.length : Int) ≤ 281474976710656 then
 if (0 : Int) ≤ (a0.length : Int) ∧ (1 : Int) * (a0.length : Int) ≤ 281474976710656 then
 jn (Q41.l0 a0 (List.replicate (a0.length : Int).toNat (0 : Int)) 0) (fun (q : List Int) =>
 (Q19.f a0 ([] : List Q13) 0 q (List.replicate (a0.length : Int).toNat (false : Bool)) (List.replicate (a0.length : Int).toNat (0 : Int)) (IntKind.i64.wrap ((a0.length : Int) - 1))).bind fun p =>
 some (p.2.2.1, p.2.1, p.1, p.2.2.2.1, p.2.2.2.2))
 else none
 else none
theorem Q41.callee : Callee Tryz.prog 109 := ⟨_, Tryz.func109, by kernel_rfl, by kernel_rfl⟩
theorem Q41.spec {a0 : List Q2} (hr0 : RdS Q2.fl.rep R.heap A0 a0) (hn0 : a0.length = n0) (hc0 : n0 ≤ c0) {r : (List Q13) × (List Int) × (List Bool) × (List Int) × Int} (j : Q41.f a0 = some r) :
 Spec Tryz.prog 109 [.slice A0 n0 c0] R (Fr) (fun v l' => ∃ (e4 : Nat) (d3 : Nat) (e5 : Option Addr) (e6 : Nat) (e7 : Option Addr) (e8 : Nat) (e9 : Option Addr) (f0 : Nat) (f5 : Option Addr) (f6 : Nat), v = bp e4 ∧ pc e4 [.slice A0 n0 c0, .slice e5 d3 e6, i6 r.2.2.2.2, .slice e7 ((List.replicate (n0 : Int).toNat (0 : Int)).length) e8, .slice e9 ((List.replicate (n0 : Int).toNat (false : Bool)).length) f0, .slice f5 ((List.replicate (n0 : Int).toNat (0 : Int)).length) f6] 165 :: row Q13.fl 218 e5 d3 e6 r.1 :: row (Fl.int .i64) 3 e7 ((List.replicate (n0 : Int).toNat (0 : Int)).length) e8 r.2.1 :: row Fl.bool 4 e9 ((List.replicate (n0 : Int).toNat (false : Bool)).length) f0 r.2.2.1 :: row (Fl.int .i64) 3 f5 ((List.replicate (n0 : Int).toNat (0 : Int)).length) f6 r.2.2.2.1 :: Fr = l' ∧ r.1.length = d3) := by
 subst hn0; refine Spec.of Tryz.func109 rfl rfl ?_; unfold Q41.f at j; have j := brun j; refine sR 1 rfl (nT (At.seq ?_)); refine At.held [] 13 rfl ?_; refine At.H.pw 0 rfl rfl rfl rfl rfl .n ?_; refine At.H.pw 1 rfl rfl rfl rfl rfl .n ?_; refine At.H.pw 2 rfl rfl rfl rfl rfl .n ?_; refine At.H.pw 4 rfl rfl rfl rfl rfl .n ?_; refine At.H.pw 5 rfl rfl rfl rfl rfl .n ?_; refine At.H.pw 7 rfl rfl rfl rfl rfl .n ?_; refine At.H.pw 8 rfl rfl rfl rfl rfl .n ?_; obtain ⟨p, j⟩ := bnone j; obtain ⟨u, j⟩ := bnone j; refine At.H.joinK (X := Nat × (Option Addr) × Nat × (Option Addr) × Nat × (Option Addr) × Nat) (fun s_ => [(0, .slice A0 a0.length c0), (3, .pointer (some ⟨s_.1, 0, none⟩))]) (fun s_ => pt s_.1 (.cells [.slice A0 a0.length c0, .slice none 0 0, i6 0, .slice s_.2.2.2.2.2.1 ((List.replicate (a0.length : Int).toNat (0 : Int)).length) s_.2.2.2.2.2.2, .slice s_.2.2.2.1 ((List.replicate (a0.length : Int).toNat (false : Bool)).length) s_.2.2.2.2.1, .slice s_.2.1 ((List.replicate (a0.length : Int).toNat (0 : Int)).length) s_.2.2.1].toArray 165) :: row (Fl.int .i64) 3 s_.2.1 ((List.replicate (a0.length : Int).toNat (0 : Int)).length) s_.2.2.1 (List.replicate (a0.length : Int).toNat (0 : Int)) :: row Fl.bool 4 s_.2.2.2.1 ((List.replicate (a0.length : Int).toNat (false : Bool)).length) s_.2.2.2.2.1 (List.replicate (a0.length : Int).toNat (false : Bool)) :: row (Fl.int .i64) 3 s_.2.2.2.2.2.1 ((List.replicate (a0.length : Int).toNat (0 : Int)).length) s_.2.2.2.2.2.2 (List.replicate (a0.length : Int).toNat (0 : Int)) :: Fr) (fun s_ => True) ?_ (fun M => ?_)
 ·rintro ⟨V, d4, d5, d6, d7, Z, a1⟩ -
  ·refine At.thn (At.seq (sR 3 rfl (At.y (Y.load rfl rfl .z rfl rfl rfl) rfl rfl rfl (At.run 2 rfl (At.nil ?_))))); refine At.thn ?_; refine At.block ?_; obtain ⟨g1, g2, h8, j⟩ := bjoin j; obtain ⟨f7, d8, g3⟩ := bsome j; clear j; unfold Q41.l0 at d8; obtain ⟨d9, O⟩ := Q17.1 d8; clear d8; let f8 : HProp := pc V [.slice A0 a0.length c0, .slice none 0 0, i6 0, .slice Z ((List.replicate (a0.length : Int).toNat (0 : Int)).length) a1, .slice d6 ((List.replicate (a0.length : Int).toNat (false : Bool)).length) d7, .slice d4 ((List.replicate (a0.length : Int).toNat (0 : Int)).length) d5] 165; let f9 : HProp := row (Fl.int .i64) 3 d4 ((List.replicate (a0.length : Int).toNat (0 : Int)).length) d5 (List.replicate (a0.length : Int).toNat (0 : Int)); let g0 : HProp := row Fl.bool 4 d6 ((List.replicate (a0.length : Int).toNat (false : Bool)).length) d7 (List.replicate (a0.length : Int).toNat (false : Bool)); refine At.loopJ (X := (List Int) × Int) (Y := (List Int)) (e0 := 0) (fun s_ => [(0, .slice A0 a0.length c0), (3, bp V), (21, i6 ((List.replicate (a0.length : Int).toNat (0 : Int)).length : Int)), (22, i6 s_.2)]) (fun s_ => f8 :: f9 :: g0 :: row (Fl.int .i64) 3 Z ((List.replicate (a0.length : Int).toNat (0 : Int)).length) a1 s_.1 :: Fr) (fun m_ => fun s_ => iterN (fun t_ : (List Int) × Int => Q41.l0b a0 t_.1 t_.2) m_ (s_.1, s_.2) = some f7) d9 ((List.replicate (a0.length : Int).toNat (0 : Int)), 0) O (fun U => [(0, .slice A0 a0.length c0), (3, bp V)]) (fun U => f8 :: f9 :: g0 :: row (Fl.int .i64) 3 Z ((List.replicate (a0.length : Int).toNat (0 : Int)).length) a1 U :: Fr) (fun U => g1 (.inl U) = some r) (fun a w e hs => ⟨e.sub ⟨rfl, rfl, rfl, rfl, trivial⟩, (by exact hs)⟩) ?_ (fun g4 => ?_)
   ·rintro U j; have j := (g2 _).symm.trans j
    ·refine At.ibx ?_; refine At.thn (sR 4 rfl ?_); refine At.nilRow Q13.fl 218 ?_; refine At.rowLen (.s (.s (.s (.s .z)))) fun g5 => ?_; refine At.f2 (At.f3 (At.f4 (At.f3 (At.f4 ?_)))); obtain ⟨g6, g7, j⟩ := bbind j; refine At.call rfl Q19.callee rfl rfl rfl (Q19.spec hr0 rfl hc0 rfl g5 rfl rfl g7) ?_; rintro _ _ ⟨h9, g8, g9, rfl, rfl, rfl⟩; refine nT (sR 2 rfl (nT (At.ret ?_))); cases bret j; exact At.res (.inl rfl) rfl rfl ⟨V, g6.2.2.1.length, g8, g9, Z, a1, d6, d7, d4, d5, rfl, rfl, rfl⟩
   ·clear O d9; rintro d9 ⟨e1, e2⟩ O; obtain ⟨h0, f_, h1, hf_, j⟩ := bit O; clear O; have j : (Q41.l0b a0 e1 e2).bind _ = some f7 := j; unfold Q41.l0b at j
    ·refine sR 1 rfl (nT (At.seq ?_)); rcases bite j with ⟨e3, j⟩ | ⟨e3, j⟩
     ··refine At.condT rfl (decide_eq_true e3) ?_
       refine At.skip (At.thn (At.seq ?_)); refine At.block ?_; refine sR 2 rfl (nT (At.region (At.run 3 rfl (At.y (Y.load rfl rfl .z rfl rfl rfl) rfl rfl rfl ?_)))); refine At.run 1 rfl ?_; obtain ⟨a2, j⟩ := bnone j; refine At.y (Y.ix (.s (.s (.s .z))) rfl rfl rfl rfl rfl rfl a2.1 a2.2) rfl rfl rfl ?_; refine At.st rfl (.s (.s (.s .z))) (q := 0) (z := (-1)) rfl rfl rfl a2.1 a2.2 rfl rfl (.c .n) ?_; refine At.nil ?_; refine At.ibn ?_; refine At.thn (At.region (At.run 2 rfl (At.nil (At.f3 (At.f3 (At.f3 ?_)))))); have j := bnx hf_ j; exact fun a w e hs => ⟨h0, ((st e1 e2 (-1)), IntKind.i64.wrap (e2 + 1)), h1, j, e.sub ⟨rfl, rfl, rfl, rfl, trivial⟩, hs⟩
     ··refine At.condF rfl (decide_eq_false e3) ?_
       refine At.exit ?_; refine At.the ?_; refine At.the ?_; exact fun a w e hs => g4 e1 (bdn j g3) a w (e.sub ⟨rfl, rfl, trivial⟩) hs
 ·refine At.H.al [3, 6, 9] (Q6 ?_ (Q6 ?_ (Q6 ?_ Q7)))
  ··refine At.HO.op rfl ?_
    refine At.make (F := (Fl.int .i64)) (z := 0) rfl rfl rfl rfl rfl rfl rfl rfl rfl rfl p.1 p.2 (by decide) rfl (fun x D => ?_); refine At.HO.back .n ?_; refine At.H.al [6, 9] (Q6 ?_ (Q6 ?_ Q7))
    ··refine At.HO.op rfl ?_
      refine At.make (F := Fl.bool) (z := false) rfl rfl rfl rfl rfl rfl rfl rfl rfl rfl u.1 u.2 (by decide) rfl (fun a3 a4 => ?_); refine At.HO.back .n ?_; refine At.H.al [9] (Q6 ?_ Q7)
      ··refine At.HO.op rfl ?_
        refine At.make (F := (Fl.int .i64)) (z := 0) rfl rfl rfl rfl rfl rfl rfl rfl rfl rfl p.1 p.2 (by decide) rfl (fun a5 a6 => ?_); refine At.HO.back .n ?_; refine At.H.tw 10 rfl (Y.build (is := [0, 3, 4, 5]) (xo := [.tmp 5, .tmp 8, .tmp 11, .tmp 14]) (vs := [.slice A0 a0.length c0, .slice x ((List.replicate (a0.length : Int).toNat (0 : Int)).length) D, .slice a3 ((List.replicate (a0.length : Int).toNat (false : Bool)).length) a4, .slice a5 ((List.replicate (a0.length : Int).toNat (0 : Int)).length) a6]) (cs := [.slice A0 a0.length c0, .slice none 0 0, i6 0, .slice x ((List.replicate (a0.length : Int).toNat (0 : Int)).length) D, .slice a3 ((List.replicate (a0.length : Int).toNat (false : Bool)).length) a4, .slice a5 ((List.replicate (a0.length : Int).toNat (0 : Int)).length) a6]) rfl rfl rfl rfl rfl rfl) rfl rfl rfl .n ?_; refine At.H.al [11] (Q6 ?_ Q7)
        ··refine At.HO.op rfl ?_
          refine At.box rfl rfl (cs := [.slice A0 a0.length c0, .slice none 0 0, i6 0, .slice x ((List.replicate (a0.length : Int).toNat (0 : Int)).length) D, .slice a3 ((List.replicate (a0.length : Int).toNat (false : Bool)).length) a4, .slice a5 ((List.replicate (a0.length : Int).toNat (0 : Int)).length) a6]) rfl rfl (fun h2 => ?_); refine At.HO.back .n ?_; refine At.H.pw 12 rfl rfl rfl rfl rfl .n ?_; refine At.H.done (by kernel_rfl) ?_; exact At.of (M (h2, a5, a6, a3, a4, x, D) trivial) ⟨rfl, rfl, trivial⟩
    ··refine At.HO.op rfl ?_
      refine At.make (F := (Fl.int .i64)) (z := 0) rfl rfl rfl rfl rfl rfl rfl rfl rfl rfl p.1 p.2 (by decide) rfl (fun a7 a8 => ?_); refine At.HO.back .n ?_; refine At.H.al [6] (Q6 ?_ Q7)
      ··refine At.HO.op rfl ?_
        refine At.make (F := Fl.bool) (z := false) rfl rfl rfl rfl rfl rfl rfl rfl rfl rfl u.1 u.2 (by decide) rfl (fun a9 b2 => ?_); refine At.HO.back .n ?_; refine At.H.tw 10 rfl (Y.build (is := [0, 3, 4, 5]) (xo := [.tmp 5, .tmp 8, .tmp 11, .tmp 14]) (vs := [.slice A0 a0.length c0, .slice x ((List.replicate (a0.length : Int).toNat (0 : Int)).length) D, .slice a9 ((List.replicate (a0.length : Int).toNat (false : Bool)).length) b2, .slice a7 ((List.replicate (a0.length : Int).toNat (0 : Int)).length) a8]) (cs := [.slice A0 a0.length c0, .slice none 0 0, i6 0, .slice x ((List.replicate (a0.length : Int).toNat (0 : Int)).length) D, .slice a9 ((List.replicate (a0.length : Int).toNat (false : Bool)).length) b2, .slice a7 ((List.replicate (a0.length : Int).toNat (0 : Int)).length) a8]) rfl rfl rfl rfl rfl rfl) rfl rfl rfl .n ?_; refine At.H.al [11] (Q6 ?_ Q7)
        ··refine At.HO.op rfl ?_
          refine At.box rfl rfl (cs := [.slice A0 a0.length c0, .slice none 0 0, i6 0, .slice x ((List.replicate (a0.length : Int).toNat (0 : Int)).length) D, .slice a9 ((List.replicate (a0.length : Int).toNat (false : Bool)).length) b2, .slice a7 ((List.replicate (a0.length : Int).toNat (0 : Int)).length) a8]) rfl rfl (fun h3 => ?_); refine At.HO.back .n ?_; refine At.H.pw 12 rfl rfl rfl rfl rfl .n ?_; refine At.H.done (by kernel_rfl) ?_; refine At.f3 (At.f2 (At.f3 (At.f3 ?_))); exact At.of (M (h3, a7, a8, a9, b2, x, D) trivial) ⟨rfl, rfl, trivial⟩
  ··refine At.HO.op rfl ?_
    refine At.make (F := Fl.bool) (z := false) rfl rfl rfl rfl rfl rfl rfl rfl rfl rfl u.1 u.2 (by decide) rfl (fun G I => ?_); refine At.HO.back .n ?_; refine At.H.al [3, 9] (Q6 ?_ (Q6 ?_ Q7))
    ··refine At.HO.op rfl ?_
      refine At.make (F := (Fl.int .i64)) (z := 0) rfl rfl rfl rfl rfl rfl rfl rfl rfl rfl p.1 p.2 (by decide) rfl (fun b3 b4 => ?_); refine At.HO.back .n ?_; refine At.H.al [9] (Q6 ?_ Q7)
      ··refine At.HO.op rfl ?_
        refine At.make (F := (Fl.int .i64)) (z := 0) rfl rfl rfl rfl rfl rfl rfl rfl rfl rfl p.1 p.2 (by decide) rfl (fun b5 b6 => ?_); refine At.HO.back .n ?_; refine At.H.tw 10 rfl (Y.build (is := [0, 3, 4, 5]) (xo := [.tmp 5, .tmp 8, .tmp 11, .tmp 14]) (vs := [.slice A0 a0.length c0, .slice b3 ((List.replicate (a0.length : Int).toNat (0 : Int)).length) b4, .slice G ((List.replicate (a0.length : Int).toNat (false : Bool)).length) I, .slice b5 ((List.replicate (a0.length : Int).toNat (0 : Int)).length) b6]) (cs := [.slice A0 a0.length c0, .slice none 0 0, i6 0, .slice b3 ((List.replicate (a0.length : Int).toNat (0 : Int)).length) b4, .slice G ((List.replicate (a0.length : Int).toNat (false : Bool)).length) I, .slice b5 ((List.replicate (a0.length : Int).toNat (0 : Int)).length) b6]) rfl rfl rfl rfl rfl rfl) rfl rfl rfl .n ?_; refine At.H.al [11] (Q6 ?_ Q7)
        ··refine At.HO.op rfl ?_
          refine At.box rfl rfl (cs := [.slice A0 a0.length c0, .slice none 0 0, i6 0, .slice b3 ((List.replicate (a0.length : Int).toNat (0 : Int)).length) b4, .slice G ((List.replicate (a0.length : Int).toNat (false : Bool)).length) I, .slice b5 ((List.replicate (a0.length : Int).toNat (0 : Int)).length) b6]) rfl rfl (fun h4 => ?_); refine At.HO.back .n ?_; refine At.H.pw 12 rfl rfl rfl rfl rfl .n ?_; refine At.H.done (by kernel_rfl) ?_; refine At.f2 (At.f3 (At.f3 (At.f3 ?_))); exact At.of (M (h4, b5, b6, G, I, b3, b4) trivial) ⟨rfl, rfl, trivial⟩
    ··refine At.HO.op rfl ?_
      refine At.make (F := (Fl.int .i64)) (z := 0) rfl rfl rfl rfl rfl rfl rfl rfl rfl rfl p.1 p.2 (by decide) rfl (fun b7 b8 => ?_); refine At.HO.back .n ?_; refine At.H.al [3] (Q6 ?_ Q7)
      ··refine At.HO.op rfl ?_
        refine At.make (F := (Fl.int .i64)) (z := 0) rfl rfl rfl rfl rfl rfl rfl rfl rfl rfl p.1 p.2 (by decide) rfl (fun b9 c4 => ?_); refine At.HO.back .n ?_; refine At.H.tw 10 rfl (Y.build (is := [0, 3, 4, 5]) (xo := [.tmp 5, .tmp 8, .tmp 11, .tmp 14]) (vs := [.slice A0 a0.length c0, .slice b9 ((List.replicate (a0.length : Int).toNat (0 : Int)).length) c4, .slice G ((List.replicate (a0.length : Int).toNat (false : Bool)).length) I, .slice b7 ((List.replicate (a0.length : Int).toNat (0 : Int)).length) b8]) (cs := [.slice A0 a0.length c0, .slice none 0 0, i6 0, .slice b9 ((List.replicate (a0.length : Int).toNat (0 : Int)).length) c4, .slice G ((List.replicate (a0.length : Int).toNat (false : Bool)).length) I, .slice b7 ((List.replicate (a0.length : Int).toNat (0 : Int)).length) b8]) rfl rfl rfl rfl rfl rfl) rfl rfl rfl .n ?_; refine At.H.al [11] (Q6 ?_ Q7)
        ··refine At.HO.op rfl ?_
          refine At.box rfl rfl (cs := [.slice A0 a0.length c0, .slice none 0 0, i6 0, .slice b9 ((List.replicate (a0.length : Int).toNat (0 : Int)).length) c4, .slice G ((List.replicate (a0.length : Int).toNat (false : Bool)).length) I, .slice b7 ((List.replicate (a0.length : Int).toNat (0 : Int)).length) b8]) rfl rfl (fun h5 => ?_); refine At.HO.back .n ?_; refine At.H.pw 12 rfl rfl rfl rfl rfl .n ?_; refine At.H.done (by kernel_rfl) ?_; refine At.f1 (At.f3 (At.f3 (At.f3 ?_))); exact At.of (M (h5, b7, b8, G, I, b9, c4) trivial) ⟨rfl, rfl, trivial⟩
  ··refine At.HO.op rfl ?_
    refine At.make (F := (Fl.int .i64)) (z := 0) rfl rfl rfl rfl rfl rfl rfl rfl rfl rfl p.1 p.2 (by decide) rfl (fun J L => ?_); refine At.HO.back .n ?_; refine At.H.al [3, 6] (Q6 ?_ (Q6 ?_ Q7))
    ··refine At.HO.op rfl ?_
      refine At.make (F := (Fl.int .i64)) (z := 0) rfl rfl rfl rfl rfl rfl rfl rfl rfl rfl p.1 p.2 (by decide) rfl (fun c5 c6 => ?_); refine At.HO.back .n ?_; refine At.H.al [6] (Q6 ?_ Q7)
      ··refine At.HO.op rfl ?_
        refine At.make (F := Fl.bool) (z := false) rfl rfl rfl rfl rfl rfl rfl rfl rfl rfl u.1 u.2 (by decide) rfl (fun c7 c8 => ?_); refine At.HO.back .n ?_; refine At.H.tw 10 rfl (Y.build (is := [0, 3, 4, 5]) (xo := [.tmp 5, .tmp 8, .tmp 11, .tmp 14]) (vs := [.slice A0 a0.length c0, .slice c5 ((List.replicate (a0.length : Int).toNat (0 : Int)).length) c6, .slice c7 ((List.replicate (a0.length : Int).toNat (false : Bool)).length) c8, .slice J ((List.replicate (a0.length : Int).toNat (0 : Int)).length) L]) (cs := [.slice A0 a0.length c0, .slice none 0 0, i6 0, .slice c5 ((List.replicate (a0.length : Int).toNat (0 : Int)).length) c6, .slice c7 ((List.replicate (a0.length : Int).toNat (false : Bool)).length) c8, .slice J ((List.replicate (a0.length : Int).toNat (0 : Int)).length) L]) rfl rfl rfl rfl rfl rfl) rfl rfl rfl .n ?_; refine At.H.al [11] (Q6 ?_ Q7)
        ··refine At.HO.op rfl ?_
          refine At.box rfl rfl (cs := [.slice A0 a0.length c0, .slice none 0 0, i6 0, .slice c5 ((List.replicate (a0.length : Int).toNat (0 : Int)).length) c6, .slice c7 ((List.replicate (a0.length : Int).toNat (false : Bool)).length) c8, .slice J ((List.replicate (a0.length : Int).toNat (0 : Int)).length) L]) rfl rfl (fun h6 => ?_); refine At.HO.back .n ?_; refine At.H.pw 12 rfl rfl rfl rfl rfl .n ?_; refine At.H.done (by kernel_rfl) ?_; refine At.f2 (At.f2 (At.f3 (At.f3 ?_))); exact At.of (M (h6, J, L, c7, c8, c5, c6) trivial) ⟨rfl, rfl, trivial⟩
    ··refine At.HO.op rfl ?_
      refine At.make (F := Fl.bool) (z := false) rfl rfl rfl rfl rfl rfl rfl rfl rfl rfl u.1 u.2 (by decide) rfl (fun c9 d0 => ?_); refine At.HO.back .n ?_; refine At.H.al [3] (Q6 ?_ Q7)
      ··refine At.HO.op rfl ?_
        refine At.make (F := (Fl.int .i64)) (z := 0) rfl rfl rfl rfl rfl rfl rfl rfl rfl rfl p.1 p.2 (by decide) rfl (fun d1 d2 => ?_); refine At.HO.back .n ?_; refine At.H.tw 10 rfl (Y.build (is := [0, 3, 4, 5]) (xo := [.tmp 5, .tmp 8, .tmp 11, .tmp 14]) (vs := [.slice A0 a0.length c0, .slice d1 ((List.replicate (a0.length : Int).toNat (0 : Int)).length) d2, .slice c9 ((List.replicate (a0.length : Int).toNat (false : Bool)).length) d0, .slice J ((List.replicate (a0.length : Int).toNat (0 : Int)).length) L]) (cs := [.slice A0 a0.length c0, .slice none 0 0, i6 0, .slice d1 ((List.replicate (a0.length : Int).toNat (0 : Int)).length) d2, .slice c9 ((List.replicate (a0.length : Int).toNat (false : Bool)).length) d0, .slice J ((List.replicate (a0.length : Int).toNat (0 : Int)).length) L]) rfl rfl rfl rfl rfl rfl) rfl rfl rfl .n ?_; refine At.H.al [11] (Q6 ?_ Q7)
        ··refine At.HO.op rfl ?_
          refine At.box rfl rfl (cs := [.slice A0 a0.length c0, .slice none 0 0, i6 0, .slice d1 ((List.replicate (a0.length : Int).toNat (0 : Int)).length) d2, .slice c9 ((List.replicate (a0.length : Int).toNat (false : Bool)).length) d0, .slice J ((List.replicate (a0.length : Int).toNat (0 : Int)).length) L]) rfl rfl (fun h7 => ?_); refine At.HO.back .n ?_; refine At.H.pw 12 rfl rfl rfl rfl rfl .n ?_; refine At.H.done (by kernel_rfl) ?_; refine At.f1 (At.f2 (At.f3 (At.f3 ?_))); exact At.of (M (h7, J, L, c9, d0, d1, d2) trivial) ⟨rfl, rfl, trivial⟩

noncomputable def Q70.f (p u x : Int) (D : Bs) (G : Int) : Option Bool :=
 jn (
 if p = 10 then
 some (.inl true)
 else
 some (.inl (decide (p = 11)))) (fun (q : Bool) =>
 some q)
theorem Q70.callee : Callee Tryz.prog 110 := ⟨_, Tryz.func110, by kernel_rfl, by kernel_rfl⟩
theorem Q70.spec {p u x D : Int} {G : Bs} {r : Bool} (j : Q70.f p u x G D = some r) :
 Spec Tryz.prog 110 [.agg #[i6 p, i6 u, i6 x, .string ⟨(G).toArray⟩, i6 D]] R (Fr) (fun v l' => v = .bool r ∧ Fr = l') := by
 refine Spec.of Tryz.func110 rfl rfl ?_; unfold Q70.f at j; have j := brun j; refine At.seq (At.region ?_); refine At.box rfl rfl (cs := [i6 p, i6 u, i6 x, .string ⟨(G).toArray⟩, i6 D]) rfl rfl (fun L => ?_); refine At.run 1 rfl (nT (sR 1 rfl (At.y (Y.load rfl rfl .z rfl rfl rfl) rfl rfl rfl (At.run 2 rfl ?_)))); obtain ⟨M, O, V, j⟩ := bjoin j; let U : HProp := pc L [i6 p, i6 u, i6 x, .string ⟨(G).toArray⟩, i6 D] 51; refine At.joinO 4 (X := Bool) (fun q => [(10, .bool q)]) (fun q => U :: Fr) (fun q => M (.inl q) = some r) ?_ (fun J => ?_)
 ·rintro q j; have j := (O _).symm.trans j
  ·refine At.run 1 rfl (nT (At.ret (At.drop .z ?_))); cases bret j; exact At.res (.inl rfl) rfl rfl ⟨rfl, rfl⟩
 ··rcases bite j with ⟨I, j⟩ | ⟨I, j⟩
   ··refine At.know (t := 6) rfl (decide_eq_true I) ?_
     refine At.run 4 rfl ?_; exact At.of (J true j) ⟨rfl, trivial⟩
   ··refine At.know (t := 6) rfl (decide_eq_false I) ?_
     refine At.run 1 rfl (At.y (Y.load rfl rfl .z rfl rfl rfl) rfl rfl rfl (At.run 2 rfl ?_)); exact At.of (J (decide (p = 11)) j) ⟨rfl, trivial⟩

noncomputable def Q48.l0b (a0 : List Q2) (u : (List Q13) × (List Int) × (List Bool) × (List Int) × Int) (q : List (Bs × Bool)) (p : Int) : Option (((List (Bs × Bool)) × Int) ⊕ (((List (Bs × Bool))) ⊕ (Int × Int))) :=
 if p < (a0.length : Int) then
 jn (
 if (0 : Int) ≤ p ∧ p < (a0.length : Int) then
 jn (
 if (gt a0 p).Kind = 4 then
 if (0 : Int) ≤ p ∧ p < ((List.replicate (a0.length : Int).toNat (0 : Int)).length : Int) then
 some (.inl (decide (gt u.2.1 p < 0)))
 else none
 else
 some (.inl false)) (fun (x : Bool) =>
 if x = true then
 up (upL (some (11, p)))
 else
 jn (
 if (gt a0 p).Kind = 4 then
 if (0 : Int) ≤ p ∧ p < ((List.replicate (a0.length : Int).toNat (false : Bool)).length : Int) then
 some (.inl (gt u.2.2.1 p))
 else none
 else
 some (.inl false)) (fun (D : Bool) =>
 if D = true then
 up (upL (some (12, p)))
 else
 (Q70.f ((gt a0 p).Kind) ((gt a0 p).A) ((gt a0 p).B) ((gt a0 p).Name) ((gt a0 p).At)).bind fun G =>
 jn (
 if G = true then
 some (.inl ((mget q ((gt a0 p).Name)).getD false))
 else
 some (.inl false)) (fun (I : Bool) =>
 if I = true then
 up (upL (some (9, p)))
 else
 (Q70.f ((gt a0 p).Kind) ((gt a0 p).A) ((gt a0 p).B) ((gt a0 p).Name) ((gt a0 p).At)).bind fun J =>
 jn (
 if J = true then
 if (0 : Int) ≤ p ∧ p < ((List.replicate (a0.length : Int).toNat (0 : Int)).length : Int) then
 some (.inl (decide (4 < gt u.2.2.2.1 p)))
 else none
 else
 some (.inl false)) (fun (L : Bool) =>
 if L = true then
 up (upL (some (13, p)))
 else
 (Q70.f ((gt a0 p).Kind) ((gt a0 p).A) ((gt a0 p).B) ((gt a0 p).Name) ((gt a0 p).At)).bind fun M =>
 if M = true then
 some (.inl (mset q ((gt a0 p).Name) true))
 else
 some (.inl q)))))
 else none) (fun (O : List (Bs × Bool)) =>
 nx (O, IntKind.i64.wrap (p + 1)))
 else
 dn (.inl q)
noncomputable def Q48.l0 (a0 : List Q2) (p : (List Q13) × (List Int) × (List Bool) × (List Int) × Int) (q : List (Bs × Bool)) (u : Int) : Option (((List (Bs × Bool))) ⊕ (Int × Int)) := iter (fun t_ : (List (Bs × Bool)) × Int => Q48.l0b a0 p t_.1 t_.2) (q, u)
noncomputable def Q48.f (a0 : List Q2) : Option (Int × Int) :=
 (Q38.f a0).bind fun p =>
 if p = true then
 (Q41.f a0).bind fun q =>
 jn (Q48.l0 a0 q ([] : List (Bs × Bool)) 0) (fun (u : List (Bs × Bool)) =>
 some (0, 0))
 else
 some (1, 0)
theorem Q48.callee : Callee Tryz.prog 69 := ⟨_, Tryz.func69, by kernel_rfl, by kernel_rfl⟩
theorem Q48.spec {a0 : List Q2} (hr0 : RdS Q2.fl.rep R.heap A0 a0) (hn0 : a0.length = n0) (hc0 : n0 ≤ c0) {r : Int × Int} (j : Q48.f a0 = some r) :
 Spec Tryz.prog 69 [.slice A0 n0 c0] R (Fr) (fun v l' => v = .tuple #[i6 r.2, i6 r.1] ∧ Fr = l') := by
 subst hn0; refine Spec.of Tryz.func69 rfl rfl ?_; unfold Q48.f at j; have j := brun j; refine sR 2 rfl (nT (At.seq (At.seq (At.region ?_)))); refine At.run 1 rfl ?_; obtain ⟨g8, e8, j⟩ := bbind j; refine At.call rfl Q38.callee rfl rfl rfl (Q38.spec hr0 rfl hc0 e8) ?_; rintro _ _ ⟨rfl, rfl⟩; refine At.run 1 rfl (nT ?_); rcases bite j with ⟨b7, j⟩ | ⟨b7, j⟩
 ··refine At.condF rfl (nf b7) ?_
   refine At.skip (At.thn (sR 1 rfl ?_)); obtain ⟨x, e9, j⟩ := bbind j; refine At.call rfl Q41.callee rfl rfl rfl (Q41.spec hr0 rfl hc0 e9) ?_; rintro _ _ ⟨G, g9, d4, d5, d6, d7, d8, d9, e1, e2, rfl, rfl, rfl⟩; refine At.run 1 rfl (nT (At.seq (At.region ?_))); refine At.makeMap Fl.bs.ov Fl.bool.ov rfl rfl (fun u => ?_); refine At.run 1 rfl (nT (At.seq (sR 3 rfl (At.nil ?_)))); refine At.thn ?_; refine At.block ?_; obtain ⟨f0, f1, a8, j⟩ := bjoin j; obtain ⟨I, b8, Z⟩ := bsome j; clear j; unfold Q48.l0 at b8; obtain ⟨b9, a1⟩ := Q17.1 b8; clear b8; let J : HProp := pc G [.slice A0 a0.length c0, .slice d4 x.1.length d5, i6 x.2.2.2.2, .slice d6 ((List.replicate (a0.length : Int).toNat (0 : Int)).length) d7, .slice d8 ((List.replicate (a0.length : Int).toNat (false : Bool)).length) d9, .slice e1 ((List.replicate (a0.length : Int).toNat (0 : Int)).length) e2] 165; let L : HProp := row Q13.fl 218 d4 x.1.length d5 x.1; let M : HProp := row (Fl.int .i64) 3 d6 ((List.replicate (a0.length : Int).toNat (0 : Int)).length) d7 x.2.1; let O : HProp := row Fl.bool 4 d8 ((List.replicate (a0.length : Int).toNat (false : Bool)).length) d9 x.2.2.1; let U : HProp := row (Fl.int .i64) 3 e1 ((List.replicate (a0.length : Int).toNat (0 : Int)).length) e2 x.2.2.2.1; refine At.loopJ (X := (List (Bs × Bool)) × Int) (Y := (List (Bs × Bool))) (e0 := 0) (fun s_ => [(4, bp G), (5, .map (some u)), (14, .slice A0 a0.length c0), (15, i6 (a0.length : Int)), (16, i6 s_.2)]) (fun s_ => mapo Fl.bs.ov Fl.bool.ov u s_.1 :: J :: L :: M :: O :: U :: Fr) (fun m_ => fun s_ => iterN (fun t_ : (List (Bs × Bool)) × Int => Q48.l0b a0 x t_.1 t_.2) m_ (s_.1, s_.2) = some I) b9 (([] : List (Bs × Bool)), 0) a1 (fun a2 => []) (fun a2 => mapo Fl.bs.ov Fl.bool.ov u a2 :: J :: L :: M :: O :: U :: Fr) (fun a2 => f0 (.inl a2) = some r) (fun a w e hs => ⟨e.sub ⟨rfl, rfl, rfl, rfl, rfl, trivial⟩, (by exact hs)⟩) ?_ (fun f2 => ?_)
   ·rintro a2 j; have j := (f1 _).symm.trans j
    ·refine At.ibx ?_; refine At.thn (sR 2 rfl (nT (At.ret (At.drop .z ?_)))); refine At.drop .z (At.drop .z (At.drop .z (At.drop .z (At.drop .z ?_)))); cases bret j; exact At.res (.inl rfl) rfl rfl ⟨rfl, rfl⟩
   ·clear a1 b9; rintro b9 ⟨D, p⟩ a1; obtain ⟨f3, f_, f4, hf_, j⟩ := bit a1; clear a1; have j : (Q48.l0b a0 x D p).bind _ = some I := j; unfold Q48.l0b at j
    ·refine sR 1 rfl (nT (At.seq ?_)); rcases bite j with ⟨c4, j⟩ | ⟨c4, j⟩
     ··refine At.condT rfl (decide_eq_true c4) ?_
       refine At.skip (At.thn (At.seq ?_)); obtain ⟨f5, f6, a9, j⟩ := bjoin j; refine At.join (X := (List (Bs × Bool))) (fun V => [(4, bp G), (5, .map (some u)), (14, .slice A0 a0.length c0), (15, i6 (a0.length : Int)), (16, i6 p)]) (fun V => mapo Fl.bs.ov Fl.bool.ov u V :: J :: L :: M :: O :: U :: Fr) (fun V => f5 (.inl V) = some I) ?_ (fun e3 => ?_)
       ·rintro V j; have j := (f6 _).symm.trans j
        ·refine At.region (At.run 2 rfl (At.nil ?_)); have j := bnx hf_ j; exact fun a w e hs => ⟨f3, (V, IntKind.i64.wrap (p + 1)), f4, j, e.sub ⟨rfl, rfl, rfl, rfl, rfl, trivial⟩, hs⟩
       ··refine At.block ?_
         refine sR 1 rfl ?_; obtain ⟨b2, j⟩ := bnone j; refine At.y (Y.ixRd hr0 rfl rfl rfl rfl rfl rfl rfl b2.1 b2.2) rfl rfl rfl (At.y (Y.ldFl hr0 rfl (q := 0) rfl rfl b2.1 b2.2 rfl rfl rfl) rfl rfl rfl ?_); refine At.alloc rfl rfl rfl (fun a3 => ?_); refine At.run 1 rfl ?_; refine At.store rfl rfl rfl rfl .z rfl rfl rfl (.c (.c (.c (.c (.c .n))))) ?_; refine nT (At.seq ?_); refine At.block ?_; refine sR 1 rfl (At.y (Y.load rfl rfl .z rfl rfl rfl) rfl rfl rfl (At.run 2 rfl ?_)); obtain ⟨f7, f8, h0, j⟩ := bjoin j; let b3 : HProp := pc a3 [i6 ((gt a0 p).Kind), i6 ((gt a0 p).A), i6 ((gt a0 p).B), .string ⟨((gt a0 p).Name).toArray⟩, i6 ((gt a0 p).At)] 51; refine At.joinO 9 (X := Bool) (fun a4 => [(4, bp G), (5, .map (some u)), (6, i6 p), (7, bp a3), (14, .slice A0 a0.length c0), (15, i6 (a0.length : Int)), (16, i6 p), (34, .bool a4)]) (fun a4 => b3 :: mapo Fl.bs.ov Fl.bool.ov u D :: J :: L :: M :: O :: U :: Fr) (fun a4 => f7 (.inl a4) = some I) ?_ (fun e4 => ?_)
         ·rintro a4 j; have j := (f8 _).symm.trans j
          ·refine At.run 1 rfl (nT ?_); rcases bite j with ⟨c5, j⟩ | ⟨c5, j⟩
           ··refine At.condT rfl c5 ?_
             refine sR 3 rfl (nT (At.ret ?_)); refine At.ibr ?_; refine At.thr ?_; refine At.ibr ?_; have j := bup a9 j; refine At.thr ?_; have j := bupL a8 Z j; refine At.thr ?_; refine At.ibr ?_; refine At.thr (At.drop .z (At.drop .z (At.drop .z (At.drop .z (At.drop .z (At.drop .z (At.drop .z ?_))))))); cases bret j; exact At.res (.inl rfl) rfl rfl ⟨rfl, rfl⟩
           ··refine At.condF rfl (bn c5) ?_
             refine sR 1 rfl (At.y (Y.load rfl rfl .z rfl rfl rfl) rfl rfl rfl (At.run 2 rfl ?_)); obtain ⟨f9, g0, h1, j⟩ := bjoin j; refine At.joinO 8 (X := Bool) (fun a5 => [(4, bp G), (5, .map (some u)), (6, i6 p), (7, bp a3), (14, .slice A0 a0.length c0), (15, i6 (a0.length : Int)), (16, i6 p), (48, .bool a5)]) (fun a5 => b3 :: mapo Fl.bs.ov Fl.bool.ov u D :: J :: L :: M :: O :: U :: Fr) (fun a5 => f9 (.inl a5) = some I) ?_ (fun e5 => ?_)
             ·rintro a5 j; have j := (g0 _).symm.trans j
              ·refine At.run 1 rfl (nT ?_); rcases bite j with ⟨c6, j⟩ | ⟨c6, j⟩
               ··refine At.condT rfl c6 ?_
                 refine sR 3 rfl (nT (At.ret ?_)); refine At.ibr ?_; refine At.thr ?_; refine At.ibr ?_; have j := bup a9 j; refine At.thr ?_; have j := bupL a8 Z j; refine At.thr ?_; refine At.ibr ?_; refine At.thr (At.drop .z (At.drop .z (At.drop .z (At.drop .z (At.drop .z (At.drop .z (At.drop .z ?_))))))); cases bret j; exact At.res (.inl rfl) rfl rfl ⟨rfl, rfl⟩
               ··refine At.condF rfl (bn c6) ?_
                 refine At.seq (At.region (At.y (Y.load rfl rfl .z rfl rfl rfl) rfl rfl rfl ?_)); obtain ⟨h2, g1, j⟩ := bbind j; refine At.call rfl Q70.callee rfl rfl rfl (Q70.spec g1) ?_; rintro _ _ ⟨rfl, rfl⟩; refine At.run 1 rfl ?_; obtain ⟨g2, g3, h3, j⟩ := bjoin j; refine At.joinO 5 (X := Bool) (fun a6 => [(4, bp G), (5, .map (some u)), (6, i6 p), (7, bp a3), (14, .slice A0 a0.length c0), (15, i6 (a0.length : Int)), (16, i6 p), (58, .bool a6)]) (fun a6 => b3 :: mapo Fl.bs.ov Fl.bool.ov u D :: J :: L :: M :: O :: U :: Fr) (fun a6 => g2 (.inl a6) = some I) ?_ (fun e6 => ?_)
                 ·rintro a6 j; have j := (g3 _).symm.trans j
                  ·refine At.run 1 rfl (nT ?_); rcases bite j with ⟨c7, j⟩ | ⟨c7, j⟩
                   ··refine At.condT rfl c7 ?_
                     refine sR 3 rfl (nT (At.ret ?_)); refine At.ibr ?_; refine At.thr ?_; refine At.ibr ?_; have j := bup a9 j; refine At.thr ?_; have j := bupL a8 Z j; refine At.thr ?_; refine At.ibr ?_; refine At.thr (At.drop .z (At.drop .z (At.drop .z (At.drop .z (At.drop .z (At.drop .z (At.drop .z ?_))))))); cases bret j; exact At.res (.inl rfl) rfl rfl ⟨rfl, rfl⟩
                   ··refine At.condF rfl (bn c7) ?_
                     refine At.seq (At.region (At.y (Y.load rfl rfl .z rfl rfl rfl) rfl rfl rfl ?_)); obtain ⟨h4, g4, j⟩ := bbind j; refine At.call rfl Q70.callee rfl rfl rfl (Q70.spec g4) ?_; rintro _ _ ⟨rfl, rfl⟩; refine At.run 1 rfl ?_; obtain ⟨g5, g6, h5, j⟩ := bjoin j; refine At.joinO 9 (X := Bool) (fun a7 => [(4, bp G), (5, .map (some u)), (6, i6 p), (7, bp a3), (14, .slice A0 a0.length c0), (15, i6 (a0.length : Int)), (16, i6 p), (72, .bool a7)]) (fun a7 => b3 :: mapo Fl.bs.ov Fl.bool.ov u D :: J :: L :: M :: O :: U :: Fr) (fun a7 => g5 (.inl a7) = some I) ?_ (fun e7 => ?_)
                     ·rintro a7 j; have j := (g6 _).symm.trans j
                      ·refine At.run 1 rfl (nT ?_); rcases bite j with ⟨c8, j⟩ | ⟨c8, j⟩
                       ··refine At.condT rfl c8 ?_
                         refine sR 3 rfl (nT (At.ret ?_)); refine At.ibr ?_; refine At.thr ?_; refine At.ibr ?_; have j := bup a9 j; refine At.thr ?_; have j := bupL a8 Z j; refine At.thr ?_; refine At.ibr ?_; refine At.thr (At.drop .z (At.drop .z (At.drop .z (At.drop .z (At.drop .z (At.drop .z (At.drop .z ?_))))))); cases bret j; exact At.res (.inl rfl) rfl rfl ⟨rfl, rfl⟩
                       ··refine At.condF rfl (bn c8) ?_
                         refine At.skip ?_; refine At.ibn ?_; refine At.thn (At.seq (At.region (At.y (Y.load rfl rfl .z rfl rfl rfl) rfl rfl rfl ?_))); obtain ⟨h6, g7, j⟩ := bbind j; refine At.call rfl Q70.callee rfl rfl rfl (Q70.spec g7) ?_; rintro _ _ ⟨rfl, rfl⟩; refine nT ?_; rcases bite j with ⟨c9, j⟩ | ⟨c9, j⟩
                         ··refine At.condT rfl c9 ?_
                           refine At.region (At.run 2 rfl (At.y (Y.load rfl rfl .z rfl rfl rfl) rfl rfl rfl ?_)); refine At.mapUpdate (k := ((gt a0 p).Name)) (v := true) rfl (.s .z) rfl rfl (KeyOk.str rfl rfl) rfl rfl rfl rfl rfl ?_; refine At.nil ?_; refine At.ibn ?_; refine At.thn (At.drop (.s .z) ?_); exact fun a w e hs => e3 (mset D ((gt a0 p).Name) true) j a w (e.sub ⟨rfl, rfl, rfl, rfl, rfl, trivial⟩) hs
                         ··refine At.condF rfl (bn c9) ?_
                           refine At.skip ?_; refine At.ibn ?_; refine At.thn (At.drop .z ?_); exact fun a w e hs => e3 D j a w (e.sub ⟨rfl, rfl, rfl, rfl, rfl, trivial⟩) hs
                     ··rcases bite j with ⟨d0, j⟩ | ⟨d0, j⟩
                       ··refine At.know (t := 63) rfl d0 ?_
                         refine At.run 3 rfl (At.y (Y.load rfl rfl (.s (.s .z)) rfl rfl rfl) rfl rfl rfl (At.run 1 rfl ?_)); obtain ⟨b4, j⟩ := bnone j; refine At.y (Y.ix (.s (.s (.s (.s (.s (.s .z)))))) rfl rfl rfl rfl rfl rfl b4.1 b4.2) rfl rfl rfl ?_; refine At.y (Y.ld (.s (.s (.s (.s (.s (.s .z)))))) (q := 0) rfl rfl b4.1 b4.2 rfl rfl rfl) rfl rfl rfl ?_; refine At.run 2 rfl ?_; exact At.of (e7 (decide (4 < gt x.2.2.2.1 p)) j) ⟨rfl, rfl, rfl, rfl, rfl, rfl, rfl, rfl, trivial⟩
                       ··refine At.know (t := 63) rfl (bn d0) ?_
                         refine At.run 9 rfl ?_; exact At.of (e7 false j) ⟨rfl, rfl, rfl, rfl, rfl, rfl, rfl, rfl, trivial⟩
                 ··rcases bite j with ⟨d1, j⟩ | ⟨d1, j⟩
                   ··refine At.know (t := 53) rfl d1 ?_
                     refine At.run 2 rfl (At.y (Y.load rfl rfl .z rfl rfl rfl) rfl rfl rfl ?_); refine At.y (Y.lookup (k := ((gt a0 p).Name)) (z := false) (.s .z) rfl rfl (KeyOk.str rfl rfl) (by kernel_rfl) rfl rfl rfl) rfl rfl rfl ?_; refine At.run 1 rfl ?_; exact At.of (e6 ((mget D ((gt a0 p).Name)).getD false) j) ⟨rfl, rfl, rfl, rfl, rfl, rfl, rfl, rfl, trivial⟩
                   ··refine At.know (t := 53) rfl (bn d1) ?_
                     refine At.run 5 rfl ?_; exact At.of (e6 false j) ⟨rfl, rfl, rfl, rfl, rfl, rfl, rfl, rfl, trivial⟩
             ··rcases bite j with ⟨d2, j⟩ | ⟨d2, j⟩
               ··refine At.know (t := 40) rfl (decide_eq_true d2) ?_
                 refine At.run 3 rfl (At.y (Y.load rfl rfl (.s (.s .z)) rfl rfl rfl) rfl rfl rfl (At.run 1 rfl ?_)); obtain ⟨b5, j⟩ := bnone j; refine At.y (Y.ix (.s (.s (.s (.s (.s .z))))) rfl rfl rfl rfl rfl rfl b5.1 b5.2) rfl rfl rfl ?_; refine At.y (Y.ld (.s (.s (.s (.s (.s .z))))) (q := 0) rfl rfl b5.1 b5.2 rfl rfl rfl) rfl rfl rfl ?_; refine At.run 1 rfl ?_; exact At.of (e5 (gt x.2.2.1 p) j) ⟨rfl, rfl, rfl, rfl, rfl, rfl, rfl, rfl, trivial⟩
               ··refine At.know (t := 40) rfl (decide_eq_false d2) ?_
                 refine At.run 8 rfl ?_; exact At.of (e5 false j) ⟨rfl, rfl, rfl, rfl, rfl, rfl, rfl, rfl, trivial⟩
         ··rcases bite j with ⟨d3, j⟩ | ⟨d3, j⟩
           ··refine At.know (t := 25) rfl (decide_eq_true d3) ?_
             refine At.run 3 rfl (At.y (Y.load rfl rfl (.s (.s .z)) rfl rfl rfl) rfl rfl rfl (At.run 1 rfl ?_)); obtain ⟨b6, j⟩ := bnone j; refine At.y (Y.ix (.s (.s (.s (.s .z)))) rfl rfl rfl rfl rfl rfl b6.1 b6.2) rfl rfl rfl ?_; refine At.y (Y.ld (.s (.s (.s (.s .z)))) (q := 0) rfl rfl b6.1 b6.2 rfl rfl rfl) rfl rfl rfl ?_; refine At.run 2 rfl ?_; exact At.of (e4 (decide (gt x.2.1 p < 0)) j) ⟨rfl, rfl, rfl, rfl, rfl, rfl, rfl, rfl, trivial⟩
           ··refine At.know (t := 25) rfl (decide_eq_false d3) ?_
             refine At.run 9 rfl ?_; exact At.of (e4 false j) ⟨rfl, rfl, rfl, rfl, rfl, rfl, rfl, rfl, trivial⟩
     ··refine At.condF rfl (decide_eq_false c4) ?_
       refine At.exit ?_; refine At.the ?_; refine At.the ?_; exact fun a w e hs => f2 D (bdn j Z) a w (e.sub trivial) hs
 ··refine At.condT rfl (nt (bn b7)) ?_
   refine sR 2 rfl (nT (At.ret (At.thr ?_))); cases bret j; exact At.res (.inl rfl) rfl rfl ⟨rfl, rfl⟩

noncomputable def Q103.f (a0 : List Q2) : Option (List Int) :=
 (Q38.f a0).bind fun p =>
 if p = true then
 (Q41.f a0).bind fun q =>
 some q.2.1
 else
 some ([] : List Int)
theorem Q103.callee : Callee Tryz.prog 70 := ⟨_, Tryz.func70, by kernel_rfl, by kernel_rfl⟩
theorem Q103.spec {a0 : List Q2} (hr0 : RdS Q2.fl.rep R.heap A0 a0) (hn0 : a0.length = n0) (hc0 : n0 ≤ c0) {r : (List Int)} (j : Q103.f a0 = some r) :
 Spec Tryz.prog 70 [.slice A0 n0 c0] R (Fr) (fun v l' => ∃ (p : Nat) (u : Option Addr) (x : Nat), v = .slice u p x ∧ row (Fl.int .i64) 3 u p x r :: Fr = l' ∧ r.length = p) := by
 subst hn0; refine Spec.of Tryz.func70 rfl rfl ?_; unfold Q103.f at j; have j := brun j; refine sR 1 rfl (nT (At.seq (At.seq (At.region ?_)))); refine At.run 1 rfl ?_; obtain ⟨M, D, j⟩ := bbind j; refine At.call rfl Q38.callee rfl rfl rfl (Q38.spec hr0 rfl hc0 D) ?_; rintro _ _ ⟨rfl, rfl⟩; refine At.run 1 rfl (nT ?_); rcases bite j with ⟨q, j⟩ | ⟨q, j⟩
 ··refine At.condF rfl (nf q) ?_
   refine At.skip (At.thn (sR 1 rfl ?_)); obtain ⟨O, G, j⟩ := bbind j; refine At.call rfl Q41.callee rfl rfl rfl (Q41.spec hr0 rfl hc0 G) ?_; rintro _ _ ⟨U, V, X, Z, I, J, a1, a2, a3, a4, rfl, rfl, rfl⟩; refine At.run 2 rfl (At.y (Y.load rfl rfl .z rfl rfl rfl) rfl rfl rfl (At.run 1 rfl (nT (At.ret ?_)))); refine At.rowLen (.s (.s .z)) fun L => ?_; refine At.drop .z (At.drop .z (At.drop (.s .z) (At.drop (.s .z) ?_))); cases bret j; exact At.res (.inl rfl) rfl rfl ⟨(List.replicate (a0.length : Int).toNat (0 : Int)).length, I, J, rfl, rfl, L⟩
 ··refine At.condT rfl (nt (bn q)) ?_
   refine sR 1 rfl (nT (At.ret (At.thr ?_))); refine At.nilRow (Fl.int .i64) 3 ?_; cases bret j; exact At.res (.inl rfl) rfl rfl ⟨0, none, 0, rfl, rfl, rfl⟩

noncomputable def Q92.f (p : Int) (q : List (Bs × Q0)) (u : List (Q8 × Q0)) : Option Int :=
 some p
theorem Q92.callee : Callee Tryz.prog 71 := ⟨_, Tryz.func71, by kernel_rfl, by kernel_rfl⟩
theorem Q92.spec {p : Int} {q : List (Bs × Q0)} {u : List (Q8 × Q0)} {r : Int} (j : Q92.f p q u = some r) :
 Spec Tryz.prog 71 [bp b0] R (pc b0 [i6 p, .map (some b0_1), .map (some b0_2)] 72 :: mapo Fl.bs.ov Q0.fl.av b0_1 q :: mapo Q8.fl.av Q0.fl.av b0_2 u :: Fr) (fun v l' => v = i6 r ∧ pc b0 [i6 p, .map (some b0_1), .map (some b0_2)] 72 :: mapo Fl.bs.ov Q0.fl.av b0_1 q :: mapo Q8.fl.av Q0.fl.av b0_2 u :: Fr = l') := by
 refine Spec.of Tryz.func71 rfl rfl ?_; unfold Q92.f at j; have j := brun j; refine sR 1 rfl (nT (sR 3 rfl ?_)); refine At.y (Y.load rfl rfl .z rfl rfl rfl) rfl rfl rfl (At.run 1 rfl (nT (At.ret ?_))); cases bret j; exact At.res (.inl rfl) rfl rfl ⟨rfl, rfl⟩

noncomputable def Q67.f (a0 : Int) : Option (Int × Int × Int × Int) :=
 jn (
 if 256 < (if a0 < 0 then 0 else a0) then
 if (0 : Int) ≤ IntKind.u64.wrap 64 then
 some (.inl (IntKind.u64.wrap ((Bw.shl .u64 1 (IntKind.u64.wrap 64)) - 1)))
 else none
 else
 if (0 : Int) ≤ IntKind.u64.wrap (if 64 < (if IntKind.i64.wrap ((if a0 < 0 then 0 else a0) - 0) < 0 then 0 else IntKind.i64.wrap ((if a0 < 0 then 0 else a0) - 0)) then 64 else (if IntKind.i64.wrap ((if a0 < 0 then 0 else a0) - 0) < 0 then 0 else IntKind.i64.wrap ((if a0 < 0 then 0 else a0) - 0))) then
 some (.inl (IntKind.u64.wrap ((Bw.shl .u64 1 (IntKind.u64.wrap (if 64 < (if IntKind.i64.wrap ((if a0 < 0 then 0 else a0) - 0) < 0 then 0 else IntKind.i64.wrap ((if a0 < 0 then 0 else a0) - 0)) then 64 else (if IntKind.i64.wrap ((if a0 < 0 then 0 else a0) - 0) < 0 then 0 else IntKind.i64.wrap ((if a0 < 0 then 0 else a0) - 0))))) - 1)))
 else none) (fun (p : Int) =>
 jn (
 if 256 < (if a0 < 0 then 0 else a0) then
 if (0 : Int) ≤ IntKind.u64.wrap 64 then
 some (.inl (IntKind.u64.wrap ((Bw.shl .u64 1 (IntKind.u64.wrap 64)) - 1)))
 else none
 else
 if (0 : Int) ≤ IntKind.u64.wrap (if 64 < (if IntKind.i64.wrap ((if a0 < 0 then 0 else a0) - 64) < 0 then 0 else IntKind.i64.wrap ((if a0 < 0 then 0 else a0) - 64)) then 64 else (if IntKind.i64.wrap ((if a0 < 0 then 0 else a0) - 64) < 0 then 0 else IntKind.i64.wrap ((if a0 < 0 then 0 else a0) - 64))) then
 some (.inl (IntKind.u64.wrap ((Bw.shl .u64 1 (IntKind.u64.wrap (if 64 < (if IntKind.i64.wrap ((if a0 < 0 then 0 else a0) - 64) < 0 then 0 else IntKind.i64.wrap ((if a0 < 0 then 0 else a0) - 64)) then 64 else (if IntKind.i64.wrap ((if a0 < 0 then 0 else a0) - 64) < 0 then 0 else IntKind.i64.wrap ((if a0 < 0 then 0 else a0) - 64))))) - 1)))
 else none) (fun (q : Int) =>
 jn (
 if 256 < (if a0 < 0 then 0 else a0) then
 if (0 : Int) ≤ IntKind.u64.wrap 64 then
 some (.inl (IntKind.u64.wrap ((Bw.shl .u64 1 (IntKind.u64.wrap 64)) - 1)))
 else none
 else
 if (0 : Int) ≤ IntKind.u64.wrap (if 64 < (if IntKind.i64.wrap ((if a0 < 0 then 0 else a0) - 128) < 0 then 0 else IntKind.i64.wrap ((if a0 < 0 then 0 else a0) - 128)) then 64 else (if IntKind.i64.wrap ((if a0 < 0 then 0 else a0) - 128) < 0 then 0 else IntKind.i64.wrap ((if a0 < 0 then 0 else a0) - 128))) then
 some (.inl (IntKind.u64.wrap ((Bw.shl .u64 1 (IntKind.u64.wrap (if 64 < (if IntKind.i64.wrap ((if a0 < 0 then 0 else a0) - 128) < 0 then 0 else IntKind.i64.wrap ((if a0 < 0 then 0 else a0) - 128)) then 64 else (if IntKind.i64.wrap ((if a0 < 0 then 0 else a0) - 128) < 0 then 0 else IntKind.i64.wrap ((if a0 < 0 then 0 else a0) - 128))))) - 1)))
 else none) (fun (u : Int) =>
 jn (
 if 256 < (if a0 < 0 then 0 else a0) then
 if (0 : Int) ≤ IntKind.u64.wrap 64 then
 some (.inl (IntKind.u64.wrap ((Bw.shl .u64 1 (IntKind.u64.wrap 64)) - 1)))
 else none
 else
 if (0 : Int) ≤ IntKind.u64.wrap (if 64 < (if IntKind.i64.wrap ((if a0 < 0 then 0 else a0) - 192) < 0 then 0 else IntKind.i64.wrap ((if a0 < 0 then 0 else a0) - 192)) then 64 else (if IntKind.i64.wrap ((if a0 < 0 then 0 else a0) - 192) < 0 then 0 else IntKind.i64.wrap ((if a0 < 0 then 0 else a0) - 192))) then
 some (.inl (IntKind.u64.wrap ((Bw.shl .u64 1 (IntKind.u64.wrap (if 64 < (if IntKind.i64.wrap ((if a0 < 0 then 0 else a0) - 192) < 0 then 0 else IntKind.i64.wrap ((if a0 < 0 then 0 else a0) - 192)) then 64 else (if IntKind.i64.wrap ((if a0 < 0 then 0 else a0) - 192) < 0 then 0 else IntKind.i64.wrap ((if a0 < 0 then 0 else a0) - 192))))) - 1)))
 else none) (fun (x : Int) =>
 some (p, q, u, x)))))
theorem Q67.callee : Callee Tryz.prog 16 := ⟨_, Tryz.func16, by kernel_rfl, by kernel_rfl⟩
theorem Q67.spec {a0 : Int} {r : Int × Int × Int × Int} (j : Q67.f a0 = some r) :
 Spec Tryz.prog 16 [i6 a0] R (Fr) (fun v l' => v = .agg #[.int .u64 r.1, .int .u64 r.2.1, .int .u64 r.2.2.1, .int .u64 r.2.2.2] ∧ Fr = l') := by
 refine Spec.of Tryz.func16 rfl rfl ?_; unfold Q67.f at j; have j := brun j; refine At.seq (At.region ?_); refine At.alloc rfl rfl rfl (fun G => ?_); refine nT (At.seq (At.region ?_)); refine At.alloc rfl rfl rfl (fun p => ?_); refine nT (sR 3 rfl (nT (At.seq ?_))); refine sR 1 rfl (nT ?_); refine At.block ?_; refine At.rounds 5 ?_; refine At.round ?_; refine sR 1 rfl (nT (At.seq ?_)); refine At.condT rfl rfl ?_; refine At.skip (At.thn (At.seq ?_)); obtain ⟨a3, a4, c5, j⟩ := bjoin j; let J : HProp := pt G (.cells ([.int .u64 0, .int .u64 0, .int .u64 0, .int .u64 0] : List Value).toArray 38); refine At.join (X := Int) (fun u => [(0, i6 (if a0 < 0 then 0 else a0)), (2, bp G), (3, bp p), (8, i6 0)]) (fun u => pc p [.int .u64 u, .int .u64 0, .int .u64 0, .int .u64 0] 38 :: J :: Fr) (fun u => a3 (.inl u) = some r) ?_ (fun V => ?_)
 ·rintro u j; have j := (a4 _).symm.trans j
  ·refine At.region (At.run 2 rfl (nT ?_)); refine At.round ?_; refine sR 1 rfl (nT (At.seq ?_)); refine At.condT rfl rfl ?_; refine At.skip (At.thn (At.seq ?_)); obtain ⟨a5, a6, c6, j⟩ := bjoin j; refine At.join (X := Int) (fun x => [(0, i6 (if a0 < 0 then 0 else a0)), (2, bp G), (3, bp p), (8, i6 1)]) (fun x => pc p [.int .u64 u, .int .u64 x, .int .u64 0, .int .u64 0] 38 :: J :: Fr) (fun x => a5 (.inl x) = some r) ?_ (fun Z => ?_)
   ·rintro x j; have j := (a6 _).symm.trans j
    ·refine At.region (At.run 2 rfl (nT ?_)); refine At.round ?_; refine sR 1 rfl (nT (At.seq ?_)); refine At.condT rfl rfl ?_; refine At.skip (At.thn (At.seq ?_)); obtain ⟨a7, a8, c7, j⟩ := bjoin j; refine At.join (X := Int) (fun D => [(0, i6 (if a0 < 0 then 0 else a0)), (2, bp G), (3, bp p), (8, i6 2)]) (fun D => pc p [.int .u64 u, .int .u64 x, .int .u64 D, .int .u64 0] 38 :: J :: Fr) (fun D => a7 (.inl D) = some r) ?_ (fun a1 => ?_)
     ·rintro D j; have j := (a8 _).symm.trans j
      ·refine At.region (At.run 2 rfl (nT ?_)); refine At.round ?_; refine sR 1 rfl (nT (At.seq ?_)); refine At.condT rfl rfl ?_; refine At.skip (At.thn (At.seq ?_)); obtain ⟨a9, b2, c8, j⟩ := bjoin j; refine At.join (X := Int) (fun I => [(0, i6 (if a0 < 0 then 0 else a0)), (2, bp G), (3, bp p), (8, i6 3)]) (fun I => pc p [.int .u64 u, .int .u64 x, .int .u64 D, .int .u64 I] 38 :: J :: Fr) (fun I => a9 (.inl I) = some r) ?_ (fun a2 => ?_)
       ·rintro I j; have j := (b2 _).symm.trans j
        ·refine At.region (At.run 2 rfl (nT ?_)); refine At.round ?_; refine sR 1 rfl (nT (At.seq ?_)); refine At.condF rfl rfl ?_; refine At.exit ?_; refine At.the ?_; refine At.the ?_; refine At.ibx ?_; refine At.thn (At.seq (At.region (At.y (Y.load rfl rfl .z rfl rfl rfl) rfl rfl rfl ?_))); refine At.store rfl rfl rfl rfl (.s .z) rfl rfl rfl (.c (.c (.c (.c .n)))) ?_; refine nT (At.ret ?_); refine At.resM (.inl rfl) rfl (RV.cell rfl rfl .z rfl rfl rfl RV.nil) ?_; refine At.drop .z (At.drop .z ?_); cases bret j; exact fun a w e hs => ⟨_, ⟨rfl, rfl⟩, hs⟩
       ··refine At.block ?_
         refine sR 2 rfl (nT (sR 7 rfl ?_)); refine nT (At.seq (sR 2 rfl (nT ?_))); rcases bite j with ⟨L, j⟩ | ⟨L, j⟩
         ··refine At.condT rfl (decide_eq_true L) ?_
           refine At.region (At.run 1 rfl (nT (At.region (At.run 3 rfl ?_)))); obtain ⟨b3, j⟩ := bnone j; refine At.y (Y.shl rfl rfl b3) rfl rfl rfl (At.run 1 rfl (At.y (Y.ixArrK rfl rfl rfl rfl rfl (show (0 : Int) ≤ 3 ∧ (3 : Int) < 4 by decide).1 (show (0 : Int) ≤ 3 ∧ (3 : Int) < 4 by decide).2 (q := 3) (off := 3) rfl rfl) rfl rfl rfl ?_)); refine At.store rfl rfl rfl rfl .z rfl rfl rfl (.s (.s (.s (.c .n)))) ?_; refine At.nil ?_; refine At.ibn ?_; refine At.thn ?_; exact fun a w e hs => a2 (IntKind.u64.wrap ((Bw.shl .u64 1 (IntKind.u64.wrap 64)) - 1)) j a w (e.sub ⟨rfl, rfl, rfl, rfl, trivial⟩) hs
         ··refine At.condF rfl (decide_eq_false L) ?_
           refine At.skip (At.thn (At.region (At.run 3 rfl ?_))); obtain ⟨b4, j⟩ := bnone j; refine At.y (Y.shl rfl rfl b4) rfl rfl rfl (At.run 1 rfl (At.y (Y.ixArrK rfl rfl rfl rfl rfl (show (0 : Int) ≤ 3 ∧ (3 : Int) < 4 by decide).1 (show (0 : Int) ≤ 3 ∧ (3 : Int) < 4 by decide).2 (q := 3) (off := 3) rfl rfl) rfl rfl rfl ?_)); refine At.store rfl rfl rfl rfl .z rfl rfl rfl (.s (.s (.s (.c .n)))) ?_; refine At.nil ?_; refine At.ibn ?_; refine At.thn ?_; exact fun a w e hs => a2 (IntKind.u64.wrap ((Bw.shl .u64 1 (IntKind.u64.wrap (if 64 < (if IntKind.i64.wrap ((if a0 < 0 then 0 else a0) - 192) < 0 then 0 else IntKind.i64.wrap ((if a0 < 0 then 0 else a0) - 192)) then 64 else (if IntKind.i64.wrap ((if a0 < 0 then 0 else a0) - 192) < 0 then 0 else IntKind.i64.wrap ((if a0 < 0 then 0 else a0) - 192))))) - 1)) j a w (e.sub ⟨rfl, rfl, rfl, rfl, trivial⟩) hs
     ··refine At.block ?_
       refine sR 2 rfl (nT (sR 7 rfl ?_)); refine nT (At.seq (sR 2 rfl (nT ?_))); rcases bite j with ⟨M, j⟩ | ⟨M, j⟩
       ··refine At.condT rfl (decide_eq_true M) ?_
         refine At.region (At.run 1 rfl (nT (At.region (At.run 3 rfl ?_)))); obtain ⟨b5, j⟩ := bnone j; refine At.y (Y.shl rfl rfl b5) rfl rfl rfl (At.run 1 rfl (At.y (Y.ixArrK rfl rfl rfl rfl rfl (show (0 : Int) ≤ 2 ∧ (2 : Int) < 4 by decide).1 (show (0 : Int) ≤ 2 ∧ (2 : Int) < 4 by decide).2 (q := 2) (off := 2) rfl rfl) rfl rfl rfl ?_)); refine At.store rfl rfl rfl rfl .z rfl rfl rfl (.s (.s (.c .n))) ?_; refine At.nil ?_; refine At.ibn ?_; refine At.thn ?_; exact fun a w e hs => a1 (IntKind.u64.wrap ((Bw.shl .u64 1 (IntKind.u64.wrap 64)) - 1)) j a w (e.sub ⟨rfl, rfl, rfl, rfl, trivial⟩) hs
       ··refine At.condF rfl (decide_eq_false M) ?_
         refine At.skip (At.thn (At.region (At.run 3 rfl ?_))); obtain ⟨b6, j⟩ := bnone j; refine At.y (Y.shl rfl rfl b6) rfl rfl rfl (At.run 1 rfl (At.y (Y.ixArrK rfl rfl rfl rfl rfl (show (0 : Int) ≤ 2 ∧ (2 : Int) < 4 by decide).1 (show (0 : Int) ≤ 2 ∧ (2 : Int) < 4 by decide).2 (q := 2) (off := 2) rfl rfl) rfl rfl rfl ?_)); refine At.store rfl rfl rfl rfl .z rfl rfl rfl (.s (.s (.c .n))) ?_; refine At.nil ?_; refine At.ibn ?_; refine At.thn ?_; exact fun a w e hs => a1 (IntKind.u64.wrap ((Bw.shl .u64 1 (IntKind.u64.wrap (if 64 < (if IntKind.i64.wrap ((if a0 < 0 then 0 else a0) - 128) < 0 then 0 else IntKind.i64.wrap ((if a0 < 0 then 0 else a0) - 128)) then 64 else (if IntKind.i64.wrap ((if a0 < 0 then 0 else a0) - 128) < 0 then 0 else IntKind.i64.wrap ((if a0 < 0 then 0 else a0) - 128))))) - 1)) j a w (e.sub ⟨rfl, rfl, rfl, rfl, trivial⟩) hs
   ··refine At.block ?_
     refine sR 2 rfl (nT (sR 7 rfl ?_)); refine nT (At.seq (sR 2 rfl (nT ?_))); rcases bite j with ⟨O, j⟩ | ⟨O, j⟩
     ··refine At.condT rfl (decide_eq_true O) ?_
       refine At.region (At.run 1 rfl (nT (At.region (At.run 3 rfl ?_)))); obtain ⟨b7, j⟩ := bnone j; refine At.y (Y.shl rfl rfl b7) rfl rfl rfl (At.run 1 rfl (At.y (Y.ixArrK rfl rfl rfl rfl rfl (show (0 : Int) ≤ 1 ∧ (1 : Int) < 4 by decide).1 (show (0 : Int) ≤ 1 ∧ (1 : Int) < 4 by decide).2 (q := 1) (off := 1) rfl rfl) rfl rfl rfl ?_)); refine At.store rfl rfl rfl rfl .z rfl rfl rfl (.s (.c .n)) ?_; refine At.nil ?_; refine At.ibn ?_; refine At.thn ?_; exact fun a w e hs => Z (IntKind.u64.wrap ((Bw.shl .u64 1 (IntKind.u64.wrap 64)) - 1)) j a w (e.sub ⟨rfl, rfl, rfl, rfl, trivial⟩) hs
     ··refine At.condF rfl (decide_eq_false O) ?_
       refine At.skip (At.thn (At.region (At.run 3 rfl ?_))); obtain ⟨b8, j⟩ := bnone j; refine At.y (Y.shl rfl rfl b8) rfl rfl rfl (At.run 1 rfl (At.y (Y.ixArrK rfl rfl rfl rfl rfl (show (0 : Int) ≤ 1 ∧ (1 : Int) < 4 by decide).1 (show (0 : Int) ≤ 1 ∧ (1 : Int) < 4 by decide).2 (q := 1) (off := 1) rfl rfl) rfl rfl rfl ?_)); refine At.store rfl rfl rfl rfl .z rfl rfl rfl (.s (.c .n)) ?_; refine At.nil ?_; refine At.ibn ?_; refine At.thn ?_; exact fun a w e hs => Z (IntKind.u64.wrap ((Bw.shl .u64 1 (IntKind.u64.wrap (if 64 < (if IntKind.i64.wrap ((if a0 < 0 then 0 else a0) - 64) < 0 then 0 else IntKind.i64.wrap ((if a0 < 0 then 0 else a0) - 64)) then 64 else (if IntKind.i64.wrap ((if a0 < 0 then 0 else a0) - 64) < 0 then 0 else IntKind.i64.wrap ((if a0 < 0 then 0 else a0) - 64))))) - 1)) j a w (e.sub ⟨rfl, rfl, rfl, rfl, trivial⟩) hs
 ··refine At.block ?_
   refine sR 2 rfl (nT (sR 7 rfl ?_)); refine nT (At.seq (sR 2 rfl (nT ?_))); rcases bite j with ⟨U, j⟩ | ⟨U, j⟩
   ··refine At.condT rfl (decide_eq_true U) ?_
     refine At.region (At.run 1 rfl (nT (At.region (At.run 3 rfl ?_)))); obtain ⟨b9, j⟩ := bnone j; refine At.y (Y.shl rfl rfl b9) rfl rfl rfl (At.run 1 rfl (At.y (Y.ixArrK rfl rfl rfl rfl rfl (show (0 : Int) ≤ 0 ∧ (0 : Int) < 4 by decide).1 (show (0 : Int) ≤ 0 ∧ (0 : Int) < 4 by decide).2 (q := 0) (off := 0) rfl rfl) rfl rfl rfl ?_)); refine At.store rfl rfl rfl rfl .z rfl rfl rfl (.c .n) ?_; refine At.nil ?_; refine At.ibn ?_; refine At.thn ?_; exact fun a w e hs => V (IntKind.u64.wrap ((Bw.shl .u64 1 (IntKind.u64.wrap 64)) - 1)) j a w (e.sub ⟨rfl, rfl, rfl, rfl, trivial⟩) hs
   ··refine At.condF rfl (decide_eq_false U) ?_
     refine At.skip (At.thn (At.region (At.run 3 rfl ?_))); obtain ⟨c4, j⟩ := bnone j; refine At.y (Y.shl rfl rfl c4) rfl rfl rfl (At.run 1 rfl (At.y (Y.ixArrK rfl rfl rfl rfl rfl (show (0 : Int) ≤ 0 ∧ (0 : Int) < 4 by decide).1 (show (0 : Int) ≤ 0 ∧ (0 : Int) < 4 by decide).2 (q := 0) (off := 0) rfl rfl) rfl rfl rfl ?_)); refine At.store rfl rfl rfl rfl .z rfl rfl rfl (.c .n) ?_; refine At.nil ?_; refine At.ibn ?_; refine At.thn ?_; exact fun a w e hs => V (IntKind.u64.wrap ((Bw.shl .u64 1 (IntKind.u64.wrap (if 64 < (if IntKind.i64.wrap ((if a0 < 0 then 0 else a0) - 0) < 0 then 0 else IntKind.i64.wrap ((if a0 < 0 then 0 else a0) - 0)) then 64 else (if IntKind.i64.wrap ((if a0 < 0 then 0 else a0) - 0) < 0 then 0 else IntKind.i64.wrap ((if a0 < 0 then 0 else a0) - 0))))) - 1)) j a w (e.sub ⟨rfl, rfl, rfl, rfl, trivial⟩) hs

noncomputable def Q30.l0b (u q : List Q2) (p : Int) : Option (((List Q2) × Int) ⊕ (((List Q2)) ⊕ (Unit ⊕ ((List Int) × Int × Int × Int × Int)))) :=
 if p < (u.length : Int) then
 jn (
 if (0 : Int) ≤ p ∧ p < (u.length : Int) then
 if (gt q p).Kind = 12 then
 some (.inl (st q p ({ gt q p with Kind := 3 })))
 else
 some (.inl q)
 else none) (fun (x : List Q2) =>
 nx (x, IntKind.i64.wrap (p + 1)))
 else
 dn (.inl q)
noncomputable def Q30.l0 (p q : List Q2) (u : Int) : Option (((List Q2)) ⊕ (Unit ⊕ ((List Int) × Int × Int × Int × Int))) := iter (fun t_ : (List Q2) × Int => Q30.l0b p t_.1 t_.2) (q, u)
noncomputable def Q30.f (x : Int) (D : List (Bs × Q0)) (G : List (Q8 × Q0)) (a1 : List Q2) : Option (Unit ⊕ ((List Int) × Int × Int × Int × Int)) :=
 (Q118.f a1).bind fun q =>
 jn (Q30.l0 q q 0) (fun (u : List Q2) =>
 (Q48.f u).bind fun I =>
 if I.1 = 0 then
 (Q103.f u).bind fun J =>
 (Q92.f x D G).bind fun L =>
 (Q67.f L).bind fun p =>
 if (0 : Int) ≤ (a1.length : Int) ∧ (32 : Int) * (a1.length : Int) ≤ 281474976710656 then
 some (.inr (J, p.1, p.2.1, p.2.2.1, p.2.2.2))
 else none
 else
 some (.inl ()))
theorem Q30.callee : Callee Tryz.prog 32 := ⟨_, Tryz.func32, by kernel_rfl, by kernel_rfl⟩
theorem Q30.spec {Z : Int} {a0 : List (Bs × Q0)} {a2 : List (Q8 × Q0)} {a1 : List Q2} (hr1 : RdS Q2.fl.rep R.heap A1 a1) (hn1 : a1.length = n1) (hc1 : n1 ≤ c1) {r : Unit ⊕ ((List Int) × Int × Int × Int × Int)} (j : Q30.f Z a0 a2 a1 = some r) :
 Spec Tryz.prog 32 [bp b0, .slice A1 n1 c1] R (pc b0 [i6 Z, .map (some b0_1), .map (some b0_2)] 72 :: mapo Fl.bs.ov Q0.fl.av b0_1 a0 :: mapo Q8.fl.av Q0.fl.av b0_2 a2 :: Fr) (fun v l' => match r with
 | .inl r => v = .tuple #[.pointer none, i6 1] ∧ pc b0 [i6 Z, .map (some b0_1), .map (some b0_2)] 72 :: mapo Fl.bs.ov Q0.fl.av b0_1 a0 :: mapo Q8.fl.av Q0.fl.av b0_2 a2 :: Fr = l'
 | .inr r => ∃ (d7 : Nat) (d8 : Option Addr) (d9 : Nat) (c6 : Nat) (e1 : Option Addr) (e2 : Nat), v = .tuple #[bp d7, i6 0] ∧ pc d7 [bp b0, .slice A1 n1 c1, .slice e1 c6 e2, .int .u64 r.2.1, .int .u64 r.2.2.1, .int .u64 r.2.2.2.1, .int .u64 r.2.2.2.2, .slice d8 ((List.replicate (n1 : Int).toNat ((⟨0, 0, 0, 0⟩ : Q0) : Q0)).length) d9] 88 :: row (Fl.int .i64) 3 e1 c6 e2 r.1 :: row Q0.fl 38 d8 ((List.replicate (n1 : Int).toNat ((⟨0, 0, 0, 0⟩ : Q0) : Q0)).length) d9 (List.replicate (n1 : Int).toNat ((⟨0, 0, 0, 0⟩ : Q0) : Q0)) :: pc b0 [i6 Z, .map (some b0_1), .map (some b0_2)] 72 :: mapo Fl.bs.ov Q0.fl.av b0_1 a0 :: mapo Q8.fl.av Q0.fl.av b0_2 a2 :: Fr = l' ∧ r.1.length = c6) := by
 subst hn1; refine Spec.of Tryz.func32 rfl rfl ?_; unfold Q30.f at j; have j := brun j; refine sR 2 rfl (nT (sR 1 rfl ?_)); obtain ⟨I, e6, j⟩ := bbind j; refine At.call rfl Q118.callee rfl rfl rfl (Q118.spec hr1 rfl hc1 e6) ?_; rintro _ _ ⟨L, M, rfl, rfl⟩; refine At.run 1 rfl (nT (At.seq (sR 3 rfl (At.nil ?_)))); refine At.thn ?_; refine At.block ?_; obtain ⟨e7, e8, g8, j⟩ := bjoin j; obtain ⟨c7, c8, e9⟩ := bsome j; clear j; unfold Q30.l0 at c8; obtain ⟨c9, a3⟩ := Q17.1 c8; clear c8; let a4 : HProp := pc b0 [i6 Z, .map (some b0_1), .map (some b0_2)] 72; let a5 : HProp := mapo Fl.bs.ov Q0.fl.av b0_1 a0; let a6 : HProp := mapo Q8.fl.av Q0.fl.av b0_2 a2; refine At.loopJ (X := (List Q2) × Int) (Y := (List Q2)) (e0 := 0) (fun s_ => [(0, bp b0), (1, .slice A1 a1.length c1), (6, .slice L I.length M), (13, i6 (I.length : Int)), (14, i6 s_.2)]) (fun s_ => row Q2.fl 51 L I.length M s_.1 :: a4 :: a5 :: a6 :: Fr) (fun m_ => fun s_ => iterN (fun t_ : (List Q2) × Int => Q30.l0b I t_.1 t_.2) m_ (s_.1, s_.2) = some c7) c9 (I, 0) a3 (fun a7 => [(0, bp b0), (1, .slice A1 a1.length c1), (6, .slice L I.length M)]) (fun a7 => row Q2.fl 51 L I.length M a7 :: a4 :: a5 :: a6 :: Fr) (fun a7 => e7 (.inl a7) = some r) (fun a w e hs => ⟨e.sub ⟨rfl, rfl, rfl, rfl, rfl, trivial⟩, (by exact hs)⟩) ?_ (fun f0 => ?_)
 ·rintro a7 j; have j := (e8 _).symm.trans j
  ·refine At.ibx ?_; refine At.thn (At.seq (sR 1 rfl ?_)); refine At.freeze .z fun g9 d0 d1 d2 h0 e3 => ?_; obtain ⟨h1, f1, j⟩ := bbind j; refine At.call rfl Q48.callee rfl rfl rfl (Q48.spec d0 d1 d2 f1) ?_; rintro _ _ ⟨rfl, rfl⟩; refine At.run 5 rfl (nT (sR 2 rfl (nT ?_))); rcases bite j with ⟨d3, j⟩ | ⟨d3, j⟩
   ··refine At.condF rfl (nf (decide_eq_true d3)) ?_
     refine At.skip (At.thn (At.seq ?_)); refine At.held [a4, a5, a6] 14 rfl ?_; refine At.H.pw 0 rfl rfl rfl rfl rfl (.c .z (.c .z (.c .z .n))) ?_; refine At.H.pw 1 rfl rfl rfl rfl rfl (.c .z (.c .z (.c .z .n))) ?_; refine At.H.pw 2 rfl rfl rfl rfl rfl (.c .z (.c .z (.c .z .n))) ?_; refine At.H.pw 4 rfl rfl rfl rfl rfl (.c .z (.c .z (.c .z .n))) ?_; refine At.H.pw 7 rfl rfl rfl rfl rfl (.c .z (.c .z (.c .z .n))) ?_; refine At.H.pw 8 rfl rfl rfl rfl rfl (.c .z (.c .z (.c .z .n))) ?_; obtain ⟨u, e4, j⟩ := bbind j; obtain ⟨h2, d4, j⟩ := bbind j; obtain ⟨p, a8, j⟩ := bbind j; obtain ⟨J, j⟩ := bnone j; refine At.H.joinK (X := Nat × (Option Addr) × Nat × (Option Addr) × Nat) (fun s_ => [(4, .pointer (some ⟨s_.1, 0, none⟩)), (5, i6 0)]) (fun s_ => pt s_.1 (.cells [bp b0, .slice A1 a1.length c1, .slice s_.2.2.2.1 u.length s_.2.2.2.2, .int .u64 p.1, .int .u64 p.2.1, .int .u64 p.2.2.1, .int .u64 p.2.2.2, .slice s_.2.1 ((List.replicate (a1.length : Int).toNat ((⟨0, 0, 0, 0⟩ : Q0) : Q0)).length) s_.2.2.1].toArray 88) :: row Q0.fl 38 s_.2.1 ((List.replicate (a1.length : Int).toNat ((⟨0, 0, 0, 0⟩ : Q0) : Q0)).length) s_.2.2.1 (List.replicate (a1.length : Int).toNat ((⟨0, 0, 0, 0⟩ : Q0) : Q0)) :: a4 :: a5 :: a6 :: row (Fl.int .i64) 3 s_.2.2.2.1 u.length s_.2.2.2.2 u :: Fr) (fun s_ => True) ?_ (fun a9 => ?_)
     ·rintro ⟨f2, f6, f7, f8, f9⟩ -
      ·refine At.thn (At.ret ?_); refine At.thaw e3 ?_; refine At.drop .z (At.f4 (At.f4 (At.f4 (At.f4 (At.f5 (At.f5 ?_)))))); cases bret j; exact At.res (.inl rfl) rfl rfl ⟨f2, f6, f7, u.length, f8, f9, rfl, rfl, rfl⟩
     ·refine At.H.al [3, 9] (Q6 ?_ (Q6 ?_ Q7))
      ··refine At.HO.op rfl ?_
        refine At.call rfl Q103.callee rfl rfl rfl (Q103.spec d0 d1 d2 e4) ?_; rintro _ _ ⟨h3, x, D, rfl, rfl, rfl⟩; refine At.HO.back (.c (.s .z) (.c (.s .z) (.c (.s .z) .n))) ?_; refine At.H.al [5, 9] (Q6 ?_ (Q6 ?_ Q7))
        ··refine At.HO.op rfl ?_
          refine At.f3 (At.f3 (At.f3 ?_)); refine At.call rfl Q92.callee rfl rfl rfl (Q92.spec d4) ?_; rintro _ _ ⟨rfl, rfl⟩; refine At.HO.back (.c .z (.c .z (.c .z .n))) ?_; refine At.H.al [6, 9] (Q6 ?_ (Q6 ?_ Q7))
          ··refine At.HO.op rfl ?_
            refine At.call rfl Q67.callee rfl rfl rfl (Q67.spec a8) ?_; rintro _ _ ⟨rfl, rfl⟩; refine At.HO.back (.c .z (.c .z (.c .z .n))) ?_; refine At.H.al [9] (Q6 ?_ Q7)
            ··refine At.HO.op rfl ?_
              refine At.makeW (F := Q0.fl) (z := (⟨0, 0, 0, 0⟩ : Q0)) rfl rfl rfl rfl rfl rfl rfl rfl rfl J.1 J.2 (by decide) rfl (fun b2 b3 => ?_); refine At.HO.back (.c (.s .z) (.c (.s .z) (.c (.s .z) .n))) ?_; refine At.H.tw 10 rfl (Y.build (is := [0, 1, 2, 3, 4]) (xo := [.tmp 35, .tmp 36, .tmp 38, .tmp 41, .tmp 44]) (vs := [bp b0, .slice A1 a1.length c1, .slice x u.length D, .agg #[.int .u64 p.1, .int .u64 p.2.1, .int .u64 p.2.2.1, .int .u64 p.2.2.2], .slice b2 ((List.replicate (a1.length : Int).toNat ((⟨0, 0, 0, 0⟩ : Q0) : Q0)).length) b3]) (cs := [bp b0, .slice A1 a1.length c1, .slice x u.length D, .int .u64 p.1, .int .u64 p.2.1, .int .u64 p.2.2.1, .int .u64 p.2.2.2, .slice b2 ((List.replicate (a1.length : Int).toNat ((⟨0, 0, 0, 0⟩ : Q0) : Q0)).length) b3]) rfl rfl rfl rfl rfl (by kernel_rfl)) rfl rfl rfl (.c (.s .z) (.c (.s .z) (.c (.s .z) .n))) ?_; refine At.H.al [11] (Q6 ?_ Q7)
              ··refine At.HO.op rfl ?_
                refine At.box rfl rfl (cs := [bp b0, .slice A1 a1.length c1, .slice x u.length D, .int .u64 p.1, .int .u64 p.2.1, .int .u64 p.2.2.1, .int .u64 p.2.2.2, .slice b2 ((List.replicate (a1.length : Int).toNat ((⟨0, 0, 0, 0⟩ : Q0) : Q0)).length) b3]) rfl rfl (fun g0 => ?_); refine At.HO.back (.c (.s (.s .z)) (.c (.s (.s .z)) (.c (.s (.s .z)) .n))) ?_; refine At.H.pw 12 rfl rfl rfl rfl rfl (.c (.s (.s .z)) (.c (.s (.s .z)) (.c (.s (.s .z)) .n))) ?_; refine At.H.pw 13 rfl rfl rfl rfl rfl (.c (.s (.s .z)) (.c (.s (.s .z)) (.c (.s (.s .z)) .n))) ?_; refine At.H.done (by kernel_rfl) ?_; exact At.of (a9 (g0, b2, b3, x, D) trivial) ⟨rfl, rfl, trivial⟩
          ··refine At.HO.op rfl ?_
            refine At.makeW (F := Q0.fl) (z := (⟨0, 0, 0, 0⟩ : Q0)) rfl rfl rfl rfl rfl rfl rfl rfl rfl J.1 J.2 (by decide) rfl (fun b4 b5 => ?_); refine At.HO.back (.c (.s .z) (.c (.s .z) (.c (.s .z) .n))) ?_; refine At.H.al [6] (Q6 ?_ Q7)
            ··refine At.HO.op rfl ?_
              refine At.call rfl Q67.callee rfl rfl rfl (Q67.spec a8) ?_; rintro _ _ ⟨rfl, rfl⟩; refine At.HO.back (.c (.s .z) (.c (.s .z) (.c (.s .z) .n))) ?_; refine At.H.tw 10 rfl (Y.build (is := [0, 1, 2, 3, 4]) (xo := [.tmp 35, .tmp 36, .tmp 38, .tmp 41, .tmp 44]) (vs := [bp b0, .slice A1 a1.length c1, .slice x u.length D, .agg #[.int .u64 p.1, .int .u64 p.2.1, .int .u64 p.2.2.1, .int .u64 p.2.2.2], .slice b4 ((List.replicate (a1.length : Int).toNat ((⟨0, 0, 0, 0⟩ : Q0) : Q0)).length) b5]) (cs := [bp b0, .slice A1 a1.length c1, .slice x u.length D, .int .u64 p.1, .int .u64 p.2.1, .int .u64 p.2.2.1, .int .u64 p.2.2.2, .slice b4 ((List.replicate (a1.length : Int).toNat ((⟨0, 0, 0, 0⟩ : Q0) : Q0)).length) b5]) rfl rfl rfl rfl rfl (by kernel_rfl)) rfl rfl rfl (.c (.s .z) (.c (.s .z) (.c (.s .z) .n))) ?_; refine At.H.al [11] (Q6 ?_ Q7)
              ··refine At.HO.op rfl ?_
                refine At.box rfl rfl (cs := [bp b0, .slice A1 a1.length c1, .slice x u.length D, .int .u64 p.1, .int .u64 p.2.1, .int .u64 p.2.2.1, .int .u64 p.2.2.2, .slice b4 ((List.replicate (a1.length : Int).toNat ((⟨0, 0, 0, 0⟩ : Q0) : Q0)).length) b5]) rfl rfl (fun g1 => ?_); refine At.HO.back (.c (.s (.s .z)) (.c (.s (.s .z)) (.c (.s (.s .z)) .n))) ?_; refine At.H.pw 12 rfl rfl rfl rfl rfl (.c (.s (.s .z)) (.c (.s (.s .z)) (.c (.s (.s .z)) .n))) ?_; refine At.H.pw 13 rfl rfl rfl rfl rfl (.c (.s (.s .z)) (.c (.s (.s .z)) (.c (.s (.s .z)) .n))) ?_; refine At.H.done (by kernel_rfl) ?_; exact At.of (a9 (g1, b4, b5, x, D) trivial) ⟨rfl, rfl, trivial⟩
        ··refine At.HO.op rfl ?_
          refine At.makeW (F := Q0.fl) (z := (⟨0, 0, 0, 0⟩ : Q0)) rfl rfl rfl rfl rfl rfl rfl rfl rfl J.1 J.2 (by decide) rfl (fun b6 b7 => ?_); refine At.HO.back (.c (.s (.s .z)) (.c (.s (.s .z)) (.c (.s (.s .z)) .n))) ?_; refine At.H.al [5] (Q6 ?_ Q7)
          ··refine At.HO.op rfl ?_
            refine At.f4 (At.f4 (At.f4 ?_)); refine At.call rfl Q92.callee rfl rfl rfl (Q92.spec d4) ?_; rintro _ _ ⟨rfl, rfl⟩; refine At.HO.back (.c .z (.c .z (.c .z .n))) ?_; refine At.H.al [6] (Q6 ?_ Q7)
            ··refine At.HO.op rfl ?_
              refine At.call rfl Q67.callee rfl rfl rfl (Q67.spec a8) ?_; rintro _ _ ⟨rfl, rfl⟩; refine At.HO.back (.c .z (.c .z (.c .z .n))) ?_; refine At.H.tw 10 rfl (Y.build (is := [0, 1, 2, 3, 4]) (xo := [.tmp 35, .tmp 36, .tmp 38, .tmp 41, .tmp 44]) (vs := [bp b0, .slice A1 a1.length c1, .slice x u.length D, .agg #[.int .u64 p.1, .int .u64 p.2.1, .int .u64 p.2.2.1, .int .u64 p.2.2.2], .slice b6 ((List.replicate (a1.length : Int).toNat ((⟨0, 0, 0, 0⟩ : Q0) : Q0)).length) b7]) (cs := [bp b0, .slice A1 a1.length c1, .slice x u.length D, .int .u64 p.1, .int .u64 p.2.1, .int .u64 p.2.2.1, .int .u64 p.2.2.2, .slice b6 ((List.replicate (a1.length : Int).toNat ((⟨0, 0, 0, 0⟩ : Q0) : Q0)).length) b7]) rfl rfl rfl rfl rfl (by kernel_rfl)) rfl rfl rfl (.c .z (.c .z (.c .z .n))) ?_; refine At.H.al [11] (Q6 ?_ Q7)
              ··refine At.HO.op rfl ?_
                refine At.box rfl rfl (cs := [bp b0, .slice A1 a1.length c1, .slice x u.length D, .int .u64 p.1, .int .u64 p.2.1, .int .u64 p.2.2.1, .int .u64 p.2.2.2, .slice b6 ((List.replicate (a1.length : Int).toNat ((⟨0, 0, 0, 0⟩ : Q0) : Q0)).length) b7]) rfl rfl (fun g2 => ?_); refine At.HO.back (.c (.s .z) (.c (.s .z) (.c (.s .z) .n))) ?_; refine At.H.pw 12 rfl rfl rfl rfl rfl (.c (.s .z) (.c (.s .z) (.c (.s .z) .n))) ?_; refine At.H.pw 13 rfl rfl rfl rfl rfl (.c (.s .z) (.c (.s .z) (.c (.s .z) .n))) ?_; refine At.H.done (by kernel_rfl) ?_; refine At.f5 (At.f4 (At.f4 (At.f4 (At.f5 (At.f5 ?_))))); exact At.of (a9 (g2, b6, b7, x, D) trivial) ⟨rfl, rfl, trivial⟩
      ··refine At.HO.op rfl ?_
        refine At.makeW (F := Q0.fl) (z := (⟨0, 0, 0, 0⟩ : Q0)) rfl rfl rfl rfl rfl rfl rfl rfl rfl J.1 J.2 (by decide) rfl (fun b8 b9 => ?_); refine At.HO.back (.c (.s .z) (.c (.s .z) (.c (.s .z) .n))) ?_; refine At.H.al [3] (Q6 ?_ Q7)
        ··refine At.HO.op rfl ?_
          refine At.call rfl Q103.callee rfl rfl rfl (Q103.spec d0 d1 d2 e4) ?_; rintro _ _ ⟨h4, c4, c5, rfl, rfl, rfl⟩; refine At.HO.back (.c (.s (.s .z)) (.c (.s (.s .z)) (.c (.s (.s .z)) .n))) ?_; refine At.H.al [5] (Q6 ?_ Q7)
          ··refine At.HO.op rfl ?_
            refine At.f4 (At.f4 (At.f4 ?_)); refine At.call rfl Q92.callee rfl rfl rfl (Q92.spec d4) ?_; rintro _ _ ⟨rfl, rfl⟩; refine At.HO.back (.c .z (.c .z (.c .z .n))) ?_; refine At.H.al [6] (Q6 ?_ Q7)
            ··refine At.HO.op rfl ?_
              refine At.call rfl Q67.callee rfl rfl rfl (Q67.spec a8) ?_; rintro _ _ ⟨rfl, rfl⟩; refine At.HO.back (.c .z (.c .z (.c .z .n))) ?_; refine At.H.tw 10 rfl (Y.build (is := [0, 1, 2, 3, 4]) (xo := [.tmp 35, .tmp 36, .tmp 38, .tmp 41, .tmp 44]) (vs := [bp b0, .slice A1 a1.length c1, .slice c4 u.length c5, .agg #[.int .u64 p.1, .int .u64 p.2.1, .int .u64 p.2.2.1, .int .u64 p.2.2.2], .slice b8 ((List.replicate (a1.length : Int).toNat ((⟨0, 0, 0, 0⟩ : Q0) : Q0)).length) b9]) (cs := [bp b0, .slice A1 a1.length c1, .slice c4 u.length c5, .int .u64 p.1, .int .u64 p.2.1, .int .u64 p.2.2.1, .int .u64 p.2.2.2, .slice b8 ((List.replicate (a1.length : Int).toNat ((⟨0, 0, 0, 0⟩ : Q0) : Q0)).length) b9]) rfl rfl rfl rfl rfl (by kernel_rfl)) rfl rfl rfl (.c .z (.c .z (.c .z .n))) ?_; refine At.H.al [11] (Q6 ?_ Q7)
              ··refine At.HO.op rfl ?_
                refine At.box rfl rfl (cs := [bp b0, .slice A1 a1.length c1, .slice c4 u.length c5, .int .u64 p.1, .int .u64 p.2.1, .int .u64 p.2.2.1, .int .u64 p.2.2.2, .slice b8 ((List.replicate (a1.length : Int).toNat ((⟨0, 0, 0, 0⟩ : Q0) : Q0)).length) b9]) rfl rfl (fun g3 => ?_); refine At.HO.back (.c (.s .z) (.c (.s .z) (.c (.s .z) .n))) ?_; refine At.H.pw 12 rfl rfl rfl rfl rfl (.c (.s .z) (.c (.s .z) (.c (.s .z) .n))) ?_; refine At.H.pw 13 rfl rfl rfl rfl rfl (.c (.s .z) (.c (.s .z) (.c (.s .z) .n))) ?_; refine At.H.done (by kernel_rfl) ?_; refine At.f4 (At.f4 (At.f4 (At.f4 (At.f5 (At.f5 ?_))))); exact At.of (a9 (g3, b8, b9, c4, c5) trivial) ⟨rfl, rfl, trivial⟩
   ··refine At.condT rfl (nt (decide_eq_false d3)) ?_
     refine sR 2 rfl (nT (At.ret (At.thr ?_))); refine At.thaw e3 ?_; refine At.drop .z ?_; cases bret j; exact At.res (.inl rfl) rfl rfl ⟨rfl, rfl⟩
 ·clear a3 c9; rintro c9 ⟨O, U⟩ a3; obtain ⟨g4, f_, g5, hf_, j⟩ := bit a3; clear a3; have j : (Q30.l0b I O U).bind _ = some c7 := j; unfold Q30.l0b at j
  ·refine sR 1 rfl (nT (At.seq ?_)); rcases bite j with ⟨d5, j⟩ | ⟨d5, j⟩
   ··refine At.condT rfl (decide_eq_true d5) ?_
     refine At.skip (At.thn (At.seq ?_)); obtain ⟨g6, g7, h5, j⟩ := bjoin j; refine At.join (X := (List Q2)) (fun V => [(0, bp b0), (1, .slice A1 a1.length c1), (6, .slice L I.length M), (13, i6 (I.length : Int)), (14, i6 U)]) (fun V => row Q2.fl 51 L I.length M V :: a4 :: a5 :: a6 :: Fr) (fun V => g6 (.inl V) = some c7) ?_ (fun e5 => ?_)
     ·rintro V j; have j := (g7 _).symm.trans j
      ·refine At.region (At.run 2 rfl (At.nil ?_)); have j := bnx hf_ j; exact fun a w e hs => ⟨g4, (V, IntKind.i64.wrap (U + 1)), g5, j, e.sub ⟨rfl, rfl, rfl, rfl, rfl, trivial⟩, hs⟩
     ··refine At.block ?_
       refine sR 2 rfl (nT (sR 2 rfl ?_)); obtain ⟨G, j⟩ := bnone j; refine At.y (Y.ix .z rfl rfl rfl rfl rfl rfl G.1 G.2) rfl rfl rfl ?_; refine At.y (Y.faOwn .z G.1 G.2 rfl rfl rfl rfl rfl rfl) rfl rfl rfl ?_; refine At.y (Y.ld .z (q := 0) rfl rfl G.1 G.2 rfl rfl rfl) rfl rfl rfl (At.run 1 rfl (nT ?_)); rcases bite j with ⟨d6, j⟩ | ⟨d6, j⟩
       ··refine At.condT rfl (decide_eq_true d6) ?_
         refine At.region (At.run 2 rfl (At.y (Y.ix .z rfl rfl rfl rfl rfl rfl G.1 G.2) rfl rfl rfl ?_)); refine At.y (Y.faOwn .z G.1 G.2 rfl rfl rfl rfl rfl rfl) rfl rfl rfl ?_; refine At.st rfl .z (q := 0) (z := { gt O U with Kind := 3 }) rfl rfl rfl G.1 G.2 rfl rfl (.c .n) ?_; refine At.nil ?_; refine At.ibn ?_; refine At.thn ?_; exact fun a w e hs => e5 (st O U ({ gt O U with Kind := 3 })) j a w (e.sub ⟨rfl, rfl, rfl, rfl, rfl, trivial⟩) hs
       ··refine At.condF rfl (decide_eq_false d6) ?_
         refine At.skip ?_; refine At.ibn ?_; refine At.thn ?_; exact fun a w e hs => e5 O j a w (e.sub ⟨rfl, rfl, rfl, rfl, rfl, trivial⟩) hs
   ··refine At.condF rfl (decide_eq_false d5) ?_
     refine At.exit ?_; refine At.the ?_; refine At.the ?_; exact fun a w e hs => f0 O (bdn j e9) a w (e.sub ⟨rfl, rfl, rfl, trivial⟩) hs

noncomputable def Q51.f (q : Int) (p : List (Bs × Q0)) (u : List (Q8 × Q0)) (a1 : Bs) : Option (Int × Int × Int × Int) :=
 some (((mget p a1).getD (⟨(0 : Int), (0 : Int), (0 : Int), (0 : Int)⟩ : Q0)).c0, ((mget p a1).getD (⟨(0 : Int), (0 : Int), (0 : Int), (0 : Int)⟩ : Q0)).c1, ((mget p a1).getD (⟨(0 : Int), (0 : Int), (0 : Int), (0 : Int)⟩ : Q0)).c2, ((mget p a1).getD (⟨(0 : Int), (0 : Int), (0 : Int), (0 : Int)⟩ : Q0)).c3)
theorem Q51.callee : Callee Tryz.prog 17 := ⟨_, Tryz.func17, by kernel_rfl, by kernel_rfl⟩
theorem Q51.spec {p : Int} {q : List (Bs × Q0)} {u : List (Q8 × Q0)} {a1 : Bs} {r : Int × Int × Int × Int} (j : Q51.f p q u a1 = some r) :
 Spec Tryz.prog 17 [bp b0, .string ⟨(a1).toArray⟩] R (pc b0 [i6 p, .map (some b0_1), .map (some b0_2)] 72 :: mapo Fl.bs.ov Q0.fl.av b0_1 q :: mapo Q8.fl.av Q0.fl.av b0_2 u :: Fr) (fun v l' => v = .agg #[.int .u64 r.1, .int .u64 r.2.1, .int .u64 r.2.2.1, .int .u64 r.2.2.2] ∧ pc b0 [i6 p, .map (some b0_1), .map (some b0_2)] 72 :: mapo Fl.bs.ov Q0.fl.av b0_1 q :: mapo Q8.fl.av Q0.fl.av b0_2 u :: Fr = l') := by
 refine Spec.of Tryz.func17 rfl rfl ?_; unfold Q51.f at j; have j := brun j; refine At.seq (At.region ?_); refine At.alloc rfl rfl rfl (fun x => ?_); refine nT (sR 3 rfl (At.y (Y.load rfl rfl (.s .z) rfl rfl rfl) rfl rfl rfl (At.run 1 rfl ?_))); refine At.y (Y.lookup (k := a1) (z := (⟨(0 : Int), (0 : Int), (0 : Int), (0 : Int)⟩ : Q0)) (.s (.s .z)) rfl rfl (KeyOk.str rfl rfl) (by kernel_rfl) rfl rfl rfl) rfl rfl rfl ?_; refine At.store rfl rfl rfl rfl .z rfl rfl rfl (.c (.c (.c (.c .n)))) ?_; refine nT (At.ret ?_); refine At.resM (.inl rfl) rfl (RV.cell rfl rfl .z rfl rfl rfl RV.nil) ?_; refine At.drop .z ?_; cases bret j; exact fun a w e hs => ⟨_, ⟨rfl, rfl⟩, hs⟩

noncomputable def Q33.f (p q u x D G I J : Int) : Option (Int × Int × Int × Int) :=
 some (bandnot .u64 p D, bandnot .u64 q G, bandnot .u64 u I, bandnot .u64 x J)
theorem Q33.callee : Callee Tryz.prog 18 := ⟨_, Tryz.func18, by kernel_rfl, by kernel_rfl⟩
theorem Q33.spec {p u x D G I J L : Int} {r : Int × Int × Int × Int} (j : Q33.f p u x D G I J L = some r) :
 Spec Tryz.prog 18 [.agg #[.int .u64 p, .int .u64 u, .int .u64 x, .int .u64 D], .agg #[.int .u64 G, .int .u64 I, .int .u64 J, .int .u64 L]] R (Fr) (fun v l' => v = .agg #[.int .u64 r.1, .int .u64 r.2.1, .int .u64 r.2.2.1, .int .u64 r.2.2.2] ∧ Fr = l') := by
 refine Spec.of Tryz.func18 rfl rfl ?_; unfold Q33.f at j; have j := brun j; refine At.seq (At.region ?_); refine At.box rfl rfl (cs := [.int .u64 p, .int .u64 u, .int .u64 x, .int .u64 D]) rfl rfl (fun M => ?_); refine At.box rfl rfl (cs := [.int .u64 G, .int .u64 I, .int .u64 J, .int .u64 L]) rfl rfl (fun O => ?_); refine At.alloc rfl rfl rfl (fun U => ?_); refine nT (At.seq (sR 1 rfl (nT ?_))); refine At.block ?_; refine At.rounds 5 ?_; refine At.round ?_; refine sR 1 rfl (nT (At.seq ?_)); refine At.condT rfl rfl ?_; refine At.skip (At.thn (At.seq ?_)); refine At.block ?_; refine sR 2 rfl (nT ?_); refine At.still 8 (by kernel_rfl) ?_; refine At.Still.run 1 rfl ?_; refine At.Still.y (Y.ixArrK rfl rfl rfl rfl rfl (show (0 : Int) ≤ 0 ∧ (0 : Int) < 4 by decide).1 (show (0 : Int) ≤ 0 ∧ (0 : Int) < 4 by decide).2 (q := 0) (off := 0) rfl rfl) rfl rfl rfl ?_; refine At.Still.y (Y.load rfl rfl (.s (.s .z)) rfl rfl rfl) rfl rfl rfl ?_; refine At.Still.run 1 rfl ?_; refine At.Still.y (Y.ixArrK rfl rfl rfl rfl rfl (show (0 : Int) ≤ 0 ∧ (0 : Int) < 4 by decide).1 (show (0 : Int) ≤ 0 ∧ (0 : Int) < 4 by decide).2 (q := 0) (off := 0) rfl rfl) rfl rfl rfl ?_; refine At.Still.y (Y.load rfl rfl (.s .z) rfl rfl rfl) rfl rfl rfl ?_; refine At.Still.run 1 rfl ?_; refine At.Still.y (Y.ixArrK rfl rfl rfl rfl rfl (show (0 : Int) ≤ 0 ∧ (0 : Int) < 4 by decide).1 (show (0 : Int) ≤ 0 ∧ (0 : Int) < 4 by decide).2 (q := 0) (off := 0) rfl rfl) rfl rfl rfl ?_; refine At.Still.nil ?_; refine At.store rfl rfl rfl rfl (.s (.s .z)) rfl rfl rfl (.c .n) ?_; refine At.nil ?_; refine At.ibn ?_; refine At.thn (At.region (At.run 2 rfl (nT ?_))); refine At.round ?_; refine sR 1 rfl (nT (At.seq ?_)); refine At.condT rfl rfl ?_; refine At.skip (At.thn (At.seq ?_)); refine At.block ?_; refine sR 2 rfl (nT ?_); refine At.still 8 (by kernel_rfl) ?_; refine At.Still.run 1 rfl ?_; refine At.Still.y (Y.ixArrK rfl rfl rfl rfl rfl (show (0 : Int) ≤ 1 ∧ (1 : Int) < 4 by decide).1 (show (0 : Int) ≤ 1 ∧ (1 : Int) < 4 by decide).2 (q := 1) (off := 1) rfl rfl) rfl rfl rfl ?_; refine At.Still.y (Y.load rfl rfl .z rfl rfl rfl) rfl rfl rfl ?_; refine At.Still.run 1 rfl ?_; refine At.Still.y (Y.ixArrK rfl rfl rfl rfl rfl (show (0 : Int) ≤ 1 ∧ (1 : Int) < 4 by decide).1 (show (0 : Int) ≤ 1 ∧ (1 : Int) < 4 by decide).2 (q := 1) (off := 1) rfl rfl) rfl rfl rfl ?_; refine At.Still.y (Y.load rfl rfl (.s (.s .z)) rfl rfl rfl) rfl rfl rfl ?_; refine At.Still.run 1 rfl ?_; refine At.Still.y (Y.ixArrK rfl rfl rfl rfl rfl (show (0 : Int) ≤ 1 ∧ (1 : Int) < 4 by decide).1 (show (0 : Int) ≤ 1 ∧ (1 : Int) < 4 by decide).2 (q := 1) (off := 1) rfl rfl) rfl rfl rfl ?_; refine At.Still.nil ?_; refine At.store rfl rfl rfl rfl .z rfl rfl rfl (.s (.c .n)) ?_; refine At.nil ?_; refine At.ibn ?_; refine At.thn (At.region (At.run 2 rfl (nT ?_))); refine At.round ?_; refine sR 1 rfl (nT (At.seq ?_)); refine At.condT rfl rfl ?_; refine At.skip (At.thn (At.seq ?_)); refine At.block ?_; refine sR 2 rfl (nT ?_); refine At.still 8 (by kernel_rfl) ?_; refine At.Still.run 1 rfl ?_; refine At.Still.y (Y.ixArrK rfl rfl rfl rfl rfl (show (0 : Int) ≤ 2 ∧ (2 : Int) < 4 by decide).1 (show (0 : Int) ≤ 2 ∧ (2 : Int) < 4 by decide).2 (q := 2) (off := 2) rfl rfl) rfl rfl rfl ?_; refine At.Still.y (Y.load rfl rfl .z rfl rfl rfl) rfl rfl rfl ?_; refine At.Still.run 1 rfl ?_; refine At.Still.y (Y.ixArrK rfl rfl rfl rfl rfl (show (0 : Int) ≤ 2 ∧ (2 : Int) < 4 by decide).1 (show (0 : Int) ≤ 2 ∧ (2 : Int) < 4 by decide).2 (q := 2) (off := 2) rfl rfl) rfl rfl rfl ?_; refine At.Still.y (Y.load rfl rfl (.s (.s .z)) rfl rfl rfl) rfl rfl rfl ?_; refine At.Still.run 1 rfl ?_; refine At.Still.y (Y.ixArrK rfl rfl rfl rfl rfl (show (0 : Int) ≤ 2 ∧ (2 : Int) < 4 by decide).1 (show (0 : Int) ≤ 2 ∧ (2 : Int) < 4 by decide).2 (q := 2) (off := 2) rfl rfl) rfl rfl rfl ?_; refine At.Still.nil ?_; refine At.store rfl rfl rfl rfl .z rfl rfl rfl (.s (.s (.c .n))) ?_; refine At.nil ?_; refine At.ibn ?_; refine At.thn (At.region (At.run 2 rfl (nT ?_))); refine At.round ?_; refine sR 1 rfl (nT (At.seq ?_)); refine At.condT rfl rfl ?_; refine At.skip (At.thn (At.seq ?_)); refine At.block ?_; refine sR 2 rfl (nT ?_); refine At.still 8 (by kernel_rfl) ?_; refine At.Still.run 1 rfl ?_; refine At.Still.y (Y.ixArrK rfl rfl rfl rfl rfl (show (0 : Int) ≤ 3 ∧ (3 : Int) < 4 by decide).1 (show (0 : Int) ≤ 3 ∧ (3 : Int) < 4 by decide).2 (q := 3) (off := 3) rfl rfl) rfl rfl rfl ?_; refine At.Still.y (Y.load rfl rfl .z rfl rfl rfl) rfl rfl rfl ?_; refine At.Still.run 1 rfl ?_; refine At.Still.y (Y.ixArrK rfl rfl rfl rfl rfl (show (0 : Int) ≤ 3 ∧ (3 : Int) < 4 by decide).1 (show (0 : Int) ≤ 3 ∧ (3 : Int) < 4 by decide).2 (q := 3) (off := 3) rfl rfl) rfl rfl rfl ?_; refine At.Still.y (Y.load rfl rfl (.s (.s .z)) rfl rfl rfl) rfl rfl rfl ?_; refine At.Still.run 1 rfl ?_; refine At.Still.y (Y.ixArrK rfl rfl rfl rfl rfl (show (0 : Int) ≤ 3 ∧ (3 : Int) < 4 by decide).1 (show (0 : Int) ≤ 3 ∧ (3 : Int) < 4 by decide).2 (q := 3) (off := 3) rfl rfl) rfl rfl rfl ?_; refine At.Still.nil ?_; refine At.store rfl rfl rfl rfl .z rfl rfl rfl (.s (.s (.s (.c .n)))) ?_; refine At.nil ?_; refine At.ibn ?_; refine At.thn (At.region (At.run 2 rfl (nT ?_))); refine At.round ?_; refine sR 1 rfl (nT (At.seq ?_)); refine At.condF rfl rfl ?_; refine At.exit ?_; refine At.the ?_; refine At.the ?_; refine At.ibx ?_; refine At.thn (At.seq (At.region (At.y (Y.load rfl rfl .z rfl rfl rfl) rfl rfl rfl ?_))); refine At.store rfl rfl rfl rfl (.s .z) rfl rfl rfl (.c (.c (.c (.c .n)))) ?_; refine nT (At.ret ?_); refine At.resM (.inl rfl) rfl (RV.cell rfl rfl .z rfl rfl rfl RV.nil) ?_; refine At.drop .z (At.drop .z (At.drop .z ?_)); cases bret j; exact fun a w e hs => ⟨_, ⟨rfl, rfl⟩, hs⟩

noncomputable def Q68.f (M : Int) (O : List (Bs × Q0)) (U : List (Q8 × Q0)) (V : List Q2) (X : List Int) (q u x D : Int) (Z : List Q0) (G I J L : Int) : Option (Int × Int × Int × Int) :=
 (Q33.f q u x D G I J L).bind fun p =>
 some (p.1, p.2.1, p.2.2.1, p.2.2.2)
theorem Q68.callee : Callee Tryz.prog 72 := ⟨_, Tryz.func72, by kernel_rfl, by kernel_rfl⟩
theorem Q68.spec {u x D G I J L M O : Int} {U : List (Bs × Q0)} {V : List (Q8 × Q0)} {X : List Q2} {p : List Int} {q : List Q0} (hr0_1 : RdS Q2.fl.rep R.heap A0_1 X) (hn0_1 : X.length = n0_1) (hc0_1 : n0_1 ≤ c0_1) (hn0_2 : p.length = n0_2) (hn0_7 : q.length = n0_7) {r : Int × Int × Int × Int} (j : Q68.f u U V X p x D G I q J L M O = some r) :
 Spec Tryz.prog 72 [bp b0, .agg #[.int .u64 J, .int .u64 L, .int .u64 M, .int .u64 O]] R (pc b0 [bp b0_0, .slice A0_1 n0_1 c0_1, .slice A0_2 n0_2 c0_2, .int .u64 x, .int .u64 D, .int .u64 G, .int .u64 I, .slice A0_7 n0_7 c0_7] 88 :: pc b0_0 [i6 u, .map (some b0_0_1), .map (some b0_0_2)] 72 :: mapo Fl.bs.ov Q0.fl.av b0_0_1 U :: mapo Q8.fl.av Q0.fl.av b0_0_2 V :: row (Fl.int .i64) 3 A0_2 n0_2 c0_2 p :: row Q0.fl 38 A0_7 n0_7 c0_7 q :: Fr) (fun v l' => v = .agg #[.int .u64 r.1, .int .u64 r.2.1, .int .u64 r.2.2.1, .int .u64 r.2.2.2] ∧ pc b0 [bp b0_0, .slice A0_1 n0_1 c0_1, .slice A0_2 n0_2 c0_2, .int .u64 x, .int .u64 D, .int .u64 G, .int .u64 I, .slice A0_7 n0_7 c0_7] 88 :: pc b0_0 [i6 u, .map (some b0_0_1), .map (some b0_0_2)] 72 :: mapo Fl.bs.ov Q0.fl.av b0_0_1 U :: mapo Q8.fl.av Q0.fl.av b0_0_2 V :: row (Fl.int .i64) 3 A0_2 n0_2 c0_2 p :: row Q0.fl 38 A0_7 n0_7 c0_7 q :: Fr = l') := by
 subst hn0_1; subst hn0_2; subst hn0_7; refine Spec.of Tryz.func72 rfl rfl ?_; unfold Q68.f at j; have j := brun j; refine At.seq (At.region ?_); refine At.box rfl rfl (cs := [.int .u64 J, .int .u64 L, .int .u64 M, .int .u64 O]) rfl rfl (fun Z => ?_); refine At.alloc rfl rfl rfl (fun a1 => ?_); refine nT (At.seq ?_); refine At.held [pc Z [.int .u64 J, .int .u64 L, .int .u64 M, .int .u64 O] 38, pc b0 [bp b0_0, .slice A0_1 X.length c0_1, .slice A0_2 p.length c0_2, .int .u64 x, .int .u64 D, .int .u64 G, .int .u64 I, .slice A0_7 q.length c0_7] 88, pc b0_0 [i6 u, .map (some b0_0_1), .map (some b0_0_2)] 72, mapo Fl.bs.ov Q0.fl.av b0_0_1 U, mapo Q8.fl.av Q0.fl.av b0_0_2 V, row (Fl.int .i64) 3 A0_2 p.length c0_2 p, row Q0.fl 38 A0_7 q.length c0_7 q] 7 rfl ?_; refine At.H.pw 0 rfl rfl rfl rfl rfl (.c (.s .z) (.c (.s .z) (.c (.s .z) (.c (.s .z) (.c (.s .z) (.c (.s .z) (.c (.s .z) .n))))))) ?_; refine At.H.pw 1 rfl rfl rfl rfl rfl (.c (.s .z) (.c (.s .z) (.c (.s .z) (.c (.s .z) (.c (.s .z) (.c (.s .z) (.c (.s .z) .n))))))) ?_; refine At.H.pw 2 rfl rfl rfl rfl rfl (.c (.s .z) (.c (.s .z) (.c (.s .z) (.c (.s .z) (.c (.s .z) (.c (.s .z) (.c (.s .z) .n))))))) ?_; refine At.H.tw 3 rfl (Y.load rfl rfl (.s .z) rfl rfl rfl) rfl rfl rfl (.c (.s .z) (.c (.s .z) (.c (.s .z) (.c (.s .z) (.c (.s .z) (.c (.s .z) (.c (.s .z) .n))))))) ?_; refine At.H.tw 4 rfl (Y.load rfl rfl .z rfl rfl rfl) rfl rfl rfl (.c (.s .z) (.c (.s .z) (.c (.s .z) (.c (.s .z) (.c (.s .z) (.c (.s .z) (.c (.s .z) .n))))))) ?_; refine At.H.al [5] (Q6 ?_ Q7)
 ··refine At.HO.op rfl ?_
   obtain ⟨a2, a0, j⟩ := bbind j; refine At.call rfl Q33.callee rfl rfl rfl (Q33.spec a0) ?_; rintro _ _ ⟨rfl, rfl⟩; refine At.HO.back (.c (.s .z) (.c (.s .z) (.c (.s .z) (.c (.s .z) (.c (.s .z) (.c (.s .z) (.c (.s .z) .n))))))) ?_; refine At.H.al [6] (Q6 ?_ Q7)
   ··refine At.HO.op rfl ?_
     refine At.store rfl rfl rfl rfl .z rfl rfl rfl (.c (.c (.c (.c .n)))) ?_; refine At.HO.back (.c (.s .z) (.c (.s .z) (.c (.s .z) (.c (.s .z) (.c (.s .z) (.c (.s .z) (.c (.s .z) .n))))))) ?_; refine At.H.done (by kernel_rfl) ?_; refine At.thn (At.ret ?_); refine At.resM (.inl rfl) rfl (RV.cell rfl rfl .z rfl rfl rfl RV.nil) ?_; refine At.drop .z (At.drop .z ?_); cases bret j; exact fun a w e hs => ⟨_, ⟨rfl, rfl⟩, hs⟩

end Go.Bw
