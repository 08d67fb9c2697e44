/- DenoteMore, part 4: walks and plain laws. Conditions: none. -/
import Derived.Test.YtfbjkcnefhgodaaGreatDoorProg
import Derived.Deep.QuietTactic
import Derived.Test.YtfbjkcnefhgodaaGreatDoorBwDenoteMoreC
set_option linter.unusedVariables false
set_option linter.unusedSimpArgs false
set_option linter.unusedSectionVars false
set_option maxRecDepth 100000
set_option maxHeartbeats 2000000
namespace Go.Bw
open Go Go.RowKit Go.Proofs
variable {R : Res} {Fr : List HProp} {A0 A0_0 A0_2 : Option Addr} {n0 c0 b0 n0_0 c0_0 n0_2 c0_2 b1 : Nat}
structure Q1 where
 Kind : Int
 A : Int
 B : Int
 Name : Bs
 At : Int
deriving Inhabited, DecidableEq
def Q1.fl : Fl Q1 := ⟨5, fun x => [i6 x.Kind, i6 x.A, i6 x.B, .string ⟨(x.Name).toArray⟩, i6 x.At], fun _ => rfl, fun x u hu => by simp at hu; rcases hu with rfl | rfl | rfl | rfl | rfl <;> rfl, by decide⟩
noncomputable def Q108.f (p q : Int) (u : Bs) (D : Int) : Option Bool :=
 some (decide (p = 1))
theorem Q108.callee : Callee Tryz.prog 65 := ⟨_, Tryz.func65, by kernel_rfl, by kernel_rfl⟩
theorem Q108.spec {p q u : Int} {D : Bs} {r : Bool} (j : Q108.f p q D u = some r) :
 Spec Tryz.prog 65 [.agg #[i6 p, i6 q, .string ⟨(D).toArray⟩, i6 u]] R (Fr) (fun v l' => v = .bool r ∧ Fr = l') := by
 refine Spec.of Tryz.func65 rfl rfl ?_; unfold Q108.f at j; have j := brun j; refine At.seq (At.region ?_); refine At.box rfl rfl (cs := [i6 p, i6 q, .string ⟨(D).toArray⟩, i6 u]) rfl rfl (fun G => ?_); refine At.run 1 rfl (nT (sR 1 rfl (At.y (Y.load rfl rfl .z rfl rfl rfl) rfl rfl rfl (At.run 2 rfl ?_)))); refine nT (At.ret (At.drop .z ?_)); cases bret j; exact At.res (.inl rfl) rfl rfl ⟨rfl, rfl⟩

noncomputable def Q83.l0b (a0 : List Q0) (p : Int) : Option ((Int) ⊕ ((Unit) ⊕ (Int))) :=
 if p < (a0.length : Int) then
 if (0 : Int) ≤ p ∧ p < (a0.length : Int) then
 (Q108.f ((gt a0 p).Kind) ((gt a0 p).At) ((gt a0 p).Text) ((gt a0 p).Number)).bind fun q =>
 if q = true then
 upL (some p)
 else
 nx (IntKind.i64.wrap (p + 1))
 else none
 else
 dn (.inl ())
noncomputable def Q83.l0 (a0 : List Q0) (p : Int) : Option ((Unit) ⊕ (Int)) := iter (fun t_ : Int => Q83.l0b a0 t_) p
noncomputable def Q83.f (a0 : List Q0) : Option Int :=
 jn (Q83.l0 a0 0) (fun (_ : Unit) =>
 some (-1))
theorem Q83.callee : Callee Tryz.prog 123 := ⟨_, Tryz.func123, by kernel_rfl, by kernel_rfl⟩
theorem Q83.spec {a0 : List Q0} (hr0 : RdS Q0.fl.rep R.heap A0 a0) (hn0 : a0.length = n0) (hc0 : n0 ≤ c0) {r : Int} (j : Q83.f a0 = some r) :
 Spec Tryz.prog 123 [.slice A0 n0 c0, .func (.func 65) #[] #[]] R (Fr) (fun v l' => v = i6 r ∧ Fr = l') := by
 subst hn0; refine Spec.of Tryz.func123 rfl rfl ?_; unfold Q83.f at j; have j := brun j; refine sR 1 rfl (nT (At.seq (At.seq (At.region ?_)))); refine At.run 3 rfl (nT ?_); refine At.block ?_; obtain ⟨U, V, Z, j⟩ := bjoin j; obtain ⟨M, G, O⟩ := bsome j; clear j; unfold Q83.l0 at G; obtain ⟨I, u⟩ := Q18.1 G; clear G; refine At.loopJ (X := Int) (Y := Unit) (e0 := 0) (fun p => [(0, .slice A0 a0.length c0), (1, .func (.func 65) #[] #[]), (7, i6 (a0.length : Int)), (8, i6 p)]) (fun p => Fr) (fun m_ => fun p => iterN (fun t_ : Int => Q83.l0b a0 t_) m_ p = some M) I 0 u (fun _ => []) (fun _ => Fr) (fun _ => U (.inl ()) = some r) (fun a w e hs => ⟨e.sub ⟨rfl, rfl, rfl, rfl, trivial⟩, (by exact hs)⟩) ?_ (fun a1 => ?_)
 ·rintro _ j; have j := (V _).symm.trans j
  ·refine At.ibx ?_; refine At.thn (sR 1 rfl (nT (At.ret ?_))); cases bret j; exact At.res (.inl rfl) rfl rfl ⟨rfl, rfl⟩
 ·clear u I; rintro I p u; obtain ⟨a2, f_, a3, hf_, j⟩ := bit u; clear u; have j : (Q83.l0b a0 p).bind _ = some M := j; unfold Q83.l0b at j
  ·refine sR 1 rfl (nT (At.seq ?_)); rcases bite j with ⟨J, j⟩ | ⟨J, j⟩
   ··refine At.condT rfl (decide_eq_true J) ?_
     refine At.skip (At.thn (At.seq ?_)); refine At.block ?_; refine sR 2 rfl (nT (sR 3 rfl ?_)); obtain ⟨D, j⟩ := bnone j; refine At.y (Y.ixRd hr0 rfl rfl rfl rfl rfl rfl rfl D.1 D.2) rfl rfl rfl (At.y (Y.ldFl hr0 rfl (q := 0) rfl rfl D.1 D.2 rfl rfl rfl) rfl rfl rfl ?_); obtain ⟨a5, a4, j⟩ := bbind j; refine At.call rfl Q108.callee rfl rfl rfl (Q108.spec a4) ?_; rintro _ _ ⟨rfl, rfl⟩; refine nT ?_; rcases bite j with ⟨L, j⟩ | ⟨L, j⟩
     ··refine At.condT rfl L ?_
       refine sR 2 rfl (nT (At.ret ?_)); refine At.ibr ?_; refine At.thr ?_; have j := bupL Z O j; refine At.thr ?_; refine At.ibr ?_; refine At.thr ?_; cases bret j; exact At.res (.inl rfl) rfl rfl ⟨rfl, rfl⟩
     ··refine At.condF rfl (bn L) ?_
       refine At.skip ?_; refine At.ibn ?_; refine At.thn (At.region (At.run 2 rfl (At.nil ?_))); have j := bnx hf_ j; exact fun a w e hs => ⟨a2, (IntKind.i64.wrap (p + 1)), a3, j, e.sub ⟨rfl, rfl, rfl, rfl, trivial⟩, hs⟩
   ··refine At.condF rfl (decide_eq_false J) ?_
     refine At.exit ?_; refine At.the ?_; refine At.the ?_; exact fun a w e hs => a1 () (bdn j O) a w (e.sub trivial) hs

noncomputable def Q73.l0b (a0 q : List Q0) (u p : Int) : Option (((List Q0) × Int × Int) ⊕ (((List Q0) × Int) ⊕ ((List Q0)))) :=
 if p < (a0.length : Int) then
 jn (
 if (0 : Int) ≤ p ∧ p < (a0.length : Int) then
 (Q108.f ((gt q p).Kind) ((gt q p).At) ((gt q p).Text) ((gt q p).Number)).bind fun D =>
 if D = true then
 some (.inl (q, u))
 else
 if (0 : Int) ≤ u ∧ u < (a0.length : Int) then
 some (.inl ((st q u (⟨(gt q p).Kind, (gt q p).At, (gt q p).Text, (gt q p).Number⟩ : Q0)), IntKind.i64.wrap (u + 1)))
 else none
 else none) (fun (s_ : (List Q0) × Int) =>
 nx (s_.1, s_.2, IntKind.i64.wrap (p + 1)))
 else
 dn (.inl (q, u))
noncomputable def Q73.l0 (a0 p : List Q0) (q u : Int) : Option (((List Q0) × Int) ⊕ ((List Q0))) := iter (fun t_ : (List Q0) × Int × Int => Q73.l0b a0 t_.1 t_.2.1 t_.2.2) (p, q, u)
noncomputable def Q73.f (a0 : List Q0) : Option (List Q0) :=
 (Q83.f a0).bind fun p =>
 if p = (-1) then
 some a0
 else
 jn (Q73.l0 a0 a0 p (IntKind.i64.wrap (p + 1))) (fun (s_ : (List Q0) × Int) =>
 if (0 : Int) ≤ s_.2 ∧ s_.2 ≤ (a0.length : Int) then
 some ((s_.1.take s_.2.toNat ++ List.replicate (a0.length - s_.2.toNat) (⟨(0 : Int), (0 : Int), ([] : Bs), (0 : Int)⟩ : Q0)).take s_.2.toNat)
 else none)
theorem Q73.callee : Callee Tryz.prog 64 := ⟨_, Tryz.func64, by kernel_rfl, by kernel_rfl⟩
theorem Q73.spec {a0 : List Q0} (hn0 : a0.length = n0) {r : (List Q0)} (j : Q73.f a0 = some r) :
 Spec Tryz.prog 64 [.slice A0 n0 c0, .func (.func 65) #[] #[]] R (row Q0.fl 115 A0 n0 c0 a0 :: Fr) (fun v l' => ∃ (M : Nat), v = .slice A0 M c0 ∧ row Q0.fl 115 A0 M c0 r :: Fr = l' ∧ r.length = M) := by
 subst hn0; refine Spec.of Tryz.func64 rfl rfl ?_; unfold Q73.f at j; have j := brun j; refine sR 1 rfl (nT (sR 2 rfl ?_)); refine At.freeze .z fun c9 a7 a8 a9 d0 a4 => ?_; obtain ⟨a5, b2, j⟩ := bbind j; refine At.call rfl Q83.callee rfl rfl rfl (Q83.spec a7 a8 a9 b2) ?_; rintro _ _ ⟨rfl, rfl⟩; refine At.run 1 rfl (nT (At.seq (sR 2 rfl (At.nil ?_)))); refine At.thn ?_; rcases bite j with ⟨O, j⟩ | ⟨O, j⟩
 ··refine At.condT rfl (decide_eq_true O) ?_
   refine sR 2 rfl (nT (At.ret (At.thr ?_))); refine At.thaw a4 ?_; cases bret j; exact At.res (.inl rfl) rfl rfl ⟨a0.length, rfl, rfl, rfl⟩
 ··refine At.condF rfl (decide_eq_false O) ?_
   refine At.skip (At.thn (At.seq (sR 3 rfl (nT ?_)))); refine At.block ?_; refine At.thaw a4 ?_; obtain ⟨b3, b4, d1, j⟩ := bjoin j; obtain ⟨U, V, b5⟩ := bsome j; clear j; unfold Q73.l0 at V; obtain ⟨Z, G⟩ := Q18.1 V; clear V; refine At.loopJ (X := (List Q0) × Int × Int) (Y := (List Q0) × Int) (e0 := 0) (fun s_ => [(0, .slice A0 a0.length c0), (1, .func (.func 65) #[] #[]), (5, i6 s_.2.1), (6, i6 s_.2.2)]) (fun s_ => row Q0.fl 115 A0 a0.length c0 s_.1 :: Fr) (fun m_ => fun s_ => iterN (fun t_ : (List Q0) × Int × Int => Q73.l0b a0 t_.1 t_.2.1 t_.2.2) m_ (s_.1, s_.2.1, s_.2.2) = some U) Z (a0, a5, IntKind.i64.wrap (a5 + 1)) G (fun s_ => [(0, .slice A0 a0.length c0), (5, i6 s_.2)]) (fun s_ => row Q0.fl 115 A0 a0.length c0 s_.1 :: Fr) (fun s_ => b3 (.inl (s_.1, s_.2)) = some r) (fun a w e hs => ⟨e.sub ⟨rfl, rfl, rfl, rfl, trivial⟩, (by exact hs)⟩) ?_ (fun b6 => ?_)
   ·rintro ⟨b7, a1⟩ j; have j := (b4 _).symm.trans j
    ·refine At.ibx ?_; refine At.thn (sR 2 rfl ?_); obtain ⟨D, j⟩ := bnone j; refine At.y (Y.slSuf .z rfl rfl rfl rfl rfl rfl D.1 D.2) rfl rfl rfl ?_; refine At.clearSuf (z := (⟨(0 : Int), (0 : Int), ([] : Bs), (0 : Int)⟩ : Q0)) rfl .z rfl rfl rfl rfl rfl D.1 D.2 ?_; refine nT (sR 2 rfl ?_); refine At.cut rfl .z rfl rfl rfl rfl rfl D.1 D.2 rfl ?_; refine At.run 1 rfl (nT (At.ret ?_)); cases bret j; exact At.res (.inl rfl) rfl rfl ⟨((b7.take a1.toNat ++ List.replicate (a0.length - a1.toNat) (⟨(0 : Int), (0 : Int), ([] : Bs), (0 : Int)⟩ : Q0)).take a1.toNat).length, rfl, rfl, rfl⟩
   ·clear G Z; rintro Z ⟨p, I, u⟩ G; obtain ⟨b8, f_, b9, hf_, j⟩ := bit G; clear G; have j : (Q73.l0b a0 p I u).bind _ = some U := j; unfold Q73.l0b at j
    ·refine At.seq (sR 4 rfl (nT ?_)); rcases bite j with ⟨a2, j⟩ | ⟨a2, j⟩
     ··refine At.condT rfl (decide_eq_true a2) ?_
       refine At.skip (At.thn (At.seq ?_)); obtain ⟨c4, c5, d2, j⟩ := bjoin j; refine At.join (X := (List Q0) × Int) (fun s_ => [(0, .slice A0 a0.length c0), (1, .func (.func 65) #[] #[]), (5, i6 s_.2), (6, i6 u)]) (fun s_ => row Q0.fl 115 A0 a0.length c0 s_.1 :: Fr) (fun s_ => c4 (.inl (s_.1, s_.2)) = some U) ?_ (fun a6 => ?_)
       ·rintro ⟨c6, c7⟩ j; have j := (c5 _).symm.trans j
        ·refine At.region (At.run 3 rfl (At.nil ?_)); have j := bnx hf_ j; exact fun a w e hs => ⟨b8, (c6, c7, IntKind.i64.wrap (u + 1)), b9, j, e.sub ⟨rfl, rfl, rfl, rfl, trivial⟩, hs⟩
       ··refine At.block ?_
         refine sR 2 rfl ?_; obtain ⟨J, j⟩ := bnone j; refine At.y (Y.ix .z rfl rfl rfl rfl rfl rfl J.1 J.2) rfl rfl rfl (At.y (Y.ld .z (q := 0) rfl rfl J.1 J.2 rfl rfl rfl) rfl rfl rfl ?_); refine At.alloc rfl rfl rfl (fun d3 => ?_); refine At.store rfl rfl rfl rfl .z rfl rfl rfl (.c (.c (.c (.c .n)))) ?_; refine nT (sR 1 rfl (At.y (Y.load rfl rfl .z rfl rfl rfl) rfl rfl rfl ?_)); obtain ⟨d4, c8, j⟩ := bbind j; refine At.call rfl Q108.callee rfl rfl rfl (Q108.spec c8) ?_; rintro _ _ ⟨rfl, rfl⟩; refine At.run 1 rfl (nT ?_); rcases bite j with ⟨a3, j⟩ | ⟨a3, j⟩
         ··refine At.condF rfl (nf a3) ?_
           refine At.skip ?_; refine At.ibn ?_; refine At.thn (At.drop .z ?_); exact fun a w e hs => a6 (p, I) j a w (e.sub ⟨rfl, rfl, rfl, rfl, trivial⟩) hs
         ··refine At.condT rfl (nt (bn a3)) ?_
           refine sR 2 rfl (At.y (Y.load rfl rfl .z rfl rfl rfl) rfl rfl rfl ?_); obtain ⟨L, j⟩ := bnone j; refine At.y (Y.ix (.s .z) rfl rfl rfl rfl rfl rfl L.1 L.2) rfl rfl rfl ?_; refine At.st rfl (.s .z) (q := 0) (z := (⟨(gt p u).Kind, (gt p u).At, (gt p u).Text, (gt p u).Number⟩ : Q0)) rfl rfl rfl L.1 L.2 rfl rfl (.c (.c (.c (.c .n)))) ?_; refine nT (At.region (At.run 3 rfl (At.nil ?_))); refine At.ibn ?_; refine At.thn (At.drop (.s .z) ?_); exact fun a w e hs => a6 ((st p I (⟨(gt p u).Kind, (gt p u).At, (gt p u).Text, (gt p u).Number⟩ : Q0)), IntKind.i64.wrap (I + 1)) j a w (e.sub ⟨rfl, rfl, rfl, rfl, trivial⟩) hs
     ··refine At.condF rfl (decide_eq_false a2) ?_
       refine At.exit ?_; refine At.the ?_; refine At.the ?_; exact fun a w e hs => b6 (p, I) (bdn j b5) a w (e.sub ⟨rfl, rfl, trivial⟩) hs

noncomputable def Q32.f (p : List Q0) (u : Int) (D : List Q1) (a1 : Bs) : Option Bool :=
 if (0 : Int) ≤ 0 ∧ 0 < (p.length : Int) then
 jn (
 if (gt p 0).Kind = 5 then
 some (.inl (bseq ((gt p 0).Text) a1))
 else
 some (.inl false)) (fun (q : Bool) =>
 some q)
 else none
theorem Q32.callee : Callee Tryz.prog 155 := ⟨_, Tryz.func155, by kernel_rfl, by kernel_rfl⟩
theorem Q32.spec {D : List Q0} {I : Int} {u : List Q1} {a1 : Bs} (hr0_0 : RdS Q0.fl.rep R.heap A0_0 D) (hn0_0 : D.length = n0_0) (hc0_0 : n0_0 ≤ c0_0) (hn0_2 : u.length = n0_2) {r : Bool} (j : Q32.f D I u a1 = some r) :
 Spec Tryz.prog 155 [bp b0, .string ⟨(a1).toArray⟩] R (pc b0 [.slice A0_0 n0_0 c0_0, i6 I, .slice A0_2 n0_2 c0_2] 128 :: row Q1.fl 33 A0_2 n0_2 c0_2 u :: Fr) (fun v l' => v = .bool r ∧ pc b0 [.slice A0_0 n0_0 c0_0, i6 I, .slice A0_2 n0_2 c0_2] 128 :: row Q1.fl 33 A0_2 n0_2 c0_2 u :: Fr = l') := by
 subst hn0_0; subst hn0_2; refine Spec.of Tryz.func155 rfl rfl ?_; unfold Q32.f at j; have j := brun j; refine sR 1 rfl (nT (sR 3 rfl ?_)); refine At.y (Y.load rfl rfl .z rfl rfl rfl) rfl rfl rfl ?_; obtain ⟨p, j⟩ := bnone j; refine At.y (Y.ixRd hr0_0 rfl rfl rfl rfl rfl rfl rfl p.1 p.2) rfl rfl rfl ?_; refine At.y (Y.fa (RdS.some_ hr0_0 rfl p.1 p.2) rfl rfl rfl rfl rfl rfl) rfl rfl rfl ?_; refine At.y (Y.ldFl hr0_0 rfl (q := 0) rfl rfl p.1 p.2 rfl rfl rfl) rfl rfl rfl (At.run 2 rfl ?_); obtain ⟨M, O, U, j⟩ := bjoin j; let T1 : HProp := pc b0 [.slice A0_0 D.length c0_0, i6 I, .slice A0_2 u.length c0_2] 128; refine At.joinO 10 (X := Bool) (fun G => [(23, .bool G)]) (fun G => T1 :: row Q1.fl 33 A0_2 u.length c0_2 u :: Fr) (fun G => M (.inl G) = some r) ?_ (fun L => ?_)
 ·rintro G j; have j := (O _).symm.trans j
  ·refine At.run 1 rfl (nT (At.ret ?_)); cases bret j; exact At.res (.inl rfl) rfl rfl ⟨rfl, rfl⟩
 ··rcases bite j with ⟨J, j⟩ | ⟨J, j⟩
   ··refine At.know (t := 13) rfl (decide_eq_true J) ?_
     refine At.run 3 rfl (At.y (Y.load rfl rfl .z rfl rfl rfl) rfl rfl rfl (At.y (Y.ixRd hr0_0 rfl rfl rfl rfl rfl rfl rfl p.1 p.2) rfl rfl rfl ?_)); refine At.y (Y.fa (RdS.some_ hr0_0 rfl p.1 p.2) rfl rfl rfl rfl rfl rfl) rfl rfl rfl ?_; refine At.y (Y.ldFl hr0_0 rfl (q := 2) rfl rfl p.1 p.2 rfl rfl rfl) rfl rfl rfl (At.run 3 rfl ?_); exact At.of (L (bseq ((gt D 0).Text) a1) j) ⟨rfl, trivial⟩
   ··refine At.know (t := 13) rfl (decide_eq_false J) ?_
     refine At.run 10 rfl ?_; exact At.of (L false j) ⟨rfl, trivial⟩

noncomputable def Q60.f (p : List Q0) (q : Int) (u : List Q1) : Option ((List Q0) × Int × Int × Bs × Int) :=
 if (0 : Int) ≤ 0 ∧ 0 < (p.length : Int) then
 if (0 : Int) ≤ 1 ∧ 1 ≤ (p.length : Int) then
 some ((p.drop (1 : Int).toNat), (gt p 0).Kind, (gt p 0).At, (gt p 0).Text, (gt p 0).Number)
 else none
 else none
theorem Q60.callee : Callee Tryz.prog 205 := ⟨_, Tryz.func205, by kernel_rfl, by kernel_rfl⟩
theorem Q60.spec {p : List Q0} {G : Int} {u : List Q1} (hr0_0 : RdS Q0.fl.rep R.heap A0_0 p) (hn0_0 : p.length = n0_0) (hc0_0 : n0_0 ≤ c0_0) (hn0_2 : u.length = n0_2) {r : (List Q0) × Int × Int × Bs × Int} (j : Q60.f p G u = some r) :
 Spec Tryz.prog 205 [bp b0] R (pc b0 [.slice A0_0 n0_0 c0_0, i6 G, .slice A0_2 n0_2 c0_2] 128 :: row Q1.fl 33 A0_2 n0_2 c0_2 u :: Fr) (fun v l' => ∃ (J : Option Addr) (I : Nat) (L : Nat), v = .agg #[i6 r.2.1, i6 r.2.2.1, .string ⟨(r.2.2.2.1).toArray⟩, i6 r.2.2.2.2] ∧ pc b0 [.slice J I L, i6 G, .slice A0_2 n0_2 c0_2] 128 :: row Q1.fl 33 A0_2 n0_2 c0_2 u :: Fr = l' ∧ RdS Q0.fl.rep R.heap J r.1 ∧ r.1.length = I ∧ I ≤ L) := by
 subst hn0_0; subst hn0_2; refine Spec.of Tryz.func205 rfl rfl ?_; unfold Q60.f at j; have j := brun j; refine At.seq (At.region ?_); refine At.alloc rfl rfl rfl (fun Z => ?_); refine nT (sR 3 rfl (At.y (Y.load rfl rfl (.s .z) rfl rfl rfl) rfl rfl rfl ?_)); obtain ⟨D, j⟩ := bnone j; refine At.y (Y.ixRd hr0_0 rfl rfl rfl rfl rfl rfl rfl D.1 D.2) rfl rfl rfl (At.y (Y.ldFl hr0_0 rfl (q := 0) rfl rfl D.1 D.2 rfl rfl rfl) rfl rfl rfl ?_); refine At.alloc rfl rfl rfl (fun a0 => ?_); refine At.store rfl rfl rfl rfl .z rfl rfl rfl (.c (.c (.c (.c .n)))) ?_; refine nT (sR 4 rfl (At.y (Y.load rfl rfl (.s (.s .z)) rfl rfl rfl) rfl rfl rfl ?_)); obtain ⟨M, j⟩ := bnone j; obtain ⟨O, U, V, X⟩ := Y.slFromAt (P := Tryz.prog) (R := R) rfl hr0_0 hc0_0 M.1 M.2; refine At.y (X rfl rfl rfl rfl rfl rfl) rfl rfl rfl ?_; refine At.run 2 rfl ?_; refine At.store rfl rfl rfl rfl (.s (.s .z)) rfl rfl rfl (.c .n) ?_; refine nT (At.seq (At.region (At.y (Y.load rfl rfl (.s .z) rfl rfl rfl) rfl rfl rfl ?_))); refine At.store rfl rfl rfl rfl (.s (.s .z)) rfl rfl rfl (.c (.c (.c (.c .n)))) ?_; refine nT (At.ret ?_); refine At.resM (.inl rfl) rfl (RV.cell rfl rfl .z rfl rfl rfl RV.nil) ?_; refine At.drop .z (At.drop (.s .z) ?_); cases bret j; exact fun a w e hs => ⟨_, ⟨O, (p.drop (1 : Int).toNat).length, (c0_0 - (1 : Int).toNat), rfl, rfl, U, rfl, V⟩, hs⟩

noncomputable def Q35.f (u : List Q0) (q : Int) (D : List Q1) : Option ((List Q0) × Int × Int × Int × Bs × Int) :=
 if q = 60 then
 if (0 : Int) ≤ 0 ∧ 0 < (u.length : Int) then
 none
 else none
 else
 (Q60.f u (IntKind.i64.wrap (q + 1)) D).bind fun p =>
 some (p.1, IntKind.i64.wrap (q + 1), p.2.1, p.2.2.1, p.2.2.2.1, p.2.2.2.2)
theorem Q35.callee : Callee Tryz.prog 156 := ⟨_, Tryz.func156, by kernel_rfl, by kernel_rfl⟩
theorem Q35.spec {p : List Q0} {J : Int} {D : List Q1} (hr0_0 : RdS Q0.fl.rep R.heap A0_0 p) (hn0_0 : p.length = n0_0) (hc0_0 : n0_0 ≤ c0_0) (hn0_2 : D.length = n0_2) {r : (List Q0) × Int × Int × Int × Bs × Int} (j : Q35.f p J D = some r) :
 Spec Tryz.prog 156 [bp b0] R (pc b0 [.slice A0_0 n0_0 c0_0, i6 J, .slice A0_2 n0_2 c0_2] 128 :: row Q1.fl 33 A0_2 n0_2 c0_2 D :: Fr) (fun v l' => ∃ (L : Option Addr) (G : Nat) (M : Nat), v = .agg #[i6 r.2.2.1, i6 r.2.2.2.1, .string ⟨(r.2.2.2.2.1).toArray⟩, i6 r.2.2.2.2.2] ∧ pc b0 [.slice L G M, i6 r.2.1, .slice A0_2 n0_2 c0_2] 128 :: row Q1.fl 33 A0_2 n0_2 c0_2 D :: Fr = l' ∧ RdS Q0.fl.rep R.heap L r.1 ∧ r.1.length = G ∧ G ≤ M) := by
 subst hn0_0; subst hn0_2; refine Spec.of Tryz.func156 rfl rfl ?_; unfold Q35.f at j; have j := brun j; refine At.seq (At.region ?_); refine At.alloc rfl rfl rfl (fun a1 => ?_); refine nT (At.seq (sR 3 rfl (At.y (Y.load rfl rfl (.s .z) rfl rfl rfl) rfl rfl rfl (At.run 1 rfl ?_)))); refine nT ?_; rcases bite j with ⟨I, j⟩ | ⟨I, j⟩
 ··refine At.condT rfl (decide_eq_true I) ?_
   refine At.region (At.run 3 rfl (At.y (Y.load rfl rfl (.s .z) rfl rfl rfl) rfl rfl rfl ?_)); obtain ⟨u, j⟩ := bnone j; refine At.y (Y.ixRd hr0_0 rfl rfl rfl rfl rfl rfl rfl u.1 u.2) rfl rfl rfl ?_; refine At.y (Y.fa (RdS.some_ hr0_0 rfl u.1 u.2) rfl rfl rfl rfl rfl rfl) rfl rfl rfl ?_; refine At.y (Y.ldFl hr0_0 rfl (q := 1) rfl rfl u.1 u.2 rfl rfl rfl) rfl rfl rfl ?_; refine At.y (Y.build (is := [0, 1]) (xo := [.tmp 14, .const (i6 10)]) (vs := [i6 ((gt p 0).At), i6 10]) (cs := [i6 ((gt p 0).At), i6 10]) rfl rfl rfl rfl rfl rfl) rfl rfl rfl ?_; refine At.y (Y.build (is := [0]) (xo := [.tmp 15]) (vs := [.agg #[i6 ((gt p 0).At), i6 10]]) (cs := [i6 ((gt p 0).At), i6 10]) rfl rfl rfl rfl rfl (by kernel_rfl)) rfl rfl rfl ?_; cases j
 ··refine At.condF rfl (decide_eq_false I) ?_
   refine At.skip (At.thn (sR 3 rfl (At.y (Y.load rfl rfl (.s .z) rfl rfl rfl) rfl rfl rfl (At.run 3 rfl ?_)))); refine At.store rfl rfl rfl rfl (.s .z) rfl rfl rfl (.s (.c .n)) ?_; refine nT (sR 1 rfl (At.f2 (At.f1 ?_))); obtain ⟨O, U, j⟩ := bbind j; refine At.call rfl Q60.callee rfl rfl rfl (Q60.spec hr0_0 rfl hc0_0 rfl U) ?_; rintro _ _ ⟨V, a2, X, rfl, rfl, Z, rfl, a0⟩; refine At.store rfl rfl rfl rfl (.s (.s .z)) rfl rfl rfl (.c (.c (.c (.c .n)))) ?_; refine nT (At.ret ?_); refine At.resM (.inl rfl) rfl (RV.cell rfl rfl .z rfl rfl rfl RV.nil) ?_; refine At.drop .z ?_; cases bret j; exact fun a w e hs => ⟨_, ⟨V, O.1.length, X, rfl, rfl, Z, rfl, a0⟩, hs⟩

noncomputable def Q96.f (a0 : Bs) : Option Bool :=
 jn (
 if bseq a0 ([116, 116] : Bs) = true then
 some (.inl true)
 else
 some (.inl (bseq a0 ([102, 102] : Bs)))) (fun (p : Bool) =>
 jn (
 if p = true then
 some (.inl true)
 else
 some (.inl (bseq a0 ([109, 117] : Bs)))) (fun (q : Bool) =>
 jn (
 if q = true then
 some (.inl true)
 else
 some (.inl (bseq a0 ([110, 117] : Bs)))) (fun (u : Bool) =>
 some u)))
theorem Q96.callee : Callee Tryz.prog 229 := ⟨_, Tryz.func229, by kernel_rfl, by kernel_rfl⟩
theorem Q96.spec {a0 : Bs} {r : Bool} (j : Q96.f a0 = some r) :
 Spec Tryz.prog 229 [.string ⟨(a0).toArray⟩] R (Fr) (fun v l' => v = .bool r ∧ Fr = l') := by
 refine Spec.of Tryz.func229 rfl rfl ?_; unfold Q96.f at j; have j := brun j; refine sR 1 rfl (nT (sR 3 rfl ?_)); obtain ⟨O, U, a3, j⟩ := bjoin j; refine At.joinO 3 (X := Bool) (fun p => [(0, .string ⟨(a0).toArray⟩), (8, .bool p)]) (fun p => Fr) (fun p => O (.inl p) = some r) ?_ (fun J => ?_)
 ·rintro p j; have j := (U _).symm.trans j
  ·refine At.run 1 rfl ?_; obtain ⟨V, Z, a4, j⟩ := bjoin j; refine At.joinO 3 (X := Bool) (fun q => [(0, .string ⟨(a0).toArray⟩), (12, .bool q)]) (fun q => Fr) (fun q => V (.inl q) = some r) ?_ (fun L => ?_)
   ·rintro q j; have j := (Z _).symm.trans j
    ·refine At.run 1 rfl ?_; obtain ⟨a1, a2, a5, j⟩ := bjoin j; refine At.joinO 3 (X := Bool) (fun u => [(16, .bool u)]) (fun u => Fr) (fun u => a1 (.inl u) = some r) ?_ (fun M => ?_)
     ·rintro u j; have j := (a2 _).symm.trans j
      ·refine At.run 1 rfl (nT (At.ret ?_)); cases bret j; exact At.res (.inl rfl) rfl rfl ⟨rfl, rfl⟩
     ··rcases bite j with ⟨D, j⟩ | ⟨D, j⟩
       ··refine At.know (t := 13) rfl D ?_
         refine At.run 3 rfl ?_; exact At.of (M true j) ⟨rfl, trivial⟩
       ··refine At.know (t := 13) rfl (bn D) ?_
         refine At.run 3 rfl ?_; exact At.of (M (bseq a0 ([110, 117] : Bs)) j) ⟨rfl, trivial⟩
   ··rcases bite j with ⟨G, j⟩ | ⟨G, j⟩
     ··refine At.know (t := 9) rfl G ?_
       refine At.run 3 rfl ?_; exact At.of (L true j) ⟨rfl, rfl, trivial⟩
     ··refine At.know (t := 9) rfl (bn G) ?_
       refine At.run 3 rfl ?_; exact At.of (L (bseq a0 ([109, 117] : Bs)) j) ⟨rfl, rfl, trivial⟩
 ··rcases bite j with ⟨I, j⟩ | ⟨I, j⟩
   ··refine At.know (t := 5) rfl I ?_
     refine At.run 3 rfl ?_; exact At.of (J true j) ⟨rfl, rfl, trivial⟩
   ··refine At.know (t := 5) rfl (bn I) ?_
     refine At.run 3 rfl ?_; exact At.of (J (bseq a0 ([102, 102] : Bs)) j) ⟨rfl, rfl, trivial⟩

noncomputable def Q86.f (p : List Q0) (q : Int) (u : List Q1) (a1 : Bs) : Option (List Q0) :=
 (Q32.f p q u a1).bind fun D =>
 if D = true then
 (Q60.f p q u).bind fun G =>
 some G.1
 else
 none
theorem Q86.callee : Callee Tryz.prog 207 := ⟨_, Tryz.func207, by kernel_rfl, by kernel_rfl⟩
theorem Q86.spec {q : List Q0} {u : Int} {p : List Q1} {a1 : Bs} (hr0_0 : RdS Q0.fl.rep R.heap A0_0 q) (hn0_0 : q.length = n0_0) (hc0_0 : n0_0 ≤ c0_0) (hn0_2 : p.length = n0_2) {r : (List Q0)} (j : Q86.f q u p a1 = some r) :
 Spec Tryz.prog 207 [bp b0, .string ⟨(a1).toArray⟩] R (pc b0 [.slice A0_0 n0_0 c0_0, i6 u, .slice A0_2 n0_2 c0_2] 128 :: row Q1.fl 33 A0_2 n0_2 c0_2 p :: Fr) (fun v l' => ∃ (I : Option Addr) (D : Nat) (J : Nat), v = .tuple #[] ∧ pc b0 [.slice I D J, i6 u, .slice A0_2 n0_2 c0_2] 128 :: row Q1.fl 33 A0_2 n0_2 c0_2 p :: Fr = l' ∧ RdS Q0.fl.rep R.heap I r ∧ r.length = D ∧ D ≤ J) := by
 subst hn0_0; subst hn0_2; refine Spec.of Tryz.func207 rfl rfl ?_; unfold Q86.f at j; have j := brun j; refine At.seq (sR 2 rfl ?_); obtain ⟨a0, L, j⟩ := bbind j; refine At.call rfl Q32.callee rfl rfl rfl (Q32.spec hr0_0 rfl hc0_0 rfl L) ?_; rintro _ _ ⟨rfl, rfl⟩; refine At.run 1 rfl (nT ?_); rcases bite j with ⟨G, j⟩ | ⟨G, j⟩
 ··refine At.condF rfl (nf G) ?_
   refine At.skip (At.thn (At.region (At.run 1 rfl ?_))); obtain ⟨M, O, j⟩ := bbind j; refine At.call rfl Q60.callee rfl rfl rfl (Q60.spec hr0_0 rfl hc0_0 rfl O) ?_; rintro _ _ ⟨U, a2, V, rfl, rfl, X, rfl, Z⟩; refine At.nil ?_; cases bret j; exact At.res (.inr rfl) rfl rfl ⟨U, M.1.length, V, rfl, rfl, X, rfl, Z⟩
 ··refine At.condT rfl (nt (bn G)) ?_
   refine At.region (At.run 1 rfl ?_); cases j

noncomputable def Q109.f (p : List Q0) (q : Int) (u : List Q1) (a1 : Bs) : Option ((List Q0) × Bs) :=
 (Q32.f p q u ([45] : Bs)).bind fun G =>
 jn (
 if G = true then
 some (.inl false)
 else
 if (0 : Int) ≤ 0 ∧ 0 < (p.length : Int) then
 jn (
 if (gt p 0).Kind = 2 then
 (Q96.f ((gt p 0).Text)).bind fun I =>
 some (.inl I)
 else
 some (.inl true)) (fun (J : Bool) =>
 some (.inl J))
 else none) (fun (L : Bool) =>
 if L = true then
 none
 else
 (Q60.f p q u).bind fun D =>
 (Q86.f D.1 q u a1).bind fun M =>
 some (M, D.2.2.2.1))
theorem Q109.callee : Callee Tryz.prog 206 := ⟨_, Tryz.func206, by kernel_rfl, by kernel_rfl⟩
theorem Q109.spec {I : List Q0} {J : Int} {u : List Q1} {a1 : Bs} (hr0_0 : RdS Q0.fl.rep R.heap A0_0 I) (hn0_0 : I.length = n0_0) (hc0_0 : n0_0 ≤ c0_0) (hn0_2 : u.length = n0_2) {r : (List Q0) × Bs} (j : Q109.f I J u a1 = some r) :
 Spec Tryz.prog 206 [bp b0, .string ⟨(a1).toArray⟩] R (pc b0 [.slice A0_0 n0_0 c0_0, i6 J, .slice A0_2 n0_2 c0_2] 128 :: row Q1.fl 33 A0_2 n0_2 c0_2 u :: Fr) (fun v l' => ∃ (V : Option Addr) (L : Nat) (Z : Nat), v = .string ⟨(r.2).toArray⟩ ∧ pc b0 [.slice V L Z, i6 J, .slice A0_2 n0_2 c0_2] 128 :: row Q1.fl 33 A0_2 n0_2 c0_2 u :: Fr = l' ∧ RdS Q0.fl.rep R.heap V r.1 ∧ r.1.length = L ∧ L ≤ Z) := by
 subst hn0_0; subst hn0_2; refine Spec.of Tryz.func206 rfl rfl ?_; unfold Q109.f at j; have j := brun j; refine sR 1 rfl (nT (At.seq (At.seq (At.region ?_)))); refine At.run 1 rfl ?_; obtain ⟨c5, a3, j⟩ := bbind j; refine At.call rfl Q32.callee rfl rfl rfl (Q32.spec hr0_0 rfl hc0_0 rfl a3) ?_; rintro _ _ ⟨rfl, rfl⟩; refine At.run 2 rfl ?_; obtain ⟨a4, a5, c6, j⟩ := bjoin j; let T2 : HProp := pc b0 [.slice A0_0 I.length c0_0, i6 J, .slice A0_2 u.length c0_2] 128; refine At.joinO 19 (X := Bool) (fun G => [(0, bp b0), (1, .string ⟨(a1).toArray⟩), (28, .bool G)]) (fun G => T2 :: row Q1.fl 33 A0_2 u.length c0_2 u :: Fr) (fun G => a4 (.inl G) = some r) ?_ (fun a0 => ?_)
 ·rintro G j; have j := (a5 _).symm.trans j
  ·refine nT ?_; rcases bite j with ⟨M, j⟩ | ⟨M, j⟩
   ··refine At.condT rfl M ?_
     refine At.region (At.run 1 rfl ?_); cases j
   ··refine At.condF rfl (bn M) ?_
     refine At.skip (At.thn (sR 1 rfl ?_)); obtain ⟨c7, a6, j⟩ := bbind j; refine At.call rfl Q60.callee rfl rfl rfl (Q60.spec hr0_0 rfl hc0_0 rfl a6) ?_; rintro _ _ ⟨c8, c9, d0, rfl, rfl, a7, rfl, a8⟩; refine At.run 2 rfl (nT (sR 2 rfl ?_)); obtain ⟨a9, b2, j⟩ := bbind j; refine At.call rfl Q86.callee rfl rfl rfl (Q86.spec a7 rfl a8 rfl b2) ?_; rintro _ _ ⟨b3, d1, b4, rfl, rfl, b5, rfl, b6⟩; refine nT (sR 2 rfl (nT (At.ret ?_))); cases bret j; exact At.res (.inl rfl) rfl rfl ⟨b3, a9.length, b4, rfl, rfl, b5, rfl, b6⟩
 ··rcases bite j with ⟨O, j⟩ | ⟨O, j⟩
   ··refine At.know (t := 9) rfl (nf O) ?_
     refine At.run 19 rfl ?_; exact At.of (a0 false j) ⟨rfl, rfl, rfl, trivial⟩
   ··refine At.know (t := 9) rfl (nt (bn O)) ?_
     refine At.run 3 rfl (At.y (Y.load rfl rfl .z rfl rfl rfl) rfl rfl rfl ?_); obtain ⟨p, j⟩ := bnone j; refine At.y (Y.ixRd hr0_0 rfl rfl rfl rfl rfl rfl rfl p.1 p.2) rfl rfl rfl ?_; refine At.y (Y.fa (RdS.some_ hr0_0 rfl p.1 p.2) rfl rfl rfl rfl rfl rfl) rfl rfl rfl ?_; refine At.y (Y.ldFl hr0_0 rfl (q := 0) rfl rfl p.1 p.2 rfl rfl rfl) rfl rfl rfl (At.run 2 rfl ?_); obtain ⟨b7, b8, d2, j⟩ := bjoin j; refine At.joinO 9 (X := Bool) (fun D => [(0, bp b0), (1, .string ⟨(a1).toArray⟩), (9, .bool true), (27, .bool D)]) (fun D => T2 :: row Q1.fl 33 A0_2 u.length c0_2 u :: Fr) (fun D => b7 (.inl D) = some r) ?_ (fun a2 => ?_)
     ·rintro D j; have j := (b8 _).symm.trans j
      ·refine At.run 1 rfl ?_; exact At.of (a0 D j) ⟨rfl, rfl, rfl, trivial⟩
     ··rcases bite j with ⟨U, j⟩ | ⟨U, j⟩
       ··refine At.know (t := 18) rfl (nf (decide_eq_true U)) ?_
         refine At.run 3 rfl (At.y (Y.load rfl rfl .z rfl rfl rfl) rfl rfl rfl (At.y (Y.ixRd hr0_0 rfl rfl rfl rfl rfl rfl rfl p.1 p.2) rfl rfl rfl ?_)); refine At.y (Y.fa (RdS.some_ hr0_0 rfl p.1 p.2) rfl rfl rfl rfl rfl rfl) rfl rfl rfl ?_; refine At.y (Y.ldFl hr0_0 rfl (q := 2) rfl rfl p.1 p.2 rfl rfl rfl) rfl rfl rfl ?_; obtain ⟨b9, c4, j⟩ := bbind j; refine At.call rfl Q96.callee rfl rfl rfl (Q96.spec c4) ?_; rintro _ _ ⟨rfl, rfl⟩; refine At.run 1 rfl ?_; exact At.of (a2 b9 j) ⟨rfl, rfl, rfl, rfl, trivial⟩
       ··refine At.know (t := 18) rfl (nt (decide_eq_false U)) ?_
         refine At.run 9 rfl ?_; exact At.of (a2 true j) ⟨rfl, rfl, rfl, rfl, trivial⟩

noncomputable def Q26.f (J : List Q0) (L : Int) (p : List Q1) (q u D : Int) (G : Bs) (I : Int) : Option ((List Q1) × Int) :=
 if (p.length + ([(⟨q, u, D, G, I⟩ : Q1)] : List Q1).length) * 48 ≤ 140737488355328 then
 some ((p ++ ([(⟨q, u, D, G, I⟩ : Q1)] : List Q1)), IntKind.i64.wrap (((p ++ ([(⟨q, u, D, G, I⟩ : Q1)] : List Q1)).length : Int) - 1))
 else none
theorem Q26.callee : Callee Tryz.prog 157 := ⟨_, Tryz.func157, by kernel_rfl, by kernel_rfl⟩
theorem Q26.spec {J : List Q0} {L p q u D : Int} {I : List Q1} {G : Bs} (hr0_0 : RdS Q0.fl.rep R.heap A0_0 J) (hn0_0 : J.length = n0_0) (hc0_0 : n0_0 ≤ c0_0) (hn0_2 : I.length = n0_2) {r : (List Q1) × Int} (j : Q26.f J L I p q u G D = some r) :
 Spec Tryz.prog 157 [bp b0, .agg #[i6 p, i6 q, i6 u, .string ⟨(G).toArray⟩, i6 D]] R (pc b0 [.slice A0_0 n0_0 c0_0, i6 L, .slice A0_2 n0_2 c0_2] 128 :: row Q1.fl 33 A0_2 n0_2 c0_2 I :: Fr) (fun v l' => ∃ (M : Option Addr) (O : Nat), v = i6 r.2 ∧ pc b0 [.slice A0_0 n0_0 c0_0, i6 L, .slice M ((I ++ ([(⟨p, q, u, G, D⟩ : Q1)] : List Q1)).length) O] 128 :: row Q1.fl 33 M ((I ++ ([(⟨p, q, u, G, D⟩ : Q1)] : List Q1)).length) O r.1 :: Fr = l') := by
 subst hn0_0; subst hn0_2; refine Spec.of Tryz.func157 rfl rfl ?_; unfold Q26.f at j; have j := brun j; refine At.seq (At.region ?_); refine At.box rfl rfl (cs := [i6 p, i6 q, i6 u, .string ⟨(G).toArray⟩, i6 D]) rfl rfl (fun U => ?_); refine At.run 1 rfl (nT (At.seq ?_)); refine At.held [pc U [i6 p, i6 q, i6 u, .string ⟨(G).toArray⟩, i6 D] 33] 11 rfl ?_; refine At.H.pw 0 rfl rfl rfl rfl rfl (.c .z .n) ?_; refine At.H.pw 1 rfl rfl rfl rfl rfl (.c .z .n) ?_; refine At.H.pw 2 rfl rfl rfl rfl rfl (.c .z .n) ?_; refine At.H.pw 3 rfl rfl rfl rfl rfl (.c .z .n) ?_; refine At.H.tw 5 rfl (Y.load rfl rfl .z rfl rfl rfl) rfl rfl rfl (.c .z .n) ?_; obtain ⟨V, j⟩ := bnone j; let T3 : HProp := pc U [i6 p, i6 q, i6 u, .string ⟨(G).toArray⟩, i6 D] 33; refine At.H.joinK (X := (Option Addr) × Nat) (fun s_ => [(0, bp b0)]) (fun s_ => pc b0 [.slice A0_0 J.length c0_0, i6 L, .slice s_.1 ((I ++ ([(⟨p, q, u, G, D⟩ : Q1)] : List Q1)).length) s_.2] 128 :: row Q1.fl 33 s_.1 ((I ++ ([(⟨p, q, u, G, D⟩ : Q1)] : List Q1)).length) s_.2 (I ++ ([(⟨p, q, u, G, D⟩ : Q1)] : List Q1)) :: T3 :: Fr) (fun s_ => True) ?_ (fun Z => ?_)
 ·rintro ⟨a0, a1⟩ -
  ·refine At.thn (sR 3 rfl (At.y (Y.load rfl rfl .z rfl rfl rfl) rfl rfl rfl (At.run 3 rfl (nT ?_)))); refine At.ret (At.drop (.s (.s .z)) ?_); cases bret j; exact At.res (.inl rfl) rfl rfl ⟨a0, a1, rfl, rfl⟩
 ·refine At.H.al [4, 6] (Q6 ?_ (Q6 ?_ Q8))
  ··refine At.HO.op rfl ?_
    refine At.y (Y.load rfl rfl (.s .z) rfl rfl rfl) rfl rfl rfl ?_; refine At.HO.back (.c .z .n) ?_; refine At.H.al [6] (Q6 ?_ Q8)
    ··refine At.HO.op rfl ?_
      refine At.lit rfl (xo := [.tmp 10]) (ys := ([(⟨p, q, u, G, D⟩ : Q1)] : List Q1)) Q1.fl rfl rfl rfl rfl rfl rfl rfl rfl rfl rfl rfl (fun a6 a7 => ?_); refine At.HO.back (.c (.s .z) .n) ?_; refine At.H.al [7] (Q6 ?_ Q8)
      ··refine At.HO.op rfl ?_
        refine At.append rfl (.s (.s (.s .z))) (Src.own .z (by simp)) rfl rfl rfl rfl rfl rfl rfl rfl V (by decide) rfl (fun a2 a3 => ?_); refine At.drop (.s .z) ?_; refine At.HO.back (.c (.s .z) .n) ?_; refine At.H.pw 8 rfl rfl rfl rfl rfl (.c (.s .z) .n) ?_; refine At.H.pw 9 rfl rfl rfl rfl rfl (.c (.s .z) .n) ?_; refine At.H.al [10] (Q6 ?_ Q8)
        ··refine At.HO.op rfl ?_
          refine At.store rfl rfl rfl rfl (.s (.s .z)) rfl rfl rfl (.s (.s (.c .n))) ?_; refine At.HO.back (.c (.s (.s .z)) .n) ?_; refine At.H.done (by kernel_rfl) ?_; exact At.of (Z (a2, a3) trivial) ⟨rfl, trivial⟩
  ··refine At.HO.op rfl ?_
    refine At.lit rfl (xo := [.tmp 10]) (ys := ([(⟨p, q, u, G, D⟩ : Q1)] : List Q1)) Q1.fl rfl rfl rfl rfl rfl rfl rfl rfl rfl rfl rfl (fun a8 a9 => ?_); refine At.HO.back (.c (.s .z) .n) ?_; refine At.H.al [4] (Q6 ?_ Q8)
    ··refine At.HO.op rfl ?_
      refine At.y (Y.load rfl rfl (.s (.s .z)) rfl rfl rfl) rfl rfl rfl ?_; refine At.HO.back (.c (.s .z) .n) ?_; refine At.H.al [7] (Q6 ?_ Q8)
      ··refine At.HO.op rfl ?_
        refine At.append rfl (.s (.s (.s .z))) (Src.own .z (by simp)) rfl rfl rfl rfl rfl rfl rfl rfl V (by decide) rfl (fun a4 a5 => ?_); refine At.drop (.s .z) ?_; refine At.HO.back (.c (.s .z) .n) ?_; refine At.H.pw 8 rfl rfl rfl rfl rfl (.c (.s .z) .n) ?_; refine At.H.pw 9 rfl rfl rfl rfl rfl (.c (.s .z) .n) ?_; refine At.H.al [10] (Q6 ?_ Q8)
        ··refine At.HO.op rfl ?_
          refine At.store rfl rfl rfl rfl (.s (.s .z)) rfl rfl rfl (.s (.s (.c .n))) ?_; refine At.HO.back (.c (.s (.s .z)) .n) ?_; refine At.H.done (by kernel_rfl) ?_; exact At.of (Z (a4, a5) trivial) ⟨rfl, trivial⟩

theorem Q10.callee : Callee Tryz.prog 66 := ⟨_, Tryz.func66, by kernel_rfl, by kernel_rfl⟩
def Q10.SP (self_ : (List Q0) → Int → (List Q1) → Option ((List Q1) × (List Q0) × Int × Int)) : Prop :=
 ∀ (R : Res) (Fr : List HProp) (b0 : Nat) (A0_0 : Option Addr) (n0_0 : Nat) (c0_0 : Nat) (A0_2 : Option Addr) (n0_2 : Nat) (c0_2 : Nat) (a0_0 : List Q0) (a0_1 : Int) (a0_2 : List Q1) (hr0_0 : RdS Q0.fl.rep R.heap A0_0 a0_0) (hn0_0 : a0_0.length = n0_0) (hc0_0 : n0_0 ≤ c0_0) (hn0_2 : a0_2.length = n0_2) {r : (List Q1) × (List Q0) × Int × Int} (j : self_ a0_0 a0_1 a0_2 = some r),
  Spec Tryz.prog 66 [bp b0] R (pc b0 [.slice A0_0 n0_0 c0_0, i6 a0_1, .slice A0_2 n0_2 c0_2] 128 :: row Q1.fl 33 A0_2 n0_2 c0_2 a0_2 :: Fr) (fun v l' => ∃ (w252 : Nat) (w254 : Option Addr) (w255 : Nat) (w256 : Option Addr) (w257 : Nat) (w258 : Nat), v = i6 r.2.2.2 ∧ pc b0 [.slice w256 w257 w258, i6 r.2.2.1, .slice w254 w252 w255] 128 :: row Q1.fl 33 w254 w252 w255 r.1 :: Fr = l' ∧ r.1.length = w252 ∧ RdS Q0.fl.rep R.heap w256 r.2.1 ∧ r.2.1.length = w257 ∧ w257 ≤ w258)
theorem Q27.callee : Callee Tryz.prog 124 := ⟨_, Tryz.func124, by kernel_rfl, by kernel_rfl⟩
def Q27.SP (self_ : (List Q0) → Int → (List Q1) → Bs → Int → Option ((List Q1) × (List Q0) × Int × Int)) : Prop :=
 ∀ (R : Res) (Fr : List HProp) (b0 : Nat) (A0_0 : Option Addr) (n0_0 : Nat) (c0_0 : Nat) (A0_2 : Option Addr) (n0_2 : Nat) (c0_2 : Nat) (a0_0 : List Q0) (a0_1 : Int) (a0_2 : List Q1) (a1 : Bs) (a2 : Int) (hr0_0 : RdS Q0.fl.rep R.heap A0_0 a0_0) (hn0_0 : a0_0.length = n0_0) (hc0_0 : n0_0 ≤ c0_0) (hn0_2 : a0_2.length = n0_2) {r : (List Q1) × (List Q0) × Int × Int} (j : self_ a0_0 a0_1 a0_2 a1 a2 = some r),
  Spec Tryz.prog 124 [bp b0, .string ⟨(a1).toArray⟩, i6 a2, .func (.func 125) #[bp b0] #[]] R (pc b0 [.slice A0_0 n0_0 c0_0, i6 a0_1, .slice A0_2 n0_2 c0_2] 128 :: row Q1.fl 33 A0_2 n0_2 c0_2 a0_2 :: Fr) (fun v l' => ∃ (w252 : Nat) (w254 : Option Addr) (w255 : Nat) (w256 : Option Addr) (w257 : Nat) (w258 : Nat), v = i6 r.2.2.2 ∧ pc b0 [.slice w256 w257 w258, i6 r.2.2.1, .slice w254 w252 w255] 128 :: row Q1.fl 33 w254 w252 w255 r.1 :: Fr = l' ∧ r.1.length = w252 ∧ RdS Q0.fl.rep R.heap w256 r.2.1 ∧ r.2.1.length = w257 ∧ w257 ≤ w258)
theorem Q34.callee : Callee Tryz.prog 125 := ⟨_, Tryz.func125, by kernel_rfl, by kernel_rfl⟩
def Q34.SP (self_ : (List Q0) → Int → (List Q1) → Option ((List Q1) × (List Q0) × Int × Int)) : Prop :=
 ∀ (R : Res) (Fr : List HProp) (b0 : Nat) (A0_0 : Option Addr) (n0_0 : Nat) (c0_0 : Nat) (A0_2 : Option Addr) (n0_2 : Nat) (c0_2 : Nat) (a0_0 : List Q0) (a0_1 : Int) (a0_2 : List Q1) (hr0_0 : RdS Q0.fl.rep R.heap A0_0 a0_0) (hn0_0 : a0_0.length = n0_0) (hc0_0 : n0_0 ≤ c0_0) (hn0_2 : a0_2.length = n0_2) {r : (List Q1) × (List Q0) × Int × Int} (j : self_ a0_0 a0_1 a0_2 = some r),
  Spec Tryz.prog 125 [bp b0] R (pc b0 [.slice A0_0 n0_0 c0_0, i6 a0_1, .slice A0_2 n0_2 c0_2] 128 :: row Q1.fl 33 A0_2 n0_2 c0_2 a0_2 :: Fr) (fun v l' => ∃ (w252 : Nat) (w254 : Option Addr) (w255 : Nat) (w256 : Option Addr) (w257 : Nat) (w258 : Nat), v = i6 r.2.2.2 ∧ pc b0 [.slice w256 w257 w258, i6 r.2.2.1, .slice w254 w252 w255] 128 :: row Q1.fl 33 w254 w252 w255 r.1 :: Fr = l' ∧ r.1.length = w252 ∧ RdS Q0.fl.rep R.heap w256 r.2.1 ∧ r.2.1.length = w257 ∧ w257 ≤ w258)
theorem Q28.callee : Callee Tryz.prog 124 := ⟨_, Tryz.func124, by kernel_rfl, by kernel_rfl⟩
def Q28.SP (self_ : (List Q0) → Int → (List Q1) → Bs → Int → Option ((List Q1) × (List Q0) × Int × Int)) : Prop :=
 ∀ (R : Res) (Fr : List HProp) (b0 : Nat) (A0_0 : Option Addr) (n0_0 : Nat) (c0_0 : Nat) (A0_2 : Option Addr) (n0_2 : Nat) (c0_2 : Nat) (a0_0 : List Q0) (a0_1 : Int) (a0_2 : List Q1) (a1 : Bs) (a2 : Int) (hr0_0 : RdS Q0.fl.rep R.heap A0_0 a0_0) (hn0_0 : a0_0.length = n0_0) (hc0_0 : n0_0 ≤ c0_0) (hn0_2 : a0_2.length = n0_2) {r : (List Q1) × (List Q0) × Int × Int} (j : self_ a0_0 a0_1 a0_2 a1 a2 = some r),
  Spec Tryz.prog 124 [bp b0, .string ⟨(a1).toArray⟩, i6 a2, .func (.func 158) #[bp b0] #[]] R (pc b0 [.slice A0_0 n0_0 c0_0, i6 a0_1, .slice A0_2 n0_2 c0_2] 128 :: row Q1.fl 33 A0_2 n0_2 c0_2 a0_2 :: Fr) (fun v l' => ∃ (w252 : Nat) (w254 : Option Addr) (w255 : Nat) (w256 : Option Addr) (w257 : Nat) (w258 : Nat), v = i6 r.2.2.2 ∧ pc b0 [.slice w256 w257 w258, i6 r.2.2.1, .slice w254 w252 w255] 128 :: row Q1.fl 33 w254 w252 w255 r.1 :: Fr = l' ∧ r.1.length = w252 ∧ RdS Q0.fl.rep R.heap w256 r.2.1 ∧ r.2.1.length = w257 ∧ w257 ≤ w258)
theorem Q30.callee : Callee Tryz.prog 158 := ⟨_, Tryz.func158, by kernel_rfl, by kernel_rfl⟩
def Q30.SP (self_ : (List Q0) → Int → (List Q1) → Option ((List Q1) × (List Q0) × Int × Int)) : Prop :=
 ∀ (R : Res) (Fr : List HProp) (b0 : Nat) (A0_0 : Option Addr) (n0_0 : Nat) (c0_0 : Nat) (A0_2 : Option Addr) (n0_2 : Nat) (c0_2 : Nat) (a0_0 : List Q0) (a0_1 : Int) (a0_2 : List Q1) (hr0_0 : RdS Q0.fl.rep R.heap A0_0 a0_0) (hn0_0 : a0_0.length = n0_0) (hc0_0 : n0_0 ≤ c0_0) (hn0_2 : a0_2.length = n0_2) {r : (List Q1) × (List Q0) × Int × Int} (j : self_ a0_0 a0_1 a0_2 = some r),
  Spec Tryz.prog 158 [bp b0] R (pc b0 [.slice A0_0 n0_0 c0_0, i6 a0_1, .slice A0_2 n0_2 c0_2] 128 :: row Q1.fl 33 A0_2 n0_2 c0_2 a0_2 :: Fr) (fun v l' => ∃ (w252 : Nat) (w254 : Option Addr) (w255 : Nat) (w256 : Option Addr) (w257 : Nat) (w258 : Nat), v = i6 r.2.2.2 ∧ pc b0 [.slice w256 w257 w258, i6 r.2.2.1, .slice w254 w252 w255] 128 :: row Q1.fl 33 w254 w252 w255 r.1 :: Fr = l' ∧ r.1.length = w252 ∧ RdS Q0.fl.rep R.heap w256 r.2.1 ∧ r.2.1.length = w257 ∧ w257 ≤ w258)
theorem Q36.callee : Callee Tryz.prog 208 := ⟨_, Tryz.func208, by kernel_rfl, by kernel_rfl⟩
def Q36.SP (self_ : (List Q0) → Int → (List Q1) → Option ((List Q1) × (List Q0) × Int × Int)) : Prop :=
 ∀ (R : Res) (Fr : List HProp) (b0 : Nat) (A0_0 : Option Addr) (n0_0 : Nat) (c0_0 : Nat) (A0_2 : Option Addr) (n0_2 : Nat) (c0_2 : Nat) (a0_0 : List Q0) (a0_1 : Int) (a0_2 : List Q1) (hr0_0 : RdS Q0.fl.rep R.heap A0_0 a0_0) (hn0_0 : a0_0.length = n0_0) (hc0_0 : n0_0 ≤ c0_0) (hn0_2 : a0_2.length = n0_2) {r : (List Q1) × (List Q0) × Int × Int} (j : self_ a0_0 a0_1 a0_2 = some r),
  Spec Tryz.prog 208 [bp b0] R (pc b0 [.slice A0_0 n0_0 c0_0, i6 a0_1, .slice A0_2 n0_2 c0_2] 128 :: row Q1.fl 33 A0_2 n0_2 c0_2 a0_2 :: Fr) (fun v l' => ∃ (w252 : Nat) (w254 : Option Addr) (w255 : Nat) (w257 : Option Addr) (w258 : Nat) (w259 : Nat), v = i6 r.2.2.2 ∧ pc b0 [.slice w257 w258 w259, i6 r.2.2.1, .slice w254 w252 w255] 128 :: row Q1.fl 33 w254 w252 w255 r.1 :: Fr = l' ∧ r.1.length = w252 ∧ RdS Q0.fl.rep R.heap w257 r.2.1 ∧ r.2.1.length = w258 ∧ w258 ≤ w259)
noncomputable def Q10.g (self_0 : (List Q0) → Int → (List Q1) → Option ((List Q1) × (List Q0) × Int × Int)) (self_1 : (List Q0) → Int → (List Q1) → Bs → Int → Option ((List Q1) × (List Q0) × Int × Int)) (self_2 : (List Q0) → Int → (List Q1) → Option ((List Q1) × (List Q0) × Int × Int)) (self_3 : (List Q0) → Int → (List Q1) → Bs → Int → Option ((List Q1) × (List Q0) × Int × Int)) (self_4 : (List Q0) → Int → (List Q1) → Option ((List Q1) × (List Q0) × Int × Int)) (self_5 : (List Q0) → Int → (List Q1) → Option ((List Q1) × (List Q0) × Int × Int)) (q : List Q0) (u : Int) (D : List Q1) : Option ((List Q1) × (List Q0) × Int × Int) :=
 (self_1 q u D ([124] : Bs) 7).bind fun p =>
 some (p.1, p.2.1, p.2.2.1, p.2.2.2)
noncomputable def Q27.l0b (a1 : Bs) (a2 : Int) (self_2 : (List Q0) → Int → (List Q1) → Option ((List Q1) × (List Q0) × Int × Int)) (q : List Q1) (u : List Q0) (D I : Int) : Option (((List Q1) × (List Q0) × Int × Int) ⊕ (((List Q1) × (List Q0) × Int × Int) ⊕ ((List Q1) × (List Q0) × Int × Int))) :=
 (Q32.f u D q a1).bind fun L =>
 if L = true then
 (Q35.f u D q).bind fun G =>
 (self_2 G.1 G.2.1 q).bind fun p =>
 (Q26.f p.2.1 p.2.2.1 p.1 a2 I p.2.2.2 ([] : Bs) G.2.2.2.1).bind fun J =>
 nx (J.1, p.2.1, p.2.2.1, J.2)
 else
 dn (.inl (q, u, D, I))
noncomputable def Q27.l0 (a1 : Bs) (a2 : Int) (self_2 : (List Q0) → Int → (List Q1) → Option ((List Q1) × (List Q0) × Int × Int)) (p : List Q1) (q : List Q0) (u D : Int) : Option (((List Q1) × (List Q0) × Int × Int) ⊕ ((List Q1) × (List Q0) × Int × Int)) := iter (fun t_ : (List Q1) × (List Q0) × Int × Int => Q27.l0b a1 a2 self_2 t_.1 t_.2.1 t_.2.2.1 t_.2.2.2) (p, q, u, D)
noncomputable def Q27.g (self_0 : (List Q0) → Int → (List Q1) → Option ((List Q1) × (List Q0) × Int × Int)) (self_1 : (List Q0) → Int → (List Q1) → Bs → Int → Option ((List Q1) × (List Q0) × Int × Int)) (self_2 : (List Q0) → Int → (List Q1) → Option ((List Q1) × (List Q0) × Int × Int)) (self_3 : (List Q0) → Int → (List Q1) → Bs → Int → Option ((List Q1) × (List Q0) × Int × Int)) (self_4 : (List Q0) → Int → (List Q1) → Option ((List Q1) × (List Q0) × Int × Int)) (self_5 : (List Q0) → Int → (List Q1) → Option ((List Q1) × (List Q0) × Int × Int)) (q : List Q0) (u : Int) (D : List Q1) (a1 : Bs) (a2 : Int) : Option ((List Q1) × (List Q0) × Int × Int) :=
 (self_2 q u D).bind fun p =>
 jn (Q27.l0 a1 a2 self_2 p.1 p.2.1 p.2.2.1 p.2.2.2) (fun (s_ : (List Q1) × (List Q0) × Int × Int) =>
 some (s_.1, s_.2.1, s_.2.2.1, s_.2.2.2))
noncomputable def Q34.g (self_0 : (List Q0) → Int → (List Q1) → Option ((List Q1) × (List Q0) × Int × Int)) (self_1 : (List Q0) → Int → (List Q1) → Bs → Int → Option ((List Q1) × (List Q0) × Int × Int)) (self_2 : (List Q0) → Int → (List Q1) → Option ((List Q1) × (List Q0) × Int × Int)) (self_3 : (List Q0) → Int → (List Q1) → Bs → Int → Option ((List Q1) × (List Q0) × Int × Int)) (self_4 : (List Q0) → Int → (List Q1) → Option ((List Q1) × (List Q0) × Int × Int)) (self_5 : (List Q0) → Int → (List Q1) → Option ((List Q1) × (List Q0) × Int × Int)) (q : List Q0) (u : Int) (D : List Q1) : Option ((List Q1) × (List Q0) × Int × Int) :=
 (self_3 q u D ([38] : Bs) 6).bind fun p =>
 some (p.1, p.2.1, p.2.2.1, p.2.2.2)
noncomputable def Q28.l0b (a1 : Bs) (a2 : Int) (self_4 : (List Q0) → Int → (List Q1) → Option ((List Q1) × (List Q0) × Int × Int)) (q : List Q1) (u : List Q0) (D I : Int) : Option (((List Q1) × (List Q0) × Int × Int) ⊕ (((List Q1) × (List Q0) × Int × Int) ⊕ ((List Q1) × (List Q0) × Int × Int))) :=
 (Q32.f u D q a1).bind fun L =>
 if L = true then
 (Q35.f u D q).bind fun G =>
 (self_4 G.1 G.2.1 q).bind fun p =>
 (Q26.f p.2.1 p.2.2.1 p.1 a2 I p.2.2.2 ([] : Bs) G.2.2.2.1).bind fun J =>
 nx (J.1, p.2.1, p.2.2.1, J.2)
 else
 dn (.inl (q, u, D, I))
noncomputable def Q28.l0 (a1 : Bs) (a2 : Int) (self_4 : (List Q0) → Int → (List Q1) → Option ((List Q1) × (List Q0) × Int × Int)) (p : List Q1) (q : List Q0) (u D : Int) : Option (((List Q1) × (List Q0) × Int × Int) ⊕ ((List Q1) × (List Q0) × Int × Int)) := iter (fun t_ : (List Q1) × (List Q0) × Int × Int => Q28.l0b a1 a2 self_4 t_.1 t_.2.1 t_.2.2.1 t_.2.2.2) (p, q, u, D)
noncomputable def Q28.g (self_0 : (List Q0) → Int → (List Q1) → Option ((List Q1) × (List Q0) × Int × Int)) (self_1 : (List Q0) → Int → (List Q1) → Bs → Int → Option ((List Q1) × (List Q0) × Int × Int)) (self_2 : (List Q0) → Int → (List Q1) → Option ((List Q1) × (List Q0) × Int × Int)) (self_3 : (List Q0) → Int → (List Q1) → Bs → Int → Option ((List Q1) × (List Q0) × Int × Int)) (self_4 : (List Q0) → Int → (List Q1) → Option ((List Q1) × (List Q0) × Int × Int)) (self_5 : (List Q0) → Int → (List Q1) → Option ((List Q1) × (List Q0) × Int × Int)) (q : List Q0) (u : Int) (D : List Q1) (a1 : Bs) (a2 : Int) : Option ((List Q1) × (List Q0) × Int × Int) :=
 (self_4 q u D).bind fun p =>
 jn (Q28.l0 a1 a2 self_4 p.1 p.2.1 p.2.2.1 p.2.2.2) (fun (s_ : (List Q1) × (List Q0) × Int × Int) =>
 some (s_.1, s_.2.1, s_.2.2.1, s_.2.2.2))
noncomputable def Q30.g (self_0 : (List Q0) → Int → (List Q1) → Option ((List Q1) × (List Q0) × Int × Int)) (self_1 : (List Q0) → Int → (List Q1) → Bs → Int → Option ((List Q1) × (List Q0) × Int × Int)) (self_2 : (List Q0) → Int → (List Q1) → Option ((List Q1) × (List Q0) × Int × Int)) (self_3 : (List Q0) → Int → (List Q1) → Bs → Int → Option ((List Q1) × (List Q0) × Int × Int)) (self_4 : (List Q0) → Int → (List Q1) → Option ((List Q1) × (List Q0) × Int × Int)) (self_5 : (List Q0) → Int → (List Q1) → Option ((List Q1) × (List Q0) × Int × Int)) (q : List Q0) (u : Int) (p : List Q1) : Option ((List Q1) × (List Q0) × Int × Int) :=
 (Q32.f q u p ([126] : Bs)).bind fun a4 =>
 if a4 = true then
 (Q35.f q u p).bind fun V =>
 (self_4 V.1 V.2.1 p).bind fun D =>
 (Q26.f D.2.1 D.2.2.1 D.1 5 D.2.2.2 0 ([] : Bs) V.2.2.2.1).bind fun X =>
 some (X.1, D.2.1, D.2.2.1, X.2)
 else
 (Q32.f q u p ([60] : Bs)).bind fun a5 =>
 if a5 = true then
 (Q35.f q u p).bind fun M =>
 (Q109.f M.1 M.2.1 p ([62] : Bs)).bind fun Z =>
 (self_4 Z.1 M.2.1 p).bind fun G =>
 (Q26.f G.2.1 G.2.2.1 G.1 8 G.2.2.2 0 Z.2 M.2.2.2.1).bind fun a0 =>
 some (a0.1, G.2.1, G.2.2.1, a0.2)
 else
 (Q32.f q u p ([91] : Bs)).bind fun a6 =>
 if a6 = true then
 (Q35.f q u p).bind fun O =>
 (Q109.f O.1 O.2.1 p ([93] : Bs)).bind fun a1 =>
 (self_4 a1.1 O.2.1 p).bind fun I =>
 (Q26.f I.2.1 I.2.2.1 I.1 9 I.2.2.2 0 a1.2 O.2.2.2.1).bind fun a2 =>
 some (a2.1, I.2.1, I.2.2.1, a2.2)
 else
 (Q32.f q u p ([40] : Bs)).bind fun a7 =>
 if a7 = true then
 (Q60.f q u p).bind fun a8 =>
 (self_0 a8.1 u p).bind fun J =>
 (Q86.f J.2.1 J.2.2.1 J.1 ([41] : Bs)).bind fun a9 =>
 some (J.1, a9, J.2.2.1, J.2.2.2)
 else
 if (0 : Int) ≤ 0 ∧ 0 < (q.length : Int) then
 if (gt q 0).Kind = 3 then
 (Q35.f q u p).bind fun L =>
 (Q26.f L.1 L.2.1 p 4 0 0 L.2.2.2.2.1 L.2.2.2.1).bind fun a3 =>
 some (a3.1, L.1, L.2.1, a3.2)
 else
 if (gt q 0).Kind = 2 then
 (self_5 q u p).bind fun U =>
 some (U.1, U.2.1, U.2.2.1, U.2.2.2)
 else
 none
 else none
noncomputable def Q36.g (self_0 : (List Q0) → Int → (List Q1) → Option ((List Q1) × (List Q0) × Int × Int)) (self_1 : (List Q0) → Int → (List Q1) → Bs → Int → Option ((List Q1) × (List Q0) × Int × Int)) (self_2 : (List Q0) → Int → (List Q1) → Option ((List Q1) × (List Q0) × Int × Int)) (self_3 : (List Q0) → Int → (List Q1) → Bs → Int → Option ((List Q1) × (List Q0) × Int × Int)) (self_4 : (List Q0) → Int → (List Q1) → Option ((List Q1) × (List Q0) × Int × Int)) (self_5 : (List Q0) → Int → (List Q1) → Option ((List Q1) × (List Q0) × Int × Int)) (M : List Q0) (O : Int) (q : List Q1) : Option ((List Q1) × (List Q0) × Int × Int) :=
 (Q35.f M O q).bind fun p =>
 jn (
 if bseq p.2.2.2.2.1 ([116, 116] : Bs) = true then
 (Q26.f p.1 p.2.1 q 1 0 0 ([] : Bs) p.2.2.2.1).bind fun D =>
 up (some (D.1, p.1, p.2.1, D.2))
 else
 if bseq p.2.2.2.2.1 ([102, 102] : Bs) = true then
 (Q26.f p.1 p.2.1 q 2 0 0 ([] : Bs) p.2.2.2.1).bind fun G =>
 up (some (G.1, p.1, p.2.1, G.2))
 else
 if bseq p.2.2.2.2.1 ([109, 117] : Bs) = true then
 some (.inl 10)
 else
 if bseq p.2.2.2.2.1 ([110, 117] : Bs) = true then
 some (.inl 11)
 else
 (Q26.f p.1 p.2.1 q 3 0 0 p.2.2.2.2.1 p.2.2.2.1).bind fun I =>
 up (some (I.1, p.1, p.2.1, I.2))) (fun (U : Int) =>
 if (0 : Int) ≤ 0 ∧ 0 < (p.1.length : Int) then
 if (gt p.1 0).Kind = 3 then
 (Q60.f p.1 p.2.1 q).bind fun J =>
 (Q86.f J.1 p.2.1 q ([46] : Bs)).bind fun V =>
 (self_0 V p.2.1 q).bind fun u =>
 (Q26.f u.2.1 u.2.2.1 u.1 U u.2.2.2 0 J.2.2.2.1 p.2.2.2.1).bind fun L =>
 some (L.1, u.2.1, u.2.2.1, L.2)
 else
 none
 else none)
noncomputable def Q10.tab : Nat → ((List Q0) → Int → (List Q1) → Option ((List Q1) × (List Q0) × Int × Int)) × ((List Q0) → Int → (List Q1) → Bs → Int → Option ((List Q1) × (List Q0) × Int × Int)) × ((List Q0) → Int → (List Q1) → Option ((List Q1) × (List Q0) × Int × Int)) × ((List Q0) → Int → (List Q1) → Bs → Int → Option ((List Q1) × (List Q0) × Int × Int)) × ((List Q0) → Int → (List Q1) → Option ((List Q1) × (List Q0) × Int × Int)) × ((List Q0) → Int → (List Q1) → Option ((List Q1) × (List Q0) × Int × Int))
 | 0 => (fun _ _ _ => none, fun _ _ _ _ _ => none, fun _ _ _ => none, fun _ _ _ _ _ => none, fun _ _ _ => none, fun _ _ _ => none)
 | k_ + 1 => (Q10.g ((Q10.tab k_).1) ((Q10.tab k_).2.1) ((Q10.tab k_).2.2.1) ((Q10.tab k_).2.2.2.1) ((Q10.tab k_).2.2.2.2.1) ((Q10.tab k_).2.2.2.2.2), Q27.g ((Q10.tab k_).1) ((Q10.tab k_).2.1) ((Q10.tab k_).2.2.1) ((Q10.tab k_).2.2.2.1) ((Q10.tab k_).2.2.2.2.1) ((Q10.tab k_).2.2.2.2.2), Q34.g ((Q10.tab k_).1) ((Q10.tab k_).2.1) ((Q10.tab k_).2.2.1) ((Q10.tab k_).2.2.2.1) ((Q10.tab k_).2.2.2.2.1) ((Q10.tab k_).2.2.2.2.2), Q28.g ((Q10.tab k_).1) ((Q10.tab k_).2.1) ((Q10.tab k_).2.2.1) ((Q10.tab k_).2.2.2.1) ((Q10.tab k_).2.2.2.2.1) ((Q10.tab k_).2.2.2.2.2), Q30.g ((Q10.tab k_).1) ((Q10.tab k_).2.1) ((Q10.tab k_).2.2.1) ((Q10.tab k_).2.2.2.1) ((Q10.tab k_).2.2.2.2.1) ((Q10.tab k_).2.2.2.2.2), Q36.g ((Q10.tab k_).1) ((Q10.tab k_).2.1) ((Q10.tab k_).2.2.1) ((Q10.tab k_).2.2.2.1) ((Q10.tab k_).2.2.2.2.1) ((Q10.tab k_).2.2.2.2.2))
noncomputable def Q10.n (k_ : Nat) : (List Q0) → Int → (List Q1) → Option ((List Q1) × (List Q0) × Int × Int) := (Q10.tab k_).1
noncomputable def Q10.f (p : List Q0) (q : Int) (u : List Q1) : Option ((List Q1) × (List Q0) × Int × Int) := recF fun k_ => Q10.n k_ p q u
noncomputable def Q27.n (k_ : Nat) : (List Q0) → Int → (List Q1) → Bs → Int → Option ((List Q1) × (List Q0) × Int × Int) := (Q10.tab k_).2.1
noncomputable def Q34.n (k_ : Nat) : (List Q0) → Int → (List Q1) → Option ((List Q1) × (List Q0) × Int × Int) := (Q10.tab k_).2.2.1
noncomputable def Q28.n (k_ : Nat) : (List Q0) → Int → (List Q1) → Bs → Int → Option ((List Q1) × (List Q0) × Int × Int) := (Q10.tab k_).2.2.2.1
noncomputable def Q30.n (k_ : Nat) : (List Q0) → Int → (List Q1) → Option ((List Q1) × (List Q0) × Int × Int) := (Q10.tab k_).2.2.2.2.1
noncomputable def Q36.n (k_ : Nat) : (List Q0) → Int → (List Q1) → Option ((List Q1) × (List Q0) × Int × Int) := (Q10.tab k_).2.2.2.2.2
theorem Q10.step (self_0 : (List Q0) → Int → (List Q1) → Option ((List Q1) × (List Q0) × Int × Int)) (self_1 : (List Q0) → Int → (List Q1) → Bs → Int → Option ((List Q1) × (List Q0) × Int × Int)) (self_2 : (List Q0) → Int → (List Q1) → Option ((List Q1) × (List Q0) × Int × Int)) (self_3 : (List Q0) → Int → (List Q1) → Bs → Int → Option ((List Q1) × (List Q0) × Int × Int)) (self_4 : (List Q0) → Int → (List Q1) → Option ((List Q1) × (List Q0) × Int × Int)) (self_5 : (List Q0) → Int → (List Q1) → Option ((List Q1) × (List Q0) × Int × Int)) (ih_0 : Q10.SP self_0) (ih_1 : Q27.SP self_1) (ih_2 : Q34.SP self_2) (ih_3 : Q28.SP self_3) (ih_4 : Q30.SP self_4) (ih_5 : Q36.SP self_5) :
 Q10.SP (Q10.g self_0 self_1 self_2 self_3 self_4 self_5) := by
 intro R Fr b0 A0_0 n0_0 c0_0 A0_2 n0_2 c0_2 p D q hr0_0 hn0_0 hc0_0 hn0_2 r j; subst hn0_0; subst hn0_2; refine Spec.of Tryz.func66 rfl rfl ?_; unfold Q10.g at j; have j := brun j; refine sR 1 rfl (nT (sR 3 rfl ?_)); obtain ⟨u, G, j⟩ := bbind j; refine At.call rfl Q27.callee rfl rfl rfl (ih_1 _ _ b0 A0_0 p.length c0_0 A0_2 q.length c0_2 p D q ([124] : Bs) 7 hr0_0 rfl hc0_0 rfl G) ?_; rintro _ _ ⟨V, I, J, L, X, M, rfl, rfl, rfl, O, rfl, U⟩; refine At.run 1 rfl (nT (At.ret ?_)); cases bret j; exact At.res (.inl rfl) rfl rfl ⟨u.1.length, I, J, L, u.2.1.length, M, rfl, rfl, rfl, O, rfl, U⟩
theorem Q27.step (self_0 : (List Q0) → Int → (List Q1) → Option ((List Q1) × (List Q0) × Int × Int)) (self_1 : (List Q0) → Int → (List Q1) → Bs → Int → Option ((List Q1) × (List Q0) × Int × Int)) (self_2 : (List Q0) → Int → (List Q1) → Option ((List Q1) × (List Q0) × Int × Int)) (self_3 : (List Q0) → Int → (List Q1) → Bs → Int → Option ((List Q1) × (List Q0) × Int × Int)) (self_4 : (List Q0) → Int → (List Q1) → Option ((List Q1) × (List Q0) × Int × Int)) (self_5 : (List Q0) → Int → (List Q1) → Option ((List Q1) × (List Q0) × Int × Int)) (ih_0 : Q10.SP self_0) (ih_1 : Q27.SP self_1) (ih_2 : Q34.SP self_2) (ih_3 : Q28.SP self_3) (ih_4 : Q30.SP self_4) (ih_5 : Q36.SP self_5) :
 Q27.SP (Q27.g self_0 self_1 self_2 self_3 self_4 self_5) := by
 intro R Fr b0 A0_0 n0_0 c0_0 A0_2 n0_2 c0_2 Z b4 a0 a1 a2 hr0_0 hn0_0 hc0_0 hn0_2 r j; subst hn0_0; subst hn0_2; refine Spec.of Tryz.func124 rfl rfl ?_; unfold Q27.g at j; have j := brun j; refine sR 1 rfl (nT (sR 1 rfl ?_)); obtain ⟨u, b5, j⟩ := bbind j; refine At.callF rfl Q34.callee rfl rfl rfl (ih_2 _ _ b0 A0_0 Z.length c0_0 A0_2 a0.length c0_2 Z b4 a0 hr0_0 rfl hc0_0 rfl b5) ?_; rintro _ _ ⟨g5, b6, b7, b8, g6, b9, rfl, rfl, rfl, c4, rfl, c5⟩; refine At.run 1 rfl (nT (At.seq ?_)); refine At.block ?_; obtain ⟨c6, c7, g7, j⟩ := bjoin j; obtain ⟨a3, L, c8⟩ := bsome j; clear j; unfold Q27.l0 at L; obtain ⟨M, G⟩ := Q18.1 L; clear L; refine At.loopJ (X := (List Q1) × (List Q0) × Int × Int × Nat × (Option Addr) × Nat × (Option Addr) × Nat × Nat) (Y := (List Q1) × (List Q0) × Int × Int × Nat × (Option Addr) × Nat × (Option Addr) × Nat × Nat) (e0 := 0) (fun s_ => [(0, bp b0), (1, .string ⟨(a1).toArray⟩), (2, i6 a2), (3, .func (.func 125) #[bp b0] #[]), (9, i6 s_.2.2.2.1)]) (fun s_ => pc b0 [.slice s_.2.2.2.2.2.2.2.1 (d8 s_).1 (d8 s_).2, i6 s_.2.2.1, .slice s_.2.2.2.2.2.1 s_.2.2.2.2.1 s_.2.2.2.2.2.2.1] 128 :: row Q1.fl 33 s_.2.2.2.2.2.1 s_.2.2.2.2.1 s_.2.2.2.2.2.2.1 s_.1 :: Fr) (fun m_ => fun s_ => iterN (fun t_ : (List Q1) × (List Q0) × Int × Int => Q27.l0b a1 a2 self_2 t_.1 t_.2.1 t_.2.2.1 t_.2.2.2) m_ (s_.1, s_.2.1, s_.2.2.1, s_.2.2.2.1) = some a3 ∧ s_.1.length = s_.2.2.2.2.1 ∧ RdS Q0.fl.rep R.heap s_.2.2.2.2.2.2.2.1 s_.2.1 ∧ s_.2.1.length = (d8 s_).1 ∧ (d8 s_).1 ≤ (d8 s_).2) M (u.1, u.2.1, u.2.2.1, u.2.2.2, u.1.length, b6, b7, b8, u.2.1.length, b9) ⟨G, rfl, c4, rfl, c5⟩ (fun s_ => [(9, i6 s_.2.2.2.1)]) (fun s_ => pc b0 [.slice s_.2.2.2.2.2.2.2.1 (d8 s_).1 (d8 s_).2, i6 s_.2.2.1, .slice s_.2.2.2.2.2.1 s_.2.2.2.2.1 s_.2.2.2.2.2.2.1] 128 :: row Q1.fl 33 s_.2.2.2.2.2.1 s_.2.2.2.2.1 s_.2.2.2.2.2.2.1 s_.1 :: Fr) (fun s_ => c6 (.inl (s_.1, s_.2.1, s_.2.2.1, s_.2.2.2.1)) = some r ∧ s_.1.length = s_.2.2.2.2.1 ∧ RdS Q0.fl.rep R.heap s_.2.2.2.2.2.2.2.1 s_.2.1 ∧ s_.2.1.length = (d8 s_).1 ∧ (d8 s_).1 ≤ (d8 s_).2) (fun a w e hs => ⟨e.sub ⟨rfl, rfl, rfl, rfl, rfl, trivial⟩, (by exact hs)⟩) ?_ (fun c9 => ?_)
 ·rintro ⟨a4, a5, g8, g9, d0, d1, d2, d3, d4, d5⟩ ⟨j, d6, d7, d9, e1⟩; obtain rfl : a4.length = d0 := d6; obtain rfl : a5.length = d4 := d9; have j := (c7 _).symm.trans j
  ·refine At.ibx ?_; refine At.thn (sR 2 rfl (nT (At.ret ?_))); cases bret j; exact At.res (.inl rfl) rfl rfl ⟨a4.length, d1, d2, d3, a5.length, d5, rfl, rfl, rfl, d7, rfl, e1⟩
 ·clear G M; rintro M ⟨D, J, a6, I, e2, a7, a8, e3, e4, e5⟩ ⟨G, e6, O, e7, U⟩; obtain rfl : D.length = e2 := e6; obtain rfl : J.length = e4 := e7; obtain ⟨e8, f_, e9, hf_, j⟩ := bit G; clear G; have j : (Q27.l0b a1 a2 self_2 D J a6 I).bind _ = some a3 := j; unfold Q27.l0b at j
  ·refine At.seq (sR 2 rfl ?_); obtain ⟨h0, f0, j⟩ := bbind j; refine At.call rfl Q32.callee rfl rfl rfl (Q32.spec O rfl U rfl f0) ?_; rintro _ _ ⟨rfl, rfl⟩; refine nT ?_; rcases bite j with ⟨V, j⟩ | ⟨V, j⟩
   ··refine At.condT rfl V ?_
     refine At.skip (At.thn ?_); refine At.block ?_; refine sR 1 rfl ?_; obtain ⟨p, f1, j⟩ := bbind j; refine At.call rfl Q35.callee rfl rfl rfl (Q35.spec O rfl U rfl f1) ?_; rintro _ _ ⟨f3, h1, f4, rfl, rfl, f5, rfl, f6⟩; refine At.alloc rfl rfl rfl (fun f7 => ?_); refine At.store rfl rfl rfl rfl .z rfl rfl rfl (.c (.c (.c (.c .n)))) ?_; refine nT ?_; refine At.held [pc f7 [i6 p.2.2.1, i6 p.2.2.2.1, .string ⟨(p.2.2.2.2.1).toArray⟩, i6 p.2.2.2.2.2] 115] 10 rfl ?_; refine At.H.pw 0 rfl rfl rfl rfl rfl (.c .z .n) ?_; refine At.H.pw 1 rfl rfl rfl rfl rfl (.c .z .n) ?_; refine At.H.pw 2 rfl rfl rfl rfl rfl (.c .z .n) ?_; refine At.H.pw 3 rfl rfl rfl rfl rfl (.c .z .n) ?_; refine At.H.pw 5 rfl rfl rfl rfl rfl (.c .z .n) ?_; refine At.H.tw 6 rfl (Y.load rfl rfl .z rfl rfl rfl) rfl rfl rfl (.c .z .n) ?_; refine At.H.al [4] (Q6 ?_ Q8)
     ··refine At.HO.op rfl ?_
       refine At.f2 (At.f2 ?_); obtain ⟨q, f8, j⟩ := bbind j; refine At.callF rfl Q34.callee rfl rfl rfl (ih_2 _ _ b0 f3 p.1.length f4 a7 D.length a8 p.1 p.2.1 D f5 rfl f6 rfl f8) ?_; rintro _ _ ⟨h2, h3, h4, f9, h5, g0, rfl, rfl, rfl, a9, rfl, b2⟩; refine At.HO.back (.c (.s (.s .z)) .n) ?_; refine At.H.tw 7 rfl (Y.build (is := [0, 1, 2, 4]) (xo := [.tmp 19, .tmp 20, .tmp 22, .tmp 24]) (vs := [i6 a2, i6 I, i6 q.2.2.2, i6 p.2.2.2.1]) (cs := [i6 a2, i6 I, i6 q.2.2.2, .string ⟨(([] : Bs)).toArray⟩, i6 p.2.2.2.1]) rfl rfl rfl rfl rfl rfl) rfl rfl rfl (.c (.s (.s .z)) .n) ?_; refine At.H.al [8] (Q6 ?_ Q8)
       ··refine At.HO.op rfl ?_
         obtain ⟨b3, g1, j⟩ := bbind j; refine At.call rfl Q26.callee rfl rfl rfl (Q26.spec a9 rfl b2 rfl g1) ?_; rintro _ _ ⟨g2, g3, rfl, rfl⟩; refine At.HO.back (.c (.s (.s .z)) .n) ?_; refine At.H.pw 9 rfl rfl rfl rfl rfl (.c (.s (.s .z)) .n) ?_; refine At.H.done (by kernel_rfl) ?_; refine At.ibn ?_; refine At.rowLen (.s .z) fun g4 => ?_; refine At.drop (.s (.s .z)) ?_; have j := bnx hf_ j; exact fun a w e hs => ⟨e8, (b3.1, q.2.1, q.2.2.1, b3.2, (q.1 ++ ([(⟨a2, I, q.2.2.2, ([] : Bs), p.2.2.2.1⟩ : Q1)] : List Q1)).length, g2, g3, f9, q.2.1.length, g0), e9, ⟨j, g4, a9, rfl, b2⟩, e.sub ⟨rfl, rfl, rfl, rfl, rfl, trivial⟩, hs⟩
   ··refine At.condF rfl (bn V) ?_
     refine At.exit ?_; refine At.the ?_; refine At.the ?_; exact fun a w e hs => c9 (D, J, a6, I, D.length, a7, a8, e3, J.length, e5) ⟨(bdn j c8), rfl, O, rfl, U⟩ a w (e.sub ⟨rfl, trivial⟩) hs
theorem Q34.step (self_0 : (List Q0) → Int → (List Q1) → Option ((List Q1) × (List Q0) × Int × Int)) (self_1 : (List Q0) → Int → (List Q1) → Bs → Int → Option ((List Q1) × (List Q0) × Int × Int)) (self_2 : (List Q0) → Int → (List Q1) → Option ((List Q1) × (List Q0) × Int × Int)) (self_3 : (List Q0) → Int → (List Q1) → Bs → Int → Option ((List Q1) × (List Q0) × Int × Int)) (self_4 : (List Q0) → Int → (List Q1) → Option ((List Q1) × (List Q0) × Int × Int)) (self_5 : (List Q0) → Int → (List Q1) → Option ((List Q1) × (List Q0) × Int × Int)) (ih_0 : Q10.SP self_0) (ih_1 : Q27.SP self_1) (ih_2 : Q34.SP self_2) (ih_3 : Q28.SP self_3) (ih_4 : Q30.SP self_4) (ih_5 : Q36.SP self_5) :
 Q34.SP (Q34.g self_0 self_1 self_2 self_3 self_4 self_5) := by
 intro R Fr b0 A0_0 n0_0 c0_0 A0_2 n0_2 c0_2 p D q hr0_0 hn0_0 hc0_0 hn0_2 r j; subst hn0_0; subst hn0_2; refine Spec.of Tryz.func125 rfl rfl ?_; unfold Q34.g at j; have j := brun j; refine sR 1 rfl (nT (sR 3 rfl ?_)); obtain ⟨u, G, j⟩ := bbind j; refine At.call rfl Q28.callee rfl rfl rfl (ih_3 _ _ b0 A0_0 p.length c0_0 A0_2 q.length c0_2 p D q ([38] : Bs) 6 hr0_0 rfl hc0_0 rfl G) ?_; rintro _ _ ⟨V, I, J, L, X, M, rfl, rfl, rfl, O, rfl, U⟩; refine At.run 1 rfl (nT (At.ret ?_)); cases bret j; exact At.res (.inl rfl) rfl rfl ⟨u.1.length, I, J, L, u.2.1.length, M, rfl, rfl, rfl, O, rfl, U⟩
theorem Q28.step (self_0 : (List Q0) → Int → (List Q1) → Option ((List Q1) × (List Q0) × Int × Int)) (self_1 : (List Q0) → Int → (List Q1) → Bs → Int → Option ((List Q1) × (List Q0) × Int × Int)) (self_2 : (List Q0) → Int → (List Q1) → Option ((List Q1) × (List Q0) × Int × Int)) (self_3 : (List Q0) → Int → (List Q1) → Bs → Int → Option ((List Q1) × (List Q0) × Int × Int)) (self_4 : (List Q0) → Int → (List Q1) → Option ((List Q1) × (List Q0) × Int × Int)) (self_5 : (List Q0) → Int → (List Q1) → Option ((List Q1) × (List Q0) × Int × Int)) (ih_0 : Q10.SP self_0) (ih_1 : Q27.SP self_1) (ih_2 : Q34.SP self_2) (ih_3 : Q28.SP self_3) (ih_4 : Q30.SP self_4) (ih_5 : Q36.SP self_5) :
 Q28.SP (Q28.g self_0 self_1 self_2 self_3 self_4 self_5) := by
 intro R Fr b0 A0_0 n0_0 c0_0 A0_2 n0_2 c0_2 Z b4 a0 a1 a2 hr0_0 hn0_0 hc0_0 hn0_2 r j; subst hn0_0; subst hn0_2; refine Spec.of Tryz.func124 rfl rfl ?_; unfold Q28.g at j; have j := brun j; refine sR 1 rfl (nT (sR 1 rfl ?_)); obtain ⟨u, b5, j⟩ := bbind j; refine At.callF rfl Q30.callee rfl rfl rfl (ih_4 _ _ b0 A0_0 Z.length c0_0 A0_2 a0.length c0_2 Z b4 a0 hr0_0 rfl hc0_0 rfl b5) ?_; rintro _ _ ⟨g5, b6, b7, b8, g6, b9, rfl, rfl, rfl, c4, rfl, c5⟩; refine At.run 1 rfl (nT (At.seq ?_)); refine At.block ?_; obtain ⟨c6, c7, g7, j⟩ := bjoin j; obtain ⟨a3, L, c8⟩ := bsome j; clear j; unfold Q28.l0 at L; obtain ⟨M, G⟩ := Q18.1 L; clear L; refine At.loopJ (X := (List Q1) × (List Q0) × Int × Int × Nat × (Option Addr) × Nat × (Option Addr) × Nat × Nat) (Y := (List Q1) × (List Q0) × Int × Int × Nat × (Option Addr) × Nat × (Option Addr) × Nat × Nat) (e0 := 0) (fun s_ => [(0, bp b0), (1, .string ⟨(a1).toArray⟩), (2, i6 a2), (3, .func (.func 158) #[bp b0] #[]), (9, i6 s_.2.2.2.1)]) (fun s_ => pc b0 [.slice s_.2.2.2.2.2.2.2.1 (d8 s_).1 (d8 s_).2, i6 s_.2.2.1, .slice s_.2.2.2.2.2.1 s_.2.2.2.2.1 s_.2.2.2.2.2.2.1] 128 :: row Q1.fl 33 s_.2.2.2.2.2.1 s_.2.2.2.2.1 s_.2.2.2.2.2.2.1 s_.1 :: Fr) (fun m_ => fun s_ => iterN (fun t_ : (List Q1) × (List Q0) × Int × Int => Q28.l0b a1 a2 self_4 t_.1 t_.2.1 t_.2.2.1 t_.2.2.2) m_ (s_.1, s_.2.1, s_.2.2.1, s_.2.2.2.1) = some a3 ∧ s_.1.length = s_.2.2.2.2.1 ∧ RdS Q0.fl.rep R.heap s_.2.2.2.2.2.2.2.1 s_.2.1 ∧ s_.2.1.length = (d8 s_).1 ∧ (d8 s_).1 ≤ (d8 s_).2) M (u.1, u.2.1, u.2.2.1, u.2.2.2, u.1.length, b6, b7, b8, u.2.1.length, b9) ⟨G, rfl, c4, rfl, c5⟩ (fun s_ => [(9, i6 s_.2.2.2.1)]) (fun s_ => pc b0 [.slice s_.2.2.2.2.2.2.2.1 (d8 s_).1 (d8 s_).2, i6 s_.2.2.1, .slice s_.2.2.2.2.2.1 s_.2.2.2.2.1 s_.2.2.2.2.2.2.1] 128 :: row Q1.fl 33 s_.2.2.2.2.2.1 s_.2.2.2.2.1 s_.2.2.2.2.2.2.1 s_.1 :: Fr) (fun s_ => c6 (.inl (s_.1, s_.2.1, s_.2.2.1, s_.2.2.2.1)) = some r ∧ s_.1.length = s_.2.2.2.2.1 ∧ RdS Q0.fl.rep R.heap s_.2.2.2.2.2.2.2.1 s_.2.1 ∧ s_.2.1.length = (d8 s_).1 ∧ (d8 s_).1 ≤ (d8 s_).2) (fun a w e hs => ⟨e.sub ⟨rfl, rfl, rfl, rfl, rfl, trivial⟩, (by exact hs)⟩) ?_ (fun c9 => ?_)
 ·rintro ⟨a4, a5, g8, g9, d0, d1, d2, d3, d4, d5⟩ ⟨j, d6, d7, d9, e1⟩; obtain rfl : a4.length = d0 := d6; obtain rfl : a5.length = d4 := d9; have j := (c7 _).symm.trans j
  ·refine At.ibx ?_; refine At.thn (sR 2 rfl (nT (At.ret ?_))); cases bret j; exact At.res (.inl rfl) rfl rfl ⟨a4.length, d1, d2, d3, a5.length, d5, rfl, rfl, rfl, d7, rfl, e1⟩
 ·clear G M; rintro M ⟨D, J, a6, I, e2, a7, a8, e3, e4, e5⟩ ⟨G, e6, O, e7, U⟩; obtain rfl : D.length = e2 := e6; obtain rfl : J.length = e4 := e7; obtain ⟨e8, f_, e9, hf_, j⟩ := bit G; clear G; have j : (Q28.l0b a1 a2 self_4 D J a6 I).bind _ = some a3 := j; unfold Q28.l0b at j
  ·refine At.seq (sR 2 rfl ?_); obtain ⟨h0, f0, j⟩ := bbind j; refine At.call rfl Q32.callee rfl rfl rfl (Q32.spec O rfl U rfl f0) ?_; rintro _ _ ⟨rfl, rfl⟩; refine nT ?_; rcases bite j with ⟨V, j⟩ | ⟨V, j⟩
   ··refine At.condT rfl V ?_
     refine At.skip (At.thn ?_); refine At.block ?_; refine sR 1 rfl ?_; obtain ⟨p, f1, j⟩ := bbind j; refine At.call rfl Q35.callee rfl rfl rfl (Q35.spec O rfl U rfl f1) ?_; rintro _ _ ⟨f3, h1, f4, rfl, rfl, f5, rfl, f6⟩; refine At.alloc rfl rfl rfl (fun f7 => ?_); refine At.store rfl rfl rfl rfl .z rfl rfl rfl (.c (.c (.c (.c .n)))) ?_; refine nT ?_; refine At.held [pc f7 [i6 p.2.2.1, i6 p.2.2.2.1, .string ⟨(p.2.2.2.2.1).toArray⟩, i6 p.2.2.2.2.2] 115] 10 rfl ?_; refine At.H.pw 0 rfl rfl rfl rfl rfl (.c .z .n) ?_; refine At.H.pw 1 rfl rfl rfl rfl rfl (.c .z .n) ?_; refine At.H.pw 2 rfl rfl rfl rfl rfl (.c .z .n) ?_; refine At.H.pw 3 rfl rfl rfl rfl rfl (.c .z .n) ?_; refine At.H.pw 5 rfl rfl rfl rfl rfl (.c .z .n) ?_; refine At.H.tw 6 rfl (Y.load rfl rfl .z rfl rfl rfl) rfl rfl rfl (.c .z .n) ?_; refine At.H.al [4] (Q6 ?_ Q8)
     ··refine At.HO.op rfl ?_
       refine At.f2 (At.f2 ?_); obtain ⟨q, f8, j⟩ := bbind j; refine At.callF rfl Q30.callee rfl rfl rfl (ih_4 _ _ b0 f3 p.1.length f4 a7 D.length a8 p.1 p.2.1 D f5 rfl f6 rfl f8) ?_; rintro _ _ ⟨h2, h3, h4, f9, h5, g0, rfl, rfl, rfl, a9, rfl, b2⟩; refine At.HO.back (.c (.s (.s .z)) .n) ?_; refine At.H.tw 7 rfl (Y.build (is := [0, 1, 2, 4]) (xo := [.tmp 19, .tmp 20, .tmp 22, .tmp 24]) (vs := [i6 a2, i6 I, i6 q.2.2.2, i6 p.2.2.2.1]) (cs := [i6 a2, i6 I, i6 q.2.2.2, .string ⟨(([] : Bs)).toArray⟩, i6 p.2.2.2.1]) rfl rfl rfl rfl rfl rfl) rfl rfl rfl (.c (.s (.s .z)) .n) ?_; refine At.H.al [8] (Q6 ?_ Q8)
       ··refine At.HO.op rfl ?_
         obtain ⟨b3, g1, j⟩ := bbind j; refine At.call rfl Q26.callee rfl rfl rfl (Q26.spec a9 rfl b2 rfl g1) ?_; rintro _ _ ⟨g2, g3, rfl, rfl⟩; refine At.HO.back (.c (.s (.s .z)) .n) ?_; refine At.H.pw 9 rfl rfl rfl rfl rfl (.c (.s (.s .z)) .n) ?_; refine At.H.done (by kernel_rfl) ?_; refine At.ibn ?_; refine At.rowLen (.s .z) fun g4 => ?_; refine At.drop (.s (.s .z)) ?_; have j := bnx hf_ j; exact fun a w e hs => ⟨e8, (b3.1, q.2.1, q.2.2.1, b3.2, (q.1 ++ ([(⟨a2, I, q.2.2.2, ([] : Bs), p.2.2.2.1⟩ : Q1)] : List Q1)).length, g2, g3, f9, q.2.1.length, g0), e9, ⟨j, g4, a9, rfl, b2⟩, e.sub ⟨rfl, rfl, rfl, rfl, rfl, trivial⟩, hs⟩
   ··refine At.condF rfl (bn V) ?_
     refine At.exit ?_; refine At.the ?_; refine At.the ?_; exact fun a w e hs => c9 (D, J, a6, I, D.length, a7, a8, e3, J.length, e5) ⟨(bdn j c8), rfl, O, rfl, U⟩ a w (e.sub ⟨rfl, trivial⟩) hs
theorem Q30.step (self_0 : (List Q0) → Int → (List Q1) → Option ((List Q1) × (List Q0) × Int × Int)) (self_1 : (List Q0) → Int → (List Q1) → Bs → Int → Option ((List Q1) × (List Q0) × Int × Int)) (self_2 : (List Q0) → Int → (List Q1) → Option ((List Q1) × (List Q0) × Int × Int)) (self_3 : (List Q0) → Int → (List Q1) → Bs → Int → Option ((List Q1) × (List Q0) × Int × Int)) (self_4 : (List Q0) → Int → (List Q1) → Option ((List Q1) × (List Q0) × Int × Int)) (self_5 : (List Q0) → Int → (List Q1) → Option ((List Q1) × (List Q0) × Int × Int)) (ih_0 : Q10.SP self_0) (ih_1 : Q27.SP self_1) (ih_2 : Q34.SP self_2) (ih_3 : Q28.SP self_3) (ih_4 : Q30.SP self_4) (ih_5 : Q36.SP self_5) :
 Q30.SP (Q30.g self_0 self_1 self_2 self_3 self_4 self_5) := by
 intro R Fr b0 A0_0 n0_0 c0_0 A0_2 n0_2 c0_2 a4 a5 u hr0_0 hn0_0 hc0_0 hn0_2 r j; subst hn0_0; subst hn0_2; refine Spec.of Tryz.func158 rfl rfl ?_; unfold Q30.g at j; have j := brun j; refine sR 1 rfl (nT (At.seq ?_)); refine At.block ?_; refine sR 1 rfl ?_; obtain ⟨m8, b8, j⟩ := bbind j; refine At.call rfl Q32.callee rfl rfl rfl (Q32.spec hr0_0 rfl hc0_0 rfl b8) ?_; rintro _ _ ⟨rfl, rfl⟩; refine At.run 1 rfl (nT ?_); rcases bite j with ⟨X, j⟩ | ⟨X, j⟩
 ··refine At.condT rfl X ?_
   refine sR 1 rfl ?_; obtain ⟨D, b9, j⟩ := bbind j; refine At.call rfl Q35.callee rfl rfl rfl (Q35.spec hr0_0 rfl hc0_0 rfl b9) ?_; rintro _ _ ⟨c4, m9, c5, rfl, rfl, c6, rfl, c7⟩; refine At.alloc rfl rfl rfl (fun c8 => ?_); refine At.store rfl rfl rfl rfl .z rfl rfl rfl (.c (.c (.c (.c .n)))) ?_; refine nT (At.seq ?_); refine At.held [pc c8 [i6 D.2.2.1, i6 D.2.2.2.1, .string ⟨(D.2.2.2.2.1).toArray⟩, i6 D.2.2.2.2.2] 115] 8 rfl ?_; refine At.H.pw 0 rfl rfl rfl rfl rfl (.c .z .n) ?_; refine At.H.pw 1 rfl rfl rfl rfl rfl (.c .z .n) ?_; refine At.H.pw 3 rfl rfl rfl rfl rfl (.c .z .n) ?_; refine At.H.tw 4 rfl (Y.load rfl rfl .z rfl rfl rfl) rfl rfl rfl (.c .z .n) ?_; refine At.H.al [2] (Q6 ?_ Q8)
   ··refine At.HO.op rfl ?_
     refine At.f2 (At.f2 ?_); obtain ⟨L, c9, j⟩ := bbind j; refine At.call rfl Q30.callee rfl rfl rfl (ih_4 _ _ b0 c4 D.1.length c5 A0_2 u.length c0_2 D.1 D.2.1 u c6 rfl c7 rfl c9) ?_; rintro _ _ ⟨n2, n3, n4, d0, n5, d1, rfl, rfl, rfl, a6, rfl, a7⟩; refine At.HO.back (.c (.s (.s .z)) .n) ?_; refine At.H.tw 5 rfl (Y.build (is := [0, 1, 4]) (xo := [.const (i6 5), .tmp 17, .tmp 19]) (vs := [i6 5, i6 L.2.2.2, i6 D.2.2.2.1]) (cs := [i6 5, i6 L.2.2.2, i6 0, .string ⟨(([] : Bs)).toArray⟩, i6 D.2.2.2.1]) rfl rfl rfl rfl rfl rfl) rfl rfl rfl (.c (.s (.s .z)) .n) ?_; refine At.H.al [6] (Q6 ?_ Q8)
     ··refine At.HO.op rfl ?_
       obtain ⟨n6, d2, j⟩ := bbind j; refine At.call rfl Q26.callee rfl rfl rfl (Q26.spec a6 rfl a7 rfl d2) ?_; rintro _ _ ⟨d3, d4, rfl, rfl⟩; refine At.HO.back (.c (.s (.s .z)) .n) ?_; refine At.H.pw 7 rfl rfl rfl rfl rfl (.c (.s (.s .z)) .n) ?_; refine At.H.done (by kernel_rfl) ?_; refine At.thn (At.ret ?_); refine At.ibr ?_; refine At.thr ?_; refine At.rowLen (.s .z) fun d5 => ?_; refine At.drop (.s (.s .z)) ?_; cases bret j; exact At.res (.inl rfl) rfl rfl ⟨(L.1 ++ ([(⟨5, L.2.2.2, 0, ([] : Bs), D.2.2.2.1⟩ : Q1)] : List Q1)).length, d3, d4, d0, L.2.1.length, d1, rfl, rfl, d5, a6, rfl, a7⟩
 ··refine At.condF rfl (bn X) ?_
   refine sR 1 rfl ?_; obtain ⟨n7, d6, j⟩ := bbind j; refine At.call rfl Q32.callee rfl rfl rfl (Q32.spec hr0_0 rfl hc0_0 rfl d6) ?_; rintro _ _ ⟨rfl, rfl⟩; refine At.run 1 rfl (nT ?_); rcases bite j with ⟨Z, j⟩ | ⟨Z, j⟩
   ··refine At.condT rfl Z ?_
     refine sR 1 rfl ?_; obtain ⟨G, d7, j⟩ := bbind j; refine At.call rfl Q35.callee rfl rfl rfl (Q35.spec hr0_0 rfl hc0_0 rfl d7) ?_; rintro _ _ ⟨n8, n9, o0, rfl, rfl, d8, rfl, d9⟩; refine At.alloc rfl rfl rfl (fun e0 => ?_); refine At.store rfl rfl rfl rfl .z rfl rfl rfl (.c (.c (.c (.c .n)))) ?_; refine nT (sR 1 rfl (At.f2 (At.f2 ?_))); obtain ⟨M, e1, j⟩ := bbind j; refine At.call rfl Q109.callee rfl rfl rfl (Q109.spec d8 rfl d9 rfl e1) ?_; rintro _ _ ⟨e2, o7, e3, rfl, rfl, e4, rfl, e5⟩; refine At.run 1 rfl (nT (At.seq ?_)); refine At.held [pc e0 [i6 G.2.2.1, i6 G.2.2.2.1, .string ⟨(G.2.2.2.2.1).toArray⟩, i6 G.2.2.2.2.2] 115] 9 rfl ?_; refine At.H.pw 0 rfl rfl rfl rfl rfl (.c (.s (.s .z)) .n) ?_; refine At.H.pw 1 rfl rfl rfl rfl rfl (.c (.s (.s .z)) .n) ?_; refine At.H.pw 3 rfl rfl rfl rfl rfl (.c (.s (.s .z)) .n) ?_; refine At.H.pw 4 rfl rfl rfl rfl rfl (.c (.s (.s .z)) .n) ?_; refine At.H.tw 5 rfl (Y.load rfl rfl .z rfl rfl rfl) rfl rfl rfl (.c (.s (.s .z)) .n) ?_; refine At.H.al [2] (Q6 ?_ Q8)
     ··refine At.HO.op rfl ?_
       obtain ⟨O, e6, j⟩ := bbind j; refine At.call rfl Q30.callee rfl rfl rfl (ih_4 _ _ b0 e2 M.1.length e3 A0_2 u.length c0_2 M.1 G.2.1 u e4 rfl e5 rfl e6) ?_; rintro _ _ ⟨o8, o9, p0, e7, p1, e8, rfl, rfl, rfl, a8, rfl, a9⟩; refine At.HO.back (.c (.s (.s .z)) .n) ?_; refine At.H.tw 6 rfl (Y.build (is := [0, 1, 3, 4]) (xo := [.const (i6 8), .tmp 31, .tmp 32, .tmp 34]) (vs := [i6 8, i6 O.2.2.2, .string ⟨(M.2).toArray⟩, i6 G.2.2.2.1]) (cs := [i6 8, i6 O.2.2.2, i6 0, .string ⟨(M.2).toArray⟩, i6 G.2.2.2.1]) rfl rfl rfl rfl rfl rfl) rfl rfl rfl (.c (.s (.s .z)) .n) ?_; refine At.H.al [7] (Q6 ?_ Q8)
       ··refine At.HO.op rfl ?_
         obtain ⟨p2, e9, j⟩ := bbind j; refine At.call rfl Q26.callee rfl rfl rfl (Q26.spec a8 rfl a9 rfl e9) ?_; rintro _ _ ⟨f0, f1, rfl, rfl⟩; refine At.HO.back (.c (.s (.s .z)) .n) ?_; refine At.H.pw 8 rfl rfl rfl rfl rfl (.c (.s (.s .z)) .n) ?_; refine At.H.done (by kernel_rfl) ?_; refine At.thn (At.ret ?_); refine At.ibr ?_; refine At.thr ?_; refine At.rowLen (.s .z) fun f3 => ?_; refine At.drop (.s (.s .z)) ?_; cases bret j; exact At.res (.inl rfl) rfl rfl ⟨(O.1 ++ ([(⟨8, O.2.2.2, 0, M.2, G.2.2.2.1⟩ : Q1)] : List Q1)).length, f0, f1, e7, O.2.1.length, e8, rfl, rfl, f3, a8, rfl, a9⟩
   ··refine At.condF rfl (bn Z) ?_
     refine sR 1 rfl ?_; obtain ⟨p3, f4, j⟩ := bbind j; refine At.call rfl Q32.callee rfl rfl rfl (Q32.spec hr0_0 rfl hc0_0 rfl f4) ?_; rintro _ _ ⟨rfl, rfl⟩; refine At.run 1 rfl (nT ?_); rcases bite j with ⟨a0, j⟩ | ⟨a0, j⟩
     ··refine At.condT rfl a0 ?_
       refine sR 1 rfl ?_; obtain ⟨I, f5, j⟩ := bbind j; refine At.call rfl Q35.callee rfl rfl rfl (Q35.spec hr0_0 rfl hc0_0 rfl f5) ?_; rintro _ _ ⟨p4, p5, p6, rfl, rfl, f6, rfl, f7⟩; refine At.alloc rfl rfl rfl (fun f8 => ?_); refine At.store rfl rfl rfl rfl .z rfl rfl rfl (.c (.c (.c (.c .n)))) ?_; refine nT (sR 1 rfl (At.f2 (At.f2 ?_))); obtain ⟨U, f9, j⟩ := bbind j; refine At.call rfl Q109.callee rfl rfl rfl (Q109.spec f6 rfl f7 rfl f9) ?_; rintro _ _ ⟨g0, p7, g1, rfl, rfl, g2, rfl, g3⟩; refine At.run 1 rfl (nT (At.seq ?_)); refine At.held [pc f8 [i6 I.2.2.1, i6 I.2.2.2.1, .string ⟨(I.2.2.2.2.1).toArray⟩, i6 I.2.2.2.2.2] 115] 9 rfl ?_; refine At.H.pw 0 rfl rfl rfl rfl rfl (.c (.s (.s .z)) .n) ?_; refine At.H.pw 1 rfl rfl rfl rfl rfl (.c (.s (.s .z)) .n) ?_; refine At.H.pw 3 rfl rfl rfl rfl rfl (.c (.s (.s .z)) .n) ?_; refine At.H.pw 4 rfl rfl rfl rfl rfl (.c (.s (.s .z)) .n) ?_; refine At.H.tw 5 rfl (Y.load rfl rfl .z rfl rfl rfl) rfl rfl rfl (.c (.s (.s .z)) .n) ?_; refine At.H.al [2] (Q6 ?_ Q8)
       ··refine At.HO.op rfl ?_
         obtain ⟨V, g4, j⟩ := bbind j; refine At.call rfl Q30.callee rfl rfl rfl (ih_4 _ _ b0 g0 U.1.length g1 A0_2 u.length c0_2 U.1 I.2.1 u g2 rfl g3 rfl g4) ?_; rintro _ _ ⟨p8, p9, q0, g5, q1, g6, rfl, rfl, rfl, b2, rfl, b3⟩; refine At.HO.back (.c (.s (.s .z)) .n) ?_; refine At.H.tw 6 rfl (Y.build (is := [0, 1, 3, 4]) (xo := [.const (i6 9), .tmp 46, .tmp 47, .tmp 49]) (vs := [i6 9, i6 V.2.2.2, .string ⟨(U.2).toArray⟩, i6 I.2.2.2.1]) (cs := [i6 9, i6 V.2.2.2, i6 0, .string ⟨(U.2).toArray⟩, i6 I.2.2.2.1]) rfl rfl rfl rfl rfl rfl) rfl rfl rfl (.c (.s (.s .z)) .n) ?_; refine At.H.al [7] (Q6 ?_ Q8)
         ··refine At.HO.op rfl ?_
           obtain ⟨q2, g7, j⟩ := bbind j; refine At.call rfl Q26.callee rfl rfl rfl (Q26.spec b2 rfl b3 rfl g7) ?_; rintro _ _ ⟨g8, g9, rfl, rfl⟩; refine At.HO.back (.c (.s (.s .z)) .n) ?_; refine At.H.pw 8 rfl rfl rfl rfl rfl (.c (.s (.s .z)) .n) ?_; refine At.H.done (by kernel_rfl) ?_; refine At.thn (At.ret ?_); refine At.ibr ?_; refine At.thr ?_; refine At.rowLen (.s .z) fun h0 => ?_; refine At.drop (.s (.s .z)) ?_; cases bret j; exact At.res (.inl rfl) rfl rfl ⟨(V.1 ++ ([(⟨9, V.2.2.2, 0, U.2, I.2.2.2.1⟩ : Q1)] : List Q1)).length, g8, g9, g5, V.2.1.length, g6, rfl, rfl, h0, b2, rfl, b3⟩
     ··refine At.condF rfl (bn a0) ?_
       refine sR 1 rfl ?_; obtain ⟨q3, h1, j⟩ := bbind j; refine At.call rfl Q32.callee rfl rfl rfl (Q32.spec hr0_0 rfl hc0_0 rfl h1) ?_; rintro _ _ ⟨rfl, rfl⟩; refine At.run 1 rfl (nT ?_); rcases bite j with ⟨a1, j⟩ | ⟨a1, j⟩
       ··refine At.condT rfl a1 ?_
         refine sR 1 rfl ?_; obtain ⟨b4, h2, j⟩ := bbind j; refine At.call rfl Q60.callee rfl rfl rfl (Q60.spec hr0_0 rfl hc0_0 rfl h2) ?_; rintro _ _ ⟨h3, q4, h4, rfl, rfl, h5, rfl, h6⟩; refine nT (sR 1 rfl ?_); obtain ⟨h7, h8, j⟩ := bbind j; refine At.call rfl Q10.callee rfl rfl rfl (ih_0 _ _ b0 h3 b4.1.length h4 A0_2 u.length c0_2 b4.1 a5 u h5 rfl h6 rfl h8) ?_; rintro _ _ ⟨q5, h9, k0, q6, q7, q8, rfl, rfl, rfl, k1, rfl, k2⟩; refine At.run 1 rfl (nT (sR 1 rfl ?_)); obtain ⟨k3, k4, j⟩ := bbind j; refine At.call rfl Q86.callee rfl rfl rfl (Q86.spec k1 rfl k2 rfl k4) ?_; rintro _ _ ⟨k5, q9, k6, rfl, rfl, k7, rfl, k8⟩; refine nT (sR 2 rfl (nT (At.ret ?_))); refine At.ibr ?_; refine At.thr ?_; cases bret j; exact At.res (.inl rfl) rfl rfl ⟨h7.1.length, h9, k0, k5, k3.length, k6, rfl, rfl, rfl, k7, rfl, k8⟩
       ··refine At.condF rfl (bn a1) ?_
         refine sR 3 rfl (At.y (Y.load rfl rfl .z rfl rfl rfl) rfl rfl rfl ?_); obtain ⟨p, j⟩ := bnone j; refine At.y (Y.ixRd hr0_0 rfl rfl rfl rfl rfl rfl rfl p.1 p.2) rfl rfl rfl ?_; refine At.y (Y.fa (RdS.some_ hr0_0 rfl p.1 p.2) rfl rfl rfl rfl rfl rfl) rfl rfl rfl ?_; refine At.y (Y.ldFl hr0_0 rfl (q := 0) rfl rfl p.1 p.2 rfl rfl rfl) rfl rfl rfl (At.run 2 rfl (nT ?_)); rcases bite j with ⟨a2, j⟩ | ⟨a2, j⟩
         ··refine At.condT rfl (decide_eq_true a2) ?_
           refine sR 1 rfl ?_; obtain ⟨J, k9, j⟩ := bbind j; refine At.call rfl Q35.callee rfl rfl rfl (Q35.spec hr0_0 rfl hc0_0 rfl k9) ?_; rintro _ _ ⟨l5, r0, l6, rfl, rfl, b5, rfl, b6⟩; refine At.alloc rfl rfl rfl (fun r1 => ?_); refine At.store rfl rfl rfl rfl .z rfl rfl rfl (.c (.c (.c (.c .n)))) ?_; refine nT (sR 2 rfl (At.y (Y.load rfl rfl .z rfl rfl rfl) rfl rfl rfl (At.run 1 rfl (At.y (Y.load rfl rfl .z rfl rfl rfl) rfl rfl rfl ?_)))); refine At.y (Y.build (is := [0, 3, 4]) (xo := [.const (i6 4), .tmp 75, .tmp 77]) (vs := [i6 4, .string ⟨(J.2.2.2.2.1).toArray⟩, i6 J.2.2.2.1]) (cs := [i6 4, i6 0, i6 0, .string ⟨(J.2.2.2.2.1).toArray⟩, i6 J.2.2.2.1]) rfl rfl rfl rfl rfl rfl) rfl rfl rfl ?_; refine At.f2 (At.f2 ?_); obtain ⟨r2, l7, j⟩ := bbind j; refine At.call rfl Q26.callee rfl rfl rfl (Q26.spec b5 rfl b6 rfl l7) ?_; rintro _ _ ⟨l8, l9, rfl, rfl⟩; refine At.run 1 rfl (nT (At.ret ?_)); refine At.ibr ?_; refine At.thr ?_; refine At.rowLen (.s .z) fun m0 => ?_; refine At.drop (.s (.s .z)) ?_; cases bret j; exact At.res (.inl rfl) rfl rfl ⟨(u ++ ([(⟨4, 0, 0, J.2.2.2.2.1, J.2.2.2.1⟩ : Q1)] : List Q1)).length, l8, l9, l5, J.1.length, l6, rfl, rfl, m0, b5, rfl, b6⟩
         ··refine At.condF rfl (decide_eq_false a2) ?_
           refine sR 3 rfl (At.y (Y.load rfl rfl .z rfl rfl rfl) rfl rfl rfl (At.y (Y.ixRd hr0_0 rfl rfl rfl rfl rfl rfl rfl p.1 p.2) rfl rfl rfl ?_)); refine At.y (Y.fa (RdS.some_ hr0_0 rfl p.1 p.2) rfl rfl rfl rfl rfl rfl) rfl rfl rfl ?_; refine At.y (Y.ldFl hr0_0 rfl (q := 0) rfl rfl p.1 p.2 rfl rfl rfl) rfl rfl rfl (At.run 2 rfl (nT ?_)); rcases bite j with ⟨a3, j⟩ | ⟨a3, j⟩
           ··refine At.condT rfl (decide_eq_true a3) ?_
             refine sR 1 rfl ?_; obtain ⟨b7, m1, j⟩ := bbind j; refine At.call rfl Q36.callee rfl rfl rfl (ih_5 _ _ b0 A0_0 a4.length c0_0 A0_2 u.length c0_2 a4 a5 u hr0_0 rfl hc0_0 rfl m1) ?_; rintro _ _ ⟨r3, m2, m3, m4, r4, m5, rfl, rfl, rfl, m6, rfl, m7⟩; refine At.run 1 rfl (nT (At.ret ?_)); refine At.ibr ?_; refine At.thr ?_; cases bret j; exact At.res (.inl rfl) rfl rfl ⟨b7.1.length, m2, m3, m4, b7.2.1.length, m5, rfl, rfl, rfl, m6, rfl, m7⟩
           ··refine At.condF rfl (decide_eq_false a3) ?_
             refine At.skip ?_; refine At.ibn ?_; refine At.thn (sR 1 rfl ?_); cases j
theorem Q36.step (self_0 : (List Q0) → Int → (List Q1) → Option ((List Q1) × (List Q0) × Int × Int)) (self_1 : (List Q0) → Int → (List Q1) → Bs → Int → Option ((List Q1) × (List Q0) × Int × Int)) (self_2 : (List Q0) → Int → (List Q1) → Option ((List Q1) × (List Q0) × Int × Int)) (self_3 : (List Q0) → Int → (List Q1) → Bs → Int → Option ((List Q1) × (List Q0) × Int × Int)) (self_4 : (List Q0) → Int → (List Q1) → Option ((List Q1) × (List Q0) × Int × Int)) (self_5 : (List Q0) → Int → (List Q1) → Option ((List Q1) × (List Q0) × Int × Int)) (ih_0 : Q10.SP self_0) (ih_1 : Q27.SP self_1) (ih_2 : Q34.SP self_2) (ih_3 : Q28.SP self_3) (ih_4 : Q30.SP self_4) (ih_5 : Q36.SP self_5) :
 Q36.SP (Q36.g self_0 self_1 self_2 self_3 self_4 self_5) := by
 intro R Fr b0 A0_0 n0_0 c0_0 A0_2 n0_2 c0_2 e5 e6 D hr0_0 hn0_0 hc0_0 hn0_2 r j; subst hn0_0; subst hn0_2; refine Spec.of Tryz.func208 rfl rfl ?_; unfold Q36.g at j; have j := brun j; refine sR 1 rfl (nT (sR 1 rfl ?_)); obtain ⟨p, a9, j⟩ := bbind j; refine At.call rfl Q35.callee rfl rfl rfl (Q35.spec hr0_0 rfl hc0_0 rfl a9) ?_; rintro _ _ ⟨M, e7, O, rfl, rfl, u, rfl, I⟩; refine At.alloc rfl rfl rfl (fun a4 => ?_); refine At.store rfl rfl rfl rfl .z rfl rfl rfl (.c (.c (.c (.c .n)))) ?_; refine nT (sR 1 rfl (nT (At.seq ?_))); refine sR 1 rfl (At.y (Y.load rfl rfl .z rfl rfl rfl) rfl rfl rfl (nT ?_)); obtain ⟨b2, b3, U, j⟩ := bjoin j; let T4 : HProp := pc a4 [i6 p.2.2.1, i6 p.2.2.2.1, .string ⟨(p.2.2.2.2.1).toArray⟩, i6 p.2.2.2.2.2] 115; let T5 : HProp := pc b0 [.slice M p.1.length O, i6 p.2.1, .slice A0_2 D.length c0_2] 128; refine At.join (X := Int) (fun G => [(0, bp b0), (3, bp a4), (4, i6 G)]) (fun G => T4 :: T5 :: row Q1.fl 33 A0_2 D.length c0_2 D :: Fr) (fun G => b2 (.inl G) = some r) ?_ (fun a5 => ?_)
 ·rintro G j; have j := (b3 _).symm.trans j
  ·refine At.seq (sR 3 rfl (At.y (Y.load rfl rfl (.s .z) rfl rfl rfl) rfl rfl rfl ?_)); obtain ⟨J, j⟩ := bnone j; refine At.y (Y.ixRd u rfl rfl rfl rfl rfl rfl rfl J.1 J.2) rfl rfl rfl ?_; refine At.y (Y.fa (RdS.some_ u rfl J.1 J.2) rfl rfl rfl rfl rfl rfl) rfl rfl rfl ?_; refine At.y (Y.ldFl u rfl (q := 0) rfl rfl J.1 J.2 rfl rfl rfl) rfl rfl rfl (At.run 1 rfl (nT ?_)); rcases bite j with ⟨V, j⟩ | ⟨V, j⟩
   ··refine At.condF rfl (nf (decide_eq_true V)) ?_
     refine At.skip (At.thn (sR 1 rfl (At.f2 (At.f2 ?_)))); obtain ⟨Z, b4, j⟩ := bbind j; refine At.call rfl Q60.callee rfl rfl rfl (Q60.spec u rfl I rfl b4) ?_; rintro _ _ ⟨e8, e9, f0, rfl, rfl, b5, rfl, b6⟩; refine At.run 2 rfl (nT (sR 1 rfl ?_)); obtain ⟨a6, b7, j⟩ := bbind j; refine At.call rfl Q86.callee rfl rfl rfl (Q86.spec b5 rfl b6 rfl b7) ?_; rintro _ _ ⟨b8, f1, b9, rfl, rfl, c4, rfl, c5⟩; refine nT (At.seq ?_); refine At.held [T4] 10 rfl ?_; refine At.H.pw 0 rfl rfl rfl rfl rfl (.c (.s (.s .z)) .n) ?_; refine At.H.pw 1 rfl rfl rfl rfl rfl (.c (.s (.s .z)) .n) ?_; refine At.H.pw 2 rfl rfl rfl rfl rfl (.c (.s (.s .z)) .n) ?_; refine At.H.pw 4 rfl rfl rfl rfl rfl (.c (.s (.s .z)) .n) ?_; refine At.H.pw 5 rfl rfl rfl rfl rfl (.c (.s (.s .z)) .n) ?_; refine At.H.tw 6 rfl (Y.load rfl rfl .z rfl rfl rfl) rfl rfl rfl (.c (.s (.s .z)) .n) ?_; refine At.H.al [3] (Q6 ?_ Q8)
     ··refine At.HO.op rfl ?_
       obtain ⟨L, c6, j⟩ := bbind j; refine At.call rfl Q10.callee rfl rfl rfl (ih_0 _ _ b0 b8 a6.length b9 A0_2 D.length c0_2 a6 p.2.1 D c4 rfl c5 rfl c6) ?_; rintro _ _ ⟨f3, f4, f5, c7, f6, c8, rfl, rfl, rfl, a7, rfl, a8⟩; refine At.HO.back (.c (.s (.s .z)) .n) ?_; refine At.H.tw 7 rfl (Y.build (is := [0, 1, 3, 4]) (xo := [.tmp 51, .tmp 53, .tmp 54, .tmp 56]) (vs := [i6 G, i6 L.2.2.2, .string ⟨(Z.2.2.2.1).toArray⟩, i6 p.2.2.2.1]) (cs := [i6 G, i6 L.2.2.2, i6 0, .string ⟨(Z.2.2.2.1).toArray⟩, i6 p.2.2.2.1]) rfl rfl rfl rfl rfl rfl) rfl rfl rfl (.c (.s (.s .z)) .n) ?_; refine At.H.al [8] (Q6 ?_ Q8)
       ··refine At.HO.op rfl ?_
         obtain ⟨f7, c9, j⟩ := bbind j; refine At.call rfl Q26.callee rfl rfl rfl (Q26.spec a7 rfl a8 rfl c9) ?_; rintro _ _ ⟨d0, d1, rfl, rfl⟩; refine At.HO.back (.c (.s (.s .z)) .n) ?_; refine At.H.pw 9 rfl rfl rfl rfl rfl (.c (.s (.s .z)) .n) ?_; refine At.H.done (by kernel_rfl) ?_; refine At.thn (At.ret ?_); refine At.rowLen (.s .z) fun d2 => ?_; refine At.drop (.s (.s .z)) ?_; cases bret j; exact At.res (.inl rfl) rfl rfl ⟨(L.1 ++ ([(⟨G, L.2.2.2, 0, Z.2.2.2.1, p.2.2.2.1⟩ : Q1)] : List Q1)).length, d0, d1, c7, L.2.1.length, c8, rfl, rfl, d2, a7, rfl, a8⟩
   ··refine At.condT rfl (nt (decide_eq_false V)) ?_
     refine At.region (At.run 1 rfl ?_); cases j
 ··refine At.block ?_
   refine sR 2 rfl (nT ?_); rcases bite j with ⟨a0, j⟩ | ⟨a0, j⟩
   ··refine At.condT rfl a0 ?_
     refine sR 2 rfl (At.y (Y.load rfl rfl .z rfl rfl rfl) rfl rfl rfl ?_); refine At.y (Y.build (is := [0, 4]) (xo := [.const (i6 1), .tmp 21]) (vs := [i6 1, i6 p.2.2.2.1]) (cs := [i6 1, i6 0, i6 0, .string ⟨(([] : Bs)).toArray⟩, i6 p.2.2.2.1]) rfl rfl rfl rfl rfl rfl) rfl rfl rfl ?_; refine At.f2 (At.f2 ?_); obtain ⟨f8, d3, j⟩ := bbind j; refine At.call rfl Q26.callee rfl rfl rfl (Q26.spec u rfl I rfl d3) ?_; rintro _ _ ⟨d4, d5, rfl, rfl⟩; refine At.run 1 rfl (nT (At.ret ?_)); refine At.ibr ?_; have j := bup U j; refine At.thr ?_; refine At.rowLen (.s .z) fun d6 => ?_; refine At.drop (.s (.s .z)) ?_; cases bret j; exact At.res (.inl rfl) rfl rfl ⟨(D ++ ([(⟨1, 0, 0, ([] : Bs), p.2.2.2.1⟩ : Q1)] : List Q1)).length, d4, d5, M, p.1.length, O, rfl, rfl, d6, u, rfl, I⟩
   ··refine At.condF rfl (bn a0) ?_
     refine sR 2 rfl (nT ?_); rcases bite j with ⟨a1, j⟩ | ⟨a1, j⟩
     ··refine At.condT rfl a1 ?_
       refine sR 2 rfl (At.y (Y.load rfl rfl .z rfl rfl rfl) rfl rfl rfl ?_); refine At.y (Y.build (is := [0, 4]) (xo := [.const (i6 2), .tmp 28]) (vs := [i6 2, i6 p.2.2.2.1]) (cs := [i6 2, i6 0, i6 0, .string ⟨(([] : Bs)).toArray⟩, i6 p.2.2.2.1]) rfl rfl rfl rfl rfl rfl) rfl rfl rfl ?_; refine At.f2 (At.f2 ?_); obtain ⟨f9, d7, j⟩ := bbind j; refine At.call rfl Q26.callee rfl rfl rfl (Q26.spec u rfl I rfl d7) ?_; rintro _ _ ⟨d8, d9, rfl, rfl⟩; refine At.run 1 rfl (nT (At.ret ?_)); refine At.ibr ?_; have j := bup U j; refine At.thr ?_; refine At.rowLen (.s .z) fun e0 => ?_; refine At.drop (.s (.s .z)) ?_; cases bret j; exact At.res (.inl rfl) rfl rfl ⟨(D ++ ([(⟨2, 0, 0, ([] : Bs), p.2.2.2.1⟩ : Q1)] : List Q1)).length, d8, d9, M, p.1.length, O, rfl, rfl, e0, u, rfl, I⟩
     ··refine At.condF rfl (bn a1) ?_
       refine sR 2 rfl (nT ?_); rcases bite j with ⟨a2, j⟩ | ⟨a2, j⟩
       ··refine At.condT rfl a2 ?_
         refine At.region (At.run 1 rfl (At.nil ?_)); refine At.ibn ?_; refine At.thn ?_; exact fun a w e hs => a5 10 j a w (e.sub ⟨rfl, rfl, rfl, trivial⟩) hs
       ··refine At.condF rfl (bn a2) ?_
         refine sR 2 rfl (nT ?_); rcases bite j with ⟨a3, j⟩ | ⟨a3, j⟩
         ··refine At.condT rfl a3 ?_
           refine At.skip ?_; refine At.ibn ?_; refine At.thn ?_; exact fun a w e hs => a5 11 j a w (e.sub ⟨rfl, rfl, rfl, trivial⟩) hs
         ··refine At.condF rfl (bn a3) ?_
           refine sR 2 rfl (At.y (Y.load rfl rfl .z rfl rfl rfl) rfl rfl rfl (At.run 1 rfl (At.y (Y.load rfl rfl .z rfl rfl rfl) rfl rfl rfl ?_))); refine At.y (Y.build (is := [0, 3, 4]) (xo := [.const (i6 3), .tmp 12, .tmp 14]) (vs := [i6 3, .string ⟨(p.2.2.2.2.1).toArray⟩, i6 p.2.2.2.1]) (cs := [i6 3, i6 0, i6 0, .string ⟨(p.2.2.2.2.1).toArray⟩, i6 p.2.2.2.1]) rfl rfl rfl rfl rfl rfl) rfl rfl rfl ?_; refine At.f2 (At.f2 ?_); obtain ⟨g0, e1, j⟩ := bbind j; refine At.call rfl Q26.callee rfl rfl rfl (Q26.spec u rfl I rfl e1) ?_; rintro _ _ ⟨e2, e3, rfl, rfl⟩; refine At.run 1 rfl (nT (At.ret ?_)); refine At.ibr ?_; have j := bup U j; refine At.thr ?_; refine At.rowLen (.s .z) fun e4 => ?_; refine At.drop (.s (.s .z)) ?_; cases bret j; exact At.res (.inl rfl) rfl rfl ⟨(D ++ ([(⟨3, 0, 0, p.2.2.2.2.1, p.2.2.2.1⟩ : Q1)] : List Q1)).length, e2, e3, M, p.1.length, O, rfl, rfl, e4, u, rfl, I⟩
theorem Q10.all : ∀ k_ : Nat, Q10.SP (Q10.n k_) ∧ Q27.SP (Q27.n k_) ∧ Q34.SP (Q34.n k_) ∧ Q28.SP (Q28.n k_) ∧ Q30.SP (Q30.n k_) ∧ Q36.SP (Q36.n k_)
 | 0 => ⟨(by intro R Fr b0 A0_0 n0_0 c0_0 A0_2 n0_2 c0_2 a0_0 a0_1 a0_2 hr0_0 hn0_0 hc0_0 hn0_2 r j; cases j), (by intro R Fr b0 A0_0 n0_0 c0_0 A0_2 n0_2 c0_2 a0_0 a0_1 a0_2 a1 a2 hr0_0 hn0_0 hc0_0 hn0_2 r j; cases j), (by intro R Fr b0 A0_0 n0_0 c0_0 A0_2 n0_2 c0_2 a0_0 a0_1 a0_2 hr0_0 hn0_0 hc0_0 hn0_2 r j; cases j), (by intro R Fr b0 A0_0 n0_0 c0_0 A0_2 n0_2 c0_2 a0_0 a0_1 a0_2 a1 a2 hr0_0 hn0_0 hc0_0 hn0_2 r j; cases j), (by intro R Fr b0 A0_0 n0_0 c0_0 A0_2 n0_2 c0_2 a0_0 a0_1 a0_2 hr0_0 hn0_0 hc0_0 hn0_2 r j; cases j), (by intro R Fr b0 A0_0 n0_0 c0_0 A0_2 n0_2 c0_2 a0_0 a0_1 a0_2 hr0_0 hn0_0 hc0_0 hn0_2 r j; cases j)⟩
 | k_ + 1 => ⟨Q10.step (Q10.n k_) (Q27.n k_) (Q34.n k_) (Q28.n k_) (Q30.n k_) (Q36.n k_) ((Q10.all k_).1) ((Q10.all k_).2.1) ((Q10.all k_).2.2.1) ((Q10.all k_).2.2.2.1) ((Q10.all k_).2.2.2.2.1) ((Q10.all k_).2.2.2.2.2), Q27.step (Q10.n k_) (Q27.n k_) (Q34.n k_) (Q28.n k_) (Q30.n k_) (Q36.n k_) ((Q10.all k_).1) ((Q10.all k_).2.1) ((Q10.all k_).2.2.1) ((Q10.all k_).2.2.2.1) ((Q10.all k_).2.2.2.2.1) ((Q10.all k_).2.2.2.2.2), Q34.step (Q10.n k_) (Q27.n k_) (Q34.n k_) (Q28.n k_) (Q30.n k_) (Q36.n k_) ((Q10.all k_).1) ((Q10.all k_).2.1) ((Q10.all k_).2.2.1) ((Q10.all k_).2.2.2.1) ((Q10.all k_).2.2.2.2.1) ((Q10.all k_).2.2.2.2.2), Q28.step (Q10.n k_) (Q27.n k_) (Q34.n k_) (Q28.n k_) (Q30.n k_) (Q36.n k_) ((Q10.all k_).1) ((Q10.all k_).2.1) ((Q10.all k_).2.2.1) ((Q10.all k_).2.2.2.1) ((Q10.all k_).2.2.2.2.1) ((Q10.all k_).2.2.2.2.2), Q30.step (Q10.n k_) (Q27.n k_) (Q34.n k_) (Q28.n k_) (Q30.n k_) (Q36.n k_) ((Q10.all k_).1) ((Q10.all k_).2.1) ((Q10.all k_).2.2.1) ((Q10.all k_).2.2.2.1) ((Q10.all k_).2.2.2.2.1) ((Q10.all k_).2.2.2.2.2), Q36.step (Q10.n k_) (Q27.n k_) (Q34.n k_) (Q28.n k_) (Q30.n k_) (Q36.n k_) ((Q10.all k_).1) ((Q10.all k_).2.1) ((Q10.all k_).2.2.1) ((Q10.all k_).2.2.2.1) ((Q10.all k_).2.2.2.2.1) ((Q10.all k_).2.2.2.2.2)⟩
theorem Q10.spec {p : List Q0} {u : Int} {q : List Q1} (hr0_0 : RdS Q0.fl.rep R.heap A0_0 p) (hn0_0 : p.length = n0_0) (hc0_0 : n0_0 ≤ c0_0) (hn0_2 : q.length = n0_2) {r : (List Q1) × (List Q0) × Int × Int} (j : Q10.f p u q = some r) :
 Spec Tryz.prog 66 [bp b0] R (pc b0 [.slice A0_0 n0_0 c0_0, i6 u, .slice A0_2 n0_2 c0_2] 128 :: row Q1.fl 33 A0_2 n0_2 c0_2 q :: Fr) (fun v l' => ∃ (D : Nat) (I : Option Addr) (J : Nat) (L : Option Addr) (G : Nat) (M : Nat), v = i6 r.2.2.2 ∧ pc b0 [.slice L G M, i6 r.2.2.1, .slice I D J] 128 :: row Q1.fl 33 I D J r.1 :: Fr = l' ∧ r.1.length = D ∧ RdS Q0.fl.rep R.heap L r.2.1 ∧ r.2.1.length = G ∧ G ≤ M) := by
 obtain ⟨k_, hk_⟩ := Q229 j; exact (Q10.all k_).1 R Fr b0 A0_0 n0_0 c0_0 A0_2 n0_2 c0_2 p u q hr0_0 hn0_0 hc0_0 hn0_2 hk_

/- told with Q10.f -/

/- told with Q10.f -/

/- told with Q10.f -/

/- told with Q10.f -/

/- told with Q10.f -/

noncomputable def Q155.f (p : List Q1) : Option Unit :=
 some ()
theorem Q155.callee : Callee Tryz.prog 63 := ⟨_, Tryz.func63, by kernel_rfl, by kernel_rfl⟩
theorem Q155.spec {p : List Q1} (hn0_0 : p.length = n0_0) {r : Unit} (j : Q155.f p = some r) :
 SpecD Tryz.prog 63 [bp b0, bp b1] .returning R (pc b0 [.slice A0_0 n0_0 c0_0] 27 :: row Q1.fl 33 A0_0 n0_0 c0_0 p :: pc b1 [.nilIface] 74 :: Fr) (fun v l' => v = .returning ∧ pc b0 [.slice A0_0 n0_0 c0_0] 27 :: row Q1.fl 33 A0_0 n0_0 c0_0 p :: pc b1 [.nilIface] 74 :: Fr = l') := by
 subst hn0_0; refine SpecD.of (d := 5) Tryz.func63 rfl rfl rfl rfl ?_; unfold Q155.f at j; have j := brun j; refine At.block ?_; refine At.seq (At.region ?_); refine At.y (Y.eqIfK (ti' := 0) none rfl rfl rfl rfl) rfl rfl rfl ?_; refine nT ?_; refine At.condT rfl rfl ?_; refine At.region (At.run 1 rfl (At.nil ?_)); refine At.ibn ?_; cases bret j; exact At.res (.inr rfl) rfl rfl ⟨rfl, rfl⟩

noncomputable def Q142.f (a0 : Bs) : Option ((Option Q5) × (List Q1)) :=
 (Q63.f a0).bind fun q =>
 if q.1.isNone = true then
 (Q73.f q.2).bind fun u =>
 (Q10.f u 0 ([] : List Q1)).bind fun p =>
 if (0 : Int) ≤ 0 ∧ 0 < (p.2.1.length : Int) then
 if (gt p.2.1 0).Kind = 0 then
 (Q155.f p.1).bind fun D =>
 some (none, p.1)
 else
 none
 else none
 else
 some (q.1, ([] : List Q1))
theorem Q142.callee : Callee Tryz.prog 31 := ⟨_, Tryz.func31, by kernel_rfl, by kernel_rfl⟩
theorem Q142.spec {a0 : Bs} {r : (Option Q5) × (List Q1)} (j : Q142.f a0 = some r) :
 Spec Tryz.prog 31 [.string ⟨(a0).toArray⟩] R (Fr) (fun v l' => ∃ (V : Option Nat) (G : Nat) (X : Option Addr) (Z : Nat), v = .tuple #[.slice X G Z, opti 110 V] ∧ row Q1.fl 33 X G Z r.2 :: optb (Ow.fl Q5.fl) 121 V r.1 :: Fr = l' ∧ r.2.length = G) := by
 refine SpecE.ret (SpecE.ofD Tryz.func31 rfl rfl ?_); unfold Q142.f at j; have j := brun j; refine At.seq (At.region ?_); refine At.alloc rfl rfl rfl (fun a1 => ?_); refine At.alloc rfl rfl rfl (fun a2 => ?_); refine nT (sR 1 rfl ?_); obtain ⟨I, a3, j⟩ := bbind j; refine At.call rfl Q63.callee rfl rfl rfl (Q63.spec a3) ?_; rintro _ _ ⟨J, b6, u, D, rfl, rfl, rfl⟩; refine At.run 4 rfl ?_; refine At.store rfl rfl rfl rfl (.s (.s .z)) (Q259 _ _) rfl (Q232 _ _) (.c .n) ?_; refine nT (At.seq (At.seq (At.region (At.y (Y.load rfl rfl .z rfl rfl rfl) rfl rfl rfl ?_)))); refine At.y (Y.neOptI (.s (.s .z)) rfl rfl rfl) rfl rfl rfl ?_; refine nT ?_; rcases bite j with ⟨L, j⟩ | ⟨L, j⟩
 ··refine At.condF rfl (nf L) ?_
   refine At.skip (At.thn (sR 1 rfl ?_)); refine At.defer rfl rfl ?_; refine nT (sR 1 rfl (At.f1 ?_)); obtain ⟨M, a4, j⟩ := bbind j; refine At.call rfl Q73.callee rfl rfl rfl (Q73.spec rfl a4) ?_; rintro _ _ ⟨b7, rfl, rfl, rfl⟩; refine At.y (Y.build (is := [0]) (xo := [.tmp 16]) (vs := [.slice u M.length D]) (cs := [.slice u M.length D, i6 0, .slice none 0 0]) rfl rfl rfl rfl rfl rfl) rfl rfl rfl ?_; refine At.box rfl rfl (cs := [.slice u M.length D, i6 0, .slice none 0 0]) rfl rfl (fun b8 => ?_); refine At.run 1 rfl (nT (sR 1 rfl ?_)); refine At.nilRow Q1.fl 33 ?_; refine At.freeze (.s (.s .z)) fun b9 a5 a6 a7 c4 a8 => ?_; refine At.f1 ?_; obtain ⟨a9, b2, j⟩ := bbind j; refine At.call rfl Q10.callee rfl rfl rfl (Q10.spec a5 a6 a7 rfl b2) ?_; rintro _ _ ⟨c5, b3, b4, c6, c7, c8, rfl, rfl, rfl, O, rfl, c9⟩; refine nT (At.seq (sR 3 rfl (At.y (Y.load rfl rfl .z rfl rfl rfl) rfl rfl rfl ?_))); obtain ⟨p, j⟩ := bnone j; refine At.y (Y.ixRd O rfl rfl rfl rfl rfl rfl rfl p.1 p.2) rfl rfl rfl ?_; refine At.y (Y.fa (RdS.some_ O rfl p.1 p.2) rfl rfl rfl rfl rfl rfl) rfl rfl rfl ?_; refine At.y (Y.ldFl O rfl (q := 0) rfl rfl p.1 p.2 rfl rfl rfl) rfl rfl rfl (At.run 1 rfl (nT ?_)); rcases bite j with ⟨U, j⟩ | ⟨U, j⟩
   ··refine At.condF rfl (nf (decide_eq_true U)) ?_
     refine At.skip (At.thn (sR 3 rfl (At.y (Y.load rfl rfl .z rfl rfl rfl) rfl rfl rfl ?_))); refine At.store rfl rfl rfl rfl (.s (.s (.s (.s .z)))) rfl rfl rfl (.c .n) ?_; refine At.store rfl rfl rfl rfl (.s (.s (.s .z))) rfl rfl rfl (.c .n) ?_; refine nT (At.ret ?_); refine At.thaw a8 ?_; refine At.f1 (At.f4 (At.f3 ?_)); obtain ⟨d0, b5, j⟩ := bbind j; refine At.leaveD (.inl ⟨.inl rfl, rfl⟩) rfl Q155.callee (Q155.spec rfl b5) ?_; rintro _ _ ⟨rfl, rfl⟩; refine ⟨rfl, _, (RV.cell rfl rfl .z rfl rfl rfl (RV.cell rfl rfl (.s (.s .z)) rfl rfl rfl RV.nil)), ?_⟩; refine At.optNone (Ow.fl Q5.fl) 121 ?_; refine At.drop (.s .z) (At.drop (.s (.s .z)) (At.drop (.s (.s .z)) (At.drop (.s (.s .z)) (At.drop (.s (.s .z)) (At.f1 ?_))))); cases bret j; exact fun a w e hs => ⟨_, ⟨_, rfl, ⟨none, a9.1.length, b3, b4, rfl, rfl, rfl⟩⟩, hs⟩
   ··refine At.condT rfl (nt (decide_eq_false U)) ?_
     refine At.region (At.run 1 rfl ?_); cases j
 ··refine At.condT rfl (nt (bn L)) ?_
   refine At.seq ?_; refine At.held [pc a2 [opti 110 J] 74, row Q0.fl 115 u I.2.length D I.2, optb (Ow.fl Q5.fl) 121 J I.1, pc a1 [.slice none 0 0] 27] 3 rfl ?_; refine At.H.tw 0 rfl (Y.load rfl rfl .z rfl rfl rfl) rfl rfl rfl (.c .z (.c .z (.c .z (.c .z .n)))) ?_; refine At.H.al [1] (Q6 ?_ Q8)
   ··refine At.HO.op rfl ?_
     refine At.store rfl rfl rfl rfl (.s (.s (.s .z))) rfl rfl rfl (.c .n) ?_; refine At.HO.back (.c (.s .z) (.c (.s .z) (.c (.s .z) (.c .z .n)))) ?_; refine At.H.al [2] (Q6 ?_ Q8)
     ··refine At.HO.op rfl ?_
       refine At.store rfl rfl rfl rfl (.s .z) (Q259 _ _) rfl (Q232 _ _) (.c .n) ?_; refine At.HO.back (.c .z (.c (.s .z) (.c (.s .z) (.c .z .n)))) ?_; refine At.H.done (by kernel_rfl) ?_; refine At.thn (At.ret (At.thr ?_)); refine At.resMD (.inl rfl) rfl (RV.cell rfl rfl (.s .z) rfl rfl rfl (RV.cell rfl rfl .z rfl rfl rfl RV.nil)) ?_; refine At.nilRow Q1.fl 33 ?_; refine At.drop (.s .z) (At.drop (.s .z) (At.drop (.s .z) ?_)); cases bret j; exact fun a w e hs => ⟨_, ⟨_, rfl, ⟨J, 0, none, 0, rfl, rfl, rfl⟩⟩, hs⟩

end Go.Bw
namespace Go.Bw
open Go Go.RowKit

section
variable {α : Type} {P : Program} [Tys P] {os : List Oper} {Q : Exit → Act → World → Prop} {rest : List Oper} {n : Nat} {ds : List Deferred} {R : Res} {env : List (Nat × Value)} {l l' : List HProp}
variable {d ty t e : Nat} {pos : String} {af : Array Edge} {g : Option (Nat × Bool)}
theorem At.makeW {F : Fl α} {x y : Operand} {m : Int} {k k' : IntKind} {bytes : Nat} {z : α} {ii j : TI} (hg : grd os env g = some true) (hi : ti P t = some ii) (hk : ii.k = .slice e) (hj : ti P e = some j) (hjs : j.size = F.sz) (hjb : j.bytes = bytes) (hz : j.zero = F.enc z)
 (hx : ev env x = some (.int k m)) (hy : ev env y = some (.int k' m)) (h0 : 0 ≤ m) (h1 : (bytes : Int) * m ≤ 281474976710656) (hb0 : 0 < bytes) (hd : Nat.blt d n = true)
 (h : ∀ A c, At n ds R ((d, .slice A (List.replicate m.toNat z).length c) :: env) (row F e A (List.replicate m.toNat z).length c (List.replicate m.toNat z) :: l) (wpList P os.toArray Q rest)) :
 At n ds R env l (wpList P os.toArray Q (⟨some d, .makeSlice t x y, ty, pos, af, g⟩ :: rest)) := Q76 hg rfl hd fun a w e0 hs => by
 obtain ⟨xi, zv, hxi, hsz, hby, hze, hzc⟩ := (Q14 hj).info
 have hm : m ≤ 9223372036854775807 := by
  have := Int.mul_le_mul_of_nonneg_right (show (1 : Int) ≤ (bytes : Int) by omega) h0
  omega
 have hr := run_make (P := P) w t e xi zv ((Q14 hi).slice hk) hxi hze k k' m m h0 (Int.le_refl _) (by rw [hby, hjb]; exact h1) hm
 refine ⟨.slice (some ⟨w.heap.size, 0, none⟩) m.toNat m.toNat, w.alloc (.cells (madeCells zv.cells (m.toNat * xi.size)) e), row F e (some ⟨w.heap.size, 0, none⟩) m.toNat m.toNat (List.replicate m.toNat z) :: l, ?_, ?_, by have := h (some ⟨w.heap.size, 0, none⟩) m.toNat; rwa [List.length_replicate] at this⟩
 ·simp only [execOp, e0.ev hx, e0.ev hy, Sem.run_bind, hr, Result.andThen, Sem.run_pure]
 ·refine (hs.alloc _).imp fun h' o => ?_
  have hl := F.len z
  have hp := F.pos
  have hcells : (madeCells zv.cells (m.toNat * xi.size)).toList = (List.replicate m.toNat z).flatMap F.enc := by
   rw [hsz, hjs, hzc, hz]
   unfold madeCells
   simp only [Array.toList_map, Array.toList_range]
   apply List.ext_getElem?
   intro q
   by_cases hq : q < m.toNat * F.sz
   ·have hd := Nat.div_lt_of_lt_mul (by rwa [Nat.mul_comm] at hq : q < F.sz * m.toNat)
    have := Q143 F (xs := List.replicate m.toNat z) (i := q / F.sz) (x := z) (j := q % F.sz) (by simp [hd]) (Nat.mod_lt _ hp)
    rw [Nat.div_add_mod'] at this
    rw [this]
    have hlt : q % F.sz < (F.enc z).length := by rw [hl]; exact Nat.mod_lt _ hp
    have hg := List.getElem?_eq_getElem hlt
    rw [hg]
    simp [hq, hl, hg]
   ·rw [List.getElem?_eq_none (by simp; omega), List.getElem?_eq_none (by rw [Q50, List.length_replicate]; omega)]
  refine ⟨by rw [Q50, List.length_replicate], .inr ⟨w.heap.size, _, rfl, o, by simp, by simp only [maxLen]; omega, ?_, ?_⟩⟩
  ·simp [madeCells, hsz, hjs]
  ·rw [hcells, List.take_of_length_le (by rw [Q50]; simp)]
end
end Go.Bw
namespace Go.Bw
open Go Go.RowKit Go.Proofs
variable {R : Res} {Fr : List HProp} {A0 A1 A0_0 A0_1 A0_3 A0_4 A0_5 A0_2 A0_7 : Option Addr} {n0 c0 n1 c1 b0 n0_0 c0_0 n0_1 c0_1 n0_3 c0_3 n0_4 c0_4 n0_5 c0_5 b0_1 b0_2 b0_0 b0_0_1 b0_0_2 n0_2 c0_2 n0_7 c0_7 : Nat}
structure Q16 where
 node : Int
 nots : Int
deriving Inhabited, DecidableEq
def Q16.fl : Fl Q16 := ⟨2, fun x => [i6 x.node, i6 x.nots], fun _ => rfl, fun x u hu => by simp at hu; rcases hu with rfl | rfl <;> rfl, by decide⟩
noncomputable def Q128.f (a0 : List Q1) : Option (List Q1) :=
 if (0 + a0.length) * 48 ≤ 140737488355328 then some a0 else none
theorem Q128.callee : Callee Tryz.prog 82 := ⟨_, Tryz.func82, by kernel_rfl, by kernel_rfl⟩
theorem Q128.spec {a0 : List Q1} (hr0 : RdS (Q1.fl.rep) R.heap A0 a0) (hn0 : a0.length = n0) (hc0 : n0 ≤ c0) {r : List Q1} (j : Q128.f a0 = some r) :
 Spec Tryz.prog 82 [.slice A0 n0 c0] R (Fr) (fun v l' => ∃ (w1 : Option Addr) (w2 : Nat), v = .slice w1 r.length w2 ∧ row Q1.fl 33 w1 r.length w2 r :: Fr = l') := by
 subst hn0; refine Spec.of Tryz.func82 rfl rfl ?_; unfold Q128.f at j; have j := brun j; obtain ⟨hb, j⟩ := bnone j; cases bret j; refine sR 1 rfl (nT (At.seq (At.seq (At.region ?_)))); refine At.run 1 rfl ?_; refine At.y (Y.eqNil rfl rfl rfl rfl) rfl rfl rfl ?_; refine nT ?_; cases A0 with
 | none =>
  have ha : a0 = [] := RdS.isNil hr0; subst ha; refine At.condT rfl rfl ?_; refine sR 1 rfl (nT (At.ret (At.thr ?_))); refine At.nilRow Q1.fl 33 ?_; exact At.res (.inl rfl) rfl rfl ⟨_, _, rfl, rfl⟩
 | some ad =>
  refine At.condF rfl rfl ?_; refine At.skip (At.thn (At.seq (At.region ?_))); refine At.lit rfl (xo := []) (ys := ([] : List Q1)) Q1.fl rfl rfl rfl rfl rfl rfl rfl rfl rfl rfl rfl (fun B cb => ?_); refine At.run 1 rfl ?_; refine At.appendAll rfl .z (SrcE.rd hr0) rfl rfl rfl rfl rfl rfl rfl rfl rfl hb (by decide) rfl (fun A c => ?_); refine At.run 1 rfl (nT (At.ret ?_)); exact At.res (.inl rfl) rfl rfl ⟨_, _, rfl, rfl⟩

noncomputable def Q44.l0b (a0 : Bs) (p : Int) : Option ((Int) ⊕ ((Unit) ⊕ (Bool))) :=
 if p < (a0.length : Int) then
 if (0 : Int) ≤ p ∧ p < (a0.length : Int) then
 jn (
 if bor .u8 (bat a0 p) 32 < 97 then
 some (.inl true)
 else
 some (.inl (decide (122 < bor .u8 (bat a0 p) 32)))) (fun (q : Bool) =>
 jn (
 if q = true then
 jn (
 if bat a0 p < 48 then
 some (.inl (true, true))
 else
 some (.inl (false, decide (57 < bat a0 p)))) (fun (s_ : Bool × Bool) =>
 some (.inl s_.2))
 else
 some (.inl false)) (fun (u : Bool) =>
 jn (
 if u = true then
 some (.inl (!(decide (bat a0 p = 95))))
 else
 some (.inl false)) (fun (D : Bool) =>
 if D = true then
 upL (some false)
 else
 nx (IntKind.i64.wrap (p + 1)))))
 else none
 else
 dn (.inl ())
noncomputable def Q44.l0 (a0 : Bs) (p : Int) : Option ((Unit) ⊕ (Bool)) := iter (fun t_ : Int => Q44.l0b a0 t_) p
noncomputable def Q44.f (a0 : Bs) (a1 a2 : Int) : Option Bool :=
 jn (
 if (a0.length : Int) < 1 then
 some (.inl true)
 else
 some (.inl (decide (8 < (a0.length : Int))))) (fun (p : Bool) =>
 jn (
 if p = true then
 some (.inl true)
 else
 if (0 : Int) ≤ 0 ∧ 0 < (a0.length : Int) then
 some (.inl (decide (bat a0 0 < a1)))
 else none) (fun (q : Bool) =>
 jn (
 if q = true then
 some (.inl true)
 else
 if (0 : Int) ≤ 0 ∧ 0 < (a0.length : Int) then
 some (.inl (decide (a2 < bat a0 0)))
 else none) (fun (u : Bool) =>
 if u = true then
 some false
 else
 jn (Q44.l0 a0 0) (fun (_ : Unit) =>
 some true))))
theorem Q44.callee : Callee Tryz.prog 230 := ⟨_, Tryz.func230, by kernel_rfl, by kernel_rfl⟩
theorem Q44.spec {a0 : Bs} {a1 a2 : Int} {r : Bool} (j : Q44.f a0 a1 a2 = some r) :
 Spec Tryz.prog 230 [.string ⟨(a0).toArray⟩, .int .u8 a1, .int .u8 a2] R (Fr) (fun v l' => v = .bool r ∧ Fr = l') := by
 refine Spec.of Tryz.func230 rfl rfl ?_; unfold Q44.f at j; have j := brun j; refine sR 1 rfl (nT (At.seq (At.seq (At.region ?_)))); refine At.run 4 rfl ?_; obtain ⟨c8, c9, f0, j⟩ := bjoin j; refine At.joinO 4 (X := Bool) (fun u => [(0, .string ⟨(a0).toArray⟩), (1, .int .u8 a1), (2, .int .u8 a2), (16, .bool u)]) (fun u => Fr) (fun u => c8 (.inl u) = some r) ?_ (fun b3 => ?_)
 ·rintro u j; have j := (c9 _).symm.trans j
  ·refine At.run 1 rfl ?_; obtain ⟨d0, d1, f1, j⟩ := bjoin j; refine At.joinO 5 (X := Bool) (fun D => [(0, .string ⟨(a0).toArray⟩), (2, .int .u8 a2), (22, .bool D)]) (fun D => Fr) (fun D => d0 (.inl D) = some r) ?_ (fun b4 => ?_)
   ·rintro D j; have j := (d1 _).symm.trans j
    ·refine At.run 1 rfl ?_; obtain ⟨d2, d3, f2, j⟩ := bjoin j; refine At.joinO 5 (X := Bool) (fun G => [(0, .string ⟨(a0).toArray⟩), (28, .bool G)]) (fun G => Fr) (fun G => d2 (.inl G) = some r) ?_ (fun b5 => ?_)
     ·rintro G j; have j := (d3 _).symm.trans j
      ·refine nT ?_; rcases bite j with ⟨O, j⟩ | ⟨O, j⟩
       ··refine At.condT rfl O ?_
         refine sR 1 rfl (nT (At.ret (At.thr ?_))); cases bret j; exact At.res (.inl rfl) rfl rfl ⟨rfl, rfl⟩
       ··refine At.condF rfl (bn O) ?_
         refine At.skip (At.thn (At.seq (sR 3 rfl (nT ?_)))); refine At.block ?_; obtain ⟨d4, d5, d6, j⟩ := bjoin j; obtain ⟨q, U, b6⟩ := bsome j; clear j; unfold Q44.l0 at U; obtain ⟨V, I⟩ := Q18.1 U; clear U; refine At.loopJ (X := Int) (Y := Unit) (e0 := 0) (fun p => [(0, .string ⟨(a0).toArray⟩), (30, i6 (a0.length : Int)), (31, i6 p)]) (fun p => Fr) (fun m_ => fun p => iterN (fun t_ : Int => Q44.l0b a0 t_) m_ p = some q) V 0 I (fun _ => []) (fun _ => Fr) (fun _ => d4 (.inl ()) = some r) (fun a w e hs => ⟨e.sub ⟨rfl, rfl, rfl, trivial⟩, (by exact hs)⟩) ?_ (fun d7 => ?_)
         ·rintro _ j; have j := (d5 _).symm.trans j
          ·refine At.ibx ?_; refine At.thn (sR 1 rfl (nT (At.ret ?_))); cases bret j; exact At.res (.inl rfl) rfl rfl ⟨rfl, rfl⟩
         ·clear I V; rintro V p I; obtain ⟨d8, f_, d9, hf_, j⟩ := bit I; clear I; have j : (Q44.l0b a0 p).bind _ = some q := j; unfold Q44.l0b at j
          ·refine sR 1 rfl (nT (At.seq ?_)); rcases bite j with ⟨Z, j⟩ | ⟨Z, j⟩
           ··refine At.condT rfl (decide_eq_true Z) ?_
             refine At.skip (At.thn (At.seq ?_)); refine At.block ?_; refine sR 2 rfl (nT (sR 2 rfl ?_)); obtain ⟨b7, j⟩ := bnone j; refine At.y (Y.ixStr rfl rfl rfl rfl b7.1 b7.2) rfl rfl rfl (At.run 1 rfl (nT (sR 4 rfl ?_))); obtain ⟨e1, e2, f3, j⟩ := bjoin j; refine At.joinO 4 (X := Bool) (fun J => [(0, .string ⟨(a0).toArray⟩), (8, .int .u8 (bat a0 p)), (30, i6 (a0.length : Int)), (31, i6 p), (44, .bool J)]) (fun J => Fr) (fun J => e1 (.inl J) = some q) ?_ (fun b8 => ?_)
             ·rintro J j; have j := (e2 _).symm.trans j
              ·refine At.run 1 rfl ?_; obtain ⟨e3, e4, f4, j⟩ := bjoin j; refine At.joinO 7 (X := Bool) (fun L => [(0, .string ⟨(a0).toArray⟩), (8, .int .u8 (bat a0 p)), (30, i6 (a0.length : Int)), (31, i6 p), (52, .bool L)]) (fun L => Fr) (fun L => e3 (.inl L) = some q) ?_ (fun b9 => ?_)
               ·rintro L j; have j := (e4 _).symm.trans j
                ·refine At.run 1 rfl ?_; obtain ⟨e5, e6, f5, j⟩ := bjoin j; refine At.joinO 3 (X := Bool) (fun M => [(0, .string ⟨(a0).toArray⟩), (30, i6 (a0.length : Int)), (31, i6 p), (56, .bool M)]) (fun M => Fr) (fun M => e5 (.inl M) = some q) ?_ (fun c4 => ?_)
                 ·rintro M j; have j := (e6 _).symm.trans j
                  ·refine nT ?_; rcases bite j with ⟨a3, j⟩ | ⟨a3, j⟩
                   ··refine At.condT rfl a3 ?_
                     refine sR 1 rfl (nT (At.ret ?_)); refine At.ibr ?_; refine At.thr ?_; have j := bupL d6 b6 j; refine At.thr ?_; refine At.ibr ?_; refine At.thr ?_; cases bret j; exact At.res (.inl rfl) rfl rfl ⟨rfl, rfl⟩
                   ··refine At.condF rfl (bn a3) ?_
                     refine At.skip ?_; refine At.ibn ?_; refine At.thn (At.region (At.run 2 rfl (At.nil ?_))); have j := bnx hf_ j; exact fun a w e hs => ⟨d8, (IntKind.i64.wrap (p + 1)), d9, j, e.sub ⟨rfl, rfl, rfl, trivial⟩, hs⟩
                 ··rcases bite j with ⟨a4, j⟩ | ⟨a4, j⟩
                   ··refine At.know (t := 53) rfl a4 ?_
                     refine At.run 3 rfl ?_; exact At.of (c4 (!(decide (bat a0 p = 95))) j) ⟨rfl, rfl, rfl, rfl, trivial⟩
                   ··refine At.know (t := 53) rfl (bn a4) ?_
                     refine At.run 3 rfl ?_; exact At.of (c4 false j) ⟨rfl, rfl, rfl, rfl, trivial⟩
               ··rcases bite j with ⟨a5, j⟩ | ⟨a5, j⟩
                 ··refine At.know (t := 45) rfl a5 ?_
                   refine At.run 3 rfl ?_; obtain ⟨e7, e8, f6, j⟩ := bjoin j; refine At.joinO 3 (X := Bool × Bool) (fun s_ => [(0, .string ⟨(a0).toArray⟩), (8, .int .u8 (bat a0 p)), (30, i6 (a0.length : Int)), (31, i6 p), (45, .bool true), (46, .int .u8 (bat a0 p)), (47, .bool (decide (bat a0 p < 48))), (48, .bool s_.1), (51, .bool s_.2)]) (fun s_ => Fr) (fun s_ => e7 (.inl (s_.1, s_.2)) = some q) ?_ (fun c5 => ?_)
                   ·rintro ⟨f7, e9⟩ j; have j := (e8 _).symm.trans j
                    ·refine At.run 1 rfl ?_; exact At.of (b9 e9 j) ⟨rfl, rfl, rfl, rfl, rfl, trivial⟩
                   ··rcases bite j with ⟨a6, j⟩ | ⟨a6, j⟩
                     ··refine At.know (t := 48) rfl (decide_eq_true a6) ?_
                       refine At.run 3 rfl ?_; exact At.of (c5 (true, true) j) ⟨rfl, rfl, rfl, rfl, rfl, rfl, rfl, rfl, rfl, trivial⟩
                     ··refine At.know (t := 48) rfl (decide_eq_false a6) ?_
                       refine At.run 3 rfl ?_; exact At.of (c5 (false, decide (57 < bat a0 p)) j) ⟨rfl, rfl, rfl, rfl, rfl, rfl, rfl, rfl, rfl, trivial⟩
                 ··refine At.know (t := 45) rfl (bn a5) ?_
                   refine At.run 7 rfl ?_; exact At.of (b9 false j) ⟨rfl, rfl, rfl, rfl, rfl, trivial⟩
             ··rcases bite j with ⟨a7, j⟩ | ⟨a7, j⟩
               ··refine At.know (t := 40) rfl (decide_eq_true a7) ?_
                 refine At.run 4 rfl ?_; exact At.of (b8 true j) ⟨rfl, rfl, rfl, rfl, rfl, trivial⟩
               ··refine At.know (t := 40) rfl (decide_eq_false a7) ?_
                 refine At.run 4 rfl ?_; exact At.of (b8 (decide (122 < bor .u8 (bat a0 p) 32)) j) ⟨rfl, rfl, rfl, rfl, rfl, trivial⟩
           ··refine At.condF rfl (decide_eq_false Z) ?_
             refine At.exit ?_; refine At.the ?_; refine At.the ?_; exact fun a w e hs => d7 () (bdn j b6) a w (e.sub trivial) hs
     ··rcases bite j with ⟨a8, j⟩ | ⟨a8, j⟩
       ··refine At.know (t := 23) rfl a8 ?_
         refine At.run 5 rfl ?_; exact At.of (b5 true j) ⟨rfl, rfl, trivial⟩
       ··refine At.know (t := 23) rfl (bn a8) ?_
         refine At.run 1 rfl ?_; obtain ⟨c6, j⟩ := bnone j; refine At.y (Y.ixStr rfl rfl rfl rfl c6.1 c6.2) rfl rfl rfl (At.run 3 rfl ?_); exact At.of (b5 (decide (a2 < bat a0 0)) j) ⟨rfl, rfl, trivial⟩
   ··rcases bite j with ⟨a9, j⟩ | ⟨a9, j⟩
     ··refine At.know (t := 17) rfl a9 ?_
       refine At.run 5 rfl ?_; exact At.of (b4 true j) ⟨rfl, rfl, rfl, trivial⟩
     ··refine At.know (t := 17) rfl (bn a9) ?_
       refine At.run 1 rfl ?_; obtain ⟨c7, j⟩ := bnone j; refine At.y (Y.ixStr rfl rfl rfl rfl c7.1 c7.2) rfl rfl rfl (At.run 3 rfl ?_); exact At.of (b4 (decide (bat a0 0 < a1)) j) ⟨rfl, rfl, rfl, trivial⟩
 ··rcases bite j with ⟨b2, j⟩ | ⟨b2, j⟩
   ··refine At.know (t := 12) rfl (decide_eq_true b2) ?_
     refine At.run 4 rfl ?_; exact At.of (b3 true j) ⟨rfl, rfl, rfl, rfl, trivial⟩
   ··refine At.know (t := 12) rfl (decide_eq_false b2) ?_
     refine At.run 4 rfl ?_; exact At.of (b3 (decide (8 < (a0.length : Int))) j) ⟨rfl, rfl, rfl, rfl, trivial⟩

noncomputable def Q92.f (a0 : Bs) : Option Bool :=
 (Q44.f a0 97 122).bind fun p =>
 jn (
 if p = true then
 (Q96.f a0).bind fun q =>
 some (.inl (!q))
 else
 some (.inl false)) (fun (u : Bool) =>
 some u)
theorem Q92.callee : Callee Tryz.prog 210 := ⟨_, Tryz.func210, by kernel_rfl, by kernel_rfl⟩
theorem Q92.spec {a0 : Bs} {r : Bool} (j : Q92.f a0 = some r) :
 Spec Tryz.prog 210 [.string ⟨(a0).toArray⟩] R (Fr) (fun v l' => v = .bool r ∧ Fr = l') := by
 refine Spec.of Tryz.func210 rfl rfl ?_; unfold Q92.f at j; have j := brun j; refine sR 1 rfl (nT (sR 1 rfl ?_)); obtain ⟨M, D, j⟩ := bbind j; refine At.call rfl Q44.callee rfl rfl rfl (Q44.spec D) ?_; rintro _ _ ⟨rfl, rfl⟩; refine At.run 1 rfl ?_; obtain ⟨G, I, O, j⟩ := bjoin j; refine At.joinO 4 (X := Bool) (fun p => [(9, .bool p)]) (fun p => Fr) (fun p => G (.inl p) = some r) ?_ (fun u => ?_)
 ·rintro p j; have j := (I _).symm.trans j
  ·refine At.run 1 rfl (nT (At.ret ?_)); cases bret j; exact At.res (.inl rfl) rfl rfl ⟨rfl, rfl⟩
 ··rcases bite j with ⟨q, j⟩ | ⟨q, j⟩
   ··refine At.know (t := 5) rfl q ?_
     refine At.run 1 rfl ?_; obtain ⟨J, L, j⟩ := bbind j; refine At.call rfl Q96.callee rfl rfl rfl (Q96.spec L) ?_; rintro _ _ ⟨rfl, rfl⟩; refine At.run 2 rfl ?_; exact At.of (u (!J) j) ⟨rfl, trivial⟩
   ··refine At.know (t := 5) rfl (bn q) ?_
     refine At.run 4 rfl ?_; exact At.of (u false j) ⟨rfl, trivial⟩

noncomputable def Q98.f (a0 : Bs) : Option Bool :=
 (Q44.f a0 65 90).bind fun p =>
 some p
theorem Q98.callee : Callee Tryz.prog 211 := ⟨_, Tryz.func211, by kernel_rfl, by kernel_rfl⟩
theorem Q98.spec {a0 : Bs} {r : Bool} (j : Q98.f a0 = some r) :
 Spec Tryz.prog 211 [.string ⟨(a0).toArray⟩] R (Fr) (fun v l' => v = .bool r ∧ Fr = l') := by
 refine Spec.of Tryz.func211 rfl rfl ?_; unfold Q98.f at j; have j := brun j; refine sR 1 rfl (nT (sR 1 rfl ?_)); obtain ⟨q, p, j⟩ := bbind j; refine At.call rfl Q44.callee rfl rfl rfl (Q44.spec p) ?_; rintro _ _ ⟨rfl, rfl⟩; refine At.run 1 rfl (nT (At.ret ?_)); cases bret j; exact At.res (.inl rfl) rfl rfl ⟨rfl, rfl⟩

noncomputable def Q120.f (p V X : Int) (q : Bs) (Z : Int) : Option (Bool × Int) :=
 jn (
 if p = 1 then
 some (.inl (decide (p = 1)))
 else
 some (.inl (decide (p = 2)))) (fun (u : Bool) =>
 if u = true then
 some (bseq q ([] : Bs), 0)
 else
 if p = 3 then
 (Q92.f q).bind fun D =>
 some (D, 0)
 else
 if p = 4 then
 (Q98.f q).bind fun G =>
 some (G, 0)
 else
 if p = 5 then
 some (bseq q ([] : Bs), 1)
 else
 jn (
 if p = 8 then
 some (.inl (decide (p = 8)))
 else
 some (.inl (decide (p = 9)))) (fun (I : Bool) =>
 if I = true then
 jn (
 if bseq q ([45] : Bs) = true then
 some (.inl true)
 else
 (Q92.f q).bind fun J =>
 some (.inl J)) (fun (L : Bool) =>
 some (L, 1))
 else
 jn (
 if p = 10 then
 some (.inl (decide (p = 10)))
 else
 some (.inl (decide (p = 11)))) (fun (M : Bool) =>
 if M = true then
 (Q98.f q).bind fun O =>
 some (O, 1)
 else
 jn (
 if p = 6 then
 some (.inl (decide (p = 6)))
 else
 some (.inl (decide (p = 7)))) (fun (U : Bool) =>
 if U = true then
 some (bseq q ([] : Bs), 2)
 else
 some (false, 0)))))
theorem Q120.callee : Callee Tryz.prog 161 := ⟨_, Tryz.func161, by kernel_rfl, by kernel_rfl⟩
theorem Q120.spec {p L M O : Int} {U : Bs} {r : Bool × Int} (j : Q120.f p L M U O = some r) :
 Spec Tryz.prog 161 [.agg #[i6 p, i6 L, i6 M, .string ⟨(U).toArray⟩, i6 O]] R (Fr) (fun v l' => v = .tuple #[i6 r.2, .bool r.1] ∧ Fr = l') := by
 refine Spec.of Tryz.func161 rfl rfl ?_; unfold Q120.f at j; have j := brun j; refine At.seq (At.region ?_); refine At.box rfl rfl (cs := [i6 p, i6 L, i6 M, .string ⟨(U).toArray⟩, i6 O]) rfl rfl (fun q => ?_); refine At.run 2 rfl (nT (At.seq (sR 1 rfl (At.y (Y.load rfl rfl .z rfl rfl rfl) rfl rfl rfl ?_)))); refine nT ?_; refine At.block ?_; refine At.seq (sR 2 rfl (nT ?_)); obtain ⟨b7, b8, d6, j⟩ := bjoin j; let T1 : HProp := pc q [i6 p, i6 L, i6 M, .string ⟨(U).toArray⟩, i6 O] 33; refine At.join (X := Bool) (fun u => [(1, bp q), (5, i6 p), (6, .bool u)]) (fun u => T1 :: Fr) (fun u => b7 (.inl u) = some r) ?_ (fun b2 => ?_)
 ·rintro u j; have j := (b8 _).symm.trans j
  ·rcases bite j with ⟨V, j⟩ | ⟨V, j⟩
   ··refine At.condT rfl V ?_
     refine At.seq ?_; refine At.quiet (by kernel_rfl) ?_; refine At.Quiet.run 1 rfl ?_; refine At.Quiet.y (Y.load rfl rfl .z rfl rfl rfl) rfl rfl rfl ?_; refine At.Quiet.run 3 rfl (At.Quiet.nil (At.thn (At.ret ?_))); refine At.ibr ?_; refine At.thr (At.drop .z ?_); cases bret j; exact At.res (.inl rfl) rfl rfl ⟨rfl, rfl⟩
   ··refine At.condF rfl (bn V) ?_
     refine sR 2 rfl (nT ?_); rcases bite j with ⟨Z, j⟩ | ⟨Z, j⟩
     ··refine At.condT rfl (decide_eq_true Z) ?_
       refine sR 1 rfl (At.y (Y.load rfl rfl .z rfl rfl rfl) rfl rfl rfl ?_); obtain ⟨d7, b9, j⟩ := bbind j; refine At.call rfl Q92.callee rfl rfl rfl (Q92.spec b9) ?_; rintro _ _ ⟨rfl, rfl⟩; refine At.run 2 rfl (nT (At.ret ?_)); refine At.ibr ?_; refine At.thr (At.drop .z ?_); cases bret j; exact At.res (.inl rfl) rfl rfl ⟨rfl, rfl⟩
     ··refine At.condF rfl (decide_eq_false Z) ?_
       refine sR 2 rfl (nT ?_); rcases bite j with ⟨a0, j⟩ | ⟨a0, j⟩
       ··refine At.condT rfl (decide_eq_true a0) ?_
         refine sR 1 rfl (At.y (Y.load rfl rfl .z rfl rfl rfl) rfl rfl rfl ?_); obtain ⟨d8, c4, j⟩ := bbind j; refine At.call rfl Q98.callee rfl rfl rfl (Q98.spec c4) ?_; rintro _ _ ⟨rfl, rfl⟩; refine At.run 2 rfl (nT (At.ret ?_)); refine At.ibr ?_; refine At.thr (At.drop .z ?_); cases bret j; exact At.res (.inl rfl) rfl rfl ⟨rfl, rfl⟩
       ··refine At.condF rfl (decide_eq_false a0) ?_
         refine sR 2 rfl (nT ?_); rcases bite j with ⟨a1, j⟩ | ⟨a1, j⟩
         ··refine At.condT rfl (decide_eq_true a1) ?_
           refine At.seq ?_; refine At.quiet (by kernel_rfl) ?_; refine At.Quiet.run 1 rfl ?_; refine At.Quiet.y (Y.load rfl rfl .z rfl rfl rfl) rfl rfl rfl ?_; refine At.Quiet.run 3 rfl (At.Quiet.nil (At.thn (At.ret ?_))); refine At.ibr ?_; refine At.thr (At.drop .z ?_); cases bret j; exact At.res (.inl rfl) rfl rfl ⟨rfl, rfl⟩
         ··refine At.condF rfl (decide_eq_false a1) ?_
           refine At.seq (sR 2 rfl (nT ?_)); obtain ⟨c5, c6, d9, j⟩ := bjoin j; refine At.join (X := Bool) (fun D => [(1, bp q), (5, i6 p), (27, .bool D)]) (fun D => T1 :: Fr) (fun D => c5 (.inl D) = some r) ?_ (fun b3 => ?_)
           ·rintro D j; have j := (c6 _).symm.trans j
            ·rcases bite j with ⟨a2, j⟩ | ⟨a2, j⟩
             ··refine At.condT rfl a2 ?_
               refine sR 1 rfl (At.y (Y.load rfl rfl .z rfl rfl rfl) rfl rfl rfl (At.run 2 rfl ?_)); obtain ⟨c7, c8, e0, j⟩ := bjoin j; refine At.joinO 4 (X := Bool) (fun G => [(37, .bool G)]) (fun G => T1 :: Fr) (fun G => c7 (.inl G) = some r) ?_ (fun b4 => ?_)
               ·rintro G j; have j := (c8 _).symm.trans j
                ·refine At.run 2 rfl (nT (At.ret ?_)); refine At.ibr ?_; refine At.thr (At.drop .z ?_); cases bret j; exact At.res (.inl rfl) rfl rfl ⟨rfl, rfl⟩
               ··rcases bite j with ⟨a3, j⟩ | ⟨a3, j⟩
                 ··refine At.know (t := 33) rfl a3 ?_
                   refine At.run 4 rfl ?_; exact At.of (b4 true j) ⟨rfl, trivial⟩
                 ··refine At.know (t := 33) rfl (bn a3) ?_
                   refine At.run 1 rfl (At.y (Y.load rfl rfl .z rfl rfl rfl) rfl rfl rfl ?_); obtain ⟨c9, d0, j⟩ := bbind j; refine At.call rfl Q92.callee rfl rfl rfl (Q92.spec d0) ?_; rintro _ _ ⟨rfl, rfl⟩; refine At.run 1 rfl ?_; exact At.of (b4 c9 j) ⟨rfl, trivial⟩
             ··refine At.condF rfl (bn a2) ?_
               refine At.seq (sR 2 rfl (nT ?_)); obtain ⟨d1, d2, e1, j⟩ := bjoin j; refine At.join (X := Bool) (fun I => [(1, bp q), (5, i6 p), (38, .bool I)]) (fun I => T1 :: Fr) (fun I => d1 (.inl I) = some r) ?_ (fun b5 => ?_)
               ·rintro I j; have j := (d2 _).symm.trans j
                ·rcases bite j with ⟨a4, j⟩ | ⟨a4, j⟩
                 ··refine At.condT rfl a4 ?_
                   refine sR 1 rfl (At.y (Y.load rfl rfl .z rfl rfl rfl) rfl rfl rfl ?_); obtain ⟨e2, d3, j⟩ := bbind j; refine At.call rfl Q98.callee rfl rfl rfl (Q98.spec d3) ?_; rintro _ _ ⟨rfl, rfl⟩; refine At.run 2 rfl (nT (At.ret ?_)); refine At.ibr ?_; refine At.thr (At.drop .z ?_); cases bret j; exact At.res (.inl rfl) rfl rfl ⟨rfl, rfl⟩
                 ··refine At.condF rfl (bn a4) ?_
                   refine At.seq (sR 2 rfl (nT ?_)); obtain ⟨d4, d5, e3, j⟩ := bjoin j; refine At.join (X := Bool) (fun J => [(1, bp q), (44, .bool J)]) (fun J => T1 :: Fr) (fun J => d4 (.inl J) = some r) ?_ (fun b6 => ?_)
                   ·rintro J j; have j := (d5 _).symm.trans j
                    ·rcases bite j with ⟨a5, j⟩ | ⟨a5, j⟩
                     ··refine At.condT rfl a5 ?_
                       refine At.seq ?_; refine At.quiet (by kernel_rfl) ?_; refine At.Quiet.run 1 rfl ?_; refine At.Quiet.y (Y.load rfl rfl .z rfl rfl rfl) rfl rfl rfl ?_; refine At.Quiet.run 3 rfl (At.Quiet.nil (At.thn (At.ret ?_))); refine At.ibr ?_; refine At.thr (At.drop .z ?_); cases bret j; exact At.res (.inl rfl) rfl rfl ⟨rfl, rfl⟩
                     ··refine At.condF rfl (bn a5) ?_
                       refine At.skip ?_; refine At.ibn ?_; refine At.thn (sR 2 rfl (nT (At.ret (At.drop .z ?_)))); cases bret j; exact At.res (.inl rfl) rfl rfl ⟨rfl, rfl⟩
                   ··rcases bite j with ⟨a6, j⟩ | ⟨a6, j⟩
                     ··refine At.condT rfl (decide_eq_true a6) ?_
                       refine At.skip (At.thn ?_); exact fun a w e hs => b6 (decide (p = 6)) j a w (e.sub ⟨rfl, rfl, trivial⟩) hs
                     ··refine At.condF rfl (decide_eq_false a6) ?_
                       refine At.region (At.run 2 rfl (nT ?_)); exact fun a w e hs => b6 (decide (p = 7)) j a w (e.sub ⟨rfl, rfl, trivial⟩) hs
               ··rcases bite j with ⟨a7, j⟩ | ⟨a7, j⟩
                 ··refine At.condT rfl (decide_eq_true a7) ?_
                   refine At.skip (At.thn ?_); exact fun a w e hs => b5 (decide (p = 10)) j a w (e.sub ⟨rfl, rfl, rfl, trivial⟩) hs
                 ··refine At.condF rfl (decide_eq_false a7) ?_
                   refine At.region (At.run 2 rfl (nT ?_)); exact fun a w e hs => b5 (decide (p = 11)) j a w (e.sub ⟨rfl, rfl, rfl, trivial⟩) hs
           ··rcases bite j with ⟨a8, j⟩ | ⟨a8, j⟩
             ··refine At.condT rfl (decide_eq_true a8) ?_
               refine At.skip (At.thn ?_); exact fun a w e hs => b3 (decide (p = 8)) j a w (e.sub ⟨rfl, rfl, rfl, trivial⟩) hs
             ··refine At.condF rfl (decide_eq_false a8) ?_
               refine At.region (At.run 2 rfl (nT ?_)); exact fun a w e hs => b3 (decide (p = 9)) j a w (e.sub ⟨rfl, rfl, rfl, trivial⟩) hs
 ··rcases bite j with ⟨a9, j⟩ | ⟨a9, j⟩
   ··refine At.condT rfl (decide_eq_true a9) ?_
     refine At.skip (At.thn ?_); exact fun a w e hs => b2 (decide (p = 1)) j a w (e.sub ⟨rfl, rfl, rfl, trivial⟩) hs
   ··refine At.condF rfl (decide_eq_false a9) ?_
     refine At.region (At.run 2 rfl (nT ?_)); exact fun a w e hs => b2 (decide (p = 2)) j a w (e.sub ⟨rfl, rfl, rfl, trivial⟩) hs

noncomputable def Q137.f (a0 : Int) : Option Bool :=
 some (!(decide (a0 = 0)))
theorem Q137.callee : Callee Tryz.prog 162 := ⟨_, Tryz.func162, by kernel_rfl, by kernel_rfl⟩
theorem Q137.spec {a0 : Int} {r : Bool} (j : Q137.f a0 = some r) :
 Spec Tryz.prog 162 [i6 a0] R (Fr) (fun v l' => v = .bool r ∧ Fr = l') := by
 refine Spec.of Tryz.func162 rfl rfl ?_; unfold Q137.f at j; have j := brun j; refine sR 1 rfl (nT (sR 3 rfl ?_)); refine nT (At.ret ?_); cases bret j; exact At.res (.inl rfl) rfl rfl ⟨rfl, rfl⟩

noncomputable def Q54.l0b (a0 : List Int) (p : Int) : Option ((Int) ⊕ ((Unit) ⊕ (Int))) :=
 if p < (a0.length : Int) then
 if (0 : Int) ≤ p ∧ p < (a0.length : Int) then
 (Q137.f (gt a0 p)).bind fun q =>
 if q = true then
 upL (some p)
 else
 nx (IntKind.i64.wrap (p + 1))
 else none
 else
 dn (.inl ())
noncomputable def Q54.l0 (a0 : List Int) (p : Int) : Option ((Unit) ⊕ (Int)) := iter (fun t_ : Int => Q54.l0b a0 t_) p
noncomputable def Q54.f (a0 : List Int) : Option Int :=
 jn (Q54.l0 a0 0) (fun (_ : Unit) =>
 some (-1))
theorem Q54.callee : Callee Tryz.prog 129 := ⟨_, Tryz.func129, by kernel_rfl, by kernel_rfl⟩
theorem Q54.spec {a0 : List Int} (hr0 : RdS (Fl.int .i64).rep R.heap A0 a0) (hn0 : a0.length = n0) (hc0 : n0 ≤ c0) {r : Int} (j : Q54.f a0 = some r) :
 Spec Tryz.prog 129 [.slice A0 n0 c0, .func (.func 162) #[] #[]] R (Fr) (fun v l' => v = i6 r ∧ Fr = l') := by
 subst hn0; refine Spec.of Tryz.func129 rfl rfl ?_; unfold Q54.f at j; have j := brun j; refine sR 1 rfl (nT (At.seq (At.seq (At.region ?_)))); refine At.run 3 rfl (nT ?_); refine At.block ?_; obtain ⟨U, V, Z, j⟩ := bjoin j; obtain ⟨M, G, O⟩ := bsome j; clear j; unfold Q54.l0 at G; obtain ⟨I, u⟩ := Q18.1 G; clear G; refine At.loopJ (X := Int) (Y := Unit) (e0 := 0) (fun p => [(0, .slice A0 a0.length c0), (1, .func (.func 162) #[] #[]), (7, i6 (a0.length : Int)), (8, i6 p)]) (fun p => Fr) (fun m_ => fun p => iterN (fun t_ : Int => Q54.l0b a0 t_) m_ p = some M) I 0 u (fun _ => []) (fun _ => Fr) (fun _ => U (.inl ()) = some r) (fun a w e hs => ⟨e.sub ⟨rfl, rfl, rfl, rfl, trivial⟩, (by exact hs)⟩) ?_ (fun a1 => ?_)
 ·rintro _ j; have j := (V _).symm.trans j
  ·refine At.ibx ?_; refine At.thn (sR 1 rfl (nT (At.ret ?_))); cases bret j; exact At.res (.inl rfl) rfl rfl ⟨rfl, rfl⟩
 ·clear u I; rintro I p u; obtain ⟨a2, f_, a3, hf_, j⟩ := bit u; clear u; have j : (Q54.l0b a0 p).bind _ = some M := j; unfold Q54.l0b at j
  ·refine sR 1 rfl (nT (At.seq ?_)); rcases bite j with ⟨J, j⟩ | ⟨J, j⟩
   ··refine At.condT rfl (decide_eq_true J) ?_
     refine At.skip (At.thn (At.seq ?_)); refine At.block ?_; refine sR 2 rfl (nT (sR 3 rfl ?_)); obtain ⟨D, j⟩ := bnone j; refine At.y (Y.ixRd hr0 rfl rfl rfl rfl rfl rfl rfl D.1 D.2) rfl rfl rfl (At.y (Y.ldFl hr0 rfl (q := 0) rfl rfl D.1 D.2 rfl rfl rfl) rfl rfl rfl ?_); obtain ⟨a5, a4, j⟩ := bbind j; refine At.call rfl Q137.callee rfl rfl rfl (Q137.spec a4) ?_; rintro _ _ ⟨rfl, rfl⟩; refine nT ?_; rcases bite j with ⟨L, j⟩ | ⟨L, j⟩
     ··refine At.condT rfl L ?_
       refine sR 2 rfl (nT (At.ret ?_)); refine At.ibr ?_; refine At.thr ?_; have j := bupL Z O j; refine At.thr ?_; refine At.ibr ?_; refine At.thr ?_; cases bret j; exact At.res (.inl rfl) rfl rfl ⟨rfl, rfl⟩
     ··refine At.condF rfl (bn L) ?_
       refine At.skip ?_; refine At.ibn ?_; refine At.thn (At.region (At.run 2 rfl (At.nil ?_))); have j := bnx hf_ j; exact fun a w e hs => ⟨a2, (IntKind.i64.wrap (p + 1)), a3, j, e.sub ⟨rfl, rfl, rfl, rfl, trivial⟩, hs⟩
   ··refine At.condF rfl (decide_eq_false J) ?_
     refine At.exit ?_; refine At.the ?_; refine At.the ?_; exact fun a w e hs => a1 () (bdn j O) a w (e.sub trivial) hs

noncomputable def Q118.f (a0 : List Int) : Option Bool :=
 (Q54.f a0).bind fun p =>
 some (decide (0 ≤ p))
theorem Q118.callee : Callee Tryz.prog 72 := ⟨_, Tryz.func72, by kernel_rfl, by kernel_rfl⟩
theorem Q118.spec {a0 : List Int} (hr0 : RdS (Fl.int .i64).rep R.heap A0 a0) (hn0 : a0.length = n0) (hc0 : n0 ≤ c0) {r : Bool} (j : Q118.f a0 = some r) :
 Spec Tryz.prog 72 [.slice A0 n0 c0, .func (.func 162) #[] #[]] R (Fr) (fun v l' => v = .bool r ∧ Fr = l') := by
 subst hn0; refine Spec.of Tryz.func72 rfl rfl ?_; unfold Q118.f at j; have j := brun j; refine sR 1 rfl (nT (sR 2 rfl ?_)); obtain ⟨q, p, j⟩ := bbind j; refine At.call rfl Q54.callee rfl rfl rfl (Q54.spec hr0 rfl hc0 p) ?_; rintro _ _ ⟨rfl, rfl⟩; refine At.run 2 rfl (nT (At.ret ?_)); cases bret j; exact At.res (.inl rfl) rfl rfl ⟨rfl, rfl⟩

noncomputable def Q48.l0b (a0 a1 : List Int) (p : Int) : Option ((Int) ⊕ ((Unit) ⊕ (Bool))) :=
 if p < (a0.length : Int) then
 if (0 : Int) ≤ p ∧ p < (a0.length : Int) then
 if (0 : Int) ≤ p ∧ p < (a1.length : Int) then
 if gt a0 p = gt a1 p then
 nx (IntKind.i64.wrap (p + 1))
 else
 upL (some false)
 else none
 else none
 else
 dn (.inl ())
noncomputable def Q48.l0 (a0 a1 : List Int) (p : Int) : Option ((Unit) ⊕ (Bool)) := iter (fun t_ : Int => Q48.l0b a0 a1 t_) p
noncomputable def Q48.f (a0 a1 : List Int) : Option Bool :=
 if (a0.length : Int) = (a1.length : Int) then
 jn (Q48.l0 a0 a1 0) (fun (_ : Unit) =>
 some true)
 else
 some false
theorem Q48.callee : Callee Tryz.prog 163 := ⟨_, Tryz.func163, by kernel_rfl, by kernel_rfl⟩
theorem Q48.spec {a0 a1 : List Int} (hr0 : RdS (Fl.int .i64).rep R.heap A0 a0) (hn0 : a0.length = n0) (hc0 : n0 ≤ c0) (hr1 : RdS (Fl.int .i64).rep R.heap A1 a1) (hn1 : a1.length = n1) (hc1 : n1 ≤ c1) {r : Bool} (j : Q48.f a0 a1 = some r) :
 Spec Tryz.prog 163 [.slice A0 n0 c0, .slice A1 n1 c1] R (Fr) (fun v l' => v = .bool r ∧ Fr = l') := by
 subst hn0; subst hn1; refine Spec.of Tryz.func163 rfl rfl ?_; unfold Q48.f at j; have j := brun j; refine sR 1 rfl (nT (At.seq (At.seq (At.region ?_)))); refine At.run 5 rfl (nT ?_); rcases bite j with ⟨I, j⟩ | ⟨I, j⟩
 ··refine At.condF rfl (nf (decide_eq_true I)) ?_
   refine At.skip (At.thn (At.seq (sR 3 rfl (nT ?_)))); refine At.block ?_; obtain ⟨Z, a2, a3, j⟩ := bjoin j; obtain ⟨U, J, V⟩ := bsome j; clear j; unfold Q48.l0 at J; obtain ⟨L, u⟩ := Q18.1 J; clear J; refine At.loopJ (X := Int) (Y := Unit) (e0 := 0) (fun p => [(0, .slice A0 a0.length c0), (1, .slice A1 a1.length c1), (12, i6 (a0.length : Int)), (13, i6 p)]) (fun p => Fr) (fun m_ => fun p => iterN (fun t_ : Int => Q48.l0b a0 a1 t_) m_ p = some U) L 0 u (fun _ => []) (fun _ => Fr) (fun _ => Z (.inl ()) = some r) (fun a w e hs => ⟨e.sub ⟨rfl, rfl, rfl, rfl, trivial⟩, (by exact hs)⟩) ?_ (fun a4 => ?_)
   ·rintro _ j; have j := (a2 _).symm.trans j
    ·refine At.ibx ?_; refine At.thn (sR 1 rfl (nT (At.ret ?_))); cases bret j; exact At.res (.inl rfl) rfl rfl ⟨rfl, rfl⟩
   ·clear u L; rintro L p u; obtain ⟨a5, f_, a6, hf_, j⟩ := bit u; clear u; have j : (Q48.l0b a0 a1 p).bind _ = some U := j; unfold Q48.l0b at j
    ·refine sR 1 rfl (nT (At.seq ?_)); rcases bite j with ⟨M, j⟩ | ⟨M, j⟩
     ··refine At.condT rfl (decide_eq_true M) ?_
       refine At.skip (At.thn (At.seq ?_)); refine At.block ?_; refine sR 2 rfl (nT (At.seq ?_)); refine At.quiet (by kernel_rfl) ?_; refine At.Quiet.run 2 rfl ?_; obtain ⟨D, j⟩ := bnone j; refine At.Quiet.y (Y.ixRd hr0 rfl rfl rfl rfl rfl rfl rfl D.1 D.2) rfl rfl rfl ?_; refine At.Quiet.y (Y.ldFl hr0 rfl (q := 0) rfl rfl D.1 D.2 rfl rfl rfl) rfl rfl rfl ?_; refine At.Quiet.run 2 rfl ?_; obtain ⟨G, j⟩ := bnone j; refine At.Quiet.y (Y.ixRd hr1 rfl rfl rfl rfl rfl rfl rfl G.1 G.2) rfl rfl rfl ?_; refine At.Quiet.y (Y.ldFl hr1 rfl (q := 0) rfl rfl G.1 G.2 rfl rfl rfl) rfl rfl rfl ?_; refine At.Quiet.run 1 rfl (At.Quiet.nil (At.thn ?_)); rcases bite j with ⟨O, j⟩ | ⟨O, j⟩
       ··refine At.condF rfl (nf (decide_eq_true O)) ?_
         refine At.skip ?_; refine At.ibn ?_; refine At.thn (At.region (At.run 2 rfl (At.nil ?_))); have j := bnx hf_ j; exact fun a w e hs => ⟨a5, (IntKind.i64.wrap (p + 1)), a6, j, e.sub ⟨rfl, rfl, rfl, rfl, trivial⟩, hs⟩
       ··refine At.condT rfl (nt (decide_eq_false O)) ?_
         refine sR 1 rfl (nT (At.ret ?_)); refine At.ibr ?_; refine At.thr ?_; have j := bupL a3 V j; refine At.thr ?_; refine At.ibr ?_; refine At.thr ?_; cases bret j; exact At.res (.inl rfl) rfl rfl ⟨rfl, rfl⟩
     ··refine At.condF rfl (decide_eq_false M) ?_
       refine At.exit ?_; refine At.the ?_; refine At.the ?_; exact fun a w e hs => a4 () (bdn j V) a w (e.sub trivial) hs
 ··refine At.condT rfl (nt (decide_eq_false I)) ?_
   refine sR 1 rfl (nT (At.ret (At.thr ?_))); cases bret j; exact At.res (.inl rfl) rfl rfl ⟨rfl, rfl⟩

noncomputable def Q40.l0b (a0 : List Q1) (q : List Int) (p : Int) : Option (((List Int) × Int) ⊕ (((List Int)) ⊕ (Bool))) :=
 if p < (a0.length : Int) then
 if (0 : Int) ≤ p ∧ p < (a0.length : Int) then
 (Q120.f ((gt a0 p).Kind) ((gt a0 p).A) ((gt a0 p).B) ((gt a0 p).Name) ((gt a0 p).At)).bind fun u =>
 jn (
 if u.1 = true then
 some (.inl (decide ((q.length : Int) < u.2)))
 else
 some (.inl true)) (fun (D : Bool) =>
 if D = true then
 upL (some false)
 else
 if (0 : Int) ≤ u.2 ∧ u.2 ≤ (([((gt a0 p).A), ((gt a0 p).B)] : List Int).length : Int) then
 (Q118.f (([((gt a0 p).A), ((gt a0 p).B)] : List Int).drop u.2.toNat)).bind fun G =>
 jn (
 if G = true then
 some (.inl true)
 else
 if (0 : Int) ≤ IntKind.i64.wrap ((q.length : Int) - u.2) ∧ IntKind.i64.wrap ((q.length : Int) - u.2) ≤ (q.length : Int) then
 (Q48.f (q.drop (IntKind.i64.wrap ((q.length : Int) - u.2)).toNat) (([((gt a0 p).A), ((gt a0 p).B)] : List Int).take u.2.toNat)).bind fun I =>
 some (.inl (!I))
 else none) (fun (J : Bool) =>
 if J = true then
 upL (some false)
 else
 if (0 : Int) ≤ IntKind.i64.wrap ((q.length : Int) - u.2) ∧ IntKind.i64.wrap ((q.length : Int) - u.2) ≤ (q.length : Int) then
 if ((q.take (IntKind.i64.wrap ((q.length : Int) - u.2)).toNat).length + ([p] : List Int).length) * 8 ≤ 140737488355328 then
 nx (((q.take (IntKind.i64.wrap ((q.length : Int) - u.2)).toNat) ++ ([p] : List Int)), IntKind.i64.wrap (p + 1))
 else none
 else none)
 else none)
 else none
 else
 dn (.inl q)
noncomputable def Q40.l0 (a0 : List Q1) (p : List Int) (q : Int) : Option (((List Int)) ⊕ (Bool)) := iter (fun t_ : (List Int) × Int => Q40.l0b a0 t_.1 t_.2) (p, q)
noncomputable def Q40.f (a0 : List Q1) : Option Bool :=
 jn (
 if (a0.length : Int) < 1 then
 some (.inl true)
 else
 some (.inl (decide (60 < (a0.length : Int))))) (fun (p : Bool) =>
 if p = true then
 some false
 else
 jn (Q40.l0 a0 ([] : List Int) 0) (fun (q : List Int) =>
 some (decide ((q.length : Int) = 1))))
theorem Q40.callee : Callee Tryz.prog 133 := ⟨_, Tryz.func133, by kernel_rfl, by kernel_rfl⟩
theorem Q40.spec {a0 : List Q1} (hr0 : RdS Q1.fl.rep R.heap A0 a0) (hn0 : a0.length = n0) (hc0 : n0 ≤ c0) {r : Bool} (j : Q40.f a0 = some r) :
 Spec Tryz.prog 133 [.slice A0 n0 c0] R (Fr) (fun v l' => v = .bool r ∧ Fr = l') := by
 subst hn0; refine Spec.of Tryz.func133 rfl rfl ?_; unfold Q40.f at j; have j := brun j; refine sR 1 rfl (nT (At.seq (At.seq (At.region ?_)))); refine At.run 4 rfl ?_; obtain ⟨d1, d2, g6, j⟩ := bjoin j; refine At.joinO 4 (X := Bool) (fun G => [(0, .slice A0 a0.length c0), (16, .bool G)]) (fun G => Fr) (fun G => d1 (.inl G) = some r) ?_ (fun b5 => ?_)
 ·rintro G j; have j := (d2 _).symm.trans j
  ·refine nT ?_; rcases bite j with ⟨a1, j⟩ | ⟨a1, j⟩
   ··refine At.condT rfl a1 ?_
     refine sR 1 rfl (nT (At.ret (At.thr ?_))); cases bret j; exact At.res (.inl rfl) rfl rfl ⟨rfl, rfl⟩
   ··refine At.condF rfl (bn a1) ?_
     refine At.skip (At.thn (sR 1 rfl (nT (At.seq ?_)))); refine sR 3 rfl (nT ?_); refine At.block ?_; obtain ⟨d3, d4, b6, j⟩ := bjoin j; obtain ⟨M, a2, a3⟩ := bsome j; clear j; unfold Q40.l0 at a2; obtain ⟨a4, I⟩ := Q18.1 a2; clear a2; refine At.nilRow (Fl.int .i64) 3 ?_; refine At.loopJ (X := (List Int) × Int × Nat × (Option Addr) × Nat) (Y := (List Int) × Nat × (Option Addr) × Nat) (e0 := 0) (fun s_ => [(3, .slice s_.2.2.2.1 s_.2.2.1 s_.2.2.2.2), (17, .slice A0 a0.length c0), (18, i6 (a0.length : Int)), (19, i6 s_.2.1)]) (fun s_ => row (Fl.int .i64) 3 s_.2.2.2.1 s_.2.2.1 s_.2.2.2.2 s_.1 :: Fr) (fun m_ => fun s_ => iterN (fun t_ : (List Int) × Int => Q40.l0b a0 t_.1 t_.2) m_ (s_.1, s_.2.1) = some M ∧ s_.1.length = s_.2.2.1) a4 (([] : List Int), 0, 0, none, 0) ⟨I, rfl⟩ (fun s_ => [(3, .slice s_.2.2.1 s_.2.1 s_.2.2.2)]) (fun s_ => row (Fl.int .i64) 3 s_.2.2.1 s_.2.1 s_.2.2.2 s_.1 :: Fr) (fun s_ => d3 (.inl s_.1) = some r ∧ s_.1.length = s_.2.1) (fun a w e hs => ⟨e.sub ⟨rfl, rfl, rfl, rfl, trivial⟩, (by exact hs)⟩) ?_ (fun d5 => ?_)
     ·rintro ⟨d6, d7, g7, g8⟩ ⟨j, d8⟩; obtain rfl : d6.length = d7 := d8; have j := (d4 _).symm.trans j
      ·refine At.ibx ?_; refine At.thn (sR 4 rfl (nT (At.ret (At.drop .z ?_)))); cases bret j; exact At.res (.inl rfl) rfl rfl ⟨rfl, rfl⟩
     ·clear I a4; rintro a4 ⟨u, p, d9, O, U⟩ ⟨I, e1⟩; obtain rfl : u.length = d9 := e1; obtain ⟨e2, f_, e3, hf_, j⟩ := bit I; clear I; have j : (Q40.l0b a0 u p).bind _ = some M := j; unfold Q40.l0b at j
      ·refine sR 1 rfl (nT (At.seq ?_)); rcases bite j with ⟨a5, j⟩ | ⟨a5, j⟩
       ··refine At.condT rfl (decide_eq_true a5) ?_
         refine At.skip (At.thn (At.seq ?_)); refine At.block ?_; refine sR 1 rfl ?_; obtain ⟨V, j⟩ := bnone j; refine At.y (Y.ixRd hr0 rfl rfl rfl rfl rfl rfl rfl V.1 V.2) rfl rfl rfl (At.y (Y.ldFl hr0 rfl (q := 0) rfl rfl V.1 V.2 rfl rfl rfl) rfl rfl rfl ?_); refine At.alloc rfl rfl rfl (fun b7 => ?_); refine At.run 1 rfl ?_; refine At.store rfl rfl rfl rfl .z rfl rfl rfl (.c (.c (.c (.c (.c .n))))) ?_; refine nT (At.seq (At.region (At.y (Y.load rfl rfl .z rfl rfl rfl) rfl rfl rfl ?_))); obtain ⟨D, e4, j⟩ := bbind j; refine At.call rfl Q120.callee rfl rfl rfl (Q120.spec e4) ?_; rintro _ _ ⟨rfl, rfl⟩; refine At.run 5 rfl (nT (At.seq (sR 3 rfl ?_))); obtain ⟨e5, e6, g9, j⟩ := bjoin j; let T2 : HProp := pc b7 [i6 ((gt a0 p).Kind), i6 ((gt a0 p).A), i6 ((gt a0 p).B), .string ⟨((gt a0 p).Name).toArray⟩, i6 ((gt a0 p).At)] 33; refine At.joinO 5 (X := Bool) (fun J => [(3, .slice O u.length U), (4, i6 p), (5, bp b7), (6, i6 D.2), (17, .slice A0 a0.length c0), (18, i6 (a0.length : Int)), (19, i6 p), (36, .bool J)]) (fun J => T2 :: row (Fl.int .i64) 3 O u.length U u :: Fr) (fun J => e5 (.inl J) = some M) ?_ (fun b8 => ?_)
         ·rintro J j; have j := (e6 _).symm.trans j
          ·refine nT ?_; rcases bite j with ⟨a6, j⟩ | ⟨a6, j⟩
           ··refine At.condT rfl a6 ?_
             refine sR 1 rfl (nT (At.ret (At.thr ?_))); refine At.ibr ?_; refine At.thr ?_; have j := bupL b6 a3 j; refine At.thr ?_; refine At.ibr ?_; refine At.thr (At.drop .z (At.drop .z ?_)); cases bret j; exact At.res (.inl rfl) rfl rfl ⟨rfl, rfl⟩
           ··refine At.condF rfl (bn a6) ?_
             refine At.skip (At.thn (sR 1 rfl (At.y (Y.load rfl rfl .z rfl rfl rfl) rfl rfl rfl (At.run 1 rfl (At.y (Y.load rfl rfl .z rfl rfl rfl) rfl rfl rfl ?_))))); refine At.lit rfl (xo := [.tmp 38, .tmp 40]) (ys := ([((gt a0 p).A), ((gt a0 p).B)] : List Int)) (Fl.int .i64) rfl rfl rfl rfl rfl rfl rfl rfl rfl rfl rfl (fun h0 e7 => ?_); refine At.run 1 rfl (nT (At.seq (At.seq ?_))); refine At.freeze .z fun h1 b9 a7 a8 h2 c4 => ?_; refine At.freeze (.s .z) fun c5 e8 e9 f0 c6 c7 => ?_; refine At.quiet (by kernel_rfl) ?_; refine At.Quiet.run 2 rfl ?_; obtain ⟨Z, j⟩ := bnone j; obtain ⟨h3, f1, f2, f3⟩ := Y.slFromAt (P := Tryz.prog) (R := c5) a7 b9 a8 Z.1 Z.2; refine At.Quiet.y (f3 rfl rfl rfl rfl rfl rfl) rfl rfl rfl ?_; obtain ⟨h4, f4, j⟩ := bbind j; refine At.Quiet.call rfl Q118.callee rfl rfl rfl (Q118.spec (RdS.mono c6 f1) rfl f2 f4) (fun _ _ h_ => ⟨h_.1, fun _ hs => h_.2 ▸ hs⟩) ?_; refine At.Quiet.run 1 rfl ?_; obtain ⟨f5, f6, h5, j⟩ := bjoin j; refine At.Quiet.joinO 12 (X := Bool) (fun L => [(3, .slice O u.length U), (4, i6 p), (6, i6 D.2), (17, .slice A0 a0.length c0), (18, i6 (a0.length : Int)), (19, i6 p), (58, .bool L)]) (fun L => T2 :: Fr) (fun L => f5 (.inl L) = some M) ?_ (fun c8 => ?_)
             ·rintro L j; have j := (f6 _).symm.trans j
              ·refine At.Quiet.nil (At.thn ?_); rcases bite j with ⟨a9, j⟩ | ⟨a9, j⟩
               ··refine At.condT rfl a9 ?_
                 refine sR 1 rfl (nT (At.ret (At.thr ?_))); refine At.ibr ?_; refine At.thr ?_; have j := bupL b6 a3 j; refine At.thr ?_; refine At.ibr ?_; refine At.thr ?_; refine At.thaw c7 ?_; refine At.thaw c4 ?_; refine At.drop .z (At.drop .z (At.drop .z ?_)); cases bret j; exact At.res (.inl rfl) rfl rfl ⟨rfl, rfl⟩
               ··refine At.condF rfl (bn a9) ?_
                 refine At.skip (At.thn (At.region (At.run 5 rfl ?_))); refine At.thaw c7 ?_; obtain ⟨c9, j⟩ := bnone j; refine At.cut rfl .z rfl rfl rfl rfl rfl c9.1 c9.2 rfl ?_; refine At.run 1 rfl ?_; refine At.lit rfl (xo := [.tmp 65]) (ys := ([p] : List Int)) (Fl.int .i64) rfl rfl rfl rfl rfl rfl rfl rfl rfl rfl rfl (fun h6 h7 => ?_); obtain ⟨f7, j⟩ := bnone j; refine At.append rfl (.s .z) (Src.own .z (by simp)) rfl rfl rfl rfl rfl rfl rfl rfl f7 (by decide) rfl (fun f8 f9 => ?_); refine At.drop (.s .z) (At.run 1 rfl (At.nil ?_)); refine At.ibn ?_; refine At.thn (At.region (At.run 2 rfl (At.nil ?_))); refine At.thaw c4 ?_; refine At.drop .z (At.drop (.s .z) ?_); have j := bnx hf_ j; exact fun a w e hs => ⟨e2, (((u.take (IntKind.i64.wrap ((u.length : Int) - D.2)).toNat) ++ ([p] : List Int)), IntKind.i64.wrap (p + 1), ((u.take (IntKind.i64.wrap ((u.length : Int) - D.2)).toNat) ++ ([p] : List Int)).length, f8, f9), e3, ⟨j, rfl⟩, e.sub ⟨rfl, rfl, rfl, rfl, trivial⟩, hs⟩
             ··rcases bite j with ⟨b2, j⟩ | ⟨b2, j⟩
               ··refine At.Quiet.know (t := 46) rfl b2 ?_
                 refine At.Quiet.run 12 rfl ?_; exact At.Quiet.of (c8 true j) ⟨rfl, rfl, rfl, rfl, rfl, rfl, rfl, trivial⟩
               ··refine At.Quiet.know (t := 46) rfl (bn b2) ?_
                 refine At.Quiet.run 5 rfl ?_; obtain ⟨d0, j⟩ := bnone j; obtain ⟨h8, g0, g1, g2⟩ := Y.slFromAt (P := Tryz.prog) (R := c5) e9 e8 f0 d0.1 d0.2; refine At.Quiet.y (g2 rfl rfl rfl rfl rfl rfl) rfl rfl rfl ?_; refine At.Quiet.run 2 rfl ?_; have g3 : (([((gt a0 p).A), ((gt a0 p).B)] : List Int).take D.2.toNat).length ≤ e7 := Nat.le_trans (List.length_take_le' _ _) (by have h1_ := (show ([((gt a0 p).A), ((gt a0 p).B)] : List Int).length = ([((gt a0 p).A), ((gt a0 p).B)] : List Int).length from a7); have h2_ := a8; omega); refine At.Quiet.y (Y.slTo a7 rfl rfl rfl rfl rfl a8 Z.1 Z.2) rfl rfl rfl ?_; obtain ⟨g4, g5, j⟩ := bbind j; refine At.Quiet.call rfl Q48.callee rfl rfl rfl (Q48.spec g0 rfl g1 (RdS.mono c6 (RdS.take b9 _)) rfl g3 g5) (fun _ _ h_ => ⟨h_.1, fun _ hs => h_.2 ▸ hs⟩) ?_; refine At.Quiet.run 2 rfl ?_; exact At.Quiet.of (c8 (!g4) j) ⟨rfl, rfl, rfl, rfl, rfl, rfl, rfl, trivial⟩
         ··rcases bite j with ⟨b3, j⟩ | ⟨b3, j⟩
           ··refine At.know (t := 31) rfl (nf b3) ?_
             refine At.run 5 rfl ?_; exact At.of (b8 (decide ((u.length : Int) < D.2)) j) ⟨rfl, rfl, rfl, rfl, rfl, rfl, rfl, rfl, trivial⟩
           ··refine At.know (t := 31) rfl (nt (bn b3)) ?_
             refine At.run 5 rfl ?_; exact At.of (b8 true j) ⟨rfl, rfl, rfl, rfl, rfl, rfl, rfl, rfl, trivial⟩
       ··refine At.condF rfl (decide_eq_false a5) ?_
         refine At.exit ?_; refine At.the ?_; refine At.the ?_; exact fun a w e hs => d5 (u, u.length, O, U) ⟨(bdn j a3), rfl⟩ a w (e.sub ⟨rfl, trivial⟩) hs
 ··rcases bite j with ⟨b4, j⟩ | ⟨b4, j⟩
   ··refine At.know (t := 12) rfl (decide_eq_true b4) ?_
     refine At.run 4 rfl ?_; exact At.of (b5 true j) ⟨rfl, rfl, trivial⟩
   ··refine At.know (t := 12) rfl (decide_eq_false b4) ?_
     refine At.run 4 rfl ?_; exact At.of (b5 (decide (60 < (a0.length : Int))) j) ⟨rfl, rfl, trivial⟩

noncomputable def Q52.l0b (u : List Q1) (q : List Q16) (a1 : Bs) (p : Int) : Option ((Int) ⊕ ((Unit) ⊕ (Bool × Int × Int))) :=
 if 0 ≤ p then
 if (0 : Int) ≤ p ∧ p < (q.length : Int) then
 if (0 : Int) ≤ (gt q p).node ∧ (gt q p).node < (u.length : Int) then
 if bseq ((gt u ((gt q p).node)).Name) a1 = true then
 upL (some (true, (gt q p).node, (gt q p).nots))
 else
 nx (IntKind.i64.wrap (p - 1))
 else none
 else none
 else
 dn (.inl ())
noncomputable def Q52.l0 (p : List Q1) (q : List Q16) (a1 : Bs) (u : Int) : Option ((Unit) ⊕ (Bool × Int × Int)) := iter (fun t_ : Int => Q52.l0b p q a1 t_) u
noncomputable def Q52.f (q : List Q1) (p : List Q16) (u : Int) (D : List Int) (G : List Bool) (I : List Int) (a1 : Bs) : Option (Bool × Int × Int) :=
 jn (Q52.l0 q p a1 (IntKind.i64.wrap ((p.length : Int) - 1))) (fun (_ : Unit) =>
 some (false, 0, 0))
theorem Q52.callee : Callee Tryz.prog 212 := ⟨_, Tryz.func212, by kernel_rfl, by kernel_rfl⟩
theorem Q52.spec {L : List Q1} {p : List Q16} {U : Int} {D G : List Int} {I : List Bool} {a1 : Bs} (hr0_0 : RdS Q1.fl.rep R.heap A0_0 L) (hn0_0 : L.length = n0_0) (hc0_0 : n0_0 ≤ c0_0) (hn0_1 : p.length = n0_1) (hn0_3 : D.length = n0_3) (hn0_4 : I.length = n0_4) (hn0_5 : G.length = n0_5) {r : Bool × Int × Int} (j : Q52.f L p U D I G a1 = some r) :
 Spec Tryz.prog 212 [bp b0, .string ⟨(a1).toArray⟩] R (pc b0 [.slice A0_0 n0_0 c0_0, .slice A0_1 n0_1 c0_1, i6 U, .slice A0_3 n0_3 c0_3, .slice A0_4 n0_4 c0_4, .slice A0_5 n0_5 c0_5] 190 :: row Q16.fl 242 A0_1 n0_1 c0_1 p :: row (Fl.int .i64) 3 A0_3 n0_3 c0_3 D :: row Fl.bool 4 A0_4 n0_4 c0_4 I :: row (Fl.int .i64) 3 A0_5 n0_5 c0_5 G :: Fr) (fun v l' => v = .tuple #[.agg #[i6 r.2.1, i6 r.2.2], .bool r.1] ∧ pc b0 [.slice A0_0 n0_0 c0_0, .slice A0_1 n0_1 c0_1, i6 U, .slice A0_3 n0_3 c0_3, .slice A0_4 n0_4 c0_4, .slice A0_5 n0_5 c0_5] 190 :: row Q16.fl 242 A0_1 n0_1 c0_1 p :: row (Fl.int .i64) 3 A0_3 n0_3 c0_3 D :: row Fl.bool 4 A0_4 n0_4 c0_4 I :: row (Fl.int .i64) 3 A0_5 n0_5 c0_5 G :: Fr = l') := by
 subst hn0_0; subst hn0_1; subst hn0_3; subst hn0_4; subst hn0_5; refine Spec.of Tryz.func212 rfl rfl ?_; unfold Q52.f at j; have j := brun j; refine At.seq (At.region ?_); refine At.alloc rfl rfl rfl (fun V => ?_); refine At.run 1 rfl (nT (At.seq (sR 3 rfl (At.y (Y.load rfl rfl (.s .z) rfl rfl rfl) rfl rfl rfl ?_)))); refine At.run 3 rfl (nT ?_); refine At.block ?_; obtain ⟨a6, a7, a8, j⟩ := bjoin j; obtain ⟨a4, Z, a5⟩ := bsome j; clear j; unfold Q52.l0 at Z; obtain ⟨a0, O⟩ := Q18.1 Z; clear Z; let T3 : HProp := pt V (.cells ([i6 0, i6 0] : List Value).toArray 242); let T4 : HProp := pc b0 [.slice A0_0 L.length c0_0, .slice A0_1 p.length c0_1, i6 U, .slice A0_3 D.length c0_3, .slice A0_4 I.length c0_4, .slice A0_5 G.length c0_5] 190; let T5 : HProp := row Q16.fl 242 A0_1 p.length c0_1 p; let T6 : HProp := row (Fl.int .i64) 3 A0_3 D.length c0_3 D; let T7 : HProp := row Fl.bool 4 A0_4 I.length c0_4 I; let T8 : HProp := row (Fl.int .i64) 3 A0_5 G.length c0_5 G; refine At.loopJ (X := Int) (Y := Unit) (e0 := 0) (fun J => [(0, bp b0), (1, .string ⟨(a1).toArray⟩), (4, bp V), (6, i6 J)]) (fun J => T3 :: T4 :: T5 :: T6 :: T7 :: T8 :: Fr) (fun m_ => fun J => iterN (fun t_ : Int => Q52.l0b L p a1 t_) m_ J = some a4) a0 (IntKind.i64.wrap ((p.length : Int) - 1)) O (fun _ => [(4, bp V)]) (fun _ => T3 :: T4 :: T5 :: T6 :: T7 :: T8 :: Fr) (fun _ => a6 (.inl ()) = some r) (fun a w e hs => ⟨e.sub ⟨rfl, rfl, rfl, rfl, trivial⟩, (by exact hs)⟩) ?_ (fun a9 => ?_)
 ·rintro _ j; have j := (a7 _).symm.trans j
  ·refine At.ibx ?_; refine At.thn (At.seq (At.region ?_)); refine At.y (Y.build (is := []) (xo := []) (vs := []) (cs := [i6 0, i6 0]) rfl rfl rfl rfl rfl rfl) rfl rfl rfl ?_; refine At.store rfl rfl rfl rfl .z rfl rfl rfl (.c (.c .n)) ?_; refine At.run 1 rfl (nT (At.ret ?_)); refine At.resM (.inl rfl) rfl (RV.cell rfl rfl .z rfl rfl rfl (RV.tmp rfl RV.nil)) ?_; refine At.drop .z ?_; cases bret j; exact fun a w e hs => ⟨_, ⟨rfl, rfl⟩, hs⟩
 ·clear O a0; rintro a0 J O; obtain ⟨b2, f_, b3, hf_, j⟩ := bit O; clear O; have j : (Q52.l0b L p a1 J).bind _ = some a4 := j; unfold Q52.l0b at j
  ·refine At.seq (sR 2 rfl (nT ?_)); rcases bite j with ⟨a2, j⟩ | ⟨a2, j⟩
   ··refine At.condT rfl (decide_eq_true a2) ?_
     refine At.skip (At.thn (At.seq ?_)); refine At.block ?_; refine At.seq ?_; refine At.quiet (by kernel_rfl) ?_; refine At.Quiet.run 3 rfl ?_; refine At.Quiet.y (Y.load rfl rfl (.s .z) rfl rfl rfl) rfl rfl rfl ?_; refine At.Quiet.run 3 rfl ?_; refine At.Quiet.y (Y.load rfl rfl (.s .z) rfl rfl rfl) rfl rfl rfl ?_; refine At.Quiet.run 1 rfl ?_; obtain ⟨u, j⟩ := bnone j; refine At.Quiet.y (Y.ix (.s (.s .z)) rfl rfl rfl rfl rfl rfl u.1 u.2) rfl rfl rfl ?_; refine At.Quiet.y (Y.faOwn (.s (.s .z)) u.1 u.2 rfl rfl rfl rfl rfl rfl) rfl rfl rfl ?_; refine At.Quiet.y (Y.ld (.s (.s .z)) (q := 0) rfl rfl u.1 u.2 rfl rfl rfl) rfl rfl rfl ?_; obtain ⟨M, j⟩ := bnone j; refine At.Quiet.y (Y.ixRd hr0_0 rfl rfl rfl rfl rfl rfl rfl M.1 M.2) rfl rfl rfl ?_; refine At.Quiet.y (Y.fa (RdS.some_ hr0_0 rfl M.1 M.2) rfl rfl rfl rfl rfl rfl) rfl rfl rfl ?_; refine At.Quiet.y (Y.ldFl hr0_0 rfl (q := 3) rfl rfl M.1 M.2 rfl rfl rfl) rfl rfl rfl ?_; refine At.Quiet.run 2 rfl (At.Quiet.nil (At.thn ?_)); rcases bite j with ⟨a3, j⟩ | ⟨a3, j⟩
     ··refine At.condT rfl a3 ?_
       refine sR 3 rfl (At.y (Y.load rfl rfl (.s .z) rfl rfl rfl) rfl rfl rfl (At.run 1 rfl (At.y (Y.ix (.s (.s .z)) rfl rfl rfl rfl rfl rfl u.1 u.2) rfl rfl rfl (At.y (Y.ld (.s (.s .z)) (q := 0) rfl rfl u.1 u.2 rfl rfl rfl) rfl rfl rfl ?_)))); refine At.store rfl rfl rfl rfl .z rfl rfl rfl (.c (.c .n)) ?_; refine At.run 1 rfl (nT (At.ret ?_)); refine At.ibr ?_; refine At.thr ?_; have j := bupL a8 a5 j; refine At.thr ?_; refine At.ibr ?_; refine At.thr ?_; refine At.resM (.inl rfl) rfl (RV.cell rfl rfl .z rfl rfl rfl (RV.tmp rfl RV.nil)) ?_; refine At.drop .z ?_; cases bret j; exact fun a w e hs => ⟨_, ⟨rfl, rfl⟩, hs⟩
     ··refine At.condF rfl (bn a3) ?_
       refine At.skip ?_; refine At.ibn ?_; refine At.thn (At.region (At.run 3 rfl (At.nil ?_))); have j := bnx hf_ j; exact fun a w e hs => ⟨b2, (IntKind.i64.wrap (J - 1)), b3, j, e.sub ⟨rfl, rfl, rfl, rfl, trivial⟩, hs⟩
   ··refine At.condF rfl (decide_eq_false a2) ?_
     refine At.exit ?_; refine At.the ?_; refine At.the ?_; exact fun a w e hs => a9 () (bdn j a5) a w (e.sub ⟨rfl, trivial⟩) hs

noncomputable def Q24.g (self_ : (List Q1) → (List Q16) → Int → (List Int) → (List Bool) → (List Int) → Int → Option ((List Bool) × (List Int) × (List Q16) × (List Int) × Int)) (p : List Q1) (G : List Q16) (u : Int) (I : List Int) (J : List Bool) (q : List Int) (a1 : Int) : Option ((List Bool) × (List Int) × (List Q16) × (List Int) × Int) :=
 if (0 : Int) ≤ a1 ∧ a1 < (p.length : Int) then
 if (gt p a1).Kind = 4 then
 (Q52.f p G u I J q ((gt p a1).Name)).bind fun V =>
 if V.1 = true then
 if (0 : Int) ≤ a1 ∧ a1 < (I.length : Int) then
 if (0 : Int) ≤ a1 ∧ a1 < (J.length : Int) then
 some ((st J a1 (!(decide ((Int.tmod (IntKind.i64.wrap (u - V.2.2)) 2) = 0)))), (st I a1 V.2.1), G, q, u)
 else none
 else none
 else
 some (J, I, G, q, u)
 else
 if (gt p a1).Kind = 5 then
 (self_ p G (IntKind.i64.wrap (u + 1)) I J q ((gt p a1).A)).bind fun M =>
 if (0 : Int) ≤ (gt p a1).A ∧ (gt p a1).A < (q.length : Int) then
 if (0 : Int) ≤ a1 ∧ a1 < (q.length : Int) then
 some (M.1, M.2.1, M.2.2.1, (st M.2.2.2.1 a1 (gt M.2.2.2.1 ((gt p a1).A))), IntKind.i64.wrap (M.2.2.2.2 - 1))
 else none
 else none
 else
 jn (
 if (gt p a1).Kind = 8 then
 some (.inl (decide ((gt p a1).Kind = 8)))
 else
 some (.inl (decide ((gt p a1).Kind = 9)))) (fun (X : Bool) =>
 if X = true then
 (self_ p G u I J q ((gt p a1).A)).bind fun O =>
 if (0 : Int) ≤ (gt p a1).A ∧ (gt p a1).A < (q.length : Int) then
 if (0 : Int) ≤ a1 ∧ a1 < (q.length : Int) then
 some (O.1, O.2.1, O.2.2.1, (st O.2.2.2.1 a1 (gt O.2.2.2.1 ((gt p a1).A))), O.2.2.2.2)
 else none
 else none
 else
 jn (
 if (gt p a1).Kind = 6 then
 some (.inl (decide ((gt p a1).Kind = 6)))
 else
 some (.inl (decide ((gt p a1).Kind = 7)))) (fun (Z : Bool) =>
 if Z = true then
 (self_ p G u I J q ((gt p a1).A)).bind fun U =>
 (self_ p U.2.2.1 U.2.2.2.2 U.2.1 U.1 U.2.2.2.1 ((gt p a1).B)).bind fun L =>
 if (0 : Int) ≤ (gt p a1).A ∧ (gt p a1).A < (q.length : Int) then
 if (0 : Int) ≤ (gt p a1).B ∧ (gt p a1).B < (q.length : Int) then
 if (0 : Int) ≤ a1 ∧ a1 < (q.length : Int) then
 some (L.1, L.2.1, L.2.2.1, (st L.2.2.2.1 a1 (if gt L.2.2.2.1 ((gt p a1).A) < gt L.2.2.2.1 ((gt p a1).B) then gt L.2.2.2.1 ((gt p a1).B) else gt L.2.2.2.1 ((gt p a1).A))), L.2.2.2.2)
 else none
 else none
 else none
 else
 jn (
 if (gt p a1).Kind = 10 then
 some (.inl (decide ((gt p a1).Kind = 10)))
 else
 some (.inl (decide ((gt p a1).Kind = 11)))) (fun (a0 : Bool) =>
 if a0 = true then
 if (G.length + ([(⟨a1, u⟩ : Q16)] : List Q16).length) * 16 ≤ 140737488355328 then
 (self_ p (G ++ ([(⟨a1, u⟩ : Q16)] : List Q16)) u I J q ((gt p a1).A)).bind fun D =>
 if (0 : Int) ≤ IntKind.i64.wrap ((D.2.2.1.length : Int) - 1) ∧ IntKind.i64.wrap ((D.2.2.1.length : Int) - 1) ≤ (D.2.2.1.length : Int) then
 if (0 : Int) ≤ (gt p a1).A ∧ (gt p a1).A < (q.length : Int) then
 if (0 : Int) ≤ a1 ∧ a1 < (q.length : Int) then
 some (D.1, D.2.1, (D.2.2.1.take (IntKind.i64.wrap ((D.2.2.1.length : Int) - 1)).toNat), (st D.2.2.2.1 a1 (IntKind.i64.wrap (gt D.2.2.2.1 ((gt p a1).A) + 1))), D.2.2.2.2)
 else none
 else none
 else none
 else none
 else
 some (J, I, G, q, u))))
 else none
noncomputable def Q24.n : Nat → (List Q1) → (List Q16) → Int → (List Int) → (List Bool) → (List Int) → Int → Option ((List Bool) × (List Int) × (List Q16) × (List Int) × Int)
 | 0, _, _, _, _, _, _, _ => none
 | k_ + 1, a0_0, a0_1, a0_2, a0_3, a0_4, a0_5, a1 => Q24.g (Q24.n k_) a0_0 a0_1 a0_2 a0_3 a0_4 a0_5 a1
noncomputable def Q24.f (p : List Q1) (q : List Q16) (u : Int) (D : List Int) (G : List Bool) (I : List Int) (a1 : Int) : Option ((List Bool) × (List Int) × (List Q16) × (List Int) × Int) := recF fun k_ => Q24.n k_ p q u D G I a1
theorem Q24.callee : Callee Tryz.prog 164 := ⟨_, Tryz.func164, by kernel_rfl, by kernel_rfl⟩
theorem Q24.specN (k_ : Nat) : ∀ (R : Res) (Fr : List HProp) (b0 : Nat) (A0_0 : Option Addr) (n0_0 : Nat) (c0_0 : Nat) (A0_1 : Option Addr) (n0_1 : Nat) (c0_1 : Nat) (A0_3 : Option Addr) (n0_3 : Nat) (c0_3 : Nat) (A0_4 : Option Addr) (n0_4 : Nat) (c0_4 : Nat) (A0_5 : Option Addr) (n0_5 : Nat) (c0_5 : Nat) (p : List Q1) (I : List Q16) (J : Int) (D : List Int) (G : List Bool) (u : List Int) (a1 : Int) (hr0_0 : RdS Q1.fl.rep R.heap A0_0 p) (hn0_0 : p.length = n0_0) (hc0_0 : n0_0 ≤ c0_0) (hn0_1 : I.length = n0_1) (hn0_3 : D.length = n0_3) (hn0_4 : G.length = n0_4) (hn0_5 : u.length = n0_5) {r : (List Bool) × (List Int) × (List Q16) × (List Int) × Int} (j : Q24.n k_ p I J D G u a1 = some r),
 Spec Tryz.prog 164 [bp b0, i6 a1] R (pc b0 [.slice A0_0 n0_0 c0_0, .slice A0_1 n0_1 c0_1, i6 J, .slice A0_3 n0_3 c0_3, .slice A0_4 n0_4 c0_4, .slice A0_5 n0_5 c0_5] 190 :: row Q16.fl 242 A0_1 n0_1 c0_1 I :: row (Fl.int .i64) 3 A0_3 n0_3 c0_3 D :: row Fl.bool 4 A0_4 n0_4 c0_4 G :: row (Fl.int .i64) 3 A0_5 n0_5 c0_5 u :: Fr) (fun v l' => ∃ (b8 : Nat) (d7 : Option Addr) (d8 : Nat), v = .tuple #[] ∧ pc b0 [.slice A0_0 n0_0 c0_0, .slice d7 b8 d8, i6 r.2.2.2.2, .slice A0_3 n0_3 c0_3, .slice A0_4 n0_4 c0_4, .slice A0_5 n0_5 c0_5] 190 :: row Q16.fl 242 d7 b8 d8 r.2.2.1 :: row (Fl.int .i64) 3 A0_3 n0_3 c0_3 r.2.1 :: row Fl.bool 4 A0_4 n0_4 c0_4 r.1 :: row (Fl.int .i64) 3 A0_5 n0_5 c0_5 r.2.2.2.1 :: Fr = l' ∧ r.2.2.1.length = b8) := by
 induction k_ with
 | zero => intro R Fr b0 A0_0 n0_0 c0_0 A0_1 n0_1 c0_1 A0_3 n0_3 c0_3 A0_4 n0_4 c0_4 A0_5 n0_5 c0_5 p I J D G u a1 hr0_0 hn0_0 hc0_0 hn0_1 hn0_3 hn0_4 hn0_5 r j; cases j
 | succ k_ ih =>
  intro R Fr b0 A0_0 n0_0 c0_0 A0_1 n0_1 c0_1 A0_3 n0_3 c0_3 A0_4 n0_4 c0_4 A0_5 n0_5 c0_5 p I J D G u a1 hr0_0 hn0_0 hc0_0 hn0_1 hn0_3 hn0_4 hn0_5 r j; have j : Q24.g (Q24.n k_) p I J D G u a1 = some r := j; generalize Q24.n k_ = self_ at ih j; subst hn0_0; subst hn0_1; subst hn0_3; subst hn0_4; subst hn0_5; refine Spec.of Tryz.func164 rfl rfl ?_; unfold Q24.g at j; have j := brun j; refine sR 3 rfl (At.y (Y.load rfl rfl .z rfl rfl rfl) rfl rfl rfl (At.run 1 rfl ?_)); obtain ⟨a2, j⟩ := bnone j; refine At.y (Y.ixRd hr0_0 rfl rfl rfl rfl rfl rfl rfl a2.1 a2.2) rfl rfl rfl (At.y (Y.ldFl hr0_0 rfl (q := 0) rfl rfl a2.1 a2.2 rfl rfl rfl) rfl rfl rfl ?_); refine At.alloc rfl rfl rfl (fun M => ?_); refine At.store rfl rfl rfl rfl .z rfl rfl rfl (.c (.c (.c (.c (.c .n))))) ?_; refine nT (sR 1 rfl (At.y (Y.load rfl rfl .z rfl rfl rfl) rfl rfl rfl (nT ?_))); refine At.block ?_; refine sR 2 rfl (nT ?_); rcases bite j with ⟨b9, j⟩ | ⟨b9, j⟩
  ··refine At.condT rfl (decide_eq_true b9) ?_
    refine sR 2 rfl (At.y (Y.load rfl rfl .z rfl rfl rfl) rfl rfl rfl (At.f5 (At.f5 (At.f5 (At.f5 ?_))))); refine At.f5 ?_; obtain ⟨a3, e5, j⟩ := bbind j; refine At.call rfl Q52.callee rfl rfl rfl (Q52.spec hr0_0 rfl hc0_0 rfl rfl rfl rfl e5) ?_; rintro _ _ ⟨rfl, rfl⟩; refine At.run 3 rfl ?_; refine At.alloc rfl rfl rfl (fun e6 => ?_); refine At.store rfl rfl rfl rfl .z rfl rfl rfl (.c (.c .n)) ?_; refine At.run 1 rfl (nT (sR 1 rfl (nT ?_))); rcases bite j with ⟨c4, j⟩ | ⟨c4, j⟩
    ··refine At.condT rfl c4 ?_
      refine At.held [pc e6 [i6 a3.2.1, i6 a3.2.2] 242, pc b0 [.slice A0_0 p.length c0_0, .slice A0_1 I.length c0_1, i6 J, .slice A0_3 D.length c0_3, .slice A0_4 G.length c0_4, .slice A0_5 u.length c0_5] 190, row Q16.fl 242 A0_1 I.length c0_1 I, row (Fl.int .i64) 3 A0_5 u.length c0_5 u, pc M [i6 ((gt p a1).Kind), i6 ((gt p a1).A), i6 ((gt p a1).B), .string ⟨((gt p a1).Name).toArray⟩, i6 ((gt p a1).At)] 33] 25 rfl ?_; refine At.H.pw 0 rfl rfl rfl rfl rfl (.c .z (.c .z (.c .z (.c (.s (.s .z)) (.c (.s (.s .z)) .n))))) ?_; refine At.H.pw 1 rfl rfl rfl rfl rfl (.c .z (.c .z (.c .z (.c (.s (.s .z)) (.c (.s (.s .z)) .n))))) ?_; refine At.H.pw 2 rfl rfl rfl rfl rfl (.c .z (.c .z (.c .z (.c (.s (.s .z)) (.c (.s (.s .z)) .n))))) ?_; refine At.H.tw 3 rfl (Y.load rfl rfl (.s .z) rfl rfl rfl) rfl rfl rfl (.c .z (.c .z (.c .z (.c (.s (.s .z)) (.c (.s (.s .z)) .n))))) ?_; refine At.H.pw 4 rfl rfl rfl rfl rfl (.c .z (.c .z (.c .z (.c (.s (.s .z)) (.c (.s (.s .z)) .n))))) ?_; refine At.H.pw 5 rfl rfl rfl rfl rfl (.c .z (.c .z (.c .z (.c (.s (.s .z)) (.c (.s (.s .z)) .n))))) ?_; refine At.H.pw 6 rfl rfl rfl rfl rfl (.c .z (.c .z (.c .z (.c (.s (.s .z)) (.c (.s (.s .z)) .n))))) ?_; refine At.H.pw 7 rfl rfl rfl rfl rfl (.c .z (.c .z (.c .z (.c (.s (.s .z)) (.c (.s (.s .z)) .n))))) ?_; refine At.H.tw 8 rfl (Y.load rfl rfl (.s .z) rfl rfl rfl) rfl rfl rfl (.c .z (.c .z (.c .z (.c (.s (.s .z)) (.c (.s (.s .z)) .n))))) ?_; refine At.H.pw 9 rfl rfl rfl rfl rfl (.c .z (.c .z (.c .z (.c (.s (.s .z)) (.c (.s (.s .z)) .n))))) ?_; refine At.H.pw 10 rfl rfl rfl rfl rfl (.c .z (.c .z (.c .z (.c (.s (.s .z)) (.c (.s (.s .z)) .n))))) ?_; refine At.H.tw 11 rfl (Y.load rfl rfl .z rfl rfl rfl) rfl rfl rfl (.c .z (.c .z (.c .z (.c (.s (.s .z)) (.c (.s (.s .z)) .n))))) ?_; refine At.H.pw 12 rfl rfl rfl rfl rfl (.c .z (.c .z (.c .z (.c (.s (.s .z)) (.c (.s (.s .z)) .n))))) ?_; refine At.H.pw 13 rfl rfl rfl rfl rfl (.c .z (.c .z (.c .z (.c (.s (.s .z)) (.c (.s (.s .z)) .n))))) ?_; refine At.H.pw 14 rfl rfl rfl rfl rfl (.c .z (.c .z (.c .z (.c (.s (.s .z)) (.c (.s (.s .z)) .n))))) ?_; refine At.H.tw 15 rfl (Y.load rfl rfl (.s .z) rfl rfl rfl) rfl rfl rfl (.c .z (.c .z (.c .z (.c (.s (.s .z)) (.c (.s (.s .z)) .n))))) ?_; refine At.H.pw 16 rfl rfl rfl rfl rfl (.c .z (.c .z (.c .z (.c (.s (.s .z)) (.c (.s (.s .z)) .n))))) ?_; refine At.H.tw 17 rfl (Y.load rfl rfl .z rfl rfl rfl) rfl rfl rfl (.c .z (.c .z (.c .z (.c (.s (.s .z)) (.c (.s (.s .z)) .n))))) ?_; refine At.H.pw 18 rfl rfl rfl rfl rfl (.c .z (.c .z (.c .z (.c (.s (.s .z)) (.c (.s (.s .z)) .n))))) ?_; refine At.H.tw 19 rfl (Y.rem rfl rfl (by decide)) rfl rfl rfl (.c .z (.c .z (.c .z (.c (.s (.s .z)) (.c (.s (.s .z)) .n))))) ?_; refine At.H.pw 20 rfl rfl rfl rfl rfl (.c .z (.c .z (.c .z (.c (.s (.s .z)) (.c (.s (.s .z)) .n))))) ?_; refine At.H.al [21] (Q6 ?_ Q8)
      ··refine At.HO.op rfl ?_
        obtain ⟨a4, j⟩ := bnone j; refine At.y (Y.ix (.s (.s (.s .z))) rfl rfl rfl rfl rfl rfl a4.1 a4.2) rfl rfl rfl ?_; refine At.HO.back (.c .z (.c .z (.c .z (.c (.s (.s .z)) (.c (.s (.s .z)) .n))))) ?_; refine At.H.al [22] (Q6 ?_ Q8)
        ··refine At.HO.op rfl ?_
          refine At.st rfl (.s (.s (.s .z))) (q := 0) (z := a3.2.1) rfl rfl rfl a4.1 a4.2 rfl rfl (.c .n) ?_; refine At.HO.back (.c (.s .z) (.c (.s .z) (.c (.s .z) (.c (.s (.s .z)) (.c (.s (.s .z)) .n))))) ?_; refine At.H.al [23] (Q6 ?_ Q8)
          ··refine At.HO.op rfl ?_
            obtain ⟨a5, j⟩ := bnone j; refine At.y (Y.ix (.s (.s (.s (.s .z)))) rfl rfl rfl rfl rfl rfl a5.1 a5.2) rfl rfl rfl ?_; refine At.HO.back (.c (.s .z) (.c (.s .z) (.c (.s .z) (.c (.s (.s .z)) (.c (.s (.s .z)) .n))))) ?_; refine At.H.al [24] (Q6 ?_ Q8)
            ··refine At.HO.op rfl ?_
              refine At.st rfl (.s (.s (.s (.s .z)))) (q := 0) (z := (!(decide ((Int.tmod (IntKind.i64.wrap (J - a3.2.2)) 2) = 0)))) rfl rfl rfl a5.1 a5.2 rfl rfl (.c .n) ?_; refine At.HO.back (.c (.s (.s .z)) (.c (.s (.s .z)) (.c (.s (.s .z)) (.c (.s (.s .z)) (.c (.s (.s .z)) .n))))) ?_; refine At.H.done (by kernel_rfl) ?_; refine At.ibn ?_; refine At.drop (.s (.s .z)) (At.drop (.s (.s (.s (.s (.s .z))))) (At.f4 (At.f1 (At.f2 (At.f4 (At.f4 ?_)))))); cases bret j; exact At.res (.inr rfl) rfl rfl ⟨I.length, A0_1, c0_1, rfl, rfl, rfl⟩
    ··refine At.condF rfl (bn c4) ?_
      refine At.skip ?_; refine At.ibn ?_; refine At.drop .z (At.drop (.s (.s (.s (.s (.s .z))))) ?_); cases bret j; exact At.res (.inr rfl) rfl rfl ⟨I.length, A0_1, c0_1, rfl, rfl, rfl⟩
  ··refine At.condF rfl (decide_eq_false b9) ?_
    refine sR 2 rfl (nT ?_); rcases bite j with ⟨c5, j⟩ | ⟨c5, j⟩
    ··refine At.condT rfl (decide_eq_true c5) ?_
      refine sR 3 rfl (At.y (Y.load rfl rfl (.s .z) rfl rfl rfl) rfl rfl rfl (At.run 3 rfl ?_)); refine At.store rfl rfl rfl rfl (.s .z) rfl rfl rfl (.s (.s (.c .n))) ?_; refine nT (sR 2 rfl (At.y (Y.load rfl rfl (.s .z) rfl rfl rfl) rfl rfl rfl (At.f5 (At.f5 ?_)))); refine At.f5 (At.f5 (At.f4 ?_)); obtain ⟨d9, e7, j⟩ := bbind j; refine At.call rfl Q24.callee rfl rfl rfl (ih _ _ b0 A0_0 p.length c0_0 A0_1 I.length c0_1 A0_3 D.length c0_3 A0_4 G.length c0_4 A0_5 u.length c0_5 p I (IntKind.i64.wrap (J + 1)) D G u ((gt p a1).A) hr0_0 rfl hc0_0 rfl rfl rfl rfl e7) ?_; rintro _ _ ⟨k3, e8, e9, rfl, rfl, rfl⟩; refine nT (sR 3 rfl (At.y (Y.load rfl rfl .z rfl rfl rfl) rfl rfl rfl (At.run 3 rfl ?_))); refine At.store rfl rfl rfl rfl .z rfl rfl rfl (.s (.s (.c .n))) ?_; refine nT ?_; refine At.still 14 (by kernel_rfl) ?_; refine At.Still.run 3 rfl ?_; refine At.Still.y (Y.load rfl rfl .z rfl rfl rfl) rfl rfl rfl ?_; refine At.Still.run 4 rfl ?_; refine At.Still.y (Y.load rfl rfl .z rfl rfl rfl) rfl rfl rfl ?_; refine At.Still.run 1 rfl ?_; refine At.Still.y (Y.load rfl rfl (.s (.s (.s (.s (.s .z))))) rfl rfl rfl) rfl rfl rfl ?_; obtain ⟨a6, j⟩ := bnone j; refine At.Still.y (Y.ix (.s (.s (.s (.s .z)))) rfl rfl rfl rfl rfl rfl a6.1 a6.2) rfl rfl rfl ?_; refine At.Still.y (Y.ld (.s (.s (.s (.s .z)))) (q := 0) rfl rfl a6.1 a6.2 rfl rfl rfl) rfl rfl rfl ?_; obtain ⟨a7, j⟩ := bnone j; refine At.Still.y (Y.ix (.s (.s (.s (.s .z)))) rfl rfl rfl rfl rfl rfl a7.1 a7.2) rfl rfl rfl ?_; refine At.Still.nil ?_; refine At.st rfl (.s (.s (.s (.s .z)))) (q := 0) (z := (gt d9.2.2.2.1 ((gt p a1).A))) rfl rfl rfl a7.1 a7.2 rfl rfl (.c .n) ?_; refine At.nil ?_; refine At.ibn ?_; refine At.drop (.s (.s (.s (.s (.s .z))))) (At.f4 (At.f4 (At.f4 (At.f4 ?_)))); cases bret j; exact At.res (.inr rfl) rfl rfl ⟨d9.2.2.1.length, e8, e9, rfl, rfl, rfl⟩
    ··refine At.condF rfl (decide_eq_false c5) ?_
      refine At.seq (sR 2 rfl (nT ?_)); obtain ⟨f0, f3, k4, j⟩ := bjoin j; let T9 : HProp := pc M [i6 ((gt p a1).Kind), i6 ((gt p a1).A), i6 ((gt p a1).B), .string ⟨((gt p a1).Name).toArray⟩, i6 ((gt p a1).At)] 33; let c6 : HProp := pc b0 [.slice A0_0 p.length c0_0, .slice A0_1 I.length c0_1, i6 J, .slice A0_3 D.length c0_3, .slice A0_4 G.length c0_4, .slice A0_5 u.length c0_5] 190; refine At.join (X := Bool) (fun U => [(0, bp b0), (1, i6 a1), (4, bp M), (15, i6 ((gt p a1).Kind)), (83, .bool U)]) (fun U => T9 :: c6 :: row Q16.fl 242 A0_1 I.length c0_1 I :: row (Fl.int .i64) 3 A0_3 D.length c0_3 D :: row Fl.bool 4 A0_4 G.length c0_4 G :: row (Fl.int .i64) 3 A0_5 u.length c0_5 u :: Fr) (fun U => f0 (.inl U) = some r) ?_ (fun e0 => ?_)
      ·rintro U j; have j := (f3 _).symm.trans j
       ·rcases bite j with ⟨c7, j⟩ | ⟨c7, j⟩
        ··refine At.condT rfl c7 ?_
          refine sR 2 rfl (At.y (Y.load rfl rfl .z rfl rfl rfl) rfl rfl rfl (At.f5 (At.f5 (At.f5 (At.f5 ?_))))); refine At.f5 ?_; obtain ⟨e1, f6, j⟩ := bbind j; refine At.call rfl Q24.callee rfl rfl rfl (ih _ _ b0 A0_0 p.length c0_0 A0_1 I.length c0_1 A0_3 D.length c0_3 A0_4 G.length c0_4 A0_5 u.length c0_5 p I J D G u ((gt p a1).A) hr0_0 rfl hc0_0 rfl rfl rfl rfl f6) ?_; rintro _ _ ⟨k5, f7, f8, rfl, rfl, rfl⟩; refine nT ?_; refine At.still 14 (by kernel_rfl) ?_; refine At.Still.run 3 rfl ?_; refine At.Still.y (Y.load rfl rfl .z rfl rfl rfl) rfl rfl rfl ?_; refine At.Still.run 4 rfl ?_; refine At.Still.y (Y.load rfl rfl .z rfl rfl rfl) rfl rfl rfl ?_; refine At.Still.run 1 rfl ?_; refine At.Still.y (Y.load rfl rfl (.s (.s (.s (.s (.s .z))))) rfl rfl rfl) rfl rfl rfl ?_; obtain ⟨a8, j⟩ := bnone j; refine At.Still.y (Y.ix (.s (.s (.s (.s .z)))) rfl rfl rfl rfl rfl rfl a8.1 a8.2) rfl rfl rfl ?_; refine At.Still.y (Y.ld (.s (.s (.s (.s .z)))) (q := 0) rfl rfl a8.1 a8.2 rfl rfl rfl) rfl rfl rfl ?_; obtain ⟨a9, j⟩ := bnone j; refine At.Still.y (Y.ix (.s (.s (.s (.s .z)))) rfl rfl rfl rfl rfl rfl a9.1 a9.2) rfl rfl rfl ?_; refine At.Still.nil ?_; refine At.st rfl (.s (.s (.s (.s .z)))) (q := 0) (z := (gt e1.2.2.2.1 ((gt p a1).A))) rfl rfl rfl a9.1 a9.2 rfl rfl (.c .n) ?_; refine At.nil ?_; refine At.ibn ?_; refine At.drop (.s (.s (.s (.s (.s .z))))) (At.f4 (At.f4 (At.f4 (At.f4 ?_)))); cases bret j; exact At.res (.inr rfl) rfl rfl ⟨e1.2.2.1.length, f7, f8, rfl, rfl, rfl⟩
        ··refine At.condF rfl (bn c7) ?_
          refine At.seq (sR 2 rfl (nT ?_)); obtain ⟨f9, g0, k6, j⟩ := bjoin j; refine At.join (X := Bool) (fun V => [(0, bp b0), (1, i6 a1), (4, bp M), (15, i6 ((gt p a1).Kind)), (104, .bool V)]) (fun V => T9 :: c6 :: row Q16.fl 242 A0_1 I.length c0_1 I :: row (Fl.int .i64) 3 A0_3 D.length c0_3 D :: row Fl.bool 4 A0_4 G.length c0_4 G :: row (Fl.int .i64) 3 A0_5 u.length c0_5 u :: Fr) (fun V => f9 (.inl V) = some r) ?_ (fun e2 => ?_)
          ·rintro V j; have j := (g0 _).symm.trans j
           ·rcases bite j with ⟨c8, j⟩ | ⟨c8, j⟩
            ··refine At.condT rfl c8 ?_
              refine sR 2 rfl (At.y (Y.load rfl rfl .z rfl rfl rfl) rfl rfl rfl (At.f5 (At.f5 (At.f5 (At.f5 ?_))))); refine At.f5 ?_; obtain ⟨O, g1, j⟩ := bbind j; refine At.call rfl Q24.callee rfl rfl rfl (ih _ _ b0 A0_0 p.length c0_0 A0_1 I.length c0_1 A0_3 D.length c0_3 A0_4 G.length c0_4 A0_5 u.length c0_5 p I J D G u ((gt p a1).A) hr0_0 rfl hc0_0 rfl rfl rfl rfl g1) ?_; rintro _ _ ⟨k7, g2, g3, rfl, rfl, rfl⟩; refine nT (sR 2 rfl ?_); refine At.y (Y.load rfl rfl (.s (.s (.s (.s (.s .z))))) rfl rfl rfl) rfl rfl rfl ?_; refine At.rowLen (.s (.s .z)) fun g4 => ?_; refine At.rowLen (.s (.s (.s .z))) fun g5 => ?_; refine At.rowLen (.s (.s (.s (.s .z)))) fun g6 => ?_; obtain ⟨Z, g7, j⟩ := bbind j; refine At.call rfl Q24.callee rfl rfl rfl (ih _ _ b0 A0_0 p.length c0_0 g2 O.2.2.1.length g3 A0_3 D.length c0_3 A0_4 G.length c0_4 A0_5 u.length c0_5 p O.2.2.1 O.2.2.2.2 O.2.1 O.1 O.2.2.2.1 ((gt p a1).B) hr0_0 rfl hc0_0 rfl g4 g5 g6 g7) ?_; rintro _ _ ⟨k8, g8, g9, rfl, rfl, rfl⟩; refine nT ?_; refine At.still 23 (by kernel_rfl) ?_; refine At.Still.run 3 rfl ?_; refine At.Still.y (Y.load rfl rfl .z rfl rfl rfl) rfl rfl rfl ?_; refine At.Still.run 4 rfl ?_; refine At.Still.y (Y.load rfl rfl .z rfl rfl rfl) rfl rfl rfl ?_; refine At.Still.run 1 rfl ?_; refine At.Still.y (Y.load rfl rfl (.s (.s (.s (.s (.s .z))))) rfl rfl rfl) rfl rfl rfl ?_; obtain ⟨b2, j⟩ := bnone j; refine At.Still.y (Y.ix (.s (.s (.s (.s .z)))) rfl rfl rfl rfl rfl rfl b2.1 b2.2) rfl rfl rfl ?_; refine At.Still.y (Y.ld (.s (.s (.s (.s .z)))) (q := 0) rfl rfl b2.1 b2.2 rfl rfl rfl) rfl rfl rfl ?_; refine At.Still.run 3 rfl ?_; refine At.Still.y (Y.load rfl rfl .z rfl rfl rfl) rfl rfl rfl ?_; refine At.Still.run 1 rfl ?_; refine At.Still.y (Y.load rfl rfl (.s (.s (.s (.s (.s .z))))) rfl rfl rfl) rfl rfl rfl ?_; obtain ⟨b3, j⟩ := bnone j; refine At.Still.y (Y.ix (.s (.s (.s (.s .z)))) rfl rfl rfl rfl rfl rfl b3.1 b3.2) rfl rfl rfl ?_; refine At.Still.y (Y.ld (.s (.s (.s (.s .z)))) (q := 0) rfl rfl b3.1 b3.2 rfl rfl rfl) rfl rfl rfl ?_; refine At.Still.run 1 rfl ?_; obtain ⟨b4, j⟩ := bnone j; refine At.Still.y (Y.ix (.s (.s (.s (.s .z)))) rfl rfl rfl rfl rfl rfl b4.1 b4.2) rfl rfl rfl ?_; refine At.Still.nil ?_; refine At.st rfl (.s (.s (.s (.s .z)))) (q := 0) (z := (if gt Z.2.2.2.1 ((gt p a1).A) < gt Z.2.2.2.1 ((gt p a1).B) then gt Z.2.2.2.1 ((gt p a1).B) else gt Z.2.2.2.1 ((gt p a1).A))) rfl rfl rfl b4.1 b4.2 rfl rfl (.c .n) ?_; refine At.nil ?_; refine At.ibn ?_; refine At.drop (.s (.s (.s (.s (.s .z))))) (At.f4 (At.f4 (At.f4 (At.f4 ?_)))); cases bret j; exact At.res (.inr rfl) rfl rfl ⟨Z.2.2.1.length, g8, g9, rfl, rfl, rfl⟩
            ··refine At.condF rfl (bn c8) ?_
              refine At.seq (sR 2 rfl (nT ?_)); obtain ⟨h0, h1, k9, j⟩ := bjoin j; refine At.join (X := Bool) (fun a0 => [(0, bp b0), (1, i6 a1), (4, bp M), (138, .bool a0)]) (fun a0 => T9 :: c6 :: row Q16.fl 242 A0_1 I.length c0_1 I :: row (Fl.int .i64) 3 A0_3 D.length c0_3 D :: row Fl.bool 4 A0_4 G.length c0_4 G :: row (Fl.int .i64) 3 A0_5 u.length c0_5 u :: Fr) (fun a0 => h0 (.inl a0) = some r) ?_ (fun e3 => ?_)
              ·rintro a0 j; have j := (h1 _).symm.trans j
               ·rcases bite j with ⟨c9, j⟩ | ⟨c9, j⟩
                ··refine At.condT rfl c9 ?_
                  refine At.seq ?_; refine At.held [T9, row (Fl.int .i64) 3 A0_3 D.length c0_3 D, row Fl.bool 4 A0_4 G.length c0_4 G, row (Fl.int .i64) 3 A0_5 u.length c0_5 u] 16 rfl ?_; refine At.H.pw 0 rfl rfl rfl rfl rfl (.c .z (.c (.s (.s .z)) (.c (.s (.s .z)) (.c (.s (.s .z)) .n)))) ?_; refine At.H.pw 1 rfl rfl rfl rfl rfl (.c .z (.c (.s (.s .z)) (.c (.s (.s .z)) (.c (.s (.s .z)) .n)))) ?_; refine At.H.pw 2 rfl rfl rfl rfl rfl (.c .z (.c (.s (.s .z)) (.c (.s (.s .z)) (.c (.s (.s .z)) .n)))) ?_; refine At.H.pw 3 rfl rfl rfl rfl rfl (.c .z (.c (.s (.s .z)) (.c (.s (.s .z)) (.c (.s (.s .z)) .n)))) ?_; refine At.H.pw 5 rfl rfl rfl rfl rfl (.c .z (.c (.s (.s .z)) (.c (.s (.s .z)) (.c (.s (.s .z)) .n)))) ?_; refine At.H.pw 6 rfl rfl rfl rfl rfl (.c .z (.c (.s (.s .z)) (.c (.s (.s .z)) (.c (.s (.s .z)) .n)))) ?_; refine At.H.pw 7 rfl rfl rfl rfl rfl (.c .z (.c (.s (.s .z)) (.c (.s (.s .z)) (.c (.s (.s .z)) .n)))) ?_; refine At.H.pw 8 rfl rfl rfl rfl rfl (.c .z (.c (.s (.s .z)) (.c (.s (.s .z)) (.c (.s (.s .z)) .n)))) ?_; obtain ⟨d0, j⟩ := bnone j; refine At.H.joinK (X := (Option Addr) × Nat) (fun s_ => [(0, bp b0), (1, i6 a1), (4, bp M)]) (fun s_ => pc b0 [.slice A0_0 p.length c0_0, .slice s_.1 ((I ++ ([(⟨a1, J⟩ : Q16)] : List Q16)).length) s_.2, i6 J, .slice A0_3 D.length c0_3, .slice A0_4 G.length c0_4, .slice A0_5 u.length c0_5] 190 :: row Q16.fl 242 s_.1 ((I ++ ([(⟨a1, J⟩ : Q16)] : List Q16)).length) s_.2 (I ++ ([(⟨a1, J⟩ : Q16)] : List Q16)) :: T9 :: row (Fl.int .i64) 3 A0_3 D.length c0_3 D :: row Fl.bool 4 A0_4 G.length c0_4 G :: row (Fl.int .i64) 3 A0_5 u.length c0_5 u :: Fr) (fun s_ => True) ?_ (fun d1 => ?_)
                  ·rintro ⟨h2, h3⟩ -
                   ·refine At.thn (sR 2 rfl (At.y (Y.load rfl rfl (.s (.s .z)) rfl rfl rfl) rfl rfl rfl (At.f5 (At.f5 (At.f5 ?_))))); refine At.f4 (At.f4 ?_); obtain ⟨L, h4, j⟩ := bbind j; refine At.call rfl Q24.callee rfl rfl rfl (ih _ _ b0 A0_0 p.length c0_0 h2 ((I ++ ([(⟨a1, J⟩ : Q16)] : List Q16)).length) h3 A0_3 D.length c0_3 A0_4 G.length c0_4 A0_5 u.length c0_5 p (I ++ ([(⟨a1, J⟩ : Q16)] : List Q16)) J D G u ((gt p a1).A) hr0_0 rfl hc0_0 rfl rfl rfl rfl h4) ?_; rintro _ _ ⟨l5, d2, d3, rfl, rfl, rfl⟩; refine nT (At.seq ?_); refine At.held [row (Fl.int .i64) 3 A0_3 D.length c0_3 L.2.1, row Fl.bool 4 A0_4 G.length c0_4 L.1, row (Fl.int .i64) 3 A0_5 u.length c0_5 L.2.2.2.1, T9] 15 rfl ?_; refine At.H.pw 0 rfl rfl rfl rfl rfl (.c (.s (.s .z)) (.c (.s (.s .z)) (.c (.s (.s .z)) (.c (.s (.s .z)) .n)))) ?_; refine At.H.pw 1 rfl rfl rfl rfl rfl (.c (.s (.s .z)) (.c (.s (.s .z)) (.c (.s (.s .z)) (.c (.s (.s .z)) .n)))) ?_; refine At.H.pw 2 rfl rfl rfl rfl rfl (.c (.s (.s .z)) (.c (.s (.s .z)) (.c (.s (.s .z)) (.c (.s (.s .z)) .n)))) ?_; refine At.H.pw 3 rfl rfl rfl rfl rfl (.c (.s (.s .z)) (.c (.s (.s .z)) (.c (.s (.s .z)) (.c (.s (.s .z)) .n)))) ?_; refine At.H.pw 5 rfl rfl rfl rfl rfl (.c (.s (.s .z)) (.c (.s (.s .z)) (.c (.s (.s .z)) (.c (.s (.s .z)) .n)))) ?_; refine At.H.pw 6 rfl rfl rfl rfl rfl (.c (.s (.s .z)) (.c (.s (.s .z)) (.c (.s (.s .z)) (.c (.s (.s .z)) .n)))) ?_; refine At.H.pw 7 rfl rfl rfl rfl rfl (.c (.s (.s .z)) (.c (.s (.s .z)) (.c (.s (.s .z)) (.c (.s (.s .z)) .n)))) ?_; obtain ⟨b5, j⟩ := bnone j; let h5 : HProp := pc b0 [.slice A0_0 p.length c0_0, .slice d2 ((L.2.2.1.take (IntKind.i64.wrap ((L.2.2.1.length : Int) - 1)).toNat).length) d3, i6 L.2.2.2.2, .slice A0_3 D.length c0_3, .slice A0_4 G.length c0_4, .slice A0_5 u.length c0_5] 190; let h6 : HProp := row Q16.fl 242 d2 ((L.2.2.1.take (IntKind.i64.wrap ((L.2.2.1.length : Int) - 1)).toNat).length) d3 (L.2.2.1.take (IntKind.i64.wrap ((L.2.2.1.length : Int) - 1)).toNat); refine At.H.joinK (X := Unit) (fun _ => [(0, bp b0), (1, i6 a1), (4, bp M)]) (fun _ => h5 :: h6 :: row (Fl.int .i64) 3 A0_3 D.length c0_3 L.2.1 :: row Fl.bool 4 A0_4 G.length c0_4 L.1 :: row (Fl.int .i64) 3 A0_5 u.length c0_5 L.2.2.2.1 :: T9 :: Fr) (fun _ => True) ?_ (fun e4 => ?_)
                    ·rintro _ -
                     ·refine At.thn ?_; refine At.still 15 (by kernel_rfl) ?_; refine At.Still.run 3 rfl ?_; refine At.Still.y (Y.load rfl rfl .z rfl rfl rfl) rfl rfl rfl ?_; refine At.Still.run 4 rfl ?_; refine At.Still.y (Y.load rfl rfl .z rfl rfl rfl) rfl rfl rfl ?_; refine At.Still.run 1 rfl ?_; refine At.Still.y (Y.load rfl rfl (.s (.s (.s (.s (.s .z))))) rfl rfl rfl) rfl rfl rfl ?_; obtain ⟨b6, j⟩ := bnone j; refine At.Still.y (Y.ix (.s (.s (.s (.s .z)))) rfl rfl rfl rfl rfl rfl b6.1 b6.2) rfl rfl rfl ?_; refine At.Still.y (Y.ld (.s (.s (.s (.s .z)))) (q := 0) rfl rfl b6.1 b6.2 rfl rfl rfl) rfl rfl rfl ?_; refine At.Still.run 1 rfl ?_; obtain ⟨b7, j⟩ := bnone j; refine At.Still.y (Y.ix (.s (.s (.s (.s .z)))) rfl rfl rfl rfl rfl rfl b7.1 b7.2) rfl rfl rfl ?_; refine At.Still.nil ?_; refine At.st rfl (.s (.s (.s (.s .z)))) (q := 0) (z := (IntKind.i64.wrap (gt L.2.2.2.1 ((gt p a1).A) + 1))) rfl rfl rfl b7.1 b7.2 rfl rfl (.c .n) ?_; refine At.nil ?_; refine At.ibn ?_; refine At.drop (.s (.s (.s (.s (.s .z))))) (At.f4 (At.f4 (At.f4 (At.f4 ?_)))); cases bret j; exact At.res (.inr rfl) rfl rfl ⟨(L.2.2.1.take (IntKind.i64.wrap ((L.2.2.1.length : Int) - 1)).toNat).length, d2, d3, rfl, rfl, rfl⟩
                    ·refine At.H.al [4, 8] (Q6 ?_ (Q6 ?_ Q8))
                     ··refine At.HO.op rfl ?_
                       refine At.y (Y.load rfl rfl .z rfl rfl rfl) rfl rfl rfl ?_; refine At.HO.back (.c (.s (.s .z)) (.c (.s (.s .z)) (.c (.s (.s .z)) (.c (.s (.s .z)) .n)))) ?_; refine At.H.al [8] (Q6 ?_ Q8)
                       ··refine At.HO.op rfl ?_
                         refine At.y (Y.load rfl rfl .z rfl rfl rfl) rfl rfl rfl ?_; refine At.HO.back (.c (.s (.s .z)) (.c (.s (.s .z)) (.c (.s (.s .z)) (.c (.s (.s .z)) .n)))) ?_; refine At.H.pw 9 rfl rfl rfl rfl rfl (.c (.s (.s .z)) (.c (.s (.s .z)) (.c (.s (.s .z)) (.c (.s (.s .z)) .n)))) ?_; refine At.H.pw 10 rfl rfl rfl rfl rfl (.c (.s (.s .z)) (.c (.s (.s .z)) (.c (.s (.s .z)) (.c (.s (.s .z)) .n)))) ?_; refine At.H.al [11] (Q6 ?_ Q8)
                         ··refine At.HO.op rfl ?_
                           refine At.cut rfl (.s .z) rfl rfl rfl rfl rfl b5.1 b5.2 rfl ?_; refine At.HO.back (.c (.s (.s .z)) (.c (.s (.s .z)) (.c (.s (.s .z)) (.c (.s (.s .z)) .n)))) ?_; refine At.H.pw 12 rfl rfl rfl rfl rfl (.c (.s (.s .z)) (.c (.s (.s .z)) (.c (.s (.s .z)) (.c (.s (.s .z)) .n)))) ?_; refine At.H.pw 13 rfl rfl rfl rfl rfl (.c (.s (.s .z)) (.c (.s (.s .z)) (.c (.s (.s .z)) (.c (.s (.s .z)) .n)))) ?_; refine At.H.al [14] (Q6 ?_ Q8)
                           ··refine At.HO.op rfl ?_
                             refine At.store rfl rfl rfl rfl (.s .z) rfl rfl rfl (.s (.c .n)) ?_; refine At.HO.back (.c (.s (.s .z)) (.c (.s (.s .z)) (.c (.s (.s .z)) (.c (.s (.s .z)) .n)))) ?_; refine At.H.done (by kernel_rfl) ?_; exact At.of (e4 () trivial) ⟨rfl, rfl, rfl, trivial⟩
                     ··refine At.HO.op rfl ?_
                       refine At.y (Y.load rfl rfl .z rfl rfl rfl) rfl rfl rfl ?_; refine At.HO.back (.c (.s (.s .z)) (.c (.s (.s .z)) (.c (.s (.s .z)) (.c (.s (.s .z)) .n)))) ?_; refine At.H.pw 9 rfl rfl rfl rfl rfl (.c (.s (.s .z)) (.c (.s (.s .z)) (.c (.s (.s .z)) (.c (.s (.s .z)) .n)))) ?_; refine At.H.pw 10 rfl rfl rfl rfl rfl (.c (.s (.s .z)) (.c (.s (.s .z)) (.c (.s (.s .z)) (.c (.s (.s .z)) .n)))) ?_; refine At.H.al [4] (Q6 ?_ Q8)
                       ··refine At.HO.op rfl ?_
                         refine At.y (Y.load rfl rfl .z rfl rfl rfl) rfl rfl rfl ?_; refine At.HO.back (.c (.s (.s .z)) (.c (.s (.s .z)) (.c (.s (.s .z)) (.c (.s (.s .z)) .n)))) ?_; refine At.H.al [11] (Q6 ?_ Q8)
                         ··refine At.HO.op rfl ?_
                           refine At.cut rfl (.s .z) rfl rfl rfl rfl rfl b5.1 b5.2 rfl ?_; refine At.HO.back (.c (.s (.s .z)) (.c (.s (.s .z)) (.c (.s (.s .z)) (.c (.s (.s .z)) .n)))) ?_; refine At.H.pw 12 rfl rfl rfl rfl rfl (.c (.s (.s .z)) (.c (.s (.s .z)) (.c (.s (.s .z)) (.c (.s (.s .z)) .n)))) ?_; refine At.H.pw 13 rfl rfl rfl rfl rfl (.c (.s (.s .z)) (.c (.s (.s .z)) (.c (.s (.s .z)) (.c (.s (.s .z)) .n)))) ?_; refine At.H.al [14] (Q6 ?_ Q8)
                           ··refine At.HO.op rfl ?_
                             refine At.store rfl rfl rfl rfl (.s .z) rfl rfl rfl (.s (.c .n)) ?_; refine At.HO.back (.c (.s (.s .z)) (.c (.s (.s .z)) (.c (.s (.s .z)) (.c (.s (.s .z)) .n)))) ?_; refine At.H.done (by kernel_rfl) ?_; exact At.of (e4 () trivial) ⟨rfl, rfl, rfl, trivial⟩
                  ·refine At.H.al [4, 9] (Q6 ?_ (Q6 ?_ Q8))
                   ··refine At.HO.op rfl ?_
                     refine At.y (Y.load rfl rfl (.s .z) rfl rfl rfl) rfl rfl rfl ?_; refine At.HO.back (.c .z (.c (.s (.s .z)) (.c (.s (.s .z)) (.c (.s (.s .z)) .n)))) ?_; refine At.H.al [9] (Q6 ?_ Q8)
                     ··refine At.HO.op rfl ?_
                       refine At.y (Y.load rfl rfl (.s .z) rfl rfl rfl) rfl rfl rfl ?_; refine At.HO.back (.c .z (.c (.s (.s .z)) (.c (.s (.s .z)) (.c (.s (.s .z)) .n)))) ?_; refine At.H.tw 10 rfl (Y.build (is := [0, 1]) (xo := [.tmp 146, .tmp 150]) (vs := [i6 a1, i6 J]) (cs := [i6 a1, i6 J]) rfl rfl rfl rfl rfl rfl) rfl rfl rfl (.c .z (.c (.s (.s .z)) (.c (.s (.s .z)) (.c (.s (.s .z)) .n)))) ?_; refine At.H.al [11] (Q6 ?_ Q8)
                       ··refine At.HO.op rfl ?_
                         refine At.lit rfl (xo := [.tmp 151]) (ys := ([(⟨a1, J⟩ : Q16)] : List Q16)) Q16.fl rfl rfl rfl rfl rfl rfl rfl rfl rfl rfl rfl (fun l6 l7 => ?_); refine At.HO.back (.c (.s .z) (.c (.s (.s (.s .z))) (.c (.s (.s (.s .z))) (.c (.s (.s (.s .z))) .n)))) ?_; refine At.H.al [12] (Q6 ?_ Q8)
                         ··refine At.HO.op rfl ?_
                           refine At.append rfl (.s (.s (.s .z))) (Src.own .z (by simp)) rfl rfl rfl rfl rfl rfl rfl rfl d0 (by decide) rfl (fun h7 h8 => ?_); refine At.drop (.s .z) ?_; refine At.HO.back (.c (.s .z) (.c (.s (.s .z)) (.c (.s (.s .z)) (.c (.s (.s .z)) .n)))) ?_; refine At.H.pw 13 rfl rfl rfl rfl rfl (.c (.s .z) (.c (.s (.s .z)) (.c (.s (.s .z)) (.c (.s (.s .z)) .n)))) ?_; refine At.H.pw 14 rfl rfl rfl rfl rfl (.c (.s .z) (.c (.s (.s .z)) (.c (.s (.s .z)) (.c (.s (.s .z)) .n)))) ?_; refine At.H.al [15] (Q6 ?_ Q8)
                           ··refine At.HO.op rfl ?_
                             refine At.store rfl rfl rfl rfl (.s (.s .z)) rfl rfl rfl (.s (.c .n)) ?_; refine At.HO.back (.c (.s (.s .z)) (.c (.s (.s .z)) (.c (.s (.s .z)) (.c (.s (.s .z)) .n)))) ?_; refine At.H.done (by kernel_rfl) ?_; exact At.of (d1 (h7, h8) trivial) ⟨rfl, rfl, rfl, trivial⟩
                   ··refine At.HO.op rfl ?_
                     refine At.y (Y.load rfl rfl (.s .z) rfl rfl rfl) rfl rfl rfl ?_; refine At.HO.back (.c .z (.c (.s (.s .z)) (.c (.s (.s .z)) (.c (.s (.s .z)) .n)))) ?_; refine At.H.tw 10 rfl (Y.build (is := [0, 1]) (xo := [.tmp 146, .tmp 150]) (vs := [i6 a1, i6 J]) (cs := [i6 a1, i6 J]) rfl rfl rfl rfl rfl rfl) rfl rfl rfl (.c .z (.c (.s (.s .z)) (.c (.s (.s .z)) (.c (.s (.s .z)) .n)))) ?_; refine At.H.al [4, 11] (Q6 ?_ (Q6 ?_ Q8))
                     ··refine At.HO.op rfl ?_
                       refine At.y (Y.load rfl rfl (.s .z) rfl rfl rfl) rfl rfl rfl ?_; refine At.HO.back (.c .z (.c (.s (.s .z)) (.c (.s (.s .z)) (.c (.s (.s .z)) .n)))) ?_; refine At.H.al [11] (Q6 ?_ Q8)
                       ··refine At.HO.op rfl ?_
                         refine At.lit rfl (xo := [.tmp 151]) (ys := ([(⟨a1, J⟩ : Q16)] : List Q16)) Q16.fl rfl rfl rfl rfl rfl rfl rfl rfl rfl rfl rfl (fun l8 l9 => ?_); refine At.HO.back (.c (.s .z) (.c (.s (.s (.s .z))) (.c (.s (.s (.s .z))) (.c (.s (.s (.s .z))) .n)))) ?_; refine At.H.al [12] (Q6 ?_ Q8)
                         ··refine At.HO.op rfl ?_
                           refine At.append rfl (.s (.s (.s .z))) (Src.own .z (by simp)) rfl rfl rfl rfl rfl rfl rfl rfl d0 (by decide) rfl (fun h9 k0 => ?_); refine At.drop (.s .z) ?_; refine At.HO.back (.c (.s .z) (.c (.s (.s .z)) (.c (.s (.s .z)) (.c (.s (.s .z)) .n)))) ?_; refine At.H.pw 13 rfl rfl rfl rfl rfl (.c (.s .z) (.c (.s (.s .z)) (.c (.s (.s .z)) (.c (.s (.s .z)) .n)))) ?_; refine At.H.pw 14 rfl rfl rfl rfl rfl (.c (.s .z) (.c (.s (.s .z)) (.c (.s (.s .z)) (.c (.s (.s .z)) .n)))) ?_; refine At.H.al [15] (Q6 ?_ Q8)
                           ··refine At.HO.op rfl ?_
                             refine At.store rfl rfl rfl rfl (.s (.s .z)) rfl rfl rfl (.s (.c .n)) ?_; refine At.HO.back (.c (.s (.s .z)) (.c (.s (.s .z)) (.c (.s (.s .z)) (.c (.s (.s .z)) .n)))) ?_; refine At.H.done (by kernel_rfl) ?_; exact At.of (d1 (h9, k0) trivial) ⟨rfl, rfl, rfl, trivial⟩
                     ··refine At.HO.op rfl ?_
                       refine At.lit rfl (xo := [.tmp 151]) (ys := ([(⟨a1, J⟩ : Q16)] : List Q16)) Q16.fl rfl rfl rfl rfl rfl rfl rfl rfl rfl rfl rfl (fun m0 m1 => ?_); refine At.HO.back (.c (.s .z) (.c (.s (.s (.s .z))) (.c (.s (.s (.s .z))) (.c (.s (.s (.s .z))) .n)))) ?_; refine At.H.al [4] (Q6 ?_ Q8)
                       ··refine At.HO.op rfl ?_
                         refine At.y (Y.load rfl rfl (.s (.s .z)) rfl rfl rfl) rfl rfl rfl ?_; refine At.HO.back (.c (.s .z) (.c (.s (.s (.s .z))) (.c (.s (.s (.s .z))) (.c (.s (.s (.s .z))) .n)))) ?_; refine At.H.al [12] (Q6 ?_ Q8)
                         ··refine At.HO.op rfl ?_
                           refine At.append rfl (.s (.s (.s .z))) (Src.own .z (by simp)) rfl rfl rfl rfl rfl rfl rfl rfl d0 (by decide) rfl (fun k1 k2 => ?_); refine At.drop (.s .z) ?_; refine At.HO.back (.c (.s .z) (.c (.s (.s .z)) (.c (.s (.s .z)) (.c (.s (.s .z)) .n)))) ?_; refine At.H.pw 13 rfl rfl rfl rfl rfl (.c (.s .z) (.c (.s (.s .z)) (.c (.s (.s .z)) (.c (.s (.s .z)) .n)))) ?_; refine At.H.pw 14 rfl rfl rfl rfl rfl (.c (.s .z) (.c (.s (.s .z)) (.c (.s (.s .z)) (.c (.s (.s .z)) .n)))) ?_; refine At.H.al [15] (Q6 ?_ Q8)
                           ··refine At.HO.op rfl ?_
                             refine At.store rfl rfl rfl rfl (.s (.s .z)) rfl rfl rfl (.s (.c .n)) ?_; refine At.HO.back (.c (.s (.s .z)) (.c (.s (.s .z)) (.c (.s (.s .z)) (.c (.s (.s .z)) .n)))) ?_; refine At.H.done (by kernel_rfl) ?_; exact At.of (d1 (k1, k2) trivial) ⟨rfl, rfl, rfl, trivial⟩
                ··refine At.condF rfl (bn c9) ?_
                  refine At.skip ?_; refine At.ibn ?_; refine At.drop .z ?_; cases bret j; exact At.res (.inr rfl) rfl rfl ⟨I.length, A0_1, c0_1, rfl, rfl, rfl⟩
              ··rcases bite j with ⟨d4, j⟩ | ⟨d4, j⟩
                ··refine At.condT rfl (decide_eq_true d4) ?_
                  refine At.skip (At.thn ?_); exact fun a w e hs => e3 (decide ((gt p a1).Kind = 10)) j a w (e.sub ⟨rfl, rfl, rfl, rfl, trivial⟩) hs
                ··refine At.condF rfl (decide_eq_false d4) ?_
                  refine At.region (At.run 2 rfl (nT ?_)); exact fun a w e hs => e3 (decide ((gt p a1).Kind = 11)) j a w (e.sub ⟨rfl, rfl, rfl, rfl, trivial⟩) hs
          ··rcases bite j with ⟨d5, j⟩ | ⟨d5, j⟩
            ··refine At.condT rfl (decide_eq_true d5) ?_
              refine At.skip (At.thn ?_); exact fun a w e hs => e2 (decide ((gt p a1).Kind = 6)) j a w (e.sub ⟨rfl, rfl, rfl, rfl, rfl, trivial⟩) hs
            ··refine At.condF rfl (decide_eq_false d5) ?_
              refine At.region (At.run 2 rfl (nT ?_)); exact fun a w e hs => e2 (decide ((gt p a1).Kind = 7)) j a w (e.sub ⟨rfl, rfl, rfl, rfl, rfl, trivial⟩) hs
      ··rcases bite j with ⟨d6, j⟩ | ⟨d6, j⟩
        ··refine At.condT rfl (decide_eq_true d6) ?_
          refine At.skip (At.thn ?_); exact fun a w e hs => e0 (decide ((gt p a1).Kind = 8)) j a w (e.sub ⟨rfl, rfl, rfl, rfl, rfl, trivial⟩) hs
        ··refine At.condF rfl (decide_eq_false d6) ?_
          refine At.region (At.run 2 rfl (nT ?_)); exact fun a w e hs => e0 (decide ((gt p a1).Kind = 9)) j a w (e.sub ⟨rfl, rfl, rfl, rfl, rfl, trivial⟩) hs
theorem Q24.spec {p : List Q1} {q : List Q16} {I a1 : Int} {u D : List Int} {G : List Bool} (hr0_0 : RdS Q1.fl.rep R.heap A0_0 p) (hn0_0 : p.length = n0_0) (hc0_0 : n0_0 ≤ c0_0) (hn0_1 : q.length = n0_1) (hn0_3 : u.length = n0_3) (hn0_4 : G.length = n0_4) (hn0_5 : D.length = n0_5) {r : (List Bool) × (List Int) × (List Q16) × (List Int) × Int} (j : Q24.f p q I u G D a1 = some r) :
 Spec Tryz.prog 164 [bp b0, i6 a1] R (pc b0 [.slice A0_0 n0_0 c0_0, .slice A0_1 n0_1 c0_1, i6 I, .slice A0_3 n0_3 c0_3, .slice A0_4 n0_4 c0_4, .slice A0_5 n0_5 c0_5] 190 :: row Q16.fl 242 A0_1 n0_1 c0_1 q :: row (Fl.int .i64) 3 A0_3 n0_3 c0_3 u :: row Fl.bool 4 A0_4 n0_4 c0_4 G :: row (Fl.int .i64) 3 A0_5 n0_5 c0_5 D :: Fr) (fun v l' => ∃ (J : Nat) (L : Option Addr) (M : Nat), v = .tuple #[] ∧ pc b0 [.slice A0_0 n0_0 c0_0, .slice L J M, i6 r.2.2.2.2, .slice A0_3 n0_3 c0_3, .slice A0_4 n0_4 c0_4, .slice A0_5 n0_5 c0_5] 190 :: row Q16.fl 242 L J M r.2.2.1 :: row (Fl.int .i64) 3 A0_3 n0_3 c0_3 r.2.1 :: row Fl.bool 4 A0_4 n0_4 c0_4 r.1 :: row (Fl.int .i64) 3 A0_5 n0_5 c0_5 r.2.2.2.1 :: Fr = l' ∧ r.2.2.1.length = J) := by
 obtain ⟨k_, hk_⟩ := Q229 j; exact Q24.specN k_ R Fr b0 A0_0 n0_0 c0_0 A0_1 n0_1 c0_1 A0_3 n0_3 c0_3 A0_4 n0_4 c0_4 A0_5 n0_5 c0_5 p q I u G D a1 hr0_0 hn0_0 hc0_0 hn0_1 hn0_3 hn0_4 hn0_5 hk_

noncomputable def Q43.l0b (a0 : List Q1) (q : List Int) (p : Int) : Option (((List Int) × Int) ⊕ (((List Int)) ⊕ ((List Q16) × (List Int) × (List Bool) × (List Int) × Int))) :=
 if p < ((List.replicate (a0.length : Int).toNat (0 : Int)).length : Int) then
 if (0 : Int) ≤ p ∧ p < ((List.replicate (a0.length : Int).toNat (0 : Int)).length : Int) then
 nx ((st q p (-1)), IntKind.i64.wrap (p + 1))
 else none
 else
 dn (.inl q)
noncomputable def Q43.l0 (a0 : List Q1) (p : List Int) (q : Int) : Option (((List Int)) ⊕ ((List Q16) × (List Int) × (List Bool) × (List Int) × Int)) := iter (fun t_ : (List Int) × Int => Q43.l0b a0 t_.1 t_.2) (p, q)
noncomputable def Q43.f (a0 : List Q1) : Option ((List Q16) × (List Int) × (List Bool) × (List Int) × Int) :=
 if (0 : Int) ≤ (a0.length : Int) ∧ (8 : Int) * (a0.length : Int) ≤ 281474976710656 then
 if (0 : Int) ≤ (a0.length : Int) ∧ (1 : Int) * (a0.length : Int) ≤ 281474976710656 then
 jn (Q43.l0 a0 (List.replicate (a0.length : Int).toNat (0 : Int)) 0) (fun (q : List Int) =>
 (Q24.f a0 ([] : List Q16) 0 q (List.replicate (a0.length : Int).toNat (false : Bool)) (List.replicate (a0.length : Int).toNat (0 : Int)) (IntKind.i64.wrap ((a0.length : Int) - 1))).bind fun p =>
 some (p.2.2.1, p.2.1, p.1, p.2.2.2.1, p.2.2.2.2))
 else none
 else none
theorem Q43.callee : Callee Tryz.prog 134 := ⟨_, Tryz.func134, by kernel_rfl, by kernel_rfl⟩
theorem Q43.spec {a0 : List Q1} (hr0 : RdS Q1.fl.rep R.heap A0 a0) (hn0 : a0.length = n0) (hc0 : n0 ≤ c0) {r : (List Q16) × (List Int) × (List Bool) × (List Int) × Int} (j : Q43.f a0 = some r) :
 Spec Tryz.prog 134 [.slice A0 n0 c0] R (Fr) (fun v l' => ∃ (e5 : Nat) (d4 : Nat) (e6 : Option Addr) (e7 : Nat) (e8 : Option Addr) (e9 : Nat) (f0 : Option Addr) (f5 : Nat) (f6 : Option Addr) (f7 : Nat), v = bp e5 ∧ pc e5 [.slice A0 n0 c0, .slice e6 d4 e7, i6 r.2.2.2.2, .slice e8 ((List.replicate (n0 : Int).toNat (0 : Int)).length) e9, .slice f0 ((List.replicate (n0 : Int).toNat (false : Bool)).length) f5, .slice f6 ((List.replicate (n0 : Int).toNat (0 : Int)).length) f7] 190 :: row Q16.fl 242 e6 d4 e7 r.1 :: row (Fl.int .i64) 3 e8 ((List.replicate (n0 : Int).toNat (0 : Int)).length) e9 r.2.1 :: row Fl.bool 4 f0 ((List.replicate (n0 : Int).toNat (false : Bool)).length) f5 r.2.2.1 :: row (Fl.int .i64) 3 f6 ((List.replicate (n0 : Int).toNat (0 : Int)).length) f7 r.2.2.2.1 :: Fr = l' ∧ r.1.length = d4) := by
 subst hn0; refine Spec.of Tryz.func134 rfl rfl ?_; unfold Q43.f at j; have j := brun j; refine sR 1 rfl (nT (At.seq ?_)); refine At.held [] 13 rfl ?_; refine At.H.pw 0 rfl rfl rfl rfl rfl .n ?_; refine At.H.pw 1 rfl rfl rfl rfl rfl .n ?_; refine At.H.pw 2 rfl rfl rfl rfl rfl .n ?_; refine At.H.pw 4 rfl rfl rfl rfl rfl .n ?_; refine At.H.pw 5 rfl rfl rfl rfl rfl .n ?_; refine At.H.pw 7 rfl rfl rfl rfl rfl .n ?_; refine At.H.pw 8 rfl rfl rfl rfl rfl .n ?_; obtain ⟨p, j⟩ := bnone j; obtain ⟨u, j⟩ := bnone j; refine At.H.joinK (X := Nat × (Option Addr) × Nat × (Option Addr) × Nat × (Option Addr) × Nat) (fun s_ => [(0, .slice A0 a0.length c0), (3, .pointer (some ⟨s_.1, 0, none⟩))]) (fun s_ => pt s_.1 (.cells [.slice A0 a0.length c0, .slice none 0 0, i6 0, .slice s_.2.2.2.2.2.1 ((List.replicate (a0.length : Int).toNat (0 : Int)).length) s_.2.2.2.2.2.2, .slice s_.2.2.2.1 ((List.replicate (a0.length : Int).toNat (false : Bool)).length) s_.2.2.2.2.1, .slice s_.2.1 ((List.replicate (a0.length : Int).toNat (0 : Int)).length) s_.2.2.1].toArray 190) :: row (Fl.int .i64) 3 s_.2.1 ((List.replicate (a0.length : Int).toNat (0 : Int)).length) s_.2.2.1 (List.replicate (a0.length : Int).toNat (0 : Int)) :: row Fl.bool 4 s_.2.2.2.1 ((List.replicate (a0.length : Int).toNat (false : Bool)).length) s_.2.2.2.2.1 (List.replicate (a0.length : Int).toNat (false : Bool)) :: row (Fl.int .i64) 3 s_.2.2.2.2.2.1 ((List.replicate (a0.length : Int).toNat (0 : Int)).length) s_.2.2.2.2.2.2 (List.replicate (a0.length : Int).toNat (0 : Int)) :: Fr) (fun s_ => True) ?_ (fun O => ?_)
 ·rintro ⟨Z, d5, d6, d7, d8, a1, a2⟩ -
  ·refine At.thn (At.seq (sR 3 rfl (At.y (Y.load rfl rfl .z rfl rfl rfl) rfl rfl rfl (At.run 2 rfl (At.nil ?_))))); refine At.thn ?_; refine At.block ?_; obtain ⟨g2, g3, h9, j⟩ := bjoin j; obtain ⟨f8, d9, g4⟩ := bsome j; clear j; unfold Q43.l0 at d9; obtain ⟨e1, U⟩ := Q18.1 d9; clear d9; let f9 : HProp := pc Z [.slice A0 a0.length c0, .slice none 0 0, i6 0, .slice a1 ((List.replicate (a0.length : Int).toNat (0 : Int)).length) a2, .slice d7 ((List.replicate (a0.length : Int).toNat (false : Bool)).length) d8, .slice d5 ((List.replicate (a0.length : Int).toNat (0 : Int)).length) d6] 190; let g0 : HProp := row (Fl.int .i64) 3 d5 ((List.replicate (a0.length : Int).toNat (0 : Int)).length) d6 (List.replicate (a0.length : Int).toNat (0 : Int)); let g1 : HProp := row Fl.bool 4 d7 ((List.replicate (a0.length : Int).toNat (false : Bool)).length) d8 (List.replicate (a0.length : Int).toNat (false : Bool)); refine At.loopJ (X := (List Int) × Int) (Y := (List Int)) (e0 := 0) (fun s_ => [(0, .slice A0 a0.length c0), (3, bp Z), (21, i6 ((List.replicate (a0.length : Int).toNat (0 : Int)).length : Int)), (22, i6 s_.2)]) (fun s_ => f9 :: g0 :: g1 :: row (Fl.int .i64) 3 a1 ((List.replicate (a0.length : Int).toNat (0 : Int)).length) a2 s_.1 :: Fr) (fun m_ => fun s_ => iterN (fun t_ : (List Int) × Int => Q43.l0b a0 t_.1 t_.2) m_ (s_.1, s_.2) = some f8) e1 ((List.replicate (a0.length : Int).toNat (0 : Int)), 0) U (fun V => [(0, .slice A0 a0.length c0), (3, bp Z)]) (fun V => f9 :: g0 :: g1 :: row (Fl.int .i64) 3 a1 ((List.replicate (a0.length : Int).toNat (0 : Int)).length) a2 V :: Fr) (fun V => g2 (.inl V) = some r) (fun a w e hs => ⟨e.sub ⟨rfl, rfl, rfl, rfl, trivial⟩, (by exact hs)⟩) ?_ (fun g5 => ?_)
   ·rintro V j; have j := (g3 _).symm.trans j
    ·refine At.ibx ?_; refine At.thn (sR 4 rfl ?_); refine At.nilRow Q16.fl 242 ?_; refine At.rowLen (.s (.s (.s (.s .z)))) fun g6 => ?_; refine At.f2 (At.f3 (At.f4 (At.f3 (At.f4 ?_)))); obtain ⟨g7, g8, j⟩ := bbind j; refine At.call rfl Q24.callee rfl rfl rfl (Q24.spec hr0 rfl hc0 rfl g6 rfl rfl g8) ?_; rintro _ _ ⟨k0, g9, h0, rfl, rfl, rfl⟩; refine nT (sR 2 rfl (nT (At.ret ?_))); cases bret j; exact At.res (.inl rfl) rfl rfl ⟨Z, g7.2.2.1.length, g9, h0, a1, a2, d7, d8, d5, d6, rfl, rfl, rfl⟩
   ·clear U e1; rintro e1 ⟨e2, e3⟩ U; obtain ⟨h1, f_, h2, hf_, j⟩ := bit U; clear U; have j : (Q43.l0b a0 e2 e3).bind _ = some f8 := j; unfold Q43.l0b at j
    ·refine sR 1 rfl (nT (At.seq ?_)); rcases bite j with ⟨e4, j⟩ | ⟨e4, j⟩
     ··refine At.condT rfl (decide_eq_true e4) ?_
       refine At.skip (At.thn (At.seq ?_)); refine At.block ?_; refine sR 2 rfl (nT (At.region (At.run 3 rfl (At.y (Y.load rfl rfl .z rfl rfl rfl) rfl rfl rfl ?_)))); refine At.run 1 rfl ?_; obtain ⟨a3, j⟩ := bnone j; refine At.y (Y.ix (.s (.s (.s .z))) rfl rfl rfl rfl rfl rfl a3.1 a3.2) rfl rfl rfl ?_; refine At.st rfl (.s (.s (.s .z))) (q := 0) (z := (-1)) rfl rfl rfl a3.1 a3.2 rfl rfl (.c .n) ?_; refine At.nil ?_; refine At.ibn ?_; refine At.thn (At.region (At.run 2 rfl (At.nil (At.f3 (At.f3 (At.f3 ?_)))))); have j := bnx hf_ j; exact fun a w e hs => ⟨h1, ((st e2 e3 (-1)), IntKind.i64.wrap (e3 + 1)), h2, j, e.sub ⟨rfl, rfl, rfl, rfl, trivial⟩, hs⟩
     ··refine At.condF rfl (decide_eq_false e4) ?_
       refine At.exit ?_; refine At.the ?_; refine At.the ?_; exact fun a w e hs => g5 e2 (bdn j g4) a w (e.sub ⟨rfl, rfl, trivial⟩) hs
 ·refine At.H.al [3, 6, 9] (Q6 ?_ (Q6 ?_ (Q6 ?_ Q8)))
  ··refine At.HO.op rfl ?_
    refine At.make (F := (Fl.int .i64)) (z := 0) rfl rfl rfl rfl rfl rfl rfl rfl rfl rfl p.1 p.2 (by decide) rfl (fun D G => ?_); refine At.HO.back .n ?_; refine At.H.al [6, 9] (Q6 ?_ (Q6 ?_ Q8))
    ··refine At.HO.op rfl ?_
      refine At.make (F := Fl.bool) (z := false) rfl rfl rfl rfl rfl rfl rfl rfl rfl rfl u.1 u.2 (by decide) rfl (fun a4 a5 => ?_); refine At.HO.back .n ?_; refine At.H.al [9] (Q6 ?_ Q8)
      ··refine At.HO.op rfl ?_
        refine At.make (F := (Fl.int .i64)) (z := 0) rfl rfl rfl rfl rfl rfl rfl rfl rfl rfl p.1 p.2 (by decide) rfl (fun a6 a7 => ?_); refine At.HO.back .n ?_; refine At.H.tw 10 rfl (Y.build (is := [0, 3, 4, 5]) (xo := [.tmp 5, .tmp 8, .tmp 11, .tmp 14]) (vs := [.slice A0 a0.length c0, .slice D ((List.replicate (a0.length : Int).toNat (0 : Int)).length) G, .slice a4 ((List.replicate (a0.length : Int).toNat (false : Bool)).length) a5, .slice a6 ((List.replicate (a0.length : Int).toNat (0 : Int)).length) a7]) (cs := [.slice A0 a0.length c0, .slice none 0 0, i6 0, .slice D ((List.replicate (a0.length : Int).toNat (0 : Int)).length) G, .slice a4 ((List.replicate (a0.length : Int).toNat (false : Bool)).length) a5, .slice a6 ((List.replicate (a0.length : Int).toNat (0 : Int)).length) a7]) rfl rfl rfl rfl rfl rfl) rfl rfl rfl .n ?_; refine At.H.al [11] (Q6 ?_ Q8)
        ··refine At.HO.op rfl ?_
          refine At.box rfl rfl (cs := [.slice A0 a0.length c0, .slice none 0 0, i6 0, .slice D ((List.replicate (a0.length : Int).toNat (0 : Int)).length) G, .slice a4 ((List.replicate (a0.length : Int).toNat (false : Bool)).length) a5, .slice a6 ((List.replicate (a0.length : Int).toNat (0 : Int)).length) a7]) rfl rfl (fun h3 => ?_); refine At.HO.back .n ?_; refine At.H.pw 12 rfl rfl rfl rfl rfl .n ?_; refine At.H.done (by kernel_rfl) ?_; exact At.of (O (h3, a6, a7, a4, a5, D, G) trivial) ⟨rfl, rfl, trivial⟩
    ··refine At.HO.op rfl ?_
      refine At.make (F := (Fl.int .i64)) (z := 0) rfl rfl rfl rfl rfl rfl rfl rfl rfl rfl p.1 p.2 (by decide) rfl (fun a8 a9 => ?_); refine At.HO.back .n ?_; refine At.H.al [6] (Q6 ?_ Q8)
      ··refine At.HO.op rfl ?_
        refine At.make (F := Fl.bool) (z := false) rfl rfl rfl rfl rfl rfl rfl rfl rfl rfl u.1 u.2 (by decide) rfl (fun b2 b3 => ?_); refine At.HO.back .n ?_; refine At.H.tw 10 rfl (Y.build (is := [0, 3, 4, 5]) (xo := [.tmp 5, .tmp 8, .tmp 11, .tmp 14]) (vs := [.slice A0 a0.length c0, .slice D ((List.replicate (a0.length : Int).toNat (0 : Int)).length) G, .slice b2 ((List.replicate (a0.length : Int).toNat (false : Bool)).length) b3, .slice a8 ((List.replicate (a0.length : Int).toNat (0 : Int)).length) a9]) (cs := [.slice A0 a0.length c0, .slice none 0 0, i6 0, .slice D ((List.replicate (a0.length : Int).toNat (0 : Int)).length) G, .slice b2 ((List.replicate (a0.length : Int).toNat (false : Bool)).length) b3, .slice a8 ((List.replicate (a0.length : Int).toNat (0 : Int)).length) a9]) rfl rfl rfl rfl rfl rfl) rfl rfl rfl .n ?_; refine At.H.al [11] (Q6 ?_ Q8)
        ··refine At.HO.op rfl ?_
          refine At.box rfl rfl (cs := [.slice A0 a0.length c0, .slice none 0 0, i6 0, .slice D ((List.replicate (a0.length : Int).toNat (0 : Int)).length) G, .slice b2 ((List.replicate (a0.length : Int).toNat (false : Bool)).length) b3, .slice a8 ((List.replicate (a0.length : Int).toNat (0 : Int)).length) a9]) rfl rfl (fun h4 => ?_); refine At.HO.back .n ?_; refine At.H.pw 12 rfl rfl rfl rfl rfl .n ?_; refine At.H.done (by kernel_rfl) ?_; refine At.f3 (At.f2 (At.f3 (At.f3 ?_))); exact At.of (O (h4, a8, a9, b2, b3, D, G) trivial) ⟨rfl, rfl, trivial⟩
  ··refine At.HO.op rfl ?_
    refine At.make (F := Fl.bool) (z := false) rfl rfl rfl rfl rfl rfl rfl rfl rfl rfl u.1 u.2 (by decide) rfl (fun I J => ?_); refine At.HO.back .n ?_; refine At.H.al [3, 9] (Q6 ?_ (Q6 ?_ Q8))
    ··refine At.HO.op rfl ?_
      refine At.make (F := (Fl.int .i64)) (z := 0) rfl rfl rfl rfl rfl rfl rfl rfl rfl rfl p.1 p.2 (by decide) rfl (fun b4 b5 => ?_); refine At.HO.back .n ?_; refine At.H.al [9] (Q6 ?_ Q8)
      ··refine At.HO.op rfl ?_
        refine At.make (F := (Fl.int .i64)) (z := 0) rfl rfl rfl rfl rfl rfl rfl rfl rfl rfl p.1 p.2 (by decide) rfl (fun b6 b7 => ?_); refine At.HO.back .n ?_; refine At.H.tw 10 rfl (Y.build (is := [0, 3, 4, 5]) (xo := [.tmp 5, .tmp 8, .tmp 11, .tmp 14]) (vs := [.slice A0 a0.length c0, .slice b4 ((List.replicate (a0.length : Int).toNat (0 : Int)).length) b5, .slice I ((List.replicate (a0.length : Int).toNat (false : Bool)).length) J, .slice b6 ((List.replicate (a0.length : Int).toNat (0 : Int)).length) b7]) (cs := [.slice A0 a0.length c0, .slice none 0 0, i6 0, .slice b4 ((List.replicate (a0.length : Int).toNat (0 : Int)).length) b5, .slice I ((List.replicate (a0.length : Int).toNat (false : Bool)).length) J, .slice b6 ((List.replicate (a0.length : Int).toNat (0 : Int)).length) b7]) rfl rfl rfl rfl rfl rfl) rfl rfl rfl .n ?_; refine At.H.al [11] (Q6 ?_ Q8)
        ··refine At.HO.op rfl ?_
          refine At.box rfl rfl (cs := [.slice A0 a0.length c0, .slice none 0 0, i6 0, .slice b4 ((List.replicate (a0.length : Int).toNat (0 : Int)).length) b5, .slice I ((List.replicate (a0.length : Int).toNat (false : Bool)).length) J, .slice b6 ((List.replicate (a0.length : Int).toNat (0 : Int)).length) b7]) rfl rfl (fun h5 => ?_); refine At.HO.back .n ?_; refine At.H.pw 12 rfl rfl rfl rfl rfl .n ?_; refine At.H.done (by kernel_rfl) ?_; refine At.f2 (At.f3 (At.f3 (At.f3 ?_))); exact At.of (O (h5, b6, b7, I, J, b4, b5) trivial) ⟨rfl, rfl, trivial⟩
    ··refine At.HO.op rfl ?_
      refine At.make (F := (Fl.int .i64)) (z := 0) rfl rfl rfl rfl rfl rfl rfl rfl rfl rfl p.1 p.2 (by decide) rfl (fun b8 b9 => ?_); refine At.HO.back .n ?_; refine At.H.al [3] (Q6 ?_ Q8)
      ··refine At.HO.op rfl ?_
        refine At.make (F := (Fl.int .i64)) (z := 0) rfl rfl rfl rfl rfl rfl rfl rfl rfl rfl p.1 p.2 (by decide) rfl (fun c4 c5 => ?_); refine At.HO.back .n ?_; refine At.H.tw 10 rfl (Y.build (is := [0, 3, 4, 5]) (xo := [.tmp 5, .tmp 8, .tmp 11, .tmp 14]) (vs := [.slice A0 a0.length c0, .slice c4 ((List.replicate (a0.length : Int).toNat (0 : Int)).length) c5, .slice I ((List.replicate (a0.length : Int).toNat (false : Bool)).length) J, .slice b8 ((List.replicate (a0.length : Int).toNat (0 : Int)).length) b9]) (cs := [.slice A0 a0.length c0, .slice none 0 0, i6 0, .slice c4 ((List.replicate (a0.length : Int).toNat (0 : Int)).length) c5, .slice I ((List.replicate (a0.length : Int).toNat (false : Bool)).length) J, .slice b8 ((List.replicate (a0.length : Int).toNat (0 : Int)).length) b9]) rfl rfl rfl rfl rfl rfl) rfl rfl rfl .n ?_; refine At.H.al [11] (Q6 ?_ Q8)
        ··refine At.HO.op rfl ?_
          refine At.box rfl rfl (cs := [.slice A0 a0.length c0, .slice none 0 0, i6 0, .slice c4 ((List.replicate (a0.length : Int).toNat (0 : Int)).length) c5, .slice I ((List.replicate (a0.length : Int).toNat (false : Bool)).length) J, .slice b8 ((List.replicate (a0.length : Int).toNat (0 : Int)).length) b9]) rfl rfl (fun h6 => ?_); refine At.HO.back .n ?_; refine At.H.pw 12 rfl rfl rfl rfl rfl .n ?_; refine At.H.done (by kernel_rfl) ?_; refine At.f1 (At.f3 (At.f3 (At.f3 ?_))); exact At.of (O (h6, b8, b9, I, J, c4, c5) trivial) ⟨rfl, rfl, trivial⟩
  ··refine At.HO.op rfl ?_
    refine At.make (F := (Fl.int .i64)) (z := 0) rfl rfl rfl rfl rfl rfl rfl rfl rfl rfl p.1 p.2 (by decide) rfl (fun L M => ?_); refine At.HO.back .n ?_; refine At.H.al [3, 6] (Q6 ?_ (Q6 ?_ Q8))
    ··refine At.HO.op rfl ?_
      refine At.make (F := (Fl.int .i64)) (z := 0) rfl rfl rfl rfl rfl rfl rfl rfl rfl rfl p.1 p.2 (by decide) rfl (fun c6 c7 => ?_); refine At.HO.back .n ?_; refine At.H.al [6] (Q6 ?_ Q8)
      ··refine At.HO.op rfl ?_
        refine At.make (F := Fl.bool) (z := false) rfl rfl rfl rfl rfl rfl rfl rfl rfl rfl u.1 u.2 (by decide) rfl (fun c8 c9 => ?_); refine At.HO.back .n ?_; refine At.H.tw 10 rfl (Y.build (is := [0, 3, 4, 5]) (xo := [.tmp 5, .tmp 8, .tmp 11, .tmp 14]) (vs := [.slice A0 a0.length c0, .slice c6 ((List.replicate (a0.length : Int).toNat (0 : Int)).length) c7, .slice c8 ((List.replicate (a0.length : Int).toNat (false : Bool)).length) c9, .slice L ((List.replicate (a0.length : Int).toNat (0 : Int)).length) M]) (cs := [.slice A0 a0.length c0, .slice none 0 0, i6 0, .slice c6 ((List.replicate (a0.length : Int).toNat (0 : Int)).length) c7, .slice c8 ((List.replicate (a0.length : Int).toNat (false : Bool)).length) c9, .slice L ((List.replicate (a0.length : Int).toNat (0 : Int)).length) M]) rfl rfl rfl rfl rfl rfl) rfl rfl rfl .n ?_; refine At.H.al [11] (Q6 ?_ Q8)
        ··refine At.HO.op rfl ?_
          refine At.box rfl rfl (cs := [.slice A0 a0.length c0, .slice none 0 0, i6 0, .slice c6 ((List.replicate (a0.length : Int).toNat (0 : Int)).length) c7, .slice c8 ((List.replicate (a0.length : Int).toNat (false : Bool)).length) c9, .slice L ((List.replicate (a0.length : Int).toNat (0 : Int)).length) M]) rfl rfl (fun h7 => ?_); refine At.HO.back .n ?_; refine At.H.pw 12 rfl rfl rfl rfl rfl .n ?_; refine At.H.done (by kernel_rfl) ?_; refine At.f2 (At.f2 (At.f3 (At.f3 ?_))); exact At.of (O (h7, L, M, c8, c9, c6, c7) trivial) ⟨rfl, rfl, trivial⟩
    ··refine At.HO.op rfl ?_
      refine At.make (F := Fl.bool) (z := false) rfl rfl rfl rfl rfl rfl rfl rfl rfl rfl u.1 u.2 (by decide) rfl (fun d0 d1 => ?_); refine At.HO.back .n ?_; refine At.H.al [3] (Q6 ?_ Q8)
      ··refine At.HO.op rfl ?_
        refine At.make (F := (Fl.int .i64)) (z := 0) rfl rfl rfl rfl rfl rfl rfl rfl rfl rfl p.1 p.2 (by decide) rfl (fun d2 d3 => ?_); refine At.HO.back .n ?_; refine At.H.tw 10 rfl (Y.build (is := [0, 3, 4, 5]) (xo := [.tmp 5, .tmp 8, .tmp 11, .tmp 14]) (vs := [.slice A0 a0.length c0, .slice d2 ((List.replicate (a0.length : Int).toNat (0 : Int)).length) d3, .slice d0 ((List.replicate (a0.length : Int).toNat (false : Bool)).length) d1, .slice L ((List.replicate (a0.length : Int).toNat (0 : Int)).length) M]) (cs := [.slice A0 a0.length c0, .slice none 0 0, i6 0, .slice d2 ((List.replicate (a0.length : Int).toNat (0 : Int)).length) d3, .slice d0 ((List.replicate (a0.length : Int).toNat (false : Bool)).length) d1, .slice L ((List.replicate (a0.length : Int).toNat (0 : Int)).length) M]) rfl rfl rfl rfl rfl rfl) rfl rfl rfl .n ?_; refine At.H.al [11] (Q6 ?_ Q8)
        ··refine At.HO.op rfl ?_
          refine At.box rfl rfl (cs := [.slice A0 a0.length c0, .slice none 0 0, i6 0, .slice d2 ((List.replicate (a0.length : Int).toNat (0 : Int)).length) d3, .slice d0 ((List.replicate (a0.length : Int).toNat (false : Bool)).length) d1, .slice L ((List.replicate (a0.length : Int).toNat (0 : Int)).length) M]) rfl rfl (fun h8 => ?_); refine At.HO.back .n ?_; refine At.H.pw 12 rfl rfl rfl rfl rfl .n ?_; refine At.H.done (by kernel_rfl) ?_; refine At.f1 (At.f2 (At.f3 (At.f3 ?_))); exact At.of (O (h8, L, M, d0, d1, d2, d3) trivial) ⟨rfl, rfl, trivial⟩

noncomputable def Q77.f (p u D : Int) (G : Bs) (I : Int) : Option Bool :=
 jn (
 if p = 10 then
 some (.inl true)
 else
 some (.inl (decide (p = 11)))) (fun (q : Bool) =>
 some q)
theorem Q77.callee : Callee Tryz.prog 135 := ⟨_, Tryz.func135, by kernel_rfl, by kernel_rfl⟩
theorem Q77.spec {p u D G : Int} {I : Bs} {r : Bool} (j : Q77.f p u D I G = some r) :
 Spec Tryz.prog 135 [.agg #[i6 p, i6 u, i6 D, .string ⟨(I).toArray⟩, i6 G]] R (Fr) (fun v l' => v = .bool r ∧ Fr = l') := by
 refine Spec.of Tryz.func135 rfl rfl ?_; unfold Q77.f at j; have j := brun j; refine At.seq (At.region ?_); refine At.box rfl rfl (cs := [i6 p, i6 u, i6 D, .string ⟨(I).toArray⟩, i6 G]) rfl rfl (fun M => ?_); refine At.run 1 rfl (nT (sR 1 rfl (At.y (Y.load rfl rfl .z rfl rfl rfl) rfl rfl rfl (At.run 2 rfl ?_)))); obtain ⟨O, U, Z, j⟩ := bjoin j; let V : HProp := pc M [i6 p, i6 u, i6 D, .string ⟨(I).toArray⟩, i6 G] 33; refine At.joinO 4 (X := Bool) (fun q => [(10, .bool q)]) (fun q => V :: Fr) (fun q => O (.inl q) = some r) ?_ (fun L => ?_)
 ·rintro q j; have j := (U _).symm.trans j
  ·refine At.run 1 rfl (nT (At.ret (At.drop .z ?_))); cases bret j; exact At.res (.inl rfl) rfl rfl ⟨rfl, rfl⟩
 ··rcases bite j with ⟨J, j⟩ | ⟨J, j⟩
   ··refine At.know (t := 6) rfl (decide_eq_true J) ?_
     refine At.run 4 rfl ?_; exact At.of (L true j) ⟨rfl, trivial⟩
   ··refine At.know (t := 6) rfl (decide_eq_false J) ?_
     refine At.run 1 rfl (At.y (Y.load rfl rfl .z rfl rfl rfl) rfl rfl rfl (At.run 2 rfl ?_)); exact At.of (L (decide (p = 11)) j) ⟨rfl, trivial⟩

noncomputable def Q47.l0b (a0 : List Q1) (u : (List Q16) × (List Int) × (List Bool) × (List Int) × Int) (q : List (Bs × Bool)) (p : Int) : Option (((List (Bs × Bool)) × Int) ⊕ (((List (Bs × Bool))) ⊕ (Int × Int))) :=
 if p < (a0.length : Int) then
 jn (
 if (0 : Int) ≤ p ∧ p < (a0.length : Int) then
 jn (
 if (gt a0 p).Kind = 4 then
 if (0 : Int) ≤ p ∧ p < ((List.replicate (a0.length : Int).toNat (0 : Int)).length : Int) then
 some (.inl (decide (gt u.2.1 p < 0)))
 else none
 else
 some (.inl false)) (fun (D : Bool) =>
 if D = true then
 up (upL (some (11, p)))
 else
 jn (
 if (gt a0 p).Kind = 4 then
 if (0 : Int) ≤ p ∧ p < ((List.replicate (a0.length : Int).toNat (false : Bool)).length : Int) then
 some (.inl (gt u.2.2.1 p))
 else none
 else
 some (.inl false)) (fun (G : Bool) =>
 if G = true then
 up (upL (some (12, p)))
 else
 (Q77.f ((gt a0 p).Kind) ((gt a0 p).A) ((gt a0 p).B) ((gt a0 p).Name) ((gt a0 p).At)).bind fun I =>
 jn (
 if I = true then
 some (.inl ((mget q ((gt a0 p).Name)).getD false))
 else
 some (.inl false)) (fun (J : Bool) =>
 if J = true then
 up (upL (some (9, p)))
 else
 (Q77.f ((gt a0 p).Kind) ((gt a0 p).A) ((gt a0 p).B) ((gt a0 p).Name) ((gt a0 p).At)).bind fun L =>
 jn (
 if L = true then
 if (0 : Int) ≤ p ∧ p < ((List.replicate (a0.length : Int).toNat (0 : Int)).length : Int) then
 some (.inl (decide (4 < gt u.2.2.2.1 p)))
 else none
 else
 some (.inl false)) (fun (M : Bool) =>
 if M = true then
 up (upL (some (13, p)))
 else
 (Q77.f ((gt a0 p).Kind) ((gt a0 p).A) ((gt a0 p).B) ((gt a0 p).Name) ((gt a0 p).At)).bind fun O =>
 if O = true then
 some (.inl (mset q ((gt a0 p).Name) true))
 else
 some (.inl q)))))
 else none) (fun (U : List (Bs × Bool)) =>
 nx (U, IntKind.i64.wrap (p + 1)))
 else
 dn (.inl q)
noncomputable def Q47.l0 (a0 : List Q1) (p : (List Q16) × (List Int) × (List Bool) × (List Int) × Int) (q : List (Bs × Bool)) (u : Int) : Option (((List (Bs × Bool))) ⊕ (Int × Int)) := iter (fun t_ : (List (Bs × Bool)) × Int => Q47.l0b a0 p t_.1 t_.2) (q, u)
noncomputable def Q47.f (a0 : List Q1) : Option (Int × Int) :=
 (Q40.f a0).bind fun p =>
 if p = true then
 (Q43.f a0).bind fun q =>
 jn (Q47.l0 a0 q ([] : List (Bs × Bool)) 0) (fun (u : List (Bs × Bool)) =>
 some (0, 0))
 else
 some (1, 0)
theorem Q47.callee : Callee Tryz.prog 83 := ⟨_, Tryz.func83, by kernel_rfl, by kernel_rfl⟩
theorem Q47.spec {a0 : List Q1} (hr0 : RdS Q1.fl.rep R.heap A0 a0) (hn0 : a0.length = n0) (hc0 : n0 ≤ c0) {r : Int × Int} (j : Q47.f a0 = some r) :
 Spec Tryz.prog 83 [.slice A0 n0 c0] R (Fr) (fun v l' => v = .tuple #[i6 r.2, i6 r.1] ∧ Fr = l') := by
 subst hn0; refine Spec.of Tryz.func83 rfl rfl ?_; unfold Q47.f at j; have j := brun j; refine sR 2 rfl (nT (At.seq (At.seq (At.region ?_)))); refine At.run 1 rfl ?_; obtain ⟨g9, e9, j⟩ := bbind j; refine At.call rfl Q40.callee rfl rfl rfl (Q40.spec hr0 rfl hc0 e9) ?_; rintro _ _ ⟨rfl, rfl⟩; refine At.run 1 rfl (nT ?_); rcases bite j with ⟨b8, j⟩ | ⟨b8, j⟩
 ··refine At.condF rfl (nf b8) ?_
   refine At.skip (At.thn (sR 1 rfl ?_)); obtain ⟨D, f0, j⟩ := bbind j; refine At.call rfl Q43.callee rfl rfl rfl (Q43.spec hr0 rfl hc0 f0) ?_; rintro _ _ ⟨I, h0, d5, d6, d7, d8, d9, e1, e2, e3, rfl, rfl, rfl⟩; refine At.run 1 rfl (nT (At.seq (At.region ?_))); refine At.makeMap Fl.bs.ov Fl.bool.ov rfl rfl (fun u => ?_); refine At.run 1 rfl (nT (At.seq (sR 3 rfl (At.nil ?_)))); refine At.thn ?_; refine At.block ?_; obtain ⟨f1, f2, a9, j⟩ := bjoin j; obtain ⟨J, b9, a1⟩ := bsome j; clear j; unfold Q47.l0 at b9; obtain ⟨c4, a2⟩ := Q18.1 b9; clear b9; let L : HProp := pc I [.slice A0 a0.length c0, .slice d5 D.1.length d6, i6 D.2.2.2.2, .slice d7 ((List.replicate (a0.length : Int).toNat (0 : Int)).length) d8, .slice d9 ((List.replicate (a0.length : Int).toNat (false : Bool)).length) e1, .slice e2 ((List.replicate (a0.length : Int).toNat (0 : Int)).length) e3] 190; let M : HProp := row Q16.fl 242 d5 D.1.length d6 D.1; let O : HProp := row (Fl.int .i64) 3 d7 ((List.replicate (a0.length : Int).toNat (0 : Int)).length) d8 D.2.1; let U : HProp := row Fl.bool 4 d9 ((List.replicate (a0.length : Int).toNat (false : Bool)).length) e1 D.2.2.1; let V : HProp := row (Fl.int .i64) 3 e2 ((List.replicate (a0.length : Int).toNat (0 : Int)).length) e3 D.2.2.2.1; refine At.loopJ (X := (List (Bs × Bool)) × Int) (Y := (List (Bs × Bool))) (e0 := 0) (fun s_ => [(4, bp I), (5, .map (some u)), (14, .slice A0 a0.length c0), (15, i6 (a0.length : Int)), (16, i6 s_.2)]) (fun s_ => mapo Fl.bs.ov Fl.bool.ov u s_.1 :: L :: M :: O :: U :: V :: Fr) (fun m_ => fun s_ => iterN (fun t_ : (List (Bs × Bool)) × Int => Q47.l0b a0 D t_.1 t_.2) m_ (s_.1, s_.2) = some J) c4 (([] : List (Bs × Bool)), 0) a2 (fun a3 => []) (fun a3 => mapo Fl.bs.ov Fl.bool.ov u a3 :: L :: M :: O :: U :: V :: Fr) (fun a3 => f1 (.inl a3) = some r) (fun a w e hs => ⟨e.sub ⟨rfl, rfl, rfl, rfl, rfl, trivial⟩, (by exact hs)⟩) ?_ (fun f3 => ?_)
   ·rintro a3 j; have j := (f2 _).symm.trans j
    ·refine At.ibx ?_; refine At.thn (sR 2 rfl (nT (At.ret (At.drop .z ?_)))); refine At.drop .z (At.drop .z (At.drop .z (At.drop .z (At.drop .z ?_)))); cases bret j; exact At.res (.inl rfl) rfl rfl ⟨rfl, rfl⟩
   ·clear a2 c4; rintro c4 ⟨G, p⟩ a2; obtain ⟨f4, f_, f5, hf_, j⟩ := bit a2; clear a2; have j : (Q47.l0b a0 D G p).bind _ = some J := j; unfold Q47.l0b at j
    ·refine sR 1 rfl (nT (At.seq ?_)); rcases bite j with ⟨c5, j⟩ | ⟨c5, j⟩
     ··refine At.condT rfl (decide_eq_true c5) ?_
       refine At.skip (At.thn (At.seq ?_)); obtain ⟨f6, f7, b2, j⟩ := bjoin j; refine At.join (X := (List (Bs × Bool))) (fun Z => [(4, bp I), (5, .map (some u)), (14, .slice A0 a0.length c0), (15, i6 (a0.length : Int)), (16, i6 p)]) (fun Z => mapo Fl.bs.ov Fl.bool.ov u Z :: L :: M :: O :: U :: V :: Fr) (fun Z => f6 (.inl Z) = some J) ?_ (fun e4 => ?_)
       ·rintro Z j; have j := (f7 _).symm.trans j
        ·refine At.region (At.run 2 rfl (At.nil ?_)); have j := bnx hf_ j; exact fun a w e hs => ⟨f4, (Z, IntKind.i64.wrap (p + 1)), f5, j, e.sub ⟨rfl, rfl, rfl, rfl, rfl, trivial⟩, hs⟩
       ··refine At.block ?_
         refine sR 1 rfl ?_; obtain ⟨b3, j⟩ := bnone j; refine At.y (Y.ixRd hr0 rfl rfl rfl rfl rfl rfl rfl b3.1 b3.2) rfl rfl rfl (At.y (Y.ldFl hr0 rfl (q := 0) rfl rfl b3.1 b3.2 rfl rfl rfl) rfl rfl rfl ?_); refine At.alloc rfl rfl rfl (fun a4 => ?_); refine At.run 1 rfl ?_; refine At.store rfl rfl rfl rfl .z rfl rfl rfl (.c (.c (.c (.c (.c .n))))) ?_; refine nT (At.seq ?_); refine At.block ?_; refine sR 1 rfl (At.y (Y.load rfl rfl .z rfl rfl rfl) rfl rfl rfl (At.run 2 rfl ?_)); obtain ⟨f8, f9, h1, j⟩ := bjoin j; let b4 : HProp := pc a4 [i6 ((gt a0 p).Kind), i6 ((gt a0 p).A), i6 ((gt a0 p).B), .string ⟨((gt a0 p).Name).toArray⟩, i6 ((gt a0 p).At)] 33; refine At.joinO 9 (X := Bool) (fun a5 => [(4, bp I), (5, .map (some u)), (6, i6 p), (7, bp a4), (14, .slice A0 a0.length c0), (15, i6 (a0.length : Int)), (16, i6 p), (34, .bool a5)]) (fun a5 => b4 :: mapo Fl.bs.ov Fl.bool.ov u G :: L :: M :: O :: U :: V :: Fr) (fun a5 => f8 (.inl a5) = some J) ?_ (fun e5 => ?_)
         ·rintro a5 j; have j := (f9 _).symm.trans j
          ·refine At.run 1 rfl (nT ?_); rcases bite j with ⟨c6, j⟩ | ⟨c6, j⟩
           ··refine At.condT rfl c6 ?_
             refine sR 3 rfl (nT (At.ret ?_)); refine At.ibr ?_; refine At.thr ?_; refine At.ibr ?_; have j := bup b2 j; refine At.thr ?_; have j := bupL a9 a1 j; refine At.thr ?_; refine At.ibr ?_; refine At.thr (At.drop .z (At.drop .z (At.drop .z (At.drop .z (At.drop .z (At.drop .z (At.drop .z ?_))))))); cases bret j; exact At.res (.inl rfl) rfl rfl ⟨rfl, rfl⟩
           ··refine At.condF rfl (bn c6) ?_
             refine sR 1 rfl (At.y (Y.load rfl rfl .z rfl rfl rfl) rfl rfl rfl (At.run 2 rfl ?_)); obtain ⟨g0, g1, h2, j⟩ := bjoin j; refine At.joinO 8 (X := Bool) (fun a6 => [(4, bp I), (5, .map (some u)), (6, i6 p), (7, bp a4), (14, .slice A0 a0.length c0), (15, i6 (a0.length : Int)), (16, i6 p), (48, .bool a6)]) (fun a6 => b4 :: mapo Fl.bs.ov Fl.bool.ov u G :: L :: M :: O :: U :: V :: Fr) (fun a6 => g0 (.inl a6) = some J) ?_ (fun e6 => ?_)
             ·rintro a6 j; have j := (g1 _).symm.trans j
              ·refine At.run 1 rfl (nT ?_); rcases bite j with ⟨c7, j⟩ | ⟨c7, j⟩
               ··refine At.condT rfl c7 ?_
                 refine sR 3 rfl (nT (At.ret ?_)); refine At.ibr ?_; refine At.thr ?_; refine At.ibr ?_; have j := bup b2 j; refine At.thr ?_; have j := bupL a9 a1 j; refine At.thr ?_; refine At.ibr ?_; refine At.thr (At.drop .z (At.drop .z (At.drop .z (At.drop .z (At.drop .z (At.drop .z (At.drop .z ?_))))))); cases bret j; exact At.res (.inl rfl) rfl rfl ⟨rfl, rfl⟩
               ··refine At.condF rfl (bn c7) ?_
                 refine At.seq (At.region (At.y (Y.load rfl rfl .z rfl rfl rfl) rfl rfl rfl ?_)); obtain ⟨h3, g2, j⟩ := bbind j; refine At.call rfl Q77.callee rfl rfl rfl (Q77.spec g2) ?_; rintro _ _ ⟨rfl, rfl⟩; refine At.run 1 rfl ?_; obtain ⟨g3, g4, h4, j⟩ := bjoin j; refine At.joinO 5 (X := Bool) (fun a7 => [(4, bp I), (5, .map (some u)), (6, i6 p), (7, bp a4), (14, .slice A0 a0.length c0), (15, i6 (a0.length : Int)), (16, i6 p), (58, .bool a7)]) (fun a7 => b4 :: mapo Fl.bs.ov Fl.bool.ov u G :: L :: M :: O :: U :: V :: Fr) (fun a7 => g3 (.inl a7) = some J) ?_ (fun e7 => ?_)
                 ·rintro a7 j; have j := (g4 _).symm.trans j
                  ·refine At.run 1 rfl (nT ?_); rcases bite j with ⟨c8, j⟩ | ⟨c8, j⟩
                   ··refine At.condT rfl c8 ?_
                     refine sR 3 rfl (nT (At.ret ?_)); refine At.ibr ?_; refine At.thr ?_; refine At.ibr ?_; have j := bup b2 j; refine At.thr ?_; have j := bupL a9 a1 j; refine At.thr ?_; refine At.ibr ?_; refine At.thr (At.drop .z (At.drop .z (At.drop .z (At.drop .z (At.drop .z (At.drop .z (At.drop .z ?_))))))); cases bret j; exact At.res (.inl rfl) rfl rfl ⟨rfl, rfl⟩
                   ··refine At.condF rfl (bn c8) ?_
                     refine At.seq (At.region (At.y (Y.load rfl rfl .z rfl rfl rfl) rfl rfl rfl ?_)); obtain ⟨h5, g5, j⟩ := bbind j; refine At.call rfl Q77.callee rfl rfl rfl (Q77.spec g5) ?_; rintro _ _ ⟨rfl, rfl⟩; refine At.run 1 rfl ?_; obtain ⟨g6, g7, h6, j⟩ := bjoin j; refine At.joinO 9 (X := Bool) (fun a8 => [(4, bp I), (5, .map (some u)), (6, i6 p), (7, bp a4), (14, .slice A0 a0.length c0), (15, i6 (a0.length : Int)), (16, i6 p), (72, .bool a8)]) (fun a8 => b4 :: mapo Fl.bs.ov Fl.bool.ov u G :: L :: M :: O :: U :: V :: Fr) (fun a8 => g6 (.inl a8) = some J) ?_ (fun e8 => ?_)
                     ·rintro a8 j; have j := (g7 _).symm.trans j
                      ·refine At.run 1 rfl (nT ?_); rcases bite j with ⟨c9, j⟩ | ⟨c9, j⟩
                       ··refine At.condT rfl c9 ?_
                         refine sR 3 rfl (nT (At.ret ?_)); refine At.ibr ?_; refine At.thr ?_; refine At.ibr ?_; have j := bup b2 j; refine At.thr ?_; have j := bupL a9 a1 j; refine At.thr ?_; refine At.ibr ?_; refine At.thr (At.drop .z (At.drop .z (At.drop .z (At.drop .z (At.drop .z (At.drop .z (At.drop .z ?_))))))); cases bret j; exact At.res (.inl rfl) rfl rfl ⟨rfl, rfl⟩
                       ··refine At.condF rfl (bn c9) ?_
                         refine At.skip ?_; refine At.ibn ?_; refine At.thn (At.seq (At.region (At.y (Y.load rfl rfl .z rfl rfl rfl) rfl rfl rfl ?_))); obtain ⟨h7, g8, j⟩ := bbind j; refine At.call rfl Q77.callee rfl rfl rfl (Q77.spec g8) ?_; rintro _ _ ⟨rfl, rfl⟩; refine nT ?_; rcases bite j with ⟨d0, j⟩ | ⟨d0, j⟩
                         ··refine At.condT rfl d0 ?_
                           refine At.region (At.run 2 rfl (At.y (Y.load rfl rfl .z rfl rfl rfl) rfl rfl rfl ?_)); refine At.mapUpdate (k := ((gt a0 p).Name)) (v := true) rfl (.s .z) rfl rfl (KeyOk.str rfl rfl) rfl rfl rfl rfl rfl ?_; refine At.nil ?_; refine At.ibn ?_; refine At.thn (At.drop (.s .z) ?_); exact fun a w e hs => e4 (mset G ((gt a0 p).Name) true) j a w (e.sub ⟨rfl, rfl, rfl, rfl, rfl, trivial⟩) hs
                         ··refine At.condF rfl (bn d0) ?_
                           refine At.skip ?_; refine At.ibn ?_; refine At.thn (At.drop .z ?_); exact fun a w e hs => e4 G j a w (e.sub ⟨rfl, rfl, rfl, rfl, rfl, trivial⟩) hs
                     ··rcases bite j with ⟨d1, j⟩ | ⟨d1, j⟩
                       ··refine At.know (t := 63) rfl d1 ?_
                         refine At.run 3 rfl (At.y (Y.load rfl rfl (.s (.s .z)) rfl rfl rfl) rfl rfl rfl (At.run 1 rfl ?_)); obtain ⟨b5, j⟩ := bnone j; refine At.y (Y.ix (.s (.s (.s (.s (.s (.s .z)))))) rfl rfl rfl rfl rfl rfl b5.1 b5.2) rfl rfl rfl ?_; refine At.y (Y.ld (.s (.s (.s (.s (.s (.s .z)))))) (q := 0) rfl rfl b5.1 b5.2 rfl rfl rfl) rfl rfl rfl ?_; refine At.run 2 rfl ?_; exact At.of (e8 (decide (4 < gt D.2.2.2.1 p)) j) ⟨rfl, rfl, rfl, rfl, rfl, rfl, rfl, rfl, trivial⟩
                       ··refine At.know (t := 63) rfl (bn d1) ?_
                         refine At.run 9 rfl ?_; exact At.of (e8 false j) ⟨rfl, rfl, rfl, rfl, rfl, rfl, rfl, rfl, trivial⟩
                 ··rcases bite j with ⟨d2, j⟩ | ⟨d2, j⟩
                   ··refine At.know (t := 53) rfl d2 ?_
                     refine At.run 2 rfl (At.y (Y.load rfl rfl .z rfl rfl rfl) rfl rfl rfl ?_); refine At.y (Y.lookup (k := ((gt a0 p).Name)) (z := false) (.s .z) rfl rfl (KeyOk.str rfl rfl) (by kernel_rfl) rfl rfl rfl) rfl rfl rfl ?_; refine At.run 1 rfl ?_; exact At.of (e7 ((mget G ((gt a0 p).Name)).getD false) j) ⟨rfl, rfl, rfl, rfl, rfl, rfl, rfl, rfl, trivial⟩
                   ··refine At.know (t := 53) rfl (bn d2) ?_
                     refine At.run 5 rfl ?_; exact At.of (e7 false j) ⟨rfl, rfl, rfl, rfl, rfl, rfl, rfl, rfl, trivial⟩
             ··rcases bite j with ⟨d3, j⟩ | ⟨d3, j⟩
               ··refine At.know (t := 40) rfl (decide_eq_true d3) ?_
                 refine At.run 3 rfl (At.y (Y.load rfl rfl (.s (.s .z)) rfl rfl rfl) rfl rfl rfl (At.run 1 rfl ?_)); obtain ⟨b6, j⟩ := bnone j; refine At.y (Y.ix (.s (.s (.s (.s (.s .z))))) rfl rfl rfl rfl rfl rfl b6.1 b6.2) rfl rfl rfl ?_; refine At.y (Y.ld (.s (.s (.s (.s (.s .z))))) (q := 0) rfl rfl b6.1 b6.2 rfl rfl rfl) rfl rfl rfl ?_; refine At.run 1 rfl ?_; exact At.of (e6 (gt D.2.2.1 p) j) ⟨rfl, rfl, rfl, rfl, rfl, rfl, rfl, rfl, trivial⟩
               ··refine At.know (t := 40) rfl (decide_eq_false d3) ?_
                 refine At.run 8 rfl ?_; exact At.of (e6 false j) ⟨rfl, rfl, rfl, rfl, rfl, rfl, rfl, rfl, trivial⟩
         ··rcases bite j with ⟨d4, j⟩ | ⟨d4, j⟩
           ··refine At.know (t := 25) rfl (decide_eq_true d4) ?_
             refine At.run 3 rfl (At.y (Y.load rfl rfl (.s (.s .z)) rfl rfl rfl) rfl rfl rfl (At.run 1 rfl ?_)); obtain ⟨b7, j⟩ := bnone j; refine At.y (Y.ix (.s (.s (.s (.s .z)))) rfl rfl rfl rfl rfl rfl b7.1 b7.2) rfl rfl rfl ?_; refine At.y (Y.ld (.s (.s (.s (.s .z)))) (q := 0) rfl rfl b7.1 b7.2 rfl rfl rfl) rfl rfl rfl ?_; refine At.run 2 rfl ?_; exact At.of (e5 (decide (gt D.2.1 p < 0)) j) ⟨rfl, rfl, rfl, rfl, rfl, rfl, rfl, rfl, trivial⟩
           ··refine At.know (t := 25) rfl (decide_eq_false d4) ?_
             refine At.run 9 rfl ?_; exact At.of (e5 false j) ⟨rfl, rfl, rfl, rfl, rfl, rfl, rfl, rfl, trivial⟩
     ··refine At.condF rfl (decide_eq_false c5) ?_
       refine At.exit ?_; refine At.the ?_; refine At.the ?_; exact fun a w e hs => f3 G (bdn j a1) a w (e.sub trivial) hs
 ··refine At.condT rfl (nt (bn b8)) ?_
   refine sR 2 rfl (nT (At.ret (At.thr ?_))); cases bret j; exact At.res (.inl rfl) rfl rfl ⟨rfl, rfl⟩

noncomputable def Q104.f (a0 : List Q1) : Option (List Int) :=
 (Q40.f a0).bind fun p =>
 if p = true then
 (Q43.f a0).bind fun q =>
 some q.2.1
 else
 some ([] : List Int)
theorem Q104.callee : Callee Tryz.prog 84 := ⟨_, Tryz.func84, by kernel_rfl, by kernel_rfl⟩
theorem Q104.spec {a0 : List Q1} (hr0 : RdS Q1.fl.rep R.heap A0 a0) (hn0 : a0.length = n0) (hc0 : n0 ≤ c0) {r : (List Int)} (j : Q104.f a0 = some r) :
 Spec Tryz.prog 84 [.slice A0 n0 c0] R (Fr) (fun v l' => ∃ (p : Nat) (u : Option Addr) (D : Nat), v = .slice u p D ∧ row (Fl.int .i64) 3 u p D r :: Fr = l' ∧ r.length = p) := by
 subst hn0; refine Spec.of Tryz.func84 rfl rfl ?_; unfold Q104.f at j; have j := brun j; refine sR 1 rfl (nT (At.seq (At.seq (At.region ?_)))); refine At.run 1 rfl ?_; obtain ⟨O, G, j⟩ := bbind j; refine At.call rfl Q40.callee rfl rfl rfl (Q40.spec hr0 rfl hc0 G) ?_; rintro _ _ ⟨rfl, rfl⟩; refine At.run 1 rfl (nT ?_); rcases bite j with ⟨q, j⟩ | ⟨q, j⟩
 ··refine At.condF rfl (nf q) ?_
   refine At.skip (At.thn (sR 1 rfl ?_)); obtain ⟨U, I, j⟩ := bbind j; refine At.call rfl Q43.callee rfl rfl rfl (Q43.spec hr0 rfl hc0 I) ?_; rintro _ _ ⟨V, X, Z, a1, J, L, a2, a3, a4, a5, rfl, rfl, rfl⟩; refine At.run 2 rfl (At.y (Y.load rfl rfl .z rfl rfl rfl) rfl rfl rfl (At.run 1 rfl (nT (At.ret ?_)))); refine At.rowLen (.s (.s .z)) fun M => ?_; refine At.drop .z (At.drop .z (At.drop (.s .z) (At.drop (.s .z) ?_))); cases bret j; exact At.res (.inl rfl) rfl rfl ⟨(List.replicate (a0.length : Int).toNat (0 : Int)).length, J, L, rfl, rfl, M⟩
 ··refine At.condT rfl (nt (bn q)) ?_
   refine sR 1 rfl (nT (At.ret (At.thr ?_))); refine At.nilRow (Fl.int .i64) 3 ?_; cases bret j; exact At.res (.inl rfl) rfl rfl ⟨0, none, 0, rfl, rfl, rfl⟩

noncomputable def Q100.f (p : Int) (q : List (Bs × Q2)) (u : List (Q7 × Q2)) : Option Int :=
 some p
theorem Q100.callee : Callee Tryz.prog 47 := ⟨_, Tryz.func47, by kernel_rfl, by kernel_rfl⟩
theorem Q100.spec {p : Int} {q : List (Bs × Q2)} {u : List (Q7 × Q2)} {r : Int} (j : Q100.f p q u = some r) :
 Spec Tryz.prog 47 [bp b0] R (pc b0 [i6 p, .map (some b0_1), .map (some b0_2)] 82 :: mapo Fl.bs.ov Q2.fl.av b0_1 q :: mapo Q7.fl.av Q2.fl.av b0_2 u :: Fr) (fun v l' => v = i6 r ∧ pc b0 [i6 p, .map (some b0_1), .map (some b0_2)] 82 :: mapo Fl.bs.ov Q2.fl.av b0_1 q :: mapo Q7.fl.av Q2.fl.av b0_2 u :: Fr = l') := by
 refine Spec.of Tryz.func47 rfl rfl ?_; unfold Q100.f at j; have j := brun j; refine sR 1 rfl (nT (sR 3 rfl ?_)); refine At.y (Y.load rfl rfl .z rfl rfl rfl) rfl rfl rfl (At.run 1 rfl (nT (At.ret ?_))); cases bret j; exact At.res (.inl rfl) rfl rfl ⟨rfl, rfl⟩

noncomputable def Q82.f (a0 : Int) : Option (Int × Int × Int × Int) :=
 jn (
 if 256 < (if a0 < 0 then 0 else a0) then
 if (0 : Int) ≤ IntKind.u64.wrap 64 then
 some (.inl (IntKind.u64.wrap ((Bw.shl .u64 1 (IntKind.u64.wrap 64)) - 1)))
 else none
 else
 if (0 : Int) ≤ IntKind.u64.wrap (if 64 < (if IntKind.i64.wrap ((if a0 < 0 then 0 else a0) - 0) < 0 then 0 else IntKind.i64.wrap ((if a0 < 0 then 0 else a0) - 0)) then 64 else (if IntKind.i64.wrap ((if a0 < 0 then 0 else a0) - 0) < 0 then 0 else IntKind.i64.wrap ((if a0 < 0 then 0 else a0) - 0))) then
 some (.inl (IntKind.u64.wrap ((Bw.shl .u64 1 (IntKind.u64.wrap (if 64 < (if IntKind.i64.wrap ((if a0 < 0 then 0 else a0) - 0) < 0 then 0 else IntKind.i64.wrap ((if a0 < 0 then 0 else a0) - 0)) then 64 else (if IntKind.i64.wrap ((if a0 < 0 then 0 else a0) - 0) < 0 then 0 else IntKind.i64.wrap ((if a0 < 0 then 0 else a0) - 0))))) - 1)))
 else none) (fun (p : Int) =>
 jn (
 if 256 < (if a0 < 0 then 0 else a0) then
 if (0 : Int) ≤ IntKind.u64.wrap 64 then
 some (.inl (IntKind.u64.wrap ((Bw.shl .u64 1 (IntKind.u64.wrap 64)) - 1)))
 else none
 else
 if (0 : Int) ≤ IntKind.u64.wrap (if 64 < (if IntKind.i64.wrap ((if a0 < 0 then 0 else a0) - 64) < 0 then 0 else IntKind.i64.wrap ((if a0 < 0 then 0 else a0) - 64)) then 64 else (if IntKind.i64.wrap ((if a0 < 0 then 0 else a0) - 64) < 0 then 0 else IntKind.i64.wrap ((if a0 < 0 then 0 else a0) - 64))) then
 some (.inl (IntKind.u64.wrap ((Bw.shl .u64 1 (IntKind.u64.wrap (if 64 < (if IntKind.i64.wrap ((if a0 < 0 then 0 else a0) - 64) < 0 then 0 else IntKind.i64.wrap ((if a0 < 0 then 0 else a0) - 64)) then 64 else (if IntKind.i64.wrap ((if a0 < 0 then 0 else a0) - 64) < 0 then 0 else IntKind.i64.wrap ((if a0 < 0 then 0 else a0) - 64))))) - 1)))
 else none) (fun (q : Int) =>
 jn (
 if 256 < (if a0 < 0 then 0 else a0) then
 if (0 : Int) ≤ IntKind.u64.wrap 64 then
 some (.inl (IntKind.u64.wrap ((Bw.shl .u64 1 (IntKind.u64.wrap 64)) - 1)))
 else none
 else
 if (0 : Int) ≤ IntKind.u64.wrap (if 64 < (if IntKind.i64.wrap ((if a0 < 0 then 0 else a0) - 128) < 0 then 0 else IntKind.i64.wrap ((if a0 < 0 then 0 else a0) - 128)) then 64 else (if IntKind.i64.wrap ((if a0 < 0 then 0 else a0) - 128) < 0 then 0 else IntKind.i64.wrap ((if a0 < 0 then 0 else a0) - 128))) then
 some (.inl (IntKind.u64.wrap ((Bw.shl .u64 1 (IntKind.u64.wrap (if 64 < (if IntKind.i64.wrap ((if a0 < 0 then 0 else a0) - 128) < 0 then 0 else IntKind.i64.wrap ((if a0 < 0 then 0 else a0) - 128)) then 64 else (if IntKind.i64.wrap ((if a0 < 0 then 0 else a0) - 128) < 0 then 0 else IntKind.i64.wrap ((if a0 < 0 then 0 else a0) - 128))))) - 1)))
 else none) (fun (u : Int) =>
 jn (
 if 256 < (if a0 < 0 then 0 else a0) then
 if (0 : Int) ≤ IntKind.u64.wrap 64 then
 some (.inl (IntKind.u64.wrap ((Bw.shl .u64 1 (IntKind.u64.wrap 64)) - 1)))
 else none
 else
 if (0 : Int) ≤ IntKind.u64.wrap (if 64 < (if IntKind.i64.wrap ((if a0 < 0 then 0 else a0) - 192) < 0 then 0 else IntKind.i64.wrap ((if a0 < 0 then 0 else a0) - 192)) then 64 else (if IntKind.i64.wrap ((if a0 < 0 then 0 else a0) - 192) < 0 then 0 else IntKind.i64.wrap ((if a0 < 0 then 0 else a0) - 192))) then
 some (.inl (IntKind.u64.wrap ((Bw.shl .u64 1 (IntKind.u64.wrap (if 64 < (if IntKind.i64.wrap ((if a0 < 0 then 0 else a0) - 192) < 0 then 0 else IntKind.i64.wrap ((if a0 < 0 then 0 else a0) - 192)) then 64 else (if IntKind.i64.wrap ((if a0 < 0 then 0 else a0) - 192) < 0 then 0 else IntKind.i64.wrap ((if a0 < 0 then 0 else a0) - 192))))) - 1)))
 else none) (fun (D : Int) =>
 some (p, q, u, D)))))
theorem Q82.callee : Callee Tryz.prog 14 := ⟨_, Tryz.func14, by kernel_rfl, by kernel_rfl⟩
theorem Q82.spec {a0 : Int} {r : Int × Int × Int × Int} (j : Q82.f a0 = some r) :
 Spec Tryz.prog 14 [i6 a0] R (Fr) (fun v l' => v = .agg #[.int .u64 r.1, .int .u64 r.2.1, .int .u64 r.2.2.1, .int .u64 r.2.2.2] ∧ Fr = l') := by
 refine Spec.of Tryz.func14 rfl rfl ?_; unfold Q82.f at j; have j := brun j; refine At.seq (At.region ?_); refine At.alloc rfl rfl rfl (fun I => ?_); refine nT (At.seq (At.region ?_)); refine At.alloc rfl rfl rfl (fun p => ?_); refine nT (sR 3 rfl (nT (At.seq ?_))); refine sR 1 rfl (nT ?_); refine At.block ?_; refine At.rounds 5 ?_; refine At.round ?_; refine sR 1 rfl (nT (At.seq ?_)); refine At.condT rfl rfl ?_; refine At.skip (At.thn (At.seq ?_)); obtain ⟨a4, a5, c6, j⟩ := bjoin j; let L : HProp := pt I (.cells ([.int .u64 0, .int .u64 0, .int .u64 0, .int .u64 0] : List Value).toArray 35); refine At.join (X := Int) (fun u => [(0, i6 (if a0 < 0 then 0 else a0)), (2, bp I), (3, bp p), (8, i6 0)]) (fun u => pc p [.int .u64 u, .int .u64 0, .int .u64 0, .int .u64 0] 35 :: L :: Fr) (fun u => a4 (.inl u) = some r) ?_ (fun Z => ?_)
 ·rintro u j; have j := (a5 _).symm.trans j
  ·refine At.region (At.run 2 rfl (nT ?_)); refine At.round ?_; refine sR 1 rfl (nT (At.seq ?_)); refine At.condT rfl rfl ?_; refine At.skip (At.thn (At.seq ?_)); obtain ⟨a6, a7, c7, j⟩ := bjoin j; refine At.join (X := Int) (fun D => [(0, i6 (if a0 < 0 then 0 else a0)), (2, bp I), (3, bp p), (8, i6 1)]) (fun D => pc p [.int .u64 u, .int .u64 D, .int .u64 0, .int .u64 0] 35 :: L :: Fr) (fun D => a6 (.inl D) = some r) ?_ (fun a1 => ?_)
   ·rintro D j; have j := (a7 _).symm.trans j
    ·refine At.region (At.run 2 rfl (nT ?_)); refine At.round ?_; refine sR 1 rfl (nT (At.seq ?_)); refine At.condT rfl rfl ?_; refine At.skip (At.thn (At.seq ?_)); obtain ⟨a8, a9, c8, j⟩ := bjoin j; refine At.join (X := Int) (fun G => [(0, i6 (if a0 < 0 then 0 else a0)), (2, bp I), (3, bp p), (8, i6 2)]) (fun G => pc p [.int .u64 u, .int .u64 D, .int .u64 G, .int .u64 0] 35 :: L :: Fr) (fun G => a8 (.inl G) = some r) ?_ (fun a2 => ?_)
     ·rintro G j; have j := (a9 _).symm.trans j
      ·refine At.region (At.run 2 rfl (nT ?_)); refine At.round ?_; refine sR 1 rfl (nT (At.seq ?_)); refine At.condT rfl rfl ?_; refine At.skip (At.thn (At.seq ?_)); obtain ⟨b2, b3, c9, j⟩ := bjoin j; refine At.join (X := Int) (fun J => [(0, i6 (if a0 < 0 then 0 else a0)), (2, bp I), (3, bp p), (8, i6 3)]) (fun J => pc p [.int .u64 u, .int .u64 D, .int .u64 G, .int .u64 J] 35 :: L :: Fr) (fun J => b2 (.inl J) = some r) ?_ (fun a3 => ?_)
       ·rintro J j; have j := (b3 _).symm.trans j
        ·refine At.region (At.run 2 rfl (nT ?_)); refine At.round ?_; refine sR 1 rfl (nT (At.seq ?_)); refine At.condF rfl rfl ?_; refine At.exit ?_; refine At.the ?_; refine At.the ?_; refine At.ibx ?_; refine At.thn (At.seq (At.region (At.y (Y.load rfl rfl .z rfl rfl rfl) rfl rfl rfl ?_))); refine At.store rfl rfl rfl rfl (.s .z) rfl rfl rfl (.c (.c (.c (.c .n)))) ?_; refine nT (At.ret ?_); refine At.resM (.inl rfl) rfl (RV.cell rfl rfl .z rfl rfl rfl RV.nil) ?_; refine At.drop .z (At.drop .z ?_); cases bret j; exact fun a w e hs => ⟨_, ⟨rfl, rfl⟩, hs⟩
       ··refine At.block ?_
         refine sR 2 rfl (nT (sR 7 rfl ?_)); refine nT (At.seq (sR 2 rfl (nT ?_))); rcases bite j with ⟨M, j⟩ | ⟨M, j⟩
         ··refine At.condT rfl (decide_eq_true M) ?_
           refine At.region (At.run 1 rfl (nT (At.region (At.run 3 rfl ?_)))); obtain ⟨b4, j⟩ := bnone j; refine At.y (Y.shl rfl rfl b4) rfl rfl rfl (At.run 1 rfl (At.y (Y.ixArrK rfl rfl rfl rfl rfl (show (0 : Int) ≤ 3 ∧ (3 : Int) < 4 by decide).1 (show (0 : Int) ≤ 3 ∧ (3 : Int) < 4 by decide).2 (q := 3) (off := 3) rfl rfl) rfl rfl rfl ?_)); refine At.store rfl rfl rfl rfl .z rfl rfl rfl (.s (.s (.s (.c .n)))) ?_; refine At.nil ?_; refine At.ibn ?_; refine At.thn ?_; exact fun a w e hs => a3 (IntKind.u64.wrap ((Bw.shl .u64 1 (IntKind.u64.wrap 64)) - 1)) j a w (e.sub ⟨rfl, rfl, rfl, rfl, trivial⟩) hs
         ··refine At.condF rfl (decide_eq_false M) ?_
           refine At.skip (At.thn (At.region (At.run 3 rfl ?_))); obtain ⟨b5, j⟩ := bnone j; refine At.y (Y.shl rfl rfl b5) rfl rfl rfl (At.run 1 rfl (At.y (Y.ixArrK rfl rfl rfl rfl rfl (show (0 : Int) ≤ 3 ∧ (3 : Int) < 4 by decide).1 (show (0 : Int) ≤ 3 ∧ (3 : Int) < 4 by decide).2 (q := 3) (off := 3) rfl rfl) rfl rfl rfl ?_)); refine At.store rfl rfl rfl rfl .z rfl rfl rfl (.s (.s (.s (.c .n)))) ?_; refine At.nil ?_; refine At.ibn ?_; refine At.thn ?_; exact fun a w e hs => a3 (IntKind.u64.wrap ((Bw.shl .u64 1 (IntKind.u64.wrap (if 64 < (if IntKind.i64.wrap ((if a0 < 0 then 0 else a0) - 192) < 0 then 0 else IntKind.i64.wrap ((if a0 < 0 then 0 else a0) - 192)) then 64 else (if IntKind.i64.wrap ((if a0 < 0 then 0 else a0) - 192) < 0 then 0 else IntKind.i64.wrap ((if a0 < 0 then 0 else a0) - 192))))) - 1)) j a w (e.sub ⟨rfl, rfl, rfl, rfl, trivial⟩) hs
     ··refine At.block ?_
       refine sR 2 rfl (nT (sR 7 rfl ?_)); refine nT (At.seq (sR 2 rfl (nT ?_))); rcases bite j with ⟨O, j⟩ | ⟨O, j⟩
       ··refine At.condT rfl (decide_eq_true O) ?_
         refine At.region (At.run 1 rfl (nT (At.region (At.run 3 rfl ?_)))); obtain ⟨b6, j⟩ := bnone j; refine At.y (Y.shl rfl rfl b6) rfl rfl rfl (At.run 1 rfl (At.y (Y.ixArrK rfl rfl rfl rfl rfl (show (0 : Int) ≤ 2 ∧ (2 : Int) < 4 by decide).1 (show (0 : Int) ≤ 2 ∧ (2 : Int) < 4 by decide).2 (q := 2) (off := 2) rfl rfl) rfl rfl rfl ?_)); refine At.store rfl rfl rfl rfl .z rfl rfl rfl (.s (.s (.c .n))) ?_; refine At.nil ?_; refine At.ibn ?_; refine At.thn ?_; exact fun a w e hs => a2 (IntKind.u64.wrap ((Bw.shl .u64 1 (IntKind.u64.wrap 64)) - 1)) j a w (e.sub ⟨rfl, rfl, rfl, rfl, trivial⟩) hs
       ··refine At.condF rfl (decide_eq_false O) ?_
         refine At.skip (At.thn (At.region (At.run 3 rfl ?_))); obtain ⟨b7, j⟩ := bnone j; refine At.y (Y.shl rfl rfl b7) rfl rfl rfl (At.run 1 rfl (At.y (Y.ixArrK rfl rfl rfl rfl rfl (show (0 : Int) ≤ 2 ∧ (2 : Int) < 4 by decide).1 (show (0 : Int) ≤ 2 ∧ (2 : Int) < 4 by decide).2 (q := 2) (off := 2) rfl rfl) rfl rfl rfl ?_)); refine At.store rfl rfl rfl rfl .z rfl rfl rfl (.s (.s (.c .n))) ?_; refine At.nil ?_; refine At.ibn ?_; refine At.thn ?_; exact fun a w e hs => a2 (IntKind.u64.wrap ((Bw.shl .u64 1 (IntKind.u64.wrap (if 64 < (if IntKind.i64.wrap ((if a0 < 0 then 0 else a0) - 128) < 0 then 0 else IntKind.i64.wrap ((if a0 < 0 then 0 else a0) - 128)) then 64 else (if IntKind.i64.wrap ((if a0 < 0 then 0 else a0) - 128) < 0 then 0 else IntKind.i64.wrap ((if a0 < 0 then 0 else a0) - 128))))) - 1)) j a w (e.sub ⟨rfl, rfl, rfl, rfl, trivial⟩) hs
   ··refine At.block ?_
     refine sR 2 rfl (nT (sR 7 rfl ?_)); refine nT (At.seq (sR 2 rfl (nT ?_))); rcases bite j with ⟨U, j⟩ | ⟨U, j⟩
     ··refine At.condT rfl (decide_eq_true U) ?_
       refine At.region (At.run 1 rfl (nT (At.region (At.run 3 rfl ?_)))); obtain ⟨b8, j⟩ := bnone j; refine At.y (Y.shl rfl rfl b8) rfl rfl rfl (At.run 1 rfl (At.y (Y.ixArrK rfl rfl rfl rfl rfl (show (0 : Int) ≤ 1 ∧ (1 : Int) < 4 by decide).1 (show (0 : Int) ≤ 1 ∧ (1 : Int) < 4 by decide).2 (q := 1) (off := 1) rfl rfl) rfl rfl rfl ?_)); refine At.store rfl rfl rfl rfl .z rfl rfl rfl (.s (.c .n)) ?_; refine At.nil ?_; refine At.ibn ?_; refine At.thn ?_; exact fun a w e hs => a1 (IntKind.u64.wrap ((Bw.shl .u64 1 (IntKind.u64.wrap 64)) - 1)) j a w (e.sub ⟨rfl, rfl, rfl, rfl, trivial⟩) hs
     ··refine At.condF rfl (decide_eq_false U) ?_
       refine At.skip (At.thn (At.region (At.run 3 rfl ?_))); obtain ⟨b9, j⟩ := bnone j; refine At.y (Y.shl rfl rfl b9) rfl rfl rfl (At.run 1 rfl (At.y (Y.ixArrK rfl rfl rfl rfl rfl (show (0 : Int) ≤ 1 ∧ (1 : Int) < 4 by decide).1 (show (0 : Int) ≤ 1 ∧ (1 : Int) < 4 by decide).2 (q := 1) (off := 1) rfl rfl) rfl rfl rfl ?_)); refine At.store rfl rfl rfl rfl .z rfl rfl rfl (.s (.c .n)) ?_; refine At.nil ?_; refine At.ibn ?_; refine At.thn ?_; exact fun a w e hs => a1 (IntKind.u64.wrap ((Bw.shl .u64 1 (IntKind.u64.wrap (if 64 < (if IntKind.i64.wrap ((if a0 < 0 then 0 else a0) - 64) < 0 then 0 else IntKind.i64.wrap ((if a0 < 0 then 0 else a0) - 64)) then 64 else (if IntKind.i64.wrap ((if a0 < 0 then 0 else a0) - 64) < 0 then 0 else IntKind.i64.wrap ((if a0 < 0 then 0 else a0) - 64))))) - 1)) j a w (e.sub ⟨rfl, rfl, rfl, rfl, trivial⟩) hs
 ··refine At.block ?_
   refine sR 2 rfl (nT (sR 7 rfl ?_)); refine nT (At.seq (sR 2 rfl (nT ?_))); rcases bite j with ⟨V, j⟩ | ⟨V, j⟩
   ··refine At.condT rfl (decide_eq_true V) ?_
     refine At.region (At.run 1 rfl (nT (At.region (At.run 3 rfl ?_)))); obtain ⟨c4, j⟩ := bnone j; refine At.y (Y.shl rfl rfl c4) rfl rfl rfl (At.run 1 rfl (At.y (Y.ixArrK rfl rfl rfl rfl rfl (show (0 : Int) ≤ 0 ∧ (0 : Int) < 4 by decide).1 (show (0 : Int) ≤ 0 ∧ (0 : Int) < 4 by decide).2 (q := 0) (off := 0) rfl rfl) rfl rfl rfl ?_)); refine At.store rfl rfl rfl rfl .z rfl rfl rfl (.c .n) ?_; refine At.nil ?_; refine At.ibn ?_; refine At.thn ?_; exact fun a w e hs => Z (IntKind.u64.wrap ((Bw.shl .u64 1 (IntKind.u64.wrap 64)) - 1)) j a w (e.sub ⟨rfl, rfl, rfl, rfl, trivial⟩) hs
   ··refine At.condF rfl (decide_eq_false V) ?_
     refine At.skip (At.thn (At.region (At.run 3 rfl ?_))); obtain ⟨c5, j⟩ := bnone j; refine At.y (Y.shl rfl rfl c5) rfl rfl rfl (At.run 1 rfl (At.y (Y.ixArrK rfl rfl rfl rfl rfl (show (0 : Int) ≤ 0 ∧ (0 : Int) < 4 by decide).1 (show (0 : Int) ≤ 0 ∧ (0 : Int) < 4 by decide).2 (q := 0) (off := 0) rfl rfl) rfl rfl rfl ?_)); refine At.store rfl rfl rfl rfl .z rfl rfl rfl (.c .n) ?_; refine At.nil ?_; refine At.ibn ?_; refine At.thn ?_; exact fun a w e hs => Z (IntKind.u64.wrap ((Bw.shl .u64 1 (IntKind.u64.wrap (if 64 < (if IntKind.i64.wrap ((if a0 < 0 then 0 else a0) - 0) < 0 then 0 else IntKind.i64.wrap ((if a0 < 0 then 0 else a0) - 0)) then 64 else (if IntKind.i64.wrap ((if a0 < 0 then 0 else a0) - 0) < 0 then 0 else IntKind.i64.wrap ((if a0 < 0 then 0 else a0) - 0))))) - 1)) j a w (e.sub ⟨rfl, rfl, rfl, rfl, trivial⟩) hs

noncomputable def Q46.l0b (u q : List Q1) (p : Int) : Option (((List Q1) × Int) ⊕ (((List Q1)) ⊕ (Unit ⊕ ((List Int) × Int × Int × Int × Int)))) :=
 if p < (u.length : Int) then
 jn (
 if (0 : Int) ≤ p ∧ p < (u.length : Int) then
 if (gt q p).Kind = 12 then
 some (.inl (st q p ({ gt q p with Kind := 3 })))
 else
 some (.inl q)
 else none) (fun (D : List Q1) =>
 nx (D, IntKind.i64.wrap (p + 1)))
 else
 dn (.inl q)
noncomputable def Q46.l0 (p q : List Q1) (u : Int) : Option (((List Q1)) ⊕ (Unit ⊕ ((List Int) × Int × Int × Int × Int))) := iter (fun t_ : (List Q1) × Int => Q46.l0b p t_.1 t_.2) (q, u)
noncomputable def Q46.f (D : Int) (G : List (Bs × Q2)) (I : List (Q7 × Q2)) (a1 : List Q1) : Option (Unit ⊕ ((List Int) × Int × Int × Int × Int)) :=
 (Q128.f a1).bind fun q =>
 jn (Q46.l0 q q 0) (fun (u : List Q1) =>
 (Q47.f u).bind fun J =>
 if J.1 = 0 then
 (Q104.f u).bind fun L =>
 (Q100.f D G I).bind fun M =>
 (Q82.f M).bind fun p =>
 if (0 : Int) ≤ (a1.length : Int) ∧ (32 : Int) * (a1.length : Int) ≤ 281474976710656 then
 some (.inr (L, p.1, p.2.1, p.2.2.1, p.2.2.2))
 else none
 else
 some (.inl ()))
theorem Q46.callee : Callee Tryz.prog 34 := ⟨_, Tryz.func34, by kernel_rfl, by kernel_rfl⟩
theorem Q46.spec {a0 : Int} {a2 : List (Bs × Q2)} {a3 : List (Q7 × Q2)} {a1 : List Q1} (hr1 : RdS Q1.fl.rep R.heap A1 a1) (hn1 : a1.length = n1) (hc1 : n1 ≤ c1) {r : Unit ⊕ ((List Int) × Int × Int × Int × Int)} (j : Q46.f a0 a2 a3 a1 = some r) :
 Spec Tryz.prog 34 [bp b0, .slice A1 n1 c1] R (pc b0 [i6 a0, .map (some b0_1), .map (some b0_2)] 82 :: mapo Fl.bs.ov Q2.fl.av b0_1 a2 :: mapo Q7.fl.av Q2.fl.av b0_2 a3 :: Fr) (fun v l' => match r with
 | .inl r => v = .tuple #[.pointer none, i6 1] ∧ pc b0 [i6 a0, .map (some b0_1), .map (some b0_2)] 82 :: mapo Fl.bs.ov Q2.fl.av b0_1 a2 :: mapo Q7.fl.av Q2.fl.av b0_2 a3 :: Fr = l'
 | .inr r => ∃ (d8 : Nat) (d9 : Option Addr) (e1 : Nat) (c7 : Nat) (e2 : Option Addr) (e3 : Nat), v = .tuple #[bp d8, i6 0] ∧ pc d8 [bp b0, .slice A1 n1 c1, .slice e2 c7 e3, .int .u64 r.2.1, .int .u64 r.2.2.1, .int .u64 r.2.2.2.1, .int .u64 r.2.2.2.2, .slice d9 ((List.replicate (n1 : Int).toNat ((⟨0, 0, 0, 0⟩ : Q2) : Q2)).length) e1] 145 :: row (Fl.int .i64) 3 e2 c7 e3 r.1 :: row Q2.fl 35 d9 ((List.replicate (n1 : Int).toNat ((⟨0, 0, 0, 0⟩ : Q2) : Q2)).length) e1 (List.replicate (n1 : Int).toNat ((⟨0, 0, 0, 0⟩ : Q2) : Q2)) :: pc b0 [i6 a0, .map (some b0_1), .map (some b0_2)] 82 :: mapo Fl.bs.ov Q2.fl.av b0_1 a2 :: mapo Q7.fl.av Q2.fl.av b0_2 a3 :: Fr = l' ∧ r.1.length = c7) := by
 subst hn1; refine Spec.of Tryz.func34 rfl rfl ?_; unfold Q46.f at j; have j := brun j; refine sR 2 rfl (nT (sR 1 rfl ?_)); obtain ⟨J, e7, j⟩ := bbind j; refine At.call rfl Q128.callee rfl rfl rfl (Q128.spec hr1 rfl hc1 e7) ?_; rintro _ _ ⟨M, O, rfl, rfl⟩; refine At.run 1 rfl (nT (At.seq (sR 3 rfl (At.nil ?_)))); refine At.thn ?_; refine At.block ?_; obtain ⟨e8, e9, g9, j⟩ := bjoin j; obtain ⟨c8, c9, f0⟩ := bsome j; clear j; unfold Q46.l0 at c9; obtain ⟨d0, a4⟩ := Q18.1 c9; clear c9; let a5 : HProp := pc b0 [i6 a0, .map (some b0_1), .map (some b0_2)] 82; let a6 : HProp := mapo Fl.bs.ov Q2.fl.av b0_1 a2; let a7 : HProp := mapo Q7.fl.av Q2.fl.av b0_2 a3; refine At.loopJ (X := (List Q1) × Int) (Y := (List Q1)) (e0 := 0) (fun s_ => [(0, bp b0), (1, .slice A1 a1.length c1), (6, .slice M J.length O), (13, i6 (J.length : Int)), (14, i6 s_.2)]) (fun s_ => row Q1.fl 33 M J.length O s_.1 :: a5 :: a6 :: a7 :: Fr) (fun m_ => fun s_ => iterN (fun t_ : (List Q1) × Int => Q46.l0b J t_.1 t_.2) m_ (s_.1, s_.2) = some c8) d0 (J, 0) a4 (fun a8 => [(0, bp b0), (1, .slice A1 a1.length c1), (6, .slice M J.length O)]) (fun a8 => row Q1.fl 33 M J.length O a8 :: a5 :: a6 :: a7 :: Fr) (fun a8 => e8 (.inl a8) = some r) (fun a w e hs => ⟨e.sub ⟨rfl, rfl, rfl, rfl, rfl, trivial⟩, (by exact hs)⟩) ?_ (fun f1 => ?_)
 ·rintro a8 j; have j := (e9 _).symm.trans j
  ·refine At.ibx ?_; refine At.thn (At.seq (sR 1 rfl ?_)); refine At.freeze .z fun h0 d1 d2 d3 h1 e4 => ?_; obtain ⟨h2, f2, j⟩ := bbind j; refine At.call rfl Q47.callee rfl rfl rfl (Q47.spec d1 d2 d3 f2) ?_; rintro _ _ ⟨rfl, rfl⟩; refine At.run 5 rfl (nT (sR 2 rfl (nT ?_))); rcases bite j with ⟨d4, j⟩ | ⟨d4, j⟩
   ··refine At.condF rfl (nf (decide_eq_true d4)) ?_
     refine At.skip (At.thn (At.seq ?_)); refine At.held [a5, a6, a7] 14 rfl ?_; refine At.H.pw 0 rfl rfl rfl rfl rfl (.c .z (.c .z (.c .z .n))) ?_; refine At.H.pw 1 rfl rfl rfl rfl rfl (.c .z (.c .z (.c .z .n))) ?_; refine At.H.pw 2 rfl rfl rfl rfl rfl (.c .z (.c .z (.c .z .n))) ?_; refine At.H.pw 4 rfl rfl rfl rfl rfl (.c .z (.c .z (.c .z .n))) ?_; refine At.H.pw 7 rfl rfl rfl rfl rfl (.c .z (.c .z (.c .z .n))) ?_; refine At.H.pw 8 rfl rfl rfl rfl rfl (.c .z (.c .z (.c .z .n))) ?_; obtain ⟨u, e5, j⟩ := bbind j; obtain ⟨h3, d5, j⟩ := bbind j; obtain ⟨p, a9, j⟩ := bbind j; obtain ⟨L, j⟩ := bnone j; refine At.H.joinK (X := Nat × (Option Addr) × Nat × (Option Addr) × Nat) (fun s_ => [(4, .pointer (some ⟨s_.1, 0, none⟩)), (5, i6 0)]) (fun s_ => pt s_.1 (.cells [bp b0, .slice A1 a1.length c1, .slice s_.2.2.2.1 u.length s_.2.2.2.2, .int .u64 p.1, .int .u64 p.2.1, .int .u64 p.2.2.1, .int .u64 p.2.2.2, .slice s_.2.1 ((List.replicate (a1.length : Int).toNat ((⟨0, 0, 0, 0⟩ : Q2) : Q2)).length) s_.2.2.1].toArray 145) :: row Q2.fl 35 s_.2.1 ((List.replicate (a1.length : Int).toNat ((⟨0, 0, 0, 0⟩ : Q2) : Q2)).length) s_.2.2.1 (List.replicate (a1.length : Int).toNat ((⟨0, 0, 0, 0⟩ : Q2) : Q2)) :: a5 :: a6 :: a7 :: row (Fl.int .i64) 3 s_.2.2.2.1 u.length s_.2.2.2.2 u :: Fr) (fun s_ => True) ?_ (fun b2 => ?_)
     ·rintro ⟨f6, f7, f8, f9, g0⟩ -
      ·refine At.thn (At.ret ?_); refine At.thaw e4 ?_; refine At.drop .z (At.f4 (At.f4 (At.f4 (At.f4 (At.f5 (At.f5 ?_)))))); cases bret j; exact At.res (.inl rfl) rfl rfl ⟨f6, f7, f8, u.length, f9, g0, rfl, rfl, rfl⟩
     ·refine At.H.al [3, 9] (Q6 ?_ (Q6 ?_ Q8))
      ··refine At.HO.op rfl ?_
        refine At.call rfl Q104.callee rfl rfl rfl (Q104.spec d1 d2 d3 e5) ?_; rintro _ _ ⟨h4, D, G, rfl, rfl, rfl⟩; refine At.HO.back (.c (.s .z) (.c (.s .z) (.c (.s .z) .n))) ?_; refine At.H.al [5, 9] (Q6 ?_ (Q6 ?_ Q8))
        ··refine At.HO.op rfl ?_
          refine At.f3 (At.f3 (At.f3 ?_)); refine At.call rfl Q100.callee rfl rfl rfl (Q100.spec d5) ?_; rintro _ _ ⟨rfl, rfl⟩; refine At.HO.back (.c .z (.c .z (.c .z .n))) ?_; refine At.H.al [6, 9] (Q6 ?_ (Q6 ?_ Q8))
          ··refine At.HO.op rfl ?_
            refine At.call rfl Q82.callee rfl rfl rfl (Q82.spec a9) ?_; rintro _ _ ⟨rfl, rfl⟩; refine At.HO.back (.c .z (.c .z (.c .z .n))) ?_; refine At.H.al [9] (Q6 ?_ Q8)
            ··refine At.HO.op rfl ?_
              refine At.makeW (F := Q2.fl) (z := (⟨0, 0, 0, 0⟩ : Q2)) rfl rfl rfl rfl rfl rfl rfl rfl rfl L.1 L.2 (by decide) rfl (fun b3 b4 => ?_); refine At.HO.back (.c (.s .z) (.c (.s .z) (.c (.s .z) .n))) ?_; refine At.H.tw 10 rfl (Y.build (is := [0, 1, 2, 3, 4]) (xo := [.tmp 35, .tmp 36, .tmp 38, .tmp 41, .tmp 44]) (vs := [bp b0, .slice A1 a1.length c1, .slice D u.length G, .agg #[.int .u64 p.1, .int .u64 p.2.1, .int .u64 p.2.2.1, .int .u64 p.2.2.2], .slice b3 ((List.replicate (a1.length : Int).toNat ((⟨0, 0, 0, 0⟩ : Q2) : Q2)).length) b4]) (cs := [bp b0, .slice A1 a1.length c1, .slice D u.length G, .int .u64 p.1, .int .u64 p.2.1, .int .u64 p.2.2.1, .int .u64 p.2.2.2, .slice b3 ((List.replicate (a1.length : Int).toNat ((⟨0, 0, 0, 0⟩ : Q2) : Q2)).length) b4]) rfl rfl rfl rfl rfl (by kernel_rfl)) rfl rfl rfl (.c (.s .z) (.c (.s .z) (.c (.s .z) .n))) ?_; refine At.H.al [11] (Q6 ?_ Q8)
              ··refine At.HO.op rfl ?_
                refine At.box rfl rfl (cs := [bp b0, .slice A1 a1.length c1, .slice D u.length G, .int .u64 p.1, .int .u64 p.2.1, .int .u64 p.2.2.1, .int .u64 p.2.2.2, .slice b3 ((List.replicate (a1.length : Int).toNat ((⟨0, 0, 0, 0⟩ : Q2) : Q2)).length) b4]) rfl rfl (fun g1 => ?_); refine At.HO.back (.c (.s (.s .z)) (.c (.s (.s .z)) (.c (.s (.s .z)) .n))) ?_; refine At.H.pw 12 rfl rfl rfl rfl rfl (.c (.s (.s .z)) (.c (.s (.s .z)) (.c (.s (.s .z)) .n))) ?_; refine At.H.pw 13 rfl rfl rfl rfl rfl (.c (.s (.s .z)) (.c (.s (.s .z)) (.c (.s (.s .z)) .n))) ?_; refine At.H.done (by kernel_rfl) ?_; exact At.of (b2 (g1, b3, b4, D, G) trivial) ⟨rfl, rfl, trivial⟩
          ··refine At.HO.op rfl ?_
            refine At.makeW (F := Q2.fl) (z := (⟨0, 0, 0, 0⟩ : Q2)) rfl rfl rfl rfl rfl rfl rfl rfl rfl L.1 L.2 (by decide) rfl (fun b5 b6 => ?_); refine At.HO.back (.c (.s .z) (.c (.s .z) (.c (.s .z) .n))) ?_; refine At.H.al [6] (Q6 ?_ Q8)
            ··refine At.HO.op rfl ?_
              refine At.call rfl Q82.callee rfl rfl rfl (Q82.spec a9) ?_; rintro _ _ ⟨rfl, rfl⟩; refine At.HO.back (.c (.s .z) (.c (.s .z) (.c (.s .z) .n))) ?_; refine At.H.tw 10 rfl (Y.build (is := [0, 1, 2, 3, 4]) (xo := [.tmp 35, .tmp 36, .tmp 38, .tmp 41, .tmp 44]) (vs := [bp b0, .slice A1 a1.length c1, .slice D u.length G, .agg #[.int .u64 p.1, .int .u64 p.2.1, .int .u64 p.2.2.1, .int .u64 p.2.2.2], .slice b5 ((List.replicate (a1.length : Int).toNat ((⟨0, 0, 0, 0⟩ : Q2) : Q2)).length) b6]) (cs := [bp b0, .slice A1 a1.length c1, .slice D u.length G, .int .u64 p.1, .int .u64 p.2.1, .int .u64 p.2.2.1, .int .u64 p.2.2.2, .slice b5 ((List.replicate (a1.length : Int).toNat ((⟨0, 0, 0, 0⟩ : Q2) : Q2)).length) b6]) rfl rfl rfl rfl rfl (by kernel_rfl)) rfl rfl rfl (.c (.s .z) (.c (.s .z) (.c (.s .z) .n))) ?_; refine At.H.al [11] (Q6 ?_ Q8)
              ··refine At.HO.op rfl ?_
                refine At.box rfl rfl (cs := [bp b0, .slice A1 a1.length c1, .slice D u.length G, .int .u64 p.1, .int .u64 p.2.1, .int .u64 p.2.2.1, .int .u64 p.2.2.2, .slice b5 ((List.replicate (a1.length : Int).toNat ((⟨0, 0, 0, 0⟩ : Q2) : Q2)).length) b6]) rfl rfl (fun g2 => ?_); refine At.HO.back (.c (.s (.s .z)) (.c (.s (.s .z)) (.c (.s (.s .z)) .n))) ?_; refine At.H.pw 12 rfl rfl rfl rfl rfl (.c (.s (.s .z)) (.c (.s (.s .z)) (.c (.s (.s .z)) .n))) ?_; refine At.H.pw 13 rfl rfl rfl rfl rfl (.c (.s (.s .z)) (.c (.s (.s .z)) (.c (.s (.s .z)) .n))) ?_; refine At.H.done (by kernel_rfl) ?_; exact At.of (b2 (g2, b5, b6, D, G) trivial) ⟨rfl, rfl, trivial⟩
        ··refine At.HO.op rfl ?_
          refine At.makeW (F := Q2.fl) (z := (⟨0, 0, 0, 0⟩ : Q2)) rfl rfl rfl rfl rfl rfl rfl rfl rfl L.1 L.2 (by decide) rfl (fun b7 b8 => ?_); refine At.HO.back (.c (.s (.s .z)) (.c (.s (.s .z)) (.c (.s (.s .z)) .n))) ?_; refine At.H.al [5] (Q6 ?_ Q8)
          ··refine At.HO.op rfl ?_
            refine At.f4 (At.f4 (At.f4 ?_)); refine At.call rfl Q100.callee rfl rfl rfl (Q100.spec d5) ?_; rintro _ _ ⟨rfl, rfl⟩; refine At.HO.back (.c .z (.c .z (.c .z .n))) ?_; refine At.H.al [6] (Q6 ?_ Q8)
            ··refine At.HO.op rfl ?_
              refine At.call rfl Q82.callee rfl rfl rfl (Q82.spec a9) ?_; rintro _ _ ⟨rfl, rfl⟩; refine At.HO.back (.c .z (.c .z (.c .z .n))) ?_; refine At.H.tw 10 rfl (Y.build (is := [0, 1, 2, 3, 4]) (xo := [.tmp 35, .tmp 36, .tmp 38, .tmp 41, .tmp 44]) (vs := [bp b0, .slice A1 a1.length c1, .slice D u.length G, .agg #[.int .u64 p.1, .int .u64 p.2.1, .int .u64 p.2.2.1, .int .u64 p.2.2.2], .slice b7 ((List.replicate (a1.length : Int).toNat ((⟨0, 0, 0, 0⟩ : Q2) : Q2)).length) b8]) (cs := [bp b0, .slice A1 a1.length c1, .slice D u.length G, .int .u64 p.1, .int .u64 p.2.1, .int .u64 p.2.2.1, .int .u64 p.2.2.2, .slice b7 ((List.replicate (a1.length : Int).toNat ((⟨0, 0, 0, 0⟩ : Q2) : Q2)).length) b8]) rfl rfl rfl rfl rfl (by kernel_rfl)) rfl rfl rfl (.c .z (.c .z (.c .z .n))) ?_; refine At.H.al [11] (Q6 ?_ Q8)
              ··refine At.HO.op rfl ?_
                refine At.box rfl rfl (cs := [bp b0, .slice A1 a1.length c1, .slice D u.length G, .int .u64 p.1, .int .u64 p.2.1, .int .u64 p.2.2.1, .int .u64 p.2.2.2, .slice b7 ((List.replicate (a1.length : Int).toNat ((⟨0, 0, 0, 0⟩ : Q2) : Q2)).length) b8]) rfl rfl (fun g3 => ?_); refine At.HO.back (.c (.s .z) (.c (.s .z) (.c (.s .z) .n))) ?_; refine At.H.pw 12 rfl rfl rfl rfl rfl (.c (.s .z) (.c (.s .z) (.c (.s .z) .n))) ?_; refine At.H.pw 13 rfl rfl rfl rfl rfl (.c (.s .z) (.c (.s .z) (.c (.s .z) .n))) ?_; refine At.H.done (by kernel_rfl) ?_; refine At.f5 (At.f4 (At.f4 (At.f4 (At.f5 (At.f5 ?_))))); exact At.of (b2 (g3, b7, b8, D, G) trivial) ⟨rfl, rfl, trivial⟩
      ··refine At.HO.op rfl ?_
        refine At.makeW (F := Q2.fl) (z := (⟨0, 0, 0, 0⟩ : Q2)) rfl rfl rfl rfl rfl rfl rfl rfl rfl L.1 L.2 (by decide) rfl (fun b9 c4 => ?_); refine At.HO.back (.c (.s .z) (.c (.s .z) (.c (.s .z) .n))) ?_; refine At.H.al [3] (Q6 ?_ Q8)
        ··refine At.HO.op rfl ?_
          refine At.call rfl Q104.callee rfl rfl rfl (Q104.spec d1 d2 d3 e5) ?_; rintro _ _ ⟨h5, c5, c6, rfl, rfl, rfl⟩; refine At.HO.back (.c (.s (.s .z)) (.c (.s (.s .z)) (.c (.s (.s .z)) .n))) ?_; refine At.H.al [5] (Q6 ?_ Q8)
          ··refine At.HO.op rfl ?_
            refine At.f4 (At.f4 (At.f4 ?_)); refine At.call rfl Q100.callee rfl rfl rfl (Q100.spec d5) ?_; rintro _ _ ⟨rfl, rfl⟩; refine At.HO.back (.c .z (.c .z (.c .z .n))) ?_; refine At.H.al [6] (Q6 ?_ Q8)
            ··refine At.HO.op rfl ?_
              refine At.call rfl Q82.callee rfl rfl rfl (Q82.spec a9) ?_; rintro _ _ ⟨rfl, rfl⟩; refine At.HO.back (.c .z (.c .z (.c .z .n))) ?_; refine At.H.tw 10 rfl (Y.build (is := [0, 1, 2, 3, 4]) (xo := [.tmp 35, .tmp 36, .tmp 38, .tmp 41, .tmp 44]) (vs := [bp b0, .slice A1 a1.length c1, .slice c5 u.length c6, .agg #[.int .u64 p.1, .int .u64 p.2.1, .int .u64 p.2.2.1, .int .u64 p.2.2.2], .slice b9 ((List.replicate (a1.length : Int).toNat ((⟨0, 0, 0, 0⟩ : Q2) : Q2)).length) c4]) (cs := [bp b0, .slice A1 a1.length c1, .slice c5 u.length c6, .int .u64 p.1, .int .u64 p.2.1, .int .u64 p.2.2.1, .int .u64 p.2.2.2, .slice b9 ((List.replicate (a1.length : Int).toNat ((⟨0, 0, 0, 0⟩ : Q2) : Q2)).length) c4]) rfl rfl rfl rfl rfl (by kernel_rfl)) rfl rfl rfl (.c .z (.c .z (.c .z .n))) ?_; refine At.H.al [11] (Q6 ?_ Q8)
              ··refine At.HO.op rfl ?_
                refine At.box rfl rfl (cs := [bp b0, .slice A1 a1.length c1, .slice c5 u.length c6, .int .u64 p.1, .int .u64 p.2.1, .int .u64 p.2.2.1, .int .u64 p.2.2.2, .slice b9 ((List.replicate (a1.length : Int).toNat ((⟨0, 0, 0, 0⟩ : Q2) : Q2)).length) c4]) rfl rfl (fun g4 => ?_); refine At.HO.back (.c (.s .z) (.c (.s .z) (.c (.s .z) .n))) ?_; refine At.H.pw 12 rfl rfl rfl rfl rfl (.c (.s .z) (.c (.s .z) (.c (.s .z) .n))) ?_; refine At.H.pw 13 rfl rfl rfl rfl rfl (.c (.s .z) (.c (.s .z) (.c (.s .z) .n))) ?_; refine At.H.done (by kernel_rfl) ?_; refine At.f4 (At.f4 (At.f4 (At.f4 (At.f5 (At.f5 ?_))))); exact At.of (b2 (g4, b9, c4, c5, c6) trivial) ⟨rfl, rfl, trivial⟩
   ··refine At.condT rfl (nt (decide_eq_false d4)) ?_
     refine sR 2 rfl (nT (At.ret (At.thr ?_))); refine At.thaw e4 ?_; refine At.drop .z ?_; cases bret j; exact At.res (.inl rfl) rfl rfl ⟨rfl, rfl⟩
 ·clear a4 d0; rintro d0 ⟨U, V⟩ a4; obtain ⟨g5, f_, g6, hf_, j⟩ := bit a4; clear a4; have j : (Q46.l0b J U V).bind _ = some c8 := j; unfold Q46.l0b at j
  ·refine sR 1 rfl (nT (At.seq ?_)); rcases bite j with ⟨d6, j⟩ | ⟨d6, j⟩
   ··refine At.condT rfl (decide_eq_true d6) ?_
     refine At.skip (At.thn (At.seq ?_)); obtain ⟨g7, g8, h6, j⟩ := bjoin j; refine At.join (X := (List Q1)) (fun Z => [(0, bp b0), (1, .slice A1 a1.length c1), (6, .slice M J.length O), (13, i6 (J.length : Int)), (14, i6 V)]) (fun Z => row Q1.fl 33 M J.length O Z :: a5 :: a6 :: a7 :: Fr) (fun Z => g7 (.inl Z) = some c8) ?_ (fun e6 => ?_)
     ·rintro Z j; have j := (g8 _).symm.trans j
      ·refine At.region (At.run 2 rfl (At.nil ?_)); have j := bnx hf_ j; exact fun a w e hs => ⟨g5, (Z, IntKind.i64.wrap (V + 1)), g6, j, e.sub ⟨rfl, rfl, rfl, rfl, rfl, trivial⟩, hs⟩
     ··refine At.block ?_
       refine sR 2 rfl (nT (sR 2 rfl ?_)); obtain ⟨I, j⟩ := bnone j; refine At.y (Y.ix .z rfl rfl rfl rfl rfl rfl I.1 I.2) rfl rfl rfl ?_; refine At.y (Y.faOwn .z I.1 I.2 rfl rfl rfl rfl rfl rfl) rfl rfl rfl ?_; refine At.y (Y.ld .z (q := 0) rfl rfl I.1 I.2 rfl rfl rfl) rfl rfl rfl (At.run 1 rfl (nT ?_)); rcases bite j with ⟨d7, j⟩ | ⟨d7, j⟩
       ··refine At.condT rfl (decide_eq_true d7) ?_
         refine At.region (At.run 2 rfl (At.y (Y.ix .z rfl rfl rfl rfl rfl rfl I.1 I.2) rfl rfl rfl ?_)); refine At.y (Y.faOwn .z I.1 I.2 rfl rfl rfl rfl rfl rfl) rfl rfl rfl ?_; refine At.st rfl .z (q := 0) (z := { gt U V with Kind := 3 }) rfl rfl rfl I.1 I.2 rfl rfl (.c .n) ?_; refine At.nil ?_; refine At.ibn ?_; refine At.thn ?_; exact fun a w e hs => e6 (st U V ({ gt U V with Kind := 3 })) j a w (e.sub ⟨rfl, rfl, rfl, rfl, rfl, trivial⟩) hs
       ··refine At.condF rfl (decide_eq_false d7) ?_
         refine At.skip ?_; refine At.ibn ?_; refine At.thn ?_; exact fun a w e hs => e6 U j a w (e.sub ⟨rfl, rfl, rfl, rfl, rfl, trivial⟩) hs
   ··refine At.condF rfl (decide_eq_false d6) ?_
     refine At.exit ?_; refine At.the ?_; refine At.the ?_; exact fun a w e hs => f1 U (bdn j f0) a w (e.sub ⟨rfl, rfl, rfl, trivial⟩) hs

noncomputable def Q65.f (q : Int) (p : List (Bs × Q2)) (u : List (Q7 × Q2)) (a1 : Bs) : Option (Int × Int × Int × Int) :=
 some (((mget p a1).getD (⟨(0 : Int), (0 : Int), (0 : Int), (0 : Int)⟩ : Q2)).c0, ((mget p a1).getD (⟨(0 : Int), (0 : Int), (0 : Int), (0 : Int)⟩ : Q2)).c1, ((mget p a1).getD (⟨(0 : Int), (0 : Int), (0 : Int), (0 : Int)⟩ : Q2)).c2, ((mget p a1).getD (⟨(0 : Int), (0 : Int), (0 : Int), (0 : Int)⟩ : Q2)).c3)
theorem Q65.callee : Callee Tryz.prog 19 := ⟨_, Tryz.func19, by kernel_rfl, by kernel_rfl⟩
theorem Q65.spec {p : Int} {q : List (Bs × Q2)} {u : List (Q7 × Q2)} {a1 : Bs} {r : Int × Int × Int × Int} (j : Q65.f p q u a1 = some r) :
 Spec Tryz.prog 19 [bp b0, .string ⟨(a1).toArray⟩] R (pc b0 [i6 p, .map (some b0_1), .map (some b0_2)] 82 :: mapo Fl.bs.ov Q2.fl.av b0_1 q :: mapo Q7.fl.av Q2.fl.av b0_2 u :: Fr) (fun v l' => v = .agg #[.int .u64 r.1, .int .u64 r.2.1, .int .u64 r.2.2.1, .int .u64 r.2.2.2] ∧ pc b0 [i6 p, .map (some b0_1), .map (some b0_2)] 82 :: mapo Fl.bs.ov Q2.fl.av b0_1 q :: mapo Q7.fl.av Q2.fl.av b0_2 u :: Fr = l') := by
 refine Spec.of Tryz.func19 rfl rfl ?_; unfold Q65.f at j; have j := brun j; refine At.seq (At.region ?_); refine At.alloc rfl rfl rfl (fun D => ?_); refine nT (sR 3 rfl (At.y (Y.load rfl rfl (.s .z) rfl rfl rfl) rfl rfl rfl (At.run 1 rfl ?_))); refine At.y (Y.lookup (k := a1) (z := (⟨(0 : Int), (0 : Int), (0 : Int), (0 : Int)⟩ : Q2)) (.s (.s .z)) rfl rfl (KeyOk.str rfl rfl) (by kernel_rfl) rfl rfl rfl) rfl rfl rfl ?_; refine At.store rfl rfl rfl rfl .z rfl rfl rfl (.c (.c (.c (.c .n)))) ?_; refine nT (At.ret ?_); refine At.resM (.inl rfl) rfl (RV.cell rfl rfl .z rfl rfl rfl RV.nil) ?_; refine At.drop .z ?_; cases bret j; exact fun a w e hs => ⟨_, ⟨rfl, rfl⟩, hs⟩

noncomputable def Q95.f (p q u D G I J L : Int) : Option (Int × Int × Int × Int) :=
 some (bandnot .u64 p G, bandnot .u64 q I, bandnot .u64 u J, bandnot .u64 D L)
theorem Q95.callee : Callee Tryz.prog 37 := ⟨_, Tryz.func37, by kernel_rfl, by kernel_rfl⟩
theorem Q95.spec {p u D G I J L M : Int} {r : Int × Int × Int × Int} (j : Q95.f p u D G I J L M = some r) :
 Spec Tryz.prog 37 [.agg #[.int .u64 p, .int .u64 u, .int .u64 D, .int .u64 G], .agg #[.int .u64 I, .int .u64 J, .int .u64 L, .int .u64 M]] R (Fr) (fun v l' => v = .agg #[.int .u64 r.1, .int .u64 r.2.1, .int .u64 r.2.2.1, .int .u64 r.2.2.2] ∧ Fr = l') := by
 refine Spec.of Tryz.func37 rfl rfl ?_; unfold Q95.f at j; have j := brun j; refine At.seq (At.region ?_); refine At.box rfl rfl (cs := [.int .u64 p, .int .u64 u, .int .u64 D, .int .u64 G]) rfl rfl (fun O => ?_); refine At.box rfl rfl (cs := [.int .u64 I, .int .u64 J, .int .u64 L, .int .u64 M]) rfl rfl (fun U => ?_); refine At.alloc rfl rfl rfl (fun V => ?_); refine nT (At.seq (sR 1 rfl (nT ?_))); refine At.block ?_; refine At.rounds 5 ?_; refine At.round ?_; refine sR 1 rfl (nT (At.seq ?_)); refine At.condT rfl rfl ?_; refine At.skip (At.thn (At.seq ?_)); refine At.block ?_; refine sR 2 rfl (nT ?_); refine At.still 8 (by kernel_rfl) ?_; refine At.Still.run 1 rfl ?_; refine At.Still.y (Y.ixArrK rfl rfl rfl rfl rfl (show (0 : Int) ≤ 0 ∧ (0 : Int) < 4 by decide).1 (show (0 : Int) ≤ 0 ∧ (0 : Int) < 4 by decide).2 (q := 0) (off := 0) rfl rfl) rfl rfl rfl ?_; refine At.Still.y (Y.load rfl rfl (.s (.s .z)) rfl rfl rfl) rfl rfl rfl ?_; refine At.Still.run 1 rfl ?_; refine At.Still.y (Y.ixArrK rfl rfl rfl rfl rfl (show (0 : Int) ≤ 0 ∧ (0 : Int) < 4 by decide).1 (show (0 : Int) ≤ 0 ∧ (0 : Int) < 4 by decide).2 (q := 0) (off := 0) rfl rfl) rfl rfl rfl ?_; refine At.Still.y (Y.load rfl rfl (.s .z) rfl rfl rfl) rfl rfl rfl ?_; refine At.Still.run 1 rfl ?_; refine At.Still.y (Y.ixArrK rfl rfl rfl rfl rfl (show (0 : Int) ≤ 0 ∧ (0 : Int) < 4 by decide).1 (show (0 : Int) ≤ 0 ∧ (0 : Int) < 4 by decide).2 (q := 0) (off := 0) rfl rfl) rfl rfl rfl ?_; refine At.Still.nil ?_; refine At.store rfl rfl rfl rfl (.s (.s .z)) rfl rfl rfl (.c .n) ?_; refine At.nil ?_; refine At.ibn ?_; refine At.thn (At.region (At.run 2 rfl (nT ?_))); refine At.round ?_; refine sR 1 rfl (nT (At.seq ?_)); refine At.condT rfl rfl ?_; refine At.skip (At.thn (At.seq ?_)); refine At.block ?_; refine sR 2 rfl (nT ?_); refine At.still 8 (by kernel_rfl) ?_; refine At.Still.run 1 rfl ?_; refine At.Still.y (Y.ixArrK rfl rfl rfl rfl rfl (show (0 : Int) ≤ 1 ∧ (1 : Int) < 4 by decide).1 (show (0 : Int) ≤ 1 ∧ (1 : Int) < 4 by decide).2 (q := 1) (off := 1) rfl rfl) rfl rfl rfl ?_; refine At.Still.y (Y.load rfl rfl .z rfl rfl rfl) rfl rfl rfl ?_; refine At.Still.run 1 rfl ?_; refine At.Still.y (Y.ixArrK rfl rfl rfl rfl rfl (show (0 : Int) ≤ 1 ∧ (1 : Int) < 4 by decide).1 (show (0 : Int) ≤ 1 ∧ (1 : Int) < 4 by decide).2 (q := 1) (off := 1) rfl rfl) rfl rfl rfl ?_; refine At.Still.y (Y.load rfl rfl (.s (.s .z)) rfl rfl rfl) rfl rfl rfl ?_; refine At.Still.run 1 rfl ?_; refine At.Still.y (Y.ixArrK rfl rfl rfl rfl rfl (show (0 : Int) ≤ 1 ∧ (1 : Int) < 4 by decide).1 (show (0 : Int) ≤ 1 ∧ (1 : Int) < 4 by decide).2 (q := 1) (off := 1) rfl rfl) rfl rfl rfl ?_; refine At.Still.nil ?_; refine At.store rfl rfl rfl rfl .z rfl rfl rfl (.s (.c .n)) ?_; refine At.nil ?_; refine At.ibn ?_; refine At.thn (At.region (At.run 2 rfl (nT ?_))); refine At.round ?_; refine sR 1 rfl (nT (At.seq ?_)); refine At.condT rfl rfl ?_; refine At.skip (At.thn (At.seq ?_)); refine At.block ?_; refine sR 2 rfl (nT ?_); refine At.still 8 (by kernel_rfl) ?_; refine At.Still.run 1 rfl ?_; refine At.Still.y (Y.ixArrK rfl rfl rfl rfl rfl (show (0 : Int) ≤ 2 ∧ (2 : Int) < 4 by decide).1 (show (0 : Int) ≤ 2 ∧ (2 : Int) < 4 by decide).2 (q := 2) (off := 2) rfl rfl) rfl rfl rfl ?_; refine At.Still.y (Y.load rfl rfl .z rfl rfl rfl) rfl rfl rfl ?_; refine At.Still.run 1 rfl ?_; refine At.Still.y (Y.ixArrK rfl rfl rfl rfl rfl (show (0 : Int) ≤ 2 ∧ (2 : Int) < 4 by decide).1 (show (0 : Int) ≤ 2 ∧ (2 : Int) < 4 by decide).2 (q := 2) (off := 2) rfl rfl) rfl rfl rfl ?_; refine At.Still.y (Y.load rfl rfl (.s (.s .z)) rfl rfl rfl) rfl rfl rfl ?_; refine At.Still.run 1 rfl ?_; refine At.Still.y (Y.ixArrK rfl rfl rfl rfl rfl (show (0 : Int) ≤ 2 ∧ (2 : Int) < 4 by decide).1 (show (0 : Int) ≤ 2 ∧ (2 : Int) < 4 by decide).2 (q := 2) (off := 2) rfl rfl) rfl rfl rfl ?_; refine At.Still.nil ?_; refine At.store rfl rfl rfl rfl .z rfl rfl rfl (.s (.s (.c .n))) ?_; refine At.nil ?_; refine At.ibn ?_; refine At.thn (At.region (At.run 2 rfl (nT ?_))); refine At.round ?_; refine sR 1 rfl (nT (At.seq ?_)); refine At.condT rfl rfl ?_; refine At.skip (At.thn (At.seq ?_)); refine At.block ?_; refine sR 2 rfl (nT ?_); refine At.still 8 (by kernel_rfl) ?_; refine At.Still.run 1 rfl ?_; refine At.Still.y (Y.ixArrK rfl rfl rfl rfl rfl (show (0 : Int) ≤ 3 ∧ (3 : Int) < 4 by decide).1 (show (0 : Int) ≤ 3 ∧ (3 : Int) < 4 by decide).2 (q := 3) (off := 3) rfl rfl) rfl rfl rfl ?_; refine At.Still.y (Y.load rfl rfl .z rfl rfl rfl) rfl rfl rfl ?_; refine At.Still.run 1 rfl ?_; refine At.Still.y (Y.ixArrK rfl rfl rfl rfl rfl (show (0 : Int) ≤ 3 ∧ (3 : Int) < 4 by decide).1 (show (0 : Int) ≤ 3 ∧ (3 : Int) < 4 by decide).2 (q := 3) (off := 3) rfl rfl) rfl rfl rfl ?_; refine At.Still.y (Y.load rfl rfl (.s (.s .z)) rfl rfl rfl) rfl rfl rfl ?_; refine At.Still.run 1 rfl ?_; refine At.Still.y (Y.ixArrK rfl rfl rfl rfl rfl (show (0 : Int) ≤ 3 ∧ (3 : Int) < 4 by decide).1 (show (0 : Int) ≤ 3 ∧ (3 : Int) < 4 by decide).2 (q := 3) (off := 3) rfl rfl) rfl rfl rfl ?_; refine At.Still.nil ?_; refine At.store rfl rfl rfl rfl .z rfl rfl rfl (.s (.s (.s (.c .n)))) ?_; refine At.nil ?_; refine At.ibn ?_; refine At.thn (At.region (At.run 2 rfl (nT ?_))); refine At.round ?_; refine sR 1 rfl (nT (At.seq ?_)); refine At.condF rfl rfl ?_; refine At.exit ?_; refine At.the ?_; refine At.the ?_; refine At.ibx ?_; refine At.thn (At.seq (At.region (At.y (Y.load rfl rfl .z rfl rfl rfl) rfl rfl rfl ?_))); refine At.store rfl rfl rfl rfl (.s .z) rfl rfl rfl (.c (.c (.c (.c .n)))) ?_; refine nT (At.ret ?_); refine At.resM (.inl rfl) rfl (RV.cell rfl rfl .z rfl rfl rfl RV.nil) ?_; refine At.drop .z (At.drop .z (At.drop .z ?_)); cases bret j; exact fun a w e hs => ⟨_, ⟨rfl, rfl⟩, hs⟩

noncomputable def Q69.f (O : Int) (U : List (Bs × Q2)) (V : List (Q7 × Q2)) (X : List Q1) (Z : List Int) (q u D G : Int) (a0 : List Q2) (I J L M : Int) : Option (Int × Int × Int × Int) :=
 (Q95.f q u D G I J L M).bind fun p =>
 some (p.1, p.2.1, p.2.2.1, p.2.2.2)
theorem Q69.callee : Callee Tryz.prog 85 := ⟨_, Tryz.func85, by kernel_rfl, by kernel_rfl⟩
theorem Q69.spec {u D G I J L M O U : Int} {V : List (Bs × Q2)} {X : List (Q7 × Q2)} {Z : List Q1} {p : List Int} {q : List Q2} (hr0_1 : RdS Q1.fl.rep R.heap A0_1 Z) (hn0_1 : Z.length = n0_1) (hc0_1 : n0_1 ≤ c0_1) (hn0_2 : p.length = n0_2) (hn0_7 : q.length = n0_7) {r : Int × Int × Int × Int} (j : Q69.f u V X Z p D G I J q L M O U = some r) :
 Spec Tryz.prog 85 [bp b0, .agg #[.int .u64 L, .int .u64 M, .int .u64 O, .int .u64 U]] R (pc b0 [bp b0_0, .slice A0_1 n0_1 c0_1, .slice A0_2 n0_2 c0_2, .int .u64 D, .int .u64 G, .int .u64 I, .int .u64 J, .slice A0_7 n0_7 c0_7] 145 :: pc b0_0 [i6 u, .map (some b0_0_1), .map (some b0_0_2)] 82 :: mapo Fl.bs.ov Q2.fl.av b0_0_1 V :: mapo Q7.fl.av Q2.fl.av b0_0_2 X :: row (Fl.int .i64) 3 A0_2 n0_2 c0_2 p :: row Q2.fl 35 A0_7 n0_7 c0_7 q :: Fr) (fun v l' => v = .agg #[.int .u64 r.1, .int .u64 r.2.1, .int .u64 r.2.2.1, .int .u64 r.2.2.2] ∧ pc b0 [bp b0_0, .slice A0_1 n0_1 c0_1, .slice A0_2 n0_2 c0_2, .int .u64 D, .int .u64 G, .int .u64 I, .int .u64 J, .slice A0_7 n0_7 c0_7] 145 :: pc b0_0 [i6 u, .map (some b0_0_1), .map (some b0_0_2)] 82 :: mapo Fl.bs.ov Q2.fl.av b0_0_1 V :: mapo Q7.fl.av Q2.fl.av b0_0_2 X :: row (Fl.int .i64) 3 A0_2 n0_2 c0_2 p :: row Q2.fl 35 A0_7 n0_7 c0_7 q :: Fr = l') := by
 subst hn0_1; subst hn0_2; subst hn0_7; refine Spec.of Tryz.func85 rfl rfl ?_; unfold Q69.f at j; have j := brun j; refine At.seq (At.region ?_); refine At.box rfl rfl (cs := [.int .u64 L, .int .u64 M, .int .u64 O, .int .u64 U]) rfl rfl (fun a0 => ?_); refine At.alloc rfl rfl rfl (fun a2 => ?_); refine nT (At.seq ?_); refine At.held [pc a0 [.int .u64 L, .int .u64 M, .int .u64 O, .int .u64 U] 35, pc b0 [bp b0_0, .slice A0_1 Z.length c0_1, .slice A0_2 p.length c0_2, .int .u64 D, .int .u64 G, .int .u64 I, .int .u64 J, .slice A0_7 q.length c0_7] 145, pc b0_0 [i6 u, .map (some b0_0_1), .map (some b0_0_2)] 82, mapo Fl.bs.ov Q2.fl.av b0_0_1 V, mapo Q7.fl.av Q2.fl.av b0_0_2 X, row (Fl.int .i64) 3 A0_2 p.length c0_2 p, row Q2.fl 35 A0_7 q.length c0_7 q] 7 rfl ?_; refine At.H.pw 0 rfl rfl rfl rfl rfl (.c (.s .z) (.c (.s .z) (.c (.s .z) (.c (.s .z) (.c (.s .z) (.c (.s .z) (.c (.s .z) .n))))))) ?_; refine At.H.pw 1 rfl rfl rfl rfl rfl (.c (.s .z) (.c (.s .z) (.c (.s .z) (.c (.s .z) (.c (.s .z) (.c (.s .z) (.c (.s .z) .n))))))) ?_; refine At.H.pw 2 rfl rfl rfl rfl rfl (.c (.s .z) (.c (.s .z) (.c (.s .z) (.c (.s .z) (.c (.s .z) (.c (.s .z) (.c (.s .z) .n))))))) ?_; refine At.H.tw 3 rfl (Y.load rfl rfl (.s .z) rfl rfl rfl) rfl rfl rfl (.c (.s .z) (.c (.s .z) (.c (.s .z) (.c (.s .z) (.c (.s .z) (.c (.s .z) (.c (.s .z) .n))))))) ?_; refine At.H.tw 4 rfl (Y.load rfl rfl .z rfl rfl rfl) rfl rfl rfl (.c (.s .z) (.c (.s .z) (.c (.s .z) (.c (.s .z) (.c (.s .z) (.c (.s .z) (.c (.s .z) .n))))))) ?_; refine At.H.al [5] (Q6 ?_ Q8)
 ··refine At.HO.op rfl ?_
   obtain ⟨a3, a1, j⟩ := bbind j; refine At.call rfl Q95.callee rfl rfl rfl (Q95.spec a1) ?_; rintro _ _ ⟨rfl, rfl⟩; refine At.HO.back (.c (.s .z) (.c (.s .z) (.c (.s .z) (.c (.s .z) (.c (.s .z) (.c (.s .z) (.c (.s .z) .n))))))) ?_; refine At.H.al [6] (Q6 ?_ Q8)
   ··refine At.HO.op rfl ?_
     refine At.store rfl rfl rfl rfl .z rfl rfl rfl (.c (.c (.c (.c .n)))) ?_; refine At.HO.back (.c (.s .z) (.c (.s .z) (.c (.s .z) (.c (.s .z) (.c (.s .z) (.c (.s .z) (.c (.s .z) .n))))))) ?_; refine At.H.done (by kernel_rfl) ?_; refine At.thn (At.ret ?_); refine At.resM (.inl rfl) rfl (RV.cell rfl rfl .z rfl rfl rfl RV.nil) ?_; refine At.drop .z (At.drop .z ?_); cases bret j; exact fun a w e hs => ⟨_, ⟨rfl, rfl⟩, hs⟩

end Go.Bw
