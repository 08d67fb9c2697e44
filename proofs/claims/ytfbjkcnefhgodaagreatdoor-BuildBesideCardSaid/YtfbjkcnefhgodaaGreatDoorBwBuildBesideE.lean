/- BuildBeside, part 5: walks and plain laws. Conditions: none. -/
import Derived.Test.YtfbjkcnefhgodaaGreatDoorProg
import Derived.Deep.QuietTactic
import Derived.Test.YtfbjkcnefhgodaaGreatDoorBwBuildBesideD
set_option linter.unusedVariables false
set_option linter.unusedSimpArgs false
set_option linter.unusedSectionVars false
set_option maxRecDepth 100000
set_option maxHeartbeats 2000000
namespace Go.Bw
open Go Go.RowKit Go.Proofs
variable {R : Res} {Fr : List HProp} {A0 A0_1 A0_2 A0_3 A0_5 A0_6 A0_7 A0_8 A3 : Option Addr} {n0 c0 b0 b0_0 b0_0_1 b0_0_2 n0_1 c0_1 n0_2 c0_2 n0_3 c0_3 b0_4 n0_5 c0_5 n0_6 c0_6 n0_7 c0_7 n0_8 c0_8 n3 c3 b1 : Nat}
structure Q2 where
 State : Int
 Node : Int
deriving Inhabited, DecidableEq
def Q2.fl : Fl Q2 := ⟨2, fun x => [i6 x.State, i6 x.Node], fun _ => rfl, fun x u hu => by simp at hu; rcases hu with rfl | rfl <;> rfl, by decide⟩
theorem Q2.keyok : KeyOk Tryz.prog 65 Q2.fl.av := KeyOk.st rfl rfl (by kernel_rfl) (by kernel_rfl) (fun x y => by
 refine (show _ = some (decide (x.State = y.State) && (decide (x.Node = y.Node) && true)) from rfl).trans (congrArg some ?_)
 cases x
 cases y
 rw [Bool.eq_iff_iff]
 simp [Q164]) (fun x => by simp [Q2.fl, Instr.sameBits, Q277])

noncomputable def Q141.f (p q u : Int) (C : Bs) (D : Int) : Option Bool :=
 some (decide (p = 5))
theorem Q141.callee : Callee Tryz.prog 101 := ⟨_, Tryz.func101, by kernel_rfl, by kernel_rfl⟩
theorem Q141.spec {p q u C : Int} {D : Bs} {r : Bool} (j : Q141.f p q u D C = some r) :
 Spec Tryz.prog 101 [.agg #[i6 p, i6 q, i6 u, .string ⟨(D).toArray⟩, i6 C]] R (Fr) (fun v l' => v = .bool r ∧ Fr = l') := by
 refine Spec.of Tryz.func101 rfl rfl ?_; unfold Q141.f at j; have j := brun j; refine At.seq (At.region ?_); refine At.box rfl rfl (cs := [i6 p, i6 q, i6 u, .string ⟨(D).toArray⟩, i6 C]) rfl rfl (fun E => ?_); refine At.run 1 rfl (nT (sR 1 rfl (At.y (Y.load rfl rfl .z rfl rfl rfl) rfl rfl rfl (At.run 2 rfl ?_)))); refine nT (At.ret (At.drop .z ?_)); cases bret j; exact At.res (.inl rfl) rfl rfl ⟨rfl, rfl⟩

noncomputable def Q66.l0b (a0 : List Q0) (p : Int) : Option ((Int) ⊕ ((Unit) ⊕ (Int))) :=
 if p < (a0.length : Int) then
 if (0 : Int) ≤ p ∧ p < (a0.length : Int) then
 (Q141.f ((gt a0 p).Kind) ((gt a0 p).A) ((gt a0 p).B) ((gt a0 p).Name) ((gt a0 p).At)).bind fun q =>
 if q = true then
 upL (some p)
 else
 nx (IntKind.i64.wrap (p + 1))
 else none
 else
 dn (.inl ())
noncomputable def Q66.l0 (a0 : List Q0) (p : Int) : Option ((Unit) ⊕ (Int)) := iter (fun t_ : Int => Q66.l0b a0 t_) p
noncomputable def Q66.f (a0 : List Q0) : Option Int :=
 jn (Q66.l0 a0 0) (fun (_ : Unit) =>
 some (-1))
theorem Q66.callee : Callee Tryz.prog 141 := ⟨_, Tryz.func141, by kernel_rfl, by kernel_rfl⟩
theorem Q66.spec {a0 : List Q0} (hr0 : RdS Q0.fl.rep R.heap A0 a0) (hn0 : a0.length = n0) (hc0 : n0 ≤ c0) {r : Int} (j : Q66.f a0 = some r) :
 Spec Tryz.prog 141 [.slice A0 n0 c0, .func (.func 101) #[] #[]] R (Fr) (fun v l' => v = i6 r ∧ Fr = l') := by
 subst hn0; refine Spec.of Tryz.func141 rfl rfl ?_; unfold Q66.f at j; have j := brun j; refine sR 1 rfl (nT (At.seq (At.seq (At.region ?_)))); refine At.run 3 rfl (nT ?_); refine At.block ?_; obtain ⟨V, Z, a1, j⟩ := bjoin j; obtain ⟨J, D, U⟩ := bsome j; clear j; unfold Q66.l0 at D; obtain ⟨E, u⟩ := Q15.1 D; clear D; refine At.loopJ (X := Int) (Y := Unit) (e0 := 0) (fun p => [(0, .slice A0 a0.length c0), (1, .func (.func 101) #[] #[]), (7, i6 (a0.length : Int)), (8, i6 p)]) (fun p => Fr) (fun m_ => fun p => iterN (fun t_ : Int => Q66.l0b a0 t_) m_ p = some J) E 0 u (fun _ => []) (fun _ => Fr) (fun _ => V (.inl ()) = some r) (fun a w e hs => ⟨e.sub ⟨rfl, rfl, rfl, rfl, trivial⟩, (by exact hs)⟩) ?_ (fun a2 => ?_)
 ·rintro _ j; have j := (Z _).symm.trans j
  ·refine At.ibx ?_; refine At.thn (sR 1 rfl (nT (At.ret ?_))); cases bret j; exact At.res (.inl rfl) rfl rfl ⟨rfl, rfl⟩
 ·clear u E; rintro E p u; obtain ⟨a3, f_, a4, hf_, j⟩ := bit u; clear u; have j : (Q66.l0b a0 p).bind _ = some J := j; unfold Q66.l0b at j
  ·refine sR 1 rfl (nT (At.seq ?_)); rcases bite j with ⟨G, j⟩ | ⟨G, j⟩
   ··refine At.condT rfl (decide_eq_true G) ?_
     refine At.skip (At.thn (At.seq ?_)); refine At.block ?_; refine sR 2 rfl (nT (sR 3 rfl ?_)); obtain ⟨C, j⟩ := bnone j; refine At.y (Y.ixRd hr0 rfl rfl rfl rfl rfl rfl rfl C.1 C.2) rfl rfl rfl (At.y (Y.ldFl hr0 rfl (q := 0) rfl rfl C.1 C.2 rfl rfl rfl) rfl rfl rfl ?_); obtain ⟨a6, a5, j⟩ := bbind j; refine At.call rfl Q141.callee rfl rfl rfl (Q141.spec a5) ?_; rintro _ _ ⟨rfl, rfl⟩; refine nT ?_; rcases bite j with ⟨I, j⟩ | ⟨I, j⟩
     ··refine At.condT rfl I ?_
       refine sR 2 rfl (nT (At.ret ?_)); refine At.ibr ?_; refine At.thr ?_; have j := bupL a1 U j; refine At.thr ?_; refine At.ibr ?_; refine At.thr ?_; cases bret j; exact At.res (.inl rfl) rfl rfl ⟨rfl, rfl⟩
     ··refine At.condF rfl (bn I) ?_
       refine At.skip ?_; refine At.ibn ?_; refine At.thn (At.region (At.run 2 rfl (At.nil ?_))); have j := bnx hf_ j; exact fun a w e hs => ⟨a3, (IntKind.i64.wrap (p + 1)), a4, j, e.sub ⟨rfl, rfl, rfl, rfl, trivial⟩, hs⟩
   ··refine At.condF rfl (decide_eq_false G) ?_
     refine At.exit ?_; refine At.the ?_; refine At.the ?_; exact fun a w e hs => a2 () (bdn j U) a w (e.sub trivial) hs

noncomputable def Q131.f (a0 : List Q0) : Option Bool :=
 (Q66.f a0).bind fun p =>
 some (decide (0 ≤ p))
theorem Q131.callee : Callee Tryz.prog 100 := ⟨_, Tryz.func100, by kernel_rfl, by kernel_rfl⟩
theorem Q131.spec {a0 : List Q0} (hr0 : RdS Q0.fl.rep R.heap A0 a0) (hn0 : a0.length = n0) (hc0 : n0 ≤ c0) {r : Bool} (j : Q131.f a0 = some r) :
 Spec Tryz.prog 100 [.slice A0 n0 c0, .func (.func 101) #[] #[]] R (Fr) (fun v l' => v = .bool r ∧ Fr = l') := by
 subst hn0; refine Spec.of Tryz.func100 rfl rfl ?_; unfold Q131.f at j; have j := brun j; refine sR 1 rfl (nT (sR 2 rfl ?_)); obtain ⟨q, p, j⟩ := bbind j; refine At.call rfl Q66.callee rfl rfl rfl (Q66.spec hr0 rfl hc0 p) ?_; rintro _ _ ⟨rfl, rfl⟩; refine At.run 2 rfl (nT (At.ret ?_)); cases bret j; exact At.res (.inl rfl) rfl rfl ⟨rfl, rfl⟩

noncomputable def Q64.l0b (u q : List Q0) (p : Int) : Option (((List Q0) × Int) ⊕ (((List Q0)) ⊕ (Bool))) :=
 if p < (u.length : Int) then
 jn (
 if (0 : Int) ≤ p ∧ p < (u.length : Int) then
 if (gt q p).Kind = 12 then
 some (.inl (st q p ({ gt q p with Kind := 3 })))
 else
 some (.inl q)
 else none) (fun (C : List Q0) =>
 nx (C, IntKind.i64.wrap (p + 1)))
 else
 dn (.inl q)
noncomputable def Q64.l0 (p q : List Q0) (u : Int) : Option (((List Q0)) ⊕ (Bool)) := iter (fun t_ : (List Q0) × Int => Q64.l0b p t_.1 t_.2) (q, u)
noncomputable def Q64.f (a0 : List Q0) : Option Bool :=
 (Q105.f a0).bind fun p =>
 jn (Q64.l0 p p 0) (fun (q : List Q0) =>
 (Q59.f q).bind fun u =>
 some (decide (u.1 = 0)))
theorem Q64.callee : Callee Tryz.prog 102 := ⟨_, Tryz.func102, by kernel_rfl, by kernel_rfl⟩
theorem Q64.spec {a0 : List Q0} (hr0 : RdS Q0.fl.rep R.heap A0 a0) (hn0 : a0.length = n0) (hc0 : n0 ≤ c0) {r : Bool} (j : Q64.f a0 = some r) :
 Spec Tryz.prog 102 [.slice A0 n0 c0] R (Fr) (fun v l' => v = .bool r ∧ Fr = l') := by
 subst hn0; refine Spec.of Tryz.func102 rfl rfl ?_; unfold Q64.f at j; have j := brun j; refine sR 1 rfl (nT (sR 1 rfl ?_)); obtain ⟨u, a5, j⟩ := bbind j; refine At.call rfl Q105.callee rfl rfl rfl (Q105.spec hr0 rfl hc0 a5) ?_; rintro _ _ ⟨C, D, rfl, rfl⟩; refine At.run 1 rfl (nT (At.seq (sR 3 rfl (At.nil ?_)))); refine At.thn ?_; refine At.block ?_; obtain ⟨a6, a7, c5, j⟩ := bjoin j; obtain ⟨V, Z, a8⟩ := bsome j; clear j; unfold Q64.l0 at Z; obtain ⟨a1, J⟩ := Q15.1 Z; clear Z; refine At.loopJ (X := (List Q0) × Int) (Y := (List Q0)) (e0 := 0) (fun s_ => [(3, .slice C u.length D), (10, i6 (u.length : Int)), (11, i6 s_.2)]) (fun s_ => row Q0.fl 33 C u.length D s_.1 :: Fr) (fun m_ => fun s_ => iterN (fun t_ : (List Q0) × Int => Q64.l0b u t_.1 t_.2) m_ (s_.1, s_.2) = some V) a1 (u, 0) J (fun U => [(3, .slice C u.length D)]) (fun U => row Q0.fl 33 C u.length D U :: Fr) (fun U => a6 (.inl U) = some r) (fun a w e hs => ⟨e.sub ⟨rfl, rfl, rfl, trivial⟩, (by exact hs)⟩) ?_ (fun a9 => ?_)
 ·rintro U j; have j := (a7 _).symm.trans j
  ·refine At.ibx ?_; refine At.thn (sR 1 rfl ?_); refine At.freeze .z fun c6 b2 b3 b4 c7 b5 => ?_; obtain ⟨c8, b6, j⟩ := bbind j; refine At.call rfl Q59.callee rfl rfl rfl (Q59.spec b2 b3 b4 b6) ?_; rintro _ _ ⟨rfl, rfl⟩; refine At.run 5 rfl (nT (sR 3 rfl (nT ?_))); refine At.ret ?_; refine At.thaw b5 ?_; refine At.drop .z ?_; cases bret j; exact At.res (.inl rfl) rfl rfl ⟨rfl, rfl⟩
 ·clear J a1; rintro a1 ⟨E, G⟩ J; obtain ⟨b7, f_, b8, hf_, j⟩ := bit J; clear J; have j : (Q64.l0b u E G).bind _ = some V := j; unfold Q64.l0b at j
  ·refine sR 1 rfl (nT (At.seq ?_)); rcases bite j with ⟨a2, j⟩ | ⟨a2, j⟩
   ··refine At.condT rfl (decide_eq_true a2) ?_
     refine At.skip (At.thn (At.seq ?_)); obtain ⟨b9, c4, c9, j⟩ := bjoin j; refine At.join (X := (List Q0)) (fun I => [(3, .slice C u.length D), (10, i6 (u.length : Int)), (11, i6 G)]) (fun I => row Q0.fl 33 C u.length D I :: Fr) (fun I => b9 (.inl I) = some V) ?_ (fun a4 => ?_)
     ·rintro I j; have j := (c4 _).symm.trans j
      ·refine At.region (At.run 2 rfl (At.nil ?_)); have j := bnx hf_ j; exact fun a w e hs => ⟨b7, (I, IntKind.i64.wrap (G + 1)), b8, j, e.sub ⟨rfl, rfl, rfl, trivial⟩, hs⟩
     ··refine At.block ?_
       refine sR 2 rfl (nT (sR 2 rfl ?_)); obtain ⟨p, j⟩ := bnone j; refine At.y (Y.ix .z rfl rfl rfl rfl rfl rfl p.1 p.2) rfl rfl rfl ?_; refine At.y (Y.faOwn .z p.1 p.2 rfl rfl rfl rfl rfl rfl) rfl rfl rfl ?_; refine At.y (Y.ld .z (q := 0) rfl rfl p.1 p.2 rfl rfl rfl) rfl rfl rfl (At.run 1 rfl (nT ?_)); rcases bite j with ⟨a3, j⟩ | ⟨a3, j⟩
       ··refine At.condT rfl (decide_eq_true a3) ?_
         refine At.region (At.run 2 rfl (At.y (Y.ix .z rfl rfl rfl rfl rfl rfl p.1 p.2) rfl rfl rfl ?_)); refine At.y (Y.faOwn .z p.1 p.2 rfl rfl rfl rfl rfl rfl) rfl rfl rfl ?_; refine At.st rfl .z (q := 0) (z := { gt E G with Kind := 3 }) rfl rfl rfl p.1 p.2 rfl rfl (.c .n) ?_; refine At.nil ?_; refine At.ibn ?_; refine At.thn ?_; exact fun a w e hs => a4 (st E G ({ gt E G with Kind := 3 })) j a w (e.sub ⟨rfl, rfl, rfl, trivial⟩) hs
       ··refine At.condF rfl (decide_eq_false a3) ?_
         refine At.skip ?_; refine At.ibn ?_; refine At.thn ?_; exact fun a w e hs => a4 E j a w (e.sub ⟨rfl, rfl, rfl, trivial⟩) hs
   ··refine At.condF rfl (decide_eq_false a2) ?_
     refine At.exit ?_; refine At.the ?_; refine At.the ?_; exact fun a w e hs => a9 E (bdn j a8) a w (e.sub ⟨rfl, trivial⟩) hs

noncomputable def Q53.f (a0 : List Q0) : Option Bool :=
 (Q131.f a0).bind fun p =>
 jn (
 if p = true then
 some (.inl false)
 else
 (Q64.f a0).bind fun q =>
 some (.inl q)) (fun (u : Bool) =>
 some u)
theorem Q53.callee : Callee Tryz.prog 46 := ⟨_, Tryz.func46, by kernel_rfl, by kernel_rfl⟩
theorem Q53.spec {a0 : List Q0} (hr0 : RdS Q0.fl.rep R.heap A0 a0) (hn0 : a0.length = n0) (hc0 : n0 ≤ c0) {r : Bool} (j : Q53.f a0 = some r) :
 Spec Tryz.prog 46 [.slice A0 n0 c0] R (Fr) (fun v l' => v = .bool r ∧ Fr = l') := by
 subst hn0; refine Spec.of Tryz.func46 rfl rfl ?_; unfold Q53.f at j; have j := brun j; refine sR 1 rfl (nT (sR 1 rfl ?_)); obtain ⟨J, C, j⟩ := bbind j; refine At.call rfl Q131.callee rfl rfl rfl (Q131.spec hr0 rfl hc0 C) ?_; rintro _ _ ⟨rfl, rfl⟩; refine At.run 2 rfl ?_; obtain ⟨D, E, U, j⟩ := bjoin j; refine At.joinO 3 (X := Bool) (fun p => [(9, .bool p)]) (fun p => Fr) (fun p => D (.inl p) = some r) ?_ (fun u => ?_)
 ·rintro p j; have j := (E _).symm.trans j
  ·refine At.run 1 rfl (nT (At.ret ?_)); cases bret j; exact At.res (.inl rfl) rfl rfl ⟨rfl, rfl⟩
 ··rcases bite j with ⟨q, j⟩ | ⟨q, j⟩
   ··refine At.know (t := 6) rfl (nf q) ?_
     refine At.run 3 rfl ?_; exact At.of (u false j) ⟨rfl, trivial⟩
   ··refine At.know (t := 6) rfl (nt (bn q)) ?_
     refine At.run 1 rfl ?_; obtain ⟨G, I, j⟩ := bbind j; refine At.call rfl Q64.callee rfl rfl rfl (Q64.spec hr0 rfl hc0 I) ?_; rintro _ _ ⟨rfl, rfl⟩; refine At.run 1 rfl ?_; exact At.of (u G j) ⟨rfl, trivial⟩

noncomputable def Q54.l0b (u q : List Q0) (p : Int) : Option (((List Q0) × Int) ⊕ (((List Q0)) ⊕ ((List Int)))) :=
 if p < (u.length : Int) then
 jn (
 if (0 : Int) ≤ p ∧ p < (u.length : Int) then
 if (gt q p).Kind = 12 then
 some (.inl (st q p ({ gt q p with Kind := 3 })))
 else
 some (.inl q)
 else none) (fun (C : List Q0) =>
 nx (C, IntKind.i64.wrap (p + 1)))
 else
 dn (.inl q)
noncomputable def Q54.l0 (p q : List Q0) (u : Int) : Option (((List Q0)) ⊕ ((List Int))) := iter (fun t_ : (List Q0) × Int => Q54.l0b p t_.1 t_.2) (q, u)
noncomputable def Q54.f (a0 : List Q0) : Option (List Int) :=
 (Q105.f a0).bind fun p =>
 jn (Q54.l0 p p 0) (fun (q : List Q0) =>
 (Q138.f q).bind fun u =>
 some u)
theorem Q54.callee : Callee Tryz.prog 52 := ⟨_, Tryz.func52, by kernel_rfl, by kernel_rfl⟩
theorem Q54.spec {a0 : List Q0} (hr0 : RdS Q0.fl.rep R.heap A0 a0) (hn0 : a0.length = n0) (hc0 : n0 ≤ c0) {r : (List Int)} (j : Q54.f a0 = some r) :
 Spec Tryz.prog 52 [.slice A0 n0 c0] R (Fr) (fun v l' => ∃ (V : Nat) (a5 : Option Addr) (a6 : Nat), v = .slice a5 V a6 ∧ row (Fl.int .i64) 3 a5 V a6 r :: Fr = l' ∧ r.length = V) := by
 subst hn0; refine Spec.of Tryz.func52 rfl rfl ?_; unfold Q54.f at j; have j := brun j; refine sR 1 rfl (nT (sR 1 rfl ?_)); obtain ⟨u, a8, j⟩ := bbind j; refine At.call rfl Q105.callee rfl rfl rfl (Q105.spec hr0 rfl hc0 a8) ?_; rintro _ _ ⟨C, D, rfl, rfl⟩; refine At.run 1 rfl (nT (At.seq (sR 3 rfl (At.nil ?_)))); refine At.thn ?_; refine At.block ?_; obtain ⟨a9, b2, d1, j⟩ := bjoin j; obtain ⟨Z, a1, b3⟩ := bsome j; clear j; unfold Q54.l0 at a1; obtain ⟨a2, J⟩ := Q15.1 a1; clear a1; refine At.loopJ (X := (List Q0) × Int) (Y := (List Q0)) (e0 := 0) (fun s_ => [(3, .slice C u.length D), (8, i6 (u.length : Int)), (9, i6 s_.2)]) (fun s_ => row Q0.fl 33 C u.length D s_.1 :: Fr) (fun m_ => fun s_ => iterN (fun t_ : (List Q0) × Int => Q54.l0b u t_.1 t_.2) m_ (s_.1, s_.2) = some Z) a2 (u, 0) J (fun U => [(3, .slice C u.length D)]) (fun U => row Q0.fl 33 C u.length D U :: Fr) (fun U => a9 (.inl U) = some r) (fun a w e hs => ⟨e.sub ⟨rfl, rfl, rfl, trivial⟩, (by exact hs)⟩) ?_ (fun b4 => ?_)
 ·rintro U j; have j := (b2 _).symm.trans j
  ·refine At.ibx ?_; refine At.thn (sR 1 rfl ?_); refine At.freeze .z fun d2 b5 b6 b7 d3 b8 => ?_; obtain ⟨b9, c4, j⟩ := bbind j; refine At.call rfl Q138.callee rfl rfl rfl (Q138.spec b5 b6 b7 c4) ?_; rintro _ _ ⟨d4, c5, c6, rfl, rfl, rfl⟩; refine At.run 1 rfl (nT (At.ret ?_)); refine At.thaw b8 ?_; refine At.drop .z ?_; obtain rfl := (bret j).symm; exact At.res (.inl rfl) rfl rfl ⟨b9.length, c5, c6, rfl, rfl, rfl⟩
 ·clear J a2; rintro a2 ⟨E, G⟩ J; obtain ⟨c7, f_, c8, hf_, j⟩ := bit J; clear J; have j : (Q54.l0b u E G).bind _ = some Z := j; unfold Q54.l0b at j
  ·refine sR 1 rfl (nT (At.seq ?_)); rcases bite j with ⟨a3, j⟩ | ⟨a3, j⟩
   ··refine At.condT rfl (decide_eq_true a3) ?_
     refine At.skip (At.thn (At.seq ?_)); obtain ⟨c9, d0, d5, j⟩ := bjoin j; refine At.join (X := (List Q0)) (fun I => [(3, .slice C u.length D), (8, i6 (u.length : Int)), (9, i6 G)]) (fun I => row Q0.fl 33 C u.length D I :: Fr) (fun I => c9 (.inl I) = some Z) ?_ (fun a7 => ?_)
     ·rintro I j; have j := (d0 _).symm.trans j
      ·refine At.region (At.run 2 rfl (At.nil ?_)); have j := bnx hf_ j; exact fun a w e hs => ⟨c7, (I, IntKind.i64.wrap (G + 1)), c8, j, e.sub ⟨rfl, rfl, rfl, trivial⟩, hs⟩
     ··refine At.block ?_
       refine sR 2 rfl (nT (sR 2 rfl ?_)); obtain ⟨p, j⟩ := bnone j; refine At.y (Y.ix .z rfl rfl rfl rfl rfl rfl p.1 p.2) rfl rfl rfl ?_; refine At.y (Y.faOwn .z p.1 p.2 rfl rfl rfl rfl rfl rfl) rfl rfl rfl ?_; refine At.y (Y.ld .z (q := 0) rfl rfl p.1 p.2 rfl rfl rfl) rfl rfl rfl (At.run 1 rfl (nT ?_)); rcases bite j with ⟨a4, j⟩ | ⟨a4, j⟩
       ··refine At.condT rfl (decide_eq_true a4) ?_
         refine At.region (At.run 2 rfl (At.y (Y.ix .z rfl rfl rfl rfl rfl rfl p.1 p.2) rfl rfl rfl ?_)); refine At.y (Y.faOwn .z p.1 p.2 rfl rfl rfl rfl rfl rfl) rfl rfl rfl ?_; refine At.st rfl .z (q := 0) (z := { gt E G with Kind := 3 }) rfl rfl rfl p.1 p.2 rfl rfl (.c .n) ?_; refine At.nil ?_; refine At.ibn ?_; refine At.thn ?_; exact fun a w e hs => a7 (st E G ({ gt E G with Kind := 3 })) j a w (e.sub ⟨rfl, rfl, rfl, trivial⟩) hs
       ··refine At.condF rfl (decide_eq_false a4) ?_
         refine At.skip ?_; refine At.ibn ?_; refine At.thn ?_; exact fun a w e hs => a7 E j a w (e.sub ⟨rfl, rfl, rfl, trivial⟩) hs
   ··refine At.condF rfl (decide_eq_false a3) ?_
     refine At.exit ?_; refine At.the ?_; refine At.the ?_; exact fun a w e hs => b4 E (bdn j b3) a w (e.sub ⟨rfl, trivial⟩) hs

noncomputable def Q29.l0b (a0 : List Q0) (u : (List Int)) (q : List Int) (p : Int) : Option (((List Int) × Int) ⊕ (((List Int)) ⊕ ((List Int)))) :=
 if p < (a0.length : Int) then
 jn (
 if (0 : Int) ≤ p ∧ p < (a0.length : Int) then
 if (gt a0 p).Kind = 4 then
 if (0 : Int) ≤ p ∧ p < (u.length : Int) then
 if (0 : Int) ≤ gt u p then
 if (0 : Int) ≤ p ∧ p < ((List.replicate (a0.length : Int).toNat (0 : Int)).length : Int) then
 some (.inl (st q p (Bw.shl .u64 1 (gt u p))))
 else none
 else none
 else none
 else
 jn (
 if (gt a0 p).Kind = 6 then
 some (.inl (decide ((gt a0 p).Kind = 6)))
 else
 some (.inl (decide ((gt a0 p).Kind = 7)))) (fun (C : Bool) =>
 if C = true then
 if (0 : Int) ≤ (gt a0 p).A ∧ (gt a0 p).A < ((List.replicate (a0.length : Int).toNat (0 : Int)).length : Int) then
 if (0 : Int) ≤ (gt a0 p).B ∧ (gt a0 p).B < ((List.replicate (a0.length : Int).toNat (0 : Int)).length : Int) then
 if (0 : Int) ≤ p ∧ p < ((List.replicate (a0.length : Int).toNat (0 : Int)).length : Int) then
 some (.inl (st q p (bor .u64 (gt q ((gt a0 p).A)) (gt q ((gt a0 p).B)))))
 else none
 else none
 else none
 else
 jn (
 if (gt a0 p).Kind = 8 then
 some (.inl (decide ((gt a0 p).Kind = 8)))
 else
 some (.inl (decide ((gt a0 p).Kind = 9)))) (fun (D : Bool) =>
 if D = true then
 if (0 : Int) ≤ (gt a0 p).A ∧ (gt a0 p).A < ((List.replicate (a0.length : Int).toNat (0 : Int)).length : Int) then
 if (0 : Int) ≤ p ∧ p < ((List.replicate (a0.length : Int).toNat (0 : Int)).length : Int) then
 some (.inl (st q p (gt q ((gt a0 p).A))))
 else none
 else none
 else
 jn (
 if (gt a0 p).Kind = 10 then
 some (.inl (decide ((gt a0 p).Kind = 10)))
 else
 some (.inl (decide ((gt a0 p).Kind = 11)))) (fun (E : Bool) =>
 if E = true then
 if (0 : Int) ≤ (gt a0 p).A ∧ (gt a0 p).A < ((List.replicate (a0.length : Int).toNat (0 : Int)).length : Int) then
 if (0 : Int) ≤ p then
 if (0 : Int) ≤ p ∧ p < ((List.replicate (a0.length : Int).toNat (0 : Int)).length : Int) then
 some (.inl (st q p (bandnot .u64 (gt q ((gt a0 p).A)) (Bw.shl .u64 1 p))))
 else none
 else none
 else none
 else
 some (.inl q))))
 else none) (fun (G : List Int) =>
 nx (G, IntKind.i64.wrap (p + 1)))
 else
 dn (.inl q)
noncomputable def Q29.l0 (a0 : List Q0) (p : (List Int)) (q : List Int) (u : Int) : Option (((List Int)) ⊕ ((List Int))) := iter (fun t_ : (List Int) × Int => Q29.l0b a0 p t_.1 t_.2) (q, u)
noncomputable def Q29.f (a0 : List Q0) : Option (List Int) :=
 (Q53.f a0).bind fun p =>
 if p = true then
 (Q54.f a0).bind fun q =>
 if (0 : Int) ≤ (a0.length : Int) ∧ (8 : Int) * (a0.length : Int) ≤ 281474976710656 then
 jn (Q29.l0 a0 q (List.replicate (a0.length : Int).toNat (0 : Int)) 0) (fun (u : List Int) =>
 some u)
 else none
 else
 some ([] : List Int)
theorem Q29.callee : Callee Tryz.prog 26 := ⟨_, Tryz.func26, by kernel_rfl, by kernel_rfl⟩
theorem Q29.spec {a0 : List Q0} (hr0 : RdS Q0.fl.rep R.heap A0 a0) (hn0 : a0.length = n0) (hc0 : n0 ≤ c0) {r : (List Int)} (j : Q29.f a0 = some r) :
 Spec Tryz.prog 26 [.slice A0 n0 c0] R (Fr) (fun v l' => ∃ (b8 : Nat) (d4 : Option Addr) (d5 : Nat), v = .slice d4 b8 d5 ∧ row (Fl.int .u64) 28 d4 b8 d5 r :: Fr = l' ∧ r.length = b8) := by
 subst hn0; refine Spec.of Tryz.func26 rfl rfl ?_; unfold Q29.f at j; have j := brun j; refine sR 1 rfl (nT (At.seq (At.seq (At.region ?_)))); refine At.run 1 rfl ?_; obtain ⟨g0, e1, j⟩ := bbind j; refine At.call rfl Q53.callee rfl rfl rfl (Q53.spec hr0 rfl hc0 e1) ?_; rintro _ _ ⟨rfl, rfl⟩; refine At.run 1 rfl (nT ?_); rcases bite j with ⟨b9, j⟩ | ⟨b9, j⟩
 ··refine At.condF rfl (nf b9) ?_
   refine At.skip (At.thn (sR 1 rfl ?_)); obtain ⟨C, e2, j⟩ := bbind j; refine At.call rfl Q54.callee rfl rfl rfl (Q54.spec hr0 rfl hc0 e2) ?_; rintro _ _ ⟨g1, G, I, rfl, rfl, rfl⟩; refine At.run 1 rfl (nT (sR 2 rfl ?_)); obtain ⟨d6, j⟩ := bnone j; refine At.make (F := (Fl.int .u64)) (z := 0) rfl rfl rfl rfl rfl rfl rfl rfl rfl rfl d6.1 d6.2 (by decide) rfl (fun D E => ?_); refine At.run 1 rfl (nT (At.seq (sR 3 rfl (At.nil ?_)))); refine At.thn ?_; refine At.block ?_; obtain ⟨e3, e4, g2, j⟩ := bjoin j; obtain ⟨J, c4, e5⟩ := bsome j; clear j; unfold Q29.l0 at c4; obtain ⟨c5, V⟩ := Q15.1 c4; clear c4; let T1 : HProp := row (Fl.int .i64) 3 G C.length I C; refine At.loopJ (X := (List Int) × Int) (Y := (List Int)) (e0 := 0) (fun s_ => [(3, .slice G C.length I), (4, .slice D ((List.replicate (a0.length : Int).toNat (0 : Int)).length) E), (15, .slice A0 a0.length c0), (16, i6 (a0.length : Int)), (17, i6 s_.2)]) (fun s_ => row (Fl.int .u64) 28 D ((List.replicate (a0.length : Int).toNat (0 : Int)).length) E s_.1 :: T1 :: Fr) (fun m_ => fun s_ => iterN (fun t_ : (List Int) × Int => Q29.l0b a0 C t_.1 t_.2) m_ (s_.1, s_.2) = some J) c5 ((List.replicate (a0.length : Int).toNat (0 : Int)), 0) V (fun Z => [(4, .slice D ((List.replicate (a0.length : Int).toNat (0 : Int)).length) E)]) (fun Z => row (Fl.int .u64) 28 D ((List.replicate (a0.length : Int).toNat (0 : Int)).length) E Z :: T1 :: Fr) (fun Z => e3 (.inl Z) = some r) (fun a w e hs => ⟨e.sub ⟨rfl, rfl, rfl, rfl, rfl, trivial⟩, (by exact hs)⟩) ?_ (fun e6 => ?_)
   ·rintro Z j; have j := (e4 _).symm.trans j
    ·refine At.ibx ?_; refine At.thn (sR 2 rfl (nT (At.ret ?_))); refine At.rowLen .z fun e7 => ?_; refine At.drop (.s .z) ?_; cases bret j; exact At.res (.inl rfl) rfl rfl ⟨(List.replicate (a0.length : Int).toNat (0 : Int)).length, D, E, rfl, rfl, e7⟩
   ·clear V c5; rintro c5 ⟨u, p⟩ V; obtain ⟨e8, f_, e9, hf_, j⟩ := bit V; clear V; have j : (Q29.l0b a0 C u p).bind _ = some J := j; unfold Q29.l0b at j
    ·refine sR 1 rfl (nT (At.seq ?_)); rcases bite j with ⟨c6, j⟩ | ⟨c6, j⟩
     ··refine At.condT rfl (decide_eq_true c6) ?_
       refine At.skip (At.thn (At.seq ?_)); obtain ⟨f0, f1, g3, j⟩ := bjoin j; refine At.join (X := (List Int)) (fun U => [(3, .slice G C.length I), (4, .slice D ((List.replicate (a0.length : Int).toNat (0 : Int)).length) E), (15, .slice A0 a0.length c0), (16, i6 (a0.length : Int)), (17, i6 p)]) (fun U => row (Fl.int .u64) 28 D ((List.replicate (a0.length : Int).toNat (0 : Int)).length) E U :: T1 :: Fr) (fun U => f0 (.inl U) = some J) ?_ (fun a1 => ?_)
       ·rintro U j; have j := (f1 _).symm.trans j
        ·refine At.region (At.run 2 rfl (At.nil ?_)); have j := bnx hf_ j; exact fun a w e hs => ⟨e8, (U, IntKind.i64.wrap (p + 1)), e9, j, e.sub ⟨rfl, rfl, rfl, rfl, rfl, trivial⟩, hs⟩
       ··refine At.block ?_
         refine sR 1 rfl ?_; obtain ⟨a5, j⟩ := bnone j; refine At.y (Y.ixRd hr0 rfl rfl rfl rfl rfl rfl rfl a5.1 a5.2) rfl rfl rfl (At.y (Y.ldFl hr0 rfl (q := 0) rfl rfl a5.1 a5.2 rfl rfl rfl) rfl rfl rfl ?_); refine At.alloc rfl rfl rfl (fun a6 => ?_); refine At.run 1 rfl ?_; refine At.store rfl rfl rfl rfl .z rfl rfl rfl (.c (.c (.c (.c (.c .n))))) ?_; refine nT (sR 1 rfl (At.y (Y.load rfl rfl .z rfl rfl rfl) rfl rfl rfl (nT ?_))); refine At.block ?_; refine sR 2 rfl (nT ?_); rcases bite j with ⟨c7, j⟩ | ⟨c7, j⟩
         ··refine At.condT rfl (decide_eq_true c7) ?_
           refine At.region (At.run 4 rfl ?_); obtain ⟨a7, j⟩ := bnone j; refine At.y (Y.ix (.s (.s .z)) rfl rfl rfl rfl rfl rfl a7.1 a7.2) rfl rfl rfl (At.y (Y.ld (.s (.s .z)) (q := 0) rfl rfl a7.1 a7.2 rfl rfl rfl) rfl rfl rfl ?_); obtain ⟨f2, j⟩ := bnone j; refine At.y (Y.shl rfl rfl f2) rfl rfl rfl ?_; obtain ⟨a8, j⟩ := bnone j; refine At.y (Y.ix (.s .z) rfl rfl rfl rfl rfl rfl a8.1 a8.2) rfl rfl rfl ?_; refine At.st rfl (.s .z) (q := 0) (z := (Bw.shl .u64 1 (gt C p))) rfl rfl rfl a8.1 a8.2 rfl rfl (.c .n) ?_; refine At.nil ?_; refine At.ibn ?_; refine At.ibn ?_; refine At.thn (At.drop (.s .z) ?_); exact fun a w e hs => a1 (st u p (Bw.shl .u64 1 (gt C p))) j a w (e.sub ⟨rfl, rfl, rfl, rfl, rfl, trivial⟩) hs
         ··refine At.condF rfl (decide_eq_false c7) ?_
           refine At.seq (sR 2 rfl (nT ?_)); obtain ⟨f3, f4, g4, j⟩ := bjoin j; let T2 : HProp := pc a6 [i6 ((gt a0 p).Kind), i6 ((gt a0 p).A), i6 ((gt a0 p).B), .string ⟨((gt a0 p).Name).toArray⟩, i6 ((gt a0 p).At)] 33; let T3 : HProp := row (Fl.int .u64) 28 D ((List.replicate (a0.length : Int).toNat (0 : Int)).length) E u; refine At.join (X := Bool) (fun a2 => [(3, .slice G C.length I), (4, .slice D ((List.replicate (a0.length : Int).toNat (0 : Int)).length) E), (5, i6 p), (6, bp a6), (15, .slice A0 a0.length c0), (16, i6 (a0.length : Int)), (17, i6 p), (23, i6 ((gt a0 p).Kind)), (34, .bool a2)]) (fun a2 => T2 :: T3 :: T1 :: Fr) (fun a2 => f3 (.inl a2) = some J) ?_ (fun d7 => ?_)
           ·rintro a2 j; have j := (f4 _).symm.trans j
            ·rcases bite j with ⟨c8, j⟩ | ⟨c8, j⟩
             ··refine At.condT rfl c8 ?_
               refine At.still 14 (by kernel_rfl) ?_; refine At.Still.run 4 rfl ?_; refine At.Still.y (Y.load rfl rfl .z rfl rfl rfl) rfl rfl rfl ?_; obtain ⟨a9, j⟩ := bnone j; refine At.Still.y (Y.ix (.s .z) rfl rfl rfl rfl rfl rfl a9.1 a9.2) rfl rfl rfl ?_; refine At.Still.y (Y.ld (.s .z) (q := 0) rfl rfl a9.1 a9.2 rfl rfl rfl) rfl rfl rfl ?_; refine At.Still.run 2 rfl ?_; refine At.Still.y (Y.load rfl rfl .z rfl rfl rfl) rfl rfl rfl ?_; obtain ⟨b2, j⟩ := bnone j; refine At.Still.y (Y.ix (.s .z) rfl rfl rfl rfl rfl rfl b2.1 b2.2) rfl rfl rfl ?_; refine At.Still.y (Y.ld (.s .z) (q := 0) rfl rfl b2.1 b2.2 rfl rfl rfl) rfl rfl rfl ?_; refine At.Still.run 1 rfl ?_; obtain ⟨b3, j⟩ := bnone j; refine At.Still.y (Y.ix (.s .z) rfl rfl rfl rfl rfl rfl b3.1 b3.2) rfl rfl rfl ?_; refine At.Still.nil ?_; refine At.st rfl (.s .z) (q := 0) (z := (bor .u64 (gt u ((gt a0 p).A)) (gt u ((gt a0 p).B)))) rfl rfl rfl b3.1 b3.2 rfl rfl (.c .n) ?_; refine At.nil ?_; refine At.ibn ?_; refine At.ibn ?_; refine At.thn (At.drop (.s .z) ?_); exact fun a w e hs => a1 (st u p (bor .u64 (gt u ((gt a0 p).A)) (gt u ((gt a0 p).B)))) j a w (e.sub ⟨rfl, rfl, rfl, rfl, rfl, trivial⟩) hs
             ··refine At.condF rfl (bn c8) ?_
               refine At.seq (sR 2 rfl (nT ?_)); obtain ⟨f5, f6, g5, j⟩ := bjoin j; refine At.join (X := Bool) (fun a3 => [(3, .slice G C.length I), (4, .slice D ((List.replicate (a0.length : Int).toNat (0 : Int)).length) E), (5, i6 p), (6, bp a6), (15, .slice A0 a0.length c0), (16, i6 (a0.length : Int)), (17, i6 p), (23, i6 ((gt a0 p).Kind)), (51, .bool a3)]) (fun a3 => T2 :: T3 :: T1 :: Fr) (fun a3 => f5 (.inl a3) = some J) ?_ (fun d8 => ?_)
               ·rintro a3 j; have j := (f6 _).symm.trans j
                ·rcases bite j with ⟨c9, j⟩ | ⟨c9, j⟩
                 ··refine At.condT rfl c9 ?_
                   refine At.region (At.run 4 rfl (At.y (Y.load rfl rfl .z rfl rfl rfl) rfl rfl rfl ?_)); obtain ⟨b4, j⟩ := bnone j; refine At.y (Y.ix (.s .z) rfl rfl rfl rfl rfl rfl b4.1 b4.2) rfl rfl rfl (At.y (Y.ld (.s .z) (q := 0) rfl rfl b4.1 b4.2 rfl rfl rfl) rfl rfl rfl ?_); obtain ⟨b5, j⟩ := bnone j; refine At.y (Y.ix (.s .z) rfl rfl rfl rfl rfl rfl b5.1 b5.2) rfl rfl rfl ?_; refine At.st rfl (.s .z) (q := 0) (z := (gt u ((gt a0 p).A))) rfl rfl rfl b5.1 b5.2 rfl rfl (.c .n) ?_; refine At.nil ?_; refine At.ibn ?_; refine At.ibn ?_; refine At.thn (At.drop (.s .z) ?_); exact fun a w e hs => a1 (st u p (gt u ((gt a0 p).A))) j a w (e.sub ⟨rfl, rfl, rfl, rfl, rfl, trivial⟩) hs
                 ··refine At.condF rfl (bn c9) ?_
                   refine At.seq (sR 2 rfl (nT ?_)); obtain ⟨f7, f8, g6, j⟩ := bjoin j; refine At.join (X := Bool) (fun a4 => [(3, .slice G C.length I), (4, .slice D ((List.replicate (a0.length : Int).toNat (0 : Int)).length) E), (5, i6 p), (6, bp a6), (15, .slice A0 a0.length c0), (16, i6 (a0.length : Int)), (17, i6 p), (62, .bool a4)]) (fun a4 => T2 :: T3 :: T1 :: Fr) (fun a4 => f7 (.inl a4) = some J) ?_ (fun d9 => ?_)
                   ·rintro a4 j; have j := (f8 _).symm.trans j
                    ·rcases bite j with ⟨d0, j⟩ | ⟨d0, j⟩
                     ··refine At.condT rfl d0 ?_
                       refine At.still 11 (by kernel_rfl) ?_; refine At.Still.run 4 rfl ?_; refine At.Still.y (Y.load rfl rfl .z rfl rfl rfl) rfl rfl rfl ?_; obtain ⟨b6, j⟩ := bnone j; refine At.Still.y (Y.ix (.s .z) rfl rfl rfl rfl rfl rfl b6.1 b6.2) rfl rfl rfl ?_; refine At.Still.y (Y.ld (.s .z) (q := 0) rfl rfl b6.1 b6.2 rfl rfl rfl) rfl rfl rfl ?_; refine At.Still.run 1 rfl ?_; obtain ⟨f9, j⟩ := bnone j; refine At.Still.y (Y.shl rfl rfl f9) rfl rfl rfl ?_; refine At.Still.run 1 rfl ?_; obtain ⟨b7, j⟩ := bnone j; refine At.Still.y (Y.ix (.s .z) rfl rfl rfl rfl rfl rfl b7.1 b7.2) rfl rfl rfl ?_; refine At.Still.nil ?_; refine At.st rfl (.s .z) (q := 0) (z := (bandnot .u64 (gt u ((gt a0 p).A)) (Bw.shl .u64 1 p))) rfl rfl rfl b7.1 b7.2 rfl rfl (.c .n) ?_; refine At.nil ?_; refine At.ibn ?_; refine At.ibn ?_; refine At.thn (At.drop (.s .z) ?_); exact fun a w e hs => a1 (st u p (bandnot .u64 (gt u ((gt a0 p).A)) (Bw.shl .u64 1 p))) j a w (e.sub ⟨rfl, rfl, rfl, rfl, rfl, trivial⟩) hs
                     ··refine At.condF rfl (bn d0) ?_
                       refine At.skip ?_; refine At.ibn ?_; refine At.ibn ?_; refine At.thn (At.drop .z ?_); exact fun a w e hs => a1 u j a w (e.sub ⟨rfl, rfl, rfl, rfl, rfl, trivial⟩) hs
                   ··rcases bite j with ⟨d1, j⟩ | ⟨d1, j⟩
                     ··refine At.condT rfl (decide_eq_true d1) ?_
                       refine At.skip (At.thn ?_); exact fun a w e hs => d9 (decide ((gt a0 p).Kind = 10)) j a w (e.sub ⟨rfl, rfl, rfl, rfl, rfl, rfl, rfl, rfl, trivial⟩) hs
                     ··refine At.condF rfl (decide_eq_false d1) ?_
                       refine At.region (At.run 2 rfl (nT ?_)); exact fun a w e hs => d9 (decide ((gt a0 p).Kind = 11)) j a w (e.sub ⟨rfl, rfl, rfl, rfl, rfl, rfl, rfl, rfl, trivial⟩) hs
               ··rcases bite j with ⟨d2, j⟩ | ⟨d2, j⟩
                 ··refine At.condT rfl (decide_eq_true d2) ?_
                   refine At.skip (At.thn ?_); exact fun a w e hs => d8 (decide ((gt a0 p).Kind = 8)) j a w (e.sub ⟨rfl, rfl, rfl, rfl, rfl, rfl, rfl, rfl, rfl, trivial⟩) hs
                 ··refine At.condF rfl (decide_eq_false d2) ?_
                   refine At.region (At.run 2 rfl (nT ?_)); exact fun a w e hs => d8 (decide ((gt a0 p).Kind = 9)) j a w (e.sub ⟨rfl, rfl, rfl, rfl, rfl, rfl, rfl, rfl, rfl, trivial⟩) hs
           ··rcases bite j with ⟨d3, j⟩ | ⟨d3, j⟩
             ··refine At.condT rfl (decide_eq_true d3) ?_
               refine At.skip (At.thn ?_); exact fun a w e hs => d7 (decide ((gt a0 p).Kind = 6)) j a w (e.sub ⟨rfl, rfl, rfl, rfl, rfl, rfl, rfl, rfl, rfl, trivial⟩) hs
             ··refine At.condF rfl (decide_eq_false d3) ?_
               refine At.region (At.run 2 rfl (nT ?_)); exact fun a w e hs => d7 (decide ((gt a0 p).Kind = 7)) j a w (e.sub ⟨rfl, rfl, rfl, rfl, rfl, rfl, rfl, rfl, rfl, trivial⟩) hs
     ··refine At.condF rfl (decide_eq_false c6) ?_
       refine At.exit ?_; refine At.the ?_; refine At.the ?_; exact fun a w e hs => e6 u (bdn j e5) a w (e.sub ⟨rfl, trivial⟩) hs
 ··refine At.condT rfl (nt (bn b9)) ?_
   refine sR 1 rfl (nT (At.ret (At.thr ?_))); refine At.nilRow (Fl.int .u64) 28 ?_; cases bret j; exact At.res (.inl rfl) rfl rfl ⟨0, none, 0, rfl, rfl, rfl⟩

noncomputable def Q27.l1b (I : (List Int)) (u E : List Int) (p G : Int) (C : List Int) (D : Int) : Option (((List Int) × Int) ⊕ (((List Int)) ⊕ (((List Int) × (List Int)) ⊕ (((List Int) × (List Int) × Int) ⊕ (((List Int) × (List Int)) ⊕ ((List Int))))))) :=
 if D = 0 then
 dn (.inl C)
 else
 (Q26.f D).bind fun q =>
 if (0 : Int) ≤ q ∧ q < ((List.replicate (I.length : Int).toNat (0 : Int)).length : Int) then
 nx ((st C q (if gt C q < gt (st E p (IntKind.i64.wrap (gt u p + (Int.tmod (IntKind.i64.wrap (gt u p + G)) 2)))) p then gt (st E p (IntKind.i64.wrap (gt u p + (Int.tmod (IntKind.i64.wrap (gt u p + G)) 2)))) p else gt C q)), band .u64 D (IntKind.u64.wrap (D - 1)))
 else none
noncomputable def Q27.l1 (p : (List Int)) (q u : List Int) (C D : Int) (E : List Int) (G : Int) : Option (((List Int)) ⊕ (((List Int) × (List Int)) ⊕ (((List Int) × (List Int) × Int) ⊕ (((List Int) × (List Int)) ⊕ ((List Int)))))) := iter (fun t_ : (List Int) × Int => Q27.l1b p q u C D t_.1 t_.2) (E, G)
noncomputable def Q27.l0b (a0 : List Q0) (q : (List Int)) (u C : List Int) (p : Int) : Option (((List Int) × (List Int) × Int) ⊕ (((List Int) × (List Int)) ⊕ ((List Int)))) :=
 if p < ((a0.take (q.length : Int).toNat).length : Int) then
 jn (
 if (0 : Int) ≤ p ∧ p < ((a0.take (q.length : Int).toNat).length : Int) then
 jn (
 if (gt (a0.take (q.length : Int).toNat) p).Kind = 10 then
 some (.inl false)
 else
 some (.inl (!(decide ((gt (a0.take (q.length : Int).toNat) p).Kind = 11))))) (fun (E : Bool) =>
 if E = true then
 some (.inl (u, C))
 else
 jn (
 if (gt (a0.take (q.length : Int).toNat) p).Kind = 10 then
 some (.inl 1)
 else
 some (.inl 0)) (fun (D : Int) =>
 if (0 : Int) ≤ p ∧ p < ((List.replicate (q.length : Int).toNat (0 : Int)).length : Int) then
 if (0 : Int) ≤ p ∧ p < (q.length : Int) then
 jn (Q27.l1 q u C p D u (gt q p)) (fun (G : List Int) =>
 some (.inl (G, (st C p (IntKind.i64.wrap (gt u p + (Int.tmod (IntKind.i64.wrap (gt u p + D)) 2)))))))
 else none
 else none))
 else none) (fun (s_ : (List Int) × (List Int)) =>
 nx (s_.1, s_.2, IntKind.i64.wrap (p + 1)))
 else
 dn (.inl (u, C))
noncomputable def Q27.l0 (a0 : List Q0) (p : (List Int)) (q u : List Int) (C : Int) : Option (((List Int) × (List Int)) ⊕ ((List Int))) := iter (fun t_ : (List Int) × (List Int) × Int => Q27.l0b a0 p t_.1 t_.2.1 t_.2.2) (q, u, C)
noncomputable def Q27.f (a0 : List Q0) : Option (List Int) :=
 (Q29.f a0).bind fun p =>
 if (0 : Int) ≤ (p.length : Int) ∧ (8 : Int) * (p.length : Int) ≤ 281474976710656 then
 if (0 : Int) ≤ (p.length : Int) ∧ (p.length : Int) ≤ (a0.length : Int) then
 jn (Q27.l0 a0 p (List.replicate (p.length : Int).toNat (0 : Int)) (List.replicate (p.length : Int).toNat (0 : Int)) 0) (fun (s_ : (List Int) × (List Int)) =>
 some s_.2)
 else none
 else none
theorem Q27.callee : Callee Tryz.prog 48 := ⟨_, Tryz.func48, by kernel_rfl, by kernel_rfl⟩
theorem Q27.spec {a0 : List Q0} (hr0 : RdS Q0.fl.rep R.heap A0 a0) (hn0 : a0.length = n0) (hc0 : n0 ≤ c0) (hg0 : RdS (Fl.int .u8).rep R.heap (some ⟨0, 0, none⟩) Tryz.gtab0) {r : (List Int)} (j : Q27.f a0 = some r) :
 Spec Tryz.prog 48 [.slice A0 n0 c0] R (Fr) (fun v l' => ∃ (b5 : Nat) (d0 : Option Addr) (d1 : Nat), v = .slice d0 b5 d1 ∧ row (Fl.int .i64) 3 d0 b5 d1 r :: Fr = l' ∧ r.length = b5) := by
 subst hn0; refine Spec.of Tryz.func48 rfl rfl ?_; unfold Q27.f at j; have j := brun j; refine sR 1 rfl (nT (sR 1 rfl ?_)); obtain ⟨p, d8, j⟩ := bbind j; refine At.call rfl Q29.callee rfl rfl rfl (Q29.spec hr0 rfl hc0 d8) ?_; rintro _ _ ⟨g5, a1, a2, rfl, rfl, rfl⟩; refine At.run 1 rfl (nT (sR 2 rfl ?_)); obtain ⟨b2, j⟩ := bnone j; refine At.make (F := (Fl.int .i64)) (z := 0) rfl rfl rfl rfl rfl rfl rfl rfl rfl rfl b2.1 b2.2 (by decide) rfl (fun G I => ?_); refine At.run 1 rfl (nT (sR 2 rfl ?_)); refine At.make (F := (Fl.int .i64)) (z := 0) rfl rfl rfl rfl rfl rfl rfl rfl rfl rfl b2.1 b2.2 (by decide) rfl (fun J U => ?_); refine At.run 1 rfl (nT (At.seq (sR 3 rfl ?_))); obtain ⟨d2, j⟩ := bnone j; have g6 : (a0.take (p.length : Int).toNat).length ≤ c0 := Nat.le_trans (List.length_take_le' _ _) (by have h1_ := (show a0.length = a0.length from rfl); have h2_ := hc0; omega); refine At.y (Y.slTo rfl rfl rfl rfl rfl rfl hc0 d2.1 d2.2) rfl rfl rfl ?_; refine At.run 2 rfl (nT ?_); refine At.block ?_; obtain ⟨d9, e1, g7, j⟩ := bjoin j; obtain ⟨a4, b6, e2⟩ := bsome j; clear j; unfold Q27.l0 at b6; obtain ⟨b7, a6⟩ := Q15.1 b6; clear b6; let T4 : HProp := row (Fl.int .u64) 28 a1 p.length a2 p; refine At.loopJ (X := (List Int) × (List Int) × Int) (Y := (List Int) × (List Int)) (e0 := 0) (fun s_ => [(3, .slice a1 p.length a2), (4, .slice G ((List.replicate (p.length : Int).toNat (0 : Int)).length) I), (5, .slice J ((List.replicate (p.length : Int).toNat (0 : Int)).length) U), (22, .slice A0 ((a0.take (p.length : Int).toNat).length) c0), (23, i6 ((a0.take (p.length : Int).toNat).length : Int)), (24, i6 s_.2.2)]) (fun s_ => row (Fl.int .i64) 3 J ((List.replicate (p.length : Int).toNat (0 : Int)).length) U s_.1 :: row (Fl.int .i64) 3 G ((List.replicate (p.length : Int).toNat (0 : Int)).length) I s_.2.1 :: T4 :: Fr) (fun m_ => fun s_ => iterN (fun t_ : (List Int) × (List Int) × Int => Q27.l0b a0 p t_.1 t_.2.1 t_.2.2) m_ (s_.1, s_.2.1, s_.2.2) = some a4) b7 ((List.replicate (p.length : Int).toNat (0 : Int)), (List.replicate (p.length : Int).toNat (0 : Int)), 0) a6 (fun s_ => [(4, .slice G ((List.replicate (p.length : Int).toNat (0 : Int)).length) I)]) (fun s_ => row (Fl.int .i64) 3 J ((List.replicate (p.length : Int).toNat (0 : Int)).length) U s_.1 :: row (Fl.int .i64) 3 G ((List.replicate (p.length : Int).toNat (0 : Int)).length) I s_.2 :: T4 :: Fr) (fun s_ => d9 (.inl (s_.1, s_.2)) = some r) (fun a w e hs => ⟨e.sub ⟨rfl, rfl, rfl, rfl, rfl, rfl, trivial⟩, (by exact hs)⟩) ?_ (fun e3 => ?_)
 ·rintro ⟨g8, g9⟩ j; have j := (e1 _).symm.trans j
  ·refine At.ibx ?_; refine At.thn (sR 2 rfl (nT (At.ret ?_))); refine At.rowLen (.s .z) fun e4 => ?_; refine At.drop .z (At.drop (.s .z) ?_); cases bret j; exact At.res (.inl rfl) rfl rfl ⟨(List.replicate (p.length : Int).toNat (0 : Int)).length, G, I, rfl, rfl, e4⟩
 ·clear a6 b7; rintro b7 ⟨C, V, u⟩ a6; obtain ⟨e5, f_, e6, hf_, j⟩ := bit a6; clear a6; have j : (Q27.l0b a0 p C V u).bind _ = some a4 := j; unfold Q27.l0b at j
  ·refine sR 1 rfl (nT (At.seq ?_)); rcases bite j with ⟨b8, j⟩ | ⟨b8, j⟩
   ··refine At.condT rfl (decide_eq_true b8) ?_
     refine At.skip (At.thn (At.seq ?_)); obtain ⟨e7, e8, h0, j⟩ := bjoin j; refine At.join (X := (List Int) × (List Int)) (fun s_ => [(3, .slice a1 p.length a2), (4, .slice G ((List.replicate (p.length : Int).toNat (0 : Int)).length) I), (5, .slice J ((List.replicate (p.length : Int).toNat (0 : Int)).length) U), (22, .slice A0 ((a0.take (p.length : Int).toNat).length) c0), (23, i6 ((a0.take (p.length : Int).toNat).length : Int)), (24, i6 u)]) (fun s_ => row (Fl.int .i64) 3 J ((List.replicate (p.length : Int).toNat (0 : Int)).length) U s_.1 :: row (Fl.int .i64) 3 G ((List.replicate (p.length : Int).toNat (0 : Int)).length) I s_.2 :: T4 :: Fr) (fun s_ => e7 (.inl (s_.1, s_.2)) = some a4) ?_ (fun d3 => ?_)
     ·rintro ⟨e9, f0⟩ j; have j := (e8 _).symm.trans j
      ·refine At.region (At.run 2 rfl (At.nil ?_)); have j := bnx hf_ j; exact fun a w e hs => ⟨e5, (e9, f0, IntKind.i64.wrap (u + 1)), e6, j, e.sub ⟨rfl, rfl, rfl, rfl, rfl, rfl, trivial⟩, hs⟩
     ··refine At.block ?_
       refine sR 1 rfl ?_; obtain ⟨b3, j⟩ := bnone j; refine At.y (Y.ixRd (RdS.take hr0 _) rfl rfl rfl rfl rfl rfl rfl b3.1 b3.2) rfl rfl rfl (At.y (Y.ldFl (RdS.take hr0 _) rfl (q := 0) rfl rfl b3.1 b3.2 rfl rfl rfl) rfl rfl rfl ?_); refine At.alloc rfl rfl rfl (fun d4 => ?_); refine At.run 1 rfl ?_; refine At.store rfl rfl rfl rfl .z rfl rfl rfl (.c (.c (.c (.c (.c .n))))) ?_; refine nT (At.seq (sR 1 rfl (At.y (Y.load rfl rfl .z rfl rfl rfl) rfl rfl rfl (At.run 2 rfl ?_)))); obtain ⟨f4, f5, h1, j⟩ := bjoin j; let T5 : HProp := pc d4 [i6 ((gt (a0.take (p.length : Int).toNat) u).Kind), i6 ((gt (a0.take (p.length : Int).toNat) u).A), i6 ((gt (a0.take (p.length : Int).toNat) u).B), .string ⟨((gt (a0.take (p.length : Int).toNat) u).Name).toArray⟩, i6 ((gt (a0.take (p.length : Int).toNat) u).At)] 33; let T6 : HProp := row (Fl.int .i64) 3 J ((List.replicate (p.length : Int).toNat (0 : Int)).length) U C; let T7 : HProp := row (Fl.int .i64) 3 G ((List.replicate (p.length : Int).toNat (0 : Int)).length) I V; refine At.joinO 4 (X := Bool) (fun a7 => [(3, .slice a1 p.length a2), (4, .slice G ((List.replicate (p.length : Int).toNat (0 : Int)).length) I), (5, .slice J ((List.replicate (p.length : Int).toNat (0 : Int)).length) U), (6, i6 u), (7, bp d4), (22, .slice A0 ((a0.take (p.length : Int).toNat).length) c0), (23, i6 ((a0.take (p.length : Int).toNat).length : Int)), (24, i6 u), (36, .bool a7)]) (fun a7 => T5 :: T6 :: T7 :: T4 :: Fr) (fun a7 => f4 (.inl a7) = some a4) ?_ (fun d5 => ?_)
       ·rintro a7 j; have j := (f5 _).symm.trans j
        ·refine nT ?_; rcases bite j with ⟨b9, j⟩ | ⟨b9, j⟩
         ··refine At.condT rfl b9 ?_
           refine At.exit ?_; refine At.the ?_; refine At.ibx ?_; refine At.thn (At.drop .z ?_); exact fun a w e hs => d3 (C, V) j a w (e.sub ⟨rfl, rfl, rfl, rfl, rfl, rfl, trivial⟩) hs
         ··refine At.condF rfl (bn b9) ?_
           refine At.skip (At.thn (sR 1 rfl (nT (At.seq ?_)))); refine sR 1 rfl (At.y (Y.load rfl rfl .z rfl rfl rfl) rfl rfl rfl (At.run 1 rfl (nT ?_))); obtain ⟨f6, f7, h2, j⟩ := bjoin j; refine At.join (X := Int) (fun E => [(3, .slice a1 p.length a2), (4, .slice G ((List.replicate (p.length : Int).toNat (0 : Int)).length) I), (5, .slice J ((List.replicate (p.length : Int).toNat (0 : Int)).length) U), (6, i6 u), (8, i6 E), (22, .slice A0 ((a0.take (p.length : Int).toNat).length) c0), (23, i6 ((a0.take (p.length : Int).toNat).length : Int)), (24, i6 u)]) (fun E => T5 :: T6 :: T7 :: T4 :: Fr) (fun E => f6 (.inl E) = some a4) ?_ (fun d6 => ?_)
           ·rintro E j; have j := (f7 _).symm.trans j
            ·refine At.seq ?_; refine At.still 15 (by kernel_rfl) ?_; refine At.Still.run 4 rfl ?_; obtain ⟨D, j⟩ := bnone j; refine At.Still.y (Y.ix (.s .z) rfl rfl rfl rfl rfl rfl D.1 D.2) rfl rfl rfl ?_; refine At.Still.y (Y.ld (.s .z) (q := 0) rfl rfl D.1 D.2 rfl rfl rfl) rfl rfl rfl ?_; refine At.Still.run 2 rfl ?_; refine At.Still.y (Y.ix (.s .z) rfl rfl rfl rfl rfl rfl D.1 D.2) rfl rfl rfl ?_; refine At.Still.y (Y.ld (.s .z) (q := 0) rfl rfl D.1 D.2 rfl rfl rfl) rfl rfl rfl ?_; refine At.Still.run 2 rfl ?_; refine At.Still.y (Y.rem rfl rfl (by decide)) rfl rfl rfl ?_; refine At.Still.run 1 rfl ?_; refine At.Still.y (Y.ix (.s (.s .z)) rfl rfl rfl rfl rfl rfl D.1 D.2) rfl rfl rfl ?_; refine At.Still.nil ?_; refine At.st rfl (.s (.s .z)) (q := 0) (z := (IntKind.i64.wrap (gt C u + (Int.tmod (IntKind.i64.wrap (gt C u + E)) 2)))) rfl rfl rfl D.1 D.2 rfl rfl (.c .n) ?_; refine nT (sR 2 rfl ?_); obtain ⟨b4, j⟩ := bnone j; refine At.y (Y.ix (.s (.s (.s .z))) rfl rfl rfl rfl rfl rfl b4.1 b4.2) rfl rfl rfl (At.y (Y.ld (.s (.s (.s .z))) (q := 0) rfl rfl b4.1 b4.2 rfl rfl rfl) rfl rfl rfl (At.run 1 rfl (nT ?_))); refine At.block ?_; obtain ⟨f8, f9, h3, j⟩ := bjoin j; obtain ⟨d7, c4, g0⟩ := bsome j; clear j; unfold Q27.l1 at c4; obtain ⟨c5, a8⟩ := Q15.1 c4; clear c4; let T8 : HProp := row (Fl.int .i64) 3 G ((List.replicate (p.length : Int).toNat (0 : Int)).length) I (st V u (IntKind.i64.wrap (gt C u + (Int.tmod (IntKind.i64.wrap (gt C u + E)) 2)))); refine At.loopJ (X := (List Int) × Int) (Y := (List Int)) (e0 := 2) (fun s_ => [(3, .slice a1 p.length a2), (4, .slice G ((List.replicate (p.length : Int).toNat (0 : Int)).length) I), (5, .slice J ((List.replicate (p.length : Int).toNat (0 : Int)).length) U), (6, i6 u), (9, .int .u64 s_.2), (22, .slice A0 ((a0.take (p.length : Int).toNat).length) c0), (23, i6 ((a0.take (p.length : Int).toNat).length : Int)), (24, i6 u)]) (fun s_ => T8 :: T5 :: row (Fl.int .i64) 3 J ((List.replicate (p.length : Int).toNat (0 : Int)).length) U s_.1 :: T4 :: Fr) (fun m_ => fun s_ => iterN (fun t_ : (List Int) × Int => Q27.l1b p C V u E t_.1 t_.2) m_ (s_.1, s_.2) = some d7) c5 (C, gt p u) a8 (fun a5 => [(3, .slice a1 p.length a2), (4, .slice G ((List.replicate (p.length : Int).toNat (0 : Int)).length) I), (5, .slice J ((List.replicate (p.length : Int).toNat (0 : Int)).length) U), (22, .slice A0 ((a0.take (p.length : Int).toNat).length) c0), (23, i6 ((a0.take (p.length : Int).toNat).length : Int)), (24, i6 u)]) (fun a5 => T8 :: T5 :: row (Fl.int .i64) 3 J ((List.replicate (p.length : Int).toNat (0 : Int)).length) U a5 :: T4 :: Fr) (fun a5 => f8 (.inl a5) = some a4) (fun a w e hs => ⟨e.sub ⟨rfl, rfl, rfl, rfl, rfl, rfl, rfl, rfl, trivial⟩, (by exact hs)⟩) ?_ (fun g1 => ?_)
             ·rintro a5 j; have j := (f9 _).symm.trans j
              ·refine At.ibx ?_; refine At.ibn ?_; refine At.thn (At.drop (.s .z) (At.f2 (At.f1 (At.f2 ?_)))); exact fun a w e hs => d3 (a5, (st V u (IntKind.i64.wrap (gt C u + (Int.tmod (IntKind.i64.wrap (gt C u + E)) 2))))) j a w (e.sub ⟨rfl, rfl, rfl, rfl, rfl, rfl, trivial⟩) hs
             ·clear a8 c5; rintro c5 ⟨a3, c6⟩ a8; obtain ⟨g2, f_, g3, hf_, j⟩ := bit a8; clear a8; have j : (Q27.l1b p C V u E a3 c6).bind _ = some d7 := j; unfold Q27.l1b at j
              ·refine At.seq (sR 2 rfl (nT ?_)); rcases bite j with ⟨c7, j⟩ | ⟨c7, j⟩
               ··refine At.condF rfl (nf (decide_eq_true c7)) ?_
                 refine At.exit ?_; refine At.the ?_; refine At.the ?_; exact fun a w e hs => g1 a3 (bdn j g0) a w (e.sub ⟨rfl, rfl, rfl, rfl, rfl, rfl, trivial⟩) hs
               ··refine At.condT rfl (nt (decide_eq_false c7)) ?_
                 refine At.skip (At.thn (At.seq ?_)); refine At.block ?_; refine sR 1 rfl ?_; obtain ⟨a9, g4, j⟩ := bbind j; refine At.call rfl Q26.callee rfl rfl rfl (Q26.spec hg0 g4) ?_; rintro _ _ ⟨rfl, rfl⟩; refine At.run 1 rfl (nT ?_); refine At.still 12 (by kernel_rfl) ?_; refine At.Still.run 4 rfl ?_; obtain ⟨Z, j⟩ := bnone j; refine At.Still.y (Y.ix (.s (.s .z)) rfl rfl rfl rfl rfl rfl Z.1 Z.2) rfl rfl rfl ?_; refine At.Still.y (Y.ld (.s (.s .z)) (q := 0) rfl rfl Z.1 Z.2 rfl rfl rfl) rfl rfl rfl ?_; refine At.Still.run 2 rfl ?_; refine At.Still.y (Y.ix .z rfl rfl rfl rfl rfl rfl D.1 D.2) rfl rfl rfl ?_; refine At.Still.y (Y.ld .z (q := 0) rfl rfl D.1 D.2 rfl rfl rfl) rfl rfl rfl ?_; refine At.Still.run 1 rfl ?_; refine At.Still.y (Y.ix (.s (.s .z)) rfl rfl rfl rfl rfl rfl Z.1 Z.2) rfl rfl rfl ?_; refine At.Still.nil ?_; refine At.st rfl (.s (.s .z)) (q := 0) (z := (if gt a3 a9 < gt (st V u (IntKind.i64.wrap (gt C u + (Int.tmod (IntKind.i64.wrap (gt C u + E)) 2)))) u then gt (st V u (IntKind.i64.wrap (gt C u + (Int.tmod (IntKind.i64.wrap (gt C u + E)) 2)))) u else gt a3 a9)) rfl rfl rfl Z.1 Z.2 rfl rfl (.c .n) ?_; refine At.nil ?_; refine At.ibn ?_; refine At.thn (At.region (At.run 5 rfl (At.nil (At.f3 (At.f1 (At.f3 (At.f3 ?_))))))); have j := bnx hf_ j; exact fun a w e hs => ⟨g2, ((st a3 a9 (if gt a3 a9 < gt (st V u (IntKind.i64.wrap (gt C u + (Int.tmod (IntKind.i64.wrap (gt C u + E)) 2)))) u then gt (st V u (IntKind.i64.wrap (gt C u + (Int.tmod (IntKind.i64.wrap (gt C u + E)) 2)))) u else gt a3 a9)), band .u64 c6 (IntKind.u64.wrap (c6 - 1))), g3, j, e.sub ⟨rfl, rfl, rfl, rfl, rfl, rfl, rfl, rfl, trivial⟩, hs⟩
           ··rcases bite j with ⟨c8, j⟩ | ⟨c8, j⟩
             ··refine At.condT rfl (decide_eq_true c8) ?_
               refine At.region (At.run 1 rfl (nT ?_)); exact fun a w e hs => d6 1 j a w (e.sub ⟨rfl, rfl, rfl, rfl, rfl, rfl, rfl, rfl, trivial⟩) hs
             ··refine At.condF rfl (decide_eq_false c8) ?_
               refine At.skip (At.thn ?_); exact fun a w e hs => d6 0 j a w (e.sub ⟨rfl, rfl, rfl, rfl, rfl, rfl, rfl, rfl, trivial⟩) hs
       ··rcases bite j with ⟨c9, j⟩ | ⟨c9, j⟩
         ··refine At.know (t := 32) rfl (nf (decide_eq_true c9)) ?_
           refine At.run 4 rfl ?_; exact At.of (d5 false j) ⟨rfl, rfl, rfl, rfl, rfl, rfl, rfl, rfl, rfl, trivial⟩
         ··refine At.know (t := 32) rfl (nt (decide_eq_false c9)) ?_
           refine At.run 1 rfl (At.y (Y.load rfl rfl .z rfl rfl rfl) rfl rfl rfl (At.run 2 rfl ?_)); exact At.of (d5 (!(decide ((gt (a0.take (p.length : Int).toNat) u).Kind = 11))) j) ⟨rfl, rfl, rfl, rfl, rfl, rfl, rfl, rfl, rfl, trivial⟩
   ··refine At.condF rfl (decide_eq_false b8) ?_
     refine At.exit ?_; refine At.the ?_; refine At.the ?_; exact fun a w e hs => e3 (C, V) (bdn j e2) a w (e.sub ⟨rfl, trivial⟩) hs

noncomputable def Q79.f (D : Int) (E : List (Bs × Q4)) (G : List (Q9 × Q4)) (I : List Q0) (J U : List Int) (C : List (Q2 × Int)) (p : List Q2) (V X : List Int) (Z : List (List Int)) (q u : Int) : Option ((List (Q2 × Int)) × (List Q2) × Int) :=
 jn (
 if (mget C (⟨q, u⟩ : Q2)).isSome = true then
 some (.inl (C, p, ((mget C (⟨q, u⟩ : Q2)).getD (0 : Int))))
 else
 if (p.length + ([(⟨q, u⟩ : Q2)] : List Q2).length) * 16 ≤ 140737488355328 then
 some (.inl ((mset C (⟨q, u⟩ : Q2) (p.length : Int)), (p ++ ([(⟨q, u⟩ : Q2)] : List Q2)), (p.length : Int)))
 else none) (fun (s_ : (List (Q2 × Int)) × (List Q2) × Int) =>
 some (s_.1, s_.2.1, s_.2.2))
theorem Q79.callee : Callee Tryz.prog 49 := ⟨_, Tryz.func49, by kernel_rfl, by kernel_rfl⟩
theorem Q79.spec {a0 p q : Int} {U : List (Bs × Q4)} {V : List (Q9 × Q4)} {Z : List Q0} {C D E G : List Int} {J : List (Q2 × Int)} {u : List Q2} {I : List (List Int)} (hr0_1 : RdS Q0.fl.rep R.heap A0_1 Z) (hn0_1 : Z.length = n0_1) (hc0_1 : n0_1 ≤ c0_1) (hn0_2 : C.length = n0_2) (hn0_3 : D.length = n0_3) (hn0_5 : u.length = n0_5) (hn0_6 : E.length = n0_6) (hn0_7 : G.length = n0_7) (hn0_8 : I.length = n0_8) {r : (List (Q2 × Int)) × (List Q2) × Int} (j : Q79.f a0 U V Z C D J u E G I p q = some r) :
 Spec Tryz.prog 49 [bp b0, .agg #[i6 p, i6 q]] R (pc b0 [bp b0_0, .slice A0_1 n0_1 c0_1, .slice A0_2 n0_2 c0_2, .slice A0_3 n0_3 c0_3, .map (some b0_4), .slice A0_5 n0_5 c0_5, .slice A0_6 n0_6 c0_6, .slice A0_7 n0_7 c0_7, .slice A0_8 n0_8 c0_8] 101 :: pc b0_0 [i6 a0, .map (some b0_0_1), .map (some b0_0_2)] 82 :: mapo Fl.bs.ov Q4.fl.av b0_0_1 U :: mapo Q9.fl.av Q4.fl.av b0_0_2 V :: row (Fl.int .u64) 28 A0_2 n0_2 c0_2 C :: row (Fl.int .i64) 3 A0_3 n0_3 c0_3 D :: mapo Q2.fl.av (Fl.int .i64).ov b0_4 J :: row Q2.fl 65 A0_5 n0_5 c0_5 u :: row (Fl.int .i64) 3 A0_6 n0_6 c0_6 E :: row (Fl.int .i64) 3 A0_7 n0_7 c0_7 G :: rows (Fl.int .i64) 3 39 A0_8 n0_8 c0_8 I :: Fr) (fun v l' => ∃ (a1 : Nat) (a4 : Option Addr) (a5 : Nat), v = i6 r.2.2 ∧ pc b0 [bp b0_0, .slice A0_1 n0_1 c0_1, .slice A0_2 n0_2 c0_2, .slice A0_3 n0_3 c0_3, .map (some b0_4), .slice a4 a1 a5, .slice A0_6 n0_6 c0_6, .slice A0_7 n0_7 c0_7, .slice A0_8 n0_8 c0_8] 101 :: pc b0_0 [i6 a0, .map (some b0_0_1), .map (some b0_0_2)] 82 :: mapo Fl.bs.ov Q4.fl.av b0_0_1 U :: mapo Q9.fl.av Q4.fl.av b0_0_2 V :: row (Fl.int .u64) 28 A0_2 n0_2 c0_2 C :: row (Fl.int .i64) 3 A0_3 n0_3 c0_3 D :: mapo Q2.fl.av (Fl.int .i64).ov b0_4 r.1 :: row Q2.fl 65 a4 a1 a5 r.2.1 :: row (Fl.int .i64) 3 A0_6 n0_6 c0_6 E :: row (Fl.int .i64) 3 A0_7 n0_7 c0_7 G :: rows (Fl.int .i64) 3 39 A0_8 n0_8 c0_8 I :: Fr = l' ∧ r.2.1.length = a1) := by
 subst hn0_1; subst hn0_2; subst hn0_3; subst hn0_5; subst hn0_6; subst hn0_7; subst hn0_8; refine Spec.of Tryz.func49 rfl rfl ?_; unfold Q79.f at j; have j := brun j; refine At.seq (At.region ?_); refine At.box rfl rfl (cs := [i6 p, i6 q]) rfl rfl (fun a2 => ?_); refine At.run 1 rfl (nT (At.seq ?_)); refine At.quiet (by kernel_rfl) ?_; refine At.Quiet.run 3 rfl ?_; refine At.Quiet.y (Y.load rfl rfl (.s .z) rfl rfl rfl) rfl rfl rfl ?_; refine At.Quiet.y (Y.load rfl rfl .z rfl rfl rfl) rfl rfl rfl ?_; refine At.Quiet.y (Y.lookupOk (k := (⟨p, q⟩ : Q2)) (z := (0 : Int)) (.s (.s (.s (.s (.s (.s (.s .z))))))) rfl rfl Q2.keyok (by kernel_rfl) rfl rfl rfl) rfl rfl rfl ?_; refine At.Quiet.run 5 rfl (At.Quiet.nil (At.thn (At.seq (sR 2 rfl (At.nil ?_))))); refine At.thn ?_; obtain ⟨b2, b3, c9, j⟩ := bjoin j; let T9 : HProp := pc b0_0 [i6 a0, .map (some b0_0_1), .map (some b0_0_2)] 82; refine At.join (X := (List (Q2 × Int)) × (List Q2) × Int × Nat × (Option Addr) × Nat) (fun s_ => [(5, i6 s_.2.2.1)]) (fun s_ => pc a2 [i6 p, i6 q] 65 :: pc b0 [bp b0_0, .slice A0_1 Z.length c0_1, .slice A0_2 C.length c0_2, .slice A0_3 D.length c0_3, .map (some b0_4), .slice s_.2.2.2.2.1 s_.2.2.2.1 s_.2.2.2.2.2, .slice A0_6 E.length c0_6, .slice A0_7 G.length c0_7, .slice A0_8 I.length c0_8] 101 :: T9 :: mapo Fl.bs.ov Q4.fl.av b0_0_1 U :: mapo Q9.fl.av Q4.fl.av b0_0_2 V :: row (Fl.int .u64) 28 A0_2 C.length c0_2 C :: row (Fl.int .i64) 3 A0_3 D.length c0_3 D :: mapo Q2.fl.av (Fl.int .i64).ov b0_4 s_.1 :: row Q2.fl 65 s_.2.2.2.2.1 s_.2.2.2.1 s_.2.2.2.2.2 s_.2.1 :: row (Fl.int .i64) 3 A0_6 E.length c0_6 E :: row (Fl.int .i64) 3 A0_7 G.length c0_7 G :: rows (Fl.int .i64) 3 39 A0_8 I.length c0_8 I :: Fr) (fun s_ => b2 (.inl (s_.1, s_.2.1, s_.2.2.1)) = some r ∧ s_.2.1.length = s_.2.2.2.1) ?_ (fun a6 => ?_)
 ·rintro ⟨d0, a7, d1, b4, b5, b6⟩ ⟨j, b7⟩; obtain rfl : a7.length = b4 := b7; have j := (b3 _).symm.trans j
  ·refine sR 2 rfl (nT (At.ret (At.drop .z ?_))); obtain rfl := (bret j).symm; exact At.res (.inl rfl) rfl rfl ⟨a7.length, b5, b6, rfl, rfl, rfl⟩
 ··rcases bite j with ⟨a3, j⟩ | ⟨a3, j⟩
   ··refine At.condF rfl (nf a3) ?_
     refine At.skip (At.thn ?_); exact fun a w e hs => a6 (J, u, ((mget J (⟨p, q⟩ : Q2)).getD (0 : Int)), u.length, A0_5, c0_5) ⟨j, rfl⟩ a w (e.sub ⟨rfl, trivial⟩) hs
   ··refine At.condT rfl (nt (bn a3)) ?_
     refine sR 3 rfl (At.y (Y.load rfl rfl (.s .z) rfl rfl rfl) rfl rfl rfl (At.run 2 rfl (nT (At.seq ?_)))); refine At.still 6 (by kernel_rfl) ?_; refine At.Still.run 3 rfl ?_; refine At.Still.y (Y.load rfl rfl (.s .z) rfl rfl rfl) rfl rfl rfl ?_; refine At.Still.y (Y.load rfl rfl .z rfl rfl rfl) rfl rfl rfl ?_; refine At.Still.run 1 rfl ?_; refine At.Still.nil ?_; refine At.mapUpdate (k := (⟨p, q⟩ : Q2)) (v := (u.length : Int)) rfl (.s (.s (.s (.s (.s (.s (.s .z))))))) rfl rfl Q2.keyok rfl rfl rfl rfl rfl ?_; refine nT ?_; refine At.held [mapo Q2.fl.av (Fl.int .i64).ov b0_4 (mset J (⟨p, q⟩ : Q2) (u.length : Int)), pc a2 [i6 p, i6 q] 65, T9, mapo Fl.bs.ov Q4.fl.av b0_0_1 U, mapo Q9.fl.av Q4.fl.av b0_0_2 V, row (Fl.int .u64) 28 A0_2 C.length c0_2 C, row (Fl.int .i64) 3 A0_3 D.length c0_3 D, row (Fl.int .i64) 3 A0_6 E.length c0_6 E, row (Fl.int .i64) 3 A0_7 G.length c0_7 G, rows (Fl.int .i64) 3 39 A0_8 I.length c0_8 I] 11 rfl ?_; refine At.H.pw 0 rfl rfl rfl rfl rfl (.c .z (.c .z (.c (.s .z) (.c (.s .z) (.c (.s .z) (.c (.s .z) (.c (.s .z) (.c (.s (.s .z)) (.c (.s (.s .z)) (.c (.s (.s .z)) .n)))))))))) ?_; refine At.H.pw 1 rfl rfl rfl rfl rfl (.c .z (.c .z (.c (.s .z) (.c (.s .z) (.c (.s .z) (.c (.s .z) (.c (.s .z) (.c (.s (.s .z)) (.c (.s (.s .z)) (.c (.s (.s .z)) .n)))))))))) ?_; refine At.H.pw 2 rfl rfl rfl rfl rfl (.c .z (.c .z (.c (.s .z) (.c (.s .z) (.c (.s .z) (.c (.s .z) (.c (.s .z) (.c (.s (.s .z)) (.c (.s (.s .z)) (.c (.s (.s .z)) .n)))))))))) ?_; refine At.H.pw 3 rfl rfl rfl rfl rfl (.c .z (.c .z (.c (.s .z) (.c (.s .z) (.c (.s .z) (.c (.s .z) (.c (.s .z) (.c (.s (.s .z)) (.c (.s (.s .z)) (.c (.s (.s .z)) .n)))))))))) ?_; refine At.H.tw 5 rfl (Y.load rfl rfl (.s .z) rfl rfl rfl) rfl rfl rfl (.c .z (.c .z (.c (.s .z) (.c (.s .z) (.c (.s .z) (.c (.s .z) (.c (.s .z) (.c (.s (.s .z)) (.c (.s (.s .z)) (.c (.s (.s .z)) .n)))))))))) ?_; obtain ⟨a8, j⟩ := bnone j; let b8 : HProp := mapo Q2.fl.av (Fl.int .i64).ov b0_4 (mset J (⟨p, q⟩ : Q2) (u.length : Int)); refine At.H.joinK (X := (Option Addr) × Nat) (fun s_ => [(5, i6 (u.length : Int))]) (fun s_ => pc b0 [bp b0_0, .slice A0_1 Z.length c0_1, .slice A0_2 C.length c0_2, .slice A0_3 D.length c0_3, .map (some b0_4), .slice s_.1 ((u ++ ([(⟨p, q⟩ : Q2)] : List Q2)).length) s_.2, .slice A0_6 E.length c0_6, .slice A0_7 G.length c0_7, .slice A0_8 I.length c0_8] 101 :: row Q2.fl 65 s_.1 ((u ++ ([(⟨p, q⟩ : Q2)] : List Q2)).length) s_.2 (u ++ ([(⟨p, q⟩ : Q2)] : List Q2)) :: b8 :: pc a2 [i6 p, i6 q] 65 :: T9 :: mapo Fl.bs.ov Q4.fl.av b0_0_1 U :: mapo Q9.fl.av Q4.fl.av b0_0_2 V :: row (Fl.int .u64) 28 A0_2 C.length c0_2 C :: row (Fl.int .i64) 3 A0_3 D.length c0_3 D :: row (Fl.int .i64) 3 A0_6 E.length c0_6 E :: row (Fl.int .i64) 3 A0_7 G.length c0_7 G :: rows (Fl.int .i64) 3 39 A0_8 I.length c0_8 I :: Fr) (fun s_ => True) ?_ (fun a9 => ?_)
     ·rintro ⟨b9, c4⟩ -
      ·refine At.thn (At.f11 (At.f11 (At.f11 (At.f4 (At.f5 (At.f11 (At.f11 ?_))))))); refine At.f11 (At.f11 (At.f11 (At.f10 (At.f11 ?_)))); exact fun a w e hs => a6 ((mset J (⟨p, q⟩ : Q2) (u.length : Int)), (u ++ ([(⟨p, q⟩ : Q2)] : List Q2)), (u.length : Int), (u ++ ([(⟨p, q⟩ : Q2)] : List Q2)).length, b9, c4) ⟨j, rfl⟩ a w (e.sub ⟨rfl, trivial⟩) hs
     ·refine At.H.al [4, 6] (Q7 ?_ (Q7 ?_ Q8))
      ··refine At.HO.op rfl ?_
        refine At.y (Y.load rfl rfl (.s (.s .z)) rfl rfl rfl) rfl rfl rfl ?_; refine At.HO.back (.c .z (.c .z (.c (.s .z) (.c (.s .z) (.c (.s .z) (.c (.s .z) (.c (.s .z) (.c (.s (.s .z)) (.c (.s (.s .z)) (.c (.s (.s .z)) .n)))))))))) ?_; refine At.H.al [6] (Q7 ?_ Q8)
        ··refine At.HO.op rfl ?_
          refine At.lit rfl (xo := [.tmp 34]) (ys := ([(⟨p, q⟩ : Q2)] : List Q2)) Q2.fl rfl rfl rfl rfl rfl rfl rfl rfl rfl rfl rfl (fun d2 d3 => ?_); refine At.HO.back (.c (.s .z) (.c (.s .z) (.c (.s (.s .z)) (.c (.s (.s .z)) (.c (.s (.s .z)) (.c (.s (.s .z)) (.c (.s (.s .z)) (.c (.s (.s (.s .z))) (.c (.s (.s (.s .z))) (.c (.s (.s (.s .z))) .n)))))))))) ?_; refine At.H.al [7] (Q7 ?_ Q8)
          ··refine At.HO.op rfl ?_
            refine At.append rfl (.s (.s (.s (.s (.s (.s (.s (.s (.s .z))))))))) (Src.own .z (by simp)) rfl rfl rfl rfl rfl rfl rfl rfl a8 (by decide) rfl (fun c5 c6 => ?_); refine At.drop (.s .z) ?_; refine At.HO.back (.c (.s .z) (.c (.s .z) (.c (.s (.s .z)) (.c (.s (.s .z)) (.c (.s (.s .z)) (.c (.s (.s .z)) (.c (.s (.s .z)) (.c (.s (.s .z)) (.c (.s (.s .z)) (.c (.s (.s .z)) .n)))))))))) ?_; refine At.H.pw 8 rfl rfl rfl rfl rfl (.c (.s .z) (.c (.s .z) (.c (.s (.s .z)) (.c (.s (.s .z)) (.c (.s (.s .z)) (.c (.s (.s .z)) (.c (.s (.s .z)) (.c (.s (.s .z)) (.c (.s (.s .z)) (.c (.s (.s .z)) .n)))))))))) ?_; refine At.H.pw 9 rfl rfl rfl rfl rfl (.c (.s .z) (.c (.s .z) (.c (.s (.s .z)) (.c (.s (.s .z)) (.c (.s (.s .z)) (.c (.s (.s .z)) (.c (.s (.s .z)) (.c (.s (.s .z)) (.c (.s (.s .z)) (.c (.s (.s .z)) .n)))))))))) ?_; refine At.H.al [10] (Q7 ?_ Q8)
            ··refine At.HO.op rfl ?_
              refine At.store rfl rfl rfl rfl (.s (.s (.s .z))) rfl rfl rfl (.s (.s (.s (.s (.s (.c .n)))))) ?_; refine At.HO.back (.c (.s (.s .z)) (.c (.s (.s .z)) (.c (.s (.s .z)) (.c (.s (.s .z)) (.c (.s (.s .z)) (.c (.s (.s .z)) (.c (.s (.s .z)) (.c (.s (.s .z)) (.c (.s (.s .z)) (.c (.s (.s .z)) .n)))))))))) ?_; refine At.H.done (by kernel_rfl) ?_; exact At.of (a9 (c5, c6) trivial) ⟨rfl, trivial⟩
      ··refine At.HO.op rfl ?_
        refine At.lit rfl (xo := [.tmp 34]) (ys := ([(⟨p, q⟩ : Q2)] : List Q2)) Q2.fl rfl rfl rfl rfl rfl rfl rfl rfl rfl rfl rfl (fun d4 d5 => ?_); refine At.HO.back (.c (.s .z) (.c (.s .z) (.c (.s (.s .z)) (.c (.s (.s .z)) (.c (.s (.s .z)) (.c (.s (.s .z)) (.c (.s (.s .z)) (.c (.s (.s (.s .z))) (.c (.s (.s (.s .z))) (.c (.s (.s (.s .z))) .n)))))))))) ?_; refine At.H.al [4] (Q7 ?_ Q8)
        ··refine At.HO.op rfl ?_
          refine At.y (Y.load rfl rfl (.s (.s (.s .z))) rfl rfl rfl) rfl rfl rfl ?_; refine At.HO.back (.c (.s .z) (.c (.s .z) (.c (.s (.s .z)) (.c (.s (.s .z)) (.c (.s (.s .z)) (.c (.s (.s .z)) (.c (.s (.s .z)) (.c (.s (.s (.s .z))) (.c (.s (.s (.s .z))) (.c (.s (.s (.s .z))) .n)))))))))) ?_; refine At.H.al [7] (Q7 ?_ Q8)
          ··refine At.HO.op rfl ?_
            refine At.append rfl (.s (.s (.s (.s (.s (.s (.s (.s (.s .z))))))))) (Src.own .z (by simp)) rfl rfl rfl rfl rfl rfl rfl rfl a8 (by decide) rfl (fun c7 c8 => ?_); refine At.drop (.s .z) ?_; refine At.HO.back (.c (.s .z) (.c (.s .z) (.c (.s (.s .z)) (.c (.s (.s .z)) (.c (.s (.s .z)) (.c (.s (.s .z)) (.c (.s (.s .z)) (.c (.s (.s .z)) (.c (.s (.s .z)) (.c (.s (.s .z)) .n)))))))))) ?_; refine At.H.pw 8 rfl rfl rfl rfl rfl (.c (.s .z) (.c (.s .z) (.c (.s (.s .z)) (.c (.s (.s .z)) (.c (.s (.s .z)) (.c (.s (.s .z)) (.c (.s (.s .z)) (.c (.s (.s .z)) (.c (.s (.s .z)) (.c (.s (.s .z)) .n)))))))))) ?_; refine At.H.pw 9 rfl rfl rfl rfl rfl (.c (.s .z) (.c (.s .z) (.c (.s (.s .z)) (.c (.s (.s .z)) (.c (.s (.s .z)) (.c (.s (.s .z)) (.c (.s (.s .z)) (.c (.s (.s .z)) (.c (.s (.s .z)) (.c (.s (.s .z)) .n)))))))))) ?_; refine At.H.al [10] (Q7 ?_ Q8)
            ··refine At.HO.op rfl ?_
              refine At.store rfl rfl rfl rfl (.s (.s (.s .z))) rfl rfl rfl (.s (.s (.s (.s (.s (.c .n)))))) ?_; refine At.HO.back (.c (.s (.s .z)) (.c (.s (.s .z)) (.c (.s (.s .z)) (.c (.s (.s .z)) (.c (.s (.s .z)) (.c (.s (.s .z)) (.c (.s (.s .z)) (.c (.s (.s .z)) (.c (.s (.s .z)) (.c (.s (.s .z)) .n)))))))))) ?_; refine At.H.done (by kernel_rfl) ?_; exact At.of (a9 (c7, c8) trivial) ⟨rfl, trivial⟩

noncomputable def Q31.l1b (a0 : List Int) (q : Int) (u : List Int) (C p : Int) : Option (((List Int) × Int × Int) ⊕ (((List Int) × Int) ⊕ ((Int) ⊕ ((Unit) ⊕ ((List Int)))))) :=
 if p < ((a0.length - q.toNat : Nat) : Int) then
 jn (
 if (0 : Int) ≤ p ∧ p < ((a0.length - q.toNat : Nat) : Int) then
 if (0 : Int) ≤ IntKind.i64.wrap (p - 1) ∧ IntKind.i64.wrap (p - 1) < ((a0.length - q.toNat : Nat) : Int) then
 if gt u (q + p) = gt u (q + IntKind.i64.wrap (p - 1)) then
 some (.inl (u, C))
 else
 if (0 : Int) ≤ C ∧ C < (a0.length : Int) then
 some (.inl ((st u C (gt u (q + p))), IntKind.i64.wrap (C + 1)))
 else none
 else none
 else none) (fun (s_ : (List Int) × Int) =>
 nx (s_.1, s_.2, IntKind.i64.wrap (p + 1)))
 else
 dn (.inl (u, C))
noncomputable def Q31.l1 (a0 : List Int) (p : Int) (q : List Int) (u C : Int) : Option (((List Int) × Int) ⊕ ((Int) ⊕ ((Unit) ⊕ ((List Int))))) := iter (fun t_ : (List Int) × Int × Int => Q31.l1b a0 p t_.1 t_.2.1 t_.2.2) (q, u, C)
noncomputable def Q31.l0b (a0 : List Int) (p : Int) : Option ((Int) ⊕ ((Unit) ⊕ ((List Int)))) :=
 if p < (a0.length : Int) then
 if (0 : Int) ≤ p ∧ p < (a0.length : Int) then
 if (0 : Int) ≤ IntKind.i64.wrap (p - 1) ∧ IntKind.i64.wrap (p - 1) < (a0.length : Int) then
 if gt a0 p = gt a0 (IntKind.i64.wrap (p - 1)) then
 if (0 : Int) ≤ p ∧ p ≤ (a0.length : Int) then
 jn (Q31.l1 a0 p a0 p 1) (fun (s_ : (List Int) × Int) =>
 if (0 : Int) ≤ s_.2 ∧ s_.2 ≤ (a0.length : Int) then
 upL (some ((s_.1.take s_.2.toNat ++ List.replicate (a0.length - s_.2.toNat) (0 : Int)).take s_.2.toNat))
 else none)
 else none
 else
 nx (IntKind.i64.wrap (p + 1))
 else none
 else none
 else
 dn (.inl ())
noncomputable def Q31.l0 (a0 : List Int) (p : Int) : Option ((Unit) ⊕ ((List Int))) := iter (fun t_ : Int => Q31.l0b a0 t_) p
noncomputable def Q31.f (a0 : List Int) : Option (List Int) :=
 if (a0.length : Int) < 2 then
 some a0
 else
 jn (Q31.l0 a0 1) (fun (_ : Unit) =>
 some a0)
theorem Q31.callee : Callee Tryz.prog 142 := ⟨_, Tryz.func142, by kernel_rfl, by kernel_rfl⟩
theorem Q31.spec {a0 : List Int} (hn0 : a0.length = n0) {r : (List Int)} (j : Q31.f a0 = some r) :
 Spec Tryz.prog 142 [.slice A0 n0 c0] R (row (Fl.int .i64) 3 A0 n0 c0 a0 :: Fr) (fun v l' => ∃ (a2 : Nat), v = .slice A0 a2 c0 ∧ row (Fl.int .i64) 3 A0 a2 c0 r :: Fr = l' ∧ r.length = a2) := by
 subst hn0; refine Spec.of Tryz.func142 rfl rfl ?_; unfold Q31.f at j; have j := brun j; refine sR 1 rfl (nT (At.seq (At.seq (At.region ?_)))); refine At.run 3 rfl (nT ?_); rcases bite j with ⟨a3, j⟩ | ⟨a3, j⟩
 ··refine At.condT rfl (decide_eq_true a3) ?_
   refine sR 2 rfl (nT (At.ret (At.thr ?_))); obtain rfl := (bret j).symm; exact At.res (.inl rfl) rfl rfl ⟨a0.length, rfl, rfl, rfl⟩
 ··refine At.condF rfl (decide_eq_false a3) ?_
   refine At.skip (At.thn (At.seq (sR 1 rfl (nT ?_)))); refine At.block ?_; obtain ⟨c8, c9, d0, j⟩ := bjoin j; obtain ⟨a4, a5, b8⟩ := bsome j; clear j; unfold Q31.l0 at a5; obtain ⟨a6, I⟩ := Q15.1 a5; clear a5; let b9 : HProp := row (Fl.int .i64) 3 A0 a0.length c0 a0; refine At.loopJ (X := Int) (Y := Unit) (e0 := 0) (fun p => [(0, .slice A0 a0.length c0), (3, i6 p)]) (fun p => b9 :: Fr) (fun m_ => fun p => iterN (fun t_ : Int => Q31.l0b a0 t_) m_ p = some a4) a6 1 I (fun _ => [(0, .slice A0 a0.length c0)]) (fun _ => b9 :: Fr) (fun _ => c8 (.inl ()) = some r) (fun a w e hs => ⟨e.sub ⟨rfl, rfl, trivial⟩, (by exact hs)⟩) ?_ (fun d1 => ?_)
   ·rintro _ j; have j := (c9 _).symm.trans j
    ·refine At.ibx ?_; refine At.thn (sR 2 rfl (nT (At.ret ?_))); obtain rfl := (bret j).symm; exact At.res (.inl rfl) rfl rfl ⟨a0.length, rfl, rfl, rfl⟩
   ·clear I a6; rintro a6 p I; obtain ⟨d2, f_, d3, hf_, j⟩ := bit I; clear I; have j : (Q31.l0b a0 p).bind _ = some a4 := j; unfold Q31.l0b at j
    ·refine At.seq (sR 4 rfl (nT ?_)); rcases bite j with ⟨a7, j⟩ | ⟨a7, j⟩
     ··refine At.condT rfl (decide_eq_true a7) ?_
       refine At.skip (At.thn (At.seq ?_)); refine At.block ?_; refine At.seq ?_; refine At.quiet (by kernel_rfl) ?_; refine At.Quiet.run 2 rfl ?_; obtain ⟨V, j⟩ := bnone j; refine At.Quiet.y (Y.ix .z rfl rfl rfl rfl rfl rfl V.1 V.2) rfl rfl rfl ?_; refine At.Quiet.y (Y.ld .z (q := 0) rfl rfl V.1 V.2 rfl rfl rfl) rfl rfl rfl ?_; refine At.Quiet.run 3 rfl ?_; obtain ⟨Z, j⟩ := bnone j; refine At.Quiet.y (Y.ix .z rfl rfl rfl rfl rfl rfl Z.1 Z.2) rfl rfl rfl ?_; refine At.Quiet.y (Y.ld .z (q := 0) rfl rfl Z.1 Z.2 rfl rfl rfl) rfl rfl rfl ?_; refine At.Quiet.run 1 rfl (At.Quiet.nil (At.thn ?_)); rcases bite j with ⟨a8, j⟩ | ⟨a8, j⟩
       ··refine At.condT rfl (decide_eq_true a8) ?_
         refine sR 2 rfl ?_; obtain ⟨C, j⟩ := bnone j; refine At.y (Y.slSuf .z rfl rfl rfl rfl rfl rfl C.1 C.2) rfl rfl rfl ?_; refine At.run 1 rfl (nT (At.seq (sR 1 rfl (At.nil ?_)))); refine At.thn ?_; refine At.block ?_; obtain ⟨d4, d5, e6, j⟩ := bjoin j; obtain ⟨a9, b2, d6⟩ := bsome j; clear j; unfold Q31.l1 at b2; obtain ⟨b3, J⟩ := Q15.1 b2; clear b2; refine At.loopJ (X := (List Int) × Int × Int) (Y := (List Int) × Int) (e0 := 2) (fun s_ => [(0, .slice A0 a0.length c0), (3, i6 s_.2.1), (4, .slice (sufA A0 c0 p.toNat (Fl.int .i64).sz) (a0.length - p.toNat) (c0 - p.toNat)), (5, i6 s_.2.2)]) (fun s_ => row (Fl.int .i64) 3 A0 a0.length c0 s_.1 :: Fr) (fun m_ => fun s_ => iterN (fun t_ : (List Int) × Int × Int => Q31.l1b a0 p t_.1 t_.2.1 t_.2.2) m_ (s_.1, s_.2.1, s_.2.2) = some a9) b3 (a0, p, 1) J (fun s_ => [(0, .slice A0 a0.length c0), (3, i6 s_.2)]) (fun s_ => row (Fl.int .i64) 3 A0 a0.length c0 s_.1 :: Fr) (fun s_ => d4 (.inl (s_.1, s_.2)) = some a4) (fun a w e hs => ⟨e.sub ⟨rfl, rfl, rfl, rfl, trivial⟩, (by exact hs)⟩) ?_ (fun d7 => ?_)
         ·rintro ⟨d8, b4⟩ j; have j := (d5 _).symm.trans j
          ·refine At.ibx ?_; refine At.thn (sR 2 rfl ?_); obtain ⟨D, j⟩ := bnone j; refine At.y (Y.slSuf .z rfl rfl rfl rfl rfl rfl D.1 D.2) rfl rfl rfl ?_; refine At.clearSuf (z := (0 : Int)) rfl .z rfl rfl rfl rfl rfl D.1 D.2 ?_; refine nT (sR 2 rfl ?_); refine At.cut rfl .z rfl rfl rfl rfl rfl D.1 D.2 rfl ?_; refine At.run 1 rfl (nT (At.ret ?_)); refine At.ibr ?_; refine At.thr ?_; have j := bupL d0 b8 j; refine At.thr ?_; refine At.ibr ?_; refine At.thr ?_; cases bret j; exact At.res (.inl rfl) rfl rfl ⟨((d8.take b4.toNat ++ List.replicate (a0.length - b4.toNat) (0 : Int)).take b4.toNat).length, rfl, rfl, rfl⟩
         ·clear J b3; rintro b3 ⟨E, U, u⟩ J; obtain ⟨d9, f_, e1, hf_, j⟩ := bit J; clear J; have j : (Q31.l1b a0 p E U u).bind _ = some a9 := j; unfold Q31.l1b at j
          ·refine At.seq (sR 4 rfl (nT ?_)); rcases bite j with ⟨b5, j⟩ | ⟨b5, j⟩
           ··refine At.condT rfl (decide_eq_true b5) ?_
             refine At.skip (At.thn (At.seq ?_)); obtain ⟨e2, e3, e7, j⟩ := bjoin j; refine At.join (X := (List Int) × Int) (fun s_ => [(0, .slice A0 a0.length c0), (3, i6 s_.2), (4, .slice (sufA A0 c0 p.toNat (Fl.int .i64).sz) (a0.length - p.toNat) (c0 - p.toNat)), (5, i6 u)]) (fun s_ => row (Fl.int .i64) 3 A0 a0.length c0 s_.1 :: Fr) (fun s_ => e2 (.inl (s_.1, s_.2)) = some a9) ?_ (fun c4 => ?_)
             ·rintro ⟨e4, e5⟩ j; have j := (e3 _).symm.trans j
              ·refine At.region (At.run 3 rfl (At.nil ?_)); have j := bnx hf_ j; exact fun a w e hs => ⟨d9, (e4, e5, IntKind.i64.wrap (u + 1)), e1, j, e.sub ⟨rfl, rfl, rfl, rfl, trivial⟩, hs⟩
             ··refine At.block ?_
               refine At.seq ?_; refine At.quiet (by kernel_rfl) ?_; refine At.Quiet.run 2 rfl ?_; obtain ⟨G, j⟩ := bnone j; have c5 : (0 : Int) ≤ (p + u) ∧ (p + u) < (a0.length : Int) := by have h1_ := C; have h2_ := G; omega
               refine At.Quiet.y (Y.ixSuf .z rfl rfl rfl rfl rfl rfl C.1 G.1 G.2) rfl rfl rfl ?_; refine At.Quiet.y (Y.ld .z (q := 0) rfl rfl c5.1 c5.2 rfl rfl rfl) rfl rfl rfl ?_; refine At.Quiet.run 3 rfl ?_; obtain ⟨b6, j⟩ := bnone j; have c6 : (0 : Int) ≤ (p + IntKind.i64.wrap (u - 1)) ∧ (p + IntKind.i64.wrap (u - 1)) < (a0.length : Int) := by have h1_ := C; have h2_ := b6; omega
               refine At.Quiet.y (Y.ixSuf .z rfl rfl rfl rfl rfl rfl C.1 b6.1 b6.2) rfl rfl rfl ?_; refine At.Quiet.y (Y.ld .z (q := 0) rfl rfl c6.1 c6.2 rfl rfl rfl) rfl rfl rfl ?_; refine At.Quiet.run 1 rfl (At.Quiet.nil (At.thn ?_)); rcases bite j with ⟨b7, j⟩ | ⟨b7, j⟩
               ··refine At.condF rfl (nf (decide_eq_true b7)) ?_
                 refine At.skip ?_; refine At.ibn ?_; refine At.thn ?_; exact fun a w e hs => c4 (E, U) j a w (e.sub ⟨rfl, rfl, rfl, rfl, trivial⟩) hs
               ··refine At.condT rfl (nt (decide_eq_false b7)) ?_
                 refine sR 4 rfl ?_; have c7 : (0 : Int) ≤ (p + u) ∧ (p + u) < (a0.length : Int) := by have h1_ := C; have h2_ := G; omega
                 refine At.y (Y.ixSuf .z rfl rfl rfl rfl rfl rfl C.1 G.1 G.2) rfl rfl rfl ?_; refine At.y (Y.ld .z (q := 0) rfl rfl c7.1 c7.2 rfl rfl rfl) rfl rfl rfl ?_; obtain ⟨a1, j⟩ := bnone j; refine At.y (Y.ix .z rfl rfl rfl rfl rfl rfl a1.1 a1.2) rfl rfl rfl ?_; refine At.st rfl .z (q := 0) (z := (gt E (p + u))) rfl rfl rfl a1.1 a1.2 rfl rfl (.c .n) ?_; refine nT (At.region (At.run 3 rfl (At.nil ?_))); refine At.ibn ?_; refine At.thn ?_; exact fun a w e hs => c4 ((st E U (gt E (p + u))), IntKind.i64.wrap (U + 1)) j a w (e.sub ⟨rfl, rfl, rfl, rfl, trivial⟩) hs
           ··refine At.condF rfl (decide_eq_false b5) ?_
             refine At.exit ?_; refine At.the ?_; refine At.the ?_; exact fun a w e hs => d7 (E, U) (bdn j d6) a w (e.sub ⟨rfl, rfl, trivial⟩) hs
       ··refine At.condF rfl (decide_eq_false a8) ?_
         refine At.skip ?_; refine At.ibn ?_; refine At.thn (At.region (At.run 3 rfl (At.nil ?_))); have j := bnx hf_ j; exact fun a w e hs => ⟨d2, (IntKind.i64.wrap (p + 1)), d3, j, e.sub ⟨rfl, rfl, trivial⟩, hs⟩
     ··refine At.condF rfl (decide_eq_false a7) ?_
       refine At.exit ?_; refine At.the ?_; refine At.the ?_; exact fun a w e hs => d1 () (bdn j b8) a w (e.sub ⟨rfl, trivial⟩) hs

noncomputable def Q17.l0b (E : Int) (G : List (Bs × Q4)) (I : List (Q9 × Q4)) (J : List Q0) (U V X Z : List Int) (a0 : List (List Int)) (a3 : List Q2) (u : List Int) (C : List (Q2 × Int)) (D : List Q2) (p : Int) : Option (((List Int) × (List (Q2 × Int)) × (List Q2) × Int) ⊕ (((List Int) × (List (Q2 × Int)) × (List Q2)) ⊕ ((List (List Int)) × (List Int) × (List Int) × (List (Q2 × Int)) × (List Q2)))) :=
 if p < (a3.length : Int) then
 if (0 : Int) ≤ p ∧ p < (a3.length : Int) then
 (Q79.f E G I J U V C D X Z a0 ((gt a3 p).State) ((gt a3 p).Node)).bind fun q =>
 if (u.length + ([q.2.2] : List Int).length) * 8 ≤ 140737488355328 then
 nx ((u ++ ([q.2.2] : List Int)), q.1, q.2.1, IntKind.i64.wrap (p + 1))
 else none
 else none
 else
 dn (.inl (u, C, D))
noncomputable def Q17.l0 (p : Int) (q : List (Bs × Q4)) (u : List (Q9 × Q4)) (C : List Q0) (D E G I : List Int) (J : List (List Int)) (a3 : List Q2) (U : List Int) (V : List (Q2 × Int)) (X : List Q2) (Z : Int) : Option (((List Int) × (List (Q2 × Int)) × (List Q2)) ⊕ ((List (List Int)) × (List Int) × (List Int) × (List (Q2 × Int)) × (List Q2))) := iter (fun t_ : (List Int) × (List (Q2 × Int)) × (List Q2) × Int => Q17.l0b p q u C D E G I J a3 t_.1 t_.2.1 t_.2.2.1 t_.2.2.2) (U, V, X, Z)
noncomputable def Q17.f (C : Int) (D : List (Bs × Q4)) (E : List (Q9 × Q4)) (G : List Q0) (I J : List Int) (U : List (Q2 × Int)) (V : List Q2) (p q : List Int) (u : List (List Int)) (a1 a2 : Int) (a3 : List Q2) : Option ((List (List Int)) × (List Int) × (List Int) × (List (Q2 × Int)) × (List Q2)) :=
 jn (Q17.l0 C D E G I J p q u a3 ([] : List Int) U V 0) (fun (s_ : (List Int) × (List (Q2 × Int)) × (List Q2)) =>
 (Q56.f s_.1).bind fun X =>
 if (p.length + ([a1] : List Int).length) * 8 ≤ 140737488355328 then
 if (q.length + ([a2] : List Int).length) * 8 ≤ 140737488355328 then
 (Q31.f X).bind fun Z =>
 if (u.length + 1) * 24 ≤ 140737488355328 then
 some ((u ++ [Z]), (q ++ ([a2] : List Int)), (p ++ ([a1] : List Int)), s_.2.1, s_.2.2)
 else none
 else none
 else none)
theorem Q17.callee : Callee Tryz.prog 105 := ⟨_, Tryz.func105, by kernel_rfl, by kernel_rfl⟩
theorem Q17.spec {U a1 a2 : Int} {V : List (Bs × Q4)} {Z : List (Q9 × Q4)} {G : List Q0} {D E p u : List Int} {c6 : List (Q2 × Int)} {a5 a3 : List Q2} {C : List (List Int)} (hr0_1 : RdS Q0.fl.rep R.heap A0_1 G) (hn0_1 : G.length = n0_1) (hc0_1 : n0_1 ≤ c0_1) (hn0_2 : D.length = n0_2) (hn0_3 : E.length = n0_3) (hn0_5 : a5.length = n0_5) (hn0_6 : p.length = n0_6) (hn0_7 : u.length = n0_7) (hn0_8 : C.length = n0_8) (hr3 : RdS Q2.fl.rep R.heap A3 a3) (hn3 : a3.length = n3) (hc3 : n3 ≤ c3) {r : (List (List Int)) × (List Int) × (List Int) × (List (Q2 × Int)) × (List Q2)} (j : Q17.f U V Z G D E c6 a5 p u C a1 a2 a3 = some r) :
 Spec Tryz.prog 105 [bp b0, i6 a1, i6 a2, .slice A3 n3 c3] R (pc b0 [bp b0_0, .slice A0_1 n0_1 c0_1, .slice A0_2 n0_2 c0_2, .slice A0_3 n0_3 c0_3, .map (some b0_4), .slice A0_5 n0_5 c0_5, .slice A0_6 n0_6 c0_6, .slice A0_7 n0_7 c0_7, .slice A0_8 n0_8 c0_8] 101 :: pc b0_0 [i6 U, .map (some b0_0_1), .map (some b0_0_2)] 82 :: mapo Fl.bs.ov Q4.fl.av b0_0_1 V :: mapo Q9.fl.av Q4.fl.av b0_0_2 Z :: row (Fl.int .u64) 28 A0_2 n0_2 c0_2 D :: row (Fl.int .i64) 3 A0_3 n0_3 c0_3 E :: mapo Q2.fl.av (Fl.int .i64).ov b0_4 c6 :: row Q2.fl 65 A0_5 n0_5 c0_5 a5 :: row (Fl.int .i64) 3 A0_6 n0_6 c0_6 p :: row (Fl.int .i64) 3 A0_7 n0_7 c0_7 u :: rows (Fl.int .i64) 3 39 A0_8 n0_8 c0_8 C :: Fr) (fun v l' => ∃ (c7 : Nat) (d6 : Option Addr) (d7 : Nat) (d9 : Option Addr) (e1 : Nat) (e2 : Option Addr) (e3 : Nat) (c8 : Nat) (e4 : Option Addr) (e5 : Nat), v = .tuple #[] ∧ pc b0 [bp b0_0, .slice A0_1 n0_1 c0_1, .slice A0_2 n0_2 c0_2, .slice A0_3 n0_3 c0_3, .map (some b0_4), .slice e4 c8 e5, .slice e2 ((p ++ ([a1] : List Int)).length) e3, .slice d9 ((u ++ ([a2] : List Int)).length) e1, .slice d6 c7 d7] 101 :: pc b0_0 [i6 U, .map (some b0_0_1), .map (some b0_0_2)] 82 :: mapo Fl.bs.ov Q4.fl.av b0_0_1 V :: mapo Q9.fl.av Q4.fl.av b0_0_2 Z :: row (Fl.int .u64) 28 A0_2 n0_2 c0_2 D :: row (Fl.int .i64) 3 A0_3 n0_3 c0_3 E :: mapo Q2.fl.av (Fl.int .i64).ov b0_4 r.2.2.2.1 :: row Q2.fl 65 e4 c8 e5 r.2.2.2.2 :: row (Fl.int .i64) 3 e2 ((p ++ ([a1] : List Int)).length) e3 r.2.2.1 :: row (Fl.int .i64) 3 d9 ((u ++ ([a2] : List Int)).length) e1 r.2.1 :: rows (Fl.int .i64) 3 39 d6 c7 d7 r.1 :: Fr = l' ∧ r.1.length = c7 ∧ r.2.2.2.2.length = c8) := by
 subst hn0_1; subst hn0_2; subst hn0_3; subst hn0_5; subst hn0_6; subst hn0_7; subst hn0_8; subst hn3; refine Spec.of Tryz.func105 rfl rfl ?_; unfold Q17.f at j; have j := brun j; refine sR 1 rfl (nT (At.seq (At.seq (At.region ?_)))); refine At.run 3 rfl (nT ?_); refine At.block ?_; obtain ⟨f7, f8, m3, j⟩ := bjoin j; obtain ⟨e6, c9, f9⟩ := bsome j; clear j; unfold Q17.l0 at c9; obtain ⟨d0, a6⟩ := Q15.1 c9; clear c9; refine At.nilRow (Fl.int .i64) 3 ?_; let a7 : HProp := pc b0_0 [i6 U, .map (some b0_0_1), .map (some b0_0_2)] 82; let a8 : HProp := mapo Fl.bs.ov Q4.fl.av b0_0_1 V; let a9 : HProp := mapo Q9.fl.av Q4.fl.av b0_0_2 Z; let b2 : HProp := row (Fl.int .u64) 28 A0_2 D.length c0_2 D; let b3 : HProp := row (Fl.int .i64) 3 A0_3 E.length c0_3 E; let e7 : HProp := row (Fl.int .i64) 3 A0_6 p.length c0_6 p; let e8 : HProp := row (Fl.int .i64) 3 A0_7 u.length c0_7 u; let e9 : HProp := rows (Fl.int .i64) 3 39 A0_8 C.length c0_8 C; refine At.loopJ (X := (List Int) × (List (Q2 × Int)) × (List Q2) × Int × Nat × (Option Addr) × Nat × Nat × (Option Addr) × Nat) (Y := (List Int) × (List (Q2 × Int)) × (List Q2) × Nat × (Option Addr) × Nat × Nat × (Option Addr) × Nat) (e0 := 0) (fun s_ => [(0, bp b0), (1, i6 a1), (2, i6 a2), (8, .slice s_.2.2.2.2.2.1 s_.2.2.2.2.1 s_.2.2.2.2.2.2.1), (11, .slice A3 a3.length c3), (12, i6 (a3.length : Int)), (13, i6 s_.2.2.2.1)]) (fun s_ => row (Fl.int .i64) 3 s_.2.2.2.2.2.1 s_.2.2.2.2.1 s_.2.2.2.2.2.2.1 s_.1 :: pc b0 [bp b0_0, .slice A0_1 G.length c0_1, .slice A0_2 D.length c0_2, .slice A0_3 E.length c0_3, .map (some b0_4), .slice (d8 s_).1 s_.2.2.2.2.2.2.2.1 (d8 s_).2, .slice A0_6 p.length c0_6, .slice A0_7 u.length c0_7, .slice A0_8 C.length c0_8] 101 :: a7 :: a8 :: a9 :: b2 :: b3 :: mapo Q2.fl.av (Fl.int .i64).ov b0_4 s_.2.1 :: row Q2.fl 65 (d8 s_).1 s_.2.2.2.2.2.2.2.1 (d8 s_).2 s_.2.2.1 :: e7 :: e8 :: e9 :: Fr) (fun m_ => fun s_ => iterN (fun t_ : (List Int) × (List (Q2 × Int)) × (List Q2) × Int => Q17.l0b U V Z G D E p u C a3 t_.1 t_.2.1 t_.2.2.1 t_.2.2.2) m_ (s_.1, s_.2.1, s_.2.2.1, s_.2.2.2.1) = some e6 ∧ s_.1.length = s_.2.2.2.2.1 ∧ s_.2.2.1.length = s_.2.2.2.2.2.2.2.1) d0 (([] : List Int), c6, a5, 0, 0, none, 0, a5.length, A0_5, c0_5) ⟨a6, rfl, rfl⟩ (fun s_ => [(0, bp b0), (1, i6 a1), (2, i6 a2), (8, .slice s_.2.2.2.2.1 s_.2.2.2.1 s_.2.2.2.2.2.1)]) (fun s_ => row (Fl.int .i64) 3 s_.2.2.2.2.1 s_.2.2.2.1 s_.2.2.2.2.2.1 s_.1 :: pc b0 [bp b0_0, .slice A0_1 G.length c0_1, .slice A0_2 D.length c0_2, .slice A0_3 E.length c0_3, .map (some b0_4), .slice s_.2.2.2.2.2.2.2.1 s_.2.2.2.2.2.2.1 (d8 s_), .slice A0_6 p.length c0_6, .slice A0_7 u.length c0_7, .slice A0_8 C.length c0_8] 101 :: a7 :: a8 :: a9 :: b2 :: b3 :: mapo Q2.fl.av (Fl.int .i64).ov b0_4 s_.2.1 :: row Q2.fl 65 s_.2.2.2.2.2.2.2.1 s_.2.2.2.2.2.2.1 (d8 s_) s_.2.2.1 :: e7 :: e8 :: e9 :: Fr) (fun s_ => f7 (.inl (s_.1, s_.2.1, s_.2.2.1)) = some r ∧ s_.1.length = s_.2.2.2.1 ∧ s_.2.2.1.length = s_.2.2.2.2.2.2.1) (fun a w e hs => ⟨e.sub ⟨rfl, rfl, rfl, rfl, rfl, rfl, rfl, trivial⟩, (by exact hs)⟩) ?_ (fun g0 => ?_)
 ·rintro ⟨g1, f0, I, g2, d1, d2, g3, b4, b5⟩ ⟨j, g4, g5⟩; obtain rfl : g1.length = g2 := g4; obtain rfl : I.length = g3 := g5; have j := (f8 _).symm.trans j
  ·refine At.ibx ?_; refine At.thn (sR 1 rfl ?_); obtain ⟨m4, g6, j⟩ := bbind j; refine At.call rfl Q56.callee rfl rfl rfl (Q56.spec rfl g6) ?_; rintro _ _ ⟨rfl, rfl⟩; refine nT (sR 5 rfl (At.y (Y.load rfl rfl (.s .z) rfl rfl rfl) rfl rfl rfl (At.run 1 rfl ?_))); refine At.lit rfl (xo := [.tmp 32]) (ys := ([a1] : List Int)) (Fl.int .i64) rfl rfl rfl rfl rfl rfl rfl rfl rfl rfl rfl (fun m5 m6 => ?_); obtain ⟨g7, j⟩ := bnone j; refine At.append rfl (.s (.s (.s (.s (.s (.s (.s (.s (.s (.s .z)))))))))) (Src.own .z (by simp)) rfl rfl rfl rfl rfl rfl rfl rfl g7 (by decide) rfl (fun b6 b7 => ?_); refine At.drop (.s .z) (At.run 3 rfl ?_); refine At.store rfl rfl rfl rfl (.s (.s .z)) rfl rfl rfl (.s (.s (.s (.s (.s (.s (.c .n))))))) ?_; refine nT (sR 5 rfl (At.y (Y.load rfl rfl .z rfl rfl rfl) rfl rfl rfl (At.run 1 rfl ?_))); refine At.lit rfl (xo := [.tmp 44]) (ys := ([a2] : List Int)) (Fl.int .i64) rfl rfl rfl rfl rfl rfl rfl rfl rfl rfl rfl (fun m7 m8 => ?_); obtain ⟨g8, j⟩ := bnone j; refine At.append rfl (.s (.s (.s (.s (.s (.s (.s (.s (.s (.s (.s .z))))))))))) (Src.own .z (by simp)) rfl rfl rfl rfl rfl rfl rfl rfl g8 (by decide) rfl (fun b8 b9 => ?_); refine At.drop (.s .z) (At.run 3 rfl ?_); refine At.store rfl rfl rfl rfl (.s .z) rfl rfl rfl (.s (.s (.s (.s (.s (.s (.s (.c .n)))))))) ?_; refine nT ?_; refine At.held [row (Fl.int .i64) 3 b8 ((u ++ ([a2] : List Int)).length) b9 (u ++ ([a2] : List Int)), row (Fl.int .i64) 3 b6 ((p ++ ([a1] : List Int)).length) b7 (p ++ ([a1] : List Int)), a7, a8, a9, b2, b3, mapo Q2.fl.av (Fl.int .i64).ov b0_4 f0, row Q2.fl 65 b4 I.length b5 I] 14 rfl ?_; refine At.H.pw 0 rfl rfl rfl rfl rfl (.c (.s .z) (.c (.s .z) (.c (.s (.s .z)) (.c (.s (.s .z)) (.c (.s (.s .z)) (.c (.s (.s .z)) (.c (.s (.s .z)) (.c (.s (.s .z)) (.c (.s (.s .z)) .n))))))))) ?_; refine At.H.pw 1 rfl rfl rfl rfl rfl (.c (.s .z) (.c (.s .z) (.c (.s (.s .z)) (.c (.s (.s .z)) (.c (.s (.s .z)) (.c (.s (.s .z)) (.c (.s (.s .z)) (.c (.s (.s .z)) (.c (.s (.s .z)) .n))))))))) ?_; refine At.H.pw 2 rfl rfl rfl rfl rfl (.c (.s .z) (.c (.s .z) (.c (.s (.s .z)) (.c (.s (.s .z)) (.c (.s (.s .z)) (.c (.s (.s .z)) (.c (.s (.s .z)) (.c (.s (.s .z)) (.c (.s (.s .z)) .n))))))))) ?_; refine At.H.pw 3 rfl rfl rfl rfl rfl (.c (.s .z) (.c (.s .z) (.c (.s (.s .z)) (.c (.s (.s .z)) (.c (.s (.s .z)) (.c (.s (.s .z)) (.c (.s (.s .z)) (.c (.s (.s .z)) (.c (.s (.s .z)) .n))))))))) ?_; refine At.H.pw 4 rfl rfl rfl rfl rfl (.c (.s .z) (.c (.s .z) (.c (.s (.s .z)) (.c (.s (.s .z)) (.c (.s (.s .z)) (.c (.s (.s .z)) (.c (.s (.s .z)) (.c (.s (.s .z)) (.c (.s (.s .z)) .n))))))))) ?_; refine At.H.pw 6 rfl rfl rfl rfl rfl (.c (.s .z) (.c (.s .z) (.c (.s (.s .z)) (.c (.s (.s .z)) (.c (.s (.s .z)) (.c (.s (.s .z)) (.c (.s (.s .z)) (.c (.s (.s .z)) (.c (.s (.s .z)) .n))))))))) ?_; obtain ⟨J, f4, j⟩ := bbind j; obtain ⟨d3, j⟩ := bnone j; let g9 : HProp := row (Fl.int .i64) 3 b8 ((u ++ ([a2] : List Int)).length) b9 (u ++ ([a2] : List Int)); let h0 : HProp := row (Fl.int .i64) 3 b6 ((p ++ ([a1] : List Int)).length) b7 (p ++ ([a1] : List Int)); refine At.H.joinK (X := (Option Addr) × Nat) (fun s_ => []) (fun s_ => pc b0 [bp b0_0, .slice A0_1 G.length c0_1, .slice A0_2 D.length c0_2, .slice A0_3 E.length c0_3, .map (some b0_4), .slice b4 I.length b5, .slice b6 ((p ++ ([a1] : List Int)).length) b7, .slice b8 ((u ++ ([a2] : List Int)).length) b9, .slice s_.1 ((C ++ [J]).length) s_.2] 101 :: rows (Fl.int .i64) 3 39 s_.1 ((C ++ [J]).length) s_.2 (C ++ [J]) :: g9 :: h0 :: a7 :: a8 :: a9 :: b2 :: b3 :: mapo Q2.fl.av (Fl.int .i64).ov b0_4 f0 :: row Q2.fl 65 b4 I.length b5 I :: Fr) (fun s_ => True) ?_ (fun d4 => ?_)
   ·rintro ⟨h1, h2⟩ -
    ·refine At.f1 (At.f2 (At.f3 (At.f10 (At.f10 (At.f10 (At.f10 (At.f10 ?_))))))); refine At.f10 (At.f10 (At.f10 ?_)); cases bret j; exact At.res (.inr rfl) rfl rfl ⟨(C ++ [J]).length, h1, h2, b8, b9, b6, b7, I.length, b4, b5, rfl, rfl, rfl, rfl⟩
   ·refine At.H.al [5, 7] (Q7 ?_ (Q7 ?_ Q8))
    ··refine At.HO.op rfl ?_
      refine At.y (Y.load rfl rfl .z rfl rfl rfl) rfl rfl rfl ?_; refine At.HO.back (.c (.s .z) (.c (.s .z) (.c (.s (.s .z)) (.c (.s (.s .z)) (.c (.s (.s .z)) (.c (.s (.s .z)) (.c (.s (.s .z)) (.c (.s (.s .z)) (.c (.s (.s .z)) .n))))))))) ?_; refine At.H.al [7] (Q7 ?_ Q8)
      ··refine At.HO.op rfl ?_
        refine At.rowLen (.s (.s (.s .z))) fun h3 => ?_; refine At.f3 ?_; refine At.call rfl Q31.callee rfl rfl rfl (Q31.spec h3 f4) ?_; rintro _ _ ⟨m9, rfl, rfl, rfl⟩; refine At.HO.back (.c (.s (.s .z)) (.c (.s (.s .z)) (.c (.s (.s .z)) (.c (.s (.s .z)) (.c (.s (.s .z)) (.c (.s (.s .z)) (.c (.s (.s .z)) (.c (.s (.s .z)) (.c (.s (.s .z)) .n))))))))) ?_; refine At.H.al [8] (Q7 ?_ Q8)
        ··refine At.HO.op rfl ?_
          refine At.litV rfl (xo := [.tmp 57]) (vs := [.slice d1 J.length d2]) rfl rfl rfl rfl rfl rfl rfl rfl rfl rfl rfl (fun n2 n4 => ?_); refine At.HO.back (.c (.s (.s (.s .z))) (.c (.s (.s (.s .z))) (.c (.s (.s (.s .z))) (.c (.s (.s (.s .z))) (.c (.s (.s (.s .z))) (.c (.s (.s (.s .z))) (.c (.s (.s (.s .z))) (.c (.s (.s (.s .z))) (.c (.s (.s (.s .z))) .n))))))))) ?_; refine At.H.al [9] (Q7 ?_ Q8)
          ··refine At.HO.op rfl ?_
            refine At.appendRow rfl (.s (.s (.s (.s (.s (.s (.s (.s (.s (.s (.s (.s .z)))))))))))) .z .z rfl rfl rfl rfl rfl rfl rfl rfl d3 (by decide) rfl (fun h4 h5 => ?_); refine At.HO.back (.c (.s (.s .z)) (.c (.s (.s .z)) (.c (.s (.s .z)) (.c (.s (.s .z)) (.c (.s (.s .z)) (.c (.s (.s .z)) (.c (.s (.s .z)) (.c (.s (.s .z)) (.c (.s (.s .z)) .n))))))))) ?_; refine At.H.pw 10 rfl rfl rfl rfl rfl (.c (.s (.s .z)) (.c (.s (.s .z)) (.c (.s (.s .z)) (.c (.s (.s .z)) (.c (.s (.s .z)) (.c (.s (.s .z)) (.c (.s (.s .z)) (.c (.s (.s .z)) (.c (.s (.s .z)) .n))))))))) ?_; refine At.H.pw 11 rfl rfl rfl rfl rfl (.c (.s (.s .z)) (.c (.s (.s .z)) (.c (.s (.s .z)) (.c (.s (.s .z)) (.c (.s (.s .z)) (.c (.s (.s .z)) (.c (.s (.s .z)) (.c (.s (.s .z)) (.c (.s (.s .z)) .n))))))))) ?_; refine At.H.pw 12 rfl rfl rfl rfl rfl (.c (.s (.s .z)) (.c (.s (.s .z)) (.c (.s (.s .z)) (.c (.s (.s .z)) (.c (.s (.s .z)) (.c (.s (.s .z)) (.c (.s (.s .z)) (.c (.s (.s .z)) (.c (.s (.s .z)) .n))))))))) ?_; refine At.H.al [13] (Q7 ?_ Q8)
            ··refine At.HO.op rfl ?_
              refine At.store rfl rfl rfl rfl (.s .z) rfl rfl rfl (.s (.s (.s (.s (.s (.s (.s (.s (.c .n))))))))) ?_; refine At.HO.back (.c (.s (.s .z)) (.c (.s (.s .z)) (.c (.s (.s .z)) (.c (.s (.s .z)) (.c (.s (.s .z)) (.c (.s (.s .z)) (.c (.s (.s .z)) (.c (.s (.s .z)) (.c (.s (.s .z)) .n))))))))) ?_; refine At.H.done (by kernel_rfl) ?_; exact At.of (d4 (h4, h5) trivial) trivial
    ··refine At.HO.op rfl ?_
      refine At.rowLen (.s (.s (.s .z))) fun h6 => ?_; refine At.f3 ?_; refine At.call rfl Q31.callee rfl rfl rfl (Q31.spec h6 f4) ?_; rintro _ _ ⟨n5, rfl, rfl, rfl⟩; refine At.HO.back (.c (.s (.s .z)) (.c (.s (.s .z)) (.c (.s (.s .z)) (.c (.s (.s .z)) (.c (.s (.s .z)) (.c (.s (.s .z)) (.c (.s (.s .z)) (.c (.s (.s .z)) (.c (.s (.s .z)) .n))))))))) ?_; refine At.H.al [5, 8] (Q7 ?_ (Q7 ?_ Q8))
      ··refine At.HO.op rfl ?_
        refine At.y (Y.load rfl rfl (.s .z) rfl rfl rfl) rfl rfl rfl ?_; refine At.HO.back (.c (.s (.s .z)) (.c (.s (.s .z)) (.c (.s (.s .z)) (.c (.s (.s .z)) (.c (.s (.s .z)) (.c (.s (.s .z)) (.c (.s (.s .z)) (.c (.s (.s .z)) (.c (.s (.s .z)) .n))))))))) ?_; refine At.H.al [8] (Q7 ?_ Q8)
        ··refine At.HO.op rfl ?_
          refine At.litV rfl (xo := [.tmp 57]) (vs := [.slice d1 J.length d2]) rfl rfl rfl rfl rfl rfl rfl rfl rfl rfl rfl (fun n6 n7 => ?_); refine At.HO.back (.c (.s (.s (.s .z))) (.c (.s (.s (.s .z))) (.c (.s (.s (.s .z))) (.c (.s (.s (.s .z))) (.c (.s (.s (.s .z))) (.c (.s (.s (.s .z))) (.c (.s (.s (.s .z))) (.c (.s (.s (.s .z))) (.c (.s (.s (.s .z))) .n))))))))) ?_; refine At.H.al [9] (Q7 ?_ Q8)
          ··refine At.HO.op rfl ?_
            refine At.appendRow rfl (.s (.s (.s (.s (.s (.s (.s (.s (.s (.s (.s (.s .z)))))))))))) .z .z rfl rfl rfl rfl rfl rfl rfl rfl d3 (by decide) rfl (fun h7 h8 => ?_); refine At.HO.back (.c (.s (.s .z)) (.c (.s (.s .z)) (.c (.s (.s .z)) (.c (.s (.s .z)) (.c (.s (.s .z)) (.c (.s (.s .z)) (.c (.s (.s .z)) (.c (.s (.s .z)) (.c (.s (.s .z)) .n))))))))) ?_; refine At.H.pw 10 rfl rfl rfl rfl rfl (.c (.s (.s .z)) (.c (.s (.s .z)) (.c (.s (.s .z)) (.c (.s (.s .z)) (.c (.s (.s .z)) (.c (.s (.s .z)) (.c (.s (.s .z)) (.c (.s (.s .z)) (.c (.s (.s .z)) .n))))))))) ?_; refine At.H.pw 11 rfl rfl rfl rfl rfl (.c (.s (.s .z)) (.c (.s (.s .z)) (.c (.s (.s .z)) (.c (.s (.s .z)) (.c (.s (.s .z)) (.c (.s (.s .z)) (.c (.s (.s .z)) (.c (.s (.s .z)) (.c (.s (.s .z)) .n))))))))) ?_; refine At.H.pw 12 rfl rfl rfl rfl rfl (.c (.s (.s .z)) (.c (.s (.s .z)) (.c (.s (.s .z)) (.c (.s (.s .z)) (.c (.s (.s .z)) (.c (.s (.s .z)) (.c (.s (.s .z)) (.c (.s (.s .z)) (.c (.s (.s .z)) .n))))))))) ?_; refine At.H.al [13] (Q7 ?_ Q8)
            ··refine At.HO.op rfl ?_
              refine At.store rfl rfl rfl rfl (.s .z) rfl rfl rfl (.s (.s (.s (.s (.s (.s (.s (.s (.c .n))))))))) ?_; refine At.HO.back (.c (.s (.s .z)) (.c (.s (.s .z)) (.c (.s (.s .z)) (.c (.s (.s .z)) (.c (.s (.s .z)) (.c (.s (.s .z)) (.c (.s (.s .z)) (.c (.s (.s .z)) (.c (.s (.s .z)) .n))))))))) ?_; refine At.H.done (by kernel_rfl) ?_; exact At.of (d4 (h7, h8) trivial) trivial
      ··refine At.HO.op rfl ?_
        refine At.litV rfl (xo := [.tmp 57]) (vs := [.slice d1 J.length d2]) rfl rfl rfl rfl rfl rfl rfl rfl rfl rfl rfl (fun n8 n9 => ?_); refine At.HO.back (.c (.s (.s (.s .z))) (.c (.s (.s (.s .z))) (.c (.s (.s (.s .z))) (.c (.s (.s (.s .z))) (.c (.s (.s (.s .z))) (.c (.s (.s (.s .z))) (.c (.s (.s (.s .z))) (.c (.s (.s (.s .z))) (.c (.s (.s (.s .z))) .n))))))))) ?_; refine At.H.al [5] (Q7 ?_ Q8)
        ··refine At.HO.op rfl ?_
          refine At.y (Y.load rfl rfl (.s (.s .z)) rfl rfl rfl) rfl rfl rfl ?_; refine At.HO.back (.c (.s (.s (.s .z))) (.c (.s (.s (.s .z))) (.c (.s (.s (.s .z))) (.c (.s (.s (.s .z))) (.c (.s (.s (.s .z))) (.c (.s (.s (.s .z))) (.c (.s (.s (.s .z))) (.c (.s (.s (.s .z))) (.c (.s (.s (.s .z))) .n))))))))) ?_; refine At.H.al [9] (Q7 ?_ Q8)
          ··refine At.HO.op rfl ?_
            refine At.appendRow rfl (.s (.s (.s (.s (.s (.s (.s (.s (.s (.s (.s (.s .z)))))))))))) .z .z rfl rfl rfl rfl rfl rfl rfl rfl d3 (by decide) rfl (fun h9 k0 => ?_); refine At.HO.back (.c (.s (.s .z)) (.c (.s (.s .z)) (.c (.s (.s .z)) (.c (.s (.s .z)) (.c (.s (.s .z)) (.c (.s (.s .z)) (.c (.s (.s .z)) (.c (.s (.s .z)) (.c (.s (.s .z)) .n))))))))) ?_; refine At.H.pw 10 rfl rfl rfl rfl rfl (.c (.s (.s .z)) (.c (.s (.s .z)) (.c (.s (.s .z)) (.c (.s (.s .z)) (.c (.s (.s .z)) (.c (.s (.s .z)) (.c (.s (.s .z)) (.c (.s (.s .z)) (.c (.s (.s .z)) .n))))))))) ?_; refine At.H.pw 11 rfl rfl rfl rfl rfl (.c (.s (.s .z)) (.c (.s (.s .z)) (.c (.s (.s .z)) (.c (.s (.s .z)) (.c (.s (.s .z)) (.c (.s (.s .z)) (.c (.s (.s .z)) (.c (.s (.s .z)) (.c (.s (.s .z)) .n))))))))) ?_; refine At.H.pw 12 rfl rfl rfl rfl rfl (.c (.s (.s .z)) (.c (.s (.s .z)) (.c (.s (.s .z)) (.c (.s (.s .z)) (.c (.s (.s .z)) (.c (.s (.s .z)) (.c (.s (.s .z)) (.c (.s (.s .z)) (.c (.s (.s .z)) .n))))))))) ?_; refine At.H.al [13] (Q7 ?_ Q8)
            ··refine At.HO.op rfl ?_
              refine At.store rfl rfl rfl rfl (.s .z) rfl rfl rfl (.s (.s (.s (.s (.s (.s (.s (.s (.c .n))))))))) ?_; refine At.HO.back (.c (.s (.s .z)) (.c (.s (.s .z)) (.c (.s (.s .z)) (.c (.s (.s .z)) (.c (.s (.s .z)) (.c (.s (.s .z)) (.c (.s (.s .z)) (.c (.s (.s .z)) (.c (.s (.s .z)) .n))))))))) ?_; refine At.H.done (by kernel_rfl) ?_; exact At.of (d4 (h9, k0) trivial) trivial
 ·clear a6 d0; rintro d0 ⟨a0, f5, c4, f6, k1, k2, k3, k4, k5, k6⟩ ⟨a6, k7, k8⟩; obtain rfl : a0.length = k1 := k7; obtain rfl : c4.length = k4 := k8; obtain ⟨k9, f_, l6, hf_, j⟩ := bit a6; clear a6; have j : (Q17.l0b U V Z G D E p u C a3 a0 f5 c4 f6).bind _ = some e6 := j; unfold Q17.l0b at j
  ·refine sR 1 rfl (nT (At.seq ?_)); rcases bite j with ⟨d5, j⟩ | ⟨d5, j⟩
   ··refine At.condT rfl (decide_eq_true d5) ?_
     refine At.skip (At.thn (At.seq ?_)); refine At.block ?_; refine At.seq (At.region ?_); obtain ⟨c5, j⟩ := bnone j; refine At.y (Y.ixRd hr3 rfl rfl rfl rfl rfl rfl rfl c5.1 c5.2) rfl rfl rfl (At.y (Y.ldFl hr3 rfl (q := 0) rfl rfl c5.1 c5.2 rfl rfl rfl) rfl rfl rfl ?_); refine At.alloc rfl rfl rfl (fun o0 => ?_); refine At.store rfl rfl rfl rfl .z rfl rfl rfl (.c (.c .n)) ?_; refine nT (At.region (At.run 2 rfl (At.y (Y.load rfl rfl .z rfl rfl rfl) rfl rfl rfl (At.f12 (At.f12 (At.f12 ?_)))))); refine At.f12 (At.f12 (At.f12 (At.f12 (At.f12 (At.f12 (At.f12 (At.f12 ?_))))))); obtain ⟨a4, l7, j⟩ := bbind j; refine At.call rfl Q79.callee rfl rfl rfl (Q79.spec hr0_1 rfl hc0_1 rfl rfl rfl rfl rfl rfl l7) ?_; rintro _ _ ⟨o7, l8, l9, rfl, rfl, rfl⟩; refine At.lit rfl (xo := [.tmp 20]) (ys := ([a4.2.2] : List Int)) (Fl.int .i64) rfl rfl rfl rfl rfl rfl rfl rfl rfl rfl rfl (fun o8 o9 => ?_); obtain ⟨m0, j⟩ := bnone j; refine At.append rfl (.s (.s (.s (.s (.s (.s (.s (.s (.s (.s (.s (.s (.s .z))))))))))))) (Src.own .z (by simp)) rfl rfl rfl rfl rfl rfl rfl rfl m0 (by decide) rfl (fun m1 m2 => ?_); refine At.drop (.s .z) (At.run 1 rfl (At.nil ?_)); refine At.ibn ?_; refine At.thn (At.region (At.run 2 rfl (At.nil (At.drop (.s (.s (.s (.s (.s (.s (.s (.s (.s (.s (.s (.s .z)))))))))))) ?_)))); have j := bnx hf_ j; exact fun a w e hs => ⟨k9, ((a0 ++ ([a4.2.2] : List Int)), a4.1, a4.2.1, IntKind.i64.wrap (f6 + 1), (a0 ++ ([a4.2.2] : List Int)).length, m1, m2, a4.2.1.length, l8, l9), l6, ⟨j, rfl, rfl⟩, e.sub ⟨rfl, rfl, rfl, rfl, rfl, rfl, rfl, trivial⟩, hs⟩
   ··refine At.condF rfl (decide_eq_false d5) ?_
     refine At.exit ?_; refine At.the ?_; refine At.the ?_; exact fun a w e hs => g0 (a0, f5, c4, a0.length, k2, k3, c4.length, k5, k6) ⟨(bdn j f9), rfl, rfl⟩ a w (e.sub ⟨rfl, rfl, rfl, rfl, trivial⟩) hs

noncomputable def Q86.f (u : Int) (C : List (Bs × Q4)) (D : List (Q9 × Q4)) (E : List Q0) (G I : List Int) (J : List (Q2 × Int)) (U : List Q2) (V X : List Int) (Z : List (List Int)) (a0 a1 a2 : Int) (a3 : Bool) : Option ((List (Q2 × Int)) × (List Q2) × (List Int) × (List Int) × (List (List Int))) :=
 if a3 = true then
 (Q17.f u C D E G I J U V X Z a2 0 ([(⟨a0, a1⟩ : Q2)] : List Q2)).bind fun p =>
 some (p.2.2.2.1, p.2.2.2.2, p.2.2.1, p.2.1, p.1)
 else
 (Q17.f u C D E G I J U V X Z a2 1 ([(⟨a0, a1⟩ : Q2)] : List Q2)).bind fun q =>
 some (q.2.2.2.1, q.2.2.2.2, q.2.2.1, q.2.1, q.1)
theorem Q86.callee : Callee Tryz.prog 104 := ⟨_, Tryz.func104, by kernel_rfl, by kernel_rfl⟩
theorem Q86.spec {G p q a2 : Int} {I : List (Bs × Q4)} {J : List (Q9 × Q4)} {U : List Q0} {D E u C : List Int} {a5 : List (Q2 × Int)} {V : List Q2} {X : List (List Int)} {a3 : Bool} (hr0_1 : RdS Q0.fl.rep R.heap A0_1 U) (hn0_1 : U.length = n0_1) (hc0_1 : n0_1 ≤ c0_1) (hn0_2 : D.length = n0_2) (hn0_3 : E.length = n0_3) (hn0_5 : V.length = n0_5) (hn0_6 : u.length = n0_6) (hn0_7 : C.length = n0_7) (hn0_8 : X.length = n0_8) {r : (List (Q2 × Int)) × (List Q2) × (List Int) × (List Int) × (List (List Int))} (j : Q86.f G I J U D E a5 V u C X p q a2 a3 = some r) :
 Spec Tryz.prog 104 [bp b0, .agg #[i6 p, i6 q], i6 a2, .bool a3] R (pc b0 [bp b0_0, .slice A0_1 n0_1 c0_1, .slice A0_2 n0_2 c0_2, .slice A0_3 n0_3 c0_3, .map (some b0_4), .slice A0_5 n0_5 c0_5, .slice A0_6 n0_6 c0_6, .slice A0_7 n0_7 c0_7, .slice A0_8 n0_8 c0_8] 101 :: pc b0_0 [i6 G, .map (some b0_0_1), .map (some b0_0_2)] 82 :: mapo Fl.bs.ov Q4.fl.av b0_0_1 I :: mapo Q9.fl.av Q4.fl.av b0_0_2 J :: row (Fl.int .u64) 28 A0_2 n0_2 c0_2 D :: row (Fl.int .i64) 3 A0_3 n0_3 c0_3 E :: mapo Q2.fl.av (Fl.int .i64).ov b0_4 a5 :: row Q2.fl 65 A0_5 n0_5 c0_5 V :: row (Fl.int .i64) 3 A0_6 n0_6 c0_6 u :: row (Fl.int .i64) 3 A0_7 n0_7 c0_7 C :: rows (Fl.int .i64) 3 39 A0_8 n0_8 c0_8 X :: Fr) (fun v l' => ∃ (Z : Nat) (a6 : Option Addr) (a7 : Nat) (a8 : Option Addr) (a9 : Nat) (a0 : Nat) (b2 : Option Addr) (b3 : Nat) (a1 : Nat) (b4 : Option Addr) (b5 : Nat), v = .tuple #[] ∧ pc b0 [bp b0_0, .slice A0_1 n0_1 c0_1, .slice A0_2 n0_2 c0_2, .slice A0_3 n0_3 c0_3, .map (some b0_4), .slice a6 Z a7, .slice a8 ((u ++ ([a2] : List Int)).length) a9, .slice b2 a0 b3, .slice b4 a1 b5] 101 :: pc b0_0 [i6 G, .map (some b0_0_1), .map (some b0_0_2)] 82 :: mapo Fl.bs.ov Q4.fl.av b0_0_1 I :: mapo Q9.fl.av Q4.fl.av b0_0_2 J :: row (Fl.int .u64) 28 A0_2 n0_2 c0_2 D :: row (Fl.int .i64) 3 A0_3 n0_3 c0_3 E :: mapo Q2.fl.av (Fl.int .i64).ov b0_4 r.1 :: row Q2.fl 65 a6 Z a7 r.2.1 :: row (Fl.int .i64) 3 a8 ((u ++ ([a2] : List Int)).length) a9 r.2.2.1 :: row (Fl.int .i64) 3 b2 a0 b3 r.2.2.2.1 :: rows (Fl.int .i64) 3 39 b4 a1 b5 r.2.2.2.2 :: Fr = l' ∧ r.2.1.length = Z ∧ r.2.2.2.1.length = a0 ∧ r.2.2.2.2.length = a1) := by
 subst hn0_1; subst hn0_2; subst hn0_3; subst hn0_5; subst hn0_6; subst hn0_7; subst hn0_8; refine Spec.of Tryz.func104 rfl rfl ?_; unfold Q86.f at j; have j := brun j; refine At.seq (At.region ?_); refine At.box rfl rfl (cs := [i6 p, i6 q]) rfl rfl (fun f2 => ?_); refine nT (sR 1 rfl (nT ?_)); rcases bite j with ⟨a4, j⟩ | ⟨a4, j⟩
 ··refine At.condT rfl a4 ?_
   refine At.region (At.run 2 rfl (At.y (Y.load rfl rfl .z rfl rfl rfl) rfl rfl rfl ?_)); refine At.lit rfl (xo := [.tmp 11]) (ys := ([(⟨p, q⟩ : Q2)] : List Q2)) Q2.fl rfl rfl rfl rfl rfl rfl rfl rfl rfl rfl rfl (fun f3 f4 => ?_); refine At.freeze .z fun f5 b8 b9 c4 c5 c6 => ?_; refine At.f11 (At.f11 (At.f11 (At.f11 (At.f11 (At.f11 (At.f11 (At.f11 ?_))))))); refine At.f11 (At.f11 (At.f11 ?_)); obtain ⟨b6, c7, j⟩ := bbind j; refine At.call rfl Q17.callee rfl rfl rfl (Q17.spec (RdS.mono c5 hr0_1) rfl hc0_1 rfl rfl rfl rfl rfl rfl b8 b9 c4 c7) ?_; rintro _ _ ⟨f6, c8, c9, d0, d1, d2, d3, f7, d4, d5, rfl, rfl, rfl, rfl⟩; refine At.nil ?_; refine At.thaw c6 ?_; refine At.rowLen (.s (.s (.s (.s (.s (.s (.s (.s (.s (.s .z)))))))))) fun d6 => ?_; refine At.drop .z (At.drop (.s (.s (.s (.s (.s (.s (.s (.s (.s (.s (.s .z))))))))))) ?_); cases bret j; exact At.res (.inr rfl) rfl rfl ⟨b6.2.2.2.2.length, d4, d5, d2, d3, (C ++ ([0] : List Int)).length, d0, d1, b6.1.length, c8, c9, rfl, rfl, rfl, d6, rfl⟩
 ··refine At.condF rfl (bn a4) ?_
   refine At.region (At.run 2 rfl (At.y (Y.load rfl rfl .z rfl rfl rfl) rfl rfl rfl ?_)); refine At.lit rfl (xo := [.tmp 16]) (ys := ([(⟨p, q⟩ : Q2)] : List Q2)) Q2.fl rfl rfl rfl rfl rfl rfl rfl rfl rfl rfl rfl (fun f8 f9 => ?_); refine At.freeze .z fun g0 d7 d8 d9 e0 e1 => ?_; refine At.f11 (At.f11 (At.f11 (At.f11 (At.f11 (At.f11 (At.f11 (At.f11 ?_))))))); refine At.f11 (At.f11 (At.f11 ?_)); obtain ⟨b7, e2, j⟩ := bbind j; refine At.call rfl Q17.callee rfl rfl rfl (Q17.spec (RdS.mono e0 hr0_1) rfl hc0_1 rfl rfl rfl rfl rfl rfl d7 d8 d9 e2) ?_; rintro _ _ ⟨g1, e3, e4, e5, e6, e7, e8, g2, e9, f0, rfl, rfl, rfl, rfl⟩; refine At.nil ?_; refine At.thaw e1 ?_; refine At.rowLen (.s (.s (.s (.s (.s (.s (.s (.s (.s (.s .z)))))))))) fun f1 => ?_; refine At.drop .z (At.drop (.s (.s (.s (.s (.s (.s (.s (.s (.s (.s (.s .z))))))))))) ?_); cases bret j; exact At.res (.inr rfl) rfl rfl ⟨b7.2.2.2.2.length, e9, f0, e7, e8, (C ++ ([1] : List Int)).length, e5, e6, b7.1.length, e3, e4, rfl, rfl, rfl, f1, rfl⟩

noncomputable def Q40.f (a0 p q : Int) : Option (Int × Int) :=
 some (p, a0)
theorem Q40.callee : Callee Tryz.prog 103 := ⟨_, Tryz.func103, by kernel_rfl, by kernel_rfl⟩
theorem Q40.spec {a0 p q : Int} {r : Int × Int} (j : Q40.f a0 p q = some r) :
 Spec Tryz.prog 103 [i6 a0, bp b1] R (pc b1 [i6 p, i6 q] 65 :: Fr) (fun v l' => v = .agg #[i6 r.1, i6 r.2] ∧ pc b1 [i6 p, i6 q] 65 :: Fr = l') := by
 refine Spec.of Tryz.func103 rfl rfl ?_; unfold Q40.f at j; have j := brun j; refine At.seq (At.region ?_); refine At.alloc rfl rfl rfl (fun u => ?_); refine nT (sR 1 rfl (At.y (Y.load rfl rfl (.s .z) rfl rfl rfl) rfl rfl rfl (At.run 1 rfl ?_))); refine At.y (Y.build (is := [0, 1]) (xo := [.tmp 5, .tmp 6]) (vs := [i6 p, i6 a0]) (cs := [i6 p, i6 a0]) rfl rfl rfl rfl rfl rfl) rfl rfl rfl ?_; refine At.store rfl rfl rfl rfl .z rfl rfl rfl (.c (.c .n)) ?_; refine nT (At.ret ?_); refine At.resM (.inl rfl) rfl (RV.cell rfl rfl .z rfl rfl rfl RV.nil) ?_; refine At.drop .z ?_; cases bret j; exact fun a w e hs => ⟨_, ⟨rfl, rfl⟩, hs⟩

noncomputable def Q45.l0b (C : Int) (q : (List Int)) (u : List Q2) (p : Int) : Option (((List Q2) × Int) ⊕ (((List Q2)) ⊕ ((List (Q2 × Int)) × (List Q2) × (List Int) × (List Int) × (List (List Int))))) :=
 if p < (q.length : Int) then
 if (0 : Int) ≤ p ∧ p < (q.length : Int) then
 if (u.length + ([(⟨gt q p, C⟩ : Q2)] : List Q2).length) * 16 ≤ 140737488355328 then
 nx ((u ++ ([(⟨gt q p, C⟩ : Q2)] : List Q2)), IntKind.i64.wrap (p + 1))
 else none
 else none
 else
 dn (.inl u)
noncomputable def Q45.l0 (p : Int) (q : (List Int)) (u : List Q2) (C : Int) : Option (((List Q2)) ⊕ ((List (Q2 × Int)) × (List Q2) × (List Int) × (List Int) × (List (List Int)))) := iter (fun t_ : (List Q2) × Int => Q45.l0b p q t_.1 t_.2) (u, C)
noncomputable def Q45.f (C : Int) (D : List (Bs × Q4)) (E : List (Q9 × Q4)) (G : List Q0) (I J : List Int) (U : List (Q2 × Int)) (V : List Q2) (X Z : List Int) (a0 : List (List Int)) (a1 a4 a8 a5 a9 : Int) (a6 : Bs) (b2 a3 : Int) : Option ((List (Q2 × Int)) × (List Q2) × (List Int) × (List Int) × (List (List Int))) :=
 (Q137.f C D E a1 a6).bind fun u =>
 (Q19.f u.1 u.2.1 u.2.2.1 u.2.2.2).bind fun a7 =>
 jn (Q45.l0 a5 a7 ([] : List Q2) 0) (fun (a2 : List Q2) =>
 if (a2.length : Int) = 0 then
 (Q86.f C D E G I J U V X Z a0 a1 a4 a3 (decide (a3 = 1))).bind fun p =>
 some (p.1, p.2.1, p.2.2.1, p.2.2.2.1, p.2.2.2.2)
 else
 (Q17.f C D E G I J U V X Z a0 a3 0 a2).bind fun q =>
 some (q.2.2.2.1, q.2.2.2.2, q.2.2.1, q.2.1, q.1))
theorem Q45.callee : Callee Tryz.prog 106 := ⟨_, Tryz.func106, by kernel_rfl, by kernel_rfl⟩
theorem Q45.spec {Z a0 a1 a2 p a4 a5 a3 : Int} {a6 : List (Bs × Q4)} {a7 : List (Q9 × Q4)} {a8 : List Q0} {D E u G : List Int} {b3 : List (Q2 × Int)} {I : List Q2} {J : List (List Int)} {a9 : Bs} (hr0_1 : RdS Q0.fl.rep R.heap A0_1 a8) (hn0_1 : a8.length = n0_1) (hc0_1 : n0_1 ≤ c0_1) (hn0_2 : D.length = n0_2) (hn0_3 : E.length = n0_3) (hn0_5 : I.length = n0_5) (hn0_6 : u.length = n0_6) (hn0_7 : G.length = n0_7) (hn0_8 : J.length = n0_8) (hg0 : RdS (Fl.int .u8).rep R.heap (some ⟨0, 0, none⟩) Tryz.gtab0) {r : (List (Q2 × Int)) × (List Q2) × (List Int) × (List Int) × (List (List Int))} (j : Q45.f Z a6 a7 a8 D E b3 I u G J a0 a1 a2 p a4 a9 a5 a3 = some r) :
 Spec Tryz.prog 106 [bp b0, .agg #[i6 a0, i6 a1], .agg #[i6 a2, i6 p, i6 a4, .string ⟨(a9).toArray⟩, i6 a5], i6 a3] R (pc b0 [bp b0_0, .slice A0_1 n0_1 c0_1, .slice A0_2 n0_2 c0_2, .slice A0_3 n0_3 c0_3, .map (some b0_4), .slice A0_5 n0_5 c0_5, .slice A0_6 n0_6 c0_6, .slice A0_7 n0_7 c0_7, .slice A0_8 n0_8 c0_8] 101 :: pc b0_0 [i6 Z, .map (some b0_0_1), .map (some b0_0_2)] 82 :: mapo Fl.bs.ov Q4.fl.av b0_0_1 a6 :: mapo Q9.fl.av Q4.fl.av b0_0_2 a7 :: row (Fl.int .u64) 28 A0_2 n0_2 c0_2 D :: row (Fl.int .i64) 3 A0_3 n0_3 c0_3 E :: mapo Q2.fl.av (Fl.int .i64).ov b0_4 b3 :: row Q2.fl 65 A0_5 n0_5 c0_5 I :: row (Fl.int .i64) 3 A0_6 n0_6 c0_6 u :: row (Fl.int .i64) 3 A0_7 n0_7 c0_7 G :: rows (Fl.int .i64) 3 39 A0_8 n0_8 c0_8 J :: Fr) (fun v l' => ∃ (b6 : Nat) (c9 : Option Addr) (d0 : Nat) (d1 : Option Addr) (d2 : Nat) (b7 : Nat) (d3 : Option Addr) (d4 : Nat) (b8 : Nat) (d5 : Option Addr) (d6 : Nat), v = .tuple #[] ∧ pc b0 [bp b0_0, .slice A0_1 n0_1 c0_1, .slice A0_2 n0_2 c0_2, .slice A0_3 n0_3 c0_3, .map (some b0_4), .slice c9 b6 d0, .slice d1 ((u ++ ([a3] : List Int)).length) d2, .slice d3 b7 d4, .slice d5 b8 d6] 101 :: pc b0_0 [i6 Z, .map (some b0_0_1), .map (some b0_0_2)] 82 :: mapo Fl.bs.ov Q4.fl.av b0_0_1 a6 :: mapo Q9.fl.av Q4.fl.av b0_0_2 a7 :: row (Fl.int .u64) 28 A0_2 n0_2 c0_2 D :: row (Fl.int .i64) 3 A0_3 n0_3 c0_3 E :: mapo Q2.fl.av (Fl.int .i64).ov b0_4 r.1 :: row Q2.fl 65 c9 b6 d0 r.2.1 :: row (Fl.int .i64) 3 d1 ((u ++ ([a3] : List Int)).length) d2 r.2.2.1 :: row (Fl.int .i64) 3 d3 b7 d4 r.2.2.2.1 :: rows (Fl.int .i64) 3 39 d5 b8 d6 r.2.2.2.2 :: Fr = l' ∧ r.2.1.length = b6 ∧ r.2.2.2.1.length = b7 ∧ r.2.2.2.2.length = b8) := by
 subst hn0_1; subst hn0_2; subst hn0_3; subst hn0_5; subst hn0_6; subst hn0_7; subst hn0_8; refine Spec.of Tryz.func106 rfl rfl ?_; unfold Q45.f at j; have j := brun j; refine At.seq (At.region ?_); refine At.box rfl rfl (cs := [i6 a0, i6 a1]) rfl rfl (fun b4 => ?_); refine At.box rfl rfl (cs := [i6 a2, i6 p, i6 a4, .string ⟨(a9).toArray⟩, i6 a5]) rfl rfl (fun b9 => ?_); refine nT (sR 1 rfl (nT (At.seq ?_))); refine At.seq ?_; refine At.held [pc b9 [i6 a2, i6 p, i6 a4, .string ⟨(a9).toArray⟩, i6 a5] 33, pc b4 [i6 a0, i6 a1] 65, pc b0 [bp b0_0, .slice A0_1 a8.length c0_1, .slice A0_2 D.length c0_2, .slice A0_3 E.length c0_3, .map (some b0_4), .slice A0_5 I.length c0_5, .slice A0_6 u.length c0_6, .slice A0_7 G.length c0_7, .slice A0_8 J.length c0_8] 101, pc b0_0 [i6 Z, .map (some b0_0_1), .map (some b0_0_2)] 82, mapo Fl.bs.ov Q4.fl.av b0_0_1 a6, mapo Q9.fl.av Q4.fl.av b0_0_2 a7, row (Fl.int .u64) 28 A0_2 D.length c0_2 D, row (Fl.int .i64) 3 A0_3 E.length c0_3 E, mapo Q2.fl.av (Fl.int .i64).ov b0_4 b3, row Q2.fl 65 A0_5 I.length c0_5 I, row (Fl.int .i64) 3 A0_6 u.length c0_6 u, row (Fl.int .i64) 3 A0_7 G.length c0_7 G, rows (Fl.int .i64) 3 39 A0_8 J.length c0_8 J] 12 rfl ?_; refine At.H.pw 0 rfl rfl rfl rfl rfl (.c .z (.c .z (.c .z (.c .z (.c .z (.c .z (.c .z (.c .z (.c .z (.c .z (.c .z (.c .z (.c .z .n))))))))))))) ?_; refine At.H.pw 1 rfl rfl rfl rfl rfl (.c .z (.c .z (.c .z (.c .z (.c .z (.c .z (.c .z (.c .z (.c .z (.c .z (.c .z (.c .z (.c .z .n))))))))))))) ?_; refine At.H.pw 2 rfl rfl rfl rfl rfl (.c .z (.c .z (.c .z (.c .z (.c .z (.c .z (.c .z (.c .z (.c .z (.c .z (.c .z (.c .z (.c .z .n))))))))))))) ?_; refine At.H.tw 3 rfl (Y.load rfl rfl (.s (.s .z)) rfl rfl rfl) rfl rfl rfl (.c .z (.c .z (.c .z (.c .z (.c .z (.c .z (.c .z (.c .z (.c .z (.c .z (.c .z (.c .z (.c .z .n))))))))))))) ?_; refine At.H.pw 4 rfl rfl rfl rfl rfl (.c .z (.c .z (.c .z (.c .z (.c .z (.c .z (.c .z (.c .z (.c .z (.c .z (.c .z (.c .z (.c .z .n))))))))))))) ?_; refine At.H.tw 5 rfl (Y.load rfl rfl (.s .z) rfl rfl rfl) rfl rfl rfl (.c .z (.c .z (.c .z (.c .z (.c .z (.c .z (.c .z (.c .z (.c .z (.c .z (.c .z (.c .z (.c .z .n))))))))))))) ?_; refine At.H.pw 6 rfl rfl rfl rfl rfl (.c .z (.c .z (.c .z (.c .z (.c .z (.c .z (.c .z (.c .z (.c .z (.c .z (.c .z (.c .z (.c .z .n))))))))))))) ?_; refine At.H.tw 7 rfl (Y.load rfl rfl .z rfl rfl rfl) rfl rfl rfl (.c .z (.c .z (.c .z (.c .z (.c .z (.c .z (.c .z (.c .z (.c .z (.c .z (.c .z (.c .z (.c .z .n))))))))))))) ?_; refine At.H.pw 11 rfl rfl rfl rfl rfl (.c .z (.c .z (.c .z (.c .z (.c .z (.c .z (.c .z (.c .z (.c .z (.c .z (.c .z (.c .z (.c .z .n))))))))))))) ?_; refine At.H.al [8] (Q7 ?_ Q8)
 ··refine At.HO.op rfl ?_
   refine At.f5 (At.f5 (At.f5 ?_)); obtain ⟨m5, f7, j⟩ := bbind j; refine At.call rfl Q137.callee rfl rfl rfl (Q137.spec f7) ?_; rintro _ _ ⟨rfl, rfl⟩; refine At.HO.back (.c (.s (.s (.s .z))) (.c (.s (.s (.s .z))) (.c (.s (.s (.s .z))) (.c .z (.c .z (.c .z (.c .z (.c .z (.c .z (.c .z (.c .z (.c .z (.c .z .n))))))))))))) ?_; refine At.H.al [9] (Q7 ?_ Q8)
   ··refine At.HO.op rfl ?_
     obtain ⟨C, f8, j⟩ := bbind j; refine At.call rfl Q19.callee rfl rfl rfl (Q19.spec hg0 f8) ?_; rintro _ _ ⟨m6, d7, d8, rfl, rfl, rfl⟩; refine At.HO.back (.c (.s (.s (.s (.s .z)))) (.c (.s (.s (.s (.s .z)))) (.c (.s (.s (.s (.s .z)))) (.c (.s .z) (.c (.s .z) (.c (.s .z) (.c (.s .z) (.c (.s .z) (.c (.s .z) (.c (.s .z) (.c (.s .z) (.c (.s .z) (.c (.s .z) .n))))))))))))) ?_; refine At.H.pw 10 rfl rfl rfl rfl rfl (.c (.s (.s (.s (.s .z)))) (.c (.s (.s (.s (.s .z)))) (.c (.s (.s (.s (.s .z)))) (.c (.s .z) (.c (.s .z) (.c (.s .z) (.c (.s .z) (.c (.s .z) (.c (.s .z) (.c (.s .z) (.c (.s .z) (.c (.s .z) (.c (.s .z) .n))))))))))))) ?_; refine At.H.done (by kernel_rfl) ?_; refine At.thn ?_; refine At.block ?_; obtain ⟨f9, g0, m7, j⟩ := bjoin j; obtain ⟨d9, c4, g1⟩ := bsome j; clear j; unfold Q45.l0 at c4; obtain ⟨c5, b2⟩ := Q15.1 c4; clear c4; refine At.nilRow Q2.fl 65 ?_; let e1 : HProp := row (Fl.int .i64) 3 d7 C.length d8 C; let e2 : HProp := pc b0_0 [i6 Z, .map (some b0_0_1), .map (some b0_0_2)] 82; let e3 : HProp := mapo Fl.bs.ov Q4.fl.av b0_0_1 a6; let e4 : HProp := mapo Q9.fl.av Q4.fl.av b0_0_2 a7; let e5 : HProp := pc b9 [i6 a2, i6 p, i6 a4, .string ⟨(a9).toArray⟩, i6 a5] 33; let e6 : HProp := pc b4 [i6 a0, i6 a1] 65; let e7 : HProp := pc b0 [bp b0_0, .slice A0_1 a8.length c0_1, .slice A0_2 D.length c0_2, .slice A0_3 E.length c0_3, .map (some b0_4), .slice A0_5 I.length c0_5, .slice A0_6 u.length c0_6, .slice A0_7 G.length c0_7, .slice A0_8 J.length c0_8] 101; let e8 : HProp := row (Fl.int .u64) 28 A0_2 D.length c0_2 D; let e9 : HProp := row (Fl.int .i64) 3 A0_3 E.length c0_3 E; let f0 : HProp := mapo Q2.fl.av (Fl.int .i64).ov b0_4 b3; let f1 : HProp := row Q2.fl 65 A0_5 I.length c0_5 I; let f2 : HProp := row (Fl.int .i64) 3 A0_6 u.length c0_6 u; let f3 : HProp := row (Fl.int .i64) 3 A0_7 G.length c0_7 G; let f4 : HProp := rows (Fl.int .i64) 3 39 A0_8 J.length c0_8 J; refine At.loopJ (X := (List Q2) × Int × Nat × (Option Addr) × Nat) (Y := (List Q2) × Nat × (Option Addr) × Nat) (e0 := 0) (fun s_ => [(0, bp b0), (3, i6 a3), (5, bp b4), (6, bp b9), (8, .slice s_.2.2.2.1 s_.2.2.1 s_.2.2.2.2), (20, .slice d7 C.length d8), (21, i6 (C.length : Int)), (22, i6 s_.2.1)]) (fun s_ => row Q2.fl 65 s_.2.2.2.1 s_.2.2.1 s_.2.2.2.2 s_.1 :: e1 :: e2 :: e3 :: e4 :: e5 :: e6 :: e7 :: e8 :: e9 :: f0 :: f1 :: f2 :: f3 :: f4 :: Fr) (fun m_ => fun s_ => iterN (fun t_ : (List Q2) × Int => Q45.l0b p C t_.1 t_.2) m_ (s_.1, s_.2.1) = some d9 ∧ s_.1.length = s_.2.2.1) c5 (([] : List Q2), 0, 0, none, 0) ⟨b2, rfl⟩ (fun s_ => [(0, bp b0), (3, i6 a3), (5, bp b4), (8, .slice s_.2.2.1 s_.2.1 s_.2.2.2)]) (fun s_ => row Q2.fl 65 s_.2.2.1 s_.2.1 s_.2.2.2 s_.1 :: e1 :: e2 :: e3 :: e4 :: e5 :: e6 :: e7 :: e8 :: e9 :: f0 :: f1 :: f2 :: f3 :: f4 :: Fr) (fun s_ => f9 (.inl s_.1) = some r ∧ s_.1.length = s_.2.1) (fun a w e hs => ⟨e.sub ⟨rfl, rfl, rfl, rfl, rfl, rfl, rfl, rfl, trivial⟩, (by exact hs)⟩) ?_ (fun g2 => ?_)
     ·rintro ⟨g3, g4, m8, m9⟩ ⟨j, g5⟩; obtain rfl : g3.length = g4 := g5; have j := (g0 _).symm.trans j
      ·refine At.ibx ?_; refine At.thn (At.seq (sR 3 rfl (nT ?_))); rcases bite j with ⟨c6, j⟩ | ⟨c6, j⟩
       ··refine At.condT rfl (decide_eq_true c6) ?_
         refine sR 1 rfl ?_; refine At.y (Y.load rfl rfl (.s (.s (.s (.s (.s (.s .z)))))) rfl rfl rfl) rfl rfl rfl ?_; refine At.run 3 rfl ?_; refine At.frt (.s (.s (.s (.s (.s (.s (.s (.s (.s (.s (.s (.s (.s (.s .z)))))))))))))) ?_; refine At.frt (.s (.s (.s (.s (.s (.s (.s (.s (.s (.s (.s (.s (.s (.s .z)))))))))))))) ?_; refine At.frt (.s (.s (.s (.s (.s (.s (.s (.s (.s (.s (.s (.s (.s (.s .z)))))))))))))) ?_; refine At.frt (.s (.s (.s (.s (.s (.s (.s (.s (.s (.s (.s (.s (.s (.s .z)))))))))))))) ?_; refine At.frt (.s (.s (.s (.s (.s (.s (.s (.s (.s (.s (.s (.s (.s (.s .z)))))))))))))) ?_; refine At.frt (.s (.s (.s (.s (.s (.s (.s (.s (.s (.s (.s (.s (.s (.s .z)))))))))))))) ?_; refine At.frt (.s (.s (.s (.s (.s (.s (.s (.s (.s (.s (.s (.s (.s (.s .z)))))))))))))) ?_; refine At.f11 (At.f11 (At.f11 ?_)); refine At.frt (.s (.s (.s (.s (.s (.s (.s (.s (.s (.s (.s (.s (.s (.s .z)))))))))))))) ?_; obtain ⟨c7, g6, j⟩ := bbind j; refine At.call rfl Q86.callee rfl rfl rfl (Q86.spec hr0_1 rfl hc0_1 rfl rfl rfl rfl rfl rfl g6) ?_; rintro _ _ ⟨n2, g7, g8, g9, h0, n4, h1, h2, n5, h3, h4, rfl, rfl, rfl, rfl, rfl⟩; refine nT (At.ret (At.thr (At.drop (.s (.s (.s (.s (.s (.s (.s (.s (.s (.s (.s .z))))))))))) (At.drop (.s (.s (.s (.s (.s (.s (.s (.s (.s (.s (.s .z))))))))))) (At.drop (.s (.s (.s (.s (.s (.s (.s (.s (.s (.s (.s .z))))))))))) (At.drop (.s (.s (.s (.s (.s (.s (.s (.s (.s (.s (.s .z))))))))))) ?_)))))); cases bret j; exact At.res (.inl rfl) rfl rfl ⟨c7.2.1.length, g7, g8, g9, h0, c7.2.2.2.1.length, h1, h2, c7.2.2.2.2.length, h3, h4, rfl, rfl, rfl, rfl, rfl⟩
       ··refine At.condF rfl (decide_eq_false c6) ?_
         refine At.skip (At.thn (At.region (At.run 3 rfl ?_))); refine At.freeze .z fun n6 h5 h6 h7 h8 h9 => ?_; refine At.f13 (At.f13 (At.f13 (At.f13 (At.f13 (At.f13 (At.f13 (At.f10 ?_))))))); refine At.f10 (At.f10 (At.f13 ?_)); obtain ⟨f6, k0, j⟩ := bbind j; refine At.call rfl Q17.callee rfl rfl rfl (Q17.spec (RdS.mono h8 hr0_1) rfl hc0_1 rfl rfl rfl rfl rfl rfl h5 h6 h7 k0) ?_; rintro _ _ ⟨n7, k1, k2, k3, k4, k5, k6, n8, k7, k8, rfl, rfl, rfl, rfl⟩; refine At.nil ?_; refine At.thaw h9 ?_; refine At.rowLen (.s (.s (.s (.s (.s (.s (.s (.s (.s (.s .z)))))))))) fun k9 => ?_; refine At.drop .z (At.drop (.s (.s (.s (.s (.s (.s (.s (.s (.s (.s (.s .z))))))))))) (At.drop (.s (.s (.s (.s (.s (.s (.s (.s (.s (.s (.s .z))))))))))) (At.drop (.s (.s (.s (.s (.s (.s (.s (.s (.s (.s (.s .z))))))))))) ?_))); cases bret j; exact At.res (.inr rfl) rfl rfl ⟨f6.2.2.2.2.length, k7, k8, k5, k6, (G ++ ([0] : List Int)).length, k3, k4, f6.1.length, k1, k2, rfl, rfl, rfl, k9, rfl⟩
     ·clear b2 c5; rintro c5 ⟨V, U, l6, l7, l8⟩ ⟨b2, l9⟩; obtain rfl : V.length = l6 := l9; obtain ⟨m0, f_, m1, hf_, j⟩ := bit b2; clear b2; have j : (Q45.l0b p C V U).bind _ = some d9 := j; unfold Q45.l0b at j
      ·refine sR 1 rfl (nT (At.seq ?_)); rcases bite j with ⟨c8, j⟩ | ⟨c8, j⟩
       ··refine At.condT rfl (decide_eq_true c8) ?_
         refine At.skip (At.thn (At.seq ?_)); refine At.block ?_; refine At.seq (At.region ?_); obtain ⟨b5, j⟩ := bnone j; refine At.y (Y.ix (.s .z) rfl rfl rfl rfl rfl rfl b5.1 b5.2) rfl rfl rfl (At.y (Y.ld (.s .z) (q := 0) rfl rfl b5.1 b5.2 rfl rfl rfl) rfl rfl rfl (At.run 1 rfl (nT (At.region (At.run 3 rfl ?_))))); refine At.y (Y.load rfl rfl (.s (.s (.s (.s (.s .z))))) rfl rfl rfl) rfl rfl rfl ?_; refine At.y (Y.build (is := [0, 1]) (xo := [.tmp 27, .tmp 29]) (vs := [i6 (gt C U), i6 p]) (cs := [i6 (gt C U), i6 p]) rfl rfl rfl rfl rfl rfl) rfl rfl rfl ?_; refine At.lit rfl (xo := [.tmp 30]) (ys := ([(⟨gt C U, p⟩ : Q2)] : List Q2)) Q2.fl rfl rfl rfl rfl rfl rfl rfl rfl rfl rfl rfl (fun n9 o0 => ?_); obtain ⟨m2, j⟩ := bnone j; refine At.append rfl (.s .z) (Src.own .z (by simp)) rfl rfl rfl rfl rfl rfl rfl rfl m2 (by decide) rfl (fun m3 m4 => ?_); refine At.drop (.s .z) (At.run 1 rfl (At.nil ?_)); refine At.ibn ?_; refine At.thn (At.region (At.run 2 rfl (At.nil ?_))); have j := bnx hf_ j; exact fun a w e hs => ⟨m0, ((V ++ ([(⟨gt C U, p⟩ : Q2)] : List Q2)), IntKind.i64.wrap (U + 1), (V ++ ([(⟨gt C U, p⟩ : Q2)] : List Q2)).length, m3, m4), m1, ⟨j, rfl⟩, e.sub ⟨rfl, rfl, rfl, rfl, rfl, rfl, rfl, rfl, trivial⟩, hs⟩
       ··refine At.condF rfl (decide_eq_false c8) ?_
         refine At.exit ?_; refine At.the ?_; refine At.the ?_; exact fun a w e hs => g2 (V, V.length, l7, l8) ⟨(bdn j g1), rfl⟩ a w (e.sub ⟨rfl, rfl, rfl, rfl, trivial⟩) hs

noncomputable def Q126.f (E : Int) (G : List (Bs × Q4)) (I : List (Q9 × Q4)) (q : List Q0) (C D : List Int) (J : List (Q2 × Int)) (U : List Q2) (V X : List Int) (Z : List (List Int)) (u p : Int) : Option ((List (Q2 × Int)) × (List Q2) × (List Int) × (List Int) × (List (List Int))) :=
 if (0 : Int) ≤ p ∧ p < (q.length : Int) then
 jn (
 if (gt q p).Kind = 1 then
 some (.inl (decide ((gt q p).Kind = 1)))
 else
 some (.inl (decide ((gt q p).Kind = 2)))) (fun (b7 : Bool) =>
 if b7 = true then
 (Q86.f E G I q C D J U V X Z u p 0 (decide ((gt q p).Kind = 1))).bind fun a0 =>
 some (a0.1, a0.2.1, a0.2.2.1, a0.2.2.2.1, a0.2.2.2.2)
 else
 jn (
 if (gt q p).Kind = 3 then
 some (.inl (decide ((gt q p).Kind = 3)))
 else
 some (.inl (decide ((gt q p).Kind = 12)))) (fun (b8 : Bool) =>
 if b8 = true then
 (Q133.f E G I ((gt q p).Name)).bind fun a8 =>
 (Q110.f a8.1 a8.2.1 a8.2.2.1 a8.2.2.2 u).bind fun b9 =>
 (Q86.f E G I q C D J U V X Z u p 0 (b9 == decide ((gt q p).Kind = 3))).bind fun a1 =>
 some (a1.1, a1.2.1, a1.2.2.1, a1.2.2.2.1, a1.2.2.2.2)
 else
 if (gt q p).Kind = 4 then
 if (0 : Int) ≤ p ∧ p < (C.length : Int) then
 (Q26.f (gt C p)).bind fun c4 =>
 (Q40.f c4 u p).bind fun a9 =>
 (Q17.f E G I q C D J U V X Z 0 0 ([(⟨a9.1, a9.2⟩ : Q2)] : List Q2)).bind fun a2 =>
 some (a2.2.2.2.1, a2.2.2.2.2, a2.2.2.1, a2.2.1, a2.1)
 else none
 else
 if (gt q p).Kind = 6 then
 (Q40.f ((gt q p).A) u p).bind fun b2 =>
 (Q40.f ((gt q p).B) u p).bind fun b3 =>
 (Q17.f E G I q C D J U V X Z 1 0 ([(⟨b2.1, b2.2⟩ : Q2), (⟨b3.1, b3.2⟩ : Q2)] : List Q2)).bind fun a3 =>
 some (a3.2.2.2.1, a3.2.2.2.2, a3.2.2.1, a3.2.1, a3.1)
 else
 if (gt q p).Kind = 7 then
 (Q40.f ((gt q p).A) u p).bind fun b4 =>
 (Q40.f ((gt q p).B) u p).bind fun b5 =>
 (Q17.f E G I q C D J U V X Z 0 0 ([(⟨b4.1, b4.2⟩ : Q2), (⟨b5.1, b5.2⟩ : Q2)] : List Q2)).bind fun a4 =>
 some (a4.2.2.2.1, a4.2.2.2.2, a4.2.2.1, a4.2.1, a4.1)
 else
 if (gt q p).Kind = 8 then
 (Q45.f E G I q C D J U V X Z u p ((gt q p).Kind) ((gt q p).A) ((gt q p).B) ((gt q p).Name) ((gt q p).At) 0).bind fun a5 =>
 some (a5.1, a5.2.1, a5.2.2.1, a5.2.2.2.1, a5.2.2.2.2)
 else
 if (gt q p).Kind = 9 then
 (Q45.f E G I q C D J U V X Z u p ((gt q p).Kind) ((gt q p).A) ((gt q p).B) ((gt q p).Name) ((gt q p).At) 1).bind fun a6 =>
 some (a6.1, a6.2.1, a6.2.2.1, a6.2.2.2.1, a6.2.2.2.2)
 else
 jn (
 if (gt q p).Kind = 10 then
 some (.inl (decide ((gt q p).Kind = 10)))
 else
 some (.inl (decide ((gt q p).Kind = 11)))) (fun (c5 : Bool) =>
 if c5 = true then
 (Q40.f ((gt q p).A) u p).bind fun b6 =>
 (Q17.f E G I q C D J U V X Z 0 (gt D p) ([(⟨b6.1, b6.2⟩ : Q2)] : List Q2)).bind fun a7 =>
 if (0 : Int) ≤ p ∧ p < (D.length : Int) then
 some (a7.2.2.2.1, a7.2.2.2.2, a7.2.2.1, a7.2.1, a7.1)
 else none
 else
 some (J, U, V, X, Z))))
 else none
theorem Q126.callee : Callee Tryz.prog 50 := ⟨_, Tryz.func50, by kernel_rfl, by kernel_rfl⟩
theorem Q126.spec {a7 V u : Int} {Z : List (Bs × Q4)} {a0 : List (Q9 × Q4)} {G : List Q0} {C p D E : List Int} {a5 : List (Q2 × Int)} {J : List Q2} {U : List (List Int)} (hr0_1 : RdS Q0.fl.rep R.heap A0_1 G) (hn0_1 : G.length = n0_1) (hc0_1 : n0_1 ≤ c0_1) (hn0_2 : C.length = n0_2) (hn0_3 : p.length = n0_3) (hn0_5 : J.length = n0_5) (hn0_6 : D.length = n0_6) (hn0_7 : E.length = n0_7) (hn0_8 : U.length = n0_8) (hg0 : RdS (Fl.int .u8).rep R.heap (some ⟨0, 0, none⟩) Tryz.gtab0) {r : (List (Q2 × Int)) × (List Q2) × (List Int) × (List Int) × (List (List Int))} (j : Q126.f a7 Z a0 G C p a5 J D E U V u = some r) :
 Spec Tryz.prog 50 [bp b0, .agg #[i6 V, i6 u]] R (pc b0 [bp b0_0, .slice A0_1 n0_1 c0_1, .slice A0_2 n0_2 c0_2, .slice A0_3 n0_3 c0_3, .map (some b0_4), .slice A0_5 n0_5 c0_5, .slice A0_6 n0_6 c0_6, .slice A0_7 n0_7 c0_7, .slice A0_8 n0_8 c0_8] 101 :: pc b0_0 [i6 a7, .map (some b0_0_1), .map (some b0_0_2)] 82 :: mapo Fl.bs.ov Q4.fl.av b0_0_1 Z :: mapo Q9.fl.av Q4.fl.av b0_0_2 a0 :: row (Fl.int .u64) 28 A0_2 n0_2 c0_2 C :: row (Fl.int .i64) 3 A0_3 n0_3 c0_3 p :: mapo Q2.fl.av (Fl.int .i64).ov b0_4 a5 :: row Q2.fl 65 A0_5 n0_5 c0_5 J :: row (Fl.int .i64) 3 A0_6 n0_6 c0_6 D :: row (Fl.int .i64) 3 A0_7 n0_7 c0_7 E :: rows (Fl.int .i64) 3 39 A0_8 n0_8 c0_8 U :: Fr) (fun v l' => ∃ (b6 : Nat) (e2 : Option Addr) (e3 : Nat) (b7 : Nat) (e4 : Option Addr) (e5 : Nat) (b8 : Nat) (e6 : Option Addr) (e7 : Nat) (b9 : Nat) (e8 : Option Addr) (e9 : Nat), v = .tuple #[] ∧ pc b0 [bp b0_0, .slice A0_1 n0_1 c0_1, .slice A0_2 n0_2 c0_2, .slice A0_3 n0_3 c0_3, .map (some b0_4), .slice e2 b6 e3, .slice e4 b7 e5, .slice e6 b8 e7, .slice e8 b9 e9] 101 :: pc b0_0 [i6 a7, .map (some b0_0_1), .map (some b0_0_2)] 82 :: mapo Fl.bs.ov Q4.fl.av b0_0_1 Z :: mapo Q9.fl.av Q4.fl.av b0_0_2 a0 :: row (Fl.int .u64) 28 A0_2 n0_2 c0_2 C :: row (Fl.int .i64) 3 A0_3 n0_3 c0_3 p :: mapo Q2.fl.av (Fl.int .i64).ov b0_4 r.1 :: row Q2.fl 65 e2 b6 e3 r.2.1 :: row (Fl.int .i64) 3 e4 b7 e5 r.2.2.1 :: row (Fl.int .i64) 3 e6 b8 e7 r.2.2.2.1 :: rows (Fl.int .i64) 3 39 e8 b9 e9 r.2.2.2.2 :: Fr = l' ∧ r.2.1.length = b6 ∧ r.2.2.1.length = b7 ∧ r.2.2.2.1.length = b8 ∧ r.2.2.2.2.length = b9) := by
 subst hn0_1; subst hn0_2; subst hn0_3; subst hn0_5; subst hn0_6; subst hn0_7; subst hn0_8; refine Spec.of Tryz.func50 rfl rfl ?_; unfold Q126.f at j; have j := brun j; refine At.seq (At.region ?_); refine At.box rfl rfl (cs := [i6 V, i6 u]) rfl rfl (fun I => ?_); refine nT (At.seq ?_); refine At.held [pc I [i6 V, i6 u] 65, pc b0 [bp b0_0, .slice A0_1 G.length c0_1, .slice A0_2 C.length c0_2, .slice A0_3 p.length c0_3, .map (some b0_4), .slice A0_5 J.length c0_5, .slice A0_6 D.length c0_6, .slice A0_7 E.length c0_7, .slice A0_8 U.length c0_8] 101, pc b0_0 [i6 a7, .map (some b0_0_1), .map (some b0_0_2)] 82, mapo Fl.bs.ov Q4.fl.av b0_0_1 Z, mapo Q9.fl.av Q4.fl.av b0_0_2 a0, row (Fl.int .u64) 28 A0_2 C.length c0_2 C, row (Fl.int .i64) 3 A0_3 p.length c0_3 p, mapo Q2.fl.av (Fl.int .i64).ov b0_4 a5, row Q2.fl 65 A0_5 J.length c0_5 J, row (Fl.int .i64) 3 A0_6 D.length c0_6 D, row (Fl.int .i64) 3 A0_7 E.length c0_7 E, rows (Fl.int .i64) 3 39 A0_8 U.length c0_8 U] 10 rfl ?_; refine At.H.pw 0 rfl rfl rfl rfl rfl (.c .z (.c .z (.c .z (.c .z (.c .z (.c .z (.c .z (.c .z (.c .z (.c .z (.c .z (.c .z .n)))))))))))) ?_; refine At.H.pw 1 rfl rfl rfl rfl rfl (.c .z (.c .z (.c .z (.c .z (.c .z (.c .z (.c .z (.c .z (.c .z (.c .z (.c .z (.c .z .n)))))))))))) ?_; refine At.H.pw 2 rfl rfl rfl rfl rfl (.c .z (.c .z (.c .z (.c .z (.c .z (.c .z (.c .z (.c .z (.c .z (.c .z (.c .z (.c .z .n)))))))))))) ?_; refine At.H.tw 3 rfl (Y.load rfl rfl (.s .z) rfl rfl rfl) rfl rfl rfl (.c .z (.c .z (.c .z (.c .z (.c .z (.c .z (.c .z (.c .z (.c .z (.c .z (.c .z (.c .z .n)))))))))))) ?_; refine At.H.pw 4 rfl rfl rfl rfl rfl (.c .z (.c .z (.c .z (.c .z (.c .z (.c .z (.c .z (.c .z (.c .z (.c .z (.c .z (.c .z .n)))))))))))) ?_; refine At.H.tw 5 rfl (Y.load rfl rfl .z rfl rfl rfl) rfl rfl rfl (.c .z (.c .z (.c .z (.c .z (.c .z (.c .z (.c .z (.c .z (.c .z (.c .z (.c .z (.c .z .n)))))))))))) ?_; obtain ⟨b3, j⟩ := bnone j; refine At.H.tw 6 rfl (Y.ixRd hr0_1 rfl rfl rfl rfl rfl rfl rfl b3.1 b3.2) rfl rfl rfl (.c .z (.c .z (.c .z (.c .z (.c .z (.c .z (.c .z (.c .z (.c .z (.c .z (.c .z (.c .z .n)))))))))))) ?_; refine At.H.tw 7 rfl (Y.ldFl hr0_1 rfl (q := 0) rfl rfl b3.1 b3.2 rfl rfl rfl) rfl rfl rfl (.c .z (.c .z (.c .z (.c .z (.c .z (.c .z (.c .z (.c .z (.c .z (.c .z (.c .z (.c .z .n)))))))))))) ?_; refine At.H.al [8] (Q7 ?_ Q8)
 ··refine At.HO.op rfl ?_
   refine At.alloc rfl rfl rfl (fun b4 => ?_); refine At.HO.back (.c (.s .z) (.c (.s .z) (.c (.s .z) (.c (.s .z) (.c (.s .z) (.c (.s .z) (.c (.s .z) (.c (.s .z) (.c (.s .z) (.c (.s .z) (.c (.s .z) (.c (.s .z) .n)))))))))))) ?_; refine At.H.al [9] (Q7 ?_ Q8)
   ··refine At.HO.op rfl ?_
     refine At.store rfl rfl rfl rfl .z rfl rfl rfl (.c (.c (.c (.c (.c .n))))) ?_; refine At.HO.back (.c (.s .z) (.c (.s .z) (.c (.s .z) (.c (.s .z) (.c (.s .z) (.c (.s .z) (.c (.s .z) (.c (.s .z) (.c (.s .z) (.c (.s .z) (.c (.s .z) (.c (.s .z) .n)))))))))))) ?_; refine At.H.done (by kernel_rfl) ?_; refine At.thn (sR 2 rfl (nT (At.seq (At.region ?_)))); refine At.run 1 rfl (At.y (Y.load rfl rfl .z rfl rfl rfl) rfl rfl rfl (nT ?_)); refine At.block ?_; refine At.seq (sR 2 rfl (nT ?_)); obtain ⟨g5, g6, z3, j⟩ := bjoin j; let a3 : HProp := pc b4 [i6 ((gt G u).Kind), i6 ((gt G u).A), i6 ((gt G u).B), .string ⟨((gt G u).Name).toArray⟩, i6 ((gt G u).At)] 33; let c4 : HProp := pc b0 [bp b0_0, .slice A0_1 G.length c0_1, .slice A0_2 C.length c0_2, .slice A0_3 p.length c0_3, .map (some b0_4), .slice A0_5 J.length c0_5, .slice A0_6 D.length c0_6, .slice A0_7 E.length c0_7, .slice A0_8 U.length c0_8] 101; let a4 : HProp := pc b0_0 [i6 a7, .map (some b0_0_1), .map (some b0_0_2)] 82; refine At.join (X := Bool) (fun a8 => [(0, bp b0), (3, bp I), (4, bp b4), (5, .func (.func 103) #[] #[bp I]), (16, i6 ((gt G u).Kind)), (17, .bool a8)]) (fun a8 => a3 :: pc I [i6 V, i6 u] 65 :: c4 :: a4 :: mapo Fl.bs.ov Q4.fl.av b0_0_1 Z :: mapo Q9.fl.av Q4.fl.av b0_0_2 a0 :: row (Fl.int .u64) 28 A0_2 C.length c0_2 C :: row (Fl.int .i64) 3 A0_3 p.length c0_3 p :: mapo Q2.fl.av (Fl.int .i64).ov b0_4 a5 :: row Q2.fl 65 A0_5 J.length c0_5 J :: row (Fl.int .i64) 3 A0_6 D.length c0_6 D :: row (Fl.int .i64) 3 A0_7 E.length c0_7 E :: rows (Fl.int .i64) 3 39 A0_8 U.length c0_8 U :: Fr) (fun a8 => g5 (.inl a8) = some r) ?_ (fun f0 => ?_)
     ·rintro a8 j; have j := (g6 _).symm.trans j
      ·rcases bite j with ⟨c5, j⟩ | ⟨c5, j⟩
       ··refine At.condT rfl c5 ?_
         refine At.region (At.run 1 rfl (At.y (Y.load rfl rfl (.s .z) rfl rfl rfl) rfl rfl rfl (At.run 1 rfl (At.y (Y.load rfl rfl .z rfl rfl rfl) rfl rfl rfl (At.run 1 rfl (At.f12 (At.f12 ?_))))))); refine At.f12 (At.f12 (At.f12 (At.f12 (At.f12 (At.f12 (At.f12 (At.f12 ?_))))))); refine At.f12 ?_; obtain ⟨c6, g7, j⟩ := bbind j; refine At.call rfl Q86.callee rfl rfl rfl (Q86.spec hr0_1 rfl hc0_1 rfl rfl rfl rfl rfl rfl g7) ?_; rintro _ _ ⟨z4, g8, g9, h0, h1, z5, h2, h3, z6, h4, h5, rfl, rfl, rfl, rfl, rfl⟩; refine At.nil ?_; refine At.ibn ?_; refine At.rowLen (.s (.s (.s (.s (.s (.s (.s (.s .z)))))))) fun h6 => ?_; refine At.drop (.s (.s (.s (.s (.s (.s (.s (.s (.s (.s (.s .z))))))))))) (At.drop (.s (.s (.s (.s (.s (.s (.s (.s (.s (.s (.s .z))))))))))) ?_); cases bret j; exact At.res (.inr rfl) rfl rfl ⟨c6.2.1.length, g8, g9, (D ++ ([0] : List Int)).length, h0, h1, c6.2.2.2.1.length, h2, h3, c6.2.2.2.2.length, h4, h5, rfl, rfl, rfl, h6, rfl, rfl⟩
       ··refine At.condF rfl (bn c5) ?_
         refine At.seq (sR 2 rfl (nT ?_)); obtain ⟨h7, h8, z7, j⟩ := bjoin j; refine At.join (X := Bool) (fun a9 => [(0, bp b0), (3, bp I), (4, bp b4), (5, .func (.func 103) #[] #[bp I]), (16, i6 ((gt G u).Kind)), (26, .bool a9)]) (fun a9 => a3 :: pc I [i6 V, i6 u] 65 :: c4 :: a4 :: mapo Fl.bs.ov Q4.fl.av b0_0_1 Z :: mapo Q9.fl.av Q4.fl.av b0_0_2 a0 :: row (Fl.int .u64) 28 A0_2 C.length c0_2 C :: row (Fl.int .i64) 3 A0_3 p.length c0_3 p :: mapo Q2.fl.av (Fl.int .i64).ov b0_4 a5 :: row Q2.fl 65 A0_5 J.length c0_5 J :: row (Fl.int .i64) 3 A0_6 D.length c0_6 D :: row (Fl.int .i64) 3 A0_7 E.length c0_7 E :: rows (Fl.int .i64) 3 39 A0_8 U.length c0_8 U :: Fr) (fun a9 => h7 (.inl a9) = some r) ?_ (fun f2 => ?_)
         ·rintro a9 j; have j := (h8 _).symm.trans j
          ·rcases bite j with ⟨c7, j⟩ | ⟨c7, j⟩
           ··refine At.condT rfl c7 ?_
             refine At.held [a3, pc I [i6 V, i6 u] 65, a4, mapo Fl.bs.ov Q4.fl.av b0_0_1 Z, mapo Q9.fl.av Q4.fl.av b0_0_2 a0, row (Fl.int .u64) 28 A0_2 C.length c0_2 C, row (Fl.int .i64) 3 A0_3 p.length c0_3 p] 17 rfl ?_; refine At.H.pw 0 rfl rfl rfl rfl rfl (.c .z (.c .z (.c (.s .z) (.c (.s .z) (.c (.s .z) (.c (.s .z) (.c (.s .z) .n))))))) ?_; refine At.H.tw 1 rfl (Y.load rfl rfl (.s .z) rfl rfl rfl) rfl rfl rfl (.c .z (.c .z (.c (.s .z) (.c (.s .z) (.c (.s .z) (.c (.s .z) (.c (.s .z) .n))))))) ?_; refine At.H.pw 2 rfl rfl rfl rfl rfl (.c .z (.c .z (.c (.s .z) (.c (.s .z) (.c (.s .z) (.c (.s .z) (.c (.s .z) .n))))))) ?_; refine At.H.pw 3 rfl rfl rfl rfl rfl (.c .z (.c .z (.c (.s .z) (.c (.s .z) (.c (.s .z) (.c (.s .z) (.c (.s .z) .n))))))) ?_; refine At.H.pw 4 rfl rfl rfl rfl rfl (.c .z (.c .z (.c (.s .z) (.c (.s .z) (.c (.s .z) (.c (.s .z) (.c (.s .z) .n))))))) ?_; refine At.H.pw 6 rfl rfl rfl rfl rfl (.c .z (.c .z (.c (.s .z) (.c (.s .z) (.c (.s .z) (.c (.s .z) (.c (.s .z) .n))))))) ?_; refine At.H.tw 7 rfl (Y.load rfl rfl .z rfl rfl rfl) rfl rfl rfl (.c .z (.c .z (.c (.s .z) (.c (.s .z) (.c (.s .z) (.c (.s .z) (.c (.s .z) .n))))))) ?_; refine At.H.pw 9 rfl rfl rfl rfl rfl (.c .z (.c .z (.c (.s .z) (.c (.s .z) (.c (.s .z) (.c (.s .z) (.c (.s .z) .n))))))) ?_; refine At.H.tw 10 rfl (Y.load rfl rfl (.s .z) rfl rfl rfl) rfl rfl rfl (.c .z (.c .z (.c (.s .z) (.c (.s .z) (.c (.s .z) (.c (.s .z) (.c (.s .z) .n))))))) ?_; refine At.H.pw 12 rfl rfl rfl rfl rfl (.c .z (.c .z (.c (.s .z) (.c (.s .z) (.c (.s .z) (.c (.s .z) (.c (.s .z) .n))))))) ?_; refine At.H.tw 13 rfl (Y.load rfl rfl .z rfl rfl rfl) rfl rfl rfl (.c .z (.c .z (.c (.s .z) (.c (.s .z) (.c (.s .z) (.c (.s .z) (.c (.s .z) .n))))))) ?_; refine At.H.pw 14 rfl rfl rfl rfl rfl (.c .z (.c .z (.c (.s .z) (.c (.s .z) (.c (.s .z) (.c (.s .z) (.c (.s .z) .n))))))) ?_; refine At.H.al [5] (Q7 ?_ Q8)
             ··refine At.HO.op rfl ?_
               refine At.y (Y.load rfl rfl (.s (.s .z)) rfl rfl rfl) rfl rfl rfl ?_; refine At.HO.back (.c .z (.c .z (.c (.s .z) (.c (.s .z) (.c (.s .z) (.c (.s .z) (.c (.s .z) .n))))))) ?_; refine At.H.al [8] (Q7 ?_ Q8)
               ··refine At.HO.op rfl ?_
                 refine At.f5 (At.f5 (At.f5 ?_)); obtain ⟨z8, h9, j⟩ := bbind j; refine At.call rfl Q133.callee rfl rfl rfl (Q133.spec h9) ?_; rintro _ _ ⟨rfl, rfl⟩; refine At.HO.back (.c (.s (.s (.s .z))) (.c (.s (.s (.s .z))) (.c .z (.c .z (.c .z (.c (.s .z) (.c (.s .z) .n))))))) ?_; refine At.H.al [11] (Q7 ?_ Q8)
                 ··refine At.HO.op rfl ?_
                   obtain ⟨z9, k0, j⟩ := bbind j; refine At.call rfl Q110.callee rfl rfl rfl (Q110.spec k0) ?_; rintro _ _ ⟨rfl, rfl⟩; refine At.HO.back (.c (.s (.s (.s .z))) (.c (.s (.s (.s .z))) (.c .z (.c .z (.c .z (.c (.s .z) (.c (.s .z) .n))))))) ?_; refine At.H.pw 15 rfl rfl rfl rfl rfl (.c (.s (.s (.s .z))) (.c (.s (.s (.s .z))) (.c .z (.c .z (.c .z (.c (.s .z) (.c (.s .z) .n))))))) ?_; refine At.H.al [16] (Q7 ?_ Q8)
                   ··refine At.HO.op rfl ?_
                     refine At.f12 (At.f12 (At.f12 (At.f12 (At.f12 (At.f12 (At.f12 (At.f9 ?_))))))); refine At.f9 (At.f9 (At.f12 ?_)); obtain ⟨c8, k1, j⟩ := bbind j; refine At.call rfl Q86.callee rfl rfl rfl (Q86.spec hr0_1 rfl hc0_1 rfl rfl rfl rfl rfl rfl k1) ?_; rintro _ _ ⟨A2, k2, k3, k4, k5, A4, k6, k7, A5, k8, k9, rfl, rfl, rfl, rfl, rfl⟩; refine At.HO.back (.c (.s (.s (.s (.s (.s (.s (.s (.s (.s (.s (.s .z))))))))))) (.c (.s (.s (.s (.s (.s (.s (.s (.s (.s (.s (.s .z))))))))))) (.c (.s .z) (.c (.s .z) (.c (.s .z) (.c (.s .z) (.c (.s .z) .n))))))) ?_; refine At.H.done (by kernel_rfl) ?_; refine At.ibn ?_; refine At.rowLen (.s (.s (.s (.s (.s (.s (.s (.s .z)))))))) fun l6 => ?_; refine At.drop (.s (.s (.s (.s (.s (.s (.s (.s (.s (.s (.s .z))))))))))) (At.drop (.s (.s (.s (.s (.s (.s (.s (.s (.s (.s (.s .z))))))))))) ?_); cases bret j; exact At.res (.inr rfl) rfl rfl ⟨c8.2.1.length, k2, k3, (D ++ ([0] : List Int)).length, k4, k5, c8.2.2.2.1.length, k6, k7, c8.2.2.2.2.length, k8, k9, rfl, rfl, rfl, l6, rfl, rfl⟩
           ··refine At.condF rfl (bn c7) ?_
             refine sR 2 rfl (nT ?_); rcases bite j with ⟨c9, j⟩ | ⟨c9, j⟩
             ··refine At.condT rfl (decide_eq_true c9) ?_
               refine At.held [a3, pc I [i6 V, i6 u] 65, a4, mapo Fl.bs.ov Q4.fl.av b0_0_1 Z, mapo Q9.fl.av Q4.fl.av b0_0_2 a0, row (Fl.int .u64) 28 A0_2 C.length c0_2 C, row (Fl.int .i64) 3 A0_3 p.length c0_3 p] 14 rfl ?_; refine At.H.pw 0 rfl rfl rfl rfl rfl (.c .z (.c .z (.c (.s .z) (.c (.s .z) (.c (.s .z) (.c (.s .z) (.c (.s .z) .n))))))) ?_; refine At.H.pw 1 rfl rfl rfl rfl rfl (.c .z (.c .z (.c (.s .z) (.c (.s .z) (.c (.s .z) (.c (.s .z) (.c (.s .z) .n))))))) ?_; refine At.H.pw 2 rfl rfl rfl rfl rfl (.c .z (.c .z (.c (.s .z) (.c (.s .z) (.c (.s .z) (.c (.s .z) (.c (.s .z) .n))))))) ?_; refine At.H.pw 3 rfl rfl rfl rfl rfl (.c .z (.c .z (.c (.s .z) (.c (.s .z) (.c (.s .z) (.c (.s .z) (.c (.s .z) .n))))))) ?_; refine At.H.pw 4 rfl rfl rfl rfl rfl (.c .z (.c .z (.c (.s .z) (.c (.s .z) (.c (.s .z) (.c (.s .z) (.c (.s .z) .n))))))) ?_; refine At.H.pw 6 rfl rfl rfl rfl rfl (.c .z (.c .z (.c (.s .z) (.c (.s .z) (.c (.s .z) (.c (.s .z) (.c (.s .z) .n))))))) ?_; refine At.H.tw 7 rfl (Y.load rfl rfl (.s .z) rfl rfl rfl) rfl rfl rfl (.c .z (.c .z (.c (.s .z) (.c (.s .z) (.c (.s .z) (.c (.s .z) (.c (.s .z) .n))))))) ?_; refine At.H.al [5] (Q7 ?_ Q8)
               ··refine At.HO.op rfl ?_
                 refine At.y (Y.load rfl rfl (.s (.s .z)) rfl rfl rfl) rfl rfl rfl ?_; refine At.HO.back (.c .z (.c .z (.c (.s .z) (.c (.s .z) (.c (.s .z) (.c (.s .z) (.c (.s .z) .n))))))) ?_; obtain ⟨b5, j⟩ := bnone j; refine At.H.tw 8 rfl (Y.ix (.s (.s (.s (.s (.s .z))))) rfl rfl rfl rfl rfl rfl b5.1 b5.2) rfl rfl rfl (.c .z (.c .z (.c (.s .z) (.c (.s .z) (.c (.s .z) (.c (.s .z) (.c (.s .z) .n))))))) ?_; refine At.H.tw 9 rfl (Y.ld (.s (.s (.s (.s (.s .z))))) (q := 0) rfl rfl b5.1 b5.2 rfl rfl rfl) rfl rfl rfl (.c .z (.c .z (.c (.s .z) (.c (.s .z) (.c (.s .z) (.c (.s .z) (.c (.s .z) .n))))))) ?_; refine At.H.al [10] (Q7 ?_ Q8)
                 ··refine At.HO.op rfl ?_
                   obtain ⟨A6, l7, j⟩ := bbind j; refine At.call rfl Q26.callee rfl rfl rfl (Q26.spec hg0 l7) ?_; rintro _ _ ⟨rfl, rfl⟩; refine At.HO.back (.c .z (.c .z (.c (.s .z) (.c (.s .z) (.c (.s .z) (.c (.s .z) (.c (.s .z) .n))))))) ?_; refine At.H.al [11] (Q7 ?_ Q8)
                   ··refine At.HO.op rfl ?_
                     refine At.f1 ?_; obtain ⟨f3, l8, j⟩ := bbind j; refine At.call rfl Q40.callee rfl rfl rfl (Q40.spec l8) ?_; rintro _ _ ⟨rfl, rfl⟩; refine At.HO.back (.c (.s .z) (.c .z (.c (.s .z) (.c (.s .z) (.c (.s .z) (.c (.s .z) (.c (.s .z) .n))))))) ?_; refine At.H.al [12] (Q7 ?_ Q8)
                     ··refine At.HO.op rfl ?_
                       refine At.lit rfl (xo := [.tmp 59]) (ys := ([(⟨f3.1, f3.2⟩ : Q2)] : List Q2)) Q2.fl rfl rfl rfl rfl rfl rfl rfl rfl rfl rfl rfl (fun A7 A8 => ?_); refine At.HO.back (.c (.s (.s .z)) (.c (.s .z) (.c (.s (.s .z)) (.c (.s (.s .z)) (.c (.s (.s .z)) (.c (.s (.s .z)) (.c (.s (.s .z)) .n))))))) ?_; refine At.H.al [13] (Q7 ?_ Q8)
                       ··refine At.HO.op rfl ?_
                         refine At.freeze .z fun A9 l9 m0 m1 m2 m3 => ?_; refine At.f12 (At.f12 (At.f12 (At.f12 (At.f12 (At.f12 (At.f12 (At.f12 ?_))))))); refine At.f12 (At.f12 (At.f12 ?_)); obtain ⟨f4, m4, j⟩ := bbind j; refine At.call rfl Q17.callee rfl rfl rfl (Q17.spec (RdS.mono m2 hr0_1) rfl hc0_1 rfl rfl rfl rfl rfl rfl l9 m0 m1 m4) ?_; rintro _ _ ⟨B0, m5, m6, m7, m8, m9, n2, B1, n4, n5, rfl, rfl, rfl, rfl⟩; refine At.thaw m3 ?_; refine At.HO.back (.c (.s (.s (.s (.s (.s (.s (.s (.s (.s (.s (.s (.s (.s .z))))))))))))) (.c (.s (.s (.s (.s (.s (.s (.s (.s (.s (.s (.s (.s .z)))))))))))) (.c (.s (.s .z)) (.c (.s (.s .z)) (.c (.s (.s .z)) (.c (.s (.s .z)) (.c (.s (.s .z)) .n))))))) ?_; refine At.H.done (by kernel_rfl) ?_; refine At.ibn ?_; refine At.rowLen (.s (.s (.s (.s (.s (.s (.s (.s (.s .z))))))))) fun n6 => ?_; refine At.rowLen (.s (.s (.s (.s (.s (.s (.s (.s (.s (.s .z)))))))))) fun n7 => ?_; refine At.drop .z (At.drop (.s (.s (.s (.s (.s (.s (.s (.s (.s (.s (.s .z))))))))))) (At.drop (.s (.s (.s (.s (.s (.s (.s (.s (.s (.s (.s .z))))))))))) ?_)); cases bret j; exact At.res (.inr rfl) rfl rfl ⟨f4.2.2.2.2.length, n4, n5, (D ++ ([0] : List Int)).length, m9, n2, (E ++ ([0] : List Int)).length, m7, m8, f4.1.length, m5, m6, rfl, rfl, rfl, n6, n7, rfl⟩
             ··refine At.condF rfl (decide_eq_false c9) ?_
               refine sR 2 rfl (nT ?_); rcases bite j with ⟨d0, j⟩ | ⟨d0, j⟩
               ··refine At.condT rfl (decide_eq_true d0) ?_
                 refine At.held [a3, pc I [i6 V, i6 u] 65, a4, mapo Fl.bs.ov Q4.fl.av b0_0_1 Z, mapo Q9.fl.av Q4.fl.av b0_0_2 a0, row (Fl.int .u64) 28 A0_2 C.length c0_2 C, row (Fl.int .i64) 3 A0_3 p.length c0_3 p] 11 rfl ?_; refine At.H.pw 0 rfl rfl rfl rfl rfl (.c .z (.c .z (.c (.s .z) (.c (.s .z) (.c (.s .z) (.c (.s .z) (.c (.s .z) .n))))))) ?_; refine At.H.pw 1 rfl rfl rfl rfl rfl (.c .z (.c .z (.c (.s .z) (.c (.s .z) (.c (.s .z) (.c (.s .z) (.c (.s .z) .n))))))) ?_; refine At.H.pw 2 rfl rfl rfl rfl rfl (.c .z (.c .z (.c (.s .z) (.c (.s .z) (.c (.s .z) (.c (.s .z) (.c (.s .z) .n))))))) ?_; refine At.H.tw 3 rfl (Y.load rfl rfl .z rfl rfl rfl) rfl rfl rfl (.c .z (.c .z (.c (.s .z) (.c (.s .z) (.c (.s .z) (.c (.s .z) (.c (.s .z) .n))))))) ?_; refine At.H.pw 5 rfl rfl rfl rfl rfl (.c .z (.c .z (.c (.s .z) (.c (.s .z) (.c (.s .z) (.c (.s .z) (.c (.s .z) .n))))))) ?_; refine At.H.pw 6 rfl rfl rfl rfl rfl (.c .z (.c .z (.c (.s .z) (.c (.s .z) (.c (.s .z) (.c (.s .z) (.c (.s .z) .n))))))) ?_; refine At.H.tw 7 rfl (Y.load rfl rfl .z rfl rfl rfl) rfl rfl rfl (.c .z (.c .z (.c (.s .z) (.c (.s .z) (.c (.s .z) (.c (.s .z) (.c (.s .z) .n))))))) ?_; refine At.H.al [4] (Q7 ?_ Q8)
                 ··refine At.HO.op rfl ?_
                   refine At.f1 ?_; obtain ⟨f6, n8, j⟩ := bbind j; refine At.call rfl Q40.callee rfl rfl rfl (Q40.spec n8) ?_; rintro _ _ ⟨rfl, rfl⟩; refine At.HO.back (.c (.s .z) (.c .z (.c (.s .z) (.c (.s .z) (.c (.s .z) (.c (.s .z) (.c (.s .z) .n))))))) ?_; refine At.H.al [8] (Q7 ?_ Q8)
                   ··refine At.HO.op rfl ?_
                     obtain ⟨f7, n9, j⟩ := bbind j; refine At.call rfl Q40.callee rfl rfl rfl (Q40.spec n9) ?_; rintro _ _ ⟨rfl, rfl⟩; refine At.HO.back (.c (.s .z) (.c .z (.c (.s .z) (.c (.s .z) (.c (.s .z) (.c (.s .z) (.c (.s .z) .n))))))) ?_; refine At.H.al [9] (Q7 ?_ Q8)
                     ··refine At.HO.op rfl ?_
                       refine At.lit rfl (xo := [.tmp 68, .tmp 72]) (ys := ([(⟨f6.1, f6.2⟩ : Q2), (⟨f7.1, f7.2⟩ : Q2)] : List Q2)) Q2.fl rfl rfl rfl rfl rfl rfl rfl rfl rfl rfl rfl (fun B2 B3 => ?_); refine At.HO.back (.c (.s (.s .z)) (.c (.s .z) (.c (.s (.s .z)) (.c (.s (.s .z)) (.c (.s (.s .z)) (.c (.s (.s .z)) (.c (.s (.s .z)) .n))))))) ?_; refine At.H.al [10] (Q7 ?_ Q8)
                       ··refine At.HO.op rfl ?_
                         refine At.freeze .z fun B4 o0 o7 o8 o9 p0 => ?_; refine At.f12 (At.f12 (At.f12 (At.f12 (At.f12 (At.f12 (At.f12 (At.f12 ?_))))))); refine At.f12 (At.f12 (At.f12 ?_)); obtain ⟨f8, p1, j⟩ := bbind j; refine At.call rfl Q17.callee rfl rfl rfl (Q17.spec (RdS.mono o9 hr0_1) rfl hc0_1 rfl rfl rfl rfl rfl rfl o0 o7 o8 p1) ?_; rintro _ _ ⟨B5, p2, p3, p4, p5, p6, p7, B6, p8, p9, rfl, rfl, rfl, rfl⟩; refine At.thaw p0 ?_; refine At.HO.back (.c (.s (.s (.s (.s (.s (.s (.s (.s (.s (.s (.s (.s (.s .z))))))))))))) (.c (.s (.s (.s (.s (.s (.s (.s (.s (.s (.s (.s (.s .z)))))))))))) (.c (.s (.s .z)) (.c (.s (.s .z)) (.c (.s (.s .z)) (.c (.s (.s .z)) (.c (.s (.s .z)) .n))))))) ?_; refine At.H.done (by kernel_rfl) ?_; refine At.ibn ?_; refine At.rowLen (.s (.s (.s (.s (.s (.s (.s (.s (.s .z))))))))) fun q0 => ?_; refine At.rowLen (.s (.s (.s (.s (.s (.s (.s (.s (.s (.s .z)))))))))) fun q1 => ?_; refine At.drop .z (At.drop (.s (.s (.s (.s (.s (.s (.s (.s (.s (.s (.s .z))))))))))) (At.drop (.s (.s (.s (.s (.s (.s (.s (.s (.s (.s (.s .z))))))))))) ?_)); cases bret j; exact At.res (.inr rfl) rfl rfl ⟨f8.2.2.2.2.length, p8, p9, (D ++ ([1] : List Int)).length, p6, p7, (E ++ ([0] : List Int)).length, p4, p5, f8.1.length, p2, p3, rfl, rfl, rfl, q0, q1, rfl⟩
               ··refine At.condF rfl (decide_eq_false d0) ?_
                 refine sR 2 rfl (nT ?_); rcases bite j with ⟨d1, j⟩ | ⟨d1, j⟩
                 ··refine At.condT rfl (decide_eq_true d1) ?_
                   refine At.held [a3, pc I [i6 V, i6 u] 65, a4, mapo Fl.bs.ov Q4.fl.av b0_0_1 Z, mapo Q9.fl.av Q4.fl.av b0_0_2 a0, row (Fl.int .u64) 28 A0_2 C.length c0_2 C, row (Fl.int .i64) 3 A0_3 p.length c0_3 p] 11 rfl ?_; refine At.H.pw 0 rfl rfl rfl rfl rfl (.c .z (.c .z (.c (.s .z) (.c (.s .z) (.c (.s .z) (.c (.s .z) (.c (.s .z) .n))))))) ?_; refine At.H.pw 1 rfl rfl rfl rfl rfl (.c .z (.c .z (.c (.s .z) (.c (.s .z) (.c (.s .z) (.c (.s .z) (.c (.s .z) .n))))))) ?_; refine At.H.pw 2 rfl rfl rfl rfl rfl (.c .z (.c .z (.c (.s .z) (.c (.s .z) (.c (.s .z) (.c (.s .z) (.c (.s .z) .n))))))) ?_; refine At.H.tw 3 rfl (Y.load rfl rfl .z rfl rfl rfl) rfl rfl rfl (.c .z (.c .z (.c (.s .z) (.c (.s .z) (.c (.s .z) (.c (.s .z) (.c (.s .z) .n))))))) ?_; refine At.H.pw 5 rfl rfl rfl rfl rfl (.c .z (.c .z (.c (.s .z) (.c (.s .z) (.c (.s .z) (.c (.s .z) (.c (.s .z) .n))))))) ?_; refine At.H.pw 6 rfl rfl rfl rfl rfl (.c .z (.c .z (.c (.s .z) (.c (.s .z) (.c (.s .z) (.c (.s .z) (.c (.s .z) .n))))))) ?_; refine At.H.tw 7 rfl (Y.load rfl rfl .z rfl rfl rfl) rfl rfl rfl (.c .z (.c .z (.c (.s .z) (.c (.s .z) (.c (.s .z) (.c (.s .z) (.c (.s .z) .n))))))) ?_; refine At.H.al [4] (Q7 ?_ Q8)
                   ··refine At.HO.op rfl ?_
                     refine At.f1 ?_; obtain ⟨g0, q2, j⟩ := bbind j; refine At.call rfl Q40.callee rfl rfl rfl (Q40.spec q2) ?_; rintro _ _ ⟨rfl, rfl⟩; refine At.HO.back (.c (.s .z) (.c .z (.c (.s .z) (.c (.s .z) (.c (.s .z) (.c (.s .z) (.c (.s .z) .n))))))) ?_; refine At.H.al [8] (Q7 ?_ Q8)
                     ··refine At.HO.op rfl ?_
                       obtain ⟨g1, q3, j⟩ := bbind j; refine At.call rfl Q40.callee rfl rfl rfl (Q40.spec q3) ?_; rintro _ _ ⟨rfl, rfl⟩; refine At.HO.back (.c (.s .z) (.c .z (.c (.s .z) (.c (.s .z) (.c (.s .z) (.c (.s .z) (.c (.s .z) .n))))))) ?_; refine At.H.al [9] (Q7 ?_ Q8)
                       ··refine At.HO.op rfl ?_
                         refine At.lit rfl (xo := [.tmp 81, .tmp 85]) (ys := ([(⟨g0.1, g0.2⟩ : Q2), (⟨g1.1, g1.2⟩ : Q2)] : List Q2)) Q2.fl rfl rfl rfl rfl rfl rfl rfl rfl rfl rfl rfl (fun B7 B8 => ?_); refine At.HO.back (.c (.s (.s .z)) (.c (.s .z) (.c (.s (.s .z)) (.c (.s (.s .z)) (.c (.s (.s .z)) (.c (.s (.s .z)) (.c (.s (.s .z)) .n))))))) ?_; refine At.H.al [10] (Q7 ?_ Q8)
                         ··refine At.HO.op rfl ?_
                           refine At.freeze .z fun B9 q4 q5 q6 q7 q8 => ?_; refine At.f12 (At.f12 (At.f12 (At.f12 (At.f12 (At.f12 (At.f12 (At.f12 ?_))))))); refine At.f12 (At.f12 (At.f12 ?_)); obtain ⟨g2, q9, j⟩ := bbind j; refine At.call rfl Q17.callee rfl rfl rfl (Q17.spec (RdS.mono q7 hr0_1) rfl hc0_1 rfl rfl rfl rfl rfl rfl q4 q5 q6 q9) ?_; rintro _ _ ⟨C0, r0, r1, r2, r3, r4, r5, C1, r6, r7, rfl, rfl, rfl, rfl⟩; refine At.thaw q8 ?_; refine At.HO.back (.c (.s (.s (.s (.s (.s (.s (.s (.s (.s (.s (.s (.s (.s .z))))))))))))) (.c (.s (.s (.s (.s (.s (.s (.s (.s (.s (.s (.s (.s .z)))))))))))) (.c (.s (.s .z)) (.c (.s (.s .z)) (.c (.s (.s .z)) (.c (.s (.s .z)) (.c (.s (.s .z)) .n))))))) ?_; refine At.H.done (by kernel_rfl) ?_; refine At.ibn ?_; refine At.rowLen (.s (.s (.s (.s (.s (.s (.s (.s (.s .z))))))))) fun r8 => ?_; refine At.rowLen (.s (.s (.s (.s (.s (.s (.s (.s (.s (.s .z)))))))))) fun r9 => ?_; refine At.drop .z (At.drop (.s (.s (.s (.s (.s (.s (.s (.s (.s (.s (.s .z))))))))))) (At.drop (.s (.s (.s (.s (.s (.s (.s (.s (.s (.s (.s .z))))))))))) ?_)); cases bret j; exact At.res (.inr rfl) rfl rfl ⟨g2.2.2.2.2.length, r6, r7, (D ++ ([0] : List Int)).length, r4, r5, (E ++ ([0] : List Int)).length, r2, r3, g2.1.length, r0, r1, rfl, rfl, rfl, r8, r9, rfl⟩
                 ··refine At.condF rfl (decide_eq_false d1) ?_
                   refine sR 2 rfl (nT ?_); rcases bite j with ⟨d2, j⟩ | ⟨d2, j⟩
                   ··refine At.condT rfl (decide_eq_true d2) ?_
                     refine At.region (At.run 1 rfl (At.y (Y.load rfl rfl (.s .z) rfl rfl rfl) rfl rfl rfl (At.y (Y.load rfl rfl .z rfl rfl rfl) rfl rfl rfl (At.f12 (At.f12 (At.f12 (At.f12 ?_))))))); refine At.f12 (At.f12 (At.f12 (At.f12 (At.f12 (At.f12 (At.f12 ?_)))))); obtain ⟨d3, s0, j⟩ := bbind j; refine At.call rfl Q45.callee rfl rfl rfl (Q45.spec hr0_1 rfl hc0_1 rfl rfl rfl rfl rfl rfl hg0 s0) ?_; rintro _ _ ⟨C2, s1, s2, s3, s4, C3, s5, s6, C4, s7, s8, rfl, rfl, rfl, rfl, rfl⟩; refine At.nil ?_; refine At.ibn ?_; refine At.rowLen (.s (.s (.s (.s (.s (.s (.s (.s .z)))))))) fun s9 => ?_; refine At.drop (.s (.s (.s (.s (.s (.s (.s (.s (.s (.s (.s .z))))))))))) (At.drop (.s (.s (.s (.s (.s (.s (.s (.s (.s (.s (.s .z))))))))))) ?_); cases bret j; exact At.res (.inr rfl) rfl rfl ⟨d3.2.1.length, s1, s2, (D ++ ([0] : List Int)).length, s3, s4, d3.2.2.2.1.length, s5, s6, d3.2.2.2.2.length, s7, s8, rfl, rfl, rfl, s9, rfl, rfl⟩
                   ··refine At.condF rfl (decide_eq_false d2) ?_
                     refine sR 2 rfl (nT ?_); rcases bite j with ⟨d4, j⟩ | ⟨d4, j⟩
                     ··refine At.condT rfl (decide_eq_true d4) ?_
                       refine At.region (At.run 1 rfl (At.y (Y.load rfl rfl (.s .z) rfl rfl rfl) rfl rfl rfl (At.y (Y.load rfl rfl .z rfl rfl rfl) rfl rfl rfl (At.f12 (At.f12 (At.f12 (At.f12 ?_))))))); refine At.f12 (At.f12 (At.f12 (At.f12 (At.f12 (At.f12 (At.f12 ?_)))))); obtain ⟨d5, t0, j⟩ := bbind j; refine At.call rfl Q45.callee rfl rfl rfl (Q45.spec hr0_1 rfl hc0_1 rfl rfl rfl rfl rfl rfl hg0 t0) ?_; rintro _ _ ⟨C5, t1, t3, t4, t5, C6, t6, t7, C7, t8, t9, rfl, rfl, rfl, rfl, rfl⟩; refine At.nil ?_; refine At.ibn ?_; refine At.rowLen (.s (.s (.s (.s (.s (.s (.s (.s .z)))))))) fun u0 => ?_; refine At.drop (.s (.s (.s (.s (.s (.s (.s (.s (.s (.s (.s .z))))))))))) (At.drop (.s (.s (.s (.s (.s (.s (.s (.s (.s (.s (.s .z))))))))))) ?_); cases bret j; exact At.res (.inr rfl) rfl rfl ⟨d5.2.1.length, t1, t3, (D ++ ([1] : List Int)).length, t4, t5, d5.2.2.2.1.length, t6, t7, d5.2.2.2.2.length, t8, t9, rfl, rfl, rfl, u0, rfl, rfl⟩
                     ··refine At.condF rfl (decide_eq_false d4) ?_
                       refine At.seq (sR 2 rfl (nT ?_)); obtain ⟨u1, u2, C8, j⟩ := bjoin j; refine At.join (X := Bool) (fun b2 => [(0, bp b0), (3, bp I), (4, bp b4), (5, .func (.func 103) #[] #[bp I]), (100, .bool b2)]) (fun b2 => a3 :: pc I [i6 V, i6 u] 65 :: c4 :: a4 :: mapo Fl.bs.ov Q4.fl.av b0_0_1 Z :: mapo Q9.fl.av Q4.fl.av b0_0_2 a0 :: row (Fl.int .u64) 28 A0_2 C.length c0_2 C :: row (Fl.int .i64) 3 A0_3 p.length c0_3 p :: mapo Q2.fl.av (Fl.int .i64).ov b0_4 a5 :: row Q2.fl 65 A0_5 J.length c0_5 J :: row (Fl.int .i64) 3 A0_6 D.length c0_6 D :: row (Fl.int .i64) 3 A0_7 E.length c0_7 E :: rows (Fl.int .i64) 3 39 A0_8 U.length c0_8 U :: Fr) (fun b2 => u1 (.inl b2) = some r) ?_ (fun g3 => ?_)
                       ·rintro b2 j; have j := (u2 _).symm.trans j
                        ·rcases bite j with ⟨d6, j⟩ | ⟨d6, j⟩
                         ··refine At.condT rfl d6 ?_
                           refine At.held [a3, pc I [i6 V, i6 u] 65, a4, mapo Fl.bs.ov Q4.fl.av b0_0_1 Z, mapo Q9.fl.av Q4.fl.av b0_0_2 a0, row (Fl.int .u64) 28 A0_2 C.length c0_2 C, row (Fl.int .i64) 3 A0_3 p.length c0_3 p] 15 rfl ?_; refine At.H.pw 0 rfl rfl rfl rfl rfl (.c .z (.c .z (.c (.s .z) (.c (.s .z) (.c (.s .z) (.c (.s .z) (.c (.s .z) .n))))))) ?_; refine At.H.pw 1 rfl rfl rfl rfl rfl (.c .z (.c .z (.c (.s .z) (.c (.s .z) (.c (.s .z) (.c (.s .z) (.c (.s .z) .n))))))) ?_; refine At.H.pw 2 rfl rfl rfl rfl rfl (.c .z (.c .z (.c (.s .z) (.c (.s .z) (.c (.s .z) (.c (.s .z) (.c (.s .z) .n))))))) ?_; refine At.H.pw 3 rfl rfl rfl rfl rfl (.c .z (.c .z (.c (.s .z) (.c (.s .z) (.c (.s .z) (.c (.s .z) (.c (.s .z) .n))))))) ?_; refine At.H.pw 5 rfl rfl rfl rfl rfl (.c .z (.c .z (.c (.s .z) (.c (.s .z) (.c (.s .z) (.c (.s .z) (.c (.s .z) .n))))))) ?_; refine At.H.tw 6 rfl (Y.load rfl rfl (.s .z) rfl rfl rfl) rfl rfl rfl (.c .z (.c .z (.c (.s .z) (.c (.s .z) (.c (.s .z) (.c (.s .z) (.c (.s .z) .n))))))) ?_; refine At.H.pw 9 rfl rfl rfl rfl rfl (.c .z (.c .z (.c (.s .z) (.c (.s .z) (.c (.s .z) (.c (.s .z) (.c (.s .z) .n))))))) ?_; refine At.H.pw 10 rfl rfl rfl rfl rfl (.c .z (.c .z (.c (.s .z) (.c (.s .z) (.c (.s .z) (.c (.s .z) (.c (.s .z) .n))))))) ?_; refine At.H.tw 11 rfl (Y.load rfl rfl .z rfl rfl rfl) rfl rfl rfl (.c .z (.c .z (.c (.s .z) (.c (.s .z) (.c (.s .z) (.c (.s .z) (.c (.s .z) .n))))))) ?_; obtain ⟨a6, g4, j⟩ := bbind j; obtain ⟨a2, d7, j⟩ := bbind j; obtain ⟨a1, j⟩ := bnone j; refine At.H.joinK (X := (Option Addr) × Nat × (Option Addr) × Nat × (Option Addr) × Nat × (Option Addr) × Nat) (fun s_ => []) (fun s_ => pc b0 [bp b0_0, .slice A0_1 G.length c0_1, .slice A0_2 C.length c0_2, .slice A0_3 p.length c0_3, .map (some b0_4), .slice s_.1 a2.2.2.2.2.length s_.2.1, .slice s_.2.2.1 ((D ++ ([0] : List Int)).length) s_.2.2.2.1, .slice s_.2.2.2.2.1 ((E ++ ([(gt p u)] : List Int)).length) s_.2.2.2.2.2.1, .slice s_.2.2.2.2.2.2.1 a2.1.length s_.2.2.2.2.2.2.2] 101 :: a4 :: mapo Fl.bs.ov Q4.fl.av b0_0_1 Z :: mapo Q9.fl.av Q4.fl.av b0_0_2 a0 :: row (Fl.int .u64) 28 A0_2 C.length c0_2 C :: row (Fl.int .i64) 3 A0_3 p.length c0_3 p :: mapo Q2.fl.av (Fl.int .i64).ov b0_4 a2.2.2.2.1 :: row Q2.fl 65 s_.1 a2.2.2.2.2.length s_.2.1 a2.2.2.2.2 :: row (Fl.int .i64) 3 s_.2.2.1 ((D ++ ([0] : List Int)).length) s_.2.2.2.1 a2.2.2.1 :: row (Fl.int .i64) 3 s_.2.2.2.2.1 ((E ++ ([(gt p u)] : List Int)).length) s_.2.2.2.2.2.1 a2.2.1 :: rows (Fl.int .i64) 3 39 s_.2.2.2.2.2.2.1 a2.1.length s_.2.2.2.2.2.2.2 a2.1 :: pc I [i6 V, i6 u] 65 :: a3 :: Fr) (fun s_ => True) ?_ (fun d8 => ?_)
                           ·rintro ⟨u3, u4, u5, u6, u7, u9, v0, v1⟩ -
                            ·refine At.ibn ?_; refine At.rowLen (.s (.s (.s (.s (.s (.s (.s (.s .z)))))))) fun v2 => ?_; refine At.rowLen (.s (.s (.s (.s (.s (.s (.s (.s (.s .z))))))))) fun v3 => ?_; refine At.drop (.s (.s (.s (.s (.s (.s (.s (.s (.s (.s (.s .z))))))))))) (At.drop (.s (.s (.s (.s (.s (.s (.s (.s (.s (.s (.s .z))))))))))) ?_); cases bret j; exact At.res (.inr rfl) rfl rfl ⟨a2.2.2.2.2.length, u3, u4, (D ++ ([0] : List Int)).length, u5, u6, (E ++ ([(gt p u)] : List Int)).length, u7, u9, a2.1.length, v0, v1, rfl, rfl, rfl, v2, v3, rfl⟩
                           ·refine At.H.al [4, 12] (Q7 ?_ (Q7 ?_ Q8))
                            ··refine At.HO.op rfl ?_
                              refine At.y (Y.load rfl rfl (.s (.s .z)) rfl rfl rfl) rfl rfl rfl ?_; refine At.HO.back (.c .z (.c .z (.c (.s .z) (.c (.s .z) (.c (.s .z) (.c (.s .z) (.c (.s .z) .n))))))) ?_; refine At.H.tw 7 rfl (Y.ix (.s (.s (.s (.s (.s (.s .z)))))) rfl rfl rfl rfl rfl rfl a1.1 a1.2) rfl rfl rfl (.c .z (.c .z (.c (.s .z) (.c (.s .z) (.c (.s .z) (.c (.s .z) (.c (.s .z) .n))))))) ?_; refine At.H.tw 8 rfl (Y.ld (.s (.s (.s (.s (.s (.s .z)))))) (q := 0) rfl rfl a1.1 a1.2 rfl rfl rfl) rfl rfl rfl (.c .z (.c .z (.c (.s .z) (.c (.s .z) (.c (.s .z) (.c (.s .z) (.c (.s .z) .n))))))) ?_; refine At.H.al [12] (Q7 ?_ Q8)
                              ··refine At.HO.op rfl ?_
                                refine At.f1 ?_; refine At.call rfl Q40.callee rfl rfl rfl (Q40.spec g4) ?_; rintro _ _ ⟨rfl, rfl⟩; refine At.HO.back (.c (.s .z) (.c .z (.c (.s .z) (.c (.s .z) (.c (.s .z) (.c (.s .z) (.c (.s .z) .n))))))) ?_; refine At.H.al [13] (Q7 ?_ Q8)
                                ··refine At.HO.op rfl ?_
                                  refine At.lit rfl (xo := [.tmp 115]) (ys := ([(⟨a6.1, a6.2⟩ : Q2)] : List Q2)) Q2.fl rfl rfl rfl rfl rfl rfl rfl rfl rfl rfl rfl (fun C9 D0 => ?_); refine At.HO.back (.c (.s (.s .z)) (.c (.s .z) (.c (.s (.s .z)) (.c (.s (.s .z)) (.c (.s (.s .z)) (.c (.s (.s .z)) (.c (.s (.s .z)) .n))))))) ?_; refine At.H.al [14] (Q7 ?_ Q8)
                                  ··refine At.HO.op rfl ?_
                                    refine At.freeze .z fun D1 v4 v5 v6 v7 v8 => ?_; refine At.f12 (At.f12 (At.f12 (At.f12 (At.f12 (At.f12 (At.f12 (At.f12 ?_))))))); refine At.f12 (At.f12 (At.f12 ?_)); refine At.call rfl Q17.callee rfl rfl rfl (Q17.spec (RdS.mono v7 hr0_1) rfl hc0_1 rfl rfl rfl rfl rfl rfl v4 v5 v6 d7) ?_; rintro _ _ ⟨D2, v9, w0, w1, w2, w3, w4, D3, w5, w6, rfl, rfl, rfl, rfl⟩; refine At.thaw v8 ?_; refine At.HO.back (.c (.s (.s (.s (.s (.s (.s (.s (.s (.s (.s (.s (.s (.s .z))))))))))))) (.c (.s (.s (.s (.s (.s (.s (.s (.s (.s (.s (.s (.s .z)))))))))))) (.c (.s (.s .z)) (.c (.s (.s .z)) (.c (.s (.s .z)) (.c (.s (.s .z)) (.c (.s (.s .z)) .n))))))) ?_; refine At.H.done (by kernel_rfl) ?_; refine At.drop .z ?_; exact At.of (d8 (w5, w6, w3, w4, w1, w2, v9, w0) trivial) trivial
                            ··refine At.HO.op rfl ?_
                              refine At.f1 ?_; refine At.call rfl Q40.callee rfl rfl rfl (Q40.spec g4) ?_; rintro _ _ ⟨rfl, rfl⟩; refine At.HO.back (.c (.s .z) (.c .z (.c (.s .z) (.c (.s .z) (.c (.s .z) (.c (.s .z) (.c (.s .z) .n))))))) ?_; refine At.H.al [4, 13] (Q7 ?_ (Q7 ?_ Q8))
                              ··refine At.HO.op rfl ?_
                                refine At.y (Y.load rfl rfl (.s (.s .z)) rfl rfl rfl) rfl rfl rfl ?_; refine At.HO.back (.c (.s .z) (.c .z (.c (.s .z) (.c (.s .z) (.c (.s .z) (.c (.s .z) (.c (.s .z) .n))))))) ?_; refine At.H.tw 7 rfl (Y.ix (.s (.s (.s (.s (.s (.s .z)))))) rfl rfl rfl rfl rfl rfl a1.1 a1.2) rfl rfl rfl (.c (.s .z) (.c .z (.c (.s .z) (.c (.s .z) (.c (.s .z) (.c (.s .z) (.c (.s .z) .n))))))) ?_; refine At.H.tw 8 rfl (Y.ld (.s (.s (.s (.s (.s (.s .z)))))) (q := 0) rfl rfl a1.1 a1.2 rfl rfl rfl) rfl rfl rfl (.c (.s .z) (.c .z (.c (.s .z) (.c (.s .z) (.c (.s .z) (.c (.s .z) (.c (.s .z) .n))))))) ?_; refine At.H.al [13] (Q7 ?_ Q8)
                                ··refine At.HO.op rfl ?_
                                  refine At.lit rfl (xo := [.tmp 115]) (ys := ([(⟨a6.1, a6.2⟩ : Q2)] : List Q2)) Q2.fl rfl rfl rfl rfl rfl rfl rfl rfl rfl rfl rfl (fun D4 D5 => ?_); refine At.HO.back (.c (.s (.s .z)) (.c (.s .z) (.c (.s (.s .z)) (.c (.s (.s .z)) (.c (.s (.s .z)) (.c (.s (.s .z)) (.c (.s (.s .z)) .n))))))) ?_; refine At.H.al [14] (Q7 ?_ Q8)
                                  ··refine At.HO.op rfl ?_
                                    refine At.freeze .z fun D6 w7 w8 w9 x0 x1 => ?_; refine At.f12 (At.f12 (At.f12 (At.f12 (At.f12 (At.f12 (At.f12 (At.f12 ?_))))))); refine At.f12 (At.f12 (At.f12 ?_)); refine At.call rfl Q17.callee rfl rfl rfl (Q17.spec (RdS.mono x0 hr0_1) rfl hc0_1 rfl rfl rfl rfl rfl rfl w7 w8 w9 d7) ?_; rintro _ _ ⟨D7, x2, x3, x4, x5, x6, x7, D8, x8, x9, rfl, rfl, rfl, rfl⟩; refine At.thaw x1 ?_; refine At.HO.back (.c (.s (.s (.s (.s (.s (.s (.s (.s (.s (.s (.s (.s (.s .z))))))))))))) (.c (.s (.s (.s (.s (.s (.s (.s (.s (.s (.s (.s (.s .z)))))))))))) (.c (.s (.s .z)) (.c (.s (.s .z)) (.c (.s (.s .z)) (.c (.s (.s .z)) (.c (.s (.s .z)) .n))))))) ?_; refine At.H.done (by kernel_rfl) ?_; refine At.drop .z ?_; exact At.of (d8 (x8, x9, x6, x7, x4, x5, x2, x3) trivial) trivial
                              ··refine At.HO.op rfl ?_
                                refine At.lit rfl (xo := [.tmp 115]) (ys := ([(⟨a6.1, a6.2⟩ : Q2)] : List Q2)) Q2.fl rfl rfl rfl rfl rfl rfl rfl rfl rfl rfl rfl (fun D9 E0 => ?_); refine At.HO.back (.c (.s (.s .z)) (.c (.s .z) (.c (.s (.s .z)) (.c (.s (.s .z)) (.c (.s (.s .z)) (.c (.s (.s .z)) (.c (.s (.s .z)) .n))))))) ?_; refine At.H.al [4] (Q7 ?_ Q8)
                                ··refine At.HO.op rfl ?_
                                  refine At.y (Y.load rfl rfl (.s (.s (.s .z))) rfl rfl rfl) rfl rfl rfl ?_; refine At.HO.back (.c (.s (.s .z)) (.c (.s .z) (.c (.s (.s .z)) (.c (.s (.s .z)) (.c (.s (.s .z)) (.c (.s (.s .z)) (.c (.s (.s .z)) .n))))))) ?_; refine At.H.tw 7 rfl (Y.ix (.s (.s (.s (.s (.s (.s .z)))))) rfl rfl rfl rfl rfl rfl a1.1 a1.2) rfl rfl rfl (.c (.s (.s .z)) (.c (.s .z) (.c (.s (.s .z)) (.c (.s (.s .z)) (.c (.s (.s .z)) (.c (.s (.s .z)) (.c (.s (.s .z)) .n))))))) ?_; refine At.H.tw 8 rfl (Y.ld (.s (.s (.s (.s (.s (.s .z)))))) (q := 0) rfl rfl a1.1 a1.2 rfl rfl rfl) rfl rfl rfl (.c (.s (.s .z)) (.c (.s .z) (.c (.s (.s .z)) (.c (.s (.s .z)) (.c (.s (.s .z)) (.c (.s (.s .z)) (.c (.s (.s .z)) .n))))))) ?_; refine At.H.al [14] (Q7 ?_ Q8)
                                  ··refine At.HO.op rfl ?_
                                    refine At.freeze .z fun E1 y0 y1 y2 y3 y4 => ?_; refine At.f12 (At.f12 (At.f12 (At.f12 (At.f12 (At.f12 (At.f12 (At.f12 ?_))))))); refine At.f12 (At.f12 (At.f12 ?_)); refine At.call rfl Q17.callee rfl rfl rfl (Q17.spec (RdS.mono y3 hr0_1) rfl hc0_1 rfl rfl rfl rfl rfl rfl y0 y1 y2 d7) ?_; rintro _ _ ⟨E2, y5, y6, y7, y8, y9, z0, E3, z1, z2, rfl, rfl, rfl, rfl⟩; refine At.thaw y4 ?_; refine At.HO.back (.c (.s (.s (.s (.s (.s (.s (.s (.s (.s (.s (.s (.s (.s .z))))))))))))) (.c (.s (.s (.s (.s (.s (.s (.s (.s (.s (.s (.s (.s .z)))))))))))) (.c (.s (.s .z)) (.c (.s (.s .z)) (.c (.s (.s .z)) (.c (.s (.s .z)) (.c (.s (.s .z)) .n))))))) ?_; refine At.H.done (by kernel_rfl) ?_; refine At.drop .z ?_; exact At.of (d8 (z1, z2, y9, z0, y7, y8, y5, y6) trivial) trivial
                         ··refine At.condF rfl (bn d6) ?_
                           refine At.skip ?_; refine At.ibn ?_; refine At.drop .z (At.drop .z ?_); obtain rfl := (bret j).symm; exact At.res (.inr rfl) rfl rfl ⟨J.length, A0_5, c0_5, D.length, A0_6, c0_6, E.length, A0_7, c0_7, U.length, A0_8, c0_8, rfl, rfl, rfl, rfl, rfl, rfl⟩
                       ··rcases bite j with ⟨d9, j⟩ | ⟨d9, j⟩
                         ··refine At.condT rfl (decide_eq_true d9) ?_
                           refine At.skip (At.thn ?_); exact fun a w e hs => g3 (decide ((gt G u).Kind = 10)) j a w (e.sub ⟨rfl, rfl, rfl, rfl, rfl, trivial⟩) hs
                         ··refine At.condF rfl (decide_eq_false d9) ?_
                           refine At.region (At.run 2 rfl (nT ?_)); exact fun a w e hs => g3 (decide ((gt G u).Kind = 11)) j a w (e.sub ⟨rfl, rfl, rfl, rfl, rfl, trivial⟩) hs
         ··rcases bite j with ⟨e0, j⟩ | ⟨e0, j⟩
           ··refine At.condT rfl (decide_eq_true e0) ?_
             refine At.skip (At.thn ?_); exact fun a w e hs => f2 (decide ((gt G u).Kind = 3)) j a w (e.sub ⟨rfl, rfl, rfl, rfl, rfl, rfl, trivial⟩) hs
           ··refine At.condF rfl (decide_eq_false e0) ?_
             refine At.region (At.run 2 rfl (nT ?_)); exact fun a w e hs => f2 (decide ((gt G u).Kind = 12)) j a w (e.sub ⟨rfl, rfl, rfl, rfl, rfl, rfl, trivial⟩) hs
     ··rcases bite j with ⟨e1, j⟩ | ⟨e1, j⟩
       ··refine At.condT rfl (decide_eq_true e1) ?_
         refine At.skip (At.thn ?_); exact fun a w e hs => f0 (decide ((gt G u).Kind = 1)) j a w (e.sub ⟨rfl, rfl, rfl, rfl, rfl, rfl, trivial⟩) hs
       ··refine At.condF rfl (decide_eq_false e1) ?_
         refine At.region (At.run 2 rfl (nT ?_)); exact fun a w e hs => f0 (decide ((gt G u).Kind = 2)) j a w (e.sub ⟨rfl, rfl, rfl, rfl, rfl, rfl, trivial⟩) hs

end Go.Bw
namespace Go.Bw
open Go Go.RowKit Go.Proofs
variable {R : Res} {Fr : List HProp} {b0 b0_1 b0_2 n1 c1 : Nat} {A1 : Option Addr}
noncomputable def Q20.l0b (I : Int) (J : List (Bs × Q4)) (U : List (Q9 × Q4)) (a1 : List Q0) (V : (List Int)) (X : (List Int)) (C : List (Q2 × Int)) (p : List Q2) (D E : List Int) (G : List (List Int)) (q : Int) : Option (((List (Q2 × Int)) × (List Q2) × (List Int) × (List Int) × (List (List Int)) × Int) ⊕ (((List (Q2 × Int)) × (List Q2) × (List Int) × (List Int) × (List (List Int))) ⊕ ((List Q2) × (List (List Int)) × (List Int) × (List Int) × Int))) :=
 if q < (p.length : Int) then
 if 200 < (p.length : Int) then
 upL (some (([] : List Q2), ([] : List (List Int)), ([] : List Int), ([] : List Int), 18))
 else
 if (0 : Int) ≤ q ∧ q < (p.length : Int) then
 (Q126.f I J U a1 V X C p D E G ((gt p q).State) ((gt p q).Node)).bind fun u =>
 nx (u.1, u.2.1, u.2.2.1, u.2.2.2.1, u.2.2.2.2, IntKind.i64.wrap (q + 1))
 else none
 else
 dn (.inl (C, p, D, E, G))
noncomputable def Q20.l0 (p : Int) (q : List (Bs × Q4)) (u : List (Q9 × Q4)) (a1 : List Q0) (C : (List Int)) (D : (List Int)) (E : List (Q2 × Int)) (G : List Q2) (I J : List Int) (U : List (List Int)) (V : Int) : Option (((List (Q2 × Int)) × (List Q2) × (List Int) × (List Int) × (List (List Int))) ⊕ ((List Q2) × (List (List Int)) × (List Int) × (List Int) × Int)) := iter (fun t_ : (List (Q2 × Int)) × (List Q2) × (List Int) × (List Int) × (List (List Int)) × Int => Q20.l0b p q u a1 C D t_.1 t_.2.1 t_.2.2.1 t_.2.2.2.1 t_.2.2.2.2.1 t_.2.2.2.2.2) (E, G, I, J, U, V)
noncomputable def Q20.f (p : Int) (q : List (Bs × Q4)) (u : List (Q9 × Q4)) (a1 : List Q0) (a2 : Int) : Option ((List Q2) × (List (List Int)) × (List Int) × (List Int) × Int) :=
 (Q53.f a1).bind fun G =>
 jn (
 if G = true then
 some (.inl (decide (a2 < 0)))
 else
 some (.inl true)) (fun (I : Bool) =>
 jn (
 if I = true then
 some (.inl true)
 else
 (Q127.f p q u).bind fun J =>
 some (.inl (decide (J ≤ a2)))) (fun (U : Bool) =>
 if U = true then
 some (([] : List Q2), ([] : List (List Int)), ([] : List Int), ([] : List Int), 1)
 else
 (Q29.f a1).bind fun C =>
 (Q27.f a1).bind fun D =>
 (Q79.f p q u a1 C D ([] : List (Q2 × Int)) ([] : List Q2) ([] : List Int) ([] : List Int) ([] : List (List Int)) a2 (IntKind.i64.wrap ((a1.length : Int) - 1))).bind fun E =>
 jn (Q20.l0 p q u a1 C D E.1 E.2.1 ([] : List Int) ([] : List Int) ([] : List (List Int)) 0) (fun (s_ : (List (Q2 × Int)) × (List Q2) × (List Int) × (List Int) × (List (List Int))) =>
 some (s_.2.1, s_.2.2.2.2, s_.2.2.2.1, s_.2.2.1, 0))))
theorem Q20.callee : Callee Tryz.prog 24 := ⟨_, Tryz.func24, by kernel_rfl, by kernel_rfl⟩
theorem Q20.spec {I a2 : Int} {D : List (Bs × Q4)} {E : List (Q9 × Q4)} {a1 : List Q0} (hr1 : RdS Q0.fl.rep R.heap A1 a1) (hn1 : a1.length = n1) (hc1 : n1 ≤ c1) (hg0 : RdS (Fl.int .u8).rep R.heap (some ⟨0, 0, none⟩) Tryz.gtab0) {r : (List Q2) × (List (List Int)) × (List Int) × (List Int) × Int} (j : Q20.f I D E a1 a2 = some r) :
 Spec Tryz.prog 24 [bp b0, .slice A1 n1 c1, i6 a2] R (pc b0 [i6 I, .map (some b0_1), .map (some b0_2)] 82 :: mapo Fl.bs.ov Q4.fl.av b0_1 D :: mapo Q9.fl.av Q4.fl.av b0_2 E :: Fr) (fun v l' => ∃ (b8 : Nat) (e4 : Option Addr) (e5 : Nat) (b9 : Nat) (e6 : Option Addr) (e7 : Nat) (c4 : Nat) (e8 : Option Addr) (e9 : Nat) (c5 : Nat) (f0 : Option Addr) (f8 : Nat), v = .tuple #[.agg #[.slice f0 c5 f8, .slice e8 c4 e9, .slice e6 b9 e7, .slice e4 b8 e5], i6 r.2.2.2.2] ∧ row (Fl.int .i64) 3 f0 c5 f8 r.2.2.2.1 :: row (Fl.int .i64) 3 e8 c4 e9 r.2.2.1 :: rows (Fl.int .i64) 3 39 e6 b9 e7 r.2.1 :: row Q2.fl 65 e4 b8 e5 r.1 :: pc b0 [i6 I, .map (some b0_1), .map (some b0_2)] 82 :: mapo Fl.bs.ov Q4.fl.av b0_1 D :: mapo Q9.fl.av Q4.fl.av b0_2 E :: Fr = l' ∧ r.1.length = b8 ∧ r.2.1.length = b9 ∧ r.2.2.1.length = c4 ∧ r.2.2.2.1.length = c5) := by
 subst hn1; refine Spec.of Tryz.func24 rfl rfl ?_; unfold Q20.f at j; have j := brun j; refine At.seq (At.region ?_); refine At.alloc rfl rfl rfl (fun a0 => ?_); refine At.run 1 rfl (nT (At.seq (sR 1 rfl ?_))); obtain ⟨p1, g5, j⟩ := bbind j; refine At.call rfl Q53.callee rfl rfl rfl (Q53.spec hr1 rfl hc1 g5) ?_; rintro _ _ ⟨rfl, rfl⟩; refine At.run 2 rfl ?_; obtain ⟨g6, g7, p2, j⟩ := bjoin j; let T1 : HProp := pc a0 [.slice none 0 0, .slice none 0 0, .slice none 0 0, .slice none 0 0] 59; let T2 : HProp := pc b0 [i6 I, .map (some b0_1), .map (some b0_2)] 82; refine At.joinO 3 (X := Bool) (fun a3 => [(0, bp b0), (1, .slice A1 a1.length c1), (2, i6 a2), (6, bp a0), (16, .bool a3)]) (fun a3 => T1 :: T2 :: mapo Fl.bs.ov Q4.fl.av b0_1 D :: mapo Q9.fl.av Q4.fl.av b0_2 E :: Fr) (fun a3 => g6 (.inl a3) = some r) ?_ (fun f9 => ?_)
 ·rintro a3 j; have j := (g7 _).symm.trans j
  ·refine At.run 1 rfl ?_; obtain ⟨g8, g9, p3, j⟩ := bjoin j; refine At.joinO 5 (X := Bool) (fun a4 => [(0, bp b0), (1, .slice A1 a1.length c1), (2, i6 a2), (6, bp a0), (22, .bool a4)]) (fun a4 => T1 :: T2 :: mapo Fl.bs.ov Q4.fl.av b0_1 D :: mapo Q9.fl.av Q4.fl.av b0_2 E :: Fr) (fun a4 => g8 (.inl a4) = some r) ?_ (fun g0 => ?_)
   ·rintro a4 j; have j := (g9 _).symm.trans j
    ·refine nT ?_; rcases bite j with ⟨c6, j⟩ | ⟨c6, j⟩
     ··refine At.condT rfl c6 ?_
       refine At.seq (At.region ?_); refine At.y (Y.build (is := []) (xo := []) (vs := []) (cs := [.slice none 0 0, .slice none 0 0, .slice none 0 0, .slice none 0 0]) rfl rfl rfl rfl rfl rfl) rfl rfl rfl ?_; refine At.store rfl rfl rfl rfl .z rfl rfl rfl (.c (.c (.c (.c .n)))) ?_; refine At.run 1 rfl (nT (At.ret (At.thr ?_))); refine At.nilRow (Fl.int .i64) 3 ?_; refine At.nilRow (Fl.int .i64) 3 ?_; refine At.nilRows (Fl.int .i64) 3 39 ?_; refine At.nilRow Q2.fl 65 ?_; refine At.resM (.inl rfl) rfl (RV.cell rfl rfl (.s (.s (.s (.s .z)))) rfl rfl rfl (RV.tmp rfl RV.nil)) ?_; refine At.drop (.s (.s (.s (.s .z)))) (At.f6 (At.f6 (At.f6 (At.f3 (At.f4 (At.f5 (At.f6 ?_))))))); cases bret j; exact fun a w e hs => ⟨_, ⟨0, none, 0, 0, none, 0, 0, none, 0, 0, none, 0, rfl, rfl, rfl, rfl, rfl, rfl⟩, hs⟩
     ··refine At.condF rfl (bn c6) ?_
       refine At.skip (At.thn (sR 3 rfl ?_)); obtain ⟨p, h0, j⟩ := bbind j; refine At.call rfl Q29.callee rfl rfl rfl (Q29.spec hr1 rfl hc1 h0) ?_; rintro _ _ ⟨p4, J, U, rfl, rfl, rfl⟩; refine At.run 1 rfl ?_; obtain ⟨u, h1, j⟩ := bbind j; refine At.call rfl Q27.callee rfl rfl rfl (Q27.spec hr1 rfl hc1 hg0 h1) ?_; rintro _ _ ⟨p5, V, Z, rfl, rfl, rfl⟩; refine At.makeMap Q2.fl.av (Fl.int .i64).ov rfl rfl (fun G => ?_); refine At.y (Y.build (is := [0, 1, 2, 3, 4]) (xo := [.tmp 24, .tmp 25, .tmp 27, .tmp 29, .tmp 30]) (vs := [bp b0, .slice A1 a1.length c1, .slice J p.length U, .slice V u.length Z, .map (some G)]) (cs := [bp b0, .slice A1 a1.length c1, .slice J p.length U, .slice V u.length Z, .map (some G), .slice none 0 0, .slice none 0 0, .slice none 0 0, .slice none 0 0]) rfl rfl rfl rfl rfl rfl) rfl rfl rfl ?_; refine At.box rfl rfl (cs := [bp b0, .slice A1 a1.length c1, .slice J p.length U, .slice V u.length Z, .map (some G), .slice none 0 0, .slice none 0 0, .slice none 0 0, .slice none 0 0]) rfl rfl (fun a6 => ?_); refine At.run 1 rfl (nT (sR 5 rfl ?_)); refine At.y (Y.build (is := [0, 1]) (xo := [.tmp 34, .tmp 37]) (vs := [i6 a2, i6 (IntKind.i64.wrap ((a1.length : Int) - 1))]) (cs := [i6 a2, i6 (IntKind.i64.wrap ((a1.length : Int) - 1))]) rfl rfl rfl rfl rfl rfl) rfl rfl rfl ?_; refine At.nilRow Q2.fl 65 ?_; refine At.nilRow (Fl.int .i64) 3 ?_; refine At.nilRow (Fl.int .i64) 3 ?_; refine At.nilRows (Fl.int .i64) 3 39 ?_; refine At.f1 (At.f2 (At.f3 (At.f5 (At.f6 (At.f7 (At.f11 (At.f11 ?_))))))); refine At.f11 (At.f10 ?_); obtain ⟨c7, h2, j⟩ := bbind j; refine At.call rfl Q79.callee rfl rfl rfl (Q79.spec hr1 rfl hc1 rfl rfl rfl rfl rfl rfl h2) ?_; rintro _ _ ⟨p6, h3, h4, rfl, rfl, rfl⟩; refine nT (At.seq (sR 1 rfl (nT ?_))); refine At.block ?_; obtain ⟨h5, h6, h7, j⟩ := bjoin j; obtain ⟨g1, c8, g2⟩ := bsome j; clear j; unfold Q20.l0 at c8; obtain ⟨c9, a5⟩ := Q15.1 c8; clear c8; let T3 : HProp := mapo Fl.bs.ov Q4.fl.av b0_1 D; let T4 : HProp := mapo Q9.fl.av Q4.fl.av b0_2 E; let T5 : HProp := row (Fl.int .u64) 28 J p.length U p; let T6 : HProp := row (Fl.int .i64) 3 V u.length Z u; refine At.loopJ (X := (List (Q2 × Int)) × (List Q2) × (List Int) × (List Int) × (List (List Int)) × Int × Nat × (Option Addr) × Nat × Nat × (Option Addr) × Nat × Nat × (Option Addr) × Nat × Nat × (Option Addr) × Nat) (Y := (List (Q2 × Int)) × (List Q2) × (List Int) × (List Int) × (List (List Int)) × Nat × (Option Addr) × Nat × Nat × (Option Addr) × Nat × Nat × (Option Addr) × Nat × Nat × (Option Addr) × Nat) (e0 := 0) (fun s_ => [(6, bp a0), (8, bp a6), (9, i6 s_.2.2.2.2.2.1)]) (fun s_ => pc a6 [bp b0, .slice A1 a1.length c1, .slice J p.length U, .slice V u.length Z, .map (some G), .slice s_.2.2.2.2.2.2.2.1 s_.2.2.2.2.2.2.1 (d8 s_).1, .slice (d8 s_).2.2.1 (d8 s_).2.1 (d8 s_).2.2.2.1, .slice (d8 s_).2.2.2.2.2.1 (d8 s_).2.2.2.2.1 (d8 s_).2.2.2.2.2.2.1, .slice (d8 (d8 s_)).1 (d8 s_).2.2.2.2.2.2.2.1 (d8 (d8 s_)).2] 101 :: T2 :: T3 :: T4 :: T5 :: T6 :: mapo Q2.fl.av (Fl.int .i64).ov G s_.1 :: row Q2.fl 65 s_.2.2.2.2.2.2.2.1 s_.2.2.2.2.2.2.1 (d8 s_).1 s_.2.1 :: row (Fl.int .i64) 3 (d8 s_).2.2.1 (d8 s_).2.1 (d8 s_).2.2.2.1 s_.2.2.1 :: row (Fl.int .i64) 3 (d8 s_).2.2.2.2.2.1 (d8 s_).2.2.2.2.1 (d8 s_).2.2.2.2.2.2.1 s_.2.2.2.1 :: rows (Fl.int .i64) 3 39 (d8 (d8 s_)).1 (d8 s_).2.2.2.2.2.2.2.1 (d8 (d8 s_)).2 s_.2.2.2.2.1 :: T1 :: Fr) (fun m_ => fun s_ => iterN (fun t_ : (List (Q2 × Int)) × (List Q2) × (List Int) × (List Int) × (List (List Int)) × Int => Q20.l0b I D E a1 p u t_.1 t_.2.1 t_.2.2.1 t_.2.2.2.1 t_.2.2.2.2.1 t_.2.2.2.2.2) m_ (s_.1, s_.2.1, s_.2.2.1, s_.2.2.2.1, s_.2.2.2.2.1, s_.2.2.2.2.2.1) = some g1 ∧ s_.2.1.length = s_.2.2.2.2.2.2.1 ∧ s_.2.2.1.length = (d8 s_).2.1 ∧ s_.2.2.2.1.length = (d8 s_).2.2.2.2.1 ∧ s_.2.2.2.2.1.length = (d8 s_).2.2.2.2.2.2.2.1) c9 (c7.1, c7.2.1, ([] : List Int), ([] : List Int), ([] : List (List Int)), 0, c7.2.1.length, h3, h4, 0, none, 0, 0, none, 0, 0, none, 0) ⟨a5, rfl, rfl, rfl, rfl⟩ (fun s_ => [(6, bp a0), (8, bp a6)]) (fun s_ => pc a6 [bp b0, .slice A1 a1.length c1, .slice J p.length U, .slice V u.length Z, .map (some G), .slice s_.2.2.2.2.2.2.1 s_.2.2.2.2.2.1 s_.2.2.2.2.2.2.2.1, .slice (d8 s_).2.1 (d8 s_).1 (d8 s_).2.2.1, .slice (d8 s_).2.2.2.2.1 (d8 s_).2.2.2.1 (d8 s_).2.2.2.2.2.1, .slice (d8 s_).2.2.2.2.2.2.2.1 (d8 s_).2.2.2.2.2.2.1 (d8 (d8 s_))] 101 :: T2 :: T3 :: T4 :: T5 :: T6 :: mapo Q2.fl.av (Fl.int .i64).ov G s_.1 :: row Q2.fl 65 s_.2.2.2.2.2.2.1 s_.2.2.2.2.2.1 s_.2.2.2.2.2.2.2.1 s_.2.1 :: row (Fl.int .i64) 3 (d8 s_).2.1 (d8 s_).1 (d8 s_).2.2.1 s_.2.2.1 :: row (Fl.int .i64) 3 (d8 s_).2.2.2.2.1 (d8 s_).2.2.2.1 (d8 s_).2.2.2.2.2.1 s_.2.2.2.1 :: rows (Fl.int .i64) 3 39 (d8 s_).2.2.2.2.2.2.2.1 (d8 s_).2.2.2.2.2.2.1 (d8 (d8 s_)) s_.2.2.2.2.1 :: T1 :: Fr) (fun s_ => h5 (.inl (s_.1, s_.2.1, s_.2.2.1, s_.2.2.2.1, s_.2.2.2.2.1)) = some r ∧ s_.2.1.length = s_.2.2.2.2.2.1 ∧ s_.2.2.1.length = (d8 s_).1 ∧ s_.2.2.2.1.length = (d8 s_).2.2.2.1 ∧ s_.2.2.2.2.1.length = (d8 s_).2.2.2.2.2.2.1) (fun a w e hs => ⟨e.sub ⟨rfl, rfl, rfl, trivial⟩, (by exact hs)⟩) ?_ (fun h8 => ?_)
       ·rintro ⟨p7, a7, a8, a9, b2, h9, d0, d1, k0, d2, d3, k1, d4, d5, k2, d6, d7⟩ ⟨j, k3, k4, k5, k6⟩; obtain rfl : a7.length = h9 := k3; obtain rfl : a8.length = k0 := k4; obtain rfl : a9.length = k1 := k5; obtain rfl : b2.length = k2 := k6; have j := (h6 _).symm.trans j
        ·refine At.ibx ?_; refine At.thn (At.seq ?_); refine At.still 9 (by kernel_rfl) ?_; refine At.Still.run 3 rfl ?_; refine At.Still.y (Y.load rfl rfl .z rfl rfl rfl) rfl rfl rfl ?_; refine At.Still.run 3 rfl ?_; refine At.Still.y (Y.load rfl rfl .z rfl rfl rfl) rfl rfl rfl ?_; refine At.Still.y (Y.build (is := [0, 1]) (xo := [.tmp 68, .tmp 72]) (vs := [.agg #[.slice d2 a8.length d3, .slice d4 a9.length d5, .slice d6 b2.length d7], .slice d0 a7.length d1]) (cs := [.slice d2 a8.length d3, .slice d4 a9.length d5, .slice d6 b2.length d7, .slice d0 a7.length d1]) rfl rfl rfl rfl rfl (by kernel_rfl)) rfl rfl rfl ?_; refine At.Still.nil ?_; refine At.store rfl rfl rfl rfl (.s (.s (.s (.s (.s (.s (.s (.s (.s (.s (.s .z))))))))))) rfl rfl rfl (.c (.c (.c (.c .n)))) ?_; refine At.run 1 rfl (nT (At.ret ?_)); refine At.resM (.inl rfl) rfl (RV.cell rfl rfl .z rfl rfl rfl (RV.tmp rfl RV.nil)) ?_; refine At.drop .z (At.drop .z (At.drop (.s (.s (.s .z))) (At.drop (.s (.s (.s .z))) (At.drop (.s (.s (.s .z))) (At.f2 (At.f2 (At.f2 ?_))))))); refine At.f3 (At.f6 (At.f6 (At.f6 ?_))); cases bret j; exact fun a w e hs => ⟨_, ⟨a7.length, d0, d1, b2.length, d6, d7, a9.length, d4, d5, a8.length, d2, d3, rfl, rfl, rfl, rfl, rfl, rfl⟩, hs⟩
       ·clear a5 c9; rintro c9 ⟨g3, b3, b4, b5, b6, g4, k7, k8, k9, l6, l7, l8, l9, m0, m1, m2, m3, m4⟩ ⟨a5, m5, m6, m7, m8⟩; obtain rfl : b3.length = k7 := m5; obtain rfl : b4.length = l6 := m6; obtain rfl : b5.length = l9 := m7; obtain rfl : b6.length = m2 := m8; obtain ⟨m9, f_, n2, hf_, j⟩ := bit a5; clear a5; have j : (Q20.l0b I D E a1 p u g3 b3 b4 b5 b6 g4).bind _ = some g1 := j; unfold Q20.l0b at j
        ·refine At.seq (sR 4 rfl (At.y (Y.load rfl rfl .z rfl rfl rfl) rfl rfl rfl (At.run 2 rfl (nT ?_)))); rcases bite j with ⟨d9, j⟩ | ⟨d9, j⟩
         ··refine At.condT rfl (decide_eq_true d9) ?_
           refine At.skip (At.thn (At.seq ?_)); refine At.block ?_; refine At.seq (sR 3 rfl (At.y (Y.load rfl rfl .z rfl rfl rfl) rfl rfl rfl (At.run 2 rfl (nT ?_)))); rcases bite j with ⟨e1, j⟩ | ⟨e1, j⟩
           ··refine At.condT rfl (decide_eq_true e1) ?_
             refine At.seq (At.region ?_); refine At.y (Y.build (is := []) (xo := []) (vs := []) (cs := [.slice none 0 0, .slice none 0 0, .slice none 0 0, .slice none 0 0]) rfl rfl rfl rfl rfl rfl) rfl rfl rfl ?_; refine At.store rfl rfl rfl rfl (.s (.s (.s (.s (.s (.s (.s (.s (.s (.s (.s .z))))))))))) rfl rfl rfl (.c (.c (.c (.c .n)))) ?_; refine At.run 1 rfl (nT (At.ret (At.thr ?_))); refine At.ibr ?_; refine At.thr ?_; have j := bupL h7 g2 j; refine At.thr ?_; refine At.ibr ?_; refine At.thr ?_; refine At.nilRow (Fl.int .i64) 3 ?_; refine At.nilRow (Fl.int .i64) 3 ?_; refine At.nilRows (Fl.int .i64) 3 39 ?_; refine At.nilRow Q2.fl 65 ?_; refine At.resM (.inl rfl) rfl (RV.cell rfl rfl (.s (.s (.s (.s .z)))) rfl rfl rfl (RV.tmp rfl RV.nil)) ?_; refine At.drop (.s (.s (.s (.s .z)))) (At.drop (.s (.s (.s (.s .z)))) (At.drop (.s (.s (.s (.s (.s (.s (.s .z))))))) (At.drop (.s (.s (.s (.s (.s (.s (.s .z))))))) (At.drop (.s (.s (.s (.s (.s (.s (.s .z))))))) (At.drop (.s (.s (.s (.s (.s (.s (.s .z))))))) (At.drop (.s (.s (.s (.s (.s (.s (.s .z))))))) (At.drop (.s (.s (.s (.s (.s (.s (.s .z))))))) ?_))))))); refine At.drop (.s (.s (.s (.s (.s (.s (.s .z))))))) (At.f6 (At.f6 (At.f6 (At.f3 (At.f4 (At.f5 (At.f6 ?_))))))); cases bret j; exact fun a w e hs => ⟨_, ⟨0, none, 0, 0, none, 0, 0, none, 0, 0, none, 0, rfl, rfl, rfl, rfl, rfl, rfl⟩, hs⟩
           ··refine At.condF rfl (decide_eq_false e1) ?_
             refine At.skip (At.thn (At.region (At.run 4 rfl (At.y (Y.load rfl rfl .z rfl rfl rfl) rfl rfl rfl (At.run 1 rfl ?_))))); obtain ⟨b7, j⟩ := bnone j; refine At.y (Y.ix (.s (.s (.s (.s (.s (.s (.s .z))))))) rfl rfl rfl rfl rfl rfl b7.1 b7.2) rfl rfl rfl ?_; refine At.y (Y.ld (.s (.s (.s (.s (.s (.s (.s .z))))))) (q := 0) rfl rfl b7.1 b7.2 rfl rfl rfl) rfl rfl rfl ?_; obtain ⟨C, n4, j⟩ := bbind j; refine At.call rfl Q126.callee rfl rfl rfl (Q126.spec hr1 rfl hc1 rfl rfl rfl rfl rfl rfl hg0 n4) ?_; rintro _ _ ⟨p8, n5, n6, p9, n7, n8, q0, n9, o0, q1, o7, o8, rfl, rfl, rfl, rfl, rfl, rfl⟩; refine At.nil ?_; refine At.ibn ?_; refine At.thn (At.region (At.run 3 rfl (At.nil ?_))); have j := bnx hf_ j; exact fun a w e hs => ⟨m9, (C.1, C.2.1, C.2.2.1, C.2.2.2.1, C.2.2.2.2, IntKind.i64.wrap (g4 + 1), C.2.1.length, n5, n6, C.2.2.1.length, n7, n8, C.2.2.2.1.length, n9, o0, C.2.2.2.2.length, o7, o8), n2, ⟨j, rfl, rfl, rfl, rfl⟩, e.sub ⟨rfl, rfl, rfl, trivial⟩, hs⟩
         ··refine At.condF rfl (decide_eq_false d9) ?_
           refine At.exit ?_; refine At.the ?_; refine At.the ?_; exact fun a w e hs => h8 (g3, b3, b4, b5, b6, b3.length, k8, k9, b4.length, l7, l8, b5.length, m0, m1, b6.length, m3, m4) ⟨(bdn j g2), rfl, rfl, rfl, rfl⟩ a w (e.sub ⟨rfl, rfl, trivial⟩) hs
   ··rcases bite j with ⟨e2, j⟩ | ⟨e2, j⟩
     ··refine At.know (t := 17) rfl e2 ?_
       refine At.run 5 rfl ?_; exact At.of (g0 true j) ⟨rfl, rfl, rfl, rfl, rfl, trivial⟩
     ··refine At.know (t := 17) rfl (bn e2) ?_
       refine At.run 2 rfl (At.f3 (At.f3 (At.f3 ?_))); obtain ⟨o9, p0, j⟩ := bbind j; refine At.call rfl Q127.callee rfl rfl rfl (Q127.spec p0) ?_; rintro _ _ ⟨rfl, rfl⟩; refine At.run 2 rfl (At.f2 (At.f2 (At.f2 (At.f3 ?_)))); exact At.of (g0 (decide (o9 ≤ a2)) j) ⟨rfl, rfl, rfl, rfl, rfl, trivial⟩
 ··rcases bite j with ⟨e3, j⟩ | ⟨e3, j⟩
   ··refine At.know (t := 13) rfl (nf e3) ?_
     refine At.run 3 rfl ?_; exact At.of (f9 (decide (a2 < 0)) j) ⟨rfl, rfl, rfl, rfl, rfl, trivial⟩
   ··refine At.know (t := 13) rfl (nt (bn e3)) ?_
     refine At.run 3 rfl ?_; exact At.of (f9 true j) ⟨rfl, rfl, rfl, rfl, rfl, trivial⟩

noncomputable def Q93.f  : Option Bool :=
 (Q22.f ([115, 116, 97, 116, 101, 115, 32, 50, 10, 101, 100, 103, 101, 32, 48, 32, 97, 32, 49, 10] : Bs)).bind fun q =>
 (Q16.f q.2.2.2.2 q.2.1 q.2.2.1 q.2.2.2.1).bind fun u =>
 (Q150.f ([60, 97, 62, 112] : Bs)).bind fun C =>
 jn (
 if q.1.isNone = true then
 some (.inl (!C.1.isNone))
 else
 some (.inl true)) (fun (D : Bool) =>
 jn (
 if D = true then
 some (.inl true)
 else
 some (.inl u.isNone)) (fun (E : Bool) =>
 if E = true then
 some false
 else
 if u.isNone = false then
 (Q20.f ((u.getD default).states) ((u.getD default).holds) ((u.getD default).next) C.2 0).bind fun p =>
 jn (
 if p.2.2.2.2 = 0 then
 some (.inl (decide ((p.1.length : Int) = 2)))
 else
 some (.inl false)) (fun (G : Bool) =>
 jn (
 if G = true then
 if (0 : Int) ≤ 1 ∧ 1 < (p.1.length : Int) then
 some (.inl (decide ((gt p.1 1).State = 1) && (decide ((gt p.1 1).Node = 0) && true)))
 else none
 else
 some (.inl false)) (fun (I : Bool) =>
 jn (
 if I = true then
 some (.inl (decide ((p.2.2.1.length : Int) = 2)))
 else
 some (.inl false)) (fun (J : Bool) =>
 jn (
 if J = true then
 if (0 : Int) ≤ 1 ∧ 1 < (p.2.2.1.length : Int) then
 some (.inl (decide (gt p.2.2.1 1 = 1)))
 else none
 else
 some (.inl false)) (fun (U : Bool) =>
 some U))))
 else none))
theorem Q93.callee : Callee Tryz.prog 21 := ⟨_, Tryz.func21, by kernel_rfl, by kernel_rfl⟩
theorem Q93.spec (hg0 : RdS (Fl.int .u8).rep R.heap (some ⟨0, 0, none⟩) Tryz.gtab0) {r : Bool} (j : Q93.f  = some r) :
 Spec Tryz.prog 21 [] R (Fr) (fun v l' => v = .bool r ∧ Fr = l') := by
 refine Spec.of Tryz.func21 rfl rfl ?_; unfold Q93.f at j; have j := brun j; refine sR 1 rfl (nT (At.seq (At.region ?_))); obtain ⟨D, e5, j⟩ := bbind j; refine At.call rfl Q22.callee rfl rfl rfl (Q22.spec e5) ?_; rintro _ _ ⟨E, k9, e6, e7, l6, e8, e9, l7, f0, f3, rfl, rfl, rfl, rfl, rfl⟩; refine At.run 3 rfl ?_; refine At.alloc rfl rfl rfl (fun f4 => ?_); refine At.store rfl rfl rfl rfl .z rfl rfl rfl (.c (.c (.c (.c .n)))) ?_; refine At.run 1 rfl (nT (At.seq (At.region (At.y (Y.load rfl rfl .z rfl rfl rfl) rfl rfl rfl ?_)))); refine At.freeze (.s .z) fun l8 f5 f6 f7 f8 d1 => ?_; refine At.freeze (.s .z) fun l9 f9 g0 g1 d2 d3 => ?_; refine At.freezeGrow (.s .z) fun m0 g2 g3 g4 b9 d4 => ?_; obtain ⟨u, g5, j⟩ := bbind j; refine At.call rfl Q16.callee rfl rfl rfl (Q16.spec (RdS.mono (d2.trans b9) f5) f6 f7 (RdS.mono b9 f9) g0 g1 g2 g3 g4 g5) ?_; rintro _ _ ⟨a8, rfl, rfl⟩; refine At.run 1 rfl (nT (At.seq (At.region ?_))); obtain ⟨C, g6, j⟩ := bbind j; refine At.call rfl Q150.callee rfl rfl rfl (Q150.spec g6) ?_; rintro _ _ ⟨G, m1, a9, b2, rfl, rfl, rfl⟩; refine At.run 5 rfl (nT (At.seq (sR 1 rfl ?_))); refine At.y (Y.neOptI (.s (.s (.s (.s .z)))) rfl rfl rfl) rfl rfl rfl ?_; refine At.run 1 rfl ?_; obtain ⟨g7, g8, m2, j⟩ := bjoin j; let T7 : HProp := pc f4 [i6 D.2.2.2.2, .slice e6 D.2.1.length e7, .slice e8 D.2.2.1.length e9, .slice f0 D.2.2.2.1.length f3] 26; refine At.joinO 3 (X := Bool) (fun I => [(3, optp a8), (4, .slice a9 C.2.length b2), (23, .bool I)]) (fun I => row Q0.fl 33 a9 C.2.length b2 C.2 :: optb (Ow.fl Q6.fl) 121 G C.1 :: optb Q36.ow 82 a8 u :: T7 :: optb (Ow.fl Q6.fl) 121 E D.1 :: Fr) (fun I => g7 (.inl I) = some r) ?_ (fun d5 => ?_)
 ·rintro I j; have j := (g8 _).symm.trans j
  ·refine At.run 1 rfl ?_; obtain ⟨g9, h0, m3, j⟩ := bjoin j; refine At.joinO 3 (X := Bool) (fun J => [(3, optp a8), (4, .slice a9 C.2.length b2), (27, .bool J)]) (fun J => row Q0.fl 33 a9 C.2.length b2 C.2 :: optb (Ow.fl Q6.fl) 121 G C.1 :: optb Q36.ow 82 a8 u :: T7 :: optb (Ow.fl Q6.fl) 121 E D.1 :: Fr) (fun J => g9 (.inl J) = some r) ?_ (fun d6 => ?_)
   ·rintro J j; have j := (h0 _).symm.trans j
    ·refine nT ?_; rcases bite j with ⟨c4, j⟩ | ⟨c4, j⟩
     ··refine At.condT rfl c4 ?_
       refine sR 1 rfl (nT (At.ret (At.thr ?_))); refine At.thaw d4 ?_; refine At.thaw d3 ?_; refine At.thaw d1 ?_; refine At.drop .z (At.drop .z (At.drop .z (At.drop .z (At.drop .z (At.drop .z (At.drop .z (At.drop .z ?_))))))); cases bret j; exact At.res (.inl rfl) rfl rfl ⟨rfl, rfl⟩
     ··refine At.condF rfl (bn c4) ?_
       refine At.skip (At.thn (sR 2 rfl ?_)); obtain ⟨h1, j⟩ := bnone j; refine At.optOpen (.s (.s .z)) h1 (fun h2 h3 m4 => ?_); have h4 := j; subst h3; have j := h4; refine At.ownPair (T := Ow.fl (Fl.int .i64)) (U := ((Ow.mp Fl.bs.ov Q4.fl.av).pair (Ow.mp Q9.fl.av Q4.fl.av))) (x := ((u.getD default).states, (u.getD default).holds, (u.getD default).next)) (.s .z) ?_; rintro m5 m6 rfl; refine At.ownFl (F := (Fl.int .i64)) (x := (u.getD default).states) .z ?_; rintro rfl; refine At.ownPair (T := Ow.mp Fl.bs.ov Q4.fl.av) (U := (Ow.mp Q9.fl.av Q4.fl.av)) (x := ((u.getD default).holds, (u.getD default).next)) .z ?_; rintro m7 m8 rfl; refine At.ownMp (kv := Fl.bs.ov) (vv := Q4.fl.av) (kvs := (u.getD default).holds) .z ?_; rintro d7 rfl; refine At.ownMp (kv := Q9.fl.av) (vv := Q4.fl.av) (kvs := (u.getD default).next) (.s .z) ?_; rintro d8 rfl; refine At.freeze (.s (.s (.s .z))) fun m9 h5 h6 h7 h8 h9 => ?_; refine At.f1 (At.f2 ?_); obtain ⟨p, k0, j⟩ := bbind j; refine At.call rfl Q20.callee rfl rfl rfl (Q20.spec h5 h6 h7 (RdS.mono (((f8.trans d2).trans b9).trans h8) hg0) k0) ?_; rintro _ _ ⟨n2, V, Z, n4, a0, a1, n5, a2, a3, n6, d9, e0, rfl, rfl, rfl, rfl, rfl, rfl⟩; refine At.run 3 rfl ?_; refine At.alloc rfl rfl rfl (fun b3 => ?_); refine At.store rfl rfl rfl rfl .z rfl rfl rfl (.c (.c (.c (.c .n)))) ?_; refine At.run 1 rfl (nT (sR 3 rfl ?_)); obtain ⟨k1, k2, n7, j⟩ := bjoin j; let T8 : HProp := pc b3 [.slice d9 p.2.2.2.1.length e0, .slice a2 p.2.2.1.length a3, .slice a0 p.2.1.length a1, .slice V p.1.length Z] 59; let T9 : HProp := row (Fl.int .i64) 3 d9 p.2.2.2.1.length e0 p.2.2.2.1; let b4 : HProp := pc h2 [i6 ((u.getD default).states), .map (some d7), .map (some d8)] 82; let b5 : HProp := mapo Fl.bs.ov Q4.fl.av d7 ((u.getD default).holds); let b6 : HProp := mapo Q9.fl.av Q4.fl.av d8 ((u.getD default).next); refine At.joinO 5 (X := Bool) (fun a4 => [(6, bp b3), (41, .bool a4)]) (fun a4 => T8 :: T9 :: row (Fl.int .i64) 3 a2 p.2.2.1.length a3 p.2.2.1 :: rows (Fl.int .i64) 3 39 a0 p.2.1.length a1 p.2.1 :: row Q2.fl 65 V p.1.length Z p.1 :: b4 :: b5 :: b6 :: optb (Ow.fl Q6.fl) 121 G C.1 :: T7 :: optb (Ow.fl Q6.fl) 121 E D.1 :: Fr) (fun a4 => k1 (.inl a4) = some r) ?_ (fun e1 => ?_)
       ·rintro a4 j; have j := (k2 _).symm.trans j
        ·refine At.run 1 rfl ?_; obtain ⟨k3, k4, n8, j⟩ := bjoin j; refine At.joinO 7 (X := Bool) (fun a5 => [(6, bp b3), (49, .bool a5)]) (fun a5 => T8 :: T9 :: row (Fl.int .i64) 3 a2 p.2.2.1.length a3 p.2.2.1 :: rows (Fl.int .i64) 3 39 a0 p.2.1.length a1 p.2.1 :: row Q2.fl 65 V p.1.length Z p.1 :: b4 :: b5 :: b6 :: optb (Ow.fl Q6.fl) 121 G C.1 :: T7 :: optb (Ow.fl Q6.fl) 121 E D.1 :: Fr) (fun a5 => k3 (.inl a5) = some r) ?_ (fun e2 => ?_)
         ·rintro a5 j; have j := (k4 _).symm.trans j
          ·refine At.run 1 rfl ?_; obtain ⟨k5, k6, n9, j⟩ := bjoin j; refine At.joinO 6 (X := Bool) (fun a6 => [(6, bp b3), (56, .bool a6)]) (fun a6 => T8 :: T9 :: row (Fl.int .i64) 3 a2 p.2.2.1.length a3 p.2.2.1 :: rows (Fl.int .i64) 3 39 a0 p.2.1.length a1 p.2.1 :: row Q2.fl 65 V p.1.length Z p.1 :: b4 :: b5 :: b6 :: optb (Ow.fl Q6.fl) 121 G C.1 :: T7 :: optb (Ow.fl Q6.fl) 121 E D.1 :: Fr) (fun a6 => k5 (.inl a6) = some r) ?_ (fun e3 => ?_)
           ·rintro a6 j; have j := (k6 _).symm.trans j
            ·refine At.run 1 rfl ?_; obtain ⟨k7, k8, o0, j⟩ := bjoin j; refine At.joinO 7 (X := Bool) (fun a7 => [(64, .bool a7)]) (fun a7 => T8 :: T9 :: row (Fl.int .i64) 3 a2 p.2.2.1.length a3 p.2.2.1 :: rows (Fl.int .i64) 3 39 a0 p.2.1.length a1 p.2.1 :: row Q2.fl 65 V p.1.length Z p.1 :: b4 :: b5 :: b6 :: optb (Ow.fl Q6.fl) 121 G C.1 :: T7 :: optb (Ow.fl Q6.fl) 121 E D.1 :: Fr) (fun a7 => k7 (.inl a7) = some r) ?_ (fun e4 => ?_)
             ·rintro a7 j; have j := (k8 _).symm.trans j
              ·refine At.run 1 rfl (nT (At.ret ?_)); refine At.thaw h9 ?_; refine At.thaw d4 ?_; refine At.thaw d3 ?_; refine At.thaw d1 ?_; refine At.drop .z (At.drop .z (At.drop .z (At.drop .z (At.drop .z (At.drop .z (At.drop .z (At.drop .z ?_))))))); refine At.drop .z (At.drop .z (At.drop .z (At.drop .z (At.drop .z (At.drop .z (At.drop .z ?_)))))); cases bret j; exact At.res (.inl rfl) rfl rfl ⟨rfl, rfl⟩
             ··rcases bite j with ⟨c5, j⟩ | ⟨c5, j⟩
               ··refine At.know (t := 57) rfl c5 ?_
                 refine At.run 2 rfl (At.y (Y.load rfl rfl .z rfl rfl rfl) rfl rfl rfl ?_); obtain ⟨b7, j⟩ := bnone j; refine At.y (Y.ix (.s (.s .z)) rfl rfl rfl rfl rfl rfl b7.1 b7.2) rfl rfl rfl (At.y (Y.ld (.s (.s .z)) (q := 0) rfl rfl b7.1 b7.2 rfl rfl rfl) rfl rfl rfl (At.run 2 rfl ?_)); exact At.of (e4 (decide (gt p.2.2.1 1 = 1)) j) ⟨rfl, trivial⟩
               ··refine At.know (t := 57) rfl (bn c5) ?_
                 refine At.run 7 rfl ?_; exact At.of (e4 false j) ⟨rfl, trivial⟩
           ··rcases bite j with ⟨c6, j⟩ | ⟨c6, j⟩
             ··refine At.know (t := 50) rfl c6 ?_
               refine At.run 2 rfl (At.y (Y.load rfl rfl .z rfl rfl rfl) rfl rfl rfl (At.run 3 rfl ?_)); exact At.of (e3 (decide ((p.2.2.1.length : Int) = 2)) j) ⟨rfl, rfl, trivial⟩
             ··refine At.know (t := 50) rfl (bn c6) ?_
               refine At.run 6 rfl ?_; exact At.of (e3 false j) ⟨rfl, rfl, trivial⟩
         ··rcases bite j with ⟨c7, j⟩ | ⟨c7, j⟩
           ··refine At.know (t := 42) rfl c7 ?_
             refine At.run 1 rfl (At.y (Y.load rfl rfl .z rfl rfl rfl) rfl rfl rfl ?_); obtain ⟨b8, j⟩ := bnone j; refine At.y (Y.ix (.s (.s (.s (.s .z)))) rfl rfl rfl rfl rfl rfl b8.1 b8.2) rfl rfl rfl ?_; refine At.y (Y.ld (.s (.s (.s (.s .z)))) (q := 0) rfl rfl b8.1 b8.2 rfl rfl rfl) rfl rfl rfl ?_; refine At.y (Y.build (is := [0, 1]) (xo := [.const (i6 1), .const (i6 0)]) (vs := [i6 1, i6 0]) (cs := [i6 1, i6 0]) rfl rfl rfl rfl rfl rfl) rfl rfl rfl ?_; refine At.y (Y.eqSt (xs := [i6 ((gt p.1 1).State), i6 ((gt p.1 1).Node)]) (ys := [i6 1, i6 0]) rfl rfl rfl rfl (by kernel_rfl) (by kernel_rfl) (by kernel_rfl) rfl) rfl rfl rfl ?_; refine At.run 1 rfl ?_; exact At.of (e2 (decide ((gt p.1 1).State = 1) && (decide ((gt p.1 1).Node = 0) && true)) j) ⟨rfl, rfl, trivial⟩
           ··refine At.know (t := 42) rfl (bn c7) ?_
             refine At.run 7 rfl ?_; exact At.of (e2 false j) ⟨rfl, rfl, trivial⟩
       ··rcases bite j with ⟨c8, j⟩ | ⟨c8, j⟩
         ··refine At.know (t := 36) rfl (decide_eq_true c8) ?_
           refine At.run 1 rfl (At.y (Y.load rfl rfl .z rfl rfl rfl) rfl rfl rfl (At.run 3 rfl ?_)); exact At.of (e1 (decide ((p.1.length : Int) = 2)) j) ⟨rfl, rfl, trivial⟩
         ··refine At.know (t := 36) rfl (decide_eq_false c8) ?_
           refine At.run 5 rfl ?_; exact At.of (e1 false j) ⟨rfl, rfl, trivial⟩
   ··rcases bite j with ⟨c9, j⟩ | ⟨c9, j⟩
     ··refine At.know (t := 24) rfl c9 ?_
       refine At.run 3 rfl ?_; exact At.of (d6 true j) ⟨rfl, rfl, rfl, trivial⟩
     ··refine At.know (t := 24) rfl (bn c9) ?_
       refine At.run 1 rfl ?_; refine At.y (Y.eqOpt (.s (.s .z)) rfl rfl rfl rfl) rfl rfl rfl ?_; refine At.run 1 rfl ?_; exact At.of (d6 u.isNone j) ⟨rfl, rfl, rfl, trivial⟩
 ··rcases bite j with ⟨d0, j⟩ | ⟨d0, j⟩
   ··refine At.know (t := 20) rfl (nf d0) ?_
     refine At.run 1 rfl ?_; refine At.y (Y.neOptI (.s .z) rfl rfl rfl) rfl rfl rfl ?_; refine At.run 1 rfl ?_; exact At.of (d5 (!C.1.isNone) j) ⟨rfl, rfl, rfl, trivial⟩
   ··refine At.know (t := 20) rfl (nt (bn d0)) ?_
     refine At.run 3 rfl ?_; exact At.of (d5 true j) ⟨rfl, rfl, rfl, trivial⟩

end Go.Bw
namespace Go.Bw
open Go Go.RowKit

theorem Q38 {σ ρ : Type} {body : σ → Option (σ ⊕ ρ)} (I : σ → Prop) (Q : ρ → Prop) (μ : σ → Nat) (h : ∀ s, I s → (∃ r, body s = some (.inr r) ∧ Q r) ∨ ∃ s', body s = some (.inl s') ∧ I s' ∧ μ s' < μ s) :
 ∀ s, I s → ∃ r, iter body s = some r ∧ Q r := by
 have key : ∀ n s, μ s < n → I s → ∃ r, iter body s = some r ∧ Q r := by
  intro n
  induction n with
  | zero => intro s hn; omega
  | succ n ih =>
   intro s hn hI
   rw [Q81]
   rcases h s hI with ⟨r, hr, hq⟩ | ⟨s', hs, hI', hlt⟩
   ·exact ⟨r, by rw [hr]; rfl, hq⟩
   ·obtain ⟨r, hr, hq⟩ := ih s' (by omega) hI'
    exact ⟨r, by rw [hs]; exact hr, hq⟩
 exact fun s hI => key _ s (Nat.lt_succ_self _) hI
theorem wrap64 {x : Int} (h0 : -9223372036854775808 ≤ x) (h1 : x ≤ 9223372036854775807) : IntKind.i64.wrap x = x := by
 simp [IntKind.wrap, IntKind.bits, IntKind.signed]
 omega
section
variable {α : Type} [Inhabited α]
theorem Q90 (xs : List α) (i : Int) (x : α) : (st xs i x).length = xs.length := by simp [st]
theorem Q122 {xs : List α} {i j : Int} {x : α} (hi : 0 ≤ i) (hi' : i < (xs.length : Int)) (hj : 0 ≤ j) : gt (st xs i x) j = if j = i then x else gt xs j := by
 unfold gt st
 rw [List.getD_eq_getElem?_getD, List.getD_eq_getElem?_getD, List.getElem?_set]
 by_cases h : j = i
 ·subst h
  have : j.toNat < xs.length := by omega
  simp [this]
 ·have : ¬ i.toNat = j.toNat := by omega
  simp [this, h]
theorem Q43 {xs : List α} {i : Int} (h0 : 0 ≤ i) (h1 : i < (xs.length : Int)) : gt xs i ∈ xs := List.mem_of_getElem? (Q98 h0 h1)
theorem Q125 {xs ys : List α} {i : Int} (h0 : 0 ≤ i) (h1 : i < (xs.length : Int)) : gt (xs ++ ys) i = gt xs i := by
 unfold gt
 rw [List.getD_eq_getElem?_getD, List.getD_eq_getElem?_getD, List.getElem?_append_left (by omega)]
theorem Q181 {xs : List α} {x : α} : gt (xs ++ [x]) (xs.length : Int) = x := by
 unfold gt
 simp
theorem Q99 {xs : List α} {i : Nat} {x : α} (h : xs[i]? = some x) : gt xs (i : Int) = x := by
 unfold gt
 simp [List.getD_eq_getElem?_getD, h]
end
end Go.Bw
namespace Go.Bw
open Go Go.RowKit

def Wd (v : BitVec 64) : Int := (v.toNat : Int)
theorem Wd.lt (v : BitVec 64) : 0 ≤ Wd v ∧ Wd v < 18446744073709551616 := by
 unfold Wd
 have := v.isLt
 omega
theorem wrapu {x : Int} (h0 : 0 ≤ x) (h1 : x < 18446744073709551616) : IntKind.u64.wrap x = x := by
 simp [IntKind.wrap, IntKind.bits, IntKind.signed]
 omega
theorem Q151 (v : BitVec 64) : BitVec.ofInt 64 (Wd v) = v := by
 unfold Wd
 apply BitVec.eq_of_toNat_eq
 simp
theorem Wd.inj {u v : BitVec 64} (h : Wd u = Wd v) : u = v := by rw [← Q151 u, h, Q151]
theorem Q222 (v : BitVec 64) : IntKind.u64.wrap (v.toNat : Int) = Wd v := wrapu (Wd.lt v).1 (Wd.lt v).2
theorem bor_wd (u v : BitVec 64) : bor .u64 (Wd u) (Wd v) = Wd (u ||| v) := by
 show IntKind.u64.wrap ((BitVec.ofInt 64 (Wd u) ||| BitVec.ofInt 64 (Wd v)).toNat : Int) = _
 rw [Q151, Q151, Q222]
theorem Q183 (u v : BitVec 64) : band .u64 (Wd u) (Wd v) = Wd (u &&& v) := by
 show IntKind.u64.wrap ((BitVec.ofInt 64 (Wd u) &&& BitVec.ofInt 64 (Wd v)).toNat : Int) = _
 rw [Q151, Q151, Q222]
theorem Q327 (u v : BitVec 64) : bandnot .u64 (Wd u) (Wd v) = Wd (u &&& ~~~ v) := by
 show IntKind.u64.wrap ((BitVec.ofInt 64 (Wd u) &&& ~~~ BitVec.ofInt 64 (Wd v)).toNat : Int) = _
 rw [Q151, Q151, Q222]
theorem shl_one {s : Int} (h0 : 0 ≤ s) (h1 : s < 64) : Bw.shl .u64 1 s = Wd (BitVec.twoPow 64 s.toNat) := by
 have hs : min s.toNat IntKind.u64.bits = s.toNat := Nat.min_eq_left (show s.toNat ≤ 64 by omega)
 have hp : 2 ^ s.toNat < 2 ^ 64 := Nat.pow_lt_pow_right (by decide) (by omega)
 unfold Bw.shl Wd
 have e : (2 : Int) ^ s.toNat = ((2 ^ s.toNat : Nat) : Int) := by rw [Int.natCast_pow]; rfl
 rw [hs, Int.one_mul, BitVec.toNat_twoPow, Nat.mod_eq_of_lt hp, e]
 have h2 : (2 : Nat) ^ 64 = 18446744073709551616 := by rfl
 rw [h2] at hp
 generalize (2 : Nat) ^ s.toNat = q at hp
 exact wrapu (by omega) (by omega)
theorem shr6 {n : Int} (h0 : 0 ≤ n) : Bw.shr .i64 n 6 = n / 64 := by
 show n.fdiv (2 ^ 6) = n / 64
 rw [Int.fdiv_eq_ediv_of_nonneg _ (by decide)]
 rfl
theorem band63 {n : Int} (h0 : 0 ≤ n) (h1 : n ≤ 9223372036854775807) : band .i64 n 63 = n % 64 := by
 show IntKind.i64.wrap ((BitVec.ofInt 64 n &&& BitVec.ofInt 64 63).toNat : Int) = _
 have e1 : (BitVec.ofInt 64 n).toNat = n.toNat := by rw [BitVec.toNat_ofInt]; omega
 have e2 : (BitVec.ofInt 64 63).toNat = 2 ^ 6 - 1 := by rfl
 rw [BitVec.toNat_and, e1, e2, Nat.and_two_pow_sub_one_eq_mod, wrap64 (by omega) (by omega)]
 omega
structure W4 where
 a : BitVec 64
 b : BitVec 64
 c : BitVec 64
 d : BitVec 64
def W4.sel (u : W4) (k : Int) : BitVec 64 := if k = 0 then u.a else if k = 1 then u.b else if k = 2 then u.c else u.d
def W4.has (u : W4) (n : Int) : Bool := (u.sel (n / 64)).getLsbD (n % 64).toNat
def W4.Rep (u : W4) (S : Int → Prop) : Prop := ∀ n, 0 ≤ n → n < 256 → (u.has n = true ↔ S n)
def W4.z : W4 := ⟨0#64, 0#64, 0#64, 0#64⟩
theorem W4.z_rep : W4.z.Rep (fun _ => False) := fun n h0 h1 => by
 unfold W4.has W4.sel W4.z
 dsimp only
 split
 ·simp
 ·split
  ·simp
  ·split <;> simp
theorem W4.ext4 {u v : W4} (h : ∀ n, 0 ≤ n → n < 256 → u.has n = v.has n) : u = v := by
 have key : ∀ k : Int, 0 ≤ k → k < 4 → u.sel k = v.sel k := fun k h0 h1 => by
  apply BitVec.eq_of_getLsbD_eq
  intro i hi
  have := h (64 * k + i) (by omega) (by omega)
  unfold W4.has at this
  rwa [show (64 * k + (i : Int)) / 64 = k from by omega, show ((64 * k + (i : Int)) % 64).toNat = i from by omega] at this
 have k0 := key 0 (by decide) (by decide)
 have k1 := key 1 (by decide) (by decide)
 have k2 := key 2 (by decide) (by decide)
 have k3 := key 3 (by decide) (by decide)
 cases u
 cases v
 simp [W4.sel] at k0 k1 k2 k3
 rw [k0, k1, k2, k3]
def W4.put (u : W4) (n : Int) : W4 :=
 if n / 64 = 0 then { u with a := u.a ||| BitVec.twoPow 64 (n % 64).toNat } else if n / 64 = 1 then { u with b := u.b ||| BitVec.twoPow 64 (n % 64).toNat }
 else if n / 64 = 2 then { u with c := u.c ||| BitVec.twoPow 64 (n % 64).toNat } else { u with d := u.d ||| BitVec.twoPow 64 (n % 64).toNat }
theorem W4.put_rep {u : W4} {S : Int → Prop} (h : u.Rep S) {n : Int} (h0 : 0 ≤ n) (h1 : n < 256) : (u.put n).Rep (fun m => S m ∨ m = n) := fun m m0 m1 => by
 show _ ↔ S m ∨ m = n
 rw [← h m m0 m1]
 have key : ∀ (w : BitVec 64), (w ||| BitVec.twoPow 64 (n % 64).toNat).getLsbD (m % 64).toNat = (w.getLsbD (m % 64).toNat || decide (m % 64 = n % 64)) := fun w => by
  rw [BitVec.getLsbD_or, BitVec.getLsbD_twoPow]
  congr 1
  have : (m % 64).toNat < 64 := by omega
  rw [Bool.eq_iff_iff]
  simp [this]
  omega
 unfold W4.put W4.has W4.sel
 have hn : n / 64 = 0 ∨ n / 64 = 1 ∨ n / 64 = 2 ∨ n / 64 = 3 := by omega
 have hm : m / 64 = 0 ∨ m / 64 = 1 ∨ m / 64 = 2 ∨ m / 64 = 3 := by omega
 by_cases e : m / 64 = n / 64
 ·have hmn : (m = n) ↔ m % 64 = n % 64 := by omega
  rw [e, hmn]
  rcases hn with hn | hn | hn | hn <;> simp [hn, key]
 ·have hmn : ¬ m = n := fun h => e (by rw [h])
  rw [or_iff_left hmn]
  rcases hn with hn | hn | hn | hn <;> rcases hm with hm | hm | hm | hm <;> first
   | exact absurd (hm.trans hn.symm) e
   | simp [hn, hm]
def W4.t (u : W4) : Int × Int × Int × Int := (Wd u.a, Wd u.b, Wd u.c, Wd u.d)
end Go.Bw
namespace Go.Bw
open Go Go.RowKit

theorem Q213 {u : W4} {n : Int} : Q106.f (Wd u.a) (Wd u.b) (Wd u.c) (Wd u.d) n = some (if 0 ≤ n ∧ n < 256 then u.put n else u).t := by
 unfold Q106.f
 by_cases h0 : 0 ≤ n
 ·rw [if_pos h0, Q12]
  by_cases h1 : n < 256
  ·have hm : IntKind.u64.wrap (band .i64 n 63) = n % 64 := by rw [band63 h0 (by omega), wrapu (by omega) (by omega)]
   rw [if_pos (decide_eq_true h1), shr6 h0, hm, shl_one (by omega) (by omega), if_pos (by omega), if_pos (show 0 ≤ n ∧ n < 256 from ⟨h0, h1⟩)]
   have hn : (0 : Int) ≤ n % 64 := by omega
   simp only [if_pos hn, bor_wd]
   unfold W4.put W4.t
   by_cases k0 : n / 64 = 0
   ·rw [if_pos k0, if_pos k0]
   ·by_cases k1 : n / 64 = 1
    ·rw [if_neg k0, if_neg k0, if_pos k1, if_pos k1]
    ·by_cases k2 : n / 64 = 2
     ·rw [if_neg k0, if_neg k0, if_neg k1, if_neg k1, if_pos k2, if_pos k2]
     ·rw [if_neg k0, if_neg k0, if_neg k1, if_neg k1, if_neg k2, if_neg k2]
  ·rw [if_neg (by simp; omega), if_neg (by omega)]
   rfl
 ·rw [if_neg h0, Q12, if_neg (by simp), if_neg (by omega)]
  rfl
theorem of_run4 {l : List Int} (hl : (l.length : Int) ≤ 9223372036854775807) : ∃ u : W4, Q60.f l = some u.t ∧ u.Rep (· ∈ l) := by
 obtain ⟨r, hr, u, rfl, h⟩ := Q38 (body := fun t_ : Int × Int × Int × Int × Int => Q60.l0b l t_.1 t_.2.1 t_.2.2.1 t_.2.2.2.1 t_.2.2.2.2)
  (fun s => 0 ≤ s.2.2.2.2 ∧ s.2.2.2.2 ≤ (l.length : Int) ∧ ∃ u : W4, (s.1, s.2.1, s.2.2.1, s.2.2.2.1) = u.t ∧ u.Rep (· ∈ l.take s.2.2.2.2.toNat))
  (fun r => ∃ u : W4, r = .inl u.t ∧ u.Rep (· ∈ l)) (fun s => (l.length - s.2.2.2.2).toNat)
  (fun ⟨w0, w1, w2, w3, i⟩ ⟨a0, a1, u, a2, a3⟩ => by
   dsimp only at a0 a1 a2 a3 ⊢
   simp only [W4.t, Prod.mk.injEq] at a2
   obtain ⟨rfl, rfl, rfl, rfl⟩ := a2
   unfold Q60.l0b
   by_cases hi : i < (l.length : Int)
   ·right
    rw [if_pos hi, if_pos ⟨a0, hi⟩, Q213, wrap64 (x := i + 1) (by omega) (by omega)]
    refine ⟨_, rfl, ⟨by dsimp only; omega, by dsimp only; omega, _, rfl, fun n n0 n1 => ?_⟩, by dsimp only; omega⟩
    dsimp only
    rw [show (i + 1).toNat = i.toNat + 1 from by omega, List.take_add_one, Q98 a0 hi, List.mem_append]
    simp only [Option.toList_some, List.mem_singleton]
    by_cases hg : 0 ≤ gt l i ∧ gt l i < 256
    ·rw [if_pos hg]
     exact W4.put_rep a3 hg.1 hg.2 n n0 n1
    ·rw [if_neg hg, a3 n n0 n1]
     exact ⟨.inl, fun h => h.elim id fun h => absurd (h ▸ ⟨n0, n1⟩) hg⟩
   ·left
    rw [if_neg hi]
    refine ⟨_, rfl, u, rfl, ?_⟩
    rwa [List.take_of_length_le (by omega)] at a3) (0, 0, 0, 0, 0) ⟨Int.le_refl _, by dsimp only; omega, W4.z, rfl, fun n n0 n1 => by
     dsimp only
     rw [W4.z_rep n n0 n1]
     simp⟩
 refine ⟨u, ?_, h⟩
 unfold Q60.f
 have hl : Q60.l0 l 0 0 0 0 0 = some (.inl u.t) := hr
 rw [hl, Q12]
end Go.Bw
namespace Go.Bw
open Go Go.RowKit

theorem low_ex {v : BitVec 64} (h : v ≠ 0#64) : ∃ k : Nat, k < 64 ∧ v.getLsbD k = true ∧ ∀ i, i < k → v.getLsbD i = false := by
 have h1 : ∃ k, v.getLsbD k = true := Classical.byContradiction fun hn => h (BitVec.eq_of_getLsbD_eq fun i _ => by
  cases hv : v.getLsbD i with
  | false => simp
  | true => exact absurd ⟨i, hv⟩ hn)
 obtain ⟨k, hk⟩ := h1
 induction k using Nat.strongRecOn with
 | _ k ih =>
  by_cases hl : ∃ i, i < k ∧ v.getLsbD i = true
  ·obtain ⟨i, hi, hv⟩ := hl; exact ih i hi hv
  ·refine ⟨k, BitVec.lt_of_getLsbD hk, hk, fun i hi => ?_⟩
   cases hv : v.getLsbD i with
   | false => rfl
   | true => exact absurd ⟨i, hi, hv⟩ hl
theorem low_nat {v : BitVec 64} {k : Nat} (hk : v.getLsbD k = true) (hb : ∀ i, i < k → v.getLsbD i = false) : v.toNat = 2 ^ (k + 1) * (v.toNat / 2 ^ (k + 1)) + 2 ^ k := by
 have e : v.toNat % 2 ^ (k + 1) = 2 ^ k := by
  apply Nat.eq_of_testBit_eq
  intro i
  rw [Nat.testBit_mod_two_pow, Nat.testBit_two_pow]
  by_cases h1 : i < k
  ·have := hb i h1
   rw [BitVec.getLsbD] at this
   rw [this]; simp; omega
  ·by_cases h2 : i = k
   ·subst h2
    rw [BitVec.getLsbD] at hk
    rw [hk]; simp
   ·rw [decide_eq_false (by omega), decide_eq_false (by omega)]; rfl
 have := Nat.div_add_mod v.toNat (2 ^ (k + 1))
 omega
theorem Q289 {v : BitVec 64} {k : Nat} (hk : v.getLsbD k = true) (hb : ∀ i, i < k → v.getLsbD i = false) (i : Nat) :
 (v - 1#64).getLsbD i = if i < k then true else if i = k then false else v.getLsbD i := by
 have hn := low_nat hk hb
 have hk64 := BitVec.lt_of_getLsbD hk
 have hp : 0 < 2 ^ k := Nat.two_pow_pos k
 have hv := v.isLt
 have e1 : (v - 1#64).toNat = 2 ^ (k + 1) * (v.toNat / 2 ^ (k + 1)) + (2 ^ k - 1) := by
  rw [BitVec.toNat_sub]
  have : (1#64).toNat = 1 := rfl
  rw [this]
  generalize 2 ^ (k + 1) * (v.toNat / 2 ^ (k + 1)) = q at hn
  omega
 have hlt : 2 ^ k - 1 < 2 ^ (k + 1) := by rw [Nat.pow_succ]; omega
 have hlt2 : 2 ^ k < 2 ^ (k + 1) := by rw [Nat.pow_succ]; omega
 have ev : v.getLsbD i = if i < k + 1 then (2 ^ k).testBit i else (v.toNat / 2 ^ (k + 1)).testBit (i - (k + 1)) := by
  have : v.getLsbD i = v.toNat.testBit i := rfl
  rw [this]
  have h3 := Nat.testBit_two_pow_mul_add (v.toNat / 2 ^ (k + 1)) hlt2 i
  rw [← hn] at h3
  exact h3
 have ep : (v - 1#64).getLsbD i = if i < k + 1 then (2 ^ k - 1).testBit i else (v.toNat / 2 ^ (k + 1)).testBit (i - (k + 1)) := by
  have : (v - 1#64).getLsbD i = (v - 1#64).toNat.testBit i := rfl
  rw [this, e1]
  exact Nat.testBit_two_pow_mul_add _ hlt i
 rw [ep]
 by_cases h1 : i < k
 ·rw [if_pos (show i < k + 1 by omega), if_pos h1, Nat.testBit_two_pow_sub_one]; simp [h1]
 ·by_cases h2 : i = k
  ·subst h2
   rw [if_pos (show i < i + 1 by omega), if_neg h1, if_pos rfl, Nat.testBit_two_pow_sub_one]; simp
  ·rw [if_neg (show ¬ i < k + 1 by omega), if_neg h1, if_neg h2, ev, if_neg (show ¬ i < k + 1 by omega)]
theorem Q224 {v : BitVec 64} {k : Nat} (hk : v.getLsbD k = true) (hb : ∀ i, i < k → v.getLsbD i = false) (i : Nat) : (v &&& (v - 1#64)).getLsbD i = (v.getLsbD i && !decide (i = k)) := by
 rw [BitVec.getLsbD_and, Q289 hk hb]
 by_cases h1 : i < k
 ·rw [hb i h1]; rfl
 ·by_cases h2 : i = k
  ·subst h2; simp
  ·simp [h1, h2]
theorem low_only {v : BitVec 64} {k : Nat} (hk : v.getLsbD k = true) (hb : ∀ i, i < k → v.getLsbD i = false) : v &&& -v = BitVec.twoPow 64 k := by
 have e : -v = ~~~(v - 1#64) := by
  apply BitVec.eq_of_toNat_eq
  have hv := v.isLt
  have hn := low_nat hk hb
  have hp : 0 < 2 ^ k := Nat.two_pow_pos k
  rw [BitVec.toNat_not, BitVec.toNat_neg, BitVec.toNat_sub]
  have : (1#64).toNat = 1 := rfl
  rw [this]
  generalize 2 ^ (k + 1) * (v.toNat / 2 ^ (k + 1)) = q at hn
  omega
 apply BitVec.eq_of_getLsbD_eq
 intro i hi
 rw [e, BitVec.getLsbD_and, BitVec.getLsbD_not, Q289 hk hb, BitVec.getLsbD_twoPow]
 by_cases h1 : i < k
 ·rw [hb i h1]; simp; omega
 ·by_cases h2 : i = k
  ·subst h2; simp [hk, hi]
  ·rw [if_neg h1, if_neg h2]
   have : decide (k = i) = false := decide_eq_false (by omega)
   cases v.getLsbD i <;> simp [this, hi]
end Go.Bw
namespace Go.Bw
open Go Go.RowKit

def Ap {α : Type} (a b : Option α) : Prop := ∀ r, a = some r → b = some r
section
variable {α β σ τ ρ : Type}
theorem Ap.refl (a : Option α) : Ap a a := fun _ h => h
theorem Ap.none {b : Option α} : Ap Option.none b := fun _ h => by cases h
theorem Ap.bind {a b : Option α} {f g : α → Option β} (h : Ap a b) (k : ∀ t, Ap (f t) (g t)) : Ap (a.bind f) (b.bind g) := fun r e => by
 cases ha : a with
 | none => rw [ha] at e; cases e
 | some t => rw [ha] at e; rw [h t ha]; exact k t r e
theorem Ap.ite {c : Prop} [i : Decidable c] [j : Decidable c] {a b a' b' : Option α} (h : Ap a a') (k : Ap b b') : Ap (@_root_.ite _ c i a b) (@_root_.ite _ c j a' b') := fun r e => by
 by_cases hc : c
 ·rw [if_pos hc] at e ⊢; exact h r e
 ·rw [if_neg hc] at e ⊢; exact k r e
theorem Ap.jn {a b : Option (σ ⊕ ρ)} {f g : σ → Option ρ} (h : Ap a b) (k : ∀ t, Ap (f t) (g t)) : Ap (Bw.jn a f) (Bw.jn b g) := fun r e => by
 cases ha : a with
 | none => rw [ha] at e; cases e
 | some t =>
  rw [ha] at e
  rw [h t ha]
  cases t with
  | inl s => exact k s r e
  | inr o => exact e
theorem Ap.up {a b : Option ρ} (h : Ap a b) : Ap (Bw.up a : Option (σ ⊕ ρ)) (Bw.up b) := fun r e => by
 cases ha : a with
 | none => rw [ha] at e; cases e
 | some t => rw [ha] at e; rw [h t ha]; exact e
def iterC (fu : Nat) (body : σ → Option (σ ⊕ ρ)) (s : σ) : Option ρ := iterN body fu s
theorem Q282 {f g : σ → Option (σ ⊕ ρ)} (h : ∀ s, Ap (f s) (g s)) : ∀ {n : Nat} {s : σ}, Ap (iterN f n s) (iterN g n s)
 | 0, _ => fun _ e => by cases e
 | n + 1, s => fun r e => by
  unfold iterN at e ⊢
  cases hf : f s with
  | none => rw [hf] at e; cases e
  | some t =>
   rw [hf] at e
   rw [h s t hf]
   cases t with
   | inl s' => exact Q282 h r e
   | inr o => exact e
theorem Ap.iter {fu : Nat} {f g : σ → Option (σ ⊕ ρ)} {s : σ} (h : ∀ s, Ap (f s) (g s)) : Ap (iterC fu f s) (Bw.iter g s) := fun r e => Q15.2 ⟨fu, Q282 h r e⟩
theorem Q276 {f g : σ → α → Option σ} (h : ∀ s x, Ap (f s x) (g s x)) : ∀ {xs : List α} {s : σ}, Ap (foldO f s xs) (foldO g s xs)
 | [], _ => fun _ e => e
 | x :: xs, s => Ap.bind (h s x) fun t => Q276 h
def soloC (a : List α) : Option (List α) := if a.length ≤ 1 then some a else Option.none
theorem solo_mem {a r : List α} (h : soloC a = some r) : r = a ∧ (a = [] ∨ ∃ x, a = [x]) := by
 unfold soloC at h
 split at h
 ·rename_i hl
  refine ⟨(Option.some.inj h).symm, ?_⟩
  match a, hl with
  | [], _ => exact .inl rfl
  | [x], _ => exact .inr ⟨x, rfl⟩
  | _ :: _ :: _, hl => simp at hl
 ·cases h
end
end Go.Bw
namespace Go.Bw
open Go Go.RowKit Go.Proofs Go.Sort

def cmp3 (a b : Int) : Int := if a < b then -1 else if b < a then 1 else 0
theorem Q242 (a b : Int) : Q77.f a b = some (cmp3 a b) := by
 unfold Q77.f Q111.f cmp3
 simp
 split
 ·rfl
 ·split <;> rfl
theorem Q177 {a b : Int} : cmp3 a b < 0 ↔ a < b := by
 unfold cmp3
 split
 ·simp [*]
 ·split <;> simp <;> omega
theorem Q196 {a b : Int} : cmp3 a b = 0 ↔ a = b := by
 unfold cmp3
 split
 ·simp; omega
 ·split <;> simp <;> omega
theorem or_run (a b c : Int) : Q34.f [a, b, c] = some (if a = 0 then if b = 0 then c else b else a) := by
 unfold Q34.f Q34.l0
 by_cases ha : a = 0
 ·by_cases hb : b = 0
  ·by_cases hc : c = 0
   ·subst ha hb hc
    rw [Q81, Q34.l0b]
    simp [nx, gt, IntKind.wrap, IntKind.bits, IntKind.signed]
    rw [Q81, Q34.l0b]
    simp [nx, gt, IntKind.wrap, IntKind.bits, IntKind.signed]
    rw [Q81, Q34.l0b]
    simp [nx, gt, IntKind.wrap, IntKind.bits, IntKind.signed]
    rw [Q81, Q34.l0b]
    simp [dn, jn]
   ·subst ha hb
    rw [Q81, Q34.l0b]
    simp [nx, gt, IntKind.wrap, IntKind.bits, IntKind.signed]
    rw [Q81, Q34.l0b]
    simp [nx, gt, IntKind.wrap, IntKind.bits, IntKind.signed]
    rw [Q81, Q34.l0b]
    simp [nx, gt, hc, upL, jn]
  ·subst ha
   rw [Q81, Q34.l0b]
   simp [nx, gt, IntKind.wrap, IntKind.bits, IntKind.signed]
   rw [Q81, Q34.l0b]
   simp [nx, gt, hb, upL, jn]
 ·rw [Q81, Q34.l0b]
  simp [nx, gt, ha, upL, jn]
def edgeCmp (x y : Q3) : Int := if cmp3 x.From y.From = 0 then if cmp3 x.Action y.Action = 0 then cmp3 x.To y.To else cmp3 x.Action y.Action else cmp3 x.From y.From
theorem Q262 (x y : Q3) : Q108.f x.From x.Action x.To y.From y.Action y.To = some (edgeCmp x y) := by
 unfold Q108.f
 simp only [Q242, Option.bind_some, or_run]
 rfl
theorem Q258 (x y : Q3) : Q44.cmp x y = some (edgeCmp x y) := Q262 x y
def edgeLt (x y : Q3) : Prop := x.From < y.From ∨ x.From = y.From ∧ (x.Action < y.Action ∨ x.Action = y.Action ∧ x.To < y.To)
theorem Q229 {x y : Q3} : edgeCmp x y < 0 ↔ edgeLt x y := by
 unfold edgeCmp edgeLt
 by_cases h1 : x.From = y.From
 ·rw [if_pos (Q196.2 h1)]
  by_cases h2 : x.Action = y.Action
  ·rw [if_pos (Q196.2 h2), Q177]; omega
  ·rw [if_neg (fun h => h2 (Q196.1 h)), Q177]; omega
 ·rw [if_neg (fun h => h1 (Q196.1 h)), Q177]; omega
theorem Q171 (x y : Q3) : ltOf (gcf Q44.cmp) x y = true ↔ edgeLt x y := by
 unfold ltOf gcf
 rw [Q258]
 simp [Q229]
theorem edge_ltOf' (x y : Q3) : ltOf (gcf Q44.cmp) x y = false ↔ ¬ edgeLt x y := by
 rw [← Q171]; simp
theorem Q274 : CmpTot Q44.cmp := by
 refine ⟨⟨fun x y => by rw [Q258]; rfl, fun x => ?_, fun x y z h1 h2 => ?_, fun x y z h1 h2 => ?_⟩, fun x y h1 h2 => ?_⟩
 ·rw [edge_ltOf']; unfold edgeLt; omega
 ·rw [Q171] at *; unfold edgeLt at *; omega
 ·rw [edge_ltOf'] at *; unfold edgeLt at *; omega
 ·rw [edge_ltOf'] at *
  unfold edgeLt at *
  cases x
  cases y
  simp at *
  omega
theorem Q203 : ∀ (x : Bs), Lib.compareBytes x x = 0
 | [] => rfl
 | a :: x => by unfold Lib.compareBytes; rw [if_neg (UInt8.lt_irrefl a), if_neg (UInt8.lt_irrefl a)]; exact Q203 x
theorem cb_eq : ∀ {x y : Bs}, Lib.compareBytes x y = 0 → x = y
 | [], [], _ => rfl
 | [], _ :: _, h => by simp [Lib.compareBytes] at h
 | _ :: _, [], h => by simp [Lib.compareBytes] at h
 | a :: x, b :: y, h => by
  unfold Lib.compareBytes at h
  split at h
  ·simp at h
  ·split at h
   ·simp at h
   ·rename_i h1 h2
    rw [cb_eq h, UInt8.le_antisymm (UInt8.not_lt.1 h2) (UInt8.not_lt.1 h1)]
theorem cb_neg : ∀ {x y : Bs}, Lib.compareBytes y x = - Lib.compareBytes x y
 | [], [] => rfl
 | [], _ :: _ => rfl
 | _ :: _, [] => rfl
 | a :: x, b :: y => by
  unfold Lib.compareBytes
  by_cases h1 : a < b
  ·rw [if_neg (UInt8.lt_asymm h1), if_pos h1, if_pos h1]; rfl
  ·by_cases h2 : b < a
   ·rw [if_pos h2, if_neg h1, if_pos h2]
   ·rw [if_neg h1, if_neg h2, if_neg h2, if_neg h1]; exact cb_neg
theorem Q202 : ∀ {x y z : Bs}, Lib.compareBytes x y < 0 → Lib.compareBytes y z < 0 → Lib.compareBytes x z < 0
 | [], [], _, h, _ => by simp [Lib.compareBytes] at h
 | [], _ :: _, [], _, h => by simp [Lib.compareBytes] at h
 | [], _ :: _, _ :: _, _, _ => by simp [Lib.compareBytes]
 | _ :: _, [], _, h, _ => by simp [Lib.compareBytes] at h
 | _ :: _, _ :: _, [], _, h => by simp [Lib.compareBytes] at h
 | a :: x, b :: y, c :: z, h1, h2 => by
  unfold Lib.compareBytes at h1 h2 ⊢
  by_cases hab : a < b
  ·by_cases hbc : b < c
   ·rw [if_pos (UInt8.lt_trans hab hbc)]; decide
   ·rw [if_neg hbc] at h2
    by_cases hcb : c < b
    ·rw [if_pos hcb] at h2; simp at h2
    ·have : b = c := UInt8.le_antisymm (UInt8.not_lt.1 hcb) (UInt8.not_lt.1 hbc)
     subst this
     rw [if_pos hab]; decide
  ·rw [if_neg hab] at h1
   by_cases hba : b < a
   ·rw [if_pos hba] at h1; simp at h1
   ·have : a = b := UInt8.le_antisymm (UInt8.not_lt.1 hba) (UInt8.not_lt.1 hab)
    subst this
    rw [if_neg hba] at h1
    by_cases hbc : a < c
    ·rw [if_pos hbc]; decide
    ·rw [if_neg hbc] at h2 ⊢
     by_cases hcb : c < a
     ·rw [if_pos hcb] at h2; simp at h2
     ·rw [if_neg hcb] at h2 ⊢
      exact Q202 h1 h2
theorem Q245 (x y : Q5) : Q47.cmp x y = some (Lib.compareBytes x.Name y.Name) := rfl
theorem Q174 (x y : Q5) : ltOf (gcf Q47.cmp) x y = true ↔ Lib.compareBytes x.Name y.Name < 0 := by
 unfold ltOf gcf
 rw [Q245]
 simp
theorem prop_ltOf' (x y : Q5) : ltOf (gcf Q47.cmp) x y = false ↔ 0 ≤ Lib.compareBytes x.Name y.Name := by
 have := Q174 x y
 rw [← Bool.not_eq_true, this]; omega
theorem prop_swo : CmpSwo Q47.cmp := by
 refine ⟨fun x y => by rw [Q245]; rfl, fun x => ?_, fun x y z h1 h2 => ?_, fun x y z h1 h2 => ?_⟩
 ·rw [prop_ltOf', Q203]; decide
 ·rw [Q174] at *; exact Q202 h1 h2
 ·rw [prop_ltOf'] at *
  rw [cb_neg] at h1 h2 ⊢
  have h1' : Lib.compareBytes y.Name x.Name ≤ 0 := by omega
  have h2' : Lib.compareBytes z.Name y.Name ≤ 0 := by omega
  by_cases e1 : Lib.compareBytes y.Name x.Name = 0
  ·rw [← cb_eq e1]; omega
  ·by_cases e2 : Lib.compareBytes z.Name y.Name = 0
   ·rw [cb_eq e2]; omega
   ·have := Q202 (show Lib.compareBytes z.Name y.Name < 0 by omega) (show Lib.compareBytes y.Name x.Name < 0 by omega)
    omega
end Go.Bw
namespace Go.Bw
open Go Go.RowKit

theorem up_loop {ρ : Type} {body : Int → Option (Int ⊕ ρ)} {N : Int} {Q : ρ → Prop} (hN : N ≤ 9223372036854775807) (k0 : Int) (h0 : -9223372036854775808 ≤ k0) (h : ∀ i, k0 ≤ i → (∃ r, body i = some (.inr r) ∧ Q r) ∨ i < N ∧ body i = some (.inl (IntKind.i64.wrap (i + 1)))) :
 ∃ r, iter body k0 = some r ∧ Q r := by
 refine Q38 (fun i => k0 ≤ i) Q (fun i => (N - i).toNat) (fun i hi => ?_) k0 (Int.le_refl _)
 rcases h i hi with h | ⟨h1, h2⟩
 ·exact .inl h
 ·right
  rw [wrap64 (by omega) (by omega)] at h2
  exact ⟨_, h2, by omega, by omega⟩
theorem jn_true {x : Option (Unit ⊕ Bool)} (h : ∃ r, x = some r ∧ True) : ∃ b, jn x (fun _ => some true) = some b := by
 obtain ⟨r, rfl, _⟩ := h
 cases r <;> exact ⟨_, rfl⟩
theorem jn_int {x : Option (Unit ⊕ Int)} (h : ∃ r, x = some r ∧ True) : ∃ b, jn x (fun _ => some (-1)) = some b := by
 obtain ⟨r, rfl, _⟩ := h
 cases r <;> exact ⟨_, rfl⟩
theorem in_run (a n : Int) (x : List Bs) (y : List Q3) (z : List Q5) : Q83.f a n x y z = some (decide (0 ≤ a ∧ a < n)) := by
 unfold Q83.f
 by_cases h : 0 ≤ a <;> simp [h, jn]
theorem Q154 {σ ρ : Type} {x : Option (σ ⊕ ρ)} {f : σ → Option ρ} (hx : ∃ t, x = some t) (hf : ∀ s, ∃ r, f s = some r) : ∃ r, jn x f = some r := by
 obtain ⟨t, rfl⟩ := hx
 cases t with
 | inl s => exact hf s
 | inr r => exact ⟨r, rfl⟩
theorem rune_name (r : Int) : ∃ b, Q112.f r = some b := by
 unfold Q112.f
 repeat' first
  | exact ⟨_, rfl⟩
  | refine Q154 ?_ fun _ => ?_
  | split
def EdgeIn (n : Int) (m : Nat) (e : Q3) : Prop := 0 ≤ e.From ∧ e.From < n ∧ 0 ≤ e.To ∧ e.To < n ∧ 0 ≤ e.Action ∧ e.Action < (m : Int)
end Go.Bw
namespace Go.Bw
open Go Go.RowKit

theorem shr_wd (v : BitVec 64) {s : Int} (h0 : 0 ≤ s) (h1 : s < 64) : Bw.shr .u64 (Wd v) s = Wd (v >>> s.toNat) := by
 have hs : min s.toNat IntKind.u64.bits = s.toNat := Nat.min_eq_left (show s.toNat ≤ 64 by omega)
 unfold Bw.shr Wd
 rw [hs, Int.fdiv_eq_ediv_of_nonneg _ (Int.pow_nonneg (by decide)), BitVec.toNat_ushiftRight, Nat.shiftRight_eq_div_pow]
 have : (2 : Int) ^ s.toNat = ((2 ^ s.toNat : Nat) : Int) := by rw [Int.natCast_pow]; rfl
 rw [this]
 rfl
theorem bit_wd (v : BitVec 64) {s : Int} (h0 : 0 ≤ s) (h1 : s < 64) : band .u64 (Bw.shr .u64 (Wd v) s) 1 = 1 ↔ v.getLsbD s.toNat = true := by
 rw [shr_wd v h0 h1, show (1 : Int) = Wd 1#64 from rfl, Q183]
 constructor
 ·intro h
  have := Wd.inj h
  have h2 := congrArg (fun z => z.getLsbD 0) this
  simpa using h2
 ·intro h
  congr 1
  apply BitVec.eq_of_getLsbD_eq
  intro i hi
  rw [BitVec.getLsbD_and, BitVec.getLsbD_ushiftRight]
  by_cases hi0 : i = 0
  ·subst hi0; simp [h]
  ·have : (1#64).getLsbD i = false := by simp [hi0]
   rw [this]; simp
theorem Q215 {κ ν : Type} [DecidableEq κ] : ∀ (m : List (κ × ν)) (k k' : κ) (v : ν), mget (mset m k v) k' = if k = k' then some v else mget m k'
 | [], k, k', v => by unfold mset mget; split <;> rfl
 | p :: r, k, k', v => by
  unfold mset
  by_cases h : p.1 = k
  ·rw [if_pos h]
   unfold mget
   by_cases h2 : k = k'
   ·simp [h2]
   ·rw [if_neg h2, if_neg h2, if_neg (fun h3 => h2 (h.symm.trans h3))]
  ·rw [if_neg h]
   unfold mget
   by_cases h2 : p.1 = k'
   ·rw [if_pos h2, if_pos h2, if_neg (fun h3 => h (h2.trans h3.symm))]
   ·rw [if_neg h2, if_neg h2, Q215 r k k' v]
def Hit (x : List Bs) (E : List Q3) (k : Q9) (t : Int) : Prop := ∃ e ∈ E, e.From = k.from_ ∧ e.To = t ∧ (gt x e.Action = k.action ∨ k.action = [45])
abbrev set0 : Q4 := ⟨(0 : Int), (0 : Int), (0 : Int), (0 : Int)⟩
def W4.s (u : W4) : Q4 := ⟨Wd u.a, Wd u.b, Wd u.c, Wd u.d⟩
def Nx (x : List Bs) (E : List Q3) (m : List (Q9 × Q4)) : Prop := ∀ k, ∃ u : W4, (mget m k).getD set0 = u.s ∧ u.Rep (Hit x E k)
theorem put_hit {m : List (Q9 × Q4)} {S : Q9 → Int → Prop} (h : ∀ k, ∃ u : W4, (mget m k).getD set0 = u.s ∧ u.Rep (S k)) {k0 : Q9} {t : Int} (h0 : 0 ≤ t) (h1 : t < 256) {u : W4} (hu : (mget m k0).getD set0 = u.s) :
 ∀ k, ∃ u' : W4, (mget (mset m k0 (u.put t).s) k).getD set0 = u'.s ∧ u'.Rep (fun n => S k n ∨ k0 = k ∧ n = t) := fun k => by
 rw [Q215]
 by_cases hk : k0 = k
 ·subst hk
  rw [if_pos rfl]
  obtain ⟨v, hv, hr⟩ := h k0
  rw [hu] at hv
  have : u = v := by
   cases u; cases v
   simp only [W4.s, Q4.mk.injEq] at hv
   rw [Wd.inj hv.1, Wd.inj hv.2.1, Wd.inj hv.2.2.1, Wd.inj hv.2.2.2]
  subst this
  refine ⟨u.put t, rfl, fun n n0 n1 => ?_⟩
  rw [W4.put_rep hr h0 h1 n n0 n1]
  simp
 ·rw [if_neg hk]
  obtain ⟨v, hv, hr⟩ := h k
  refine ⟨v, hv, fun n n0 n1 => ?_⟩
  rw [hr n n0 n1]
  simp [hk]
theorem l2_run (x : List Bs) (y : List Q3) {j : Int} (hj : 0 ≤ j) (hj2 : j < (y.length : Int)) {E : List Q3} {m : List (Q9 × Q4)} (hm : Nx x E m) (ht : 0 ≤ (gt y j).To ∧ (gt y j).To < 256) :
 ∃ m', Q16.l2 x y j m 0 = some (.inl m') ∧ Nx x (E ++ [gt y j]) m' := by
 unfold Q16.l2
 rw [Q81]
 have w1 : IntKind.i64.wrap (0 + 1) = 1 := wrap64 (by decide) (by decide)
 have w2 : IntKind.i64.wrap (1 + 1) = 2 := wrap64 (by decide) (by decide)
 have g0 : gt [gt x (gt y j).Action, ([45] : Bs)] 0 = gt x (gt y j).Action := rfl
 have g1 : gt [gt x (gt y j).Action, ([45] : Bs)] 1 = [45] := rfl
 obtain ⟨u1, e1, r1⟩ := hm ⟨(gt y j).From, gt x (gt y j).Action⟩
 have s1 := put_hit hm ht.1 ht.2 e1
 obtain ⟨u2, e2, r2⟩ := s1 ⟨(gt y j).From, [45]⟩
 have s2 := put_hit s1 ht.1 ht.2 e2
 refine ⟨mset (mset m ⟨(gt y j).From, gt x (gt y j).Action⟩ (u1.put (gt y j).To).s) ⟨(gt y j).From, [45]⟩ (u2.put (gt y j).To).s, ?_, fun k => ?_⟩
 rotate_left
 ·obtain ⟨u3, e3, r3⟩ := s2 k
  refine ⟨u3, e3, fun n n0 n1 => ?_⟩
  rw [r3 n n0 n1]
  unfold Hit
  constructor
  ·rintro ((⟨e, he, q⟩ | ⟨rfl, rfl⟩) | ⟨rfl, rfl⟩)
   ·exact ⟨e, by simp [he], q⟩
   ·exact ⟨gt y j, by simp, rfl, rfl, .inl rfl⟩
   ·exact ⟨gt y j, by simp, rfl, rfl, .inr rfl⟩
  ·rintro ⟨e, he, q1, q2, q3⟩
   rcases List.mem_append.1 he with he | he
   ·exact .inl (.inl ⟨e, he, q1, q2, q3⟩)
   ·simp at he
    subst he
    rcases q3 with q3 | q3
    ·exact .inl (.inr ⟨by rw [q1, q3], q2.symm⟩)
    ·exact .inr ⟨by rw [q1, ← q3], q2.symm⟩
 ·simp only [Q16.l2b]
  rw [if_pos (by simp), if_pos (by simp), g0, e1]
  simp only [W4.s, Q213, if_pos ht, Option.bind_some, nx, w1]
  rw [Q81]
  simp only [Q16.l2b]
  rw [if_pos (by simp), if_pos (by simp), g1]
  have e2' : (mget (mset m ({ from_ := (gt y j).From, action := gt x (gt y j).Action } : Q9) ({ c0 := (u1.put (gt y j).To).t.1, c1 := (u1.put (gt y j).To).t.2.1, c2 := (u1.put (gt y j).To).t.2.2.1, c3 := (u1.put (gt y j).To).t.2.2.2 } : Q4)) { from_ := (gt y j).From, action := [45] }).getD set0 = u2.s := e2
  rw [e2']
  simp only [W4.s, Q213, if_pos ht, Option.bind_some, nx, w2]
  rw [Q81]
  simp only [Q16.l2b]
  rw [if_neg (by simp)]
  rfl
theorem l1_run (n : Int) (x : List Bs) (y : List Q3) (hy : (y.length : Int) ≤ 9223372036854775807) (he : ∀ e ∈ y, EdgeIn n x.length e) (hn : n ≤ 24) :
 ∃ m, Q16.l1 x y [] 0 = some (.inl m) ∧ Nx x y m := by
 obtain ⟨r, hr, m, rfl, hm⟩ := Q38 (body := fun t_ : List (Q9 × Q4) × Int => Q16.l1b x y t_.1 t_.2) (fun s => 0 ≤ s.2 ∧ s.2 ≤ (y.length : Int) ∧ Nx x (y.take s.2.toNat) s.1)
  (fun r => ∃ m, r = .inl m ∧ Nx x y m) (fun s => ((y.length : Int) - s.2).toNat) (fun ⟨m, i⟩ ⟨h0, h1, h2⟩ => by
   dsimp only at h0 h1 h2 ⊢
   unfold Q16.l1b
   by_cases hi : i < (y.length : Int)
   ·right
    have hE := he _ (Q43 h0 hi)
    obtain ⟨m', hm', hx⟩ := l2_run x y h0 hi h2 ⟨hE.2.2.1, by have := hE.2.2.2.1; omega⟩
    rw [if_pos hi, if_pos ⟨h0, hi⟩, if_pos hE.2.2.2.2, hm', Q12, wrap64 (x := i + 1) (by omega) (by omega)]
    refine ⟨_, rfl, ⟨by dsimp only; omega, by dsimp only; omega, ?_⟩, by dsimp only; omega⟩
    dsimp only
    rw [show (i + 1).toNat = i.toNat + 1 from by omega, List.take_add_one, Q98 h0 hi]
    exact hx
   ·left
    rw [if_neg hi]
    refine ⟨_, rfl, m, rfl, ?_⟩
    rwa [List.take_of_length_le (by omega)] at h2) ([], 0) ⟨Int.le_refl _, by dsimp only; omega, fun k => ⟨W4.z, rfl, fun n n0 n1 => by
     rw [W4.z_rep n n0 n1]
     simp [Hit]⟩⟩
 exact ⟨m, hr, hm⟩
end Go.Bw
namespace Go.Bw
open Go Go.RowKit
theorem has_run {u : W4} {n : Int} : Q110.f (Wd u.a) (Wd u.b) (Wd u.c) (Wd u.d) n = some (decide (0 ≤ n ∧ n < 256) && u.has n) := by
 unfold Q110.f
 by_cases h0 : 0 ≤ n
 ·rw [if_pos h0, Q12]
  by_cases h1 : n < 256
  ·have hm : IntKind.u64.wrap (band .i64 n 63) = n % 64 := by rw [band63 h0 (by omega), wrapu (by omega) (by omega)]
   have hbit : ∀ v : BitVec 64, decide (band .u64 (Bw.shr .u64 (Wd v) (n % 64)) 1 = 1) = v.getLsbD (n % 64).toNat := fun v => by
    rw [Bool.eq_iff_iff, decide_eq_true_eq, bit_wd v (by omega) (by omega)]
   have hn : (0 : Int) ≤ n % 64 := by omega
   have hr : (0 : Int) ≤ n / 64 ∧ n / 64 < 4 := by omega
   rw [if_pos (decide_eq_true h1), shr6 h0, hm, if_pos hr, decide_eq_true (show 0 ≤ n ∧ n < 256 from ⟨h0, h1⟩), Bool.true_and]
   simp only [if_pos hn, hbit]
   unfold W4.has W4.sel
   by_cases k0 : n / 64 = 0
   ·simp [k0, jn]
   ·by_cases k1 : n / 64 = 1
    ·simp [k1, jn]
    ·by_cases k2 : n / 64 = 2
     ·simp [k2, jn]
     ·simp [k0, k1, k2, jn]
  ·rw [if_neg (by simp; omega), decide_eq_false (by omega)]
   rfl
 ·rw [if_neg h0, Q12, if_neg (by simp), decide_eq_false (by omega)]
  rfl
end Go.Bw
namespace Go.Bw
open Go Go.RowKit

theorem ext_gt {α : Type} [Inhabited α] {l l' : List α} (hn : l.length = l'.length) (h : ∀ k : Nat, k < l.length → gt l k = gt l' k) : l = l' := by
 refine List.ext_getElem hn fun k h1 h2 => ?_
 have := h k h1
 rwa [Q99 (List.getElem?_eq_getElem h1), Q99 (List.getElem?_eq_getElem h2)] at this

def pairs (n : Nat) (p : Nat → Nat → Bool) : Nat := ((List.range n).map fun i => (List.range n).countP (p i)).sum
end Go.Bw
namespace Go.Bw
open Go Go.RowKit

theorem wrap_neg (v : BitVec 64) : IntKind.u64.wrap (0 - Wd v) = Wd (-v) := by
 unfold Wd
 rw [BitVec.toNat_neg]
 have := v.isLt
 simp [IntKind.wrap, IntKind.bits, IntKind.signed]
 omega
theorem Q247 (v : BitVec 64) (h : v ≠ 0#64) : IntKind.u64.wrap (Wd v - 1) = Wd (v - 1#64) := by
 have h1 : Wd v ≠ 0 := fun e => h (Wd.inj (e.trans rfl))
 have h2 := Wd.lt v
 rw [wrapu (by omega) (by omega)]
 unfold Wd at *
 rw [BitVec.toNat_sub]
 have : (1#64).toNat = 1 := rfl
 rw [this]
 omega
theorem tz_tab : ∀ k : Fin 64, (0 ≤ Bw.shr .u64 (IntKind.u64.wrap (Wd (BitVec.twoPow 64 k.1) * 285870213051353865)) 58 ∧ Bw.shr .u64 (IntKind.u64.wrap (Wd (BitVec.twoPow 64 k.1) * 285870213051353865)) 58 < (64 : Int)) ∧
 IntKind.i64.wrap (gt Tryz.gtab0 (Bw.shr .u64 (IntKind.u64.wrap (Wd (BitVec.twoPow 64 k.1) * 285870213051353865)) 58)) = (k.1 : Int) := by decide +kernel
theorem tz_run {v : BitVec 64} {k : Nat} (hk : v.getLsbD k = true) (hb : ∀ i, i < k → v.getLsbD i = false) : Q26.f (Wd v) = some (k : Int) := by
 have hk64 := BitVec.lt_of_getLsbD hk
 have hv : Wd v ≠ 0 := fun e => by
  have : v = 0#64 := Wd.inj (e.trans rfl)
  rw [this] at hk
  simp at hk
 obtain ⟨h1, h2⟩ := tz_tab ⟨k, hk64⟩
 have hix : Q26.ix (Wd v) = Bw.shr .u64 (IntKind.u64.wrap (Wd (BitVec.twoPow 64 k) * 285870213051353865)) 58 := by
  unfold Q26.ix
  rw [wrap_neg, Q183, low_only hk hb]
 unfold Q26.f
 rw [if_neg hv, hix, if_pos h1, h2]
def wplaces (base : Int) (v : BitVec 64) : List Int := ((List.range 64).filter fun i => v.getLsbD i).map fun i : Nat => base + i
theorem Q315 (base : Int) : wplaces base 0#64 = [] := by
 unfold wplaces
 rw [List.filter_eq_nil_iff.2 (fun a _ => by simp)]
 rfl
theorem Q318 (base : Int) {v : BitVec 64} {k : Nat} (hk : v.getLsbD k = true) (hb : ∀ i, i < k → v.getLsbD i = false) : wplaces base v = (base + k) :: wplaces base (v &&& (v - 1#64)) := by
 have hk64 := BitVec.lt_of_getLsbD hk
 unfold wplaces
 have hr : List.range 64 = List.range k ++ k :: List.range' (k + 1) (63 - k) := by
  rw [List.range_eq_range', List.range_eq_range', show (64 : Nat) = k + (1 + (63 - k)) from by omega, ← List.range'_append_1, Nat.zero_add, Nat.add_comm 1, List.range'_succ]
 have e1 : (List.range k).filter (fun i => v.getLsbD i) = [] := List.filter_eq_nil_iff.2 fun a ha => by rw [hb a (by simpa using ha)]; simp
 have e2 : (List.range k).filter (fun i => (v &&& (v - 1#64)).getLsbD i) = [] := List.filter_eq_nil_iff.2 fun a ha => by rw [Q224 hk hb, hb a (by simpa using ha)]; simp
 have e3 : (List.range' (k + 1) (63 - k)).filter (fun i => v.getLsbD i) = (List.range' (k + 1) (63 - k)).filter (fun i => (v &&& (v - 1#64)).getLsbD i) := List.filter_congr fun a ha => by
  rw [Q224 hk hb]
  have : k + 1 ≤ a := (List.mem_range'_1.1 ha).1
  rw [decide_eq_false (by omega)]; simp
 have e4 : (v &&& (v - 1#64)).getLsbD k = false := by rw [Q224 hk hb]; simp
 rw [hr, List.filter_append, List.filter_append, e1, e2, List.filter_cons_of_pos (by simpa using hk), List.filter_cons_of_neg (by simp [e4]), e3]
 rfl
theorem Q147 (base : Int) (v : BitVec 64) : (wplaces base v).length ≤ 64 := by
 unfold wplaces
 rw [List.length_map]
 exact Nat.le_trans (List.length_filter_le _ _) (by simp)
theorem Q255 {base : Int} {v : BitVec 64} {t : Int} : t ∈ wplaces base v ↔ ∃ i : Nat, i < 64 ∧ v.getLsbD i = true ∧ t = base + i := by
 unfold wplaces
 rw [List.mem_map]
 constructor
 ·rintro ⟨i, hi, rfl⟩
  rw [List.mem_filter] at hi
  exact ⟨i, by simpa using hi.1, by simpa using hi.2, rfl⟩
 ·rintro ⟨i, h1, h2, rfl⟩
  exact ⟨i, List.mem_filter.2 ⟨by simpa using h1, by simpa using h2⟩, rfl⟩
theorem Q313 (base : Int) (v : BitVec 64) : (wplaces base v).Pairwise (· < ·) := by
 unfold wplaces
 rw [List.pairwise_map]
 refine (List.pairwise_lt_range (n := 64)).filter _ |>.imp fun h => by omega
noncomputable def listB (base : Int) (x : List Int) (v : Int) : Option (((List Int) × Int) ⊕ (((List Int)) ⊕ ((List Int)))) :=
 if v = 0 then
  dn (.inl x)
 else
  (Q26.f v).bind fun t =>
   if (x.length + ([(IntKind.i64.wrap (base + t))] : List Int).length) * 8 ≤ 140737488355328 then
    nx ((x ++ ([(IntKind.i64.wrap (base + t))] : List Int)), band .u64 v (IntKind.u64.wrap (v - 1)))
   else none
theorem Q201 {base : Int} (hb0 : 0 ≤ base) (hb1 : base ≤ 192) (acc : List Int) (ha : acc.length ≤ 192) (v : BitVec 64) :
 iter (fun t_ : List Int × Int => listB base t_.1 t_.2) (acc, Wd v) = some (.inl (acc ++ wplaces base v)) := by
 obtain ⟨r, hr, rfl⟩ := Q38 (body := fun t_ : List Int × Int => listB base t_.1 t_.2) (fun s => ∃ u : BitVec 64, s.2 = Wd u ∧ s.1 ++ wplaces base u = acc ++ wplaces base v)
  (fun r => r = .inl (acc ++ wplaces base v)) (fun s => (256 - s.1.length)) (fun ⟨x, w⟩ ⟨u, h1, h2⟩ => by
   dsimp only at h1 h2 ⊢
   subst h1
   unfold listB
   by_cases hu : u = 0#64
   ·left
    subst hu
    rw [Q315, List.append_nil] at h2
    rw [if_pos (show Wd 0#64 = 0 from rfl), h2]
    exact ⟨_, rfl, rfl⟩
   ·right
    obtain ⟨k, hk, hk1, hk2⟩ := low_ex hu
    have hw : Wd u ≠ 0 := fun e => hu (Wd.inj (e.trans rfl))
    have hp := Q318 base hk1 hk2
    have hlen : x.length + (wplaces base u).length = acc.length + (wplaces base v).length := by rw [← List.length_append, h2, List.length_append]
    have hpl := Q147 base v
    have hpu : 1 ≤ (wplaces base u).length := by rw [hp]; simp
    rw [if_neg hw, tz_run hk1 hk2, Option.bind_some, if_pos (by simp only [List.length_cons, List.length_nil]; omega), Q247 u hu, Q183, wrap64 (x := base + k) (by omega) (by omega)]
    refine ⟨_, rfl, ⟨_, rfl, ?_⟩, ?_⟩
    ·dsimp only
     rw [List.append_assoc, List.singleton_append, ← hp, h2]
    ·dsimp only
     rw [List.length_append, List.length_singleton]; omega) (acc, Wd v) ⟨v, rfl, rfl⟩
 exact hr
theorem band127 (n : Int) : 0 ≤ band .i64 n 127 ∧ band .i64 n 127 ≤ 127 := by
 show 0 ≤ IntKind.i64.wrap ((BitVec.ofInt 64 n &&& BitVec.ofInt 64 127).toNat : Int) ∧ _
 have e2 : (BitVec.ofInt 64 127).toNat = 2 ^ 7 - 1 := by rfl
 have e3 : (BitVec.ofInt 64 n &&& BitVec.ofInt 64 127).toNat = (BitVec.ofInt 64 n).toNat % 2 ^ 7 := by rw [BitVec.toNat_and, e2, Nat.and_two_pow_sub_one_eq_mod]
 have : (BitVec.ofInt 64 n).toNat % 2 ^ 7 < 2 ^ 7 := Nat.mod_lt _ (by decide)
 have h4 : band .i64 n 127 = IntKind.i64.wrap ((BitVec.ofInt 64 n &&& BitVec.ofInt 64 127).toNat : Int) := rfl
 rw [h4, e3, wrap64 (by omega) (by omega)]
 omega
theorem Q193 (a : Int) : ∃ t, Q21.f a = some t ∧ 0 ≤ t ∧ t ≤ 127 := ⟨_, rfl, band127 _⟩
theorem len_run (a b c d : Int) : ∃ t, Q136.f a b c d = some t ∧ 0 ≤ t ∧ t ≤ 508 := by
 obtain ⟨t1, h1, a1, b1⟩ := Q193 a
 obtain ⟨t2, h2, a2, b2⟩ := Q193 b
 obtain ⟨t3, h3, a3, b3⟩ := Q193 c
 obtain ⟨t4, h4, a4, b4⟩ := Q193 d
 refine ⟨t1 + t2 + t3 + t4, ?_, by omega, by omega⟩
 unfold Q136.f
 rw [h1, h2, h3, h4]
 simp only [Option.bind_some]
 rw [wrap64 (x := 0 + t1) (by omega) (by omega), wrap64 (x := 0 + t1 + t2) (by omega) (by omega), wrap64 (x := 0 + t1 + t2 + t3) (by omega) (by omega), wrap64 (x := 0 + t1 + t2 + t3 + t4) (by omega) (by omega)]
 congr 1
 omega
def W4.list (u : W4) : List Int := wplaces 0 u.a ++ wplaces 64 u.b ++ wplaces 128 u.c ++ wplaces 192 u.d
theorem list_run (u : W4) : Q19.f (Wd u.a) (Wd u.b) (Wd u.c) (Wd u.d) = some u.list := by
 obtain ⟨t, ht, t0, t1⟩ := len_run (Wd u.a) (Wd u.b) (Wd u.c) (Wd u.d)
 have la := Q147 0 u.a
 have lb := Q147 64 u.b
 have lc := Q147 128 u.c
 have e0 : Q19.l0 [] (Wd u.a) = some (.inl ([] ++ wplaces 0 u.a)) := Q201 (base := 0) (by decide) (by decide) [] (by simp) u.a
 have e1 : Q19.l1 ([] ++ wplaces 0 u.a) (Wd u.b) = some (.inl (([] ++ wplaces 0 u.a) ++ wplaces 64 u.b)) := Q201 (base := 64) (by decide) (by decide) _ (by simp; omega) u.b
 have e2 : Q19.l2 (([] ++ wplaces 0 u.a) ++ wplaces 64 u.b) (Wd u.c) = some (.inl ((([] ++ wplaces 0 u.a) ++ wplaces 64 u.b) ++ wplaces 128 u.c)) := Q201 (base := 128) (by decide) (by decide) _ (by simp; omega) u.c
 have e3 : Q19.l3 ((([] ++ wplaces 0 u.a) ++ wplaces 64 u.b) ++ wplaces 128 u.c) (Wd u.d) = some (.inl (((([] ++ wplaces 0 u.a) ++ wplaces 64 u.b) ++ wplaces 128 u.c) ++ wplaces 192 u.d)) := Q201 (base := 192) (by decide) (by decide) _ (by simp; omega) u.d
 unfold Q19.f
 rw [ht, Option.bind_some, if_pos (by omega), e0, Q12, e1, Q12, e2, Q12, e3, Q12]
 rfl
theorem mem_list {u : W4} {S : Int → Prop} (h : u.Rep S) {t : Int} : t ∈ u.list ↔ 0 ≤ t ∧ t < 256 ∧ S t := by
 have key : ∀ (k : Int) (i : Nat), 0 ≤ k → k < 4 → i < 64 → ((u.sel k).getLsbD i = true ↔ S (64 * k + i)) := fun k i k0 k1 hi => by
  have := h (64 * k + i) (by omega) (by omega)
  unfold W4.has at this
  rwa [show (64 * k + (i : Int)) / 64 = k from by omega, show ((64 * k + (i : Int)) % 64).toNat = i from by omega] at this
 have kk : ∀ (k : Int), 0 ≤ k → k < 4 → (t ∈ wplaces (64 * k) (u.sel k) ↔ 64 * k ≤ t ∧ t < 64 * k + 64 ∧ S t) := fun k k0 k1 => by
  rw [Q255]
  constructor
  ·rintro ⟨i, hi, h1, rfl⟩
   exact ⟨by omega, by omega, (key k i k0 k1 hi).1 h1⟩
  ·rintro ⟨h1, h2, h3⟩
   refine ⟨(t - 64 * k).toNat, by omega, (key k _ k0 k1 (by omega)).2 ?_, by omega⟩
   rwa [show 64 * k + ((t - 64 * k).toNat : Int) = t from by omega]
 have k0 := kk 0 (by decide) (by decide)
 have k1 := kk 1 (by decide) (by decide)
 have k2 := kk 2 (by decide) (by decide)
 have k3 := kk 3 (by decide) (by decide)
 simp [W4.sel] at k0 k1 k2 k3
 unfold W4.list
 rw [List.mem_append, List.mem_append, List.mem_append, k0, k1, k2, k3]
 constructor
 ·rintro (((⟨a, b, c⟩ | ⟨a, b, c⟩) | ⟨a, b, c⟩) | ⟨a, b, c⟩) <;> exact ⟨by omega, by omega, c⟩
 ·rintro ⟨a, b, c⟩
  by_cases h1 : t < 64
  ·exact .inl (.inl (.inl ⟨a, h1, c⟩))
  ·by_cases h2 : t < 128
   ·exact .inl (.inl (.inr ⟨by omega, by omega, c⟩))
   ·by_cases h3 : t < 192
    ·exact .inl (.inr ⟨by omega, by omega, c⟩)
    ·exact .inr ⟨by omega, by omega, c⟩
theorem Q248 (u : W4) : u.list.length ≤ 256 := by
 have a := Q147 0 u.a
 have b := Q147 64 u.b
 have c := Q147 128 u.c
 have d := Q147 192 u.d
 unfold W4.list
 simp only [List.length_append]
 omega
end Go.Bw
namespace Go.Bw
open Go Go.RowKit

theorem Q295 {κ ν : Type} [DecidableEq κ] : ∀ (m : List (κ × ν)) (k k' : κ) (v : ν), mget (mset m k v) k' = if k = k' then some v else mget m k'
 | [], k, k', v => by unfold mset mget; split <;> rfl
 | p :: r, k, k', v => by
  unfold mset
  by_cases h : p.1 = k
  ·rw [if_pos h]
   unfold mget
   by_cases h2 : k = k'
   ·simp [h2]
   ·rw [if_neg h2, if_neg h2, if_neg (fun h3 => h2 (h.symm.trans h3))]
  ·rw [if_neg h]
   unfold mget
   by_cases h2 : p.1 = k'
   ·rw [if_pos h2, if_pos h2, if_neg (fun h3 => h (h2.trans h3.symm))]
   ·rw [if_neg h2, if_neg h2, Q295 r k k' v]
end Go.Bw
namespace Go.Bw
open Go Go.RowKit
theorem Q217 {σ ρ : Type} {body : σ → Option (σ ⊕ ρ)} {s s' : σ} (h : body s = some (.inl s')) : iter body s = iter body s' := by rw [Q81, h]; rfl
theorem Q214 {σ ρ : Type} {body : σ → Option (σ ⊕ ρ)} {s : σ} {r : ρ} (h : body s = some (.inr r)) : iter body s = some r := by rw [Q81, h]; rfl
end Go.Bw
namespace Go.Bw
open Go Go.RowKit

theorem Q299 {a : List Int} (hl : (a.length : Int) ≤ 1000000) (h : a.Pairwise (· < ·)) : Q31.f a = some a := by
 unfold Q31.f
 by_cases h2 : (a.length : Int) < 2
 ·rw [if_pos h2]
 ·rw [if_neg h2]
  obtain ⟨r, hr, rfl⟩ := Q38 (body := fun t_ : Int => Q31.l0b a t_) (fun i => 1 ≤ i) (fun r => r = .inl ()) (fun i => ((a.length : Int) - i).toNat) (fun i i0 => by
   unfold Q31.l0b
   by_cases hi : i < (a.length : Int)
   ·right
    have hw : IntKind.i64.wrap (i - 1) = i - 1 := wrap64 (by omega) (by omega)
    have hg : gt a (i - 1) < gt a i := by
     have h1 := Q98 (xs := a) (i := i - 1) (by omega) (by omega)
     have h2 := Q98 (xs := a) (i := i) (by omega) hi
     rw [List.getElem?_eq_getElem (by omega)] at h1 h2
     have := List.pairwise_iff_getElem.1 h (i - 1).toNat i.toNat (by omega) (by omega) (by omega)
     rw [Option.some.inj h1, Option.some.inj h2] at this
     exact this
    rw [if_pos hi, if_pos ⟨by omega, hi⟩, hw, if_pos ⟨by omega, by omega⟩, if_neg (by omega), wrap64 (x := i + 1) (by omega) (by omega)]
    exact ⟨_, rfl, by omega, by omega⟩
   ·left; rw [if_neg hi]; exact ⟨_, rfl, rfl⟩) 1 (Int.le_refl _)
  have hr' : Q31.l0 a 1 = some (.inl ()) := hr
  rw [hr', Q12]
theorem sort_run {a : List Int} (hl : a.length ≤ 1000000) (hn : a.Nodup) : ∃ b, Q56.f a = some b ∧ b.Perm a ∧ b.Pairwise (· < ·) := by
 have tr : ∀ x y z : Int, decide (x ≤ y) = true → decide (y ≤ z) = true → decide (x ≤ z) = true := fun x y z h1 h2 => by simp only [decide_eq_true_eq] at *; omega
 have to : ∀ x y : Int, (decide (x ≤ y) || decide (y ≤ x)) = true := fun x y => by simp; omega
 have hp := List.mergeSort_perm a (fun x y => decide (x ≤ y))
 refine ⟨_, by unfold Q56.f; rw [if_pos (by omega)], hp, ?_⟩
 have h1 := List.pairwise_mergeSort tr to a
 have h2 : (a.mergeSort fun x y => decide (x ≤ y)).Nodup := hp.nodup_iff.2 hn
 exact (List.Pairwise.and h1 h2).imp fun {x y} h => by
  have := of_decide_eq_true h.1
  have := h.2
  omega
structure KI (M : List (Q2 × Int)) (L : List Q2) : Prop where
 nd : L.Nodup
 at_ : ∀ k i, mget M k = some i ↔ 0 ≤ i ∧ i < (L.length : Int) ∧ gt L i = k
theorem KI.nil : KI [] [] := ⟨List.nodup_nil, fun k i => ⟨fun h => (by cases h), fun ⟨h1, h2, _⟩ => (by simp at h2; omega)⟩⟩
theorem KI.mem {M : List (Q2 × Int)} {L : List Q2} (h : KI M L) {k : Q2} : mget M k = none ↔ k ∉ L := by
 constructor
 ·intro hn hk
  obtain ⟨i, hi, e⟩ := List.getElem_of_mem hk
  have := (h.at_ k i).2 ⟨by omega, by omega, by rw [Q99 (List.getElem?_eq_getElem hi), e]⟩
  rw [hn] at this
  cases this
 ·intro hk
  cases hm : mget M k with
  | none => rfl
  | some i =>
   obtain ⟨h1, h2, h3⟩ := (h.at_ k i).1 hm
   exact absurd (h3 ▸ Q43 h1 h2) hk
theorem KI.new {M : List (Q2 × Int)} {L : List Q2} (h : KI M L) {k : Q2} (hk : k ∉ L) : KI (mset M k (L.length : Int)) (L ++ [k]) := by
 refine ⟨?_, fun k' i => ?_⟩
 ·rw [List.nodup_append]
  refine ⟨h.nd, by simp, fun a ha b hb => ?_⟩
  rw [List.mem_singleton.1 hb]
  exact fun e => hk (e ▸ ha)
 ·rw [Q295, List.length_append, List.length_singleton]
  by_cases he : k = k'
  ·subst he
   rw [if_pos rfl]
   constructor
   ·rintro e
    have := Option.some.inj e
    subst this
    exact ⟨by omega, by omega, Q181⟩
   ·rintro ⟨h1, h2, h3⟩
    by_cases hi : i < (L.length : Int)
    ·rw [Q125 h1 hi] at h3
     exact absurd (h3 ▸ Q43 h1 hi) hk
    ·congr 1; omega
  ·rw [if_neg he, h.at_]
   constructor
   ·rintro ⟨h1, h2, h3⟩
    exact ⟨h1, by omega, by rw [Q125 h1 h2]; exact h3⟩
   ·rintro ⟨h1, h2, h3⟩
    by_cases hi : i < (L.length : Int)
    ·exact ⟨h1, hi, by rw [Q125 h1 hi] at h3; exact h3⟩
    ·have : i = (L.length : Int) := by omega
     subst this
     rw [Q181] at h3
     exact absurd h3 he
def Ext (L L' : List Q2) (ts : List Q2) : Prop := ∃ x, L' = L ++ x ∧ x.length ≤ ts.length ∧ ∀ k ∈ x, k ∈ ts
theorem Ext.gt {L L' ts : List Q2} (h : Ext L L' ts) {i : Int} (h0 : 0 ≤ i) (h1 : i < (L.length : Int)) : Bw.gt L' i = Bw.gt L i ∧ i < (L'.length : Int) := by
 obtain ⟨x, rfl, _, _⟩ := h
 exact ⟨Q125 h0 h1, by rw [List.length_append]; omega⟩
section
variable {n : Int} {ho : List (Bs × Q4)} {ne : List (Q9 × Q4)} {f : List Q0} {fr rk : List Int} {O P : List Int} {Ms : List (List Int)}
theorem Q297 {M : List (Q2 × Int)} {L : List Q2} (h : KI M L) (hl : (L.length : Int) ≤ 100000) (k : Q2) :
 ∃ M' L' i, Q79.f n ho ne f fr rk M L O P Ms k.State k.Node = some (M', L', i) ∧ KI M' L' ∧ 0 ≤ i ∧ i < (L'.length : Int) ∧ gt L' i = k ∧ Ext L L' [k] := by
 have hk : (⟨k.State, k.Node⟩ : Q2) = k := by cases k; rfl
 unfold Q79.f
 rw [hk]
 cases hm : mget M k with
 | some i =>
  obtain ⟨h1, h2, h3⟩ := (h.at_ k i).1 hm
  exact ⟨M, L, i, by simp [jn], h, h1, h2, h3, [], by simp, by simp, fun k hk => by cases hk⟩
 | none =>
  have hn := h.mem.1 hm
  refine ⟨mset M k (L.length : Int), L ++ [k], (L.length : Int), ?_, h.new hn, by omega, by rw [List.length_append]; simp; omega, Q181, [k], rfl, Nat.le_refl _, fun k hk => hk⟩
  simp only [Option.isSome_none, Bool.false_eq_true, if_false]
  rw [if_pos (by simp; omega)]
  rfl
structure Mv (ms : List Int) (L ts : List Q2) : Prop where
 up : ms.Pairwise (· < ·)
 to : ∀ m ∈ ms, 0 ≤ m ∧ m < (L.length : Int) ∧ gt L m ∈ ts
 all : ∀ t ∈ ts, ∃ m ∈ ms, gt L m = t
 len : ms.length = ts.length
theorem Mv.ext {ms : List Int} {L L' ts x : List Q2} (h : Mv ms L ts) (e : Ext L L' x) : Mv ms L' ts := by
 refine ⟨h.up, fun m hm => ?_, fun t ht => ?_, h.len⟩
 ·obtain ⟨h1, h2, h3⟩ := h.to m hm
  obtain ⟨e1, e2⟩ := e.gt h1 h2
  exact ⟨h1, e2, by rw [e1]; exact h3⟩
 ·obtain ⟨m, hm, e1⟩ := h.all t ht
  obtain ⟨h1, h2, h3⟩ := h.to m hm
  exact ⟨m, hm, by rw [(e.gt h1 h2).1]; exact e1⟩
theorem lay_run {M : List (Q2 × Int)} {L : List Q2} (h : KI M L) (hl : (L.length : Int) ≤ 10000) (hO : (O.length : Int) ≤ 10000) (hP : (P.length : Int) ≤ 10000) (hM : (Ms.length : Int) ≤ 10000) (o p : Int) {ts : List Q2} (ht : ts.Nodup) (htl : ts.length ≤ 300) :
 ∃ ms M' L', Q17.f n ho ne f fr rk M L O P Ms o p ts = some (Ms ++ [ms], P ++ [p], O ++ [o], M', L') ∧ KI M' L' ∧ Ext L L' ts ∧ Mv ms L' ts := by
 obtain ⟨r, hr, is, M', L', rfl, hK, hE, hi, hg⟩ := Q38 (body := fun t_ : (List Int) × (List (Q2 × Int)) × (List Q2) × Int => Q17.l0b n ho ne f fr rk O P Ms ts t_.1 t_.2.1 t_.2.2.1 t_.2.2.2)
  (fun s => 0 ≤ s.2.2.2 ∧ s.2.2.2 ≤ (ts.length : Int) ∧ KI s.2.1 s.2.2.1 ∧ (∃ x, s.2.2.1 = L ++ x ∧ (x.length : Int) ≤ s.2.2.2 ∧ ∀ k ∈ x, k ∈ ts) ∧ (s.1.length : Int) = s.2.2.2 ∧ ∀ j, 0 ≤ j → j < s.2.2.2 → 0 ≤ gt s.1 j ∧ gt s.1 j < (s.2.2.1.length : Int) ∧ gt s.2.2.1 (gt s.1 j) = gt ts j)
  (fun r => ∃ is M' L', r = .inl (is, M', L') ∧ KI M' L' ∧ Ext L L' ts ∧ is.length = ts.length ∧ ∀ j, 0 ≤ j → j < (ts.length : Int) → 0 ≤ gt is j ∧ gt is j < (L'.length : Int) ∧ gt L' (gt is j) = gt ts j) (fun s => ((ts.length : Int) - s.2.2.2).toNat) (fun ⟨is, M1, L1, i⟩ ⟨i0, i1, hK, ⟨x, hx, hxl, hxm⟩, hil, hg⟩ => by
   dsimp only at i0 i1 hK hx hxl hil hg ⊢
   unfold Q17.l0b
   by_cases hi : i < (ts.length : Int)
   ·right
    obtain ⟨M2, L2, j, hm, hK2, j0, j1, hj, y, hy, hyl, hym⟩ := Q297 (n := n) (ho := ho) (ne := ne) (f := f) (fr := fr) (rk := rk) (O := O) (P := P) (Ms := Ms) hK (by rw [hx, List.length_append]; omega) (gt ts i)
    rw [if_pos hi, if_pos ⟨i0, hi⟩, hm, Option.bind_some, if_pos (by simp; omega), wrap64 (x := i + 1) (by omega) (by omega)]
    refine ⟨_, rfl, ⟨by dsimp only; omega, by dsimp only; omega, hK2, ⟨x ++ y, ?_, ?_, fun k hk => ?_⟩, by simp; omega, fun q q0 q1 => ?_⟩, by dsimp only; omega⟩
    ·dsimp only; rw [hy, hx, List.append_assoc]
    ·dsimp only; simp at hyl; rw [List.length_append]; omega
    ·rcases List.mem_append.1 hk with hk | hk
     ·exact hxm k hk
     ·rw [List.mem_singleton.1 (hym k hk)]; exact Q43 i0 hi
    ·dsimp only at q1 ⊢
     by_cases hq : q < i
     ·obtain ⟨a, b, c⟩ := hg q q0 hq
      rw [Q125 q0 (by omega), hy, Q125 a b]
      exact ⟨a, by rw [List.length_append]; omega, c⟩
     ·have : q = (is.length : Int) := by omega
      rw [this, Q181]
      refine ⟨j0, j1, ?_⟩
      rw [hj]
      congr 1
      omega
   ·left
    rw [if_neg hi]
    exact ⟨_, rfl, is, M1, L1, rfl, hK, ⟨x, hx, by omega, hxm⟩, by omega, fun j j0 j1 => hg j j0 (by omega)⟩) ([], M, L, 0) ⟨Int.le_refl 0, by dsimp only; omega, h, ⟨[], by simp, by simp, fun k hk => by cases hk⟩, rfl, fun j j0 j1 => by dsimp only at j1; omega⟩
 have hr' : Q17.l0 n ho ne f fr rk O P Ms ts [] M L 0 = some (.inl (is, M', L')) := hr
 have hnd : is.Nodup := by
  rw [List.nodup_iff_pairwise_ne, List.pairwise_iff_getElem]
  intro a b ha hb hab e
  have h1 := hg a (by omega) (by omega)
  have h2 := hg b (by omega) (by omega)
  rw [Q99 (List.getElem?_eq_getElem ha)] at h1
  rw [Q99 (List.getElem?_eq_getElem hb)] at h2
  rw [e] at h1
  have h3 := h1.2.2.symm.trans h2.2.2
  rw [Q99 (List.getElem?_eq_getElem (show a < ts.length by omega)), Q99 (List.getElem?_eq_getElem (show b < ts.length by omega))] at h3
  have := (List.getElem_inj ht).1 h3
  omega
 obtain ⟨ms, hs, hp, hup⟩ := sort_run (by omega) hnd
 have hlen : ms.length = is.length := hp.length_eq
 refine ⟨ms, M', L', ?_, hK, hE, hup, fun m hm => ?_, fun t htm => ?_, by omega⟩
 ·unfold Q17.f
  rw [hr', Q12]
  simp only [hs, Option.bind_some]
  rw [if_pos (by simp; omega), if_pos (by simp; omega), Q299 (by omega) hup, Option.bind_some, if_pos (by omega)]
 ·obtain ⟨j, hj, e⟩ := List.getElem_of_mem (hp.subset hm)
  have := hg j (by omega) (by omega)
  rw [Q99 (List.getElem?_eq_getElem hj), e] at this
  exact ⟨this.1, this.2.1, by rw [this.2.2]; exact Q43 (by omega) (by omega)⟩
 ·obtain ⟨j, hj, e⟩ := List.getElem_of_mem htm
  have := hg j (by omega) (by omega)
  refine ⟨gt is j, hp.symm.subset (Q43 (by omega) (by omega)), ?_⟩
  rw [this.2.2, Q99 (List.getElem?_eq_getElem hj), e]
end
end Go.Bw
namespace Go.Bw
open Go Go.RowKit

def Leafy (k : Int) : Prop := k = 1 ∨ k = 2 ∨ k = 3 ∨ k = 4 ∨ k = 12
def Modal (k : Int) : Prop := k = 8 ∨ k = 9
def Fixy (k : Int) : Prop := k = 10 ∨ k = 11
def Twoy (k : Int) : Prop := k = 6 ∨ k = 7
inductive Sb (f : List Q0) : Int → Int → Prop
 | leaf {n : Int} (h0 : 0 ≤ n) (h1 : n < f.length) (hk : Leafy (gt f n).Kind) : Sb f n n
 | not {l n : Int} (h1 : n < f.length) (hk : (gt f n).Kind = 5) (ha : (gt f n).A = n - 1) (s : Sb f l (n - 1)) : Sb f l n
 | modal {l n : Int} (h1 : n < f.length) (hk : Modal (gt f n).Kind) (ha : (gt f n).A = n - 1) (s : Sb f l (n - 1)) : Sb f l n
 | fix {l n : Int} (h1 : n < f.length) (hk : Fixy (gt f n).Kind) (ha : (gt f n).A = n - 1) (s : Sb f l (n - 1)) : Sb f l n
 | two {l m n : Int} (h1 : n < f.length) (hk : Twoy (gt f n).Kind) (ha : (gt f n).A = m) (hb : (gt f n).B = n - 1) (s : Sb f l m) (t : Sb f (m + 1) (n - 1)) : Sb f l n
theorem Sb.le {f : List Q0} {l n : Int} (s : Sb f l n) : 0 ≤ l ∧ l ≤ n ∧ n < f.length := by
 induction s with
 | leaf h0 h1 hk => omega
 | not h1 hk ha s ih => omega
 | modal h1 hk ha s ih => omega
 | fix h1 hk ha s ih => omega
 | two h1 hk ha hb s t ih1 ih2 => omega
inductive Bd (f : List Q0) (to : List Int) : List (Int × Bool) → Int → Int → Prop
 | var {sc : List (Int × Bool)} {n : Int} (h0 : 0 ≤ n) (h1 : n < f.length) (hk : (gt f n).Kind = 4) (hs : (gt to n, true) ∈ sc) : Bd f to sc n n
 | leaf {sc : List (Int × Bool)} {n : Int} (h0 : 0 ≤ n) (h1 : n < f.length) (hk : Leafy (gt f n).Kind) (h4 : (gt f n).Kind ≠ 4) : Bd f to sc n n
 | not {sc : List (Int × Bool)} {l n : Int} (h1 : n < f.length) (hk : (gt f n).Kind = 5) (ha : (gt f n).A = n - 1) (s : Bd f to (sc.map fun p => (p.1, !p.2)) l (n - 1)) : Bd f to sc l n
 | modal {sc : List (Int × Bool)} {l n : Int} (h1 : n < f.length) (hk : Modal (gt f n).Kind) (ha : (gt f n).A = n - 1) (s : Bd f to sc l (n - 1)) : Bd f to sc l n
 | fix {sc : List (Int × Bool)} {l n : Int} (h1 : n < f.length) (hk : Fixy (gt f n).Kind) (ha : (gt f n).A = n - 1) (s : Bd f to ((n, true) :: sc) l (n - 1)) : Bd f to sc l n
 | two {sc : List (Int × Bool)} {l m n : Int} (h1 : n < f.length) (hk : Twoy (gt f n).Kind) (ha : (gt f n).A = m) (hb : (gt f n).B = n - 1) (s : Bd f to sc l m) (t : Bd f to sc (m + 1) (n - 1)) : Bd f to sc l n
theorem Bd.le {f : List Q0} {to : List Int} {sc : List (Int × Bool)} {l n : Int} (s : Bd f to sc l n) : 0 ≤ l ∧ l ≤ n ∧ n < f.length := by
 induction s with
 | var h0 h1 hk hs => omega
 | leaf h0 h1 hk h4 => omega
 | not h1 hk ha s ih => omega
 | modal h1 hk ha s ih => omega
 | fix h1 hk ha s ih => omega
 | two h1 hk ha hb s t ih1 ih2 => omega
end Go.Bw
namespace Go.Bw
open Go Go.RowKit

theorem Q182 {ρ : Type} {body : Int → Option (Int ⊕ (Unit ⊕ ρ))} {N : Int} {p : Int → Prop} {bad : ρ} (hN : N ≤ 9223372036854775807) (k0 : Int) (h0 : 0 ≤ k0)
 (h : ∀ i, k0 ≤ i → i < N → (p i ∧ body i = some (.inl (IntKind.i64.wrap (i + 1)))) ∨ (¬ p i ∧ body i = some (.inr (.inr bad)))) (he : ∀ i, ¬ i < N → body i = some (.inr (.inl ()))) :
 (iter body k0 = some (.inl ()) ∧ ∀ i, k0 ≤ i → i < N → p i) ∨ (iter body k0 = some (.inr bad) ∧ ∃ i, k0 ≤ i ∧ i < N ∧ ¬ p i) := by
 obtain ⟨r, hr, hq⟩ := Q38 (body := body) (fun i => k0 ≤ i ∧ ∀ j, k0 ≤ j → j < i → p j) (fun r => (r = .inl () ∧ ∀ i, k0 ≤ i → i < N → p i) ∨ (r = .inr bad ∧ ∃ i, k0 ≤ i ∧ i < N ∧ ¬ p i)) (fun i => (N - i).toNat) (fun i ⟨h1, h2⟩ => by
  by_cases hi : i < N
  ·rcases h i h1 hi with ⟨hp, hb⟩ | ⟨hp, hb⟩
   ·right
    rw [wrap64 (by omega) (by omega)] at hb
    refine ⟨_, hb, ⟨by omega, fun j j0 j1 => ?_⟩, by omega⟩
    by_cases hj : j = i
    ·subst hj; exact hp
    ·exact h2 j j0 (by omega)
   ·left; exact ⟨_, hb, .inr ⟨rfl, i, h1, hi, hp⟩⟩
  ·left; exact ⟨_, he i hi, .inl ⟨rfl, fun j j0 j1 => h2 j j0 (by omega)⟩⟩) k0 ⟨Int.le_refl _, fun j j0 j1 => by omega⟩
 rcases hq with ⟨rfl, hq⟩ | ⟨rfl, hq⟩
 ·exact .inl ⟨hr, hq⟩
 ·exact .inr ⟨hr, hq⟩
def OkB (c : Int) : Prop := 97 ≤ c ∧ c ≤ 122 ∨ 65 ≤ c ∧ c ≤ 90 ∨ 48 ≤ c ∧ c ≤ 57 ∨ c = 95
theorem rune_run (r : Int) : ∃ b, Q112.f r = some b ∧ (b = true ↔ ¬ OkB r) := by
 obtain ⟨b, hb⟩ := rune_name r
 refine ⟨b, hb, ?_⟩
 unfold Q112.f at hb
 unfold OkB
 by_cases h1 : 97 ≤ r <;> by_cases h2 : 65 ≤ r <;> by_cases h3 : 48 ≤ r <;> simp [h1, h2, h3, jn] at hb <;> (try omega) <;>
  (by_cases h4 : r ≤ 122 <;> by_cases h5 : r ≤ 90 <;> by_cases h6 : r ≤ 57 <;> by_cases h7 : r = 95 <;> simp [h4, h5, h6, h7] at hb <;> first | omega | (subst hb; simp; omega))
theorem rune_low {s : Bs} {k : Nat} (hk : k < s.length) (h : bat s k < 128) : runeAt s k = bat s k ∧ runeLen s k = 1 := by
 have hg : ((ByteArray.mk s.toArray).get! k).toNat = (s.getD k 0).toNat := by
  simp [ByteArray.get!, List.getD_eq_getElem?_getD, hk]
 have h' : (s.getD k 0).toNat < 128 := by
  have : bat s k = ((s.getD k 0).toNat : Int) := by simp [bat]
  omega
 unfold runeAt runeLen Utf8.decode
 simp only [Nat.add_zero, hg, if_pos (show (s.getD k 0).toNat < 0x80 from h')]
 simp [bat]
theorem rune_high {s : Bs} {k : Nat} (hk : k < s.length) (h : 128 ≤ bat s k) : 128 ≤ runeAt s k := by
 have hg : ((ByteArray.mk s.toArray).get! k).toNat = (s.getD k 0).toNat := by
  simp [ByteArray.get!, List.getD_eq_getElem?_getD, hk]
 have h' : ¬ (s.getD k 0).toNat < 0x80 := by
  have : bat s k = ((s.getD k 0).toNat : Int) := by simp [bat]
  omega
 unfold runeAt Utf8.decode
 simp only [Nat.add_zero, hg, if_neg h']
 have e : (Utf8.runeError : Nat) = 65533 := rfl
 repeat' split
 all_goals try dsimp only
 all_goals first
  | omega
  | (rename_i hc; simp only [Bool.and_eq_true, decide_eq_true_eq] at hc; omega)
  | (rw [e]; omega)
theorem okB_low {c : Int} (h : OkB c) : c < 128 := by unfold OkB at h; omega
def NameS (s : Bs) : Prop := 1 ≤ s.length ∧ s.length ≤ 8 ∧ 97 ≤ bat s 0 ∧ bat s 0 ≤ 122 ∧ s ≠ [116, 116] ∧ s ≠ [102, 102] ∧ s ≠ [109, 117] ∧ s ≠ [110, 117] ∧ ∀ i : Int, 0 ≤ i → i < (s.length : Int) → OkB (bat s i)
theorem Q325 (s : Bs) : ∃ b, Q134.f s = some b ∧ (b = true ↔ ¬ ∀ i : Int, 0 ≤ i → i < (s.length : Int) → OkB (bat s i)) := by
 obtain ⟨r, hr, hq⟩ := Q38 (body := fun t_ : Nat => Q69.l0b s true t_) (fun k => ∀ i : Int, 0 ≤ i → i < (k : Int) → i < (s.length : Int) → OkB (bat s i))
  (fun r => (∃ k, r = .inl k ∧ ∀ i : Int, 0 ≤ i → i < (s.length : Int) → OkB (bat s i)) ∨ ∃ k : Nat, r = .inr (k : Int) ∧ ¬ ∀ i : Int, 0 ≤ i → i < (s.length : Int) → OkB (bat s i)) (fun k => s.length - k) (fun k hI => by
   unfold Q69.l0b
   by_cases hk : k < s.length
   ·obtain ⟨b, hb, hb2⟩ := rune_run (runeAt s k)
    rw [if_pos hk, hb]
    simp only [Option.bind_some]
    by_cases hl : bat s k < 128
    ·obtain ⟨e1, e2⟩ := rune_low hk hl
     rw [e1] at hb2
     rw [e2]
     cases b with
     | true =>
      left
      refine ⟨_, rfl, .inr ⟨k, rfl, fun hall => hb2.1 rfl (hall k (by omega) (by omega))⟩⟩
     | false =>
      right
      have hok : OkB (bat s k) := Classical.not_not.1 fun h => by have := hb2.2 h; cases this
      refine ⟨_, rfl, fun i i0 i1 i2 => ?_, by omega⟩
      by_cases hi : i = (k : Int)
      ·subst hi; exact hok
      ·exact hI i i0 (by omega) i2
    ·have hh := rune_high hk (by omega)
     have hbt : b = true := hb2.2 fun h => by have := okB_low h; omega
     subst hbt
     left
     exact ⟨_, rfl, .inr ⟨k, rfl, fun hall => by have := okB_low (hall k (by omega) (by omega)); omega⟩⟩
   ·left; rw [if_neg hk]; exact ⟨_, rfl, .inl ⟨k, rfl, fun i i0 i1 => hI i i0 (by omega) i1⟩⟩) 0 (fun i i0 i1 => by omega)
 unfold Q134.f Q139.f Q69.f Q69.l0
 rw [hr]
 rcases hq with ⟨k, rfl, hq⟩ | ⟨k, rfl, hq⟩
 ·exact ⟨false, rfl, by simp; exact hq⟩
 ·exact ⟨true, by simp [jn], by simp only [true_iff]; exact hq⟩
end Go.Bw
namespace Go.Bw
open Go Go.RowKit

theorem Q188 {x : Option (Unit ⊕ Bool)} {p : Prop} (h : (x = some (.inl ()) ∧ p) ∨ (x = some (.inr false) ∧ ¬ p)) : ∃ b, jn x (fun _ => some true) = some b ∧ (b = true ↔ p) := by
 rcases h with ⟨rfl, h⟩ | ⟨rfl, h⟩
 ·exact ⟨true, rfl, by simp [h]⟩
 ·exact ⟨false, rfl, by simp [h]⟩
theorem Q238 (s : Bs) : ∃ b, Q82.f s = some b ∧ (b = true ↔ NameS s) := by
 obtain ⟨c, hc, hc2⟩ := Q325 s
 unfold Q82.f NameS
 by_cases h1 : (s.length : Int) < 1
 ·exact ⟨false, by simp [h1, jn], by simp; omega⟩
 by_cases h2 : 8 < (s.length : Int)
 ·exact ⟨false, by simp [h1, h2, jn], by simp; omega⟩
 have h0 : (0 : Int) ≤ 0 ∧ 0 < (s.length : Int) := by omega
 simp only [if_neg h1, Q12, decide_eq_false h2, Bool.false_eq_true, if_false, if_pos h0]
 by_cases h3 : bat s 0 < 97
 ·exact ⟨false, by simp [h3, jn], by simp; omega⟩
 by_cases h4 : 122 < bat s 0
 ·exact ⟨false, by simp [h3, h4, jn], by simp; omega⟩
 simp only [decide_eq_false h3, decide_eq_false h4, Bool.false_eq_true, if_false, Q12, Q164, hc, Option.bind_some]
 by_cases k1 : s = [116, 116]
 ·exact ⟨false, by simp [k1], by simp [k1]⟩
 by_cases k2 : s = [102, 102]
 ·exact ⟨false, by simp [k2], by simp [k2]⟩
 by_cases k3 : s = [109, 117]
 ·exact ⟨false, by simp [k3], by simp [k3]⟩
 by_cases k4 : s = [110, 117]
 ·exact ⟨false, by simp [k4], by simp [k4]⟩
 refine ⟨!c, by simp [k1, k2, k3, k4], ?_⟩
 have hc3 : (!c) = true ↔ ∀ i : Int, 0 ≤ i → i < (s.length : Int) → OkB (bat s i) := by
  cases c with
  | true => simp only [Bool.not_true, Bool.false_eq_true, false_iff]; exact hc2.1 rfl
  | false =>
   simp only [Bool.not_false, true_iff]
   exact Classical.not_not.1 fun h => by have := hc2.2 h; cases this
 rw [hc3]
 exact ⟨fun h => ⟨by omega, by omega, by omega, by omega, k1, k2, k3, k4, h⟩, fun h => h.2.2.2.2.2.2.2.2⟩
def Rise {α : Type} [Inhabited α] (lt : α → α → Prop) (a : List α) : Prop := ∀ i : Int, 1 ≤ i → i < (a.length : Int) → lt (gt a (i - 1)) (gt a i)
theorem Q323 (a : List Int) (ha : (a.length : Int) ≤ 9223372036854775807) : ∃ b, Q72.f a = some b ∧ (b = true ↔ Rise (· < ·) a) := by
 refine Q188 ?_
 rcases Q182 (body := fun t_ : Int => Q72.l0b a t_) (N := a.length) (p := fun i => gt a (i - 1) < gt a i) (bad := false) ha 1 (by decide) (fun i h0 h1 => by
  simp only [Q72.l0b]
  rw [if_pos h1, wrap64 (x := i - 1) (by omega) (by omega), if_pos (by omega), if_pos (by omega), Q242]
  simp only [Option.bind_some]
  by_cases hp : gt a (i - 1) < gt a i
  ·left; rw [if_neg (by have := Q177.2 hp; omega)]; exact ⟨hp, rfl⟩
  ·right; rw [if_pos (by have : ¬ cmp3 (gt a (i - 1)) (gt a i) < 0 := fun h => hp (Q177.1 h); omega)]; exact ⟨hp, rfl⟩) (fun i h => by simp only [Q72.l0b]; rw [if_neg h]; rfl) with ⟨h, q⟩ | ⟨h, i, i0, i1, i2⟩
 ·exact .inl ⟨h, q⟩
 ·exact .inr ⟨h, fun hr => i2 (hr i i0 i1)⟩
def BLt (x y : Bs) : Prop := Lib.compareBytes x y < 0
theorem Q338 (a : List Bs) (ha : (a.length : Int) ≤ 9223372036854775807) : ∃ b, Q75.f a = some b ∧ (b = true ↔ Rise BLt a) := by
 refine Q188 ?_
 rcases Q182 (body := fun t_ : Int => Q75.l0b a t_) (N := a.length) (p := fun i => BLt (gt a (i - 1)) (gt a i)) (bad := false) ha 1 (by decide) (fun i h0 h1 => by
  simp only [Q75.l0b]
  rw [if_pos h1, wrap64 (x := i - 1) (by omega) (by omega), if_pos (by omega), if_pos (by omega)]
  simp only [Q109.f, Q132.f, Option.bind_some]
  by_cases hp : BLt (gt a (i - 1)) (gt a i)
  ·left; rw [if_neg (by unfold BLt at hp; omega)]; exact ⟨hp, rfl⟩
  ·right; rw [if_pos (by unfold BLt at hp; omega)]; exact ⟨hp, rfl⟩) (fun i h => by simp only [Q75.l0b]; rw [if_neg h]; rfl) with ⟨h, q⟩ | ⟨h, i, i0, i1, i2⟩
 ·exact .inl ⟨h, q⟩
 ·exact .inr ⟨h, fun hr => i2 (hr i i0 i1)⟩
theorem Q311 (a : List Q5) (ha : (a.length : Int) ≤ 9223372036854775807) : ∃ b, Q73.f a = some b ∧ (b = true ↔ Rise (fun p q => BLt p.Name q.Name) a) := by
 refine Q188 ?_
 rcases Q182 (body := fun t_ : Int => Q73.l0b a t_) (N := a.length) (p := fun i => BLt (gt a (i - 1)).Name (gt a i).Name) (bad := false) ha 1 (by decide) (fun i h0 h1 => by
  simp only [Q73.l0b]
  rw [if_pos h1, wrap64 (x := i - 1) (by omega) (by omega), if_pos (by omega), if_pos (by omega)]
  simp only [Q116.f, Q109.f, Q132.f, Option.bind_some]
  by_cases hp : BLt (gt a (i - 1)).Name (gt a i).Name
  ·left; rw [if_neg (by unfold BLt at hp; omega)]; exact ⟨hp, rfl⟩
  ·right; rw [if_pos (by unfold BLt at hp; omega)]; exact ⟨hp, rfl⟩) (fun i h => by simp only [Q73.l0b]; rw [if_neg h]; rfl) with ⟨h, q⟩ | ⟨h, i, i0, i1, i2⟩
 ·exact .inl ⟨h, q⟩
 ·exact .inr ⟨h, fun hr => i2 (hr i i0 i1)⟩
theorem Q321 (a : List Q3) (ha : (a.length : Int) ≤ 9223372036854775807) : ∃ b, Q63.f a = some b ∧ (b = true ↔ Rise edgeLt a) := by
 refine Q188 ?_
 rcases Q182 (body := fun t_ : Int => Q63.l0b a t_) (N := a.length) (p := fun i => edgeLt (gt a (i - 1)) (gt a i)) (bad := false) ha 1 (by decide) (fun i h0 h1 => by
  simp only [Q63.l0b]
  rw [if_pos h1, wrap64 (x := i - 1) (by omega) (by omega), if_pos (by omega), if_pos (by omega), Q262]
  simp only [Option.bind_some]
  by_cases hp : edgeLt (gt a (i - 1)) (gt a i)
  ·left; rw [if_neg (by have := Q229.2 hp; omega)]; exact ⟨hp, rfl⟩
  ·right; rw [if_pos (by have : ¬ edgeCmp (gt a (i - 1)) (gt a i) < 0 := fun h => hp (Q229.1 h); omega)]; exact ⟨hp, rfl⟩) (fun i h => by simp only [Q63.l0b]; rw [if_neg h]; rfl) with ⟨h, q⟩ | ⟨h, i, i0, i1, i2⟩
 ·exact .inl ⟨h, q⟩
 ·exact .inr ⟨h, fun hr => i2 (hr i i0 i1)⟩
end Go.Bw
namespace Go.Bw
open Go Go.RowKit

theorem names_iff (a : List Bs) (ha : (a.length : Int) ≤ 9223372036854775807) : ∃ b, Q129.f a = some b ∧ (b = true ↔ ¬ ∀ s ∈ a, NameS s) := by
 -- all that is passed is a name
 have key := Q38 (body := fun t_ : Int => Q67.l0b a t_) (fun i => 0 ≤ i ∧ ∀ j : Int, 0 ≤ j → j < i → j < (a.length : Int) → NameS (gt a j)) (fun r => r = .inl () ∧ (∀ s ∈ a, NameS s) ∨ ∃ k : Int, 0 ≤ k ∧ r = .inr k ∧ ¬ ∀ s ∈ a, NameS s) (fun i => ((a.length : Int) - i).toNat) (fun i ⟨h0, h2⟩ => by
  unfold Q67.l0b Q146.f
  by_cases h1 : i < (a.length : Int)
  ·obtain ⟨c, hc, hc2⟩ := Q238 (gt a i)
   rw [if_pos h1, if_pos ⟨h0, h1⟩, hc]
   simp only [Option.bind_some]
   cases c with
   | true =>
    right
    rw [wrap64 (x := i + 1) (by omega) (by omega)]
    refine ⟨_, rfl, ⟨by omega, fun j j0 j1 j2 => ?_⟩, by omega⟩
    by_cases hj : j = i
    ·subst hj; exact hc2.1 rfl
    ·exact h2 j j0 (by omega) j2
   | false => left; exact ⟨_, rfl, .inr ⟨i, h0, rfl, fun h => by have := hc2.2 (h _ (Q43 h0 h1)); cases this⟩⟩
  ·left; rw [if_neg h1]
   refine ⟨_, rfl, .inl ⟨rfl, fun s hs => ?_⟩⟩
   obtain ⟨k, hk, rfl⟩ := List.getElem_of_mem hs
   have := h2 k (by omega) (by omega) (by omega)
   rwa [Q99 (List.getElem?_eq_getElem hk)] at this) 0 ⟨Int.le_refl _, fun j j0 j1 => by omega⟩
 obtain ⟨r', hr', hq'⟩ := key
 unfold Q129.f Q67.f Q67.l0
 rw [hr']
 rcases hq' with ⟨rfl, h⟩ | ⟨k, k0, rfl, h⟩
 ·exact ⟨false, rfl, by simp; exact h⟩
 ·exact ⟨true, by simp [jn, k0], by simp only [true_iff]; exact h⟩
def StatesS (n : Int) (a : List Int) : Prop := (∀ s ∈ a, 0 ≤ s ∧ s < n) ∧ Rise (· < ·) a
theorem inS_iff (a : List Int) (n : Int) (x : List Bs) (y : List Q3) (z : List Q5) (ha : (a.length : Int) ≤ 9223372036854775807) : ∃ b, Q130.f a n x y z = some b ∧ (b = true ↔ ¬ ∀ s ∈ a, 0 ≤ s ∧ s < n) := by
 have key := Q38 (body := fun t_ : Int => Q68.l0b a n x y z t_) (fun i => 0 ≤ i ∧ ∀ j : Int, 0 ≤ j → j < i → j < (a.length : Int) → 0 ≤ gt a j ∧ gt a j < n) (fun r => r = .inl () ∧ (∀ s ∈ a, 0 ≤ s ∧ s < n) ∨ ∃ k : Int, 0 ≤ k ∧ r = .inr k ∧ ¬ ∀ s ∈ a, 0 ≤ s ∧ s < n) (fun i => ((a.length : Int) - i).toNat) (fun i ⟨h0, h2⟩ => by
  unfold Q68.l0b Q144.f
  by_cases h1 : i < (a.length : Int)
  ·rw [if_pos h1, if_pos ⟨h0, h1⟩, in_run]
   simp only [Option.bind_some]
   by_cases hp : 0 ≤ gt a i ∧ gt a i < n
   ·right
    rw [wrap64 (x := i + 1) (by omega) (by omega)]
    refine ⟨i + 1, by simp [hp, nx], ⟨by omega, fun j j0 j1 j2 => ?_⟩, by omega⟩
    by_cases hj : j = i
    ·subst hj; exact hp
    ·exact h2 j j0 (by omega) j2
   ·left; exact ⟨.inr i, by simp [hp, upL], .inr ⟨i, h0, rfl, fun h => hp (h _ (Q43 h0 h1))⟩⟩
  ·left; rw [if_neg h1]
   refine ⟨_, rfl, .inl ⟨rfl, fun s hs => ?_⟩⟩
   obtain ⟨k, hk, rfl⟩ := List.getElem_of_mem hs
   have := h2 k (by omega) (by omega) (by omega)
   rwa [Q99 (List.getElem?_eq_getElem hk)] at this) 0 ⟨Int.le_refl _, fun j j0 j1 => by omega⟩
 obtain ⟨r', hr', hq'⟩ := key
 unfold Q130.f Q68.f Q68.l0
 rw [hr']
 rcases hq' with ⟨rfl, h⟩ | ⟨k, k0, rfl, h⟩
 ·exact ⟨false, rfl, by simp; exact h⟩
 ·exact ⟨true, by simp [jn, k0], by simp only [true_iff]; exact h⟩
end Go.Bw
namespace Go.Bw
open Go Go.RowKit

def W8 (v : BitVec 8) : Int := (v.toNat : Int)
theorem Q197 (v : BitVec 8) : BitVec.ofInt 8 (W8 v) = v := by
 unfold W8
 apply BitVec.eq_of_toNat_eq
 simp
theorem W8.inj {u v : BitVec 8} (h : W8 u = W8 v) : u = v := by rw [← Q197 u, h, Q197]
theorem wrap8 {x : Int} (h0 : 0 ≤ x) (h1 : x < 256) : IntKind.u8.wrap x = x := by
 simp [IntKind.wrap, IntKind.bits, IntKind.signed]
 omega
theorem wrap_w8 (v : BitVec 8) : IntKind.u8.wrap (v.toNat : Int) = W8 v := by
 have := v.isLt
 exact wrap8 (by omega) (by omega)
theorem bor_w8 (u v : BitVec 8) : bor .u8 (W8 u) (W8 v) = W8 (u ||| v) := by
 show IntKind.u8.wrap ((BitVec.ofInt 8 (W8 u) ||| BitVec.ofInt 8 (W8 v)).toNat : Int) = _
 rw [Q197, Q197, wrap_w8]
theorem shl8 {k : Int} (h0 : 0 ≤ k) (h1 : k < 8) : Bw.shl .u8 1 k = W8 (BitVec.twoPow 8 k.toNat) := by
 obtain ⟨m, rfl⟩ := Int.eq_ofNat_of_zero_le h0
 have hm : m < 8 := by omega
 match m, hm with
 | 0, _ => rfl
 | 1, _ => rfl
 | 2, _ => rfl
 | 3, _ => rfl
 | 4, _ => rfl
 | 5, _ => rfl
 | 6, _ => rfl
 | 7, _ => rfl
def full8 (m : Nat) : BitVec 8 := BitVec.allOnes 8 >>> (8 - m)
theorem full_run {m : Nat} (hm : m ≤ 8) : IntKind.u8.wrap (Bw.shl .u8 1 (m : Int) - 1) = W8 (full8 m) := by
 match m, hm with
 | 0, _ => rfl
 | 1, _ => rfl
 | 2, _ => rfl
 | 3, _ => rfl
 | 4, _ => rfl
 | 5, _ => rfl
 | 6, _ => rfl
 | 7, _ => rfl
 | 8, _ => rfl
theorem Q267 {m k : Nat} (hm : m ≤ 8) (hk : k < 8) : (full8 m).getLsbD k = decide (k < m) := by
 unfold full8
 rw [BitVec.getLsbD_ushiftRight, BitVec.getLsbD_allOnes]
 rw [decide_eq_decide]
 omega
def UsedS (m : Nat) (y : List Q3) : Prop := ∀ k : Int, 0 ≤ k → k < (m : Int) → ∃ e ∈ y, e.Action = k
def Mask (v : BitVec 8) (y : List Q3) : Prop := ∀ k : Nat, k < 8 → (v.getLsbD k = true ↔ ∃ e ∈ y, e.Action = (k : Int))
theorem Q252 {v : BitVec 8} {y : List Q3} {n : Int} {m : Nat} (hv : Mask v y) (hm : m ≤ 8) (he : ∀ e ∈ y, EdgeIn n m e) : v = full8 m ↔ UsedS m y := by
 constructor
 ·rintro rfl k k0 k1
  have := (hv k.toNat (by omega)).1 (by rw [Q267 hm (by omega)]; simp; omega)
  obtain ⟨e, h1, h2⟩ := this
  exact ⟨e, h1, by omega⟩
 ·intro h
  apply BitVec.eq_of_getLsbD_eq
  intro k hk
  rw [Q267 hm hk, Bool.eq_iff_iff, hv k hk, decide_eq_true_eq]
  constructor
  ·rintro ⟨e, h1, h2⟩
   have := (he e h1).2.2.2.2.2
   omega
  ·intro hkm
   exact h k (by omega) (by omega)
theorem edges_iff (n : Int) (x : List Bs) (y : List Q3) (z : List Q5) (hy : (y.length : Int) ≤ 9223372036854775807) (hx : x.length ≤ 8) :
 (∃ v, Q24.l0 n x y z 0 0 = some (.inl (W8 v)) ∧ Mask v y ∧ ∀ e ∈ y, EdgeIn n x.length e) ∨ (Q24.l0 n x y z 0 0 = some (.inr false) ∧ ¬ ∀ e ∈ y, EdgeIn n x.length e) := by
 obtain ⟨r, hr, hq⟩ := Q38 (body := fun t_ : Int × Int => Q24.l0b n x y z t_.1 t_.2) (fun s => 0 ≤ s.2 ∧ s.2 ≤ (y.length : Int) ∧ (∀ e ∈ y.take s.2.toNat, EdgeIn n x.length e) ∧ ∃ v, s.1 = W8 v ∧ Mask v (y.take s.2.toNat))
  (fun r => (∃ v, r = .inl (W8 v) ∧ Mask v y ∧ ∀ e ∈ y, EdgeIn n x.length e) ∨ (r = .inr false ∧ ¬ ∀ e ∈ y, EdgeIn n x.length e)) (fun s => ((y.length : Int) - s.2).toNat) (fun ⟨u, i⟩ ⟨h0, h1, h2, v, h3, h4⟩ => by
   dsimp only at h0 h1 h2 h3 h4 ⊢
   subst h3
   unfold Q24.l0b
   by_cases hi : i < (y.length : Int)
   ·have hm := Q43 h0 hi
    rw [if_pos hi, if_pos ⟨h0, hi⟩, in_run, in_run]
    simp only [Option.bind_some]
    by_cases e1 : 0 ≤ (gt y i).From ∧ (gt y i).From < n
    ·by_cases e2 : 0 ≤ (gt y i).To ∧ (gt y i).To < n
     ·by_cases e3 : (gt y i).Action < 0
      ·left; exact ⟨_, by simp [e1, e2, e3, jn, upL], .inr ⟨rfl, fun h => by have := (h _ hm).2.2.2.2.1; omega⟩⟩
      ·by_cases e4 : (x.length : Int) ≤ (gt y i).Action
       ·left; exact ⟨_, by simp [e1, e2, e3, e4, jn, upL], .inr ⟨rfl, fun h => by have := (h _ hm).2.2.2.2.2; omega⟩⟩
       ·right
        have e5 : 0 ≤ (gt y i).Action := by omega
        have hw : IntKind.i64.wrap (i + 1) = i + 1 := wrap64 (by omega) (by omega)
        have ht : y.take (i + 1).toNat = y.take i.toNat ++ [gt y i] := by
         rw [show (i + 1).toNat = i.toNat + 1 from by omega, List.take_add_one, Q98 h0 hi]; rfl
        refine ⟨(W8 (v ||| BitVec.twoPow 8 (gt y i).Action.toNat), i + 1), by simp [e1, e2, e3, e4, e5, jn, nx, hw, shl8 e5 (by omega), bor_w8], ⟨by dsimp only; omega, by dsimp only; omega, fun e he => ?_, _, rfl, fun k hk => ?_⟩, by dsimp only; omega⟩
        ·dsimp only at he
         rw [ht] at he
         rcases List.mem_append.1 he with he | he
         ·exact h2 e he
         ·simp at he; subst he
          exact ⟨e1.1, e1.2, e2.1, e2.2, e5, by omega⟩
        ·dsimp only
         rw [ht, BitVec.getLsbD_or, Bool.or_eq_true, h4 k hk, BitVec.getLsbD_twoPow]
         constructor
         ·rintro (⟨e, a, b⟩ | h)
          ·exact ⟨e, by simp [a], b⟩
          ·simp at h
           exact ⟨gt y i, by simp, by omega⟩
         ·rintro ⟨e, a, b⟩
          rcases List.mem_append.1 a with a | a
          ·exact .inl ⟨e, a, b⟩
          ·simp at a
           subst a
           right
           simp
           omega
     ·left; exact ⟨_, by simp [e1, e2, jn, upL], .inr ⟨rfl, fun h => e2 ⟨(h _ hm).2.2.1, (h _ hm).2.2.2.1⟩⟩⟩
    ·left; exact ⟨_, by simp [e1, jn, upL], .inr ⟨rfl, fun h => e1 ⟨(h _ hm).1, (h _ hm).2.1⟩⟩⟩
   ·left
    rw [if_neg hi]
    rw [List.take_of_length_le (by omega)] at h2 h4
    exact ⟨_, rfl, .inl ⟨v, rfl, h4, h2⟩⟩) (0, 0) ⟨Int.le_refl _, by dsimp only; omega, by simp, 0#8, rfl, fun k hk => by simp⟩
 rcases hq with ⟨v, rfl, h⟩ | ⟨rfl, h⟩
 ·exact .inl ⟨v, hr, h⟩
 ·exact .inr ⟨hr, h⟩
def PropS (n : Int) (p : Q5) : Prop := NameS p.Name ∧ StatesS n p.States
theorem props_iff (n : Int) (x : List Bs) (y : List Q3) (z : List Q5) (hz : (z.length : Int) ≤ 9223372036854775807) (hs : ∀ p ∈ z, (p.States.length : Int) ≤ 9223372036854775807) :
 (Q24.l1 n x y z 0 = some (.inl ()) ∧ ∀ p ∈ z, PropS n p) ∨ (Q24.l1 n x y z 0 = some (.inr false) ∧ ¬ ∀ p ∈ z, PropS n p) := by
 have key := Q182 (body := fun t_ : Int => Q24.l1b n x y z t_) (N := z.length) (p := fun i => PropS n (gt z i)) (bad := false) hz 0 (by decide) (fun i hi h1 => by
  simp only [Q24.l1b]
  obtain ⟨b1, hb1, c1⟩ := Q238 (gt z i).Name
  obtain ⟨b2, hb2, c2⟩ := Q323 (gt z i).States (hs _ (Q43 hi h1))
  obtain ⟨b3, hb3, c3⟩ := inS_iff (gt z i).States n x y z (hs _ (Q43 hi h1))
  rw [if_pos h1, if_pos ⟨hi, h1⟩, hb1, hb2, hb3]
  unfold PropS StatesS
  rw [← c1, ← c2]
  have c3' : (∀ s ∈ (gt z i).States, 0 ≤ s ∧ s < n) ↔ b3 = false := by
   cases b3 with
   | true => simp only [Bool.true_eq_false, iff_false]; exact c3.1 rfl
   | false => simp only [iff_true]; exact Classical.not_not.1 fun h => by have := c3.2 h; cases this
  rw [c3']
  cases b1 <;> cases b2 <;> cases b3 <;> simp [jn, nx, upL]) (fun i h => by simp only [Q24.l1b]; rw [if_neg h]; rfl)
 have hiff : (∀ i : Int, 0 ≤ i → i < (z.length : Int) → PropS n (gt z i)) ↔ ∀ p ∈ z, PropS n p := by
  constructor
  ·intro h p hp
   obtain ⟨k, hk, rfl⟩ := List.getElem_of_mem hp
   have := h k (by omega) (by omega)
   rwa [Q99 (List.getElem?_eq_getElem hk)] at this
  ·exact fun h i i0 i1 => h _ (Q43 i0 i1)
 rcases key with ⟨h, q⟩ | ⟨h, i, i0, i1, i2⟩
 ·exact .inl ⟨h, hiff.1 q⟩
 ·exact .inr ⟨h, fun hr => i2 (hiff.2 hr i i0 i1)⟩
structure RightS (n : Int) (x : List Bs) (y : List Q3) (z : List Q5) : Prop where
 n0 : 1 ≤ n
 n1 : n ≤ 24
 nx : x.length ≤ 8
 nz : z.length ≤ 8
 ny : y.length ≤ 200
 ed : ∀ e ∈ y, EdgeIn n x.length e
 pr : ∀ p ∈ z, PropS n p
 nm : ∀ s ∈ x, NameS s
 us : UsedS x.length y
 re : Rise edgeLt y
 rx : Rise BLt x
 rz : Rise (fun p q => BLt p.Name q.Name) z
theorem Q246 (n : Int) (x : List Bs) (y : List Q3) (z : List Q5) (hs : ∀ p ∈ z, (p.States.length : Int) ≤ 9223372036854775807) : ∃ b, Q24.f n x y z = some b ∧ (b = true ↔ RightS n x y z) := by
 have no : ∀ {P : Prop}, ¬ P → (false = true ↔ P) := fun h => ⟨fun e => (by cases e), fun p => absurd p h⟩
 unfold Q24.f
 by_cases h1 : n < 1
 ·exact ⟨false, by simp [h1, jn], no fun h => by have := h.n0; omega⟩
 by_cases h2 : 24 < n
 ·exact ⟨false, by simp [h1, h2, jn], no fun h => by have := h.n1; omega⟩
 by_cases h3 : 8 < (x.length : Int)
 ·exact ⟨false, by simp [h1, h2, h3, jn], no fun h => by have := h.nx; omega⟩
 by_cases h4 : 8 < (z.length : Int)
 ·exact ⟨false, by simp [h1, h2, h3, h4, jn], no fun h => by have := h.nz; omega⟩
 by_cases h5 : 200 < (y.length : Int)
 ·exact ⟨false, by simp [h1, h2, h3, h4, h5, jn], no fun h => by have := h.ny; omega⟩
 simp only [if_neg h1, Q12, decide_eq_false h2, decide_eq_false h3, decide_eq_false h4, decide_eq_false h5, Bool.false_eq_true, if_false]
 rcases edges_iff n x y z (by omega) (by omega) with ⟨v, hr, hm, he⟩ | ⟨hr, he⟩
 ·rw [hr, Q12]
  rcases props_iff n x y z (by omega) hs with ⟨hp, hpp⟩ | ⟨hp, hpp⟩
  ·rw [hp, Q12]
   obtain ⟨b1, hb1, c1⟩ := names_iff x (by omega)
   obtain ⟨b2, hb2, c2⟩ := Q321 y (by omega)
   obtain ⟨b3, hb3, c3⟩ := Q338 x (by omega)
   obtain ⟨b4, hb4, c4⟩ := Q311 z (by omega)
   have h0 : (0 : Int) ≤ (x.length : Int) := by omega
   have hu : (W8 v = W8 (full8 x.length)) ↔ UsedS x.length y := ⟨fun h => (Q252 hm (by omega) he).1 (W8.inj h), fun h => by rw [(Q252 hm (by omega) he).2 h]⟩
   simp only [hb1, hb2, hb3, hb4, Option.bind_some, if_pos h0, full_run (show x.length ≤ 8 by omega)]
   by_cases k1 : b1 = true
   ·subst k1
    exact ⟨false, by simp [jn], no fun h => c1.1 rfl h.nm⟩
   ·have k1' : b1 = false := by simpa using k1
    subst k1'
    have hnm : ∀ s ∈ x, NameS s := Classical.not_not.1 fun h => by have := c1.2 h; cases this
    by_cases k2 : W8 v = W8 (full8 x.length)
    ·cases b2 with
     | false => exact ⟨false, by simp [jn, k2], no fun h => by have := c2.2 h.re; cases this⟩
     | true =>
      cases b3 with
      | false => exact ⟨false, by simp [jn, k2], no fun h => by have := c3.2 h.rx; cases this⟩
      | true =>
       cases b4 with
       | false => exact ⟨false, by simp [jn, k2], no fun h => by have := c4.2 h.rz; cases this⟩
       | true => exact ⟨true, by simp [jn, k2], by simp only [true_iff]; exact ⟨by omega, by omega, by omega, by omega, by omega, he, hpp, hnm, hu.1 k2, c2.1 rfl, c3.1 rfl, c4.1 rfl⟩⟩
    ·exact ⟨false, by simp [jn, k2], no fun h => k2 (hu.2 h.us)⟩
  ·rw [hp]
   exact ⟨false, rfl, no fun h => hpp h.pr⟩
 ·rw [hr]
  exact ⟨false, rfl, no fun h => he h.ed⟩
end Go.Bw
namespace Go.Bw
open Go Go.RowKit

theorem rise_ne {z : List Q5} (h : Rise (fun p q => BLt p.Name q.Name) z) {i j : Int} (h0 : 0 ≤ i) (h1 : i < j) (h2 : j < (z.length : Int)) : (gt z i).Name ≠ (gt z j).Name := by
 have key : ∀ k : Nat, i + k + 1 < (z.length : Int) → BLt (gt z i).Name (gt z (i + k + 1)).Name := fun k => by
  induction k with
  | zero =>
   intro hk
   have := h (i + 1) (by omega) (by omega)
   rw [show i + 1 - 1 = i from by omega] at this
   rw [show i + ((0 : Nat) : Int) + 1 = i + 1 from by omega]
   exact this
  | succ k ih =>
   intro hk
   have h3 := ih (by omega)
   have h4 := h (i + (k + 1 : Nat) + 1) (by omega) (by omega)
   rw [show i + ((k + 1 : Nat) : Int) + 1 - 1 = i + k + 1 from by omega] at h4
   exact Q202 h3 h4
 have := key (j - i - 1).toNat (by omega)
 rw [show i + ((j - i - 1).toNat : Int) + 1 = j from by omega] at this
 intro e
 rw [e] at this
 unfold BLt at this
 rw [Q203] at this
 omega
end Go.Bw
