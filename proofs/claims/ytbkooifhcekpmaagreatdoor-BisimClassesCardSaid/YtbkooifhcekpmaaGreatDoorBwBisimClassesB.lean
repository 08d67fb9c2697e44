/- BisimClasses, part 2: walks and plain laws. Conditions: none. -/
import Derived.Test.YtbkooifhcekpmaaGreatDoorProg
import Derived.MapKept
import Derived.LaidMore
import Derived.ProofKit
import Derived.OpenShut
import Derived.ChangeKeysEq
import Derived.Test.YtbkooifhcekpmaaGreatDoorBwBisimClassesA
set_option linter.unusedVariables false
set_option linter.unusedSimpArgs false
set_option linter.unusedSectionVars false
set_option maxRecDepth 100000
set_option maxHeartbeats 2000000
namespace Go.Bw
open Go Go.RowKit Go.Proofs
variable {R : Res} {Fr : List HProp} {b1 n1_1 c1_1 n1_2 c1_2 n1_3 c1_3 n0 c0 b1_0_c0 n1_0_c0_1 c1_0_c0_1 n1_0_c0_2 c1_0_c0_2 n1_0_c0_3 c1_0_c0_3 b1_c0 b1_c0_0_c0 n1_c0_0_c0_1 c1_c0_0_c0_1 n1_c0_0_c0_2 c1_c0_0_c0_2 n1_c0_0_c0_3 c1_c0_0_c0_3 n0_1 c0_1 n0_2 c0_2 n0_3 c0_3 : Nat} {A1_1 A1_2 A1_3 A0 A1_0_c0_1 A1_0_c0_2 A1_0_c0_3 A1_c0_0_c0_1 A1_c0_0_c0_2 A1_c0_0_c0_3 A0_1 A0_2 A0_3 : Option Addr}
structure Q0 where
 From : Int
 Action : Int
 To : Int
deriving Inhabited, DecidableEq
def Q0.fl : Fl Q0 := ⟨3, fun x => [i6 x.From, i6 x.Action, i6 x.To], fun _ => rfl, fun x u hu => by simp at hu; rcases hu with rfl | rfl | rfl <;> rfl, by decide⟩
structure Q1 where
 Name : Bs
 States : List Int
deriving Inhabited
def Q1.rep : Rep Q1 := ((Fl.bs.rep).pair (((Fl.int .i64).rep).slice)).iso (fun x => (x.Name, x.States))
def Q1.ow : Ow Q1 := ((Ow.fl Fl.bs).pair (Ow.sl (Fl.int .i64) 3)).iso (fun x => (x.Name, x.States))
theorem Q1.prj_Name : Prj Q1.rep 0 Fl.bs.rep (fun x => x.Name) := Prj.iso _ (Prj.fst (Prj.self _))
theorem Q1.prj_States : Prj Q1.rep 1 (((Fl.int .i64).rep).slice) (fun x => x.States) := Prj.iso _ (Prj.snd (Prj.self _))
theorem Q1.ent {x0 : Bs} {A1 : Option Addr} {n1 c1 : Nat} {x1 : List Int} : Ent [row (Fl.int .i64) 3 A1 n1 c1 x1] (Q1.ow.own ⟨x0, x1⟩ [.string ⟨(x0).toArray⟩, .slice A1 n1 c1]) := (Ent.pair (c1 := [.string ⟨(x0).toArray⟩]) (c2 := [.slice A1 n1 c1]) (Ent.fl Fl.bs rfl) (Ent.sl (Fl.int .i64)))
theorem bytealg_cmpstring.ext : ExtOk Tryz.prog 135 Extern.BytealgCompare.compare := ⟨_, Tryz.func135, by kernel_rfl, by kernel_rfl, by kernel_rfl, by kernel_rfl⟩

noncomputable def Q80.f (a0 p : Int) (u : List Bs) (B : List Q0) (D : List Q1) : Option Bool :=
 jn (
 if 0 ≤ a0 then
 some (.inl (decide (a0 < p)))
 else
 some (.inl false)) (fun (q : Bool) =>
 some q)
theorem Q80.callee : Callee Tryz.prog 46 := ⟨_, Tryz.func46, by kernel_rfl, by kernel_rfl⟩
theorem Q80.spec {a0 p : Int} {u : List Bs} {B : List Q0} {D : List Q1} (hr1_1 : RdS Fl.bs.rep R.heap A1_1 u) (hn1_1 : u.length = n1_1) (hc1_1 : n1_1 ≤ c1_1) (hr1_2 : RdS Q0.fl.rep R.heap A1_2 B) (hn1_2 : B.length = n1_2) (hc1_2 : n1_2 ≤ c1_2) (hr1_3 : RdS Q1.rep R.heap A1_3 D) (hn1_3 : D.length = n1_3) (hc1_3 : n1_3 ≤ c1_3) {r : Bool} (j : Q80.f a0 p u B D = some r) :
 Spec Tryz.prog 46 [i6 a0, bp b1] R (pc b1 [i6 p, .slice A1_1 n1_1 c1_1, .slice A1_2 n1_2 c1_2, .slice A1_3 n1_3 c1_3] 26 :: Fr) (fun v l' => v = .bool r ∧ pc b1 [i6 p, .slice A1_1 n1_1 c1_1, .slice A1_2 n1_2 c1_2, .slice A1_3 n1_3 c1_3] 26 :: Fr = l') := by
 subst hn1_1; subst hn1_2; subst hn1_3; refine Spec.of Tryz.func46 rfl rfl ?_; unfold Q80.f at j; have j := brun j; refine sR 1 rfl (nT (sR 3 rfl ?_)); obtain ⟨I, J, L, j⟩ := bjoin j; let T1 : HProp := pc b1 [i6 p, .slice A1_1 u.length c1_1, .slice A1_2 B.length c1_2, .slice A1_3 D.length c1_3] 26; refine At.joinO 5 (X := Bool) (fun q => [(11, .bool q)]) (fun q => T1 :: Fr) (fun q => I (.inl q) = some r) ?_ (fun G => ?_)
 ·rintro q j; have j := (J _).symm.trans j
  ·refine At.run 1 rfl (nT (At.ret ?_)); cases bret j; exact At.res (.inl rfl) rfl rfl ⟨rfl, rfl⟩
 ··rcases bite j with ⟨E, j⟩ | ⟨E, j⟩
   ··refine At.know (t := 6) rfl (decide_eq_true E) ?_
     refine At.run 2 rfl (At.y (Y.load rfl rfl .z rfl rfl rfl) rfl rfl rfl (At.run 2 rfl ?_)); exact At.of (G (decide (a0 < p)) j) ⟨rfl, trivial⟩
   ··refine At.know (t := 6) rfl (decide_eq_false E) ?_
     refine At.run 5 rfl ?_; exact At.of (G false j) ⟨rfl, trivial⟩

noncomputable def Q94.f (a0 : Int) : Option Bool :=
 jn (
 if 97 ≤ a0 then
 some (.inl (decide (a0 ≤ 122)))
 else
 some (.inl false)) (fun (p : Bool) =>
 jn (
 if p = true then
 some (.inl true)
 else
 jn (
 if 65 ≤ a0 then
 some (.inl (decide (a0 ≤ 90)))
 else
 some (.inl false)) (fun (q : Bool) =>
 some (.inl q))) (fun (u : Bool) =>
 jn (
 if u = true then
 some (.inl true)
 else
 jn (
 if 48 ≤ a0 then
 some (.inl (decide (a0 ≤ 57)))
 else
 some (.inl false)) (fun (B : Bool) =>
 some (.inl B))) (fun (D : Bool) =>
 jn (
 if D = true then
 some (.inl true)
 else
 some (.inl (decide (a0 = 95)))) (fun (E : Bool) =>
 some (!E)))))
theorem Q94.callee : Callee Tryz.prog 84 := ⟨_, Tryz.func84, by kernel_rfl, by kernel_rfl⟩
theorem Q94.spec {a0 : Int} {r : Bool} (j : Q94.f a0 = some r) :
 Spec Tryz.prog 84 [.int .i32 a0] R (Fr) (fun v l' => v = .bool r ∧ Fr = l') := by
 refine Spec.of Tryz.func84 rfl rfl ?_; unfold Q94.f at j; have j := brun j; refine sR 1 rfl (nT (sR 3 rfl ?_)); obtain ⟨a4, a5, c8, j⟩ := bjoin j; refine At.joinO 3 (X := Bool) (fun u => [(0, .int .i32 a0), (8, .bool u)]) (fun u => Fr) (fun u => a4 (.inl u) = some r) ?_ (fun U => ?_)
 ·rintro u j; have j := (a5 _).symm.trans j
  ·refine At.run 1 rfl ?_; obtain ⟨a6, a7, c9, j⟩ := bjoin j; refine At.joinO 7 (X := Bool) (fun B => [(0, .int .i32 a0), (16, .bool B)]) (fun B => Fr) (fun B => a6 (.inl B) = some r) ?_ (fun V => ?_)
   ·rintro B j; have j := (a7 _).symm.trans j
    ·refine At.run 1 rfl ?_; obtain ⟨a8, a9, d0, j⟩ := bjoin j; refine At.joinO 7 (X := Bool) (fun D => [(0, .int .i32 a0), (24, .bool D)]) (fun D => Fr) (fun D => a8 (.inl D) = some r) ?_ (fun Z => ?_)
     ·rintro D j; have j := (a9 _).symm.trans j
      ·refine At.run 1 rfl ?_; obtain ⟨b4, b5, d1, j⟩ := bjoin j; refine At.joinO 3 (X := Bool) (fun E => [(28, .bool E)]) (fun E => Fr) (fun E => b4 (.inl E) = some r) ?_ (fun a1 => ?_)
       ·rintro E j; have j := (b5 _).symm.trans j
        ·refine At.run 2 rfl (nT (At.ret ?_)); cases bret j; exact At.res (.inl rfl) rfl rfl ⟨rfl, rfl⟩
       ··rcases bite j with ⟨G, j⟩ | ⟨G, j⟩
         ··refine At.know (t := 25) rfl G ?_
           refine At.run 3 rfl ?_; exact At.of (a1 true j) ⟨rfl, trivial⟩
         ··refine At.know (t := 25) rfl (bn G) ?_
           refine At.run 3 rfl ?_; exact At.of (a1 (decide (a0 = 95)) j) ⟨rfl, trivial⟩
     ··rcases bite j with ⟨I, j⟩ | ⟨I, j⟩
       ··refine At.know (t := 17) rfl I ?_
         refine At.run 7 rfl ?_; exact At.of (Z true j) ⟨rfl, rfl, trivial⟩
       ··refine At.know (t := 17) rfl (bn I) ?_
         refine At.run 3 rfl ?_; obtain ⟨b6, b7, d2, j⟩ := bjoin j; refine At.joinO 3 (X := Bool) (fun p => [(0, .int .i32 a0), (17, .bool false), (23, .bool p)]) (fun p => Fr) (fun p => b6 (.inl p) = some r) ?_ (fun a2 => ?_)
         ·rintro p j; have j := (b7 _).symm.trans j
          ·refine At.run 1 rfl ?_; exact At.of (Z p j) ⟨rfl, rfl, trivial⟩
         ··rcases bite j with ⟨J, j⟩ | ⟨J, j⟩
           ··refine At.know (t := 20) rfl (decide_eq_true J) ?_
             refine At.run 3 rfl ?_; exact At.of (a2 (decide (a0 ≤ 57)) j) ⟨rfl, rfl, rfl, trivial⟩
           ··refine At.know (t := 20) rfl (decide_eq_false J) ?_
             refine At.run 3 rfl ?_; exact At.of (a2 false j) ⟨rfl, rfl, rfl, trivial⟩
   ··rcases bite j with ⟨L, j⟩ | ⟨L, j⟩
     ··refine At.know (t := 9) rfl L ?_
       refine At.run 7 rfl ?_; exact At.of (V true j) ⟨rfl, rfl, trivial⟩
     ··refine At.know (t := 9) rfl (bn L) ?_
       refine At.run 3 rfl ?_; obtain ⟨b8, b9, d3, j⟩ := bjoin j; refine At.joinO 3 (X := Bool) (fun q => [(0, .int .i32 a0), (9, .bool false), (15, .bool q)]) (fun q => Fr) (fun q => b8 (.inl q) = some r) ?_ (fun a3 => ?_)
       ·rintro q j; have j := (b9 _).symm.trans j
        ·refine At.run 1 rfl ?_; exact At.of (V q j) ⟨rfl, rfl, trivial⟩
       ··rcases bite j with ⟨N, j⟩ | ⟨N, j⟩
         ··refine At.know (t := 12) rfl (decide_eq_true N) ?_
           refine At.run 3 rfl ?_; exact At.of (a3 (decide (a0 ≤ 90)) j) ⟨rfl, rfl, rfl, trivial⟩
         ··refine At.know (t := 12) rfl (decide_eq_false N) ?_
           refine At.run 3 rfl ?_; exact At.of (a3 false j) ⟨rfl, rfl, rfl, trivial⟩
 ··rcases bite j with ⟨O, j⟩ | ⟨O, j⟩
   ··refine At.know (t := 5) rfl (decide_eq_true O) ?_
     refine At.run 3 rfl ?_; exact At.of (U (decide (a0 ≤ 122)) j) ⟨rfl, rfl, trivial⟩
   ··refine At.know (t := 5) rfl (decide_eq_false O) ?_
     refine At.run 3 rfl ?_; exact At.of (U false j) ⟨rfl, rfl, trivial⟩

noncomputable def Q60.l0b (a0 : Bs) (a2 : Bool) (p : Nat) : Option ((Nat) ⊕ ((Nat) ⊕ (Int))) :=
 if p < a0.length then
 (Q94.f (runeAt a0 p)).bind fun q =>
 if (q == a2) = true then
 upL (some (p : Int))
 else
 nx (p + runeLen a0 p)
 else
 dn (.inl p)
noncomputable def Q60.l0 (a0 : Bs) (a2 : Bool) (p : Nat) : Option ((Nat) ⊕ (Int)) := iter (fun t_ : Nat => Q60.l0b a0 a2 t_) p
noncomputable def Q60.f (a0 : Bs) (a2 : Bool) : Option Int :=
 jn (Q60.l0 a0 a2 0) (fun (p : Nat) =>
 some (-1))
theorem Q60.callee : Callee Tryz.prog 163 := ⟨_, Tryz.func163, by kernel_rfl, by kernel_rfl⟩
theorem Q60.spec {a0 : Bs} {a2 : Bool} {r : Int} (j : Q60.f a0 a2 = some r) :
 Spec Tryz.prog 163 [.string ⟨(a0).toArray⟩, .func (.func 84) #[] #[], .bool a2] R (Fr) (fun v l' => v = i6 r ∧ Fr = l') := by
 refine Spec.of Tryz.func163 rfl rfl ?_; unfold Q60.f at j; have j := brun j; refine sR 1 rfl (nT (At.seq (At.seq (At.region ?_)))); refine At.run 1 rfl ?_; refine At.rangeStr rfl rfl rfl rfl rfl (fun B => ?_); refine nT ?_; refine At.block ?_; obtain ⟨N, O, U, j⟩ := bjoin j; obtain ⟨J, D, L⟩ := bsome j; clear j; unfold Q60.l0 at D; obtain ⟨E, q⟩ := Q12.1 D; clear D; refine At.loopJ (X := Nat) (Y := Nat) (e0 := 0) (fun p => [(1, .func (.func 84) #[] #[]), (2, .bool a2), (10, bp B)]) (fun p => pt B (.stringIter ⟨(a0).toArray⟩ p) :: Fr) (fun m_ => fun p => iterN (fun t_ : Nat => Q60.l0b a0 a2 t_) m_ p = some J) E 0 q (fun u => []) (fun u => pt B (.stringIter ⟨(a0).toArray⟩ u) :: Fr) (fun u => N (.inl u) = some r) (fun a w e hs => ⟨e.sub ⟨rfl, rfl, rfl, trivial⟩, (by exact hs)⟩) ?_ (fun V => ?_)
 ·rintro u j; have j := (O _).symm.trans j
  ·refine At.ibx ?_; refine At.thn (sR 1 rfl (nT (At.ret (At.drop .z ?_)))); cases bret j; exact At.res (.inl rfl) rfl rfl ⟨rfl, rfl⟩
 ·clear q E; rintro E p q; obtain ⟨Z, f_, a1, hf_, j⟩ := bit q; clear q; have j : (Q60.l0b a0 a2 p).bind _ = some J := j; unfold Q60.l0b at j
  ·refine At.seq (At.region ?_); rcases bite j with ⟨G, j⟩ | ⟨G, j⟩
   ··refine At.nextT rfl rfl .z (of_decide_eq_true (decide_eq_true G)) rfl ?_
     refine At.run 1 rfl (nT (At.seq ?_)); refine At.condT rfl rfl ?_; refine At.skip (At.thn ?_); refine At.block ?_; refine sR 4 rfl (nT (sR 2 rfl ?_)); obtain ⟨a4, a3, j⟩ := bbind j; refine At.call rfl Q94.callee rfl rfl rfl (Q94.spec a3) ?_; rintro _ _ ⟨rfl, rfl⟩; refine At.run 2 rfl (nT ?_); rcases bite j with ⟨I, j⟩ | ⟨I, j⟩
     ··refine At.condT rfl I ?_
       refine sR 2 rfl (nT (At.ret ?_)); refine At.ibr ?_; have j := bupL U L j; refine At.thr ?_; refine At.ibr ?_; refine At.thr (At.drop .z ?_); cases bret j; exact At.res (.inl rfl) rfl rfl ⟨rfl, rfl⟩
     ··refine At.condF rfl (bn I) ?_
       refine At.skip ?_; refine At.ibn ?_; have j := bnx hf_ j; exact fun a w e hs => ⟨Z, (p + runeLen a0 p), a1, j, e.sub ⟨rfl, rfl, rfl, trivial⟩, hs⟩
   ··refine At.nextF rfl rfl .z (of_decide_eq_false (decide_eq_false G)) rfl ?_
     refine At.run 1 rfl (nT (At.seq ?_)); refine At.condF rfl rfl ?_; refine At.exit ?_; refine At.the ?_; refine At.the ?_; exact fun a w e hs => V p (bdn j L) a w (e.sub trivial) hs

noncomputable def Q125.f (a0 : Bs) : Option Int :=
 (Q60.f a0 true).bind fun p =>
 some p
theorem Q125.callee : Callee Tryz.prog 134 := ⟨_, Tryz.func134, by kernel_rfl, by kernel_rfl⟩
theorem Q125.spec {a0 : Bs} {r : Int} (j : Q125.f a0 = some r) :
 Spec Tryz.prog 134 [.string ⟨(a0).toArray⟩, .func (.func 84) #[] #[]] R (Fr) (fun v l' => v = i6 r ∧ Fr = l') := by
 refine Spec.of Tryz.func134 rfl rfl ?_; unfold Q125.f at j; have j := brun j; refine sR 1 rfl (nT (sR 2 rfl ?_)); obtain ⟨q, p, j⟩ := bbind j; refine At.call rfl Q60.callee rfl rfl rfl (Q60.spec p) ?_; rintro _ _ ⟨rfl, rfl⟩; refine At.run 1 rfl (nT (At.ret ?_)); cases bret j; exact At.res (.inl rfl) rfl rfl ⟨rfl, rfl⟩

noncomputable def Q110.f (a0 : Bs) : Option Bool :=
 (Q125.f a0).bind fun p =>
 some (decide (0 ≤ p))
theorem Q110.callee : Callee Tryz.prog 83 := ⟨_, Tryz.func83, by kernel_rfl, by kernel_rfl⟩
theorem Q110.spec {a0 : Bs} {r : Bool} (j : Q110.f a0 = some r) :
 Spec Tryz.prog 83 [.string ⟨(a0).toArray⟩, .func (.func 84) #[] #[]] R (Fr) (fun v l' => v = .bool r ∧ Fr = l') := by
 refine Spec.of Tryz.func83 rfl rfl ?_; unfold Q110.f at j; have j := brun j; refine sR 1 rfl (nT (sR 2 rfl ?_)); obtain ⟨q, p, j⟩ := bbind j; refine At.call rfl Q125.callee rfl rfl rfl (Q125.spec p) ?_; rintro _ _ ⟨rfl, rfl⟩; refine At.run 2 rfl (nT (At.ret ?_)); cases bret j; exact At.res (.inl rfl) rfl rfl ⟨rfl, rfl⟩

noncomputable def Q82.f (a0 : Bs) : Option Bool :=
 jn (
 if (a0.length : Int) < 1 then
 some (.inl true)
 else
 some (.inl (decide (8 < (a0.length : Int))))) (fun (p : Bool) =>
 jn (
 if p = true then
 some (.inl true)
 else
 if (0 : Int) ≤ 0 ∧ 0 < (a0.length : Int) then
 some (.inl (decide (bat a0 0 < 97)))
 else none) (fun (q : Bool) =>
 jn (
 if q = true then
 some (.inl true)
 else
 if (0 : Int) ≤ 0 ∧ 0 < (a0.length : Int) then
 some (.inl (decide (122 < bat a0 0)))
 else none) (fun (u : Bool) =>
 if u = true then
 some false
 else
 if bseq a0 ([116, 116] : Bs) = true then
 some false
 else
 if bseq a0 ([102, 102] : Bs) = true then
 some false
 else
 if bseq a0 ([109, 117] : Bs) = true then
 some false
 else
 if bseq a0 ([110, 117] : Bs) = true then
 some false
 else
 (Q110.f a0).bind fun B =>
 some (!B))))
theorem Q82.callee : Callee Tryz.prog 47 := ⟨_, Tryz.func47, by kernel_rfl, by kernel_rfl⟩
theorem Q82.spec {a0 : Bs} {r : Bool} (j : Q82.f a0 = some r) :
 Spec Tryz.prog 47 [.string ⟨(a0).toArray⟩] R (Fr) (fun v l' => v = .bool r ∧ Fr = l') := by
 refine Spec.of Tryz.func47 rfl rfl ?_; unfold Q82.f at j; have j := brun j; refine sR 1 rfl (nT (At.seq (At.seq (At.region ?_)))); refine At.run 4 rfl ?_; obtain ⟨a2, a3, a9, j⟩ := bjoin j; refine At.joinO 4 (X := Bool) (fun p => [(0, .string ⟨(a0).toArray⟩), (10, .bool p)]) (fun p => Fr) (fun p => a2 (.inl p) = some r) ?_ (fun O => ?_)
 ·rintro p j; have j := (a3 _).symm.trans j
  ·refine At.run 1 rfl ?_; obtain ⟨a4, a5, b4, j⟩ := bjoin j; refine At.joinO 4 (X := Bool) (fun q => [(0, .string ⟨(a0).toArray⟩), (15, .bool q)]) (fun q => Fr) (fun q => a4 (.inl q) = some r) ?_ (fun U => ?_)
   ·rintro q j; have j := (a5 _).symm.trans j
    ·refine At.run 1 rfl ?_; obtain ⟨a6, a7, b5, j⟩ := bjoin j; refine At.joinO 4 (X := Bool) (fun u => [(0, .string ⟨(a0).toArray⟩), (20, .bool u)]) (fun u => Fr) (fun u => a6 (.inl u) = some r) ?_ (fun V => ?_)
     ·rintro u j; have j := (a7 _).symm.trans j
      ·refine nT ?_; rcases bite j with ⟨G, j⟩ | ⟨G, j⟩
       ··refine At.condT rfl G ?_
         refine sR 1 rfl (nT (At.ret (At.thr ?_))); cases bret j; exact At.res (.inl rfl) rfl rfl ⟨rfl, rfl⟩
       ··refine At.condF rfl (bn G) ?_
         refine At.skip (At.thn (At.seq (sR 1 rfl (nT ?_)))); refine At.block ?_; refine At.seq (sR 2 rfl (nT ?_)); rcases bite j with ⟨B, j⟩ | ⟨B, j⟩
         ··refine At.condT rfl B ?_
           refine At.skip (At.thn ?_); refine At.condT rfl B ?_; refine sR 1 rfl (nT (At.ret ?_)); refine At.ibr ?_; refine At.thr ?_; cases bret j; exact At.res (.inl rfl) rfl rfl ⟨rfl, rfl⟩
         ··refine At.condF rfl (bn B) ?_
           refine sR 2 rfl (nT ?_); rcases bite j with ⟨D, j⟩ | ⟨D, j⟩
           ··refine At.condT rfl D ?_
             refine At.skip (At.thn ?_); refine At.condT rfl D ?_; refine sR 1 rfl (nT (At.ret ?_)); refine At.ibr ?_; refine At.thr ?_; cases bret j; exact At.res (.inl rfl) rfl rfl ⟨rfl, rfl⟩
           ··refine At.condF rfl (bn D) ?_
             refine sR 2 rfl (nT ?_); rcases bite j with ⟨E, j⟩ | ⟨E, j⟩
             ··refine At.condT rfl E ?_
               refine At.skip (At.thn ?_); refine At.condT rfl E ?_; refine sR 1 rfl (nT (At.ret ?_)); refine At.ibr ?_; refine At.thr ?_; cases bret j; exact At.res (.inl rfl) rfl rfl ⟨rfl, rfl⟩
             ··refine At.condF rfl (bn E) ?_
               refine At.region (At.run 2 rfl (nT ?_)); rcases bite j with ⟨I, j⟩ | ⟨I, j⟩
               ··refine At.condT rfl I ?_
                 refine sR 1 rfl (nT (At.ret ?_)); refine At.ibr ?_; refine At.thr ?_; cases bret j; exact At.res (.inl rfl) rfl rfl ⟨rfl, rfl⟩
               ··refine At.condF rfl (bn I) ?_
                 refine At.skip ?_; refine At.ibn ?_; refine At.thn (sR 1 rfl ?_); obtain ⟨b6, a8, j⟩ := bbind j; refine At.call rfl Q110.callee rfl rfl rfl (Q110.spec a8) ?_; rintro _ _ ⟨rfl, rfl⟩; refine At.run 2 rfl (nT (At.ret ?_)); cases bret j; exact At.res (.inl rfl) rfl rfl ⟨rfl, rfl⟩
     ··rcases bite j with ⟨J, j⟩ | ⟨J, j⟩
       ··refine At.know (t := 16) rfl J ?_
         refine At.run 4 rfl ?_; exact At.of (V true j) ⟨rfl, rfl, trivial⟩
       ··refine At.know (t := 16) rfl (bn J) ?_
         refine At.run 1 rfl ?_; obtain ⟨Z, j⟩ := bnone j; refine At.y (Y.ixStr rfl rfl rfl rfl Z.1 Z.2) rfl rfl rfl (At.run 2 rfl ?_); exact At.of (V (decide (122 < bat a0 0)) j) ⟨rfl, rfl, trivial⟩
   ··rcases bite j with ⟨L, j⟩ | ⟨L, j⟩
     ··refine At.know (t := 11) rfl L ?_
       refine At.run 4 rfl ?_; exact At.of (U true j) ⟨rfl, rfl, trivial⟩
     ··refine At.know (t := 11) rfl (bn L) ?_
       refine At.run 1 rfl ?_; obtain ⟨a1, j⟩ := bnone j; refine At.y (Y.ixStr rfl rfl rfl rfl a1.1 a1.2) rfl rfl rfl (At.run 2 rfl ?_); exact At.of (U (decide (bat a0 0 < 97)) j) ⟨rfl, rfl, trivial⟩
 ··rcases bite j with ⟨N, j⟩ | ⟨N, j⟩
   ··refine At.know (t := 6) rfl (decide_eq_true N) ?_
     refine At.run 4 rfl ?_; exact At.of (O true j) ⟨rfl, rfl, trivial⟩
   ··refine At.know (t := 6) rfl (decide_eq_false N) ?_
     refine At.run 4 rfl ?_; exact At.of (O (decide (8 < (a0.length : Int))) j) ⟨rfl, rfl, trivial⟩

noncomputable def Q98.f (a0 : Int) : Option Bool :=
 some (!(decide (a0 = a0)))
theorem Q98.callee : Callee Tryz.prog 85 := ⟨_, Tryz.func85, by kernel_rfl, by kernel_rfl⟩
theorem Q98.spec {a0 : Int} {r : Bool} (j : Q98.f a0 = some r) :
 Spec Tryz.prog 85 [i6 a0] R (Fr) (fun v l' => v = .bool r ∧ Fr = l') := by
 refine Spec.of Tryz.func85 rfl rfl ?_; unfold Q98.f at j; have j := brun j; refine sR 1 rfl (nT (sR 4 rfl ?_)); refine nT (At.ret ?_); cases bret j; exact At.res (.inl rfl) rfl rfl ⟨rfl, rfl⟩

noncomputable def Q66.f (a0 a1 : Int) : Option Int :=
 (Q98.f a0).bind fun q =>
 (Q98.f a1).bind fun p =>
 if q = true then
 if p = true then
 some 0
 else
 some (-1)
 else
 if p = true then
 some 1
 else
 if a0 < a1 then
 some (-1)
 else
 if a1 < a0 then
 some 1
 else
 some 0
theorem Q66.callee : Callee Tryz.prog 49 := ⟨_, Tryz.func49, by kernel_rfl, by kernel_rfl⟩
theorem Q66.spec {a0 a1 : Int} {r : Int} (j : Q66.f a0 a1 = some r) :
 Spec Tryz.prog 49 [i6 a0, i6 a1] R (Fr) (fun v l' => v = i6 r ∧ Fr = l') := by
 refine Spec.of Tryz.func49 rfl rfl ?_; unfold Q66.f at j; have j := brun j; refine sR 1 rfl (nT (sR 1 rfl ?_)); obtain ⟨I, E, j⟩ := bbind j; refine At.call rfl Q98.callee rfl rfl rfl (Q98.spec E) ?_; rintro _ _ ⟨rfl, rfl⟩; refine At.run 1 rfl (nT (sR 1 rfl ?_)); obtain ⟨J, G, j⟩ := bbind j; refine At.call rfl Q98.callee rfl rfl rfl (Q98.spec G) ?_; rintro _ _ ⟨rfl, rfl⟩; refine At.run 1 rfl (nT (At.seq (sR 1 rfl (At.nil ?_)))); refine At.thn ?_; rcases bite j with ⟨p, j⟩ | ⟨p, j⟩
 ··refine At.condT rfl p ?_
   refine At.seq (sR 1 rfl (nT ?_)); rcases bite j with ⟨q, j⟩ | ⟨q, j⟩
   ··refine At.condT rfl q ?_
     refine sR 1 rfl (nT (At.ret (At.thr (At.thr ?_)))); cases bret j; exact At.res (.inl rfl) rfl rfl ⟨rfl, rfl⟩
   ··refine At.condF rfl (bn q) ?_
     refine At.skip (At.thn (sR 1 rfl (nT (At.ret ?_)))); refine At.thr ?_; cases bret j; exact At.res (.inl rfl) rfl rfl ⟨rfl, rfl⟩
 ··refine At.condF rfl (bn p) ?_
   refine At.skip (At.thn (At.seq (sR 1 rfl (nT ?_)))); rcases bite j with ⟨u, j⟩ | ⟨u, j⟩
   ··refine At.condT rfl u ?_
     refine sR 1 rfl (nT (At.ret (At.thr ?_))); cases bret j; exact At.res (.inl rfl) rfl rfl ⟨rfl, rfl⟩
   ··refine At.condF rfl (bn u) ?_
     refine At.skip (At.thn (At.seq (sR 3 rfl (nT ?_)))); rcases bite j with ⟨B, j⟩ | ⟨B, j⟩
     ··refine At.condT rfl (decide_eq_true B) ?_
       refine sR 1 rfl (nT (At.ret (At.thr ?_))); cases bret j; exact At.res (.inl rfl) rfl rfl ⟨rfl, rfl⟩
     ··refine At.condF rfl (decide_eq_false B) ?_
       refine At.skip (At.thn (At.seq (sR 3 rfl (nT ?_)))); rcases bite j with ⟨D, j⟩ | ⟨D, j⟩
       ··refine At.condT rfl (decide_eq_true D) ?_
         refine sR 1 rfl (nT (At.ret (At.thr ?_))); cases bret j; exact At.res (.inl rfl) rfl rfl ⟨rfl, rfl⟩
       ··refine At.condF rfl (decide_eq_false D) ?_
         refine At.skip (At.thn (sR 1 rfl (nT (At.ret ?_)))); cases bret j; exact At.res (.inl rfl) rfl rfl ⟨rfl, rfl⟩

noncomputable def Q56.l0b (a0 : List Int) (p : Int) : Option ((Int) ⊕ ((Unit) ⊕ (Bool))) :=
 if p < (a0.length : Int) then
 if (0 : Int) ≤ IntKind.i64.wrap (p - 1) ∧ IntKind.i64.wrap (p - 1) < (a0.length : Int) then
 if (0 : Int) ≤ p ∧ p < (a0.length : Int) then
 (Q66.f (gt a0 (IntKind.i64.wrap (p - 1))) (gt a0 p)).bind fun q =>
 if 0 ≤ q then
 upL (some false)
 else
 nx (IntKind.i64.wrap (p + 1))
 else none
 else none
 else
 dn (.inl ())
noncomputable def Q56.l0 (a0 : List Int) (p : Int) : Option ((Unit) ⊕ (Bool)) := iter (fun t_ : Int => Q56.l0b a0 t_) p
noncomputable def Q56.f (a0 : List Int) : Option Bool :=
 jn (Q56.l0 a0 1) (fun (_ : Unit) =>
 some true)
theorem Q56.callee : Callee Tryz.prog 48 := ⟨_, Tryz.func48, by kernel_rfl, by kernel_rfl⟩
theorem Q56.spec {a0 : List Int} (hr0 : RdS (Fl.int .i64).rep R.heap A0 a0) (hn0 : a0.length = n0) (hc0 : n0 ≤ c0) {r : Bool} (j : Q56.f a0 = some r) :
 Spec Tryz.prog 48 [.slice A0 n0 c0, .func (.func 49) #[] #[]] R (Fr) (fun v l' => v = .bool r ∧ Fr = l') := by
 subst hn0; refine Spec.of Tryz.func48 rfl rfl ?_; unfold Q56.f at j; have j := brun j; refine sR 1 rfl (nT (At.seq (At.seq (At.region ?_)))); refine At.run 1 rfl (nT ?_); refine At.block ?_; obtain ⟨O, U, V, j⟩ := bjoin j; obtain ⟨L, E, N⟩ := bsome j; clear j; unfold Q56.l0 at E; obtain ⟨G, u⟩ := Q12.1 E; clear E; refine At.loopJ (X := Int) (Y := Unit) (e0 := 0) (fun p => [(0, .slice A0 a0.length c0), (1, .func (.func 49) #[] #[]), (5, i6 p)]) (fun p => Fr) (fun m_ => fun p => iterN (fun t_ : Int => Q56.l0b a0 t_) m_ p = some L) G 1 u (fun _ => []) (fun _ => Fr) (fun _ => O (.inl ()) = some r) (fun a w e hs => ⟨e.sub ⟨rfl, rfl, rfl, trivial⟩, (by exact hs)⟩) ?_ (fun Z => ?_)
 ·rintro _ j; have j := (U _).symm.trans j
  ·refine At.ibx ?_; refine At.thn (sR 1 rfl (nT (At.ret ?_))); cases bret j; exact At.res (.inl rfl) rfl rfl ⟨rfl, rfl⟩
 ·clear u G; rintro G p u; obtain ⟨a1, f_, a2, hf_, j⟩ := bit u; clear u; have j : (Q56.l0b a0 p).bind _ = some L := j; unfold Q56.l0b at j
  ·refine At.seq (sR 4 rfl (nT ?_)); rcases bite j with ⟨I, j⟩ | ⟨I, j⟩
   ··refine At.condT rfl (decide_eq_true I) ?_
     refine At.skip (At.thn (At.seq ?_)); refine At.block ?_; refine At.seq ?_; refine At.quiet (by kernel_rfl) ?_; refine At.Quiet.run 4 rfl ?_; obtain ⟨B, j⟩ := bnone j; refine At.Quiet.y (Y.ixRd hr0 rfl rfl rfl rfl rfl rfl rfl B.1 B.2) rfl rfl rfl ?_; refine At.Quiet.y (Y.ldFl hr0 rfl (q := 0) rfl rfl B.1 B.2 rfl rfl rfl) rfl rfl rfl ?_; refine At.Quiet.run 2 rfl ?_; obtain ⟨D, j⟩ := bnone j; refine At.Quiet.y (Y.ixRd hr0 rfl rfl rfl rfl rfl rfl rfl D.1 D.2) rfl rfl rfl ?_; refine At.Quiet.y (Y.ldFl hr0 rfl (q := 0) rfl rfl D.1 D.2 rfl rfl rfl) rfl rfl rfl ?_; obtain ⟨a4, a3, j⟩ := bbind j; refine At.Quiet.call rfl Q66.callee rfl rfl rfl (Q66.spec a3) (fun _ _ h_ => ⟨h_.1, fun _ hs => h_.2 ▸ hs⟩) ?_; refine At.Quiet.run 1 rfl (At.Quiet.nil (At.thn ?_)); rcases bite j with ⟨J, j⟩ | ⟨J, j⟩
     ··refine At.condT rfl (decide_eq_true J) ?_
       refine sR 1 rfl (nT (At.ret ?_)); refine At.ibr ?_; refine At.thr ?_; have j := bupL V N j; refine At.thr ?_; refine At.ibr ?_; refine At.thr ?_; cases bret j; exact At.res (.inl rfl) rfl rfl ⟨rfl, rfl⟩
     ··refine At.condF rfl (decide_eq_false J) ?_
       refine At.skip ?_; refine At.ibn ?_; refine At.thn (At.region (At.run 3 rfl (At.nil ?_))); have j := bnx hf_ j; exact fun a w e hs => ⟨a1, (IntKind.i64.wrap (p + 1)), a2, j, e.sub ⟨rfl, rfl, rfl, trivial⟩, hs⟩
   ··refine At.condF rfl (decide_eq_false I) ?_
     refine At.exit ?_; refine At.the ?_; refine At.the ?_; exact fun a w e hs => Z () (bdn j N) a w (e.sub trivial) hs

noncomputable def Q120.f (a0 p : Int) (q : List Bs) (u : List Q0) (B : List Q1) : Option Bool :=
 (Q80.f a0 p q u B).bind fun D =>
 some (!D)
theorem Q120.callee : Callee Tryz.prog 51 := ⟨_, Tryz.func51, by kernel_rfl, by kernel_rfl⟩
theorem Q120.spec {a0 p : Int} {q : List Bs} {u : List Q0} {B : List Q1} (hr1_0_c0_1 : RdS Fl.bs.rep R.heap A1_0_c0_1 q) (hn1_0_c0_1 : q.length = n1_0_c0_1) (hc1_0_c0_1 : n1_0_c0_1 ≤ c1_0_c0_1) (hr1_0_c0_2 : RdS Q0.fl.rep R.heap A1_0_c0_2 u) (hn1_0_c0_2 : u.length = n1_0_c0_2) (hc1_0_c0_2 : n1_0_c0_2 ≤ c1_0_c0_2) (hr1_0_c0_3 : RdS Q1.rep R.heap A1_0_c0_3 B) (hn1_0_c0_3 : B.length = n1_0_c0_3) (hc1_0_c0_3 : n1_0_c0_3 ≤ c1_0_c0_3) {r : Bool} (j : Q120.f a0 p q u B = some r) :
 Spec Tryz.prog 51 [i6 a0, bp b1] R (pc b1 [.func (.func 46) #[] #[bp b1_0_c0]] 45 :: pc b1_0_c0 [i6 p, .slice A1_0_c0_1 n1_0_c0_1 c1_0_c0_1, .slice A1_0_c0_2 n1_0_c0_2 c1_0_c0_2, .slice A1_0_c0_3 n1_0_c0_3 c1_0_c0_3] 26 :: Fr) (fun v l' => v = .bool r ∧ pc b1 [.func (.func 46) #[] #[bp b1_0_c0]] 45 :: pc b1_0_c0 [i6 p, .slice A1_0_c0_1 n1_0_c0_1 c1_0_c0_1, .slice A1_0_c0_2 n1_0_c0_2 c1_0_c0_2, .slice A1_0_c0_3 n1_0_c0_3 c1_0_c0_3] 26 :: Fr = l') := by
 subst hn1_0_c0_1; subst hn1_0_c0_2; subst hn1_0_c0_3; refine Spec.of Tryz.func51 rfl rfl ?_; unfold Q120.f at j; have j := brun j; refine sR 1 rfl (nT (At.seq (At.region (At.y (Y.load rfl rfl .z rfl rfl rfl) rfl rfl rfl ?_)))); refine At.run 1 rfl (At.f1 ?_); obtain ⟨E, D, j⟩ := bbind j; refine At.call rfl Q80.callee rfl rfl rfl (Q80.spec hr1_0_c0_1 rfl hc1_0_c0_1 hr1_0_c0_2 rfl hc1_0_c0_2 hr1_0_c0_3 rfl hc1_0_c0_3 D) ?_; rintro _ _ ⟨rfl, rfl⟩; refine At.run 2 rfl (nT (At.ret (At.f1 ?_))); cases bret j; exact At.res (.inl rfl) rfl rfl ⟨rfl, rfl⟩

noncomputable def Q59.l0b (a0 : List Int) (a1_c0_0_c0_0 : Int) (a1_c0_0_c0_1 : List Bs) (a1_c0_0_c0_2 : List Q0) (a1_c0_0_c0_3 : List Q1) (p : Int) : Option ((Int) ⊕ ((Unit) ⊕ (Int))) :=
 if p < (a0.length : Int) then
 if (0 : Int) ≤ p ∧ p < (a0.length : Int) then
 (Q120.f (gt a0 p) a1_c0_0_c0_0 a1_c0_0_c0_1 a1_c0_0_c0_2 a1_c0_0_c0_3).bind fun q =>
 if q = true then
 upL (some p)
 else
 nx (IntKind.i64.wrap (p + 1))
 else none
 else
 dn (.inl ())
noncomputable def Q59.l0 (a0 : List Int) (a1_c0_0_c0_0 : Int) (a1_c0_0_c0_1 : List Bs) (a1_c0_0_c0_2 : List Q0) (a1_c0_0_c0_3 : List Q1) (p : Int) : Option ((Unit) ⊕ (Int)) := iter (fun t_ : Int => Q59.l0b a0 a1_c0_0_c0_0 a1_c0_0_c0_1 a1_c0_0_c0_2 a1_c0_0_c0_3 t_) p
noncomputable def Q59.f (a0 : List Int) (a1_c0_0_c0_0 : Int) (a1_c0_0_c0_1 : List Bs) (a1_c0_0_c0_2 : List Q0) (a1_c0_0_c0_3 : List Q1) : Option Int :=
 jn (Q59.l0 a0 a1_c0_0_c0_0 a1_c0_0_c0_1 a1_c0_0_c0_2 a1_c0_0_c0_3 0) (fun (_ : Unit) =>
 some (-1))
theorem Q59.callee : Callee Tryz.prog 86 := ⟨_, Tryz.func86, by kernel_rfl, by kernel_rfl⟩
theorem Q59.spec {a0 : List Int} {a1_c0_0_c0_0 : Int} {a1_c0_0_c0_1 : List Bs} {a1_c0_0_c0_2 : List Q0} {a1_c0_0_c0_3 : List Q1} (hr0 : RdS (Fl.int .i64).rep R.heap A0 a0) (hn0 : a0.length = n0) (hc0 : n0 ≤ c0) (hr1_c0_0_c0_1 : RdS Fl.bs.rep R.heap A1_c0_0_c0_1 a1_c0_0_c0_1) (hn1_c0_0_c0_1 : a1_c0_0_c0_1.length = n1_c0_0_c0_1) (hc1_c0_0_c0_1 : n1_c0_0_c0_1 ≤ c1_c0_0_c0_1) (hr1_c0_0_c0_2 : RdS Q0.fl.rep R.heap A1_c0_0_c0_2 a1_c0_0_c0_2) (hn1_c0_0_c0_2 : a1_c0_0_c0_2.length = n1_c0_0_c0_2) (hc1_c0_0_c0_2 : n1_c0_0_c0_2 ≤ c1_c0_0_c0_2) (hr1_c0_0_c0_3 : RdS Q1.rep R.heap A1_c0_0_c0_3 a1_c0_0_c0_3) (hn1_c0_0_c0_3 : a1_c0_0_c0_3.length = n1_c0_0_c0_3) (hc1_c0_0_c0_3 : n1_c0_0_c0_3 ≤ c1_c0_0_c0_3) {r : Int} (j : Q59.f a0 a1_c0_0_c0_0 a1_c0_0_c0_1 a1_c0_0_c0_2 a1_c0_0_c0_3 = some r) :
 Spec Tryz.prog 86 [.slice A0 n0 c0, .func (.func 51) #[] #[bp b1_c0]] R (pc b1_c0 [.func (.func 46) #[] #[bp b1_c0_0_c0]] 45 :: pc b1_c0_0_c0 [i6 a1_c0_0_c0_0, .slice A1_c0_0_c0_1 n1_c0_0_c0_1 c1_c0_0_c0_1, .slice A1_c0_0_c0_2 n1_c0_0_c0_2 c1_c0_0_c0_2, .slice A1_c0_0_c0_3 n1_c0_0_c0_3 c1_c0_0_c0_3] 26 :: Fr) (fun v l' => v = i6 r ∧ pc b1_c0 [.func (.func 46) #[] #[bp b1_c0_0_c0]] 45 :: pc b1_c0_0_c0 [i6 a1_c0_0_c0_0, .slice A1_c0_0_c0_1 n1_c0_0_c0_1 c1_c0_0_c0_1, .slice A1_c0_0_c0_2 n1_c0_0_c0_2 c1_c0_0_c0_2, .slice A1_c0_0_c0_3 n1_c0_0_c0_3 c1_c0_0_c0_3] 26 :: Fr = l') := by
 subst hn0; subst hn1_c0_0_c0_1; subst hn1_c0_0_c0_2; subst hn1_c0_0_c0_3; refine Spec.of Tryz.func86 rfl rfl ?_; unfold Q59.f at j; have j := brun j; refine sR 1 rfl (nT (At.seq (At.seq (At.region ?_)))); refine At.run 3 rfl (nT ?_); refine At.block ?_; obtain ⟨N, O, U, j⟩ := bjoin j; obtain ⟨J, D, L⟩ := bsome j; clear j; unfold Q59.l0 at D; obtain ⟨E, u⟩ := Q12.1 D; clear D; let T2 : HProp := pc b1_c0 [.func (.func 46) #[] #[bp b1_c0_0_c0]] 45; let T3 : HProp := pc b1_c0_0_c0 [i6 a1_c0_0_c0_0, .slice A1_c0_0_c0_1 a1_c0_0_c0_1.length c1_c0_0_c0_1, .slice A1_c0_0_c0_2 a1_c0_0_c0_2.length c1_c0_0_c0_2, .slice A1_c0_0_c0_3 a1_c0_0_c0_3.length c1_c0_0_c0_3] 26; refine At.loopJ (X := Int) (Y := Unit) (e0 := 0) (fun p => [(0, .slice A0 a0.length c0), (1, .func (.func 51) #[] #[bp b1_c0]), (7, i6 (a0.length : Int)), (8, i6 p)]) (fun p => T2 :: T3 :: Fr) (fun m_ => fun p => iterN (fun t_ : Int => Q59.l0b a0 a1_c0_0_c0_0 a1_c0_0_c0_1 a1_c0_0_c0_2 a1_c0_0_c0_3 t_) m_ p = some J) E 0 u (fun _ => []) (fun _ => T2 :: T3 :: Fr) (fun _ => N (.inl ()) = some r) (fun a w e hs => ⟨e.sub ⟨rfl, rfl, rfl, rfl, trivial⟩, (by exact hs)⟩) ?_ (fun V => ?_)
 ·rintro _ j; have j := (O _).symm.trans j
  ·refine At.ibx ?_; refine At.thn (sR 1 rfl (nT (At.ret ?_))); cases bret j; exact At.res (.inl rfl) rfl rfl ⟨rfl, rfl⟩
 ·clear u E; rintro E p u; obtain ⟨Z, f_, a1, hf_, j⟩ := bit u; clear u; have j : (Q59.l0b a0 a1_c0_0_c0_0 a1_c0_0_c0_1 a1_c0_0_c0_2 a1_c0_0_c0_3 p).bind _ = some J := j; unfold Q59.l0b at j
  ·refine sR 1 rfl (nT (At.seq ?_)); rcases bite j with ⟨G, j⟩ | ⟨G, j⟩
   ··refine At.condT rfl (decide_eq_true G) ?_
     refine At.skip (At.thn (At.seq ?_)); refine At.block ?_; refine sR 2 rfl (nT (sR 3 rfl ?_)); obtain ⟨B, j⟩ := bnone j; refine At.y (Y.ixRd hr0 rfl rfl rfl rfl rfl rfl rfl B.1 B.2) rfl rfl rfl (At.y (Y.ldFl hr0 rfl (q := 0) rfl rfl B.1 B.2 rfl rfl rfl) rfl rfl rfl ?_); obtain ⟨a3, a2, j⟩ := bbind j; refine At.call rfl Q120.callee rfl rfl rfl (Q120.spec hr1_c0_0_c0_1 rfl hc1_c0_0_c0_1 hr1_c0_0_c0_2 rfl hc1_c0_0_c0_2 hr1_c0_0_c0_3 rfl hc1_c0_0_c0_3 a2) ?_; rintro _ _ ⟨rfl, rfl⟩; refine nT ?_; rcases bite j with ⟨I, j⟩ | ⟨I, j⟩
     ··refine At.condT rfl I ?_
       refine sR 2 rfl (nT (At.ret ?_)); refine At.ibr ?_; refine At.thr ?_; have j := bupL U L j; refine At.thr ?_; refine At.ibr ?_; refine At.thr ?_; cases bret j; exact At.res (.inl rfl) rfl rfl ⟨rfl, rfl⟩
     ··refine At.condF rfl (bn I) ?_
       refine At.skip ?_; refine At.ibn ?_; refine At.thn (At.region (At.run 2 rfl (At.nil ?_))); have j := bnx hf_ j; exact fun a w e hs => ⟨Z, (IntKind.i64.wrap (p + 1)), a1, j, e.sub ⟨rfl, rfl, rfl, rfl, trivial⟩, hs⟩
   ··refine At.condF rfl (decide_eq_false G) ?_
     refine At.exit ?_; refine At.the ?_; refine At.the ?_; exact fun a w e hs => V () (bdn j L) a w (e.sub trivial) hs

noncomputable def Q117.f (a0 : List Int) (a1_c0_0_c0_0 : Int) (a1_c0_0_c0_1 : List Bs) (a1_c0_0_c0_2 : List Q0) (a1_c0_0_c0_3 : List Q1) : Option Bool :=
 (Q59.f a0 a1_c0_0_c0_0 a1_c0_0_c0_1 a1_c0_0_c0_2 a1_c0_0_c0_3).bind fun p =>
 some (decide (0 ≤ p))
theorem Q117.callee : Callee Tryz.prog 50 := ⟨_, Tryz.func50, by kernel_rfl, by kernel_rfl⟩
theorem Q117.spec {a0 : List Int} {a1_c0_0_c0_0 : Int} {a1_c0_0_c0_1 : List Bs} {a1_c0_0_c0_2 : List Q0} {a1_c0_0_c0_3 : List Q1} (hr0 : RdS (Fl.int .i64).rep R.heap A0 a0) (hn0 : a0.length = n0) (hc0 : n0 ≤ c0) (hr1_c0_0_c0_1 : RdS Fl.bs.rep R.heap A1_c0_0_c0_1 a1_c0_0_c0_1) (hn1_c0_0_c0_1 : a1_c0_0_c0_1.length = n1_c0_0_c0_1) (hc1_c0_0_c0_1 : n1_c0_0_c0_1 ≤ c1_c0_0_c0_1) (hr1_c0_0_c0_2 : RdS Q0.fl.rep R.heap A1_c0_0_c0_2 a1_c0_0_c0_2) (hn1_c0_0_c0_2 : a1_c0_0_c0_2.length = n1_c0_0_c0_2) (hc1_c0_0_c0_2 : n1_c0_0_c0_2 ≤ c1_c0_0_c0_2) (hr1_c0_0_c0_3 : RdS Q1.rep R.heap A1_c0_0_c0_3 a1_c0_0_c0_3) (hn1_c0_0_c0_3 : a1_c0_0_c0_3.length = n1_c0_0_c0_3) (hc1_c0_0_c0_3 : n1_c0_0_c0_3 ≤ c1_c0_0_c0_3) {r : Bool} (j : Q117.f a0 a1_c0_0_c0_0 a1_c0_0_c0_1 a1_c0_0_c0_2 a1_c0_0_c0_3 = some r) :
 Spec Tryz.prog 50 [.slice A0 n0 c0, .func (.func 51) #[] #[bp b1_c0]] R (pc b1_c0 [.func (.func 46) #[] #[bp b1_c0_0_c0]] 45 :: pc b1_c0_0_c0 [i6 a1_c0_0_c0_0, .slice A1_c0_0_c0_1 n1_c0_0_c0_1 c1_c0_0_c0_1, .slice A1_c0_0_c0_2 n1_c0_0_c0_2 c1_c0_0_c0_2, .slice A1_c0_0_c0_3 n1_c0_0_c0_3 c1_c0_0_c0_3] 26 :: Fr) (fun v l' => v = .bool r ∧ pc b1_c0 [.func (.func 46) #[] #[bp b1_c0_0_c0]] 45 :: pc b1_c0_0_c0 [i6 a1_c0_0_c0_0, .slice A1_c0_0_c0_1 n1_c0_0_c0_1 c1_c0_0_c0_1, .slice A1_c0_0_c0_2 n1_c0_0_c0_2 c1_c0_0_c0_2, .slice A1_c0_0_c0_3 n1_c0_0_c0_3 c1_c0_0_c0_3] 26 :: Fr = l') := by
 subst hn0; subst hn1_c0_0_c0_1; subst hn1_c0_0_c0_2; subst hn1_c0_0_c0_3; refine Spec.of Tryz.func50 rfl rfl ?_; unfold Q117.f at j; have j := brun j; refine sR 1 rfl (nT (sR 2 rfl ?_)); obtain ⟨q, p, j⟩ := bbind j; refine At.call rfl Q59.callee rfl rfl rfl (Q59.spec hr0 rfl hc0 hr1_c0_0_c0_1 rfl hc1_c0_0_c0_1 hr1_c0_0_c0_2 rfl hc1_c0_0_c0_2 hr1_c0_0_c0_3 rfl hc1_c0_0_c0_3 p) ?_; rintro _ _ ⟨rfl, rfl⟩; refine At.run 2 rfl (nT (At.ret ?_)); cases bret j; exact At.res (.inl rfl) rfl rfl ⟨rfl, rfl⟩

noncomputable def Q121.f (a0 : Bs) : Option Bool :=
 (Q82.f a0).bind fun p =>
 some (!p)
theorem Q121.callee : Callee Tryz.prog 53 := ⟨_, Tryz.func53, by kernel_rfl, by kernel_rfl⟩
theorem Q121.spec {a0 : Bs} {r : Bool} (j : Q121.f a0 = some r) :
 Spec Tryz.prog 53 [.string ⟨(a0).toArray⟩] R (Fr) (fun v l' => v = .bool r ∧ Fr = l') := by
 refine Spec.of Tryz.func53 rfl rfl ?_; unfold Q121.f at j; have j := brun j; refine sR 1 rfl (nT (sR 1 rfl ?_)); obtain ⟨q, p, j⟩ := bbind j; refine At.call rfl Q82.callee rfl rfl rfl (Q82.spec p) ?_; rintro _ _ ⟨rfl, rfl⟩; refine At.run 2 rfl (nT (At.ret ?_)); cases bret j; exact At.res (.inl rfl) rfl rfl ⟨rfl, rfl⟩

noncomputable def Q63.l0b (a0 : List Bs) (p : Int) : Option ((Int) ⊕ ((Unit) ⊕ (Int))) :=
 if p < (a0.length : Int) then
 if (0 : Int) ≤ p ∧ p < (a0.length : Int) then
 (Q121.f (gt a0 p)).bind fun q =>
 if q = true then
 upL (some p)
 else
 nx (IntKind.i64.wrap (p + 1))
 else none
 else
 dn (.inl ())
noncomputable def Q63.l0 (a0 : List Bs) (p : Int) : Option ((Unit) ⊕ (Int)) := iter (fun t_ : Int => Q63.l0b a0 t_) p
noncomputable def Q63.f (a0 : List Bs) : Option Int :=
 jn (Q63.l0 a0 0) (fun (_ : Unit) =>
 some (-1))
theorem Q63.callee : Callee Tryz.prog 87 := ⟨_, Tryz.func87, by kernel_rfl, by kernel_rfl⟩
theorem Q63.spec {a0 : List Bs} (hr0 : RdS Fl.bs.rep R.heap A0 a0) (hn0 : a0.length = n0) (hc0 : n0 ≤ c0) {r : Int} (j : Q63.f a0 = some r) :
 Spec Tryz.prog 87 [.slice A0 n0 c0, .func (.func 53) #[] #[]] R (Fr) (fun v l' => v = i6 r ∧ Fr = l') := by
 subst hn0; refine Spec.of Tryz.func87 rfl rfl ?_; unfold Q63.f at j; have j := brun j; refine sR 1 rfl (nT (At.seq (At.seq (At.region ?_)))); refine At.run 3 rfl (nT ?_); refine At.block ?_; obtain ⟨N, O, U, j⟩ := bjoin j; obtain ⟨J, D, L⟩ := bsome j; clear j; unfold Q63.l0 at D; obtain ⟨E, u⟩ := Q12.1 D; clear D; refine At.loopJ (X := Int) (Y := Unit) (e0 := 0) (fun p => [(0, .slice A0 a0.length c0), (1, .func (.func 53) #[] #[]), (7, i6 (a0.length : Int)), (8, i6 p)]) (fun p => Fr) (fun m_ => fun p => iterN (fun t_ : Int => Q63.l0b a0 t_) m_ p = some J) E 0 u (fun _ => []) (fun _ => Fr) (fun _ => N (.inl ()) = some r) (fun a w e hs => ⟨e.sub ⟨rfl, rfl, rfl, rfl, trivial⟩, (by exact hs)⟩) ?_ (fun V => ?_)
 ·rintro _ j; have j := (O _).symm.trans j
  ·refine At.ibx ?_; refine At.thn (sR 1 rfl (nT (At.ret ?_))); cases bret j; exact At.res (.inl rfl) rfl rfl ⟨rfl, rfl⟩
 ·clear u E; rintro E p u; obtain ⟨Z, f_, a1, hf_, j⟩ := bit u; clear u; have j : (Q63.l0b a0 p).bind _ = some J := j; unfold Q63.l0b at j
  ·refine sR 1 rfl (nT (At.seq ?_)); rcases bite j with ⟨G, j⟩ | ⟨G, j⟩
   ··refine At.condT rfl (decide_eq_true G) ?_
     refine At.skip (At.thn (At.seq ?_)); refine At.block ?_; refine sR 2 rfl (nT (sR 3 rfl ?_)); obtain ⟨B, j⟩ := bnone j; refine At.y (Y.ixRd hr0 rfl rfl rfl rfl rfl rfl rfl B.1 B.2) rfl rfl rfl (At.y (Y.ldFl hr0 rfl (q := 0) rfl rfl B.1 B.2 rfl rfl rfl) rfl rfl rfl ?_); obtain ⟨a3, a2, j⟩ := bbind j; refine At.call rfl Q121.callee rfl rfl rfl (Q121.spec a2) ?_; rintro _ _ ⟨rfl, rfl⟩; refine nT ?_; rcases bite j with ⟨I, j⟩ | ⟨I, j⟩
     ··refine At.condT rfl I ?_
       refine sR 2 rfl (nT (At.ret ?_)); refine At.ibr ?_; refine At.thr ?_; have j := bupL U L j; refine At.thr ?_; refine At.ibr ?_; refine At.thr ?_; cases bret j; exact At.res (.inl rfl) rfl rfl ⟨rfl, rfl⟩
     ··refine At.condF rfl (bn I) ?_
       refine At.skip ?_; refine At.ibn ?_; refine At.thn (At.region (At.run 2 rfl (At.nil ?_))); have j := bnx hf_ j; exact fun a w e hs => ⟨Z, (IntKind.i64.wrap (p + 1)), a1, j, e.sub ⟨rfl, rfl, rfl, rfl, trivial⟩, hs⟩
   ··refine At.condF rfl (decide_eq_false G) ?_
     refine At.exit ?_; refine At.the ?_; refine At.the ?_; exact fun a w e hs => V () (bdn j L) a w (e.sub trivial) hs

noncomputable def Q109.f (a0 : List Bs) : Option Bool :=
 (Q63.f a0).bind fun p =>
 some (decide (0 ≤ p))
theorem Q109.callee : Callee Tryz.prog 52 := ⟨_, Tryz.func52, by kernel_rfl, by kernel_rfl⟩
theorem Q109.spec {a0 : List Bs} (hr0 : RdS Fl.bs.rep R.heap A0 a0) (hn0 : a0.length = n0) (hc0 : n0 ≤ c0) {r : Bool} (j : Q109.f a0 = some r) :
 Spec Tryz.prog 52 [.slice A0 n0 c0, .func (.func 53) #[] #[]] R (Fr) (fun v l' => v = .bool r ∧ Fr = l') := by
 subst hn0; refine Spec.of Tryz.func52 rfl rfl ?_; unfold Q109.f at j; have j := brun j; refine sR 1 rfl (nT (sR 2 rfl ?_)); obtain ⟨q, p, j⟩ := bbind j; refine At.call rfl Q63.callee rfl rfl rfl (Q63.spec hr0 rfl hc0 p) ?_; rintro _ _ ⟨rfl, rfl⟩; refine At.run 2 rfl (nT (At.ret ?_)); cases bret j; exact At.res (.inl rfl) rfl rfl ⟨rfl, rfl⟩

noncomputable def Q37.l0b (a0 : List Int) (p : Int) : Option ((Int) ⊕ ((Unit) ⊕ (Int))) :=
 if p < (a0.length : Int) then
 if (0 : Int) ≤ p ∧ p < (a0.length : Int) then
 if gt a0 p = 0 then
 nx (IntKind.i64.wrap (p + 1))
 else
 upL (some (gt a0 p))
 else none
 else
 dn (.inl ())
noncomputable def Q37.l0 (a0 : List Int) (p : Int) : Option ((Unit) ⊕ (Int)) := iter (fun t_ : Int => Q37.l0b a0 t_) p
noncomputable def Q37.f (a0 : List Int) : Option Int :=
 jn (Q37.l0 a0 0) (fun (_ : Unit) =>
 some 0)
theorem Q37.callee : Callee Tryz.prog 44 := ⟨_, Tryz.func44, by kernel_rfl, by kernel_rfl⟩
theorem Q37.spec {a0 : List Int} (hr0 : RdS (Fl.int .i64).rep R.heap A0 a0) (hn0 : a0.length = n0) (hc0 : n0 ≤ c0) {r : Int} (j : Q37.f a0 = some r) :
 Spec Tryz.prog 44 [.slice A0 n0 c0] R (Fr) (fun v l' => v = i6 r ∧ Fr = l') := by
 subst hn0; refine Spec.of Tryz.func44 rfl rfl ?_; unfold Q37.f at j; have j := brun j; refine sR 1 rfl (nT (sR 1 rfl ?_)); refine nT (At.seq (sR 3 rfl (nT ?_))); refine At.block ?_; obtain ⟨N, O, U, j⟩ := bjoin j; obtain ⟨J, D, L⟩ := bsome j; clear j; unfold Q37.l0 at D; obtain ⟨E, u⟩ := Q12.1 D; clear D; refine At.loopJ (X := Int) (Y := Unit) (e0 := 0) (fun p => [(3, i6 0), (6, .slice A0 a0.length c0), (7, i6 (a0.length : Int)), (8, i6 p)]) (fun p => Fr) (fun m_ => fun p => iterN (fun t_ : Int => Q37.l0b a0 t_) m_ p = some J) E 0 u (fun _ => [(3, i6 0)]) (fun _ => Fr) (fun _ => N (.inl ()) = some r) (fun a w e hs => ⟨e.sub ⟨rfl, rfl, rfl, rfl, trivial⟩, (by exact hs)⟩) ?_ (fun V => ?_)
 ·rintro _ j; have j := (O _).symm.trans j
  ·refine At.ibx ?_; refine At.thn (sR 2 rfl (nT (At.ret ?_))); cases bret j; exact At.res (.inl rfl) rfl rfl ⟨rfl, rfl⟩
 ·clear u E; rintro E p u; obtain ⟨Z, f_, a1, hf_, j⟩ := bit u; clear u; have j : (Q37.l0b a0 p).bind _ = some J := j; unfold Q37.l0b at j
  ·refine sR 1 rfl (nT (At.seq ?_)); rcases bite j with ⟨G, j⟩ | ⟨G, j⟩
   ··refine At.condT rfl (decide_eq_true G) ?_
     refine At.skip (At.thn (At.seq ?_)); refine At.block ?_; refine At.seq (At.region ?_); obtain ⟨B, j⟩ := bnone j; refine At.y (Y.ixRd hr0 rfl rfl rfl rfl rfl rfl rfl B.1 B.2) rfl rfl rfl (At.y (Y.ldFl hr0 rfl (q := 0) rfl rfl B.1 B.2 rfl rfl rfl) rfl rfl rfl (At.run 1 rfl (nT (sR 3 rfl ?_)))); refine nT ?_; rcases bite j with ⟨I, j⟩ | ⟨I, j⟩
     ··refine At.condF rfl (nf (decide_eq_true I)) ?_
       refine At.skip ?_; refine At.ibn ?_; refine At.thn (At.region (At.run 2 rfl (At.nil ?_))); have j := bnx hf_ j; exact fun a w e hs => ⟨Z, (IntKind.i64.wrap (p + 1)), a1, j, e.sub ⟨rfl, rfl, rfl, rfl, trivial⟩, hs⟩
     ··refine At.condT rfl (nt (decide_eq_false I)) ?_
       refine sR 2 rfl (nT (At.ret ?_)); refine At.ibr ?_; refine At.thr ?_; have j := bupL U L j; refine At.thr ?_; refine At.ibr ?_; refine At.thr ?_; cases bret j; exact At.res (.inl rfl) rfl rfl ⟨rfl, rfl⟩
   ··refine At.condF rfl (decide_eq_false G) ?_
     refine At.exit ?_; refine At.the ?_; refine At.the ?_; exact fun a w e hs => V () (bdn j L) a w (e.sub ⟨rfl, trivial⟩) hs

noncomputable def Q91.f (p q u B D E : Int) : Option Int :=
 (Q66.f p B).bind fun G =>
 (Q66.f q D).bind fun I =>
 (Q66.f u E).bind fun J =>
 (Q37.f ([G, I, J] : List Int)).bind fun L =>
 some L
theorem Q91.callee : Callee Tryz.prog 55 := ⟨_, Tryz.func55, by kernel_rfl, by kernel_rfl⟩
theorem Q91.spec {p q u B D E : Int} {r : Int} (j : Q91.f p q u B D E = some r) :
 Spec Tryz.prog 55 [.agg #[i6 p, i6 q, i6 u], .agg #[i6 B, i6 D, i6 E]] R (Fr) (fun v l' => v = i6 r ∧ Fr = l') := by
 refine Spec.of Tryz.func55 rfl rfl ?_; unfold Q91.f at j; have j := brun j; refine At.seq (At.region ?_); refine At.box rfl rfl (cs := [i6 p, i6 q, i6 u]) rfl rfl (fun G => ?_); refine At.box rfl rfl (cs := [i6 B, i6 D, i6 E]) rfl rfl (fun I => ?_); refine At.run 1 rfl (nT (At.seq ?_)); refine At.held [pc I [i6 B, i6 D, i6 E] 35, pc G [i6 p, i6 q, i6 u] 35] 18 rfl ?_; refine At.H.pw 0 rfl rfl rfl rfl rfl (.c .z (.c .z .n)) ?_; refine At.H.tw 1 rfl (Y.load rfl rfl (.s .z) rfl rfl rfl) rfl rfl rfl (.c .z (.c .z .n)) ?_; refine At.H.pw 2 rfl rfl rfl rfl rfl (.c .z (.c .z .n)) ?_; refine At.H.tw 3 rfl (Y.load rfl rfl .z rfl rfl rfl) rfl rfl rfl (.c .z (.c .z .n)) ?_; refine At.H.pw 5 rfl rfl rfl rfl rfl (.c .z (.c .z .n)) ?_; refine At.H.tw 6 rfl (Y.load rfl rfl (.s .z) rfl rfl rfl) rfl rfl rfl (.c .z (.c .z .n)) ?_; refine At.H.pw 7 rfl rfl rfl rfl rfl (.c .z (.c .z .n)) ?_; refine At.H.tw 8 rfl (Y.load rfl rfl .z rfl rfl rfl) rfl rfl rfl (.c .z (.c .z .n)) ?_; refine At.H.pw 10 rfl rfl rfl rfl rfl (.c .z (.c .z .n)) ?_; refine At.H.tw 11 rfl (Y.load rfl rfl (.s .z) rfl rfl rfl) rfl rfl rfl (.c .z (.c .z .n)) ?_; refine At.H.pw 12 rfl rfl rfl rfl rfl (.c .z (.c .z .n)) ?_; refine At.H.tw 13 rfl (Y.load rfl rfl .z rfl rfl rfl) rfl rfl rfl (.c .z (.c .z .n)) ?_; refine At.H.al [4] (Q7 ?_ Q11)
 ··refine At.HO.op rfl ?_
   obtain ⟨J, L, j⟩ := bbind j; refine At.call rfl Q66.callee rfl rfl rfl (Q66.spec L) ?_; rintro _ _ ⟨rfl, rfl⟩; refine At.HO.back (.c .z (.c .z .n)) ?_; refine At.H.al [9] (Q7 ?_ Q11)
   ··refine At.HO.op rfl ?_
     obtain ⟨N, O, j⟩ := bbind j; refine At.call rfl Q66.callee rfl rfl rfl (Q66.spec O) ?_; rintro _ _ ⟨rfl, rfl⟩; refine At.HO.back (.c .z (.c .z .n)) ?_; refine At.H.al [14] (Q7 ?_ Q11)
     ··refine At.HO.op rfl ?_
       obtain ⟨U, V, j⟩ := bbind j; refine At.call rfl Q66.callee rfl rfl rfl (Q66.spec V) ?_; rintro _ _ ⟨rfl, rfl⟩; refine At.HO.back (.c .z (.c .z .n)) ?_; refine At.H.al [15] (Q7 ?_ Q11)
       ··refine At.HO.op rfl ?_
         refine At.lit rfl (xo := [.tmp 9, .tmp 14, .tmp 19]) (ys := ([J, N, U] : List Int)) (Fl.int .i64) rfl rfl rfl rfl rfl rfl rfl rfl rfl rfl rfl (fun a3 a4 => ?_); refine At.HO.back (.c (.s .z) (.c (.s .z) .n)) ?_; refine At.H.al [16] (Q7 ?_ Q11)
         ··refine At.HO.op rfl ?_
           refine At.freeze .z fun a5 X Z a0 a6 a1 => ?_; obtain ⟨a7, a2, j⟩ := bbind j; refine At.call rfl Q37.callee rfl rfl rfl (Q37.spec X Z a0 a2) ?_; rintro _ _ ⟨rfl, rfl⟩; refine At.thaw a1 ?_; refine At.HO.back (.c (.s .z) (.c (.s .z) .n)) ?_; refine At.H.pw 17 rfl rfl rfl rfl rfl (.c (.s .z) (.c (.s .z) .n)) ?_; refine At.H.done (by kernel_rfl) ?_; refine At.thn (At.ret (At.drop .z (At.drop .z (At.drop .z ?_)))); cases bret j; exact At.res (.inl rfl) rfl rfl ⟨rfl, rfl⟩

noncomputable def Q62.l0b (a0 : List Q0) (p : Int) : Option ((Int) ⊕ ((Unit) ⊕ (Bool))) :=
 if p < (a0.length : Int) then
 if (0 : Int) ≤ IntKind.i64.wrap (p - 1) ∧ IntKind.i64.wrap (p - 1) < (a0.length : Int) then
 if (0 : Int) ≤ p ∧ p < (a0.length : Int) then
 (Q91.f ((gt a0 (IntKind.i64.wrap (p - 1))).From) ((gt a0 (IntKind.i64.wrap (p - 1))).Action) ((gt a0 (IntKind.i64.wrap (p - 1))).To) ((gt a0 p).From) ((gt a0 p).Action) ((gt a0 p).To)).bind fun q =>
 if 0 ≤ q then
 upL (some false)
 else
 nx (IntKind.i64.wrap (p + 1))
 else none
 else none
 else
 dn (.inl ())
noncomputable def Q62.l0 (a0 : List Q0) (p : Int) : Option ((Unit) ⊕ (Bool)) := iter (fun t_ : Int => Q62.l0b a0 t_) p
noncomputable def Q62.f (a0 : List Q0) : Option Bool :=
 jn (Q62.l0 a0 1) (fun (_ : Unit) =>
 some true)
theorem Q62.callee : Callee Tryz.prog 54 := ⟨_, Tryz.func54, by kernel_rfl, by kernel_rfl⟩
theorem Q62.spec {a0 : List Q0} (hr0 : RdS Q0.fl.rep R.heap A0 a0) (hn0 : a0.length = n0) (hc0 : n0 ≤ c0) {r : Bool} (j : Q62.f a0 = some r) :
 Spec Tryz.prog 54 [.slice A0 n0 c0, .func (.func 55) #[] #[]] R (Fr) (fun v l' => v = .bool r ∧ Fr = l') := by
 subst hn0; refine Spec.of Tryz.func54 rfl rfl ?_; unfold Q62.f at j; have j := brun j; refine sR 1 rfl (nT (At.seq (At.seq (At.region ?_)))); refine At.run 1 rfl (nT ?_); refine At.block ?_; obtain ⟨O, U, V, j⟩ := bjoin j; obtain ⟨L, E, N⟩ := bsome j; clear j; unfold Q62.l0 at E; obtain ⟨G, u⟩ := Q12.1 E; clear E; refine At.loopJ (X := Int) (Y := Unit) (e0 := 0) (fun p => [(0, .slice A0 a0.length c0), (1, .func (.func 55) #[] #[]), (5, i6 p)]) (fun p => Fr) (fun m_ => fun p => iterN (fun t_ : Int => Q62.l0b a0 t_) m_ p = some L) G 1 u (fun _ => []) (fun _ => Fr) (fun _ => O (.inl ()) = some r) (fun a w e hs => ⟨e.sub ⟨rfl, rfl, rfl, trivial⟩, (by exact hs)⟩) ?_ (fun Z => ?_)
 ·rintro _ j; have j := (U _).symm.trans j
  ·refine At.ibx ?_; refine At.thn (sR 1 rfl (nT (At.ret ?_))); cases bret j; exact At.res (.inl rfl) rfl rfl ⟨rfl, rfl⟩
 ·clear u G; rintro G p u; obtain ⟨a1, f_, a2, hf_, j⟩ := bit u; clear u; have j : (Q62.l0b a0 p).bind _ = some L := j; unfold Q62.l0b at j
  ·refine At.seq (sR 4 rfl (nT ?_)); rcases bite j with ⟨I, j⟩ | ⟨I, j⟩
   ··refine At.condT rfl (decide_eq_true I) ?_
     refine At.skip (At.thn (At.seq ?_)); refine At.block ?_; refine At.seq ?_; refine At.quiet (by kernel_rfl) ?_; refine At.Quiet.run 4 rfl ?_; obtain ⟨B, j⟩ := bnone j; refine At.Quiet.y (Y.ixRd hr0 rfl rfl rfl rfl rfl rfl rfl B.1 B.2) rfl rfl rfl ?_; refine At.Quiet.y (Y.ldFl hr0 rfl (q := 0) rfl rfl B.1 B.2 rfl rfl rfl) rfl rfl rfl ?_; refine At.Quiet.run 2 rfl ?_; obtain ⟨D, j⟩ := bnone j; refine At.Quiet.y (Y.ixRd hr0 rfl rfl rfl rfl rfl rfl rfl D.1 D.2) rfl rfl rfl ?_; refine At.Quiet.y (Y.ldFl hr0 rfl (q := 0) rfl rfl D.1 D.2 rfl rfl rfl) rfl rfl rfl ?_; obtain ⟨a4, a3, j⟩ := bbind j; refine At.Quiet.call rfl Q91.callee rfl rfl rfl (Q91.spec a3) (fun _ _ h_ => ⟨h_.1, fun _ hs => h_.2 ▸ hs⟩) ?_; refine At.Quiet.run 1 rfl (At.Quiet.nil (At.thn ?_)); rcases bite j with ⟨J, j⟩ | ⟨J, j⟩
     ··refine At.condT rfl (decide_eq_true J) ?_
       refine sR 1 rfl (nT (At.ret ?_)); refine At.ibr ?_; refine At.thr ?_; have j := bupL V N j; refine At.thr ?_; refine At.ibr ?_; refine At.thr ?_; cases bret j; exact At.res (.inl rfl) rfl rfl ⟨rfl, rfl⟩
     ··refine At.condF rfl (decide_eq_false J) ?_
       refine At.skip ?_; refine At.ibn ?_; refine At.thn (At.region (At.run 3 rfl (At.nil ?_))); have j := bnx hf_ j; exact fun a w e hs => ⟨a1, (IntKind.i64.wrap (p + 1)), a2, j, e.sub ⟨rfl, rfl, rfl, trivial⟩, hs⟩
   ··refine At.condF rfl (decide_eq_false I) ?_
     refine At.exit ?_; refine At.the ?_; refine At.the ?_; exact fun a w e hs => Z () (bdn j N) a w (e.sub trivial) hs

noncomputable def Q106.f (a0 a1 : Bs) : Option Int :=
 some (Lib.compareBytes a0 a1)
theorem Q106.callee : Callee Tryz.prog 88 := ⟨_, Tryz.func88, by kernel_rfl, by kernel_rfl⟩
theorem Q106.spec {a0 a1 : Bs} {r : Int} (j : Q106.f a0 a1 = some r) :
 Spec Tryz.prog 88 [.string ⟨(a0).toArray⟩, .string ⟨(a1).toArray⟩] R (Fr) (fun v l' => v = i6 r ∧ Fr = l') := by
 refine Spec.of Tryz.func88 rfl rfl ?_; unfold Q106.f at j; have j := brun j; refine sR 1 rfl (nT (sR 2 rfl ?_)); refine At.y (Y.ext bytealg_cmpstring.ext rfl rfl (fun w => Q326 _ _ w)) rfl rfl rfl ?_; refine At.run 1 rfl (nT (At.ret ?_)); cases bret j; exact At.res (.inl rfl) rfl rfl ⟨rfl, rfl⟩

noncomputable def Q92.f (a0 a1 : Bs) : Option Int :=
 (Q106.f a0 a1).bind fun p =>
 some p
theorem Q92.callee : Callee Tryz.prog 57 := ⟨_, Tryz.func57, by kernel_rfl, by kernel_rfl⟩
theorem Q92.spec {a0 a1 : Bs} {r : Int} (j : Q92.f a0 a1 = some r) :
 Spec Tryz.prog 57 [.string ⟨(a0).toArray⟩, .string ⟨(a1).toArray⟩] R (Fr) (fun v l' => v = i6 r ∧ Fr = l') := by
 refine Spec.of Tryz.func57 rfl rfl ?_; unfold Q92.f at j; have j := brun j; refine sR 1 rfl (nT (sR 2 rfl ?_)); obtain ⟨q, p, j⟩ := bbind j; refine At.call rfl Q106.callee rfl rfl rfl (Q106.spec p) ?_; rintro _ _ ⟨rfl, rfl⟩; refine At.run 1 rfl (nT (At.ret ?_)); cases bret j; exact At.res (.inl rfl) rfl rfl ⟨rfl, rfl⟩

noncomputable def Q57.l0b (a0 : List Bs) (p : Int) : Option ((Int) ⊕ ((Unit) ⊕ (Bool))) :=
 if p < (a0.length : Int) then
 if (0 : Int) ≤ IntKind.i64.wrap (p - 1) ∧ IntKind.i64.wrap (p - 1) < (a0.length : Int) then
 if (0 : Int) ≤ p ∧ p < (a0.length : Int) then
 (Q92.f (gt a0 (IntKind.i64.wrap (p - 1))) (gt a0 p)).bind fun q =>
 if 0 ≤ q then
 upL (some false)
 else
 nx (IntKind.i64.wrap (p + 1))
 else none
 else none
 else
 dn (.inl ())
noncomputable def Q57.l0 (a0 : List Bs) (p : Int) : Option ((Unit) ⊕ (Bool)) := iter (fun t_ : Int => Q57.l0b a0 t_) p
noncomputable def Q57.f (a0 : List Bs) : Option Bool :=
 jn (Q57.l0 a0 1) (fun (_ : Unit) =>
 some true)
theorem Q57.callee : Callee Tryz.prog 56 := ⟨_, Tryz.func56, by kernel_rfl, by kernel_rfl⟩
theorem Q57.spec {a0 : List Bs} (hr0 : RdS Fl.bs.rep R.heap A0 a0) (hn0 : a0.length = n0) (hc0 : n0 ≤ c0) {r : Bool} (j : Q57.f a0 = some r) :
 Spec Tryz.prog 56 [.slice A0 n0 c0, .func (.func 57) #[] #[]] R (Fr) (fun v l' => v = .bool r ∧ Fr = l') := by
 subst hn0; refine Spec.of Tryz.func56 rfl rfl ?_; unfold Q57.f at j; have j := brun j; refine sR 1 rfl (nT (At.seq (At.seq (At.region ?_)))); refine At.run 1 rfl (nT ?_); refine At.block ?_; obtain ⟨O, U, V, j⟩ := bjoin j; obtain ⟨L, E, N⟩ := bsome j; clear j; unfold Q57.l0 at E; obtain ⟨G, u⟩ := Q12.1 E; clear E; refine At.loopJ (X := Int) (Y := Unit) (e0 := 0) (fun p => [(0, .slice A0 a0.length c0), (1, .func (.func 57) #[] #[]), (5, i6 p)]) (fun p => Fr) (fun m_ => fun p => iterN (fun t_ : Int => Q57.l0b a0 t_) m_ p = some L) G 1 u (fun _ => []) (fun _ => Fr) (fun _ => O (.inl ()) = some r) (fun a w e hs => ⟨e.sub ⟨rfl, rfl, rfl, trivial⟩, (by exact hs)⟩) ?_ (fun Z => ?_)
 ·rintro _ j; have j := (U _).symm.trans j
  ·refine At.ibx ?_; refine At.thn (sR 1 rfl (nT (At.ret ?_))); cases bret j; exact At.res (.inl rfl) rfl rfl ⟨rfl, rfl⟩
 ·clear u G; rintro G p u; obtain ⟨a1, f_, a2, hf_, j⟩ := bit u; clear u; have j : (Q57.l0b a0 p).bind _ = some L := j; unfold Q57.l0b at j
  ·refine At.seq (sR 4 rfl (nT ?_)); rcases bite j with ⟨I, j⟩ | ⟨I, j⟩
   ··refine At.condT rfl (decide_eq_true I) ?_
     refine At.skip (At.thn (At.seq ?_)); refine At.block ?_; refine At.seq ?_; refine At.quiet (by kernel_rfl) ?_; refine At.Quiet.run 4 rfl ?_; obtain ⟨B, j⟩ := bnone j; refine At.Quiet.y (Y.ixRd hr0 rfl rfl rfl rfl rfl rfl rfl B.1 B.2) rfl rfl rfl ?_; refine At.Quiet.y (Y.ldFl hr0 rfl (q := 0) rfl rfl B.1 B.2 rfl rfl rfl) rfl rfl rfl ?_; refine At.Quiet.run 2 rfl ?_; obtain ⟨D, j⟩ := bnone j; refine At.Quiet.y (Y.ixRd hr0 rfl rfl rfl rfl rfl rfl rfl D.1 D.2) rfl rfl rfl ?_; refine At.Quiet.y (Y.ldFl hr0 rfl (q := 0) rfl rfl D.1 D.2 rfl rfl rfl) rfl rfl rfl ?_; obtain ⟨a4, a3, j⟩ := bbind j; refine At.Quiet.call rfl Q92.callee rfl rfl rfl (Q92.spec a3) (fun _ _ h_ => ⟨h_.1, fun _ hs => h_.2 ▸ hs⟩) ?_; refine At.Quiet.run 1 rfl (At.Quiet.nil (At.thn ?_)); rcases bite j with ⟨J, j⟩ | ⟨J, j⟩
     ··refine At.condT rfl (decide_eq_true J) ?_
       refine sR 1 rfl (nT (At.ret ?_)); refine At.ibr ?_; refine At.thr ?_; have j := bupL V N j; refine At.thr ?_; refine At.ibr ?_; refine At.thr ?_; cases bret j; exact At.res (.inl rfl) rfl rfl ⟨rfl, rfl⟩
     ··refine At.condF rfl (decide_eq_false J) ?_
       refine At.skip ?_; refine At.ibn ?_; refine At.thn (At.region (At.run 3 rfl (At.nil ?_))); have j := bnx hf_ j; exact fun a w e hs => ⟨a1, (IntKind.i64.wrap (p + 1)), a2, j, e.sub ⟨rfl, rfl, rfl, trivial⟩, hs⟩
   ··refine At.condF rfl (decide_eq_false I) ?_
     refine At.exit ?_; refine At.the ?_; refine At.the ?_; exact fun a w e hs => Z () (bdn j N) a w (e.sub trivial) hs

noncomputable def Q103.f (p : Bs) (B : List Int) (q : Bs) (D : List Int) : Option Int :=
 (Q92.f p q).bind fun u =>
 some u
theorem Q103.callee : Callee Tryz.prog 59 := ⟨_, Tryz.func59, by kernel_rfl, by kernel_rfl⟩
theorem Q103.spec {u B : Bs} {p q : List Int} (hr0_1 : RdS (Fl.int .i64).rep R.heap A0_1 p) (hn0_1 : p.length = n0_1) (hc0_1 : n0_1 ≤ c0_1) (hr1_1 : RdS (Fl.int .i64).rep R.heap A1_1 q) (hn1_1 : q.length = n1_1) (hc1_1 : n1_1 ≤ c1_1) {r : Int} (j : Q103.f u p B q = some r) :
 Spec Tryz.prog 59 [.agg #[.string ⟨(u).toArray⟩, .slice A0_1 n0_1 c0_1], .agg #[.string ⟨(B).toArray⟩, .slice A1_1 n1_1 c1_1]] R (Fr) (fun v l' => v = i6 r ∧ Fr = l') := by
 subst hn0_1; subst hn1_1; refine Spec.of Tryz.func59 rfl rfl ?_; unfold Q103.f at j; have j := brun j; refine At.seq (At.region ?_); refine At.box rfl rfl (cs := [.string ⟨(u).toArray⟩, .slice A0_1 p.length c0_1]) rfl rfl (fun E => ?_); refine At.box rfl rfl (cs := [.string ⟨(B).toArray⟩, .slice A1_1 q.length c1_1]) rfl rfl (fun G => ?_); refine At.run 1 rfl (nT (sR 1 rfl (At.y (Y.load rfl rfl (.s .z) rfl rfl rfl) rfl rfl rfl (At.run 1 rfl ?_)))); refine At.y (Y.load rfl rfl .z rfl rfl rfl) rfl rfl rfl ?_; obtain ⟨I, D, j⟩ := bbind j; refine At.call rfl Q92.callee rfl rfl rfl (Q92.spec D) ?_; rintro _ _ ⟨rfl, rfl⟩; refine At.run 1 rfl (nT (At.ret (At.drop .z (At.drop .z ?_)))); cases bret j; exact At.res (.inl rfl) rfl rfl ⟨rfl, rfl⟩

noncomputable def Q64.l0b (a0 : List Q1) (p : Int) : Option ((Int) ⊕ ((Unit) ⊕ (Bool))) :=
 if p < (a0.length : Int) then
 if (0 : Int) ≤ IntKind.i64.wrap (p - 1) ∧ IntKind.i64.wrap (p - 1) < (a0.length : Int) then
 if (0 : Int) ≤ p ∧ p < (a0.length : Int) then
 (Q103.f ((gt a0 (IntKind.i64.wrap (p - 1))).Name) ((gt a0 (IntKind.i64.wrap (p - 1))).States) ((gt a0 p).Name) ((gt a0 p).States)).bind fun q =>
 if 0 ≤ q then
 upL (some false)
 else
 nx (IntKind.i64.wrap (p + 1))
 else none
 else none
 else
 dn (.inl ())
noncomputable def Q64.l0 (a0 : List Q1) (p : Int) : Option ((Unit) ⊕ (Bool)) := iter (fun t_ : Int => Q64.l0b a0 t_) p
noncomputable def Q64.f (a0 : List Q1) : Option Bool :=
 jn (Q64.l0 a0 1) (fun (_ : Unit) =>
 some true)
theorem Q64.callee : Callee Tryz.prog 58 := ⟨_, Tryz.func58, by kernel_rfl, by kernel_rfl⟩
theorem Q64.spec {a0 : List Q1} (hr0 : RdS Q1.rep R.heap A0 a0) (hn0 : a0.length = n0) (hc0 : n0 ≤ c0) {r : Bool} (j : Q64.f a0 = some r) :
 Spec Tryz.prog 58 [.slice A0 n0 c0, .func (.func 59) #[] #[]] R (Fr) (fun v l' => v = .bool r ∧ Fr = l') := by
 subst hn0; refine Spec.of Tryz.func58 rfl rfl ?_; unfold Q64.f at j; have j := brun j; refine sR 1 rfl (nT (At.seq (At.seq (At.region ?_)))); refine At.run 1 rfl (nT ?_); refine At.block ?_; obtain ⟨N, O, U, j⟩ := bjoin j; obtain ⟨J, D, L⟩ := bsome j; clear j; unfold Q64.l0 at D; obtain ⟨E, q⟩ := Q12.1 D; clear D; refine At.loopJ (X := Int) (Y := Unit) (e0 := 0) (fun p => [(0, .slice A0 a0.length c0), (1, .func (.func 59) #[] #[]), (5, i6 p)]) (fun p => Fr) (fun m_ => fun p => iterN (fun t_ : Int => Q64.l0b a0 t_) m_ p = some J) E 1 q (fun _ => []) (fun _ => Fr) (fun _ => N (.inl ()) = some r) (fun a w e hs => ⟨e.sub ⟨rfl, rfl, rfl, trivial⟩, (by exact hs)⟩) ?_ (fun V => ?_)
 ·rintro _ j; have j := (O _).symm.trans j
  ·refine At.ibx ?_; refine At.thn (sR 1 rfl (nT (At.ret ?_))); cases bret j; exact At.res (.inl rfl) rfl rfl ⟨rfl, rfl⟩
 ·clear q E; rintro E p q; obtain ⟨Z, f_, a1, hf_, j⟩ := bit q; clear q; have j : (Q64.l0b a0 p).bind _ = some J := j; unfold Q64.l0b at j
  ·refine At.seq (sR 4 rfl (nT ?_)); rcases bite j with ⟨G, j⟩ | ⟨G, j⟩
   ··refine At.condT rfl (decide_eq_true G) ?_
     refine At.skip (At.thn (At.seq ?_)); refine At.block ?_; refine At.seq ?_; refine At.quiet (by kernel_rfl) ?_; refine At.Quiet.run 4 rfl ?_; obtain ⟨u, j⟩ := bnone j; refine At.Quiet.y (Y.ixRd hr0 rfl rfl rfl rfl rfl rfl rfl u.1 u.2) rfl rfl rfl ?_; obtain ⟨b5, a2, a3⟩ := RdS.whole (P := Tryz.prog) hr0 (Sub.refl _) rfl u.1 u.2; obtain ⟨_, _, rfl, rfl, ⟨b6, b7, rfl, a4, a5⟩⟩ := a2; refine At.Quiet.y (a3 rfl rfl rfl rfl) rfl rfl rfl ?_; refine At.Quiet.run 2 rfl ?_; obtain ⟨B, j⟩ := bnone j; refine At.Quiet.y (Y.ixRd hr0 rfl rfl rfl rfl rfl rfl rfl B.1 B.2) rfl rfl rfl ?_; obtain ⟨b8, a6, a7⟩ := RdS.whole (P := Tryz.prog) hr0 (Sub.refl _) rfl B.1 B.2; obtain ⟨_, _, rfl, rfl, ⟨b9, c8, rfl, a8, a9⟩⟩ := a6; refine At.Quiet.y (a7 rfl rfl rfl rfl) rfl rfl rfl ?_; obtain ⟨c9, b4, j⟩ := bbind j; refine At.Quiet.call rfl Q103.callee rfl rfl rfl (Q103.spec a5 rfl a4 a9 rfl a8 b4) (fun _ _ h_ => ⟨h_.1, fun _ hs => h_.2 ▸ hs⟩) ?_; refine At.Quiet.run 1 rfl (At.Quiet.nil (At.thn ?_)); rcases bite j with ⟨I, j⟩ | ⟨I, j⟩
     ··refine At.condT rfl (decide_eq_true I) ?_
       refine sR 1 rfl (nT (At.ret ?_)); refine At.ibr ?_; refine At.thr ?_; have j := bupL U L j; refine At.thr ?_; refine At.ibr ?_; refine At.thr ?_; cases bret j; exact At.res (.inl rfl) rfl rfl ⟨rfl, rfl⟩
     ··refine At.condF rfl (decide_eq_false I) ?_
       refine At.skip ?_; refine At.ibn ?_; refine At.thn (At.region (At.run 3 rfl (At.nil ?_))); have j := bnx hf_ j; exact fun a w e hs => ⟨Z, (IntKind.i64.wrap (p + 1)), a1, j, e.sub ⟨rfl, rfl, rfl, trivial⟩, hs⟩
   ··refine At.condF rfl (decide_eq_false G) ?_
     refine At.exit ?_; refine At.the ?_; refine At.the ?_; exact fun a w e hs => V () (bdn j L) a w (e.sub trivial) hs

noncomputable def Q29.l1b (u : Int) (B : List Bs) (D : List Q0) (q : List Q1) (p : Int) : Option ((Int) ⊕ ((Unit) ⊕ (Bool))) :=
 if p < (q.length : Int) then
 if (0 : Int) ≤ p ∧ p < (q.length : Int) then
 (Q82.f ((gt q p).Name)).bind fun E =>
 jn (
 if E = true then
 (Q56.f ((gt q p).States)).bind fun G =>
 some (.inl (!G))
 else
 some (.inl true)) (fun (I : Bool) =>
 jn (
 if I = true then
 some (.inl true)
 else
 (Q117.f ((gt q p).States) u B D q).bind fun J =>
 some (.inl J)) (fun (L : Bool) =>
 if L = true then
 upL (some false)
 else
 nx (IntKind.i64.wrap (p + 1))))
 else none
 else
 dn (.inl ())
noncomputable def Q29.l1 (p : Int) (q : List Bs) (u : List Q0) (B : List Q1) (D : Int) : Option ((Unit) ⊕ (Bool)) := iter (fun t_ : Int => Q29.l1b p q u B t_) D
noncomputable def Q29.l0b (B : Int) (u : List Bs) (p : List Q0) (D : List Q1) (E q : Int) : Option ((Int × Int) ⊕ ((Int) ⊕ (Bool))) :=
 if q < (p.length : Int) then
 if (0 : Int) ≤ q ∧ q < (p.length : Int) then
 (Q80.f ((gt p q).From) B u p D).bind fun G =>
 jn (
 if G = true then
 (Q80.f ((gt p q).To) B u p D).bind fun I =>
 some (.inl (!I))
 else
 some (.inl true)) (fun (J : Bool) =>
 jn (
 if J = true then
 some (.inl true)
 else
 some (.inl (decide ((gt p q).Action < 0)))) (fun (L : Bool) =>
 jn (
 if L = true then
 some (.inl true)
 else
 some (.inl (decide ((u.length : Int) ≤ (gt p q).Action)))) (fun (N : Bool) =>
 if N = true then
 upL (some false)
 else
 if (0 : Int) ≤ (gt p q).Action then
 nx (bor .u8 E (Bw.shl .u8 1 ((gt p q).Action)), IntKind.i64.wrap (q + 1))
 else none)))
 else none
 else
 dn (.inl E)
noncomputable def Q29.l0 (p : Int) (q : List Bs) (u : List Q0) (B : List Q1) (D E : Int) : Option ((Int) ⊕ (Bool)) := iter (fun t_ : Int × Int => Q29.l0b p q u B t_.1 t_.2) (D, E)
noncomputable def Q29.f (q : Int) (p : List Bs) (u : List Q0) (B : List Q1) : Option Bool :=
 jn (
 if q < 1 then
 some (.inl true)
 else
 some (.inl (decide (24 < q)))) (fun (D : Bool) =>
 jn (
 if D = true then
 some (.inl true)
 else
 some (.inl (decide (8 < (p.length : Int))))) (fun (E : Bool) =>
 jn (
 if E = true then
 some (.inl true)
 else
 some (.inl (decide (8 < (B.length : Int))))) (fun (G : Bool) =>
 jn (
 if G = true then
 some (.inl true)
 else
 some (.inl (decide (200 < (u.length : Int))))) (fun (I : Bool) =>
 if I = true then
 some false
 else
 jn (Q29.l0 q p u B 0 0) (fun (J : Int) =>
 jn (Q29.l1 q p u B 0) (fun (_ : Unit) =>
 (Q109.f p).bind fun L =>
 jn (
 if L = true then
 some (.inl true)
 else
 if (0 : Int) ≤ (p.length : Int) then
 some (.inl (!(decide (J = IntKind.u8.wrap ((Bw.shl .u8 1 (p.length : Int)) - 1)))))
 else none) (fun (N : Bool) =>
 if N = true then
 some false
 else
 (Q62.f u).bind fun O =>
 jn (
 if O = true then
 (Q57.f p).bind fun U =>
 some (.inl U)
 else
 some (.inl false)) (fun (V : Bool) =>
 jn (
 if V = true then
 (Q64.f B).bind fun X =>
 some (.inl X)
 else
 some (.inl false)) (fun (Z : Bool) =>
 some Z)))))))))
theorem Q29.callee : Callee Tryz.prog 18 := ⟨_, Tryz.func18, by kernel_rfl, by kernel_rfl⟩
theorem Q29.spec {J : Int} {D : List Bs} {p : List Q0} {u : List Q1} (hr0_1 : RdS Fl.bs.rep R.heap A0_1 D) (hn0_1 : D.length = n0_1) (hc0_1 : n0_1 ≤ c0_1) (hr0_2 : RdS Q0.fl.rep R.heap A0_2 p) (hn0_2 : p.length = n0_2) (hc0_2 : n0_2 ≤ c0_2) (hr0_3 : RdS Q1.rep R.heap A0_3 u) (hn0_3 : u.length = n0_3) (hc0_3 : n0_3 ≤ c0_3) {r : Bool} (j : Q29.f J D p u = some r) :
 Spec Tryz.prog 18 [.agg #[i6 J, .slice A0_1 n0_1 c0_1, .slice A0_2 n0_2 c0_2, .slice A0_3 n0_3 c0_3]] R (Fr) (fun v l' => v = .bool r ∧ Fr = l') := by
 subst hn0_1; subst hn0_2; subst hn0_3; refine Spec.of Tryz.func18 rfl rfl ?_; unfold Q29.f at j; have j := brun j; refine At.seq (At.region ?_); refine At.box rfl rfl (cs := [i6 J, .slice A0_1 D.length c0_1, .slice A0_2 p.length c0_2, .slice A0_3 u.length c0_3]) rfl rfl (fun B => ?_); refine At.run 1 rfl (nT (At.seq (sR 1 rfl (At.y (Y.load rfl rfl .z rfl rfl rfl) rfl rfl rfl ?_)))); refine At.run 2 rfl ?_; obtain ⟨g9, h0, q7, j⟩ := bjoin j; let T4 : HProp := pc B [i6 J, .slice A0_1 D.length c0_1, .slice A0_2 p.length c0_2, .slice A0_3 u.length c0_3] 26; refine At.joinO 4 (X := Bool) (fun O => [(1, bp B), (16, .bool O)]) (fun O => T4 :: Fr) (fun O => g9 (.inl O) = some r) ?_ (fun f0 => ?_)
 ·rintro O j; have j := (h0 _).symm.trans j
  ·refine At.run 1 rfl ?_; obtain ⟨h1, h2, q8, j⟩ := bjoin j; refine At.joinO 5 (X := Bool) (fun U => [(1, bp B), (22, .bool U)]) (fun U => T4 :: Fr) (fun U => h1 (.inl U) = some r) ?_ (fun f3 => ?_)
   ·rintro U j; have j := (h2 _).symm.trans j
    ·refine At.run 1 rfl ?_; obtain ⟨h3, h4, q9, j⟩ := bjoin j; refine At.joinO 5 (X := Bool) (fun V => [(1, bp B), (28, .bool V)]) (fun V => T4 :: Fr) (fun V => h3 (.inl V) = some r) ?_ (fun f4 => ?_)
     ·rintro V j; have j := (h4 _).symm.trans j
      ·refine At.run 1 rfl ?_; obtain ⟨h5, h6, r0, j⟩ := bjoin j; refine At.joinO 5 (X := Bool) (fun Z => [(1, bp B), (34, .bool Z)]) (fun Z => T4 :: Fr) (fun Z => h5 (.inl Z) = some r) ?_ (fun f5 => ?_)
       ·rintro Z j; have j := (h6 _).symm.trans j
        ·refine nT ?_; rcases bite j with ⟨b9, j⟩ | ⟨b9, j⟩
         ··refine At.condT rfl b9 ?_
           refine sR 1 rfl (nT (At.ret (At.thr (At.drop .z ?_)))); cases bret j; exact At.res (.inl rfl) rfl rfl ⟨rfl, rfl⟩
         ··refine At.condF rfl (bn b9) ?_
           refine At.skip (At.thn (sR 1 rfl ?_)); refine At.alloc rfl rfl rfl (fun L => ?_); refine At.store rfl rfl rfl rfl .z rfl rfl rfl (.c .n) ?_; refine nT (sR 1 rfl (nT (At.seq ?_))); refine sR 1 rfl (At.y (Y.load rfl rfl (.s .z) rfl rfl rfl) rfl rfl rfl (At.run 2 rfl (nT ?_))); refine At.block ?_; obtain ⟨h7, h8, h9, j⟩ := bjoin j; obtain ⟨a0, c8, f6⟩ := bsome j; clear j; unfold Q29.l0 at c8; obtain ⟨c9, a1⟩ := Q12.1 c8; clear c8; let T5 : HProp := pc L [.func (.func 46) #[] #[bp B]] 45; refine At.loopJ (X := Int × Int) (Y := Int) (e0 := 0) (fun s_ => [(1, bp B), (3, bp L), (4, .int .u8 s_.1), (37, .slice A0_2 p.length c0_2), (38, i6 (p.length : Int)), (39, i6 s_.2)]) (fun s_ => T5 :: T4 :: Fr) (fun m_ => fun s_ => iterN (fun t_ : Int × Int => Q29.l0b J D p u t_.1 t_.2) m_ (s_.1, s_.2) = some a0) c9 (0, 0) a1 (fun I => [(1, bp B), (3, bp L), (4, .int .u8 I)]) (fun I => T5 :: T4 :: Fr) (fun I => h7 (.inl I) = some r) (fun a w e hs => ⟨e.sub ⟨rfl, rfl, rfl, rfl, rfl, rfl, trivial⟩, (by exact hs)⟩) ?_ (fun k1 => ?_)
           ·rintro I j; have j := (h8 _).symm.trans j
            ·refine At.ibx ?_; refine At.thn (At.seq (sR 1 rfl (At.y (Y.load rfl rfl (.s .z) rfl rfl rfl) rfl rfl rfl (At.run 2 rfl (At.nil ?_))))); refine At.thn ?_; refine At.block ?_; obtain ⟨k2, k3, k4, j⟩ := bjoin j; obtain ⟨b5, d0, f7⟩ := bsome j; clear j; unfold Q29.l1 at d0; obtain ⟨d1, a2⟩ := Q12.1 d0; clear d0; refine At.loopJ (X := Int) (Y := Unit) (e0 := 2) (fun E => [(1, bp B), (3, bp L), (4, .int .u8 I), (75, .slice A0_3 u.length c0_3), (76, i6 (u.length : Int)), (77, i6 E)]) (fun E => T5 :: T4 :: Fr) (fun m_ => fun E => iterN (fun t_ : Int => Q29.l1b J D p u t_) m_ E = some b5) d1 0 a2 (fun _ => [(1, bp B), (4, .int .u8 I)]) (fun _ => T5 :: T4 :: Fr) (fun _ => k2 (.inl ()) = some r) (fun a w e hs => ⟨e.sub ⟨rfl, rfl, rfl, rfl, rfl, rfl, trivial⟩, (by exact hs)⟩) ?_ (fun k5 => ?_)
             ·rintro _ j; have j := (k3 _).symm.trans j
              ·refine At.ibx ?_; refine At.thn (At.seq (sR 1 rfl (At.y (Y.load rfl rfl (.s .z) rfl rfl rfl) rfl rfl rfl ?_))); obtain ⟨r1, k6, j⟩ := bbind j; refine At.call rfl Q109.callee rfl rfl rfl (Q109.spec hr0_1 rfl hc0_1 k6) ?_; rintro _ _ ⟨rfl, rfl⟩; refine At.run 1 rfl ?_; obtain ⟨k7, k8, r2, j⟩ := bjoin j; refine At.joinO 8 (X := Bool) (fun a3 => [(1, bp B), (109, .bool a3)]) (fun a3 => T5 :: T4 :: Fr) (fun a3 => k7 (.inl a3) = some r) ?_ (fun f8 => ?_)
               ·rintro a3 j; have j := (k8 _).symm.trans j
                ·refine nT ?_; rcases bite j with ⟨d2, j⟩ | ⟨d2, j⟩
                 ··refine At.condT rfl d2 ?_
                   refine sR 1 rfl (nT (At.ret (At.thr (At.drop .z ?_)))); refine At.drop .z ?_; cases bret j; exact At.res (.inl rfl) rfl rfl ⟨rfl, rfl⟩
                 ··refine At.condF rfl (bn d2) ?_
                   refine At.skip (At.thn (sR 1 rfl (At.y (Y.load rfl rfl (.s .z) rfl rfl rfl) rfl rfl rfl ?_))); obtain ⟨r3, k9, j⟩ := bbind j; refine At.call rfl Q62.callee rfl rfl rfl (Q62.spec hr0_2 rfl hc0_2 k9) ?_; rintro _ _ ⟨rfl, rfl⟩; refine At.run 1 rfl ?_; obtain ⟨m0, m1, r4, j⟩ := bjoin j; refine At.joinO 4 (X := Bool) (fun a4 => [(1, bp B), (117, .bool a4)]) (fun a4 => T5 :: T4 :: Fr) (fun a4 => m0 (.inl a4) = some r) ?_ (fun f9 => ?_)
                   ·rintro a4 j; have j := (m1 _).symm.trans j
                    ·refine At.run 1 rfl ?_; obtain ⟨m2, m3, r5, j⟩ := bjoin j; refine At.joinO 4 (X := Bool) (fun a5 => [(122, .bool a5)]) (fun a5 => T5 :: T4 :: Fr) (fun a5 => m2 (.inl a5) = some r) ?_ (fun g0 => ?_)
                     ·rintro a5 j; have j := (m3 _).symm.trans j
                      ·refine At.run 1 rfl (nT (At.ret (At.drop .z (At.drop .z ?_)))); cases bret j; exact At.res (.inl rfl) rfl rfl ⟨rfl, rfl⟩
                     ··rcases bite j with ⟨d3, j⟩ | ⟨d3, j⟩
                       ··refine At.know (t := 118) rfl d3 ?_
                         refine At.run 1 rfl (At.y (Y.load rfl rfl (.s .z) rfl rfl rfl) rfl rfl rfl ?_); obtain ⟨m4, m5, j⟩ := bbind j; refine At.call rfl Q64.callee rfl rfl rfl (Q64.spec hr0_3 rfl hc0_3 m5) ?_; rintro _ _ ⟨rfl, rfl⟩; refine At.run 1 rfl ?_; exact At.of (g0 m4 j) ⟨rfl, trivial⟩
                       ··refine At.know (t := 118) rfl (bn d3) ?_
                         refine At.run 4 rfl ?_; exact At.of (g0 false j) ⟨rfl, trivial⟩
                   ··rcases bite j with ⟨d4, j⟩ | ⟨d4, j⟩
                     ··refine At.know (t := 113) rfl d4 ?_
                       refine At.run 1 rfl (At.y (Y.load rfl rfl (.s .z) rfl rfl rfl) rfl rfl rfl ?_); obtain ⟨m6, m7, j⟩ := bbind j; refine At.call rfl Q57.callee rfl rfl rfl (Q57.spec hr0_1 rfl hc0_1 m7) ?_; rintro _ _ ⟨rfl, rfl⟩; refine At.run 1 rfl ?_; exact At.of (f9 m6 j) ⟨rfl, rfl, trivial⟩
                     ··refine At.know (t := 113) rfl (bn d4) ?_
                       refine At.run 4 rfl ?_; exact At.of (f9 false j) ⟨rfl, rfl, trivial⟩
               ··rcases bite j with ⟨d5, j⟩ | ⟨d5, j⟩
                 ··refine At.know (t := 101) rfl d5 ?_
                   refine At.run 8 rfl ?_; exact At.of (f8 true j) ⟨rfl, rfl, trivial⟩
                 ··refine At.know (t := 101) rfl (bn d5) ?_
                   refine At.run 2 rfl (At.y (Y.load rfl rfl (.s .z) rfl rfl rfl) rfl rfl rfl (At.run 1 rfl ?_)); obtain ⟨m8, j⟩ := bnone j; refine At.y (Y.shl rfl rfl m8) rfl rfl rfl (At.run 3 rfl ?_); exact At.of (f8 (!(decide (I = IntKind.u8.wrap ((Bw.shl .u8 1 (D.length : Int)) - 1)))) j) ⟨rfl, rfl, trivial⟩
             ·clear a2 d1; rintro d1 E a2; obtain ⟨m9, f_, n2, hf_, j⟩ := bit a2; clear a2; have j : (Q29.l1b J D p u E).bind _ = some b5 := j; unfold Q29.l1b at j
              ·refine sR 1 rfl (nT (At.seq ?_)); rcases bite j with ⟨d6, j⟩ | ⟨d6, j⟩
               ··refine At.condT rfl (decide_eq_true d6) ?_
                 refine At.skip (At.thn (At.seq ?_)); refine At.block ?_; refine At.seq (At.region ?_); obtain ⟨b6, j⟩ := bnone j; refine At.y (Y.ixRd hr0_3 rfl rfl rfl rfl rfl rfl rfl b6.1 b6.2) rfl rfl rfl ?_; obtain ⟨r6, n3, n4⟩ := RdS.whole (P := Tryz.prog) hr0_3 (Sub.refl _) rfl b6.1 b6.2; obtain ⟨_, _, rfl, rfl, ⟨n5, n6, rfl, g1, g2⟩⟩ := n3; refine At.y (n4 rfl rfl rfl rfl) rfl rfl rfl ?_; refine At.alloc rfl rfl rfl (fun g3 => ?_); refine At.store rfl rfl rfl rfl .z rfl rfl rfl (.c (.c .n)) ?_; refine nT (sR 1 rfl (At.y (Y.load rfl rfl .z rfl rfl rfl) rfl rfl rfl ?_)); obtain ⟨r7, n7, j⟩ := bbind j; refine At.call rfl Q82.callee rfl rfl rfl (Q82.spec n7) ?_; rintro _ _ ⟨rfl, rfl⟩; refine At.run 2 rfl ?_; obtain ⟨n8, n9, r8, j⟩ := bjoin j; let T6 : HProp := pc g3 [.string ⟨((gt u E).Name).toArray⟩, .slice n5 ((gt u E).States.length) n6] 37; refine At.joinO 5 (X := Bool) (fun a6 => [(1, bp B), (3, bp L), (4, .int .u8 I), (8, bp g3), (75, .slice A0_3 u.length c0_3), (76, i6 (u.length : Int)), (77, i6 E), (90, .bool a6)]) (fun a6 => T6 :: T5 :: T4 :: Fr) (fun a6 => n8 (.inl a6) = some b5) ?_ (fun g4 => ?_)
                 ·rintro a6 j; have j := (n9 _).symm.trans j
                  ·refine At.run 1 rfl ?_; obtain ⟨o0, o7, r9, j⟩ := bjoin j; refine At.joinO 5 (X := Bool) (fun a7 => [(1, bp B), (3, bp L), (4, .int .u8 I), (75, .slice A0_3 u.length c0_3), (76, i6 (u.length : Int)), (77, i6 E), (96, .bool a7)]) (fun a7 => T6 :: T5 :: T4 :: Fr) (fun a7 => o0 (.inl a7) = some b5) ?_ (fun g5 => ?_)
                   ·rintro a7 j; have j := (o7 _).symm.trans j
                    ·refine nT ?_; rcases bite j with ⟨d7, j⟩ | ⟨d7, j⟩
                     ··refine At.condT rfl d7 ?_
                       refine sR 1 rfl (nT (At.ret ?_)); refine At.ibr ?_; refine At.thr ?_; have j := bupL k4 f7 j; refine At.thr ?_; refine At.ibr ?_; refine At.thr (At.drop .z (At.drop .z (At.drop .z ?_))); cases bret j; exact At.res (.inl rfl) rfl rfl ⟨rfl, rfl⟩
                     ··refine At.condF rfl (bn d7) ?_
                       refine At.skip ?_; refine At.ibn ?_; refine At.thn (At.region (At.run 2 rfl (At.nil (At.drop .z ?_)))); have j := bnx hf_ j; exact fun a w e hs => ⟨m9, (IntKind.i64.wrap (E + 1)), n2, j, e.sub ⟨rfl, rfl, rfl, rfl, rfl, rfl, trivial⟩, hs⟩
                   ··rcases bite j with ⟨d8, j⟩ | ⟨d8, j⟩
                     ··refine At.know (t := 91) rfl d8 ?_
                       refine At.run 5 rfl ?_; exact At.of (g5 true j) ⟨rfl, rfl, rfl, rfl, rfl, rfl, rfl, trivial⟩
                     ··refine At.know (t := 91) rfl (bn d8) ?_
                       refine At.run 1 rfl (At.y (Y.load rfl rfl .z rfl rfl rfl) rfl rfl rfl (At.run 1 rfl (At.f2 (At.f2 ?_)))); obtain ⟨o8, o9, j⟩ := bbind j; refine At.call rfl Q117.callee rfl rfl rfl (Q117.spec g2 rfl g1 hr0_1 rfl hc0_1 hr0_2 rfl hc0_2 hr0_3 rfl hc0_3 o9) ?_; rintro _ _ ⟨rfl, rfl⟩; refine At.run 1 rfl (At.f1 (At.f1 (At.f2 ?_))); exact At.of (g5 o8 j) ⟨rfl, rfl, rfl, rfl, rfl, rfl, rfl, trivial⟩
                 ··rcases bite j with ⟨d9, j⟩ | ⟨d9, j⟩
                   ··refine At.know (t := 85) rfl (nf d9) ?_
                     refine At.run 1 rfl (At.y (Y.load rfl rfl .z rfl rfl rfl) rfl rfl rfl ?_); obtain ⟨p0, p1, j⟩ := bbind j; refine At.call rfl Q56.callee rfl rfl rfl (Q56.spec g2 rfl g1 p1) ?_; rintro _ _ ⟨rfl, rfl⟩; refine At.run 2 rfl ?_; exact At.of (g4 (!p0) j) ⟨rfl, rfl, rfl, rfl, rfl, rfl, rfl, rfl, trivial⟩
                   ··refine At.know (t := 85) rfl (nt (bn d9)) ?_
                     refine At.run 5 rfl ?_; exact At.of (g4 true j) ⟨rfl, rfl, rfl, rfl, rfl, rfl, rfl, rfl, trivial⟩
               ··refine At.condF rfl (decide_eq_false d6) ?_
                 refine At.exit ?_; refine At.the ?_; refine At.the ?_; exact fun a w e hs => k5 () (bdn j f7) a w (e.sub ⟨rfl, rfl, trivial⟩) hs
           ·clear a1 c9; rintro c9 ⟨N, G⟩ a1; obtain ⟨p2, f_, p3, hf_, j⟩ := bit a1; clear a1; have j : (Q29.l0b J D p u N G).bind _ = some a0 := j; unfold Q29.l0b at j
            ·refine sR 1 rfl (nT (At.seq ?_)); rcases bite j with ⟨e1, j⟩ | ⟨e1, j⟩
             ··refine At.condT rfl (decide_eq_true e1) ?_
               refine At.skip (At.thn (At.seq ?_)); refine At.block ?_; refine At.seq (At.region ?_); obtain ⟨b7, j⟩ := bnone j; refine At.y (Y.ixRd hr0_2 rfl rfl rfl rfl rfl rfl rfl b7.1 b7.2) rfl rfl rfl (At.y (Y.ldFl hr0_2 rfl (q := 0) rfl rfl b7.1 b7.2 rfl rfl rfl) rfl rfl rfl ?_); refine At.alloc rfl rfl rfl (fun b8 => ?_); refine At.store rfl rfl rfl rfl .z rfl rfl rfl (.c (.c (.c .n))) ?_; refine nT (At.seq (At.seq (At.region (At.y (Y.load rfl rfl (.s .z) rfl rfl rfl) rfl rfl rfl (At.run 1 rfl (At.y (Y.load rfl rfl .z rfl rfl rfl) rfl rfl rfl ?_)))))); refine At.f2 ?_; obtain ⟨s0, p4, j⟩ := bbind j; refine At.call rfl Q80.callee rfl rfl rfl (Q80.spec hr0_1 rfl hc0_1 hr0_2 rfl hc0_2 hr0_3 rfl hc0_3 p4) ?_; rintro _ _ ⟨rfl, rfl⟩; refine At.run 2 rfl ?_; obtain ⟨p5, p6, s1, j⟩ := bjoin j; let T7 : HProp := pc b8 [i6 ((gt p G).From), i6 ((gt p G).Action), i6 ((gt p G).To)] 35; refine At.joinO 6 (X := Bool) (fun a8 => [(1, bp B), (3, bp L), (4, .int .u8 N), (6, bp b8), (37, .slice A0_2 p.length c0_2), (38, i6 (p.length : Int)), (39, i6 G), (54, .bool a8)]) (fun a8 => T4 :: T7 :: T5 :: Fr) (fun a8 => p5 (.inl a8) = some a0) ?_ (fun g6 => ?_)
               ·rintro a8 j; have j := (p6 _).symm.trans j
                ·refine At.run 1 rfl ?_; obtain ⟨p7, p8, s2, j⟩ := bjoin j; refine At.joinO 4 (X := Bool) (fun a9 => [(1, bp B), (3, bp L), (4, .int .u8 N), (6, bp b8), (37, .slice A0_2 p.length c0_2), (38, i6 (p.length : Int)), (39, i6 G), (59, .bool a9)]) (fun a9 => T4 :: T7 :: T5 :: Fr) (fun a9 => p7 (.inl a9) = some a0) ?_ (fun g7 => ?_)
                 ·rintro a9 j; have j := (p8 _).symm.trans j
                  ·refine At.run 1 rfl ?_; obtain ⟨p9, q0, s3, j⟩ := bjoin j; refine At.joinO 7 (X := Bool) (fun b4 => [(1, bp B), (3, bp L), (4, .int .u8 N), (6, bp b8), (37, .slice A0_2 p.length c0_2), (38, i6 (p.length : Int)), (39, i6 G), (67, .bool b4)]) (fun b4 => T4 :: T7 :: T5 :: Fr) (fun b4 => p9 (.inl b4) = some a0) ?_ (fun g8 => ?_)
                   ·rintro b4 j; have j := (q0 _).symm.trans j
                    ·refine nT ?_; rcases bite j with ⟨e2, j⟩ | ⟨e2, j⟩
                     ··refine At.condT rfl e2 ?_
                       refine sR 1 rfl (nT (At.ret (At.thr ?_))); refine At.ibr ?_; refine At.thr ?_; have j := bupL h9 f6 j; refine At.thr ?_; refine At.ibr ?_; refine At.thr (At.drop .z (At.drop .z (At.drop .z ?_))); cases bret j; exact At.res (.inl rfl) rfl rfl ⟨rfl, rfl⟩
                     ··refine At.condF rfl (bn e2) ?_
                       refine At.skip (At.thn (At.region (At.run 2 rfl (At.y (Y.load rfl rfl (.s .z) rfl rfl rfl) rfl rfl rfl ?_)))); obtain ⟨q2, j⟩ := bnone j; refine At.y (Y.shl rfl rfl q2) rfl rfl rfl (At.run 2 rfl (At.nil ?_)); refine At.ibn ?_; refine At.thn (At.region (At.run 2 rfl (At.nil (At.drop (.s .z) (At.f1 ?_))))); have j := bnx hf_ j; exact fun a w e hs => ⟨p2, (bor .u8 N (Bw.shl .u8 1 ((gt p G).Action)), IntKind.i64.wrap (G + 1)), p3, j, e.sub ⟨rfl, rfl, rfl, rfl, rfl, rfl, trivial⟩, hs⟩
                   ··rcases bite j with ⟨e3, j⟩ | ⟨e3, j⟩
                     ··refine At.know (t := 60) rfl e3 ?_
                       refine At.run 7 rfl ?_; exact At.of (g8 true j) ⟨rfl, rfl, rfl, rfl, rfl, rfl, rfl, rfl, trivial⟩
                     ··refine At.know (t := 60) rfl (bn e3) ?_
                       refine At.run 1 rfl (At.y (Y.load rfl rfl (.s .z) rfl rfl rfl) rfl rfl rfl (At.run 1 rfl (At.y (Y.load rfl rfl .z rfl rfl rfl) rfl rfl rfl (At.run 3 rfl ?_)))); exact At.of (g8 (decide ((D.length : Int) ≤ (gt p G).Action)) j) ⟨rfl, rfl, rfl, rfl, rfl, rfl, rfl, rfl, trivial⟩
                 ··rcases bite j with ⟨e4, j⟩ | ⟨e4, j⟩
                   ··refine At.know (t := 55) rfl e4 ?_
                     refine At.run 4 rfl ?_; exact At.of (g7 true j) ⟨rfl, rfl, rfl, rfl, rfl, rfl, rfl, rfl, trivial⟩
                   ··refine At.know (t := 55) rfl (bn e4) ?_
                     refine At.run 1 rfl (At.y (Y.load rfl rfl (.s .z) rfl rfl rfl) rfl rfl rfl (At.run 2 rfl ?_)); exact At.of (g7 (decide ((gt p G).Action < 0)) j) ⟨rfl, rfl, rfl, rfl, rfl, rfl, rfl, rfl, trivial⟩
               ··rcases bite j with ⟨e5, j⟩ | ⟨e5, j⟩
                 ··refine At.know (t := 48) rfl (nf e5) ?_
                   refine At.y (Y.load rfl rfl (.s (.s .z)) rfl rfl rfl) rfl rfl rfl (At.run 1 rfl (At.y (Y.load rfl rfl (.s .z) rfl rfl rfl) rfl rfl rfl ?_)); obtain ⟨q3, q4, j⟩ := bbind j; refine At.call rfl Q80.callee rfl rfl rfl (Q80.spec hr0_1 rfl hc0_1 hr0_2 rfl hc0_2 hr0_3 rfl hc0_3 q4) ?_; rintro _ _ ⟨rfl, rfl⟩; refine At.run 2 rfl ?_; exact At.of (g6 (!q3) j) ⟨rfl, rfl, rfl, rfl, rfl, rfl, rfl, rfl, trivial⟩
                 ··refine At.know (t := 48) rfl (nt (bn e5)) ?_
                   refine At.run 6 rfl ?_; exact At.of (g6 true j) ⟨rfl, rfl, rfl, rfl, rfl, rfl, rfl, rfl, trivial⟩
             ··refine At.condF rfl (decide_eq_false e1) ?_
               refine At.exit ?_; refine At.the ?_; refine At.the ?_; exact fun a w e hs => k1 N (bdn j f6) a w (e.sub ⟨rfl, rfl, rfl, trivial⟩) hs
       ··rcases bite j with ⟨e6, j⟩ | ⟨e6, j⟩
         ··refine At.know (t := 29) rfl e6 ?_
           refine At.run 5 rfl ?_; exact At.of (f5 true j) ⟨rfl, rfl, trivial⟩
         ··refine At.know (t := 29) rfl (bn e6) ?_
           refine At.run 1 rfl (At.y (Y.load rfl rfl .z rfl rfl rfl) rfl rfl rfl (At.run 3 rfl ?_)); exact At.of (f5 (decide (200 < (p.length : Int))) j) ⟨rfl, rfl, trivial⟩
     ··rcases bite j with ⟨e7, j⟩ | ⟨e7, j⟩
       ··refine At.know (t := 23) rfl e7 ?_
         refine At.run 5 rfl ?_; exact At.of (f4 true j) ⟨rfl, rfl, trivial⟩
       ··refine At.know (t := 23) rfl (bn e7) ?_
         refine At.run 1 rfl (At.y (Y.load rfl rfl .z rfl rfl rfl) rfl rfl rfl (At.run 3 rfl ?_)); exact At.of (f4 (decide (8 < (u.length : Int))) j) ⟨rfl, rfl, trivial⟩
   ··rcases bite j with ⟨e8, j⟩ | ⟨e8, j⟩
     ··refine At.know (t := 17) rfl e8 ?_
       refine At.run 5 rfl ?_; exact At.of (f3 true j) ⟨rfl, rfl, trivial⟩
     ··refine At.know (t := 17) rfl (bn e8) ?_
       refine At.run 1 rfl (At.y (Y.load rfl rfl .z rfl rfl rfl) rfl rfl rfl (At.run 3 rfl ?_)); exact At.of (f3 (decide (8 < (D.length : Int))) j) ⟨rfl, rfl, trivial⟩
 ··rcases bite j with ⟨e9, j⟩ | ⟨e9, j⟩
   ··refine At.know (t := 12) rfl (decide_eq_true e9) ?_
     refine At.run 4 rfl ?_; exact At.of (f0 true j) ⟨rfl, rfl, trivial⟩
   ··refine At.know (t := 12) rfl (decide_eq_false e9) ?_
     refine At.run 1 rfl (At.y (Y.load rfl rfl .z rfl rfl rfl) rfl rfl rfl (At.run 2 rfl ?_)); exact At.of (f0 (decide (24 < J)) j) ⟨rfl, rfl, trivial⟩

noncomputable def Q50.l0b (a0 : Bs) (p : Int) : Option ((Int) ⊕ ((Unit) ⊕ (Bool))) :=
 if p < (a0.length : Int) then
 if (0 : Int) ≤ p ∧ p < (a0.length : Int) then
 jn (
 if 97 ≤ bat a0 p then
 some (.inl (decide (bat a0 p ≤ 122)))
 else
 some (.inl false)) (fun (q : Bool) =>
 jn (
 if q = true then
 some (.inl true)
 else
 jn (
 if 65 ≤ bat a0 p then
 some (.inl (true, decide (bat a0 p ≤ 90)))
 else
 some (.inl (false, false))) (fun (s_ : Bool × Bool) =>
 some (.inl s_.2))) (fun (u : Bool) =>
 jn (
 if u = true then
 some (.inl true)
 else
 jn (
 if 48 ≤ bat a0 p then
 some (.inl (true, decide (bat a0 p ≤ 57)))
 else
 some (.inl (false, false))) (fun (s_ : Bool × Bool) =>
 some (.inl s_.2))) (fun (B : Bool) =>
 jn (
 if B = true then
 some (.inl true)
 else
 some (.inl (decide (bat a0 p = 95)))) (fun (D : Bool) =>
 if D = true then
 nx (IntKind.i64.wrap (p + 1))
 else
 upL (some false)))))
 else none
 else
 dn (.inl ())
noncomputable def Q50.l0 (a0 : Bs) (p : Int) : Option ((Unit) ⊕ (Bool)) := iter (fun t_ : Int => Q50.l0b a0 t_) p
noncomputable def Q50.f (a0 : Bs) : Option Bool :=
 jn (
 if (a0.length : Int) < 1 then
 some (.inl true)
 else
 some (.inl (decide (8 < (a0.length : Int))))) (fun (p : Bool) =>
 jn (
 if p = true then
 some (.inl true)
 else
 if (0 : Int) ≤ 0 ∧ 0 < (a0.length : Int) then
 some (.inl (decide (bat a0 0 < 97)))
 else none) (fun (q : Bool) =>
 jn (
 if q = true then
 some (.inl true)
 else
 if (0 : Int) ≤ 0 ∧ 0 < (a0.length : Int) then
 some (.inl (decide (122 < bat a0 0)))
 else none) (fun (u : Bool) =>
 jn (
 if u = true then
 some (.inl true)
 else
 some (.inl (bseq a0 ([116, 116] : Bs)))) (fun (B : Bool) =>
 jn (
 if B = true then
 some (.inl true)
 else
 some (.inl (bseq a0 ([102, 102] : Bs)))) (fun (D : Bool) =>
 jn (
 if D = true then
 some (.inl true)
 else
 some (.inl (bseq a0 ([109, 117] : Bs)))) (fun (E : Bool) =>
 jn (
 if E = true then
 some (.inl true)
 else
 some (.inl (bseq a0 ([110, 117] : Bs)))) (fun (G : Bool) =>
 if G = true then
 some false
 else
 jn (Q50.l0 a0 0) (fun (_ : Unit) =>
 some true))))))))
theorem Q50.callee : Callee Tryz.prog 138 := ⟨_, Tryz.func138, by kernel_rfl, by kernel_rfl⟩
theorem Q50.spec {a0 : Bs} {r : Bool} (j : Q50.f a0 = some r) :
 Spec Tryz.prog 138 [.string ⟨(a0).toArray⟩] R (Fr) (fun v l' => v = .bool r ∧ Fr = l') := by
 refine Spec.of Tryz.func138 rfl rfl ?_; unfold Q50.f at j; have j := brun j; refine sR 1 rfl (nT (At.seq (At.seq (At.region ?_)))); refine At.run 4 rfl ?_; obtain ⟨e8, e9, k3, j⟩ := bjoin j; refine At.joinO 4 (X := Bool) (fun u => [(0, .string ⟨(a0).toArray⟩), (12, .bool u)]) (fun u => Fr) (fun u => e8 (.inl u) = some r) ?_ (fun d0 => ?_)
 ·rintro u j; have j := (e9 _).symm.trans j
  ·refine At.run 1 rfl ?_; obtain ⟨f0, f1, k4, j⟩ := bjoin j; refine At.joinO 4 (X := Bool) (fun B => [(0, .string ⟨(a0).toArray⟩), (17, .bool B)]) (fun B => Fr) (fun B => f0 (.inl B) = some r) ?_ (fun d1 => ?_)
   ·rintro B j; have j := (f1 _).symm.trans j
    ·refine At.run 1 rfl ?_; obtain ⟨f2, f3, k5, j⟩ := bjoin j; refine At.joinO 4 (X := Bool) (fun D => [(0, .string ⟨(a0).toArray⟩), (22, .bool D)]) (fun D => Fr) (fun D => f2 (.inl D) = some r) ?_ (fun d2 => ?_)
     ·rintro D j; have j := (f3 _).symm.trans j
      ·refine At.run 1 rfl ?_; obtain ⟨f4, f5, k6, j⟩ := bjoin j; refine At.joinO 3 (X := Bool) (fun E => [(0, .string ⟨(a0).toArray⟩), (26, .bool E)]) (fun E => Fr) (fun E => f4 (.inl E) = some r) ?_ (fun d3 => ?_)
       ·rintro E j; have j := (f5 _).symm.trans j
        ·refine At.run 1 rfl ?_; obtain ⟨f6, f7, k7, j⟩ := bjoin j; refine At.joinO 3 (X := Bool) (fun G => [(0, .string ⟨(a0).toArray⟩), (30, .bool G)]) (fun G => Fr) (fun G => f6 (.inl G) = some r) ?_ (fun d4 => ?_)
         ·rintro G j; have j := (f7 _).symm.trans j
          ·refine At.run 1 rfl ?_; obtain ⟨f8, f9, k8, j⟩ := bjoin j; refine At.joinO 3 (X := Bool) (fun I => [(0, .string ⟨(a0).toArray⟩), (34, .bool I)]) (fun I => Fr) (fun I => f8 (.inl I) = some r) ?_ (fun d5 => ?_)
           ·rintro I j; have j := (f9 _).symm.trans j
            ·refine At.run 1 rfl ?_; obtain ⟨g0, g1, k9, j⟩ := bjoin j; refine At.joinO 3 (X := Bool) (fun J => [(0, .string ⟨(a0).toArray⟩), (38, .bool J)]) (fun J => Fr) (fun J => g0 (.inl J) = some r) ?_ (fun d6 => ?_)
             ·rintro J j; have j := (g1 _).symm.trans j
              ·refine nT ?_; rcases bite j with ⟨Z, j⟩ | ⟨Z, j⟩
               ··refine At.condT rfl Z ?_
                 refine sR 1 rfl (nT (At.ret (At.thr ?_))); cases bret j; exact At.res (.inl rfl) rfl rfl ⟨rfl, rfl⟩
               ··refine At.condF rfl (bn Z) ?_
                 refine At.skip (At.thn (At.seq (sR 1 rfl (nT ?_)))); refine At.block ?_; obtain ⟨g2, g3, g4, j⟩ := bjoin j; obtain ⟨q, a1, d7⟩ := bsome j; clear j; unfold Q50.l0 at a1; obtain ⟨a2, L⟩ := Q12.1 a1; clear a1; refine At.loopJ (X := Int) (Y := Unit) (e0 := 0) (fun p => [(0, .string ⟨(a0).toArray⟩), (3, i6 p)]) (fun p => Fr) (fun m_ => fun p => iterN (fun t_ : Int => Q50.l0b a0 t_) m_ p = some q) a2 0 L (fun _ => []) (fun _ => Fr) (fun _ => g2 (.inl ()) = some r) (fun a w e hs => ⟨e.sub ⟨rfl, rfl, trivial⟩, (by exact hs)⟩) ?_ (fun g5 => ?_)
                 ·rintro _ j; have j := (g3 _).symm.trans j
                  ·refine At.ibx ?_; refine At.thn (sR 1 rfl (nT (At.ret ?_))); cases bret j; exact At.res (.inl rfl) rfl rfl ⟨rfl, rfl⟩
                 ·clear L a2; rintro a2 p L; obtain ⟨g6, f_, g7, hf_, j⟩ := bit L; clear L; have j : (Q50.l0b a0 p).bind _ = some q := j; unfold Q50.l0b at j
                  ·refine At.seq (sR 4 rfl (nT ?_)); rcases bite j with ⟨a3, j⟩ | ⟨a3, j⟩
                   ··refine At.condT rfl (decide_eq_true a3) ?_
                     refine At.skip (At.thn (At.seq ?_)); refine At.block ?_; refine sR 2 rfl ?_; obtain ⟨d8, j⟩ := bnone j; refine At.y (Y.ixStr rfl rfl rfl rfl d8.1 d8.2) rfl rfl rfl (At.run 1 rfl (nT (sR 3 rfl ?_))); obtain ⟨g8, g9, m0, j⟩ := bjoin j; refine At.joinO 3 (X := Bool) (fun N => [(0, .string ⟨(a0).toArray⟩), (3, i6 p), (4, .int .u8 (bat a0 p)), (53, .bool N)]) (fun N => Fr) (fun N => g8 (.inl N) = some q) ?_ (fun d9 => ?_)
                     ·rintro N j; have j := (g9 _).symm.trans j
                      ·refine At.run 1 rfl ?_; obtain ⟨h0, h1, m1, j⟩ := bjoin j; refine At.joinO 7 (X := Bool) (fun O => [(0, .string ⟨(a0).toArray⟩), (3, i6 p), (4, .int .u8 (bat a0 p)), (61, .bool O)]) (fun O => Fr) (fun O => h0 (.inl O) = some q) ?_ (fun e1 => ?_)
                       ·rintro O j; have j := (h1 _).symm.trans j
                        ·refine At.run 1 rfl ?_; obtain ⟨h2, h3, m2, j⟩ := bjoin j; refine At.joinO 7 (X := Bool) (fun U => [(0, .string ⟨(a0).toArray⟩), (3, i6 p), (4, .int .u8 (bat a0 p)), (69, .bool U)]) (fun U => Fr) (fun U => h2 (.inl U) = some q) ?_ (fun e2 => ?_)
                         ·rintro U j; have j := (h3 _).symm.trans j
                          ·refine At.run 1 rfl ?_; obtain ⟨h4, h5, m3, j⟩ := bjoin j; refine At.joinO 3 (X := Bool) (fun V => [(0, .string ⟨(a0).toArray⟩), (3, i6 p), (73, .bool V)]) (fun V => Fr) (fun V => h4 (.inl V) = some q) ?_ (fun e3 => ?_)
                           ·rintro V j; have j := (h5 _).symm.trans j
                            ·refine At.run 1 rfl (nT ?_); rcases bite j with ⟨a4, j⟩ | ⟨a4, j⟩
                             ··refine At.condF rfl (nf a4) ?_
                               refine At.skip ?_; refine At.ibn ?_; refine At.thn (At.region (At.run 3 rfl (At.nil ?_))); have j := bnx hf_ j; exact fun a w e hs => ⟨g6, (IntKind.i64.wrap (p + 1)), g7, j, e.sub ⟨rfl, rfl, trivial⟩, hs⟩
                             ··refine At.condT rfl (nt (bn a4)) ?_
                               refine sR 1 rfl (nT (At.ret ?_)); refine At.ibr ?_; refine At.thr ?_; have j := bupL g4 d7 j; refine At.thr ?_; refine At.ibr ?_; refine At.thr ?_; cases bret j; exact At.res (.inl rfl) rfl rfl ⟨rfl, rfl⟩
                           ··rcases bite j with ⟨a5, j⟩ | ⟨a5, j⟩
                             ··refine At.know (t := 70) rfl a5 ?_
                               refine At.run 3 rfl ?_; exact At.of (e3 true j) ⟨rfl, rfl, rfl, trivial⟩
                             ··refine At.know (t := 70) rfl (bn a5) ?_
                               refine At.run 3 rfl ?_; exact At.of (e3 (decide (bat a0 p = 95)) j) ⟨rfl, rfl, rfl, trivial⟩
                         ··rcases bite j with ⟨a6, j⟩ | ⟨a6, j⟩
                           ··refine At.know (t := 62) rfl a6 ?_
                             refine At.run 7 rfl ?_; exact At.of (e2 true j) ⟨rfl, rfl, rfl, rfl, trivial⟩
                           ··refine At.know (t := 62) rfl (bn a6) ?_
                             refine At.run 3 rfl ?_; obtain ⟨h6, h7, m4, j⟩ := bjoin j; refine At.joinO 3 (X := Bool × Bool) (fun s_ => [(0, .string ⟨(a0).toArray⟩), (3, i6 p), (4, .int .u8 (bat a0 p)), (62, .bool false), (63, .int .u8 (bat a0 p)), (64, .bool (decide (48 ≤ bat a0 p))), (65, .bool s_.1), (68, .bool s_.2)]) (fun s_ => Fr) (fun s_ => h6 (.inl (s_.1, s_.2)) = some q) ?_ (fun e4 => ?_)
                             ·rintro ⟨m5, h8⟩ j; have j := (h7 _).symm.trans j
                              ·refine At.run 1 rfl ?_; exact At.of (e2 h8 j) ⟨rfl, rfl, rfl, rfl, trivial⟩
                             ··rcases bite j with ⟨a7, j⟩ | ⟨a7, j⟩
                               ··refine At.know (t := 65) rfl (decide_eq_true a7) ?_
                                 refine At.run 3 rfl ?_; exact At.of (e4 (true, decide (bat a0 p ≤ 57)) j) ⟨rfl, rfl, rfl, rfl, rfl, rfl, rfl, rfl, trivial⟩
                               ··refine At.know (t := 65) rfl (decide_eq_false a7) ?_
                                 refine At.run 3 rfl ?_; exact At.of (e4 (false, false) j) ⟨rfl, rfl, rfl, rfl, rfl, rfl, rfl, rfl, trivial⟩
                       ··rcases bite j with ⟨a8, j⟩ | ⟨a8, j⟩
                         ··refine At.know (t := 54) rfl a8 ?_
                           refine At.run 7 rfl ?_; exact At.of (e1 true j) ⟨rfl, rfl, rfl, rfl, trivial⟩
                         ··refine At.know (t := 54) rfl (bn a8) ?_
                           refine At.run 3 rfl ?_; obtain ⟨h9, k1, m6, j⟩ := bjoin j; refine At.joinO 3 (X := Bool × Bool) (fun s_ => [(0, .string ⟨(a0).toArray⟩), (3, i6 p), (4, .int .u8 (bat a0 p)), (54, .bool false), (55, .int .u8 (bat a0 p)), (56, .bool (decide (65 ≤ bat a0 p))), (57, .bool s_.1), (60, .bool s_.2)]) (fun s_ => Fr) (fun s_ => h9 (.inl (s_.1, s_.2)) = some q) ?_ (fun e5 => ?_)
                           ·rintro ⟨m7, k2⟩ j; have j := (k1 _).symm.trans j
                            ·refine At.run 1 rfl ?_; exact At.of (e1 k2 j) ⟨rfl, rfl, rfl, rfl, trivial⟩
                           ··rcases bite j with ⟨a9, j⟩ | ⟨a9, j⟩
                             ··refine At.know (t := 57) rfl (decide_eq_true a9) ?_
                               refine At.run 3 rfl ?_; exact At.of (e5 (true, decide (bat a0 p ≤ 90)) j) ⟨rfl, rfl, rfl, rfl, rfl, rfl, rfl, rfl, trivial⟩
                             ··refine At.know (t := 57) rfl (decide_eq_false a9) ?_
                               refine At.run 3 rfl ?_; exact At.of (e5 (false, false) j) ⟨rfl, rfl, rfl, rfl, rfl, rfl, rfl, rfl, trivial⟩
                     ··rcases bite j with ⟨b4, j⟩ | ⟨b4, j⟩
                       ··refine At.know (t := 50) rfl (decide_eq_true b4) ?_
                         refine At.run 3 rfl ?_; exact At.of (d9 (decide (bat a0 p ≤ 122)) j) ⟨rfl, rfl, rfl, rfl, trivial⟩
                       ··refine At.know (t := 50) rfl (decide_eq_false b4) ?_
                         refine At.run 3 rfl ?_; exact At.of (d9 false j) ⟨rfl, rfl, rfl, rfl, trivial⟩
                   ··refine At.condF rfl (decide_eq_false a3) ?_
                     refine At.exit ?_; refine At.the ?_; refine At.the ?_; exact fun a w e hs => g5 () (bdn j d7) a w (e.sub trivial) hs
             ··rcases bite j with ⟨b5, j⟩ | ⟨b5, j⟩
               ··refine At.know (t := 35) rfl b5 ?_
                 refine At.run 3 rfl ?_; exact At.of (d6 true j) ⟨rfl, rfl, trivial⟩
               ··refine At.know (t := 35) rfl (bn b5) ?_
                 refine At.run 3 rfl ?_; exact At.of (d6 (bseq a0 ([110, 117] : Bs)) j) ⟨rfl, rfl, trivial⟩
           ··rcases bite j with ⟨b6, j⟩ | ⟨b6, j⟩
             ··refine At.know (t := 31) rfl b6 ?_
               refine At.run 3 rfl ?_; exact At.of (d5 true j) ⟨rfl, rfl, trivial⟩
             ··refine At.know (t := 31) rfl (bn b6) ?_
               refine At.run 3 rfl ?_; exact At.of (d5 (bseq a0 ([109, 117] : Bs)) j) ⟨rfl, rfl, trivial⟩
         ··rcases bite j with ⟨b7, j⟩ | ⟨b7, j⟩
           ··refine At.know (t := 27) rfl b7 ?_
             refine At.run 3 rfl ?_; exact At.of (d4 true j) ⟨rfl, rfl, trivial⟩
           ··refine At.know (t := 27) rfl (bn b7) ?_
             refine At.run 3 rfl ?_; exact At.of (d4 (bseq a0 ([102, 102] : Bs)) j) ⟨rfl, rfl, trivial⟩
       ··rcases bite j with ⟨b8, j⟩ | ⟨b8, j⟩
         ··refine At.know (t := 23) rfl b8 ?_
           refine At.run 3 rfl ?_; exact At.of (d3 true j) ⟨rfl, rfl, trivial⟩
         ··refine At.know (t := 23) rfl (bn b8) ?_
           refine At.run 3 rfl ?_; exact At.of (d3 (bseq a0 ([116, 116] : Bs)) j) ⟨rfl, rfl, trivial⟩
     ··rcases bite j with ⟨b9, j⟩ | ⟨b9, j⟩
       ··refine At.know (t := 18) rfl b9 ?_
         refine At.run 4 rfl ?_; exact At.of (d2 true j) ⟨rfl, rfl, trivial⟩
       ··refine At.know (t := 18) rfl (bn b9) ?_
         refine At.run 1 rfl ?_; obtain ⟨e6, j⟩ := bnone j; refine At.y (Y.ixStr rfl rfl rfl rfl e6.1 e6.2) rfl rfl rfl (At.run 2 rfl ?_); exact At.of (d2 (decide (122 < bat a0 0)) j) ⟨rfl, rfl, trivial⟩
   ··rcases bite j with ⟨c8, j⟩ | ⟨c8, j⟩
     ··refine At.know (t := 13) rfl c8 ?_
       refine At.run 4 rfl ?_; exact At.of (d1 true j) ⟨rfl, rfl, trivial⟩
     ··refine At.know (t := 13) rfl (bn c8) ?_
       refine At.run 1 rfl ?_; obtain ⟨e7, j⟩ := bnone j; refine At.y (Y.ixStr rfl rfl rfl rfl e7.1 e7.2) rfl rfl rfl (At.run 2 rfl ?_); exact At.of (d1 (decide (bat a0 0 < 97)) j) ⟨rfl, rfl, trivial⟩
 ··rcases bite j with ⟨c9, j⟩ | ⟨c9, j⟩
   ··refine At.know (t := 8) rfl (decide_eq_true c9) ?_
     refine At.run 4 rfl ?_; exact At.of (d0 true j) ⟨rfl, rfl, trivial⟩
   ··refine At.know (t := 8) rfl (decide_eq_false c9) ?_
     refine At.run 4 rfl ?_; exact At.of (d0 (decide (8 < (a0.length : Int))) j) ⟨rfl, rfl, trivial⟩

noncomputable def Q51.l0b (a0 : List Bs) (p : Int) : Option ((Int) ⊕ ((Unit) ⊕ (Bool))) :=
 if p < (a0.length : Int) then
 if (0 : Int) ≤ p ∧ p < (a0.length : Int) then
 (Q50.f (gt a0 p)).bind fun q =>
 jn (
 if q = true then
 jn (
 if 0 < p then
 if (0 : Int) ≤ IntKind.i64.wrap (p - 1) ∧ IntKind.i64.wrap (p - 1) < (a0.length : Int) then
 some (.inl (true, !(bslt (gt a0 (IntKind.i64.wrap (p - 1))) (gt a0 p))))
 else none
 else
 some (.inl (false, false))) (fun (s_ : Bool × Bool) =>
 some (.inl s_.2))
 else
 some (.inl true)) (fun (u : Bool) =>
 if u = true then
 upL (some false)
 else
 nx (IntKind.i64.wrap (p + 1)))
 else none
 else
 dn (.inl ())
noncomputable def Q51.l0 (a0 : List Bs) (p : Int) : Option ((Unit) ⊕ (Bool)) := iter (fun t_ : Int => Q51.l0b a0 t_) p
noncomputable def Q51.f (a0 : List Bs) : Option Bool :=
 jn (Q51.l0 a0 0) (fun (_ : Unit) =>
 some true)
theorem Q51.callee : Callee Tryz.prog 92 := ⟨_, Tryz.func92, by kernel_rfl, by kernel_rfl⟩
theorem Q51.spec {a0 : List Bs} (hr0 : RdS Fl.bs.rep R.heap A0 a0) (hn0 : a0.length = n0) (hc0 : n0 ≤ c0) {r : Bool} (j : Q51.f a0 = some r) :
 Spec Tryz.prog 92 [.slice A0 n0 c0] R (Fr) (fun v l' => v = .bool r ∧ Fr = l') := by
 subst hn0; refine Spec.of Tryz.func92 rfl rfl ?_; unfold Q51.f at j; have j := brun j; refine sR 1 rfl (nT (At.seq (At.seq (At.region ?_)))); refine At.run 1 rfl (nT ?_); refine At.block ?_; obtain ⟨a2, a3, a4, j⟩ := bjoin j; obtain ⟨E, I, V⟩ := bsome j; clear j; unfold Q51.l0 at I; obtain ⟨J, B⟩ := Q12.1 I; clear I; refine At.loopJ (X := Int) (Y := Unit) (e0 := 0) (fun p => [(0, .slice A0 a0.length c0), (3, i6 p)]) (fun p => Fr) (fun m_ => fun p => iterN (fun t_ : Int => Q51.l0b a0 t_) m_ p = some E) J 0 B (fun _ => []) (fun _ => Fr) (fun _ => a2 (.inl ()) = some r) (fun a w e hs => ⟨e.sub ⟨rfl, rfl, trivial⟩, (by exact hs)⟩) ?_ (fun a5 => ?_)
 ·rintro _ j; have j := (a3 _).symm.trans j
  ·refine At.ibx ?_; refine At.thn (sR 1 rfl (nT (At.ret ?_))); cases bret j; exact At.res (.inl rfl) rfl rfl ⟨rfl, rfl⟩
 ·clear B J; rintro J p B; obtain ⟨a6, f_, a7, hf_, j⟩ := bit B; clear B; have j : (Q51.l0b a0 p).bind _ = some E := j; unfold Q51.l0b at j
  ·refine At.seq (sR 4 rfl (nT ?_)); rcases bite j with ⟨L, j⟩ | ⟨L, j⟩
   ··refine At.condT rfl (decide_eq_true L) ?_
     refine At.skip (At.thn (At.seq ?_)); refine At.block ?_; refine sR 2 rfl ?_; obtain ⟨u, j⟩ := bnone j; refine At.y (Y.ixRd hr0 rfl rfl rfl rfl rfl rfl rfl u.1 u.2) rfl rfl rfl (At.y (Y.ldFl hr0 rfl (q := 0) rfl rfl u.1 u.2 rfl rfl rfl) rfl rfl rfl ?_); obtain ⟨b8, a8, j⟩ := bbind j; refine At.call rfl Q50.callee rfl rfl rfl (Q50.spec a8) ?_; rintro _ _ ⟨rfl, rfl⟩; refine At.run 1 rfl (nT (At.seq ?_)); refine At.quiet (by kernel_rfl) ?_; refine At.Quiet.run 3 rfl ?_; obtain ⟨a9, b4, b9, j⟩ := bjoin j; refine At.Quiet.joinO 15 (X := Bool) (fun D => [(0, .slice A0 a0.length c0), (3, i6 p), (33, .bool D)]) (fun D => Fr) (fun D => a9 (.inl D) = some E) ?_ (fun Z => ?_)
     ·rintro D j; have j := (b4 _).symm.trans j
      ·refine At.Quiet.nil (At.thn ?_); rcases bite j with ⟨N, j⟩ | ⟨N, j⟩
       ··refine At.condT rfl N ?_
         refine sR 1 rfl (nT (At.ret ?_)); refine At.ibr ?_; refine At.thr ?_; have j := bupL a4 V j; refine At.thr ?_; refine At.ibr ?_; refine At.thr ?_; cases bret j; exact At.res (.inl rfl) rfl rfl ⟨rfl, rfl⟩
       ··refine At.condF rfl (bn N) ?_
         refine At.skip ?_; refine At.ibn ?_; refine At.thn (At.region (At.run 3 rfl (At.nil ?_))); have j := bnx hf_ j; exact fun a w e hs => ⟨a6, (IntKind.i64.wrap (p + 1)), a7, j, e.sub ⟨rfl, rfl, trivial⟩, hs⟩
     ··rcases bite j with ⟨O, j⟩ | ⟨O, j⟩
       ··refine At.Quiet.know (t := 18) rfl (nf O) ?_
         refine At.Quiet.run 3 rfl ?_; obtain ⟨b5, b6, c8, j⟩ := bjoin j; refine At.Quiet.joinO 11 (X := Bool × Bool) (fun s_ => [(0, .slice A0 a0.length c0), (3, i6 p), (18, .bool false), (19, i6 p), (20, .bool (decide (0 < p))), (21, .bool s_.1), (32, .bool s_.2)]) (fun s_ => Fr) (fun s_ => b5 (.inl (s_.1, s_.2)) = some E) ?_ (fun a1 => ?_)
         ·rintro ⟨c9, b7⟩ j; have j := (b6 _).symm.trans j
          ·refine At.Quiet.run 1 rfl ?_; exact At.Quiet.of (Z b7 j) ⟨rfl, rfl, rfl, trivial⟩
         ··rcases bite j with ⟨U, j⟩ | ⟨U, j⟩
           ··refine At.Quiet.know (t := 21) rfl (decide_eq_true U) ?_
             refine At.Quiet.run 3 rfl ?_; obtain ⟨G, j⟩ := bnone j; refine At.Quiet.y (Y.ixRd hr0 rfl rfl rfl rfl rfl rfl rfl G.1 G.2) rfl rfl rfl ?_; refine At.Quiet.y (Y.ldFl hr0 rfl (q := 0) rfl rfl G.1 G.2 rfl rfl rfl) rfl rfl rfl ?_; refine At.Quiet.run 2 rfl ?_; refine At.Quiet.y (Y.ixRd hr0 rfl rfl rfl rfl rfl rfl rfl u.1 u.2) rfl rfl rfl ?_; refine At.Quiet.y (Y.ldFl hr0 rfl (q := 0) rfl rfl u.1 u.2 rfl rfl rfl) rfl rfl rfl ?_; refine At.Quiet.run 2 rfl ?_; exact At.Quiet.of (a1 (true, !(bslt (gt a0 (IntKind.i64.wrap (p - 1))) (gt a0 p))) j) ⟨rfl, rfl, rfl, rfl, rfl, rfl, rfl, trivial⟩
           ··refine At.Quiet.know (t := 21) rfl (decide_eq_false U) ?_
             refine At.Quiet.run 11 rfl ?_; exact At.Quiet.of (a1 (false, false) j) ⟨rfl, rfl, rfl, rfl, rfl, rfl, rfl, trivial⟩
       ··refine At.Quiet.know (t := 18) rfl (nt (bn O)) ?_
         refine At.Quiet.run 15 rfl ?_; exact At.Quiet.of (Z true j) ⟨rfl, rfl, rfl, trivial⟩
   ··refine At.condF rfl (decide_eq_false L) ?_
     refine At.exit ?_; refine At.the ?_; refine At.the ?_; exact fun a w e hs => a5 () (bdn j V) a w (e.sub trivial) hs

noncomputable def Q112.f (p q D u B E : Int) : Option Bool :=
 if p = u then
 if q = B then
 some (decide (D < E))
 else
 some (decide (q < B))
 else
 some (decide (p < u))
theorem Q112.callee : Callee Tryz.prog 139 := ⟨_, Tryz.func139, by kernel_rfl, by kernel_rfl⟩
theorem Q112.spec {p q u B D E : Int} {r : Bool} (j : Q112.f p q u B D E = some r) :
 Spec Tryz.prog 139 [.agg #[i6 p, i6 q, i6 u], .agg #[i6 B, i6 D, i6 E]] R (Fr) (fun v l' => v = .bool r ∧ Fr = l') := by
 refine Spec.of Tryz.func139 rfl rfl ?_; unfold Q112.f at j; have j := brun j; refine At.seq (At.region ?_); refine At.box rfl rfl (cs := [i6 p, i6 q, i6 u]) rfl rfl (fun J => ?_); refine At.box rfl rfl (cs := [i6 B, i6 D, i6 E]) rfl rfl (fun L => ?_); refine At.run 1 rfl (nT (At.seq (sR 1 rfl (At.y (Y.load rfl rfl (.s .z) rfl rfl rfl) rfl rfl rfl ?_)))); refine At.run 1 rfl (At.y (Y.load rfl rfl .z rfl rfl rfl) rfl rfl rfl (At.run 1 rfl (nT ?_))); rcases bite j with ⟨G, j⟩ | ⟨G, j⟩
 ··refine At.condF rfl (nf (decide_eq_true G)) ?_
   refine At.skip (At.thn (At.seq (sR 1 rfl (At.y (Y.load rfl rfl (.s .z) rfl rfl rfl) rfl rfl rfl (At.run 1 rfl ?_))))); refine At.y (Y.load rfl rfl .z rfl rfl rfl) rfl rfl rfl (At.run 1 rfl (nT ?_)); rcases bite j with ⟨I, j⟩ | ⟨I, j⟩
   ··refine At.condF rfl (nf (decide_eq_true I)) ?_
     refine At.skip (At.thn (sR 1 rfl (At.y (Y.load rfl rfl (.s .z) rfl rfl rfl) rfl rfl rfl (At.run 1 rfl (At.y (Y.load rfl rfl .z rfl rfl rfl) rfl rfl rfl ?_))))); refine At.run 2 rfl (nT (At.ret (At.drop .z (At.drop .z ?_)))); cases bret j; exact At.res (.inl rfl) rfl rfl ⟨rfl, rfl⟩
   ··refine At.condT rfl (nt (decide_eq_false I)) ?_
     refine sR 1 rfl (At.y (Y.load rfl rfl (.s .z) rfl rfl rfl) rfl rfl rfl (At.run 1 rfl (At.y (Y.load rfl rfl .z rfl rfl rfl) rfl rfl rfl (At.run 2 rfl (At.nil ?_))))); refine At.thn (At.ret (At.thr (At.drop .z (At.drop .z ?_)))); cases bret j; exact At.res (.inl rfl) rfl rfl ⟨rfl, rfl⟩
 ··refine At.condT rfl (nt (decide_eq_false G)) ?_
   refine sR 1 rfl (At.y (Y.load rfl rfl (.s .z) rfl rfl rfl) rfl rfl rfl (At.run 1 rfl (At.y (Y.load rfl rfl .z rfl rfl rfl) rfl rfl rfl (At.run 2 rfl (At.nil ?_))))); refine At.thn (At.ret (At.thr (At.drop .z (At.drop .z ?_)))); cases bret j; exact At.res (.inl rfl) rfl rfl ⟨rfl, rfl⟩

noncomputable def Q30.l1b (q : List Bs) (u : List Bool) (p : Int) : Option ((Int) ⊕ ((Unit) ⊕ (Bool))) :=
 if p < ((List.replicate (q.length : Int).toNat (false : Bool)).length : Int) then
 if (0 : Int) ≤ p ∧ p < ((List.replicate (q.length : Int).toNat (false : Bool)).length : Int) then
 if gt u p = true then
 nx (IntKind.i64.wrap (p + 1))
 else
 upL (some false)
 else none
 else
 dn (.inl ())
noncomputable def Q30.l1 (p : List Bs) (q : List Bool) (u : Int) : Option ((Unit) ⊕ (Bool)) := iter (fun t_ : Int => Q30.l1b p q t_) u
noncomputable def Q30.l0b (u : Int) (B : List Bs) (q : List Q0) (D : List Bool) (p : Int) : Option (((List Bool) × Int) ⊕ (((List Bool)) ⊕ (Bool))) :=
 if p < (q.length : Int) then
 if (0 : Int) ≤ p ∧ p < (q.length : Int) then
 jn (
 if (gt q p).From < 0 then
 some (.inl true)
 else
 some (.inl (decide (u ≤ (gt q p).From)))) (fun (E : Bool) =>
 jn (
 if E = true then
 some (.inl true)
 else
 some (.inl (decide ((gt q p).To < 0)))) (fun (G : Bool) =>
 jn (
 if G = true then
 some (.inl true)
 else
 some (.inl (decide (u ≤ (gt q p).To)))) (fun (I : Bool) =>
 jn (
 if I = true then
 some (.inl true)
 else
 some (.inl (decide ((gt q p).Action < 0)))) (fun (J : Bool) =>
 jn (
 if J = true then
 some (.inl true)
 else
 some (.inl (decide ((B.length : Int) ≤ (gt q p).Action)))) (fun (L : Bool) =>
 if L = true then
 upL (some false)
 else
 if (0 : Int) ≤ (gt q p).Action ∧ (gt q p).Action < ((List.replicate (B.length : Int).toNat (false : Bool)).length : Int) then
 jn (
 if 0 < p then
 if (0 : Int) ≤ IntKind.i64.wrap (p - 1) ∧ IntKind.i64.wrap (p - 1) < (q.length : Int) then
 (Q112.f ((gt q (IntKind.i64.wrap (p - 1))).From) ((gt q (IntKind.i64.wrap (p - 1))).Action) ((gt q (IntKind.i64.wrap (p - 1))).To) ((gt q p).From) ((gt q p).Action) ((gt q p).To)).bind fun N =>
 some (.inl (!N))
 else none
 else
 some (.inl false)) (fun (O : Bool) =>
 if O = true then
 upL (some false)
 else
 nx ((st D ((gt q p).Action) true), IntKind.i64.wrap (p + 1)))
 else none)))))
 else none
 else
 dn (.inl D)
noncomputable def Q30.l0 (p : Int) (q : List Bs) (u : List Q0) (B : List Bool) (D : Int) : Option (((List Bool)) ⊕ (Bool)) := iter (fun t_ : (List Bool) × Int => Q30.l0b p q u t_.1 t_.2) (B, D)
noncomputable def Q30.f (q : Int) (p : List Bs) (u : List Q0) (D : List Q1) : Option Bool :=
 if (0 : Int) ≤ (p.length : Int) ∧ (1 : Int) * (p.length : Int) ≤ 281474976710656 then
 jn (Q30.l0 q p u (List.replicate (p.length : Int).toNat (false : Bool)) 0) (fun (B : List Bool) =>
 jn (Q30.l1 p B 0) (fun (_ : Unit) =>
 some true))
 else none
theorem Q30.callee : Callee Tryz.prog 93 := ⟨_, Tryz.func93, by kernel_rfl, by kernel_rfl⟩
theorem Q30.spec {G : Int} {p : List Bs} {B : List Q0} {V : List Q1} (hr0_1 : RdS Fl.bs.rep R.heap A0_1 p) (hn0_1 : p.length = n0_1) (hc0_1 : n0_1 ≤ c0_1) (hr0_2 : RdS Q0.fl.rep R.heap A0_2 B) (hn0_2 : B.length = n0_2) (hc0_2 : n0_2 ≤ c0_2) (hr0_3 : RdS Q1.rep R.heap A0_3 V) (hn0_3 : V.length = n0_3) (hc0_3 : n0_3 ≤ c0_3) {r : Bool} (j : Q30.f G p B V = some r) :
 Spec Tryz.prog 93 [.agg #[i6 G, .slice A0_1 n0_1 c0_1, .slice A0_2 n0_2 c0_2, .slice A0_3 n0_3 c0_3]] R (Fr) (fun v l' => v = .bool r ∧ Fr = l') := by
 subst hn0_1; subst hn0_2; subst hn0_3; refine Spec.of Tryz.func93 rfl rfl ?_; unfold Q30.f at j; have j := brun j; refine At.seq (At.region ?_); refine At.box rfl rfl (cs := [i6 G, .slice A0_1 p.length c0_1, .slice A0_2 B.length c0_2, .slice A0_3 V.length c0_3]) rfl rfl (fun I => ?_); refine At.run 1 rfl (nT (sR 1 rfl (At.y (Y.load rfl rfl .z rfl rfl rfl) rfl rfl rfl (At.run 1 rfl ?_)))); obtain ⟨e2, j⟩ := bnone j; refine At.make (F := Fl.bool) (z := false) rfl rfl rfl rfl rfl rfl rfl rfl rfl rfl e2.1 e2.2 (by decide) rfl (fun D E => ?_); refine At.run 1 rfl (nT (At.seq (sR 1 rfl (At.nil ?_)))); refine At.thn ?_; refine At.block ?_; obtain ⟨f2, f3, e3, j⟩ := bjoin j; obtain ⟨J, b7, b8⟩ := bsome j; clear j; unfold Q30.l0 at b7; obtain ⟨b9, Z⟩ := Q12.1 b7; clear b7; let T8 : HProp := pc I [i6 G, .slice A0_1 p.length c0_1, .slice A0_2 B.length c0_2, .slice A0_3 V.length c0_3] 26; refine At.loopJ (X := (List Bool) × Int) (Y := (List Bool)) (e0 := 0) (fun s_ => [(1, bp I), (3, .slice D ((List.replicate (p.length : Int).toNat (false : Bool)).length) E), (4, i6 s_.2)]) (fun s_ => row Fl.bool 4 D ((List.replicate (p.length : Int).toNat (false : Bool)).length) E s_.1 :: T8 :: Fr) (fun m_ => fun s_ => iterN (fun t_ : (List Bool) × Int => Q30.l0b G p B t_.1 t_.2) m_ (s_.1, s_.2) = some J) b9 ((List.replicate (p.length : Int).toNat (false : Bool)), 0) Z (fun L => [(3, .slice D ((List.replicate (p.length : Int).toNat (false : Bool)).length) E)]) (fun L => row Fl.bool 4 D ((List.replicate (p.length : Int).toNat (false : Bool)).length) E L :: T8 :: Fr) (fun L => f2 (.inl L) = some r) (fun a w e hs => ⟨e.sub ⟨rfl, rfl, rfl, trivial⟩, (by exact hs)⟩) ?_ (fun f4 => ?_)
 ·rintro L j; have j := (f3 _).symm.trans j
  ·refine At.ibx ?_; refine At.thn (At.seq (sR 1 rfl (nT ?_))); refine At.block ?_; obtain ⟨f5, f6, f7, j⟩ := bjoin j; obtain ⟨e4, c8, e5⟩ := bsome j; clear j; unfold Q30.l1 at c8; obtain ⟨c9, a0⟩ := Q12.1 c8; clear c8; let T9 : HProp := row Fl.bool 4 D ((List.replicate (p.length : Int).toNat (false : Bool)).length) E L; refine At.loopJ (X := Int) (Y := Unit) (e0 := 2) (fun N => [(3, .slice D ((List.replicate (p.length : Int).toNat (false : Bool)).length) E), (6, i6 N)]) (fun N => T9 :: T8 :: Fr) (fun m_ => fun N => iterN (fun t_ : Int => Q30.l1b p L t_) m_ N = some e4) c9 0 a0 (fun _ => []) (fun _ => T9 :: T8 :: Fr) (fun _ => f5 (.inl ()) = some r) (fun a w e hs => ⟨e.sub ⟨rfl, rfl, trivial⟩, (by exact hs)⟩) ?_ (fun f8 => ?_)
   ·rintro _ j; have j := (f6 _).symm.trans j
    ·refine At.ibx ?_; refine At.thn (sR 1 rfl (nT (At.ret (At.drop .z ?_)))); refine At.drop .z ?_; cases bret j; exact At.res (.inl rfl) rfl rfl ⟨rfl, rfl⟩
   ·clear a0 c9; rintro c9 N a0; obtain ⟨f9, f_, g0, hf_, j⟩ := bit a0; clear a0; have j : (Q30.l1b p L N).bind _ = some e4 := j; unfold Q30.l1b at j
    ·refine At.seq (sR 4 rfl (nT ?_)); rcases bite j with ⟨d0, j⟩ | ⟨d0, j⟩
     ··refine At.condT rfl (decide_eq_true d0) ?_
       refine At.skip (At.thn (At.seq ?_)); refine At.block ?_; refine sR 2 rfl ?_; obtain ⟨a9, j⟩ := bnone j; refine At.y (Y.ix .z rfl rfl rfl rfl rfl rfl a9.1 a9.2) rfl rfl rfl (At.y (Y.ld .z (q := 0) rfl rfl a9.1 a9.2 rfl rfl rfl) rfl rfl rfl (At.run 1 rfl (nT ?_))); rcases bite j with ⟨d1, j⟩ | ⟨d1, j⟩
       ··refine At.condF rfl (nf d1) ?_
         refine At.skip ?_; refine At.ibn ?_; refine At.thn (At.region (At.run 3 rfl (At.nil ?_))); have j := bnx hf_ j; exact fun a w e hs => ⟨f9, (IntKind.i64.wrap (N + 1)), g0, j, e.sub ⟨rfl, rfl, trivial⟩, hs⟩
       ··refine At.condT rfl (nt (bn d1)) ?_
         refine sR 1 rfl (nT (At.ret ?_)); refine At.ibr ?_; refine At.thr ?_; have j := bupL f7 e5 j; refine At.thr ?_; refine At.ibr ?_; refine At.thr (At.drop .z (At.drop .z ?_)); cases bret j; exact At.res (.inl rfl) rfl rfl ⟨rfl, rfl⟩
     ··refine At.condF rfl (decide_eq_false d0) ?_
       refine At.exit ?_; refine At.the ?_; refine At.the ?_; exact fun a w e hs => f8 () (bdn j e5) a w (e.sub trivial) hs
 ·clear Z b9; rintro b9 ⟨a1, u⟩ Z; obtain ⟨g1, f_, g2, hf_, j⟩ := bit Z; clear Z; have j : (Q30.l0b G p B a1 u).bind _ = some J := j; unfold Q30.l0b at j
  ·refine At.seq (sR 2 rfl (At.y (Y.load rfl rfl (.s .z) rfl rfl rfl) rfl rfl rfl (At.run 2 rfl (nT ?_)))); rcases bite j with ⟨d2, j⟩ | ⟨d2, j⟩
   ··refine At.condT rfl (decide_eq_true d2) ?_
     refine At.skip (At.thn (At.seq ?_)); refine At.block ?_; refine sR 1 rfl (At.y (Y.load rfl rfl (.s .z) rfl rfl rfl) rfl rfl rfl (At.run 1 rfl ?_)); obtain ⟨b4, j⟩ := bnone j; refine At.y (Y.ixRd hr0_2 rfl rfl rfl rfl rfl rfl rfl b4.1 b4.2) rfl rfl rfl (At.y (Y.ldFl hr0_2 rfl (q := 0) rfl rfl b4.1 b4.2 rfl rfl rfl) rfl rfl rfl ?_); refine At.alloc rfl rfl rfl (fun O => ?_); refine At.store rfl rfl rfl rfl .z rfl rfl rfl (.c (.c (.c .n))) ?_; refine nT (At.seq (sR 1 rfl (At.y (Y.load rfl rfl .z rfl rfl rfl) rfl rfl rfl (At.run 2 rfl ?_)))); obtain ⟨g3, g4, h8, j⟩ := bjoin j; let U : HProp := pc O [i6 ((gt B u).From), i6 ((gt B u).Action), i6 ((gt B u).To)] 35; let a2 : HProp := row Fl.bool 4 D ((List.replicate (p.length : Int).toNat (false : Bool)).length) E a1; refine At.joinO 6 (X := Bool) (fun a3 => [(1, bp I), (3, .slice D ((List.replicate (p.length : Int).toNat (false : Bool)).length) E), (4, i6 u), (5, bp O), (32, .bool a3)]) (fun a3 => U :: a2 :: T8 :: Fr) (fun a3 => g3 (.inl a3) = some J) ?_ (fun e6 => ?_)
     ·rintro a3 j; have j := (g4 _).symm.trans j
      ·refine At.run 1 rfl ?_; obtain ⟨g5, g6, h9, j⟩ := bjoin j; refine At.joinO 4 (X := Bool) (fun a4 => [(1, bp I), (3, .slice D ((List.replicate (p.length : Int).toNat (false : Bool)).length) E), (4, i6 u), (5, bp O), (37, .bool a4)]) (fun a4 => U :: a2 :: T8 :: Fr) (fun a4 => g5 (.inl a4) = some J) ?_ (fun e7 => ?_)
       ·rintro a4 j; have j := (g6 _).symm.trans j
        ·refine At.run 1 rfl ?_; obtain ⟨g7, g8, k1, j⟩ := bjoin j; refine At.joinO 6 (X := Bool) (fun a5 => [(1, bp I), (3, .slice D ((List.replicate (p.length : Int).toNat (false : Bool)).length) E), (4, i6 u), (5, bp O), (44, .bool a5)]) (fun a5 => U :: a2 :: T8 :: Fr) (fun a5 => g7 (.inl a5) = some J) ?_ (fun e8 => ?_)
         ·rintro a5 j; have j := (g8 _).symm.trans j
          ·refine At.run 1 rfl ?_; obtain ⟨g9, h0, k2, j⟩ := bjoin j; refine At.joinO 4 (X := Bool) (fun a6 => [(1, bp I), (3, .slice D ((List.replicate (p.length : Int).toNat (false : Bool)).length) E), (4, i6 u), (5, bp O), (49, .bool a6)]) (fun a6 => U :: a2 :: T8 :: Fr) (fun a6 => g9 (.inl a6) = some J) ?_ (fun e9 => ?_)
           ·rintro a6 j; have j := (h0 _).symm.trans j
            ·refine At.run 1 rfl ?_; obtain ⟨h1, h2, k3, j⟩ := bjoin j; refine At.joinO 7 (X := Bool) (fun a7 => [(1, bp I), (3, .slice D ((List.replicate (p.length : Int).toNat (false : Bool)).length) E), (4, i6 u), (5, bp O), (57, .bool a7)]) (fun a7 => U :: a2 :: T8 :: Fr) (fun a7 => h1 (.inl a7) = some J) ?_ (fun f0 => ?_)
             ·rintro a7 j; have j := (h2 _).symm.trans j
              ·refine nT ?_; rcases bite j with ⟨d3, j⟩ | ⟨d3, j⟩
               ··refine At.condT rfl d3 ?_
                 refine sR 1 rfl (nT (At.ret (At.thr ?_))); refine At.ibr ?_; refine At.thr ?_; have j := bupL e3 b8 j; refine At.thr ?_; refine At.ibr ?_; refine At.thr (At.drop .z (At.drop .z (At.drop .z ?_))); cases bret j; exact At.res (.inl rfl) rfl rfl ⟨rfl, rfl⟩
               ··refine At.condF rfl (bn d3) ?_
                 refine At.skip (At.thn (sR 2 rfl (At.y (Y.load rfl rfl .z rfl rfl rfl) rfl rfl rfl ?_))); obtain ⟨b5, j⟩ := bnone j; refine At.y (Y.ix (.s .z) rfl rfl rfl rfl rfl rfl b5.1 b5.2) rfl rfl rfl ?_; refine At.st rfl (.s .z) (q := 0) (z := true) rfl rfl rfl b5.1 b5.2 rfl rfl (.c .n) ?_; refine nT (At.seq ?_); refine At.quiet (by kernel_rfl) ?_; refine At.Quiet.run 3 rfl ?_; obtain ⟨h3, h4, k4, j⟩ := bjoin j; let h5 : HProp := row Fl.bool 4 D ((List.replicate (p.length : Int).toNat (false : Bool)).length) E (st a1 ((gt B u).Action) true); refine At.Quiet.joinO 10 (X := Bool) (fun a8 => [(1, bp I), (3, .slice D ((List.replicate (p.length : Int).toNat (false : Bool)).length) E), (4, i6 u), (74, .bool a8)]) (fun a8 => h5 :: U :: T8 :: Fr) (fun a8 => h3 (.inl a8) = some J) ?_ (fun f1 => ?_)
                 ·rintro a8 j; have j := (h4 _).symm.trans j
                  ·refine At.Quiet.nil (At.thn ?_); rcases bite j with ⟨d4, j⟩ | ⟨d4, j⟩
                   ··refine At.condT rfl d4 ?_
                     refine sR 1 rfl (nT (At.ret ?_)); refine At.ibr ?_; refine At.thr ?_; have j := bupL e3 b8 j; refine At.thr ?_; refine At.ibr ?_; refine At.thr (At.drop .z (At.drop .z (At.drop .z ?_))); cases bret j; exact At.res (.inl rfl) rfl rfl ⟨rfl, rfl⟩
                   ··refine At.condF rfl (bn d4) ?_
                     refine At.skip ?_; refine At.ibn ?_; refine At.thn (At.region (At.run 3 rfl (At.nil (At.drop (.s .z) ?_)))); have j := bnx hf_ j; exact fun a w e hs => ⟨g1, ((st a1 ((gt B u).Action) true), IntKind.i64.wrap (u + 1)), g2, j, e.sub ⟨rfl, rfl, rfl, trivial⟩, hs⟩
                 ··rcases bite j with ⟨d5, j⟩ | ⟨d5, j⟩
                   ··refine At.Quiet.know (t := 64) rfl (decide_eq_true d5) ?_
                     refine At.Quiet.run 1 rfl ?_; refine At.Quiet.y (Y.load rfl rfl (.s (.s .z)) rfl rfl rfl) rfl rfl rfl ?_; refine At.Quiet.run 2 rfl ?_; obtain ⟨b6, j⟩ := bnone j; refine At.Quiet.y (Y.ixRd hr0_2 rfl rfl rfl rfl rfl rfl rfl b6.1 b6.2) rfl rfl rfl ?_; refine At.Quiet.y (Y.ldFl hr0_2 rfl (q := 0) rfl rfl b6.1 b6.2 rfl rfl rfl) rfl rfl rfl ?_; refine At.Quiet.y (Y.load rfl rfl (.s .z) rfl rfl rfl) rfl rfl rfl ?_; obtain ⟨h6, h7, j⟩ := bbind j; refine At.Quiet.call rfl Q112.callee rfl rfl rfl (Q112.spec h7) (fun _ _ h_ => ⟨h_.1, fun _ hs => h_.2 ▸ hs⟩) ?_; refine At.Quiet.run 2 rfl ?_; exact At.Quiet.of (f1 (!h6) j) ⟨rfl, rfl, rfl, rfl, trivial⟩
                   ··refine At.Quiet.know (t := 64) rfl (decide_eq_false d5) ?_
                     refine At.Quiet.run 10 rfl ?_; exact At.Quiet.of (f1 false j) ⟨rfl, rfl, rfl, rfl, trivial⟩
             ··rcases bite j with ⟨d6, j⟩ | ⟨d6, j⟩
               ··refine At.know (t := 50) rfl d6 ?_
                 refine At.run 7 rfl ?_; exact At.of (f0 true j) ⟨rfl, rfl, rfl, rfl, rfl, trivial⟩
               ··refine At.know (t := 50) rfl (bn d6) ?_
                 refine At.run 1 rfl (At.y (Y.load rfl rfl .z rfl rfl rfl) rfl rfl rfl (At.run 1 rfl (At.y (Y.load rfl rfl (.s (.s .z)) rfl rfl rfl) rfl rfl rfl (At.run 3 rfl ?_)))); exact At.of (f0 (decide ((p.length : Int) ≤ (gt B u).Action)) j) ⟨rfl, rfl, rfl, rfl, rfl, trivial⟩
           ··rcases bite j with ⟨d7, j⟩ | ⟨d7, j⟩
             ··refine At.know (t := 45) rfl d7 ?_
               refine At.run 4 rfl ?_; exact At.of (e9 true j) ⟨rfl, rfl, rfl, rfl, rfl, trivial⟩
             ··refine At.know (t := 45) rfl (bn d7) ?_
               refine At.run 1 rfl (At.y (Y.load rfl rfl .z rfl rfl rfl) rfl rfl rfl (At.run 2 rfl ?_)); exact At.of (e9 (decide ((gt B u).Action < 0)) j) ⟨rfl, rfl, rfl, rfl, rfl, trivial⟩
         ··rcases bite j with ⟨d8, j⟩ | ⟨d8, j⟩
           ··refine At.know (t := 38) rfl d8 ?_
             refine At.run 6 rfl ?_; exact At.of (e8 true j) ⟨rfl, rfl, rfl, rfl, rfl, trivial⟩
           ··refine At.know (t := 38) rfl (bn d8) ?_
             refine At.run 1 rfl (At.y (Y.load rfl rfl .z rfl rfl rfl) rfl rfl rfl (At.run 1 rfl (At.y (Y.load rfl rfl (.s (.s .z)) rfl rfl rfl) rfl rfl rfl (At.run 2 rfl ?_)))); exact At.of (e8 (decide (G ≤ (gt B u).To)) j) ⟨rfl, rfl, rfl, rfl, rfl, trivial⟩
       ··rcases bite j with ⟨d9, j⟩ | ⟨d9, j⟩
         ··refine At.know (t := 33) rfl d9 ?_
           refine At.run 4 rfl ?_; exact At.of (e7 true j) ⟨rfl, rfl, rfl, rfl, rfl, trivial⟩
         ··refine At.know (t := 33) rfl (bn d9) ?_
           refine At.run 1 rfl (At.y (Y.load rfl rfl .z rfl rfl rfl) rfl rfl rfl (At.run 2 rfl ?_)); exact At.of (e7 (decide ((gt B u).To < 0)) j) ⟨rfl, rfl, rfl, rfl, rfl, trivial⟩
     ··rcases bite j with ⟨e1, j⟩ | ⟨e1, j⟩
       ··refine At.know (t := 26) rfl (decide_eq_true e1) ?_
         refine At.run 6 rfl ?_; exact At.of (e6 true j) ⟨rfl, rfl, rfl, rfl, rfl, trivial⟩
       ··refine At.know (t := 26) rfl (decide_eq_false e1) ?_
         refine At.run 1 rfl (At.y (Y.load rfl rfl .z rfl rfl rfl) rfl rfl rfl (At.run 1 rfl (At.y (Y.load rfl rfl (.s (.s .z)) rfl rfl rfl) rfl rfl rfl (At.run 2 rfl ?_)))); exact At.of (e6 (decide (G ≤ (gt B u).From)) j) ⟨rfl, rfl, rfl, rfl, rfl, trivial⟩
   ··refine At.condF rfl (decide_eq_false d2) ?_
     refine At.exit ?_; refine At.the ?_; refine At.the ?_; exact fun a w e hs => f4 a1 (bdn j b8) a w (e.sub ⟨rfl, trivial⟩) hs

noncomputable def Q27.l1b (B : Int) (q : List Q1) (u p : Int) : Option ((Int) ⊕ ((Unit) ⊕ (((List Bs) × Int) ⊕ (((List Bs)) ⊕ (Bool))))) :=
 if p < ((gt q u).States.length : Int) then
 if (0 : Int) ≤ p ∧ p < ((gt q u).States.length : Int) then
 jn (
 if gt ((gt q u).States) p < 0 then
 some (.inl true)
 else
 some (.inl (decide (B ≤ gt ((gt q u).States) p)))) (fun (D : Bool) =>
 jn (
 if D = true then
 some (.inl true)
 else
 jn (
 if 0 < p then
 if (0 : Int) ≤ IntKind.i64.wrap (p - 1) ∧ IntKind.i64.wrap (p - 1) < ((gt q u).States.length : Int) then
 some (.inl (true, decide (gt ((gt q u).States) p ≤ gt ((gt q u).States) (IntKind.i64.wrap (p - 1)))))
 else none
 else
 some (.inl (false, false))) (fun (s_ : Bool × Bool) =>
 some (.inl s_.2))) (fun (E : Bool) =>
 if E = true then
 upL (upL (some false))
 else
 nx (IntKind.i64.wrap (p + 1))))
 else none
 else
 dn (.inl ())
noncomputable def Q27.l1 (p : Int) (q : List Q1) (u B : Int) : Option ((Unit) ⊕ (((List Bs) × Int) ⊕ (((List Bs)) ⊕ (Bool)))) := iter (fun t_ : Int => Q27.l1b p q u t_) B
noncomputable def Q27.l0b (B : Int) (q : List Q1) (u : List Bs) (p : Int) : Option (((List Bs) × Int) ⊕ (((List Bs)) ⊕ (Bool))) :=
 if p < (q.length : Int) then
 if (0 : Int) ≤ p ∧ p < (q.length : Int) then
 if (u.length + ([((gt q p).Name)] : List Bs).length) * 16 ≤ 140737488355328 then
 jn (Q27.l1 B q p 0) (fun (_ : Unit) =>
 nx ((u ++ ([((gt q p).Name)] : List Bs)), IntKind.i64.wrap (p + 1)))
 else none
 else none
 else
 dn (.inl u)
noncomputable def Q27.l0 (p : Int) (q : List Q1) (u : List Bs) (B : Int) : Option (((List Bs)) ⊕ (Bool)) := iter (fun t_ : (List Bs) × Int => Q27.l0b p q t_.1 t_.2) (u, B)
noncomputable def Q27.f (p : Int) (q : List Bs) (B : List Q0) (u : List Q1) : Option Bool :=
 jn (
 if p < 1 then
 some (.inl true)
 else
 some (.inl (decide (24 < p)))) (fun (D : Bool) =>
 jn (
 if D = true then
 some (.inl true)
 else
 some (.inl (decide (8 < (q.length : Int))))) (fun (E : Bool) =>
 jn (
 if E = true then
 some (.inl true)
 else
 some (.inl (decide (8 < (u.length : Int))))) (fun (G : Bool) =>
 jn (
 if G = true then
 some (.inl true)
 else
 some (.inl (decide (200 < (B.length : Int))))) (fun (I : Bool) =>
 if I = true then
 some false
 else
 jn (Q27.l0 p u ([] : List Bs) 0) (fun (J : List Bs) =>
 (Q51.f J).bind fun L =>
 jn (
 if L = true then
 (Q51.f q).bind fun N =>
 some (.inl N)
 else
 some (.inl false)) (fun (O : Bool) =>
 jn (
 if O = true then
 (Q30.f p q B u).bind fun U =>
 some (.inl U)
 else
 some (.inl false)) (fun (V : Bool) =>
 some V)))))))
theorem Q27.callee : Callee Tryz.prog 67 := ⟨_, Tryz.func67, by kernel_rfl, by kernel_rfl⟩
theorem Q27.spec {L : Int} {V : List Bs} {Z : List Q0} {p : List Q1} (hr0_1 : RdS Fl.bs.rep R.heap A0_1 V) (hn0_1 : V.length = n0_1) (hc0_1 : n0_1 ≤ c0_1) (hr0_2 : RdS Q0.fl.rep R.heap A0_2 Z) (hn0_2 : Z.length = n0_2) (hc0_2 : n0_2 ≤ c0_2) (hr0_3 : RdS Q1.rep R.heap A0_3 p) (hn0_3 : p.length = n0_3) (hc0_3 : n0_3 ≤ c0_3) {r : Bool} (j : Q27.f L V Z p = some r) :
 Spec Tryz.prog 67 [.agg #[i6 L, .slice A0_1 n0_1 c0_1, .slice A0_2 n0_2 c0_2, .slice A0_3 n0_3 c0_3]] R (Fr) (fun v l' => v = .bool r ∧ Fr = l') := by
 subst hn0_1; subst hn0_2; subst hn0_3; refine Spec.of Tryz.func67 rfl rfl ?_; unfold Q27.f at j; have j := brun j; refine At.seq (At.region ?_); refine At.box rfl rfl (cs := [i6 L, .slice A0_1 V.length c0_1, .slice A0_2 Z.length c0_2, .slice A0_3 p.length c0_3]) rfl rfl (fun D => ?_); refine At.run 1 rfl (nT (At.seq (sR 1 rfl (At.y (Y.load rfl rfl .z rfl rfl rfl) rfl rfl rfl ?_)))); refine At.run 2 rfl ?_; obtain ⟨f8, f9, o0, j⟩ := bjoin j; let E : HProp := pc D [i6 L, .slice A0_1 V.length c0_1, .slice A0_2 Z.length c0_2, .slice A0_3 p.length c0_3] 26; refine At.joinO 4 (X := Bool) (fun a0 => [(1, bp D), (14, .bool a0)]) (fun a0 => E :: Fr) (fun a0 => f8 (.inl a0) = some r) ?_ (fun e7 => ?_)
 ·rintro a0 j; have j := (f9 _).symm.trans j
  ·refine At.run 1 rfl ?_; obtain ⟨g0, g1, o7, j⟩ := bjoin j; refine At.joinO 5 (X := Bool) (fun a1 => [(1, bp D), (20, .bool a1)]) (fun a1 => E :: Fr) (fun a1 => g0 (.inl a1) = some r) ?_ (fun e8 => ?_)
   ·rintro a1 j; have j := (g1 _).symm.trans j
    ·refine At.run 1 rfl ?_; obtain ⟨g2, g3, o8, j⟩ := bjoin j; refine At.joinO 5 (X := Bool) (fun a2 => [(1, bp D), (26, .bool a2)]) (fun a2 => E :: Fr) (fun a2 => g2 (.inl a2) = some r) ?_ (fun e9 => ?_)
     ·rintro a2 j; have j := (g3 _).symm.trans j
      ·refine At.run 1 rfl ?_; obtain ⟨g4, g5, o9, j⟩ := bjoin j; refine At.joinO 5 (X := Bool) (fun a3 => [(1, bp D), (32, .bool a3)]) (fun a3 => E :: Fr) (fun a3 => g4 (.inl a3) = some r) ?_ (fun f0 => ?_)
       ·rintro a3 j; have j := (g5 _).symm.trans j
        ·refine nT ?_; rcases bite j with ⟨c8, j⟩ | ⟨c8, j⟩
         ··refine At.condT rfl c8 ?_
           refine sR 1 rfl (nT (At.ret (At.thr (At.drop .z ?_)))); cases bret j; exact At.res (.inl rfl) rfl rfl ⟨rfl, rfl⟩
         ··refine At.condF rfl (bn c8) ?_
           refine At.skip (At.thn (sR 1 rfl (nT (At.seq ?_)))); refine sR 1 rfl (nT ?_); refine At.block ?_; obtain ⟨g6, g7, g8, j⟩ := bjoin j; obtain ⟨c9, d0, f1⟩ := bsome j; clear j; unfold Q27.l0 at d0; obtain ⟨d1, a4⟩ := Q12.1 d0; clear d0; refine At.nilRow Fl.bs 9 ?_; refine At.loopJ (X := (List Bs) × Int × Nat × (Option Addr) × Nat) (Y := (List Bs) × Nat × (Option Addr) × Nat) (e0 := 0) (fun s_ => [(1, bp D), (3, .slice s_.2.2.2.1 s_.2.2.1 s_.2.2.2.2), (4, i6 s_.2.1)]) (fun s_ => row Fl.bs 9 s_.2.2.2.1 s_.2.2.1 s_.2.2.2.2 s_.1 :: E :: Fr) (fun m_ => fun s_ => iterN (fun t_ : (List Bs) × Int => Q27.l0b L p t_.1 t_.2) m_ (s_.1, s_.2.1) = some c9 ∧ s_.1.length = s_.2.2.1) d1 (([] : List Bs), 0, 0, none, 0) ⟨a4, rfl⟩ (fun s_ => [(1, bp D), (3, .slice s_.2.2.1 s_.2.1 s_.2.2.2)]) (fun s_ => row Fl.bs 9 s_.2.2.1 s_.2.1 s_.2.2.2 s_.1 :: E :: Fr) (fun s_ => g6 (.inl s_.1) = some r ∧ s_.1.length = s_.2.1) (fun a w e hs => ⟨e.sub ⟨rfl, rfl, rfl, trivial⟩, (by exact hs)⟩) ?_ (fun g9 => ?_)
           ·rintro ⟨h0, h1, p0, p1⟩ ⟨j, h2⟩; obtain rfl : h0.length = h1 := h2; have j := (g7 _).symm.trans j
            ·refine At.ibx ?_; refine At.thn (sR 1 rfl ?_); refine At.freeze .z fun p2 h3 h4 h5 b6 h6 => ?_; obtain ⟨p3, h7, j⟩ := bbind j; refine At.call rfl Q51.callee rfl rfl rfl (Q51.spec h3 h4 h5 h7) ?_; rintro _ _ ⟨rfl, rfl⟩; refine At.run 1 rfl ?_; obtain ⟨h8, h9, p4, j⟩ := bjoin j; refine At.joinO 4 (X := Bool) (fun a5 => [(1, bp D), (97, .bool a5)]) (fun a5 => E :: Fr) (fun a5 => h8 (.inl a5) = some r) ?_ (fun f2 => ?_)
             ·rintro a5 j; have j := (h9 _).symm.trans j
              ·refine At.run 1 rfl ?_; obtain ⟨k1, k2, p5, j⟩ := bjoin j; refine At.joinO 3 (X := Bool) (fun a6 => [(101, .bool a6)]) (fun a6 => E :: Fr) (fun a6 => k1 (.inl a6) = some r) ?_ (fun f3 => ?_)
               ·rintro a6 j; have j := (k2 _).symm.trans j
                ·refine At.run 1 rfl (nT (At.ret ?_)); refine At.thaw h6 ?_; refine At.drop .z (At.drop .z ?_); cases bret j; exact At.res (.inl rfl) rfl rfl ⟨rfl, rfl⟩
               ··rcases bite j with ⟨d2, j⟩ | ⟨d2, j⟩
                 ··refine At.know (t := 98) rfl d2 ?_
                   refine At.y (Y.load rfl rfl .z rfl rfl rfl) rfl rfl rfl ?_; obtain ⟨k3, k4, j⟩ := bbind j; refine At.call rfl Q30.callee rfl rfl rfl (Q30.spec (RdS.mono b6 hr0_1) rfl hc0_1 (RdS.mono b6 hr0_2) rfl hc0_2 (RdS.mono b6 hr0_3) rfl hc0_3 k4) ?_; rintro _ _ ⟨rfl, rfl⟩; refine At.run 1 rfl ?_; exact At.of (f3 k3 j) ⟨rfl, trivial⟩
                 ··refine At.know (t := 98) rfl (bn d2) ?_
                   refine At.run 3 rfl ?_; exact At.of (f3 false j) ⟨rfl, trivial⟩
             ··rcases bite j with ⟨d3, j⟩ | ⟨d3, j⟩
               ··refine At.know (t := 93) rfl d3 ?_
                 refine At.run 1 rfl (At.y (Y.load rfl rfl .z rfl rfl rfl) rfl rfl rfl ?_); obtain ⟨k5, k6, j⟩ := bbind j; refine At.call rfl Q51.callee rfl rfl rfl (Q51.spec (RdS.mono b6 hr0_1) rfl hc0_1 k6) ?_; rintro _ _ ⟨rfl, rfl⟩; refine At.run 1 rfl ?_; exact At.of (f2 k5 j) ⟨rfl, rfl, trivial⟩
               ··refine At.know (t := 93) rfl (bn d3) ?_
                 refine At.run 4 rfl ?_; exact At.of (f2 false j) ⟨rfl, rfl, trivial⟩
           ·clear a4 d1; rintro d1 ⟨G, u, k7, k8, k9⟩ ⟨a4, m0⟩; obtain rfl : G.length = k7 := m0; obtain ⟨m1, f_, m2, hf_, j⟩ := bit a4; clear a4; have j : (Q27.l0b L p G u).bind _ = some c9 := j; unfold Q27.l0b at j
            ·refine At.seq (sR 2 rfl (At.y (Y.load rfl rfl (.s .z) rfl rfl rfl) rfl rfl rfl (At.run 2 rfl (nT ?_)))); rcases bite j with ⟨d4, j⟩ | ⟨d4, j⟩
             ··refine At.condT rfl (decide_eq_true d4) ?_
               refine At.skip (At.thn (At.seq ?_)); refine At.block ?_; refine sR 2 rfl (At.y (Y.load rfl rfl (.s .z) rfl rfl rfl) rfl rfl rfl (At.run 1 rfl ?_)); obtain ⟨I, j⟩ := bnone j; refine At.y (Y.ixRd hr0_3 rfl rfl rfl rfl rfl rfl rfl I.1 I.2) rfl rfl rfl ?_; refine At.y (Y.fa (RdS.some_ hr0_3 rfl I.1 I.2) rfl rfl rfl rfl rfl rfl) rfl rfl rfl ?_; refine At.y (Y.ldPrj Q1.prj_Name hr0_3 rfl rfl rfl I.1 I.2 rfl rfl) rfl rfl rfl ?_; refine At.lit rfl (xo := [.tmp 46]) (ys := ([((gt p u).Name)] : List Bs)) Fl.bs rfl rfl rfl rfl rfl rfl rfl rfl rfl rfl rfl (fun p6 p7 => ?_); obtain ⟨m3, j⟩ := bnone j; refine At.append rfl (.s .z) (Src.own .z (by simp)) rfl rfl rfl rfl rfl rfl rfl rfl m3 (by decide) rfl (fun O U => ?_); refine At.drop (.s .z) (At.run 1 rfl (nT (sR 1 rfl (At.y (Y.load rfl rfl (.s .z) rfl rfl rfl) rfl rfl rfl ?_)))); refine At.run 1 rfl (At.y (Y.ixRd hr0_3 rfl rfl rfl rfl rfl rfl rfl I.1 I.2) rfl rfl rfl ?_); refine At.y (Y.fa (RdS.some_ hr0_3 rfl I.1 I.2) rfl rfl rfl rfl rfl rfl) rfl rfl rfl ?_; obtain ⟨b7, b8, p8, N, m4⟩ := RdS.prjSl (P := Tryz.prog) Q1.prj_States hr0_3 (Sub.refl _) rfl I.1 I.2; refine At.y (m4 rfl rfl rfl rfl) rfl rfl rfl ?_; refine At.run 1 rfl (nT (sR 1 rfl (nT ?_))); refine At.block ?_; obtain ⟨m5, m6, m7, j⟩ := bjoin j; obtain ⟨a7, d5, f4⟩ := bsome j; clear j; unfold Q27.l1 at d5; obtain ⟨d6, a8⟩ := Q12.1 d5; clear d5; let a9 : HProp := row Fl.bs 9 O ((G ++ ([((gt p u).Name)] : List Bs)).length) U (G ++ ([((gt p u).Name)] : List Bs)); refine At.loopJ (X := Int) (Y := Unit) (e0 := 2) (fun B => [(1, bp D), (3, .slice O ((G ++ ([((gt p u).Name)] : List Bs)).length) U), (4, i6 u), (5, .slice b7 ((gt p u).States.length) b8), (6, i6 B)]) (fun B => a9 :: E :: Fr) (fun m_ => fun B => iterN (fun t_ : Int => Q27.l1b L p u t_) m_ B = some a7) d6 0 a8 (fun _ => [(1, bp D), (3, .slice O ((G ++ ([((gt p u).Name)] : List Bs)).length) U), (4, i6 u)]) (fun _ => a9 :: E :: Fr) (fun _ => m5 (.inl ()) = some c9) (fun a w e hs => ⟨e.sub ⟨rfl, rfl, rfl, rfl, rfl, trivial⟩, (by exact hs)⟩) ?_ (fun m8 => ?_)
               ·rintro _ j; have j := (m6 _).symm.trans j
                ·refine At.ibx ?_; refine At.ibn ?_; refine At.thn (At.region (At.run 3 rfl (At.nil ?_))); have j := bnx hf_ j; exact fun a w e hs => ⟨m1, ((G ++ ([((gt p u).Name)] : List Bs)), IntKind.i64.wrap (u + 1), (G ++ ([((gt p u).Name)] : List Bs)).length, O, U), m2, ⟨j, rfl⟩, e.sub ⟨rfl, rfl, rfl, trivial⟩, hs⟩
               ·clear a8 d6; rintro d6 B a8; obtain ⟨m9, f_, n2, hf_, j⟩ := bit a8; clear a8; have j : (Q27.l1b L p u B).bind _ = some a7 := j; unfold Q27.l1b at j
                ·refine At.seq (sR 4 rfl (nT ?_)); rcases bite j with ⟨d7, j⟩ | ⟨d7, j⟩
                 ··refine At.condT rfl (decide_eq_true d7) ?_
                   refine At.skip (At.thn (At.seq ?_)); refine At.block ?_; refine At.seq ?_; refine At.quiet (by kernel_rfl) ?_; refine At.Quiet.run 2 rfl ?_; obtain ⟨J, j⟩ := bnone j; refine At.Quiet.y (Y.ixRd N rfl rfl rfl rfl rfl rfl rfl J.1 J.2) rfl rfl rfl ?_; refine At.Quiet.y (Y.ldFl N rfl (q := 0) rfl rfl J.1 J.2 rfl rfl rfl) rfl rfl rfl ?_; refine At.Quiet.run 2 rfl ?_; obtain ⟨n3, n4, p9, j⟩ := bjoin j; refine At.Quiet.joinO 8 (X := Bool) (fun b4 => [(1, bp D), (3, .slice O ((G ++ ([((gt p u).Name)] : List Bs)).length) U), (4, i6 u), (5, .slice b7 ((gt p u).States.length) b8), (6, i6 B), (74, .bool b4)]) (fun b4 => a9 :: E :: Fr) (fun b4 => n3 (.inl b4) = some a7) ?_ (fun f5 => ?_)
                   ·rintro b4 j; have j := (n4 _).symm.trans j
                    ·refine At.Quiet.run 1 rfl ?_; obtain ⟨n5, n6, q0, j⟩ := bjoin j; refine At.Quiet.joinO 15 (X := Bool) (fun b5 => [(1, bp D), (3, .slice O ((G ++ ([((gt p u).Name)] : List Bs)).length) U), (4, i6 u), (5, .slice b7 ((gt p u).States.length) b8), (6, i6 B), (90, .bool b5)]) (fun b5 => a9 :: E :: Fr) (fun b5 => n5 (.inl b5) = some a7) ?_ (fun f6 => ?_)
                     ·rintro b5 j; have j := (n6 _).symm.trans j
                      ·refine At.Quiet.nil (At.thn ?_); rcases bite j with ⟨d8, j⟩ | ⟨d8, j⟩
                       ··refine At.condT rfl d8 ?_
                         refine sR 1 rfl (nT (At.ret ?_)); refine At.ibr ?_; refine At.thr ?_; have j := bupL m7 f4 j; refine At.thr ?_; refine At.ibr ?_; refine At.ibr ?_; refine At.thr ?_; have j := bupL g8 f1 j; refine At.thr ?_; refine At.ibr ?_; refine At.thr (At.drop .z (At.drop .z ?_)); cases bret j; exact At.res (.inl rfl) rfl rfl ⟨rfl, rfl⟩
                       ··refine At.condF rfl (bn d8) ?_
                         refine At.skip ?_; refine At.ibn ?_; refine At.thn (At.region (At.run 3 rfl (At.nil ?_))); have j := bnx hf_ j; exact fun a w e hs => ⟨m9, (IntKind.i64.wrap (B + 1)), n2, j, e.sub ⟨rfl, rfl, rfl, rfl, rfl, trivial⟩, hs⟩
                     ··rcases bite j with ⟨d9, j⟩ | ⟨d9, j⟩
                       ··refine At.Quiet.know (t := 75) rfl d9 ?_
                         refine At.Quiet.run 15 rfl ?_; exact At.Quiet.of (f6 true j) ⟨rfl, rfl, rfl, rfl, rfl, rfl, trivial⟩
                       ··refine At.Quiet.know (t := 75) rfl (bn d9) ?_
                         refine At.Quiet.run 3 rfl ?_; obtain ⟨n7, n8, q2, j⟩ := bjoin j; refine At.Quiet.joinO 11 (X := Bool × Bool) (fun s_ => [(1, bp D), (3, .slice O ((G ++ ([((gt p u).Name)] : List Bs)).length) U), (4, i6 u), (5, .slice b7 ((gt p u).States.length) b8), (6, i6 B), (75, .bool false), (76, i6 B), (77, .bool (decide (0 < B))), (78, .bool s_.1), (89, .bool s_.2)]) (fun s_ => a9 :: E :: Fr) (fun s_ => n7 (.inl (s_.1, s_.2)) = some a7) ?_ (fun f7 => ?_)
                         ·rintro ⟨q3, n9⟩ j; have j := (n8 _).symm.trans j
                          ·refine At.Quiet.run 1 rfl ?_; exact At.Quiet.of (f6 n9 j) ⟨rfl, rfl, rfl, rfl, rfl, rfl, trivial⟩
                         ··rcases bite j with ⟨e1, j⟩ | ⟨e1, j⟩
                           ··refine At.Quiet.know (t := 78) rfl (decide_eq_true e1) ?_
                             refine At.Quiet.run 3 rfl ?_; obtain ⟨b9, j⟩ := bnone j; refine At.Quiet.y (Y.ixRd N rfl rfl rfl rfl rfl rfl rfl b9.1 b9.2) rfl rfl rfl ?_; refine At.Quiet.y (Y.ldFl N rfl (q := 0) rfl rfl b9.1 b9.2 rfl rfl rfl) rfl rfl rfl ?_; refine At.Quiet.run 2 rfl ?_; refine At.Quiet.y (Y.ixRd N rfl rfl rfl rfl rfl rfl rfl J.1 J.2) rfl rfl rfl ?_; refine At.Quiet.y (Y.ldFl N rfl (q := 0) rfl rfl J.1 J.2 rfl rfl rfl) rfl rfl rfl ?_; refine At.Quiet.run 2 rfl ?_; exact At.Quiet.of (f7 (true, decide (gt ((gt p u).States) B ≤ gt ((gt p u).States) (IntKind.i64.wrap (B - 1)))) j) ⟨rfl, rfl, rfl, rfl, rfl, rfl, rfl, rfl, rfl, rfl, trivial⟩
                           ··refine At.Quiet.know (t := 78) rfl (decide_eq_false e1) ?_
                             refine At.Quiet.run 11 rfl ?_; exact At.Quiet.of (f7 (false, false) j) ⟨rfl, rfl, rfl, rfl, rfl, rfl, rfl, rfl, rfl, rfl, trivial⟩
                   ··rcases bite j with ⟨e2, j⟩ | ⟨e2, j⟩
                     ··refine At.Quiet.know (t := 66) rfl (decide_eq_true e2) ?_
                       refine At.Quiet.run 8 rfl ?_; exact At.Quiet.of (f5 true j) ⟨rfl, rfl, rfl, rfl, rfl, rfl, trivial⟩
                     ··refine At.Quiet.know (t := 66) rfl (decide_eq_false e2) ?_
                       refine At.Quiet.run 2 rfl ?_; refine At.Quiet.y (Y.ixRd N rfl rfl rfl rfl rfl rfl rfl J.1 J.2) rfl rfl rfl ?_; refine At.Quiet.y (Y.ldFl N rfl (q := 0) rfl rfl J.1 J.2 rfl rfl rfl) rfl rfl rfl ?_; refine At.Quiet.run 1 rfl ?_; refine At.Quiet.y (Y.load rfl rfl (.s .z) rfl rfl rfl) rfl rfl rfl ?_; refine At.Quiet.run 2 rfl ?_; exact At.Quiet.of (f5 (decide (L ≤ gt ((gt p u).States) B)) j) ⟨rfl, rfl, rfl, rfl, rfl, rfl, trivial⟩
                 ··refine At.condF rfl (decide_eq_false d7) ?_
                   refine At.exit ?_; refine At.the ?_; refine At.the ?_; exact fun a w e hs => m8 () (bdn j f4) a w (e.sub ⟨rfl, rfl, rfl, trivial⟩) hs
             ··refine At.condF rfl (decide_eq_false d4) ?_
               refine At.exit ?_; refine At.the ?_; refine At.the ?_; exact fun a w e hs => g9 (G, G.length, k8, k9) ⟨(bdn j f1), rfl⟩ a w (e.sub ⟨rfl, rfl, trivial⟩) hs
       ··rcases bite j with ⟨e3, j⟩ | ⟨e3, j⟩
         ··refine At.know (t := 27) rfl e3 ?_
           refine At.run 5 rfl ?_; exact At.of (f0 true j) ⟨rfl, rfl, trivial⟩
         ··refine At.know (t := 27) rfl (bn e3) ?_
           refine At.run 1 rfl (At.y (Y.load rfl rfl .z rfl rfl rfl) rfl rfl rfl (At.run 3 rfl ?_)); exact At.of (f0 (decide (200 < (Z.length : Int))) j) ⟨rfl, rfl, trivial⟩
     ··rcases bite j with ⟨e4, j⟩ | ⟨e4, j⟩
       ··refine At.know (t := 21) rfl e4 ?_
         refine At.run 5 rfl ?_; exact At.of (e9 true j) ⟨rfl, rfl, trivial⟩
       ··refine At.know (t := 21) rfl (bn e4) ?_
         refine At.run 1 rfl (At.y (Y.load rfl rfl .z rfl rfl rfl) rfl rfl rfl (At.run 3 rfl ?_)); exact At.of (e9 (decide (8 < (p.length : Int))) j) ⟨rfl, rfl, trivial⟩
   ··rcases bite j with ⟨e5, j⟩ | ⟨e5, j⟩
     ··refine At.know (t := 15) rfl e5 ?_
       refine At.run 5 rfl ?_; exact At.of (e8 true j) ⟨rfl, rfl, trivial⟩
     ··refine At.know (t := 15) rfl (bn e5) ?_
       refine At.run 1 rfl (At.y (Y.load rfl rfl .z rfl rfl rfl) rfl rfl rfl (At.run 3 rfl ?_)); exact At.of (e8 (decide (8 < (V.length : Int))) j) ⟨rfl, rfl, trivial⟩
 ··rcases bite j with ⟨e6, j⟩ | ⟨e6, j⟩
   ··refine At.know (t := 10) rfl (decide_eq_true e6) ?_
     refine At.run 4 rfl ?_; exact At.of (e7 true j) ⟨rfl, rfl, trivial⟩
   ··refine At.know (t := 10) rfl (decide_eq_false e6) ?_
     refine At.run 1 rfl (At.y (Y.load rfl rfl .z rfl rfl rfl) rfl rfl rfl (At.run 2 rfl ?_)); exact At.of (e7 (decide (24 < L)) j) ⟨rfl, rfl, trivial⟩

end Go.Bw
namespace Go.Bw
open Go Go.RowKit Go.Proofs
variable {R : Res} {Fr : List HProp} {A0_1 A0_2 A0_3 A1_1 A1_2 A1_3 : Option Addr} {n0_1 c0_1 n0_2 c0_2 n0_3 c0_3 n1_1 c1_1 n1_2 c1_2 n1_3 c1_3 : Nat}
noncomputable def Q17.l3b (u B : List Q1) (q p : Int) : Option ((Int) ⊕ ((Unit) ⊕ ((Int) ⊕ ((Unit) ⊕ (Bool))))) :=
 if p < ((gt u q).States.length : Int) then
 if (0 : Int) ≤ p ∧ p < ((gt u q).States.length : Int) then
 if (0 : Int) ≤ p ∧ p < ((gt B q).States.length : Int) then
 if gt ((gt u q).States) p = gt ((gt B q).States) p then
 nx (IntKind.i64.wrap (p + 1))
 else
 upL (upL (some false))
 else none
 else none
 else
 dn (.inl ())
noncomputable def Q17.l3 (p q : List Q1) (u B : Int) : Option ((Unit) ⊕ ((Int) ⊕ ((Unit) ⊕ (Bool)))) := iter (fun t_ : Int => Q17.l3b p q u t_) B
noncomputable def Q17.l2b (q u : List Q1) (p : Int) : Option ((Int) ⊕ ((Unit) ⊕ (Bool))) :=
 if p < (q.length : Int) then
 if (0 : Int) ≤ p ∧ p < (q.length : Int) then
 if (0 : Int) ≤ p ∧ p < (u.length : Int) then
 jn (
 if bseq ((gt q p).Name) ((gt u p).Name) = true then
 some (.inl (!(decide (((gt q p).States.length : Int) = ((gt u p).States.length : Int)))))
 else
 some (.inl true)) (fun (B : Bool) =>
 if B = true then
 upL (some false)
 else
 jn (Q17.l3 q u p 0) (fun (_ : Unit) =>
 nx (IntKind.i64.wrap (p + 1))))
 else none
 else none
 else
 dn (.inl ())
noncomputable def Q17.l2 (p q : List Q1) (u : Int) : Option ((Unit) ⊕ (Bool)) := iter (fun t_ : Int => Q17.l2b p q t_) u
noncomputable def Q17.l1b (q u : List Q0) (p : Int) : Option ((Int) ⊕ ((Unit) ⊕ (Bool))) :=
 if p < (q.length : Int) then
 if (0 : Int) ≤ p ∧ p < (q.length : Int) then
 if (0 : Int) ≤ p ∧ p < (u.length : Int) then
 if (decide ((gt q p).From = (gt u p).From) && (decide ((gt q p).Action = (gt u p).Action) && (decide ((gt q p).To = (gt u p).To) && true))) = true then
 nx (IntKind.i64.wrap (p + 1))
 else
 upL (some false)
 else none
 else none
 else
 dn (.inl ())
noncomputable def Q17.l1 (p q : List Q0) (u : Int) : Option ((Unit) ⊕ (Bool)) := iter (fun t_ : Int => Q17.l1b p q t_) u
noncomputable def Q17.l0b (q u : List Bs) (p : Int) : Option ((Int) ⊕ ((Unit) ⊕ (Bool))) :=
 if p < (q.length : Int) then
 if (0 : Int) ≤ p ∧ p < (q.length : Int) then
 if (0 : Int) ≤ p ∧ p < (u.length : Int) then
 if bseq (gt q p) (gt u p) = true then
 nx (IntKind.i64.wrap (p + 1))
 else
 upL (some false)
 else none
 else none
 else
 dn (.inl ())
noncomputable def Q17.l0 (p q : List Bs) (u : Int) : Option ((Unit) ⊕ (Bool)) := iter (fun t_ : Int => Q17.l0b p q t_) u
noncomputable def Q17.f (G : Int) (p : List Bs) (q : List Q0) (u : List Q1) (I : Int) (B : List Bs) (D : List Q0) (E : List Q1) : Option Bool :=
 jn (
 if G = I then
 some (.inl (!(decide ((p.length : Int) = (B.length : Int)))))
 else
 some (.inl true)) (fun (J : Bool) =>
 jn (
 if J = true then
 some (.inl true)
 else
 some (.inl (!(decide ((q.length : Int) = (D.length : Int)))))) (fun (L : Bool) =>
 jn (
 if L = true then
 some (.inl true)
 else
 some (.inl (!(decide ((u.length : Int) = (E.length : Int)))))) (fun (N : Bool) =>
 if N = true then
 some false
 else
 jn (Q17.l0 p B 0) (fun (_ : Unit) =>
 jn (Q17.l1 q D 0) (fun (_ : Unit) =>
 jn (Q17.l2 u E 0) (fun (_ : Unit) =>
 some true))))))
theorem Q17.callee : Callee Tryz.prog 17 := ⟨_, Tryz.func17, by kernel_rfl, by kernel_rfl⟩
theorem Q17.spec {a6 a7 : Int} {L N : List Bs} {I J : List Q0} {u B : List Q1} (hr0_1 : RdS Fl.bs.rep R.heap A0_1 L) (hn0_1 : L.length = n0_1) (hc0_1 : n0_1 ≤ c0_1) (hr0_2 : RdS Q0.fl.rep R.heap A0_2 I) (hn0_2 : I.length = n0_2) (hc0_2 : n0_2 ≤ c0_2) (hr0_3 : RdS Q1.rep R.heap A0_3 u) (hn0_3 : u.length = n0_3) (hc0_3 : n0_3 ≤ c0_3) (hr1_1 : RdS Fl.bs.rep R.heap A1_1 N) (hn1_1 : N.length = n1_1) (hc1_1 : n1_1 ≤ c1_1) (hr1_2 : RdS Q0.fl.rep R.heap A1_2 J) (hn1_2 : J.length = n1_2) (hc1_2 : n1_2 ≤ c1_2) (hr1_3 : RdS Q1.rep R.heap A1_3 B) (hn1_3 : B.length = n1_3) (hc1_3 : n1_3 ≤ c1_3) {r : Bool} (j : Q17.f a6 L I u a7 N J B = some r) :
 Spec Tryz.prog 17 [.agg #[i6 a6, .slice A0_1 n0_1 c0_1, .slice A0_2 n0_2 c0_2, .slice A0_3 n0_3 c0_3], .agg #[i6 a7, .slice A1_1 n1_1 c1_1, .slice A1_2 n1_2 c1_2, .slice A1_3 n1_3 c1_3]] R (Fr) (fun v l' => v = .bool r ∧ Fr = l') := by
 subst hn0_1; subst hn0_2; subst hn0_3; subst hn1_1; subst hn1_2; subst hn1_3; refine Spec.of Tryz.func17 rfl rfl ?_; unfold Q17.f at j; have j := brun j; refine At.seq (At.region ?_); refine At.box rfl rfl (cs := [i6 a6, .slice A0_1 L.length c0_1, .slice A0_2 I.length c0_2, .slice A0_3 u.length c0_3]) rfl rfl (fun E => ?_); refine At.box rfl rfl (cs := [i6 a7, .slice A1_1 N.length c1_1, .slice A1_2 J.length c1_2, .slice A1_3 B.length c1_3]) rfl rfl (fun G => ?_); refine At.run 1 rfl (nT (At.seq (sR 1 rfl (At.y (Y.load rfl rfl (.s .z) rfl rfl rfl) rfl rfl rfl ?_)))); refine At.run 1 rfl (At.y (Y.load rfl rfl .z rfl rfl rfl) rfl rfl rfl (At.run 2 rfl ?_)); obtain ⟨g7, g8, n9, j⟩ := bjoin j; let T1 : HProp := pc G [i6 a7, .slice A1_1 N.length c1_1, .slice A1_2 J.length c1_2, .slice A1_3 B.length c1_3] 26; let T2 : HProp := pc E [i6 a6, .slice A0_1 L.length c0_1, .slice A0_2 I.length c0_2, .slice A0_3 u.length c0_3] 26; refine At.joinO 8 (X := Bool) (fun V => [(2, bp E), (3, bp G), (24, .bool V)]) (fun V => T1 :: T2 :: Fr) (fun V => g7 (.inl V) = some r) ?_ (fun f4 => ?_)
 ·rintro V j; have j := (g8 _).symm.trans j
  ·refine At.run 1 rfl ?_; obtain ⟨g9, h0, o0, j⟩ := bjoin j; refine At.joinO 8 (X := Bool) (fun Z => [(2, bp E), (3, bp G), (33, .bool Z)]) (fun Z => T1 :: T2 :: Fr) (fun Z => g9 (.inl Z) = some r) ?_ (fun f5 => ?_)
   ·rintro Z j; have j := (h0 _).symm.trans j
    ·refine At.run 1 rfl ?_; obtain ⟨h1, h2, o7, j⟩ := bjoin j; refine At.joinO 8 (X := Bool) (fun a0 => [(2, bp E), (3, bp G), (42, .bool a0)]) (fun a0 => T1 :: T2 :: Fr) (fun a0 => h1 (.inl a0) = some r) ?_ (fun f6 => ?_)
     ·rintro a0 j; have j := (h2 _).symm.trans j
      ·refine nT ?_; rcases bite j with ⟨c9, j⟩ | ⟨c9, j⟩
       ··refine At.condT rfl c9 ?_
         refine sR 1 rfl (nT (At.ret (At.thr (At.drop .z ?_)))); refine At.drop .z ?_; cases bret j; exact At.res (.inl rfl) rfl rfl ⟨rfl, rfl⟩
       ··refine At.condF rfl (bn c9) ?_
         refine At.skip (At.thn (At.seq (sR 1 rfl (nT ?_)))); refine At.block ?_; obtain ⟨h3, h4, h5, j⟩ := bjoin j; obtain ⟨f7, d0, f8⟩ := bsome j; clear j; unfold Q17.l0 at d0; obtain ⟨d1, a1⟩ := Q12.1 d0; clear d0; refine At.loopJ (X := Int) (Y := Unit) (e0 := 0) (fun O => [(2, bp E), (3, bp G), (5, i6 O)]) (fun O => T1 :: T2 :: Fr) (fun m_ => fun O => iterN (fun t_ : Int => Q17.l0b L N t_) m_ O = some f7) d1 0 a1 (fun _ => [(2, bp E), (3, bp G)]) (fun _ => T1 :: T2 :: Fr) (fun _ => h3 (.inl ()) = some r) (fun a w e hs => ⟨e.sub ⟨rfl, rfl, rfl, trivial⟩, (by exact hs)⟩) ?_ (fun h6 => ?_)
         ·rintro _ j; have j := (h4 _).symm.trans j
          ·refine At.ibx ?_; refine At.thn (At.seq (sR 1 rfl (nT ?_))); refine At.block ?_; obtain ⟨h7, h8, h9, j⟩ := bjoin j; obtain ⟨f9, d2, g0⟩ := bsome j; clear j; unfold Q17.l1 at d2; obtain ⟨d3, a2⟩ := Q12.1 d2; clear d2; refine At.loopJ (X := Int) (Y := Unit) (e0 := 2) (fun D => [(2, bp E), (3, bp G), (6, i6 D)]) (fun D => T1 :: T2 :: Fr) (fun m_ => fun D => iterN (fun t_ : Int => Q17.l1b I J t_) m_ D = some f9) d3 0 a2 (fun _ => [(2, bp E), (3, bp G)]) (fun _ => T1 :: T2 :: Fr) (fun _ => h7 (.inl ()) = some r) (fun a w e hs => ⟨e.sub ⟨rfl, rfl, rfl, trivial⟩, (by exact hs)⟩) ?_ (fun k1 => ?_)
           ·rintro _ j; have j := (h8 _).symm.trans j
            ·refine At.ibx ?_; refine At.thn (At.seq (sR 1 rfl (nT ?_))); refine At.block ?_; obtain ⟨k2, k3, g1, j⟩ := bjoin j; obtain ⟨a8, d4, d5⟩ := bsome j; clear j; unfold Q17.l2 at d4; obtain ⟨d6, a3⟩ := Q12.1 d4; clear d4; refine At.loopJ (X := Int) (Y := Unit) (e0 := 4) (fun p => [(2, bp E), (3, bp G), (7, i6 p)]) (fun p => T1 :: T2 :: Fr) (fun m_ => fun p => iterN (fun t_ : Int => Q17.l2b u B t_) m_ p = some a8) d6 0 a3 (fun _ => []) (fun _ => T1 :: T2 :: Fr) (fun _ => k2 (.inl ()) = some r) (fun a w e hs => ⟨e.sub ⟨rfl, rfl, rfl, trivial⟩, (by exact hs)⟩) ?_ (fun k4 => ?_)
             ·rintro _ j; have j := (k3 _).symm.trans j
              ·refine At.ibx ?_; refine At.thn (sR 1 rfl (nT (At.ret (At.drop .z ?_)))); refine At.drop .z ?_; cases bret j; exact At.res (.inl rfl) rfl rfl ⟨rfl, rfl⟩
             ·clear a3 d6; rintro d6 p a3; obtain ⟨k5, f_, k6, hf_, j⟩ := bit a3; clear a3; have j : (Q17.l2b u B p).bind _ = some a8 := j; unfold Q17.l2b at j
              ·refine At.seq (sR 2 rfl (At.y (Y.load rfl rfl (.s .z) rfl rfl rfl) rfl rfl rfl (At.run 2 rfl (nT ?_)))); rcases bite j with ⟨d7, j⟩ | ⟨d7, j⟩
               ··refine At.condT rfl (decide_eq_true d7) ?_
                 refine At.skip (At.thn (At.seq ?_)); refine At.block ?_; refine sR 1 rfl (At.y (Y.load rfl rfl (.s .z) rfl rfl rfl) rfl rfl rfl (At.run 1 rfl ?_)); obtain ⟨a9, j⟩ := bnone j; refine At.y (Y.ixRd hr0_3 rfl rfl rfl rfl rfl rfl rfl a9.1 a9.2) rfl rfl rfl ?_; obtain ⟨o8, k7, k8⟩ := RdS.whole (P := Tryz.prog) hr0_3 (Sub.refl _) rfl a9.1 a9.2; obtain ⟨_, _, rfl, rfl, ⟨k9, m0, rfl, o9, g2⟩⟩ := k7; refine At.y (k8 rfl rfl rfl rfl) rfl rfl rfl ?_; refine At.alloc rfl rfl rfl (fun d8 => ?_); refine At.store rfl rfl rfl rfl .z rfl rfl rfl (.c (.c .n)) ?_; refine nT (sR 1 rfl (At.y (Y.load rfl rfl (.s .z) rfl rfl rfl) rfl rfl rfl (At.run 1 rfl ?_))); obtain ⟨b4, j⟩ := bnone j; refine At.y (Y.ixRd hr1_3 rfl rfl rfl rfl rfl rfl rfl b4.1 b4.2) rfl rfl rfl ?_; obtain ⟨p0, m1, m2⟩ := RdS.whole (P := Tryz.prog) hr1_3 (Sub.refl _) rfl b4.1 b4.2; obtain ⟨_, _, rfl, rfl, ⟨m3, m4, rfl, p1, g3⟩⟩ := m1; refine At.y (m2 rfl rfl rfl rfl) rfl rfl rfl ?_; refine At.alloc rfl rfl rfl (fun d9 => ?_); refine At.store rfl rfl rfl rfl .z rfl rfl rfl (.c (.c .n)) ?_; refine nT (At.seq (sR 1 rfl (At.y (Y.load rfl rfl (.s .z) rfl rfl rfl) rfl rfl rfl (At.run 1 rfl ?_)))); refine At.y (Y.load rfl rfl .z rfl rfl rfl) rfl rfl rfl (At.run 2 rfl ?_); obtain ⟨m5, m6, p2, j⟩ := bjoin j; let T3 : HProp := pc d9 [.string ⟨((gt B p).Name).toArray⟩, .slice m3 ((gt B p).States.length) m4] 37; let T4 : HProp := pc d8 [.string ⟨((gt u p).Name).toArray⟩, .slice k9 ((gt u p).States.length) m0] 37; refine At.joinO 8 (X := Bool) (fun a4 => [(2, bp E), (3, bp G), (7, i6 p), (8, bp d8), (9, bp d9), (109, .bool a4)]) (fun a4 => T3 :: T4 :: T1 :: T2 :: Fr) (fun a4 => m5 (.inl a4) = some a8) ?_ (fun g4 => ?_)
                 ·rintro a4 j; have j := (m6 _).symm.trans j
                  ·refine nT ?_; rcases bite j with ⟨e1, j⟩ | ⟨e1, j⟩
                   ··refine At.condT rfl e1 ?_
                     refine sR 1 rfl (nT (At.ret (At.thr ?_))); refine At.ibr ?_; refine At.thr ?_; have j := bupL g1 d5 j; refine At.thr ?_; refine At.ibr ?_; refine At.thr (At.drop .z (At.drop .z (At.drop .z (At.drop .z ?_)))); cases bret j; exact At.res (.inl rfl) rfl rfl ⟨rfl, rfl⟩
                   ··refine At.condF rfl (bn e1) ?_
                     refine At.skip (At.thn (sR 1 rfl (nT ?_))); refine At.block ?_; obtain ⟨m7, m8, m9, j⟩ := bjoin j; obtain ⟨g5, e2, g6⟩ := bsome j; clear j; unfold Q17.l3 at e2; obtain ⟨e3, a5⟩ := Q12.1 e2; clear e2; refine At.loopJ (X := Int) (Y := Unit) (e0 := 6) (fun U => [(2, bp E), (3, bp G), (7, i6 p), (8, bp d8), (9, bp d9), (10, i6 U)]) (fun U => T3 :: T4 :: T1 :: T2 :: Fr) (fun m_ => fun U => iterN (fun t_ : Int => Q17.l3b u B p t_) m_ U = some g5) e3 0 a5 (fun _ => [(2, bp E), (3, bp G), (7, i6 p)]) (fun _ => T3 :: T4 :: T1 :: T2 :: Fr) (fun _ => m7 (.inl ()) = some a8) (fun a w e hs => ⟨e.sub ⟨rfl, rfl, rfl, rfl, rfl, rfl, trivial⟩, (by exact hs)⟩) ?_ (fun n2 => ?_)
                     ·rintro _ j; have j := (m8 _).symm.trans j
                      ·refine At.ibx ?_; refine At.ibn ?_; refine At.thn (At.region (At.run 3 rfl (At.nil (At.drop .z (At.drop .z ?_))))); have j := bnx hf_ j; exact fun a w e hs => ⟨k5, (IntKind.i64.wrap (p + 1)), k6, j, e.sub ⟨rfl, rfl, rfl, trivial⟩, hs⟩
                     ·clear a5 e3; rintro e3 U a5; obtain ⟨n3, f_, n4, hf_, j⟩ := bit a5; clear a5; have j : (Q17.l3b u B p U).bind _ = some g5 := j; unfold Q17.l3b at j
                      ·refine At.seq (sR 2 rfl (At.y (Y.load rfl rfl (.s .z) rfl rfl rfl) rfl rfl rfl (At.run 2 rfl (nT ?_)))); rcases bite j with ⟨e4, j⟩ | ⟨e4, j⟩
                       ··refine At.condT rfl (decide_eq_true e4) ?_
                         refine At.skip (At.thn (At.seq ?_)); refine At.block ?_; refine At.seq ?_; refine At.quiet (by kernel_rfl) ?_; refine At.Quiet.run 1 rfl ?_; refine At.Quiet.y (Y.load rfl rfl (.s .z) rfl rfl rfl) rfl rfl rfl ?_; refine At.Quiet.run 1 rfl ?_; obtain ⟨b5, j⟩ := bnone j; refine At.Quiet.y (Y.ixRd g2 rfl rfl rfl rfl rfl rfl rfl b5.1 b5.2) rfl rfl rfl ?_; refine At.Quiet.y (Y.ldFl g2 rfl (q := 0) rfl rfl b5.1 b5.2 rfl rfl rfl) rfl rfl rfl ?_; refine At.Quiet.run 1 rfl ?_; refine At.Quiet.y (Y.load rfl rfl .z rfl rfl rfl) rfl rfl rfl ?_; refine At.Quiet.run 1 rfl ?_; obtain ⟨b6, j⟩ := bnone j; refine At.Quiet.y (Y.ixRd g3 rfl rfl rfl rfl rfl rfl rfl b6.1 b6.2) rfl rfl rfl ?_; refine At.Quiet.y (Y.ldFl g3 rfl (q := 0) rfl rfl b6.1 b6.2 rfl rfl rfl) rfl rfl rfl ?_; refine At.Quiet.run 1 rfl (At.Quiet.nil (At.thn ?_)); rcases bite j with ⟨e5, j⟩ | ⟨e5, j⟩
                         ··refine At.condF rfl (nf (decide_eq_true e5)) ?_
                           refine At.skip ?_; refine At.ibn ?_; refine At.thn (At.region (At.run 3 rfl (At.nil ?_))); have j := bnx hf_ j; exact fun a w e hs => ⟨n3, (IntKind.i64.wrap (U + 1)), n4, j, e.sub ⟨rfl, rfl, rfl, rfl, rfl, rfl, trivial⟩, hs⟩
                         ··refine At.condT rfl (nt (decide_eq_false e5)) ?_
                           refine sR 1 rfl (nT (At.ret ?_)); refine At.ibr ?_; refine At.thr ?_; have j := bupL m9 g6 j; refine At.thr ?_; refine At.ibr ?_; refine At.ibr ?_; refine At.thr ?_; have j := bupL g1 d5 j; refine At.thr ?_; refine At.ibr ?_; refine At.thr (At.drop .z (At.drop .z (At.drop .z (At.drop .z ?_)))); cases bret j; exact At.res (.inl rfl) rfl rfl ⟨rfl, rfl⟩
                       ··refine At.condF rfl (decide_eq_false e4) ?_
                         refine At.exit ?_; refine At.the ?_; refine At.the ?_; exact fun a w e hs => n2 () (bdn j g6) a w (e.sub ⟨rfl, rfl, rfl, trivial⟩) hs
                 ··rcases bite j with ⟨e6, j⟩ | ⟨e6, j⟩
                   ··refine At.know (t := 101) rfl (nf e6) ?_
                     refine At.run 1 rfl (At.y (Y.load rfl rfl (.s .z) rfl rfl rfl) rfl rfl rfl (At.run 2 rfl (At.y (Y.load rfl rfl .z rfl rfl rfl) rfl rfl rfl (At.run 3 rfl ?_)))); exact At.of (g4 (!(decide (((gt u p).States.length : Int) = ((gt B p).States.length : Int)))) j) ⟨rfl, rfl, rfl, rfl, rfl, rfl, trivial⟩
                   ··refine At.know (t := 101) rfl (nt (bn e6)) ?_
                     refine At.run 8 rfl ?_; exact At.of (g4 true j) ⟨rfl, rfl, rfl, rfl, rfl, rfl, trivial⟩
               ··refine At.condF rfl (decide_eq_false d7) ?_
                 refine At.exit ?_; refine At.the ?_; refine At.the ?_; exact fun a w e hs => k4 () (bdn j d5) a w (e.sub trivial) hs
           ·clear a2 d3; rintro d3 D a2; obtain ⟨n5, f_, n6, hf_, j⟩ := bit a2; clear a2; have j : (Q17.l1b I J D).bind _ = some f9 := j; unfold Q17.l1b at j
            ·refine At.seq (sR 2 rfl (At.y (Y.load rfl rfl (.s .z) rfl rfl rfl) rfl rfl rfl (At.run 2 rfl (nT ?_)))); rcases bite j with ⟨e7, j⟩ | ⟨e7, j⟩
             ··refine At.condT rfl (decide_eq_true e7) ?_
               refine At.skip (At.thn (At.seq ?_)); refine At.block ?_; refine At.seq ?_; refine At.quiet (by kernel_rfl) ?_; refine At.Quiet.run 1 rfl ?_; refine At.Quiet.y (Y.load rfl rfl (.s .z) rfl rfl rfl) rfl rfl rfl ?_; refine At.Quiet.run 1 rfl ?_; obtain ⟨b7, j⟩ := bnone j; refine At.Quiet.y (Y.ixRd hr0_2 rfl rfl rfl rfl rfl rfl rfl b7.1 b7.2) rfl rfl rfl ?_; refine At.Quiet.y (Y.ldFl hr0_2 rfl (q := 0) rfl rfl b7.1 b7.2 rfl rfl rfl) rfl rfl rfl ?_; refine At.Quiet.run 1 rfl ?_; refine At.Quiet.y (Y.load rfl rfl .z rfl rfl rfl) rfl rfl rfl ?_; refine At.Quiet.run 1 rfl ?_; obtain ⟨b8, j⟩ := bnone j; refine At.Quiet.y (Y.ixRd hr1_2 rfl rfl rfl rfl rfl rfl rfl b8.1 b8.2) rfl rfl rfl ?_; refine At.Quiet.y (Y.ldFl hr1_2 rfl (q := 0) rfl rfl b8.1 b8.2 rfl rfl rfl) rfl rfl rfl ?_; refine At.Quiet.y (Y.neSt (xs := [i6 ((gt I D).From), i6 ((gt I D).Action), i6 ((gt I D).To)]) (ys := [i6 ((gt J D).From), i6 ((gt J D).Action), i6 ((gt J D).To)]) rfl rfl rfl rfl (by kernel_rfl) (by kernel_rfl) (by kernel_rfl) rfl) rfl rfl rfl ?_; refine At.Quiet.nil (At.thn ?_); rcases bite j with ⟨e8, j⟩ | ⟨e8, j⟩
               ··refine At.condF rfl (nf e8) ?_
                 refine At.skip ?_; refine At.ibn ?_; refine At.thn (At.region (At.run 3 rfl (At.nil ?_))); have j := bnx hf_ j; exact fun a w e hs => ⟨n5, (IntKind.i64.wrap (D + 1)), n6, j, e.sub ⟨rfl, rfl, rfl, trivial⟩, hs⟩
               ··refine At.condT rfl (nt (bn e8)) ?_
                 refine sR 1 rfl (nT (At.ret ?_)); refine At.ibr ?_; refine At.thr ?_; have j := bupL h9 g0 j; refine At.thr ?_; refine At.ibr ?_; refine At.thr (At.drop .z (At.drop .z ?_)); cases bret j; exact At.res (.inl rfl) rfl rfl ⟨rfl, rfl⟩
             ··refine At.condF rfl (decide_eq_false e7) ?_
               refine At.exit ?_; refine At.the ?_; refine At.the ?_; exact fun a w e hs => k1 () (bdn j g0) a w (e.sub ⟨rfl, rfl, trivial⟩) hs
         ·clear a1 d1; rintro d1 O a1; obtain ⟨n7, f_, n8, hf_, j⟩ := bit a1; clear a1; have j : (Q17.l0b L N O).bind _ = some f7 := j; unfold Q17.l0b at j
          ·refine At.seq (sR 2 rfl (At.y (Y.load rfl rfl (.s .z) rfl rfl rfl) rfl rfl rfl (At.run 2 rfl (nT ?_)))); rcases bite j with ⟨e9, j⟩ | ⟨e9, j⟩
           ··refine At.condT rfl (decide_eq_true e9) ?_
             refine At.skip (At.thn (At.seq ?_)); refine At.block ?_; refine At.seq ?_; refine At.quiet (by kernel_rfl) ?_; refine At.Quiet.run 1 rfl ?_; refine At.Quiet.y (Y.load rfl rfl (.s .z) rfl rfl rfl) rfl rfl rfl ?_; refine At.Quiet.run 1 rfl ?_; obtain ⟨b9, j⟩ := bnone j; refine At.Quiet.y (Y.ixRd hr0_1 rfl rfl rfl rfl rfl rfl rfl b9.1 b9.2) rfl rfl rfl ?_; refine At.Quiet.y (Y.ldFl hr0_1 rfl (q := 0) rfl rfl b9.1 b9.2 rfl rfl rfl) rfl rfl rfl ?_; refine At.Quiet.run 1 rfl ?_; refine At.Quiet.y (Y.load rfl rfl .z rfl rfl rfl) rfl rfl rfl ?_; refine At.Quiet.run 1 rfl ?_; obtain ⟨c8, j⟩ := bnone j; refine At.Quiet.y (Y.ixRd hr1_1 rfl rfl rfl rfl rfl rfl rfl c8.1 c8.2) rfl rfl rfl ?_; refine At.Quiet.y (Y.ldFl hr1_1 rfl (q := 0) rfl rfl c8.1 c8.2 rfl rfl rfl) rfl rfl rfl ?_; refine At.Quiet.run 1 rfl (At.Quiet.nil (At.thn ?_)); rcases bite j with ⟨f0, j⟩ | ⟨f0, j⟩
             ··refine At.condF rfl (nf f0) ?_
               refine At.skip ?_; refine At.ibn ?_; refine At.thn (At.region (At.run 3 rfl (At.nil ?_))); have j := bnx hf_ j; exact fun a w e hs => ⟨n7, (IntKind.i64.wrap (O + 1)), n8, j, e.sub ⟨rfl, rfl, rfl, trivial⟩, hs⟩
             ··refine At.condT rfl (nt (bn f0)) ?_
               refine sR 1 rfl (nT (At.ret ?_)); refine At.ibr ?_; refine At.thr ?_; have j := bupL h5 f8 j; refine At.thr ?_; refine At.ibr ?_; refine At.thr (At.drop .z (At.drop .z ?_)); cases bret j; exact At.res (.inl rfl) rfl rfl ⟨rfl, rfl⟩
           ··refine At.condF rfl (decide_eq_false e9) ?_
             refine At.exit ?_; refine At.the ?_; refine At.the ?_; exact fun a w e hs => h6 () (bdn j f8) a w (e.sub ⟨rfl, rfl, trivial⟩) hs
     ··rcases bite j with ⟨f1, j⟩ | ⟨f1, j⟩
       ··refine At.know (t := 34) rfl f1 ?_
         refine At.run 8 rfl ?_; exact At.of (f6 true j) ⟨rfl, rfl, rfl, trivial⟩
       ··refine At.know (t := 34) rfl (bn f1) ?_
         refine At.run 1 rfl (At.y (Y.load rfl rfl (.s .z) rfl rfl rfl) rfl rfl rfl (At.run 2 rfl (At.y (Y.load rfl rfl .z rfl rfl rfl) rfl rfl rfl (At.run 3 rfl ?_)))); exact At.of (f6 (!(decide ((u.length : Int) = (B.length : Int)))) j) ⟨rfl, rfl, rfl, trivial⟩
   ··rcases bite j with ⟨f2, j⟩ | ⟨f2, j⟩
     ··refine At.know (t := 25) rfl f2 ?_
       refine At.run 8 rfl ?_; exact At.of (f5 true j) ⟨rfl, rfl, rfl, trivial⟩
     ··refine At.know (t := 25) rfl (bn f2) ?_
       refine At.run 1 rfl (At.y (Y.load rfl rfl (.s .z) rfl rfl rfl) rfl rfl rfl (At.run 2 rfl (At.y (Y.load rfl rfl .z rfl rfl rfl) rfl rfl rfl (At.run 3 rfl ?_)))); exact At.of (f5 (!(decide ((I.length : Int) = (J.length : Int)))) j) ⟨rfl, rfl, rfl, trivial⟩
 ··rcases bite j with ⟨f3, j⟩ | ⟨f3, j⟩
   ··refine At.know (t := 16) rfl (nf (decide_eq_true f3)) ?_
     refine At.run 1 rfl (At.y (Y.load rfl rfl (.s .z) rfl rfl rfl) rfl rfl rfl (At.run 2 rfl (At.y (Y.load rfl rfl .z rfl rfl rfl) rfl rfl rfl (At.run 3 rfl ?_)))); exact At.of (f4 (!(decide ((L.length : Int) = (N.length : Int)))) j) ⟨rfl, rfl, rfl, trivial⟩
   ··refine At.know (t := 16) rfl (nt (decide_eq_false f3)) ?_
     refine At.run 8 rfl ?_; exact At.of (f4 true j) ⟨rfl, rfl, rfl, trivial⟩

end Go.Bw
namespace Go.Bw
open Go Go.RowKit

theorem TypeOk.map {P : Program} {t : Nat} {i : TI} (h : TypeOk P t i) {k e : Nat} (hk : i.k = .map k e) : P.underlying t = some (.map k e) := by
 obtain ⟨d, hd, hk'⟩ := h.under; rw [hk] at hk'; cases d <;> simp [tk] at hk'; rw [hk'.1, hk'.2] at hd; exact hd
def Fl.ov {α : Type} (F : Fl α) (x : α) : Value := (F.enc x).headD .nilFunc
def Fl.av {α : Type} (F : Fl α) (x : α) : Value := .agg (F.enc x).toArray
section
variable {κ ν : Type}
def mget [DecidableEq κ] : List (κ × ν) → κ → Option ν
 | [], _ => none
 | p :: r, k => if p.1 = k then some p.2 else mget r k
def mset [DecidableEq κ] : List (κ × ν) → κ → ν → List (κ × ν)
 | [], k, v => [(k, v)]
 | p :: r, k, v => if p.1 = k then (k, v) :: r else p :: mset r k v
structure KeyOk (P : Program) (t : Nat) (kv : κ → Value) [DecidableEq κ] : Prop where
 chk : ∀ k w em, (Instr.checkKey em 10000 t (kv k)).run P w = .ok () w
 find : ∀ (es : List MapEntry) (ks : List κ) k w, es.map (·.key) = ks.map kv → (Instr.findKey t (kv k) es).run P w = .ok ((ks.findIdx? (fun a => decide (a = k))).bind fun i => es[i]?.map fun e => (i, e.val)) w
 same : ∀ k, Instr.sameBits 10000 (kv k) (kv k) = true
def mapo (kv : κ → Value) (vv : ν → Value) (b : Nat) (kvs : List (κ × ν)) : HProp := fun h =>
 ∃ (es : List MapEntry) (clock : Nat), h b = some (.map es.toArray clock) ∧ es.map (fun e => (e.key, e.val)) = kvs.map (fun p => (kv p.1, vv p.2)) ∧ es.Pairwise (fun x y => x.born < y.born) ∧ ∀ e ∈ es, e.born < clock
theorem Q258 (s : Bs) : ∀ (es : List MapEntry) (ks : List Bs) (i : Nat), es.map (·.key) = ks.map (fun x => Value.string ⟨x.toArray⟩) →
 Instr.findNow .string (.string ⟨s.toArray⟩) es i = some ((ks.findIdx? (fun a => decide (a = s))).bind fun j => es[j]?.map fun e => (i + j, e.val))
 | [], [], _, _ => rfl
 | [], _ :: _, _, h => by simp at h
 | _ :: _, [], _, h => by simp at h
 | e :: es, k :: ks, i, h => by
  simp only [List.map_cons, List.cons.injEq] at h
  unfold Instr.findNow
  have hb : ((ByteArray.mk s.toArray) == (ByteArray.mk k.toArray)) = decide (k = s) := by
   rw [Q151]
   by_cases hks : k = s
   ·subst hks; rw [decide_eq_true rfl]; exact Q65.2 rfl
   ·rw [decide_eq_false hks]
    exact Bool.eq_false_iff.2 fun hc => hks (Q65.1 hc).symm
  rw [h.1]
  simp only [Instr.sameNow, hb]
  rw [List.findIdx?_cons]
  by_cases hks : k = s
  ·rw [decide_eq_true hks]
   simp
  ·rw [decide_eq_false hks]
   simp only [Bool.false_eq_true, if_false]
   rw [Q258 s es ks (i + 1) h.2]
   cases hf : ks.findIdx? (fun a => decide (a = s)) with
   | none => rfl
   | some j =>
    simp
    congr 1
    funext e
    congr 1
    omega
theorem KeyOk.str {P : Program} [Tys P] {t : Nat} {i : TI} (hi : ti P t = some i) (hk : i.k = .string) : KeyOk P t Fl.bs.ov := by
 have hu := (Q13 hi).string hk
 refine ⟨fun k w em => ?_, fun es ks k w h => ?_, fun k => ?_⟩
 ·exact MapKept.run_checkKey (k := .string ⟨k.toArray⟩) hu (by simp [MapKept.IsKey]) em 9999
 ·have := Q258 k es ks 0 h
  simp only [Nat.zero_add] at this
  exact MapKept.run_findKey (k := .string ⟨k.toArray⟩) hu this
 ·show Instr.sameBits (9999 + 1) (.string ⟨k.toArray⟩) (.string ⟨k.toArray⟩) = true
  simp only [Instr.sameBits]
  rw [Q151]
  exact Q65.2 rfl
theorem Q262 [DecidableEq κ] {kv : κ → Value} {vv : ν → Value} : ∀ {es : List MapEntry} {kvs : List (κ × ν)} {k : κ}, es.map (fun e => (e.key, e.val)) = kvs.map (fun p => (kv p.1, vv p.2)) →
 (((kvs.map (·.1)).findIdx? (fun a => decide (a = k))).bind fun i => es[i]?.map fun e => (i, e.val)).map (·.2) = (mget kvs k).map vv
 | [], [], _, _ => rfl
 | [], _ :: _, _, h => by simp at h
 | _ :: _, [], _, h => by simp at h
 | e :: es, p :: kvs, k, h => by
  simp only [List.map_cons, List.cons.injEq, Prod.mk.injEq] at h
  rw [List.map_cons, List.findIdx?_cons]
  unfold mget
  by_cases hk : p.1 = k
  ·rw [if_pos hk, decide_eq_true hk]
   simp [h.1.2]
  ·rw [if_neg hk, decide_eq_false hk]
   simp only [Bool.false_eq_true, if_false]
   rw [← Q262 (k := k) h.2]
   cases (kvs.map (·.1)).findIdx? (fun a => decide (a = k)) with
   | none => rfl
   | some j => simp; rfl
theorem Q195 {kv : κ → Value} {vv : ν → Value} {es : List MapEntry} {kvs : List (κ × ν)} (h : es.map (fun e => (e.key, e.val)) = kvs.map (fun p => (kv p.1, vv p.2))) : es.map (·.key) = (kvs.map (·.1)).map kv := by
 have := congrArg (List.map (·.1)) h
 simpa [List.map_map, Function.comp_def] using this
end
section
variable {P : Program} [Tys P] {os : List Oper} {Q : Exit → Act → World → Prop} {rest : List Oper} {n : Nat} {ds : List Deferred} {R : Res} {env : List (Nat × Value)} {l l' : List HProp}
variable {d ty : Nat} {pos : String} {af : Array Edge} {g : Option (Nat × Bool)} {κ ν : Type} [DecidableEq κ] {kv : κ → Value} {vv : ν → Value} {kvs : List (κ × ν)} {b t kt et : Nat} {K : Act → World → Prop} {dd : Option Nat}
theorem Q176 {w : World} (hs : sat R (mapo kv vv b kvs :: l) w) : ∃ (es : List MapEntry) (clock : Nat), w.heap[b]? = some (.map es.toArray clock) ∧ es.map (fun e => (e.key, e.val)) = kvs.map (fun p => (kv p.1, vv p.2)) ∧ es.Pairwise (fun x y => x.born < y.born) ∧ ∀ e ∈ es, e.born < clock := by
 obtain ⟨h1, ⟨es, clock, a, r⟩, s⟩ := hs.head
 exact ⟨es, clock, s _ _ a, r⟩
theorem At.makeMap (kv : κ → Value) (vv : ν → Value) (hg : grd os env g = some true) (hd : Nat.blt d n = true)
 (h : ∀ b, At n ds R ((d, .map (some b)) :: env) (mapo kv vv b [] :: l) (wpList P os.toArray Q rest)) :
 At n ds R env l (wpList P os.toArray Q (⟨some d, .makeMap t none, ty, pos, af, g⟩ :: rest)) := Q83 hg rfl hd fun a w e hs => by
 refine ⟨_, _, _, ?_, (hs.alloc (.map #[] 0)).imp fun h p => ⟨[], 0, p, rfl, List.Pairwise.nil, fun e he => by cases he⟩, h _⟩
 simp [execOp, Instr.makeMap]
theorem Q233 {w : World} {ii : TI} {z : ν} (hi : ti P t = some ii) (hk : ii.k = .map kt et) (ko : KeyOk P kt kv) (hz : ((P.info? et).bind fun x => x.zero) = some (vv z)) (hs : sat R (mapo kv vv b kvs :: l) w) (k : κ) (ok : Bool) :
 (Instr.lookup t (.map (some b)) (kv k) ok).run P w = .ok (if ok then .tuple #[vv ((mget kvs k).getD z), .bool (mget kvs k).isSome] else vv ((mget kvs k).getD z)) w := by
 obtain ⟨es, clock, hb, hm, _⟩ := Q176 hs
 have hu := (Q13 hi).map hk
 have hf := ko.find es (kvs.map (·.1)) k w (Q195 hm)
 have hg := Q262 (k := k) hm
 have hgo : (getObj b).run P w = .ok (.map es.toArray clock) w := MapKept.run_getObj_map hb
 simp only [Instr.lookup, Sem.run_bind, run_underlying hu, Result.andThen, hgo, Sem.run_pure, ko.chk, hf]
 cases hr : ((kvs.map (·.1)).findIdx? (fun a => decide (a = k))).bind fun i => es[i]?.map fun e => (i, e.val) with
 | none =>
  rw [hr] at hg
  have hgn : mget kvs k = none := by cases hq : mget kvs k with | none => rfl | some v => rw [hq] at hg; cases hg
  obtain ⟨x, hx, hx2⟩ := Option.bind_eq_some_iff.1 hz
  rw [hgn]
  cases ok <;> simp [zeroValue, typeInfo, hx, hx2]
 | some p =>
  obtain ⟨i, v⟩ := p
  rw [hr] at hg
  cases hq : mget kvs k with
  | none => rw [hq] at hg; cases hg
  | some v' =>
   rw [hq] at hg
   have hv : v = vv v' := by simpa using hg
   subst hv
   cases ok <;> simp
theorem Y.lookup {x y : Operand} {k : κ} {v : Value} {ii : TI} {z : ν} (f : Frt l (mapo kv vv b kvs) l') (hi : ti P t = some ii) (hk : ii.k = .map kt et) (ko : KeyOk P kt kv) (hz : ((P.info? et).bind fun x => x.zero) = some (vv z))
 (hx : ev env x = some (.map (some b))) (hy : ev env y = some v) (hv : v = kv k) :
 Y P n ds R env l ⟨dd, .lookup t x y false, ty, pos, af, g⟩ (vv ((mget kvs k).getD z)) := fun a w e hs => by
 subst hv
 have := Q233 hi hk ko hz (hs.frt f) k false
 simp only [execOp, e.ev hx, e.ev hy, Sem.run_bind, this, Result.andThen, Sem.run_pure]
 rfl
theorem Y.lookupOk {x y : Operand} {k : κ} {v : Value} {ii : TI} {z : ν} (f : Frt l (mapo kv vv b kvs) l') (hi : ti P t = some ii) (hk : ii.k = .map kt et) (ko : KeyOk P kt kv) (hz : ((P.info? et).bind fun x => x.zero) = some (vv z))
 (hx : ev env x = some (.map (some b))) (hy : ev env y = some v) (hv : v = kv k) :
 Y P n ds R env l ⟨dd, .lookup t x y true, ty, pos, af, g⟩ (.tuple #[vv ((mget kvs k).getD z), .bool (mget kvs k).isSome]) := fun a w e hs => by
 subst hv
 have := Q233 hi hk ko hz (hs.frt f) k true
 simp only [execOp, e.ev hx, e.ev hy, Sem.run_bind, this, Result.andThen, Sem.run_pure]
 rfl
theorem Q184 {es : List MapEntry} (h : es.map (fun e => (e.key, e.val)) = kvs.map (fun p => (kv p.1, vv p.2))) : es.length = kvs.length := by
 have := congrArg List.length h
 simpa using this
theorem Y.lenMap {x : Operand} {ii : TI} (f : Frt l (mapo kv vv b kvs) l') (hi : ti P t = some ii) (hk : ii.k = .map kt et) (hx : ev env x = some (.map (some b))) :
 Y P n ds R env l ⟨dd, .call ⟨.builtin .len, #[x], #[t]⟩, ty, pos, af, g⟩ (.int .i64 (kvs.length : Int)) := fun a w e hs => by
 obtain ⟨es, clock, hb, hm, _⟩ := Q176 (hs.frt f)
 have hu := (Q13 hi).map hk
 have hgo : (getObj b).run P w = .ok (.map es.toArray clock) w := MapKept.run_getObj_map hb
 simp [execOp, resolve, invoke, builtin, Builtin.len_, e.ev hx, run_underlying hu, hgo, Result.andThen, goInt, Q184 hm]
theorem set_mset {es : List MapEntry} {kvs : List (κ × ν)} {k : κ} {v : ν} (h : es.map (fun e => (e.key, e.val)) = kvs.map (fun p => (kv p.1, vv p.2))) :
 (match ((kvs.map (·.1)).findIdx? (fun a => decide (a = k))).bind fun i => es[i]?.map fun e => (i, e.val) with
  | some (i, _) => (es.modify i fun e => { e with key := kv k, val := vv v }).map (fun e => (e.key, e.val))
  | none => es.map (fun e => (e.key, e.val)) ++ [(kv k, vv v)]) = (mset kvs k v).map (fun p => (kv p.1, vv p.2)) := by
 induction kvs generalizing es with
 | nil =>
  cases es with
  | nil => rfl
  | cons e es => simp at h
 | cons p kvs ih =>
  cases es with
  | nil => simp at h
  | cons e es =>
   simp only [List.map_cons, List.cons.injEq, Prod.mk.injEq] at h
   rw [List.map_cons, List.findIdx?_cons]
   unfold mset
   by_cases hk : p.1 = k
   ·rw [if_pos hk, decide_eq_true hk]
    simp [h.2]
   ·rw [if_neg hk, decide_eq_false hk]
    simp only [Bool.false_eq_true, if_false]
    have := ih h.2
    cases hf : (kvs.map (·.1)).findIdx? (fun a => decide (a = k)) with
    | none =>
     rw [hf] at this
     simp at this ⊢
     exact ⟨h.1, this⟩
    | some j =>
     rw [hf] at this
     simp at this ⊢
     have hj : j < es.length := by
      have := (List.findIdx?_eq_some_iff_getElem.1 hf).1
      simp at this
      have h3 := Q184 h.2
      omega
     rw [List.getElem?_eq_getElem hj] at this ⊢
     simp at this ⊢
     exact ⟨h.1, this⟩
theorem Q265 {es : List MapEntry} {i : Nat} {f : MapEntry → MapEntry} (hf : ∀ e, (f e).born = e.born) : (es.modify i f).map (·.born) = es.map (·.born) := by
 apply List.ext_getElem?
 intro j
 rw [List.getElem?_map, List.getElem?_map, List.getElem?_modify]
 cases es[j]? with
 | none => rfl
 | some e => by_cases h : i = j <;> simp [h, hf]
theorem At.mapUpdate {x y z : Operand} {k : κ} {v : ν} {u u' : Value} {ii : TI} (hg : grd os env g = some true) (f : Frt l (mapo kv vv b kvs) l') (hi : ti P t = some ii) (hk : ii.k = .map kt et) (ko : KeyOk P kt kv)
 (hx : ev env x = some (.map (some b))) (hy : ev env y = some u) (hu : u = kv k) (hz : ev env z = some u') (hu' : u' = vv v)
 (h : At n ds R env (mapo kv vv b (mset kvs k v) :: l') (wpList P os.toArray Q rest)) :
 At n ds R env l (wpList P os.toArray Q (⟨none, .mapUpdate t x y z, ty, pos, af, g⟩ :: rest)) := op_sk hg rfl fun a w e hs => by
 subst hu hu'
 have hs1 := hs.frt f
 obtain ⟨es, clock, hb, hm, hbn, hcl⟩ := Q176 hs1
 have hun := (Q13 hi).map hk
 have hf := ko.find es (kvs.map (·.1)) k w (Q195 hm)
 have hset := set_mset (k := k) (v := v) hm
 have hgo : (getObj b).run P w = .ok (.map es.toArray clock) w := MapKept.run_getObj_map hb
 have hso : ∀ o, (setObj b o).run P w = .ok () { w with heap := w.heap.setIfInBounds b o } := fun o => MapKept.run_setObj_map o hb
 have hlt : b < w.heap.size := (Array.getElem?_eq_some_iff.1 hb).1
 have fin : ∀ (es' : List MapEntry) (clock' : Nat), es'.map (fun e => (e.key, e.val)) = (mset kvs k v).map (fun p => (kv p.1, vv p.2)) → es'.Pairwise (fun x y => x.born < y.born) → (∀ e ∈ es', e.born < clock') →
  sat R (mapo kv vv b (mset kvs k v) :: l') { w with heap := w.heap.setIfInBounds b (.map es'.toArray clock') } := fun es' clock' h1 h2 h3 => by
  obtain ⟨hh, ⟨_, _, hp, _⟩, s, kk⟩ := hs1.upd
  refine kk _ (single b (.map es'.toArray clock')) _ ⟨es', clock', Q216 _ _, h1, h2, h3⟩ rfl rfl rfl (Nat.le_refl _) (fun x o hx hn => ?_) (fun x o hx => ?_) (fun x o hx => ?_)
  ·have hne : b ≠ x := fun hxb => by subst hxb; rw [hp] at hn; cases hn
   show (w.heap.setIfInBounds b _)[x]? = _
   rw [Array.getElem?_setIfInBounds_ne hne]; exact hx
  ·obtain ⟨rfl, rfl⟩ := Q105 hx
   show (w.heap.setIfInBounds x _)[x]? = _
   simp [hlt]
  ·obtain ⟨rfl, rfl⟩ := Q105 hx; exact .inl ⟨_, hp⟩
 cases hr : ((kvs.map (·.1)).findIdx? (fun a => decide (a = k))).bind fun i => es[i]?.map fun e => (i, e.val) with
 | none =>
  rw [hr] at hset hf
  refine ⟨_, _, ?_, fin (es ++ [{ key := kv k, val := vv v, born := clock }]) (clock + 1) (by simpa using hset) ?_ ?_, h⟩
  ·simp [execOp, e.ev hx, e.ev hy, e.ev hz, Instr.mapUpdate, run_underlying hun, Result.andThen, hgo, ko.chk, hf, hso]
  ·rw [List.pairwise_append]
   exact ⟨hbn, by simp, fun x hx y hy => by simp at hy; subst hy; exact hcl x hx⟩
  ·intro e he
   rcases List.mem_append.1 he with he | he
   ·have := hcl e he; omega
   ·simp at he; subst he; exact Nat.lt_succ_self _
 | some p =>
  obtain ⟨i, v0⟩ := p
  rw [hr] at hset hf
  obtain ⟨j, hj, hj2⟩ := Option.bind_eq_some_iff.1 hr
  obtain ⟨e1, he1, he2⟩ := Option.map_eq_some_iff.1 hj2
  simp only [Prod.mk.injEq] at he2
  obtain ⟨rfl, rfl⟩ := he2
  have hkey : e1.key = kv k := by
   have hq := congrArg (fun l => l[j]?) (Q195 hm)
   simp only [List.getElem?_map, he1, Option.map_some] at hq
   obtain ⟨hl, hd, _⟩ := List.findIdx?_eq_some_iff_getElem.1 hj
   rw [← List.getElem?_map, List.getElem?_eq_getElem hl] at hq
   have hd' := of_decide_eq_true hd
   rw [hd'] at hq
   simpa using hq
  have hst : (Instr.keyThatStays (kv k) (kv k)).run P w = .ok (kv k) w := by simp [Instr.keyThatStays, ko.same]
  refine ⟨_, _, ?_, fin (es.modify j fun e => { e with key := kv k, val := vv v }) clock hset ?_ ?_, h⟩
  ·simp only [execOp, e.ev hx, e.ev hy, e.ev hz, Instr.mapUpdate, Sem.run_bind, run_underlying hun, Result.andThen, hgo, ko.chk, hf, List.getElem?_toArray, he1, Option.map_some, hkey, Option.getD_some, hst, hso, Sem.run_pure]
   simp
  ·have := Q265 (es := es) (i := j) (f := fun e => { e with key := kv k, val := vv v }) (fun _ => rfl)
   refine (List.pairwise_map (f := fun e : MapEntry => e.born) (R := fun x y : Nat => x < y)).1 ?_
   rw [this]
   exact List.pairwise_map.2 hbn
  ·intro e he
   have hmem : e.born ∈ (es.modify j fun e => { e with key := kv k, val := vv v }).map (·.born) := List.mem_map_of_mem he
   rw [Q265 (es := es) (i := j) (f := fun e => { e with key := kv k, val := vv v }) (fun _ => rfl)] at hmem
   obtain ⟨e', he', hb'⟩ := List.mem_map.1 hmem
   rw [← hb']
   exact hcl e' he'
theorem mapo_up {h h' : PHeap} (o : mapo kv vv b kvs h) (s : Sub h h') : mapo kv vv b kvs h' := let ⟨es, c, a, r⟩ := o; ⟨es, c, s _ _ a, r⟩
def Ow.mp (kv : κ → Value) (vv : ν → Value) : Ow (List (κ × ν)) := ⟨1, fun kvs cs h => ∃ b, cs = [.map (some b)] ∧ mapo kv vv b kvs h, fun ⟨_, h, _⟩ => by rw [h]; rfl, fun ⟨_, h, _⟩ u hu => by rw [h] at hu; simp at hu; subst hu; rfl, by decide,
 ⟨1, fun H kvs cs => ∃ b, cs = [.map (some b)] ∧ mapo kv vv b kvs H, fun ⟨_, h, _⟩ => by rw [h]; rfl, fun s ⟨b, h, o⟩ => ⟨b, h, let ⟨es, c, a, r⟩ := o; ⟨es, c, s _ _ a, r⟩⟩, by decide⟩, rfl, fun ⟨b, h, o⟩ s => ⟨b, h, let ⟨es, c, a, r⟩ := o; ⟨es, c, s _ _ a, r⟩⟩⟩
theorem Ent.mp : Ent [mapo kv vv b kvs] ((Ow.mp kv vv).own kvs [.map (some b)]) := fun h ⟨h1, _, a, _, _, s, _⟩ => ⟨b, rfl, mapo_up a s⟩
theorem At.ownMp {cs : List Value} (f : Frt l ((Ow.mp kv vv).own kvs cs) l') (h : ∀ b, cs = [.map (some b)] → At n ds R env (mapo kv vv b kvs :: l') K) : At n ds R env l K := fun a w e0 hs => by
 obtain ⟨ok, k, ⟨h1, h2, ⟨b, e1, r⟩, s⟩, dR⟩ := hs.frt f
 exact h b e1 a w e0 ⟨ok, k, ⟨h1, h2, r, s⟩, dR⟩
end
end Go.Bw
namespace Go.Bw
open Go Go.RowKit

theorem Q282 (s : Bs) : ((ByteArray.mk s.toArray) == (ByteArray.mk s.toArray)) = true := by rw [Q151]; exact Q65.2 rfl
section
variable {P : Program} [Tys P] {κ : Type} [DecidableEq κ] {w : World} {t : Nat}
theorem Q179 {xs : List Value} (em : Bool) : ∀ {fl : List Field} {fs : List (Nat × Nat)} {r : Bool}, fl.map (fun f => (f.type, f.offset)) = fs → eqcs P fs xs xs = some r →
 (do for f in fl do if f.name ≠ "_" then Instr.checkKey em 9999 f.type (← part f.type xs.toArray f.offset) : Sem Unit).run P w = .ok () w
 | [], _, r, rfl, h => by simp
 | f :: fl, _, r, rfl, h => by
  simp only [List.map_cons, eqcs] at h
  split at h
  ·rename_i j hj
   split at h
   ·rename_i hk hx hy
    split at h
    ·obtain ⟨q, hq, rfl⟩ := Option.map_eq_some_iff.1 h
     have hu := (Q13 hj).int hk
     have ih := Q179 em (fl := fl) rfl hq
     have hc : ∀ k a, (Instr.checkKey em 9999 f.type (.int k a)).run P w = .ok () w := fun k a => by
      show (Instr.checkKey em (9998 + 1) f.type _).run P w = _
      rw [Instr.checkKey]
      simp [run_underlying hu, Result.andThen]
     by_cases hn : f.name = "_"
     ·simpa [hn, Result.andThen] using ih
     ·simpa [hn, Q71 hx, hc, Result.andThen] using ih
    ·cases h
   ·rename_i hk hx hy
    obtain ⟨q, hq, rfl⟩ := Option.map_eq_some_iff.1 h
    have hu := (Q13 hj).bool hk
    have ih := Q179 em (fl := fl) rfl hq
    have hc : ∀ a, (Instr.checkKey em 9999 f.type (.bool a)).run P w = .ok () w := fun a => by
     show (Instr.checkKey em (9998 + 1) f.type _).run P w = _
     rw [Instr.checkKey]
     simp [run_underlying hu, Result.andThen]
    by_cases hn : f.name = "_"
    ·simpa [hn, Result.andThen] using ih
    ·simpa [hn, Q71 hx, hc, Result.andThen] using ih
   ·rename_i hk hx hy
    obtain ⟨q, hq, rfl⟩ := Option.map_eq_some_iff.1 h
    have hu := (Q13 hj).string hk
    have ih := Q179 em (fl := fl) rfl hq
    have hc : ∀ a, (Instr.checkKey em 9999 f.type (.string a)).run P w = .ok () w := fun a => by
     show (Instr.checkKey em (9998 + 1) f.type _).run P w = _
     rw [Instr.checkKey]
     simp [run_underlying hu, Result.andThen]
    by_cases hn : f.name = "_"
    ·simpa [hn, Result.andThen] using ih
    ·simpa [hn, Q71 hx, hc, Result.andThen] using ih
   ·cases h
  ·cases h
theorem Q272 {kv : κ → Value} (k : κ) (he : ∀ a, (Op.equal t (kv k) (kv a)).run P w = .ok (decide (a = k)) w) : ∀ (es : List MapEntry) (ks : List κ) (i : Nat), es.map (·.key) = ks.map kv →
 (Instr.findAsking t (kv k) es i).run P w = .ok ((ks.findIdx? (fun a => decide (a = k))).bind fun j => es[j]?.map fun e => (i + j, e.val)) w
 | [], [], i, _ => by simp [Instr.findAsking]
 | [], _ :: _, _, h => by simp at h
 | _ :: _, [], _, h => by simp at h
 | e :: es, a :: ks, i, h => by
  simp only [List.map_cons, List.cons.injEq] at h
  rw [Instr.findAsking, h.1]
  simp only [Sem.run_bind, he, Result.andThen]
  rw [List.findIdx?_cons]
  by_cases hk : a = k
  ·simp [hk]
  ·simp only [hk, decide_false, Bool.false_eq_true, if_false]
   rw [Q272 k he es ks (i + 1) h.2]
   cases hf : ks.findIdx? (fun a => decide (a = k)) with
   | none => rfl
   | some j =>
    simp
    congr 1
    funext e
    congr 1
    omega
theorem Q224 {kv : κ → Value} {fl : Array Field} (hu : P.underlying t = some (.struct fl)) (k : κ) (he : ∀ a, (Op.equal t (kv k) (kv a)).run P w = .ok (decide (a = k)) w) (es : List MapEntry) (ks : List κ) (h : es.map (·.key) = ks.map kv) :
 (Instr.findKey t (kv k) es).run P w = .ok ((ks.findIdx? (fun a => decide (a = k))).bind fun j => es[j]?.map fun e => (j, e.val)) w := by
 unfold Instr.findKey
 simp only [Sem.run_bind, run_underlying hu, Result.andThen]
 cases es with
 | nil =>
  cases ks with
  | nil => simp [Instr.findNow]
  | cons a ks => simp at h
 | cons e es =>
  have : Instr.findNow (.struct fl) (kv k) (e :: es) 0 = none := by simp [Instr.findNow, Instr.sameNow]
  rw [this]
  have := Q272 (P := P) (w := w) (t := t) k he (e :: es) ks 0 h
  simpa using this
theorem KeyOk.st {F : Fl κ} {fs : List (Nat × Nat)} {ii : TI} (hi : ti P t = some ii) (hk : ii.k = .struct fs) (hn : named P t = true) (hp : P.stoodInHeld t = false)
 (he : ∀ x y : κ, eqcs P fs (F.enc x) (F.enc y) = some (decide (x = y))) (hs : ∀ x : κ, ((F.enc x).zip (F.enc x)).all (fun p => Instr.sameBits 9999 p.1 p.2) = true) : KeyOk P t F.av := by
 obtain ⟨fl, hu, hm⟩ := (Q13 hi).struct hk
 refine ⟨fun k w em => ?_, fun es ks k w h => ?_, fun k => ?_⟩
 ·show (Instr.checkKey em (9999 + 1) t (.agg (F.enc k).toArray)).run P w = _
  rw [Instr.checkKey]
  have := Q179 (P := P) (w := w) em hm (he k k)
  simp only [Sem.run_bind, run_underlying hu, Result.andThen]
  rw [← Array.forIn_toList]
  simp [Result.andThen] at this ⊢
  rw [this]
 ·refine Q224 hu k (fun a => ?_) es ks h
  rw [show decide (a = k) = decide (k = a) from decide_eq_decide.2 eq_comm]
  exact Q206 hi hk hn hp (he k a)
 ·show Instr.sameBits (9999 + 1) (.agg (F.enc k).toArray) (.agg (F.enc k).toArray) = true
  simp only [Instr.sameBits]
  simpa using hs k
end
end Go.Bw
namespace Go.Bw
open Go Go.RowKit Go.Proofs
variable {R : Res} {Fr : List HProp} {A0 A0_1 A0_2 A0_3 : Option Addr} {n0 c0 n0_1 c0_1 n0_2 c0_2 n0_3 c0_3 : Nat}
structure Q5 where
 c0 : Int
 c1 : Int
 c2 : Int
 c3 : Int
deriving Inhabited, DecidableEq
def Q5.fl : Fl Q5 := ⟨4, fun x => [.int .u64 x.c0, .int .u64 x.c1, .int .u64 x.c2, .int .u64 x.c3], fun _ => rfl, fun x u hu => by simp at hu; rcases hu with rfl | rfl | rfl | rfl <;> rfl, by decide⟩
structure Q14 where
 from_ : Int
 action : Bs
deriving Inhabited, DecidableEq
def Q14.fl : Fl Q14 := ⟨2, fun x => [i6 x.from_, .string ⟨(x.action).toArray⟩], fun _ => rfl, fun x u hu => by simp at hu; rcases hu with rfl | rfl <;> rfl, by decide⟩
structure Q2 where
 states : Int
 holds : List (Bs × Q5)
 next : List (Q14 × Q5)
deriving Inhabited
def Q2.ow : Ow Q2 := ((Ow.fl (Fl.int .i64)).pair ((Ow.mp Fl.bs.ov Q5.fl.av).pair (Ow.mp Q14.fl.av Q5.fl.av))).iso (fun x => (x.states, x.holds, x.next))
theorem Q2.ent {x0 : Int} {b1 : Nat} {x1 : List (Bs × Q5)} {b2 : Nat} {x2 : List (Q14 × Q5)} : Ent [mapo Fl.bs.ov Q5.fl.av b1 x1, mapo Q14.fl.av Q5.fl.av b2 x2] (Q2.ow.own ⟨x0, x1, x2⟩ [i6 x0, .map (some b1), .map (some b2)]) := (Ent.pair (c1 := [i6 x0]) (c2 := [.map (some b1), .map (some b2)]) (Ent.fl (Fl.int .i64) rfl) (Ent.pair (c1 := [.map (some b1)]) (c2 := [.map (some b2)]) Ent.mp Ent.mp))
theorem Q14.keyok : KeyOk Tryz.prog 94 Q14.fl.av := KeyOk.st rfl rfl (by kernel_rfl) (by kernel_rfl) (fun x y => by
 refine (show _ = some (decide (x.from_ = y.from_) && (bseq x.action y.action && true)) from rfl).trans (congrArg some ?_)
 cases x
 cases y
 rw [Bool.eq_iff_iff]
 simp [Q65]) (fun x => by simp [Q14.fl, Instr.sameBits, Q282])

noncomputable def Q24.f (p q u B a1 : Int) : Option (Int × Int × Int × Int) :=
 jn (
 if 0 ≤ a1 then
 some (.inl (decide (a1 < 256)))
 else
 some (.inl false)) (fun (D : Bool) =>
 if D = true then
 if (0 : Int) ≤ (Bw.shr .i64 a1 6) ∧ (Bw.shr .i64 a1 6) < (4 : Int) then
 if (Bw.shr .i64 a1 6) = 0 then
 if (0 : Int) ≤ IntKind.u64.wrap (band .i64 a1 63) then
 some (bor .u64 p (Bw.shl .u64 1 (IntKind.u64.wrap (band .i64 a1 63))), q, u, B)
 else none
 else
 if (Bw.shr .i64 a1 6) = 1 then
 if (0 : Int) ≤ IntKind.u64.wrap (band .i64 a1 63) then
 some (p, bor .u64 q (Bw.shl .u64 1 (IntKind.u64.wrap (band .i64 a1 63))), u, B)
 else none
 else
 if (Bw.shr .i64 a1 6) = 2 then
 if (0 : Int) ≤ IntKind.u64.wrap (band .i64 a1 63) then
 some (p, q, bor .u64 u (Bw.shl .u64 1 (IntKind.u64.wrap (band .i64 a1 63))), B)
 else none
 else
 if (0 : Int) ≤ IntKind.u64.wrap (band .i64 a1 63) then
 some (p, q, u, bor .u64 B (Bw.shl .u64 1 (IntKind.u64.wrap (band .i64 a1 63))))
 else none
 else none
 else
 some (p, q, u, B))
theorem Q24.callee : Callee Tryz.prog 38 := ⟨_, Tryz.func38, by kernel_rfl, by kernel_rfl⟩
theorem Q24.spec {B D E G a1 : Int} {r : Int × Int × Int × Int} (j : Q24.f B D E G a1 = some r) :
 Spec Tryz.prog 38 [.agg #[.int .u64 B, .int .u64 D, .int .u64 E, .int .u64 G], i6 a1] R (Fr) (fun v l' => v = .agg #[.int .u64 r.1, .int .u64 r.2.1, .int .u64 r.2.2.1, .int .u64 r.2.2.2] ∧ Fr = l') := by
 refine Spec.of Tryz.func38 rfl rfl ?_; unfold Q24.f at j; have j := brun j; refine At.seq (At.region ?_); refine At.box rfl rfl (cs := [.int .u64 B, .int .u64 D, .int .u64 E, .int .u64 G]) rfl rfl (fun U => ?_); refine At.alloc rfl rfl rfl (fun V => ?_); refine nT (At.seq (sR 3 rfl ?_)); obtain ⟨a2, a3, a8, j⟩ := bjoin j; let T1 : HProp := pt V (.cells ([.int .u64 0, .int .u64 0, .int .u64 0, .int .u64 0] : List Value).toArray 43); let T2 : HProp := pc U [.int .u64 B, .int .u64 D, .int .u64 E, .int .u64 G] 43; refine At.joinO 3 (X := Bool) (fun u => [(1, i6 a1), (2, bp U), (4, bp V), (10, .bool u)]) (fun u => T1 :: T2 :: Fr) (fun u => a2 (.inl u) = some r) ?_ (fun Z => ?_)
 ·rintro u j; have j := (a3 _).symm.trans j
  ·refine nT ?_; rcases bite j with ⟨I, j⟩ | ⟨I, j⟩
   ··refine At.condT rfl I ?_
     refine At.region (At.run 1 rfl (At.y (Y.shr rfl rfl (by decide)) rfl rfl rfl ?_)); obtain ⟨p, j⟩ := bnone j; rcases bite j with ⟨J, j⟩ | ⟨J, j⟩
     ··refine At.y (Y.ixArrK rfl rfl rfl rfl rfl p.1 p.2 (q := 0) (off := 0) J rfl) rfl rfl rfl ?_
       refine At.y (Y.load rfl rfl (.s .z) rfl rfl rfl) rfl rfl rfl (At.run 3 rfl ?_); obtain ⟨a4, j⟩ := bnone j; refine At.y (Y.shl rfl rfl a4) rfl rfl rfl (At.run 1 rfl (At.y (Y.ixArrK rfl rfl rfl rfl rfl p.1 p.2 (q := 0) (off := 0) J rfl) rfl rfl rfl ?_)); refine At.store rfl rfl rfl rfl (.s .z) rfl rfl rfl (.c .n) ?_; refine nT (At.seq (At.region (At.y (Y.load rfl rfl .z rfl rfl rfl) rfl rfl rfl ?_))); refine At.store rfl rfl rfl rfl (.s .z) rfl rfl rfl (.c (.c (.c (.c .n)))) ?_; refine nT (At.ret ?_); refine At.resM (.inl rfl) rfl (RV.cell rfl rfl .z rfl rfl rfl RV.nil) ?_; refine At.drop .z (At.drop .z ?_); cases bret j; exact fun a w e hs => ⟨_, ⟨rfl, rfl⟩, hs⟩
     ··rcases bite j with ⟨L, j⟩ | ⟨L, j⟩
       ··refine At.y (Y.ixArrK rfl rfl rfl rfl rfl p.1 p.2 (q := 1) (off := 1) L rfl) rfl rfl rfl ?_
         refine At.y (Y.load rfl rfl (.s .z) rfl rfl rfl) rfl rfl rfl (At.run 3 rfl ?_); obtain ⟨a5, j⟩ := bnone j; refine At.y (Y.shl rfl rfl a5) rfl rfl rfl (At.run 1 rfl (At.y (Y.ixArrK rfl rfl rfl rfl rfl p.1 p.2 (q := 1) (off := 1) L rfl) rfl rfl rfl ?_)); refine At.store rfl rfl rfl rfl (.s .z) rfl rfl rfl (.s (.c .n)) ?_; refine nT (At.seq (At.region (At.y (Y.load rfl rfl .z rfl rfl rfl) rfl rfl rfl ?_))); refine At.store rfl rfl rfl rfl (.s .z) rfl rfl rfl (.c (.c (.c (.c .n)))) ?_; refine nT (At.ret ?_); refine At.resM (.inl rfl) rfl (RV.cell rfl rfl .z rfl rfl rfl RV.nil) ?_; refine At.drop .z (At.drop .z ?_); cases bret j; exact fun a w e hs => ⟨_, ⟨rfl, rfl⟩, hs⟩
       ··rcases bite j with ⟨N, j⟩ | ⟨N, j⟩
         ··refine At.y (Y.ixArrK rfl rfl rfl rfl rfl p.1 p.2 (q := 2) (off := 2) N rfl) rfl rfl rfl ?_
           refine At.y (Y.load rfl rfl (.s .z) rfl rfl rfl) rfl rfl rfl (At.run 3 rfl ?_); obtain ⟨a6, j⟩ := bnone j; refine At.y (Y.shl rfl rfl a6) rfl rfl rfl (At.run 1 rfl (At.y (Y.ixArrK rfl rfl rfl rfl rfl p.1 p.2 (q := 2) (off := 2) N rfl) rfl rfl rfl ?_)); refine At.store rfl rfl rfl rfl (.s .z) rfl rfl rfl (.s (.s (.c .n))) ?_; refine nT (At.seq (At.region (At.y (Y.load rfl rfl .z rfl rfl rfl) rfl rfl rfl ?_))); refine At.store rfl rfl rfl rfl (.s .z) rfl rfl rfl (.c (.c (.c (.c .n)))) ?_; refine nT (At.ret ?_); refine At.resM (.inl rfl) rfl (RV.cell rfl rfl .z rfl rfl rfl RV.nil) ?_; refine At.drop .z (At.drop .z ?_); cases bret j; exact fun a w e hs => ⟨_, ⟨rfl, rfl⟩, hs⟩
         ··have a0 : (Bw.shr .i64 a1 6) = 3 := by have h1_ := p; omega
           refine At.y (Y.ixArrK rfl rfl rfl rfl rfl p.1 p.2 (q := 3) (off := 3) a0 rfl) rfl rfl rfl (At.y (Y.load rfl rfl (.s .z) rfl rfl rfl) rfl rfl rfl (At.run 3 rfl ?_)); obtain ⟨a7, j⟩ := bnone j; refine At.y (Y.shl rfl rfl a7) rfl rfl rfl (At.run 1 rfl (At.y (Y.ixArrK rfl rfl rfl rfl rfl p.1 p.2 (q := 3) (off := 3) a0 rfl) rfl rfl rfl ?_)); refine At.store rfl rfl rfl rfl (.s .z) rfl rfl rfl (.s (.s (.s (.c .n)))) ?_; refine nT (At.seq (At.region (At.y (Y.load rfl rfl .z rfl rfl rfl) rfl rfl rfl ?_))); refine At.store rfl rfl rfl rfl (.s .z) rfl rfl rfl (.c (.c (.c (.c .n)))) ?_; refine nT (At.ret ?_); refine At.resM (.inl rfl) rfl (RV.cell rfl rfl .z rfl rfl rfl RV.nil) ?_; refine At.drop .z (At.drop .z ?_); cases bret j; exact fun a w e hs => ⟨_, ⟨rfl, rfl⟩, hs⟩
   ··refine At.condF rfl (bn I) ?_
     refine At.skip (At.thn (At.seq (At.region (At.y (Y.load rfl rfl (.s .z) rfl rfl rfl) rfl rfl rfl ?_)))); refine At.store rfl rfl rfl rfl .z rfl rfl rfl (.c (.c (.c (.c .n)))) ?_; refine nT (At.ret ?_); refine At.resM (.inl rfl) rfl (RV.cell rfl rfl .z rfl rfl rfl RV.nil) ?_; refine At.drop .z (At.drop .z ?_); cases bret j; exact fun a w e hs => ⟨_, ⟨rfl, rfl⟩, hs⟩
 ··rcases bite j with ⟨O, j⟩ | ⟨O, j⟩
   ··refine At.know (t := 7) rfl (decide_eq_true O) ?_
     refine At.run 3 rfl ?_; exact At.of (Z (decide (a1 < 256)) j) ⟨rfl, rfl, rfl, rfl, trivial⟩
   ··refine At.know (t := 7) rfl (decide_eq_false O) ?_
     refine At.run 3 rfl ?_; exact At.of (Z false j) ⟨rfl, rfl, rfl, rfl, trivial⟩

noncomputable def Q54.l0b (a0 : List Int) (u B D E p : Int) : Option ((Int × Int × Int × Int × Int) ⊕ ((Int × Int × Int × Int) ⊕ (Int × Int × Int × Int))) :=
 if p < (a0.length : Int) then
 if (0 : Int) ≤ p ∧ p < (a0.length : Int) then
 (Q24.f u B D E (gt a0 p)).bind fun q =>
 nx (q.1, q.2.1, q.2.2.1, q.2.2.2, IntKind.i64.wrap (p + 1))
 else none
 else
 dn (.inl (u, B, D, E))
noncomputable def Q54.l0 (a0 : List Int) (p q u B D : Int) : Option ((Int × Int × Int × Int) ⊕ (Int × Int × Int × Int)) := iter (fun t_ : Int × Int × Int × Int × Int => Q54.l0b a0 t_.1 t_.2.1 t_.2.2.1 t_.2.2.2.1 t_.2.2.2.2) (p, q, u, B, D)
noncomputable def Q54.f (a0 : List Int) : Option (Int × Int × Int × Int) :=
 jn (Q54.l0 a0 0 0 0 0 0) (fun (s_ : Int × Int × Int × Int) =>
 some (s_.1, s_.2.1, s_.2.2.1, s_.2.2.2))
theorem Q54.callee : Callee Tryz.prog 60 := ⟨_, Tryz.func60, by kernel_rfl, by kernel_rfl⟩
theorem Q54.spec {a0 : List Int} (hr0 : RdS (Fl.int .i64).rep R.heap A0 a0) (hn0 : a0.length = n0) (hc0 : n0 ≤ c0) {r : Int × Int × Int × Int} (j : Q54.f a0 = some r) :
 Spec Tryz.prog 60 [.slice A0 n0 c0] R (Fr) (fun v l' => v = .agg #[.int .u64 r.1, .int .u64 r.2.1, .int .u64 r.2.2.1, .int .u64 r.2.2.2] ∧ Fr = l') := by
 subst hn0; refine Spec.of Tryz.func60 rfl rfl ?_; unfold Q54.f at j; have j := brun j; refine At.seq (At.region ?_); refine At.alloc rfl rfl rfl (fun E => ?_); refine nT (At.seq (At.region ?_)); refine At.alloc rfl rfl rfl (fun u => ?_); refine nT (At.seq (sR 3 rfl (nT ?_))); refine At.block ?_; obtain ⟨a1, a2, a8, j⟩ := bjoin j; obtain ⟨L, G, a3⟩ := bsome j; clear j; unfold Q54.l0 at G; obtain ⟨I, p⟩ := Q12.1 G; clear G; let T3 : HProp := pt E (.cells ([.int .u64 0, .int .u64 0, .int .u64 0, .int .u64 0] : List Value).toArray 43); refine At.loopJ (X := Int × Int × Int × Int × Int) (Y := Int × Int × Int × Int) (e0 := 0) (fun s_ => [(2, bp E), (3, bp u), (6, .slice A0 a0.length c0), (7, i6 (a0.length : Int)), (8, i6 s_.2.2.2.2)]) (fun s_ => pc u [.int .u64 s_.1, .int .u64 s_.2.1, .int .u64 s_.2.2.1, .int .u64 s_.2.2.2.1] 43 :: T3 :: Fr) (fun m_ => fun s_ => iterN (fun t_ : Int × Int × Int × Int × Int => Q54.l0b a0 t_.1 t_.2.1 t_.2.2.1 t_.2.2.2.1 t_.2.2.2.2) m_ (s_.1, s_.2.1, s_.2.2.1, s_.2.2.2.1, s_.2.2.2.2) = some L) I (0, 0, 0, 0, 0) p (fun s_ => [(2, bp E), (3, bp u)]) (fun s_ => pc u [.int .u64 s_.1, .int .u64 s_.2.1, .int .u64 s_.2.2.1, .int .u64 s_.2.2.2] 43 :: T3 :: Fr) (fun s_ => a1 (.inl (s_.1, s_.2.1, s_.2.2.1, s_.2.2.2)) = some r) (fun a w e hs => ⟨e.sub ⟨rfl, rfl, rfl, rfl, rfl, trivial⟩, (by exact hs)⟩) ?_ (fun a4 => ?_)
 ·rintro ⟨a9, b4, b5, b6⟩ j; have j := (a2 _).symm.trans j
  ·refine At.ibx ?_; refine At.thn (At.seq (At.region (At.y (Y.load rfl rfl .z rfl rfl rfl) rfl rfl rfl ?_))); refine At.store rfl rfl rfl rfl (.s .z) rfl rfl rfl (.c (.c (.c (.c .n)))) ?_; refine nT (At.ret ?_); refine At.resM (.inl rfl) rfl (RV.cell rfl rfl .z rfl rfl rfl RV.nil) ?_; refine At.drop .z (At.drop .z ?_); cases bret j; exact fun a w e hs => ⟨_, ⟨rfl, rfl⟩, hs⟩
 ·clear p I; rintro I ⟨N, O, U, V, Z⟩ p; obtain ⟨a5, f_, a6, hf_, j⟩ := bit p; clear p; have j : (Q54.l0b a0 N O U V Z).bind _ = some L := j; unfold Q54.l0b at j
  ·refine sR 1 rfl (nT (At.seq ?_)); rcases bite j with ⟨J, j⟩ | ⟨J, j⟩
   ··refine At.condT rfl (decide_eq_true J) ?_
     refine At.skip (At.thn (At.seq ?_)); refine At.block ?_; refine At.seq (At.region ?_); obtain ⟨B, j⟩ := bnone j; refine At.y (Y.ixRd hr0 rfl rfl rfl rfl rfl rfl rfl B.1 B.2) rfl rfl rfl (At.y (Y.ldFl hr0 rfl (q := 0) rfl rfl B.1 B.2 rfl rfl rfl) rfl rfl rfl (At.run 1 rfl (nT (At.region (At.y (Y.load rfl rfl .z rfl rfl rfl) rfl rfl rfl (At.run 1 rfl ?_)))))); obtain ⟨D, a7, j⟩ := bbind j; refine At.call rfl Q24.callee rfl rfl rfl (Q24.spec a7) ?_; rintro _ _ ⟨rfl, rfl⟩; refine At.store rfl rfl rfl rfl .z rfl rfl rfl (.c (.c (.c (.c .n)))) ?_; refine At.nil ?_; refine At.ibn ?_; refine At.thn (At.region (At.run 2 rfl (At.nil ?_))); have j := bnx hf_ j; exact fun a w e hs => ⟨a5, (D.1, D.2.1, D.2.2.1, D.2.2.2, IntKind.i64.wrap (Z + 1)), a6, j, e.sub ⟨rfl, rfl, rfl, rfl, rfl, trivial⟩, hs⟩
   ··refine At.condF rfl (decide_eq_false J) ?_
     refine At.exit ?_; refine At.the ?_; refine At.the ?_; exact fun a w e hs => a4 (N, O, U, V) (bdn j a3) a w (e.sub ⟨rfl, rfl, trivial⟩) hs

noncomputable def Q21.l2b (B : List Bs) (p : List Q0) (q : Int) (D : List (Q14 × Q5)) (u : Int) : Option (((List (Q14 × Q5)) × Int) ⊕ (((List (Q14 × Q5))) ⊕ (((List (Q14 × Q5)) × Int) ⊕ (((List (Q14 × Q5))) ⊕ ((Option Q2)))))) :=
 if u < (([(gt B ((gt p q).Action)), ([45] : Bs)] : List Bs).length : Int) then
 if (0 : Int) ≤ u ∧ u < (([(gt B ((gt p q).Action)), ([45] : Bs)] : List Bs).length : Int) then
 (Q24.f (((mget D (⟨(gt p q).From, gt ([(gt B ((gt p q).Action)), ([45] : Bs)] : List Bs) u⟩ : Q14)).getD (⟨(0 : Int), (0 : Int), (0 : Int), (0 : Int)⟩ : Q5)).c0) (((mget D (⟨(gt p q).From, gt ([(gt B ((gt p q).Action)), ([45] : Bs)] : List Bs) u⟩ : Q14)).getD (⟨(0 : Int), (0 : Int), (0 : Int), (0 : Int)⟩ : Q5)).c1) (((mget D (⟨(gt p q).From, gt ([(gt B ((gt p q).Action)), ([45] : Bs)] : List Bs) u⟩ : Q14)).getD (⟨(0 : Int), (0 : Int), (0 : Int), (0 : Int)⟩ : Q5)).c2) (((mget D (⟨(gt p q).From, gt ([(gt B ((gt p q).Action)), ([45] : Bs)] : List Bs) u⟩ : Q14)).getD (⟨(0 : Int), (0 : Int), (0 : Int), (0 : Int)⟩ : Q5)).c3) ((gt p q).To)).bind fun E =>
 nx ((mset D (⟨(gt p q).From, gt ([(gt B ((gt p q).Action)), ([45] : Bs)] : List Bs) u⟩ : Q14) (⟨E.1, E.2.1, E.2.2.1, E.2.2.2⟩ : Q5)), IntKind.i64.wrap (u + 1))
 else none
 else
 dn (.inl D)
noncomputable def Q21.l2 (p : List Bs) (q : List Q0) (u : Int) (B : List (Q14 × Q5)) (D : Int) : Option (((List (Q14 × Q5))) ⊕ (((List (Q14 × Q5)) × Int) ⊕ (((List (Q14 × Q5))) ⊕ ((Option Q2))))) := iter (fun t_ : (List (Q14 × Q5)) × Int => Q21.l2b p q u t_.1 t_.2) (B, D)
noncomputable def Q21.l1b (u : List Bs) (q : List Q0) (B : List (Q14 × Q5)) (p : Int) : Option (((List (Q14 × Q5)) × Int) ⊕ (((List (Q14 × Q5))) ⊕ ((Option Q2)))) :=
 if p < (q.length : Int) then
 if (0 : Int) ≤ p ∧ p < (q.length : Int) then
 if (0 : Int) ≤ (gt q p).Action ∧ (gt q p).Action < (u.length : Int) then
 jn (Q21.l2 u q p B 0) (fun (D : List (Q14 × Q5)) =>
 nx (D, IntKind.i64.wrap (p + 1)))
 else none
 else none
 else
 dn (.inl B)
noncomputable def Q21.l1 (p : List Bs) (q : List Q0) (u : List (Q14 × Q5)) (B : Int) : Option (((List (Q14 × Q5))) ⊕ ((Option Q2))) := iter (fun t_ : (List (Q14 × Q5)) × Int => Q21.l1b p q t_.1 t_.2) (u, B)
noncomputable def Q21.l0b (q : List Q1) (B : List (Bs × Q5)) (p : Int) : Option (((List (Bs × Q5)) × Int) ⊕ (((List (Bs × Q5))) ⊕ ((Option Q2)))) :=
 if p < (q.length : Int) then
 if (0 : Int) ≤ p ∧ p < (q.length : Int) then
 (Q54.f ((gt q p).States)).bind fun u =>
 nx ((mset B ((gt q p).Name) (⟨u.1, u.2.1, u.2.2.1, u.2.2.2⟩ : Q5)), IntKind.i64.wrap (p + 1))
 else none
 else
 dn (.inl B)
noncomputable def Q21.l0 (p : List Q1) (q : List (Bs × Q5)) (u : Int) : Option (((List (Bs × Q5))) ⊕ ((Option Q2))) := iter (fun t_ : (List (Bs × Q5)) × Int => Q21.l0b p t_.1 t_.2) (q, u)
noncomputable def Q21.f (p : Int) (q : List Bs) (u : List Q0) (B : List Q1) : Option (Option Q2) :=
 (Q29.f p q u B).bind fun D =>
 if D = true then
 jn (Q21.l0 B ([] : List (Bs × Q5)) 0) (fun (E : List (Bs × Q5)) =>
 jn (Q21.l1 q u ([] : List (Q14 × Q5)) 0) (fun (G : List (Q14 × Q5)) =>
 some (some (⟨p, E, G⟩ : Q2))))
 else
 some none
theorem Q21.callee : Callee Tryz.prog 19 := ⟨_, Tryz.func19, by kernel_rfl, by kernel_rfl⟩
theorem Q21.spec {E : Int} {B : List Bs} {p : List Q0} {D : List Q1} (hr0_1 : RdS Fl.bs.rep R.heap A0_1 B) (hn0_1 : B.length = n0_1) (hc0_1 : n0_1 ≤ c0_1) (hr0_2 : RdS Q0.fl.rep R.heap A0_2 p) (hn0_2 : p.length = n0_2) (hc0_2 : n0_2 ≤ c0_2) (hr0_3 : RdS Q1.rep R.heap A0_3 D) (hn0_3 : D.length = n0_3) (hc0_3 : n0_3 ≤ c0_3) {r : (Option Q2)} (j : Q21.f E B p D = some r) :
 Spec Tryz.prog 19 [.agg #[i6 E, .slice A0_1 n0_1 c0_1, .slice A0_2 n0_2 c0_2, .slice A0_3 n0_3 c0_3]] R (Fr) (fun v l' => ∃ (d5 : Option Nat), v = optp d5 ∧ optb Q2.ow 91 d5 r :: Fr = l') := by
 subst hn0_1; subst hn0_2; subst hn0_3; refine Spec.of Tryz.func19 rfl rfl ?_; unfold Q21.f at j; have j := brun j; refine At.seq (At.region ?_); refine At.box rfl rfl (cs := [i6 E, .slice A0_1 B.length c0_1, .slice A0_2 p.length c0_2, .slice A0_3 D.length c0_3]) rfl rfl (fun V => ?_); refine At.run 1 rfl (nT (At.seq (At.seq (At.region (At.y (Y.load rfl rfl .z rfl rfl rfl) rfl rfl rfl ?_))))); obtain ⟨h5, e2, j⟩ := bbind j; refine At.call rfl Q29.callee rfl rfl rfl (Q29.spec hr0_1 rfl hc0_1 hr0_2 rfl hc0_2 hr0_3 rfl hc0_3 e2) ?_; rintro _ _ ⟨rfl, rfl⟩; refine At.run 1 rfl (nT ?_); rcases bite j with ⟨a9, j⟩ | ⟨a9, j⟩
 ··refine At.condF rfl (nf a9) ?_
   refine At.skip (At.thn (sR 1 rfl (At.y (Y.load rfl rfl .z rfl rfl rfl) rfl rfl rfl ?_))); refine At.makeMap Fl.bs.ov Q5.fl.av rfl rfl (fun O => ?_); refine At.makeMap Q14.fl.av Q5.fl.av rfl rfl (fun G => ?_); refine At.y (Y.build (is := [0, 1, 2]) (xo := [.tmp 15, .tmp 16, .tmp 17]) (vs := [i6 E, .map (some O), .map (some G)]) (cs := [i6 E, .map (some O), .map (some G)]) rfl rfl rfl rfl rfl rfl) rfl rfl rfl ?_; refine At.box rfl rfl (cs := [i6 E, .map (some O), .map (some G)]) rfl rfl (fun I => ?_); refine At.run 1 rfl (nT (At.seq (sR 1 rfl (At.y (Y.load rfl rfl (.s (.s (.s .z))) rfl rfl rfl) rfl rfl rfl ?_)))); refine At.run 2 rfl (nT ?_); refine At.block ?_; obtain ⟨e3, e4, h6, j⟩ := bjoin j; obtain ⟨d6, b4, e5⟩ := bsome j; clear j; unfold Q21.l0 at b4; obtain ⟨b5, a2⟩ := Q12.1 b4; clear b4; let T4 : HProp := pc I [i6 E, .map (some O), .map (some G)] 91; let T5 : HProp := mapo Q14.fl.av Q5.fl.av G ([] : List (Q14 × Q5)); let T6 : HProp := pc V [i6 E, .slice A0_1 B.length c0_1, .slice A0_2 p.length c0_2, .slice A0_3 D.length c0_3] 26; refine At.loopJ (X := (List (Bs × Q5)) × Int) (Y := (List (Bs × Q5))) (e0 := 0) (fun s_ => [(1, bp V), (3, bp I), (21, .slice A0_3 D.length c0_3), (22, i6 (D.length : Int)), (23, i6 s_.2)]) (fun s_ => T4 :: T5 :: mapo Fl.bs.ov Q5.fl.av O s_.1 :: T6 :: Fr) (fun m_ => fun s_ => iterN (fun t_ : (List (Bs × Q5)) × Int => Q21.l0b D t_.1 t_.2) m_ (s_.1, s_.2) = some d6) b5 (([] : List (Bs × Q5)), 0) a2 (fun U => [(1, bp V), (3, bp I)]) (fun U => T4 :: T5 :: mapo Fl.bs.ov Q5.fl.av O U :: T6 :: Fr) (fun U => e3 (.inl U) = some r) (fun a w e hs => ⟨e.sub ⟨rfl, rfl, rfl, rfl, rfl, trivial⟩, (by exact hs)⟩) ?_ (fun e6 => ?_)
   ·rintro U j; have j := (e4 _).symm.trans j
    ·refine At.ibx ?_; refine At.thn (At.seq (sR 1 rfl (At.y (Y.load rfl rfl (.s (.s (.s .z))) rfl rfl rfl) rfl rfl rfl (At.run 2 rfl (At.nil ?_))))); refine At.thn ?_; refine At.block ?_; obtain ⟨e7, e8, h7, j⟩ := bjoin j; obtain ⟨b6, b7, e9⟩ := bsome j; clear j; unfold Q21.l1 at b7; obtain ⟨b8, a3⟩ := Q12.1 b7; clear b7; let T7 : HProp := mapo Fl.bs.ov Q5.fl.av O U; refine At.loopJ (X := (List (Q14 × Q5)) × Int) (Y := (List (Q14 × Q5))) (e0 := 2) (fun s_ => [(1, bp V), (3, bp I), (38, .slice A0_2 p.length c0_2), (39, i6 (p.length : Int)), (40, i6 s_.2)]) (fun s_ => T4 :: mapo Q14.fl.av Q5.fl.av G s_.1 :: T7 :: T6 :: Fr) (fun m_ => fun s_ => iterN (fun t_ : (List (Q14 × Q5)) × Int => Q21.l1b B p t_.1 t_.2) m_ (s_.1, s_.2) = some b6) b8 (([] : List (Q14 × Q5)), 0) a3 (fun Z => [(3, bp I)]) (fun Z => T4 :: mapo Q14.fl.av Q5.fl.av G Z :: T7 :: T6 :: Fr) (fun Z => e7 (.inl Z) = some r) (fun a w e hs => ⟨e.sub ⟨rfl, rfl, rfl, rfl, rfl, trivial⟩, (by exact hs)⟩) ?_ (fun f0 => ?_)
     ·rintro Z j; have j := (e8 _).symm.trans j
      ·refine At.ibx ?_; refine At.thn (sR 2 rfl (nT (At.ret (At.f1 ?_)))); refine At.f2 (At.f2 ?_); refine At.optSome (x := (⟨E, U, Z⟩ : Q2)) Q2.ent ?_; refine At.drop (.s .z) ?_; cases bret j; exact At.res (.inl rfl) rfl rfl ⟨(some I), rfl, rfl⟩
     ·clear a3 b8; rintro b8 ⟨b9, u⟩ a3; obtain ⟨f4, f_, f6, hf_, j⟩ := bit a3; clear a3; have j : (Q21.l1b B p b9 u).bind _ = some b6 := j; unfold Q21.l1b at j
      ·refine sR 1 rfl (nT (At.seq ?_)); rcases bite j with ⟨c8, j⟩ | ⟨c8, j⟩
       ··refine At.condT rfl (decide_eq_true c8) ?_
         refine At.skip (At.thn (At.seq ?_)); refine At.block ?_; refine At.seq (At.region ?_); obtain ⟨a5, j⟩ := bnone j; refine At.y (Y.ixRd hr0_2 rfl rfl rfl rfl rfl rfl rfl a5.1 a5.2) rfl rfl rfl (At.y (Y.ldFl hr0_2 rfl (q := 0) rfl rfl a5.1 a5.2 rfl rfl rfl) rfl rfl rfl ?_); refine At.alloc rfl rfl rfl (fun d7 => ?_); refine At.store rfl rfl rfl rfl .z rfl rfl rfl (.c (.c (.c .n))) ?_; refine nT (sR 1 rfl ?_); refine At.y (Y.load rfl rfl (.s (.s (.s (.s .z)))) rfl rfl rfl) rfl rfl rfl ?_; refine At.run 1 rfl (At.y (Y.load rfl rfl .z rfl rfl rfl) rfl rfl rfl ?_); obtain ⟨a6, j⟩ := bnone j; refine At.y (Y.ixRd hr0_1 rfl rfl rfl rfl rfl rfl rfl a6.1 a6.2) rfl rfl rfl (At.y (Y.ldFl hr0_1 rfl (q := 0) rfl rfl a6.1 a6.2 rfl rfl rfl) rfl rfl rfl ?_); refine At.lit rfl (xo := [.tmp 49, .const (.string ⟨#[45]⟩)]) (ys := ([(gt B ((gt p u).Action)), ([45] : Bs)] : List Bs)) Fl.bs rfl rfl rfl rfl rfl rfl rfl rfl rfl rfl rfl (fun d8 d9 => ?_); refine At.run 2 rfl (nT ?_); refine At.block ?_; obtain ⟨f7, f8, h8, j⟩ := bjoin j; obtain ⟨e1, c9, f9⟩ := bsome j; clear j; unfold Q21.l2 at c9; obtain ⟨d0, a4⟩ := Q12.1 c9; clear c9; let T8 : HProp := row Fl.bs 9 d8 (([(gt B ((gt p u).Action)), ([45] : Bs)] : List Bs).length) d9 ([(gt B ((gt p u).Action)), ([45] : Bs)] : List Bs); let T9 : HProp := pc d7 [i6 ((gt p u).From), i6 ((gt p u).Action), i6 ((gt p u).To)] 35; refine At.loopJ (X := (List (Q14 × Q5)) × Int) (Y := (List (Q14 × Q5))) (e0 := 4) (fun s_ => [(1, bp V), (3, bp I), (7, bp d7), (38, .slice A0_2 p.length c0_2), (39, i6 (p.length : Int)), (40, i6 u), (50, .slice d8 (([(gt B ((gt p u).Action)), ([45] : Bs)] : List Bs).length) d9), (51, i6 (([(gt B ((gt p u).Action)), ([45] : Bs)] : List Bs).length : Int)), (52, i6 s_.2)]) (fun s_ => T8 :: T9 :: T4 :: mapo Q14.fl.av Q5.fl.av G s_.1 :: T7 :: T6 :: Fr) (fun m_ => fun s_ => iterN (fun t_ : (List (Q14 × Q5)) × Int => Q21.l2b B p u t_.1 t_.2) m_ (s_.1, s_.2) = some e1) d0 (b9, 0) a4 (fun a0 => [(1, bp V), (3, bp I), (38, .slice A0_2 p.length c0_2), (39, i6 (p.length : Int)), (40, i6 u)]) (fun a0 => T8 :: T9 :: T4 :: mapo Q14.fl.av Q5.fl.av G a0 :: T7 :: T6 :: Fr) (fun a0 => f7 (.inl a0) = some b6) (fun a w e hs => ⟨e.sub ⟨rfl, rfl, rfl, rfl, rfl, rfl, rfl, rfl, rfl, trivial⟩, (by exact hs)⟩) ?_ (fun g0 => ?_)
         ·rintro a0 j; have j := (f8 _).symm.trans j
          ·refine At.ibx ?_; refine At.ibn ?_; refine At.thn (At.region (At.run 2 rfl (At.nil (At.drop .z (At.drop .z ?_))))); have j := bnx hf_ j; exact fun a w e hs => ⟨f4, (a0, IntKind.i64.wrap (u + 1)), f6, j, e.sub ⟨rfl, rfl, rfl, rfl, rfl, trivial⟩, hs⟩
         ·clear a4 d0; rintro d0 ⟨d1, J⟩ a4; obtain ⟨g1, f_, g2, hf_, j⟩ := bit a4; clear a4; have j : (Q21.l2b B p u d1 J).bind _ = some e1 := j; unfold Q21.l2b at j
          ·refine sR 1 rfl (nT (At.seq ?_)); rcases bite j with ⟨d2, j⟩ | ⟨d2, j⟩
           ··refine At.condT rfl (decide_eq_true d2) ?_
             refine At.skip (At.thn (At.seq ?_)); refine At.block ?_; refine At.seq (At.region ?_); obtain ⟨a7, j⟩ := bnone j; refine At.y (Y.ix .z rfl rfl rfl rfl rfl rfl a7.1 a7.2) rfl rfl rfl (At.y (Y.ld .z (q := 0) rfl rfl a7.1 a7.2 rfl rfl rfl) rfl rfl rfl (At.run 1 rfl (nT (sR 1 rfl ?_)))); refine At.y (Y.load rfl rfl (.s .z) rfl rfl rfl) rfl rfl rfl (At.run 1 rfl ?_); refine At.y (Y.build (is := [0, 1]) (xo := [.tmp 57, .tmp 58]) (vs := [i6 ((gt p u).From), .string ⟨(gt ([(gt B ((gt p u).Action)), ([45] : Bs)] : List Bs) J).toArray⟩]) (cs := [i6 ((gt p u).From), .string ⟨(gt ([(gt B ((gt p u).Action)), ([45] : Bs)] : List Bs) J).toArray⟩]) rfl rfl rfl rfl rfl rfl) rfl rfl rfl ?_; refine At.alloc rfl rfl rfl (fun g3 => ?_); refine At.store rfl rfl rfl rfl .z rfl rfl rfl (.c (.c .n)) ?_; refine nT ?_; refine At.held [pc g3 [i6 ((gt p u).From), .string ⟨(gt ([(gt B ((gt p u).Action)), ([45] : Bs)] : List Bs) J).toArray⟩] 94, T8, T9, T4, T7, T6] 15 rfl ?_; refine At.H.pw 0 rfl rfl rfl rfl rfl (.c .z (.c .z (.c .z (.c .z (.c (.s .z) (.c (.s .z) .n)))))) ?_; refine At.H.pw 1 rfl rfl rfl rfl rfl (.c .z (.c .z (.c .z (.c .z (.c (.s .z) (.c (.s .z) .n)))))) ?_; refine At.H.pw 2 rfl rfl rfl rfl rfl (.c .z (.c .z (.c .z (.c .z (.c (.s .z) (.c (.s .z) .n)))))) ?_; refine At.H.tw 3 rfl (Y.load rfl rfl (.s (.s (.s .z))) rfl rfl rfl) rfl rfl rfl (.c .z (.c .z (.c .z (.c .z (.c (.s .z) (.c (.s .z) .n)))))) ?_; refine At.H.tw 4 rfl (Y.load rfl rfl .z rfl rfl rfl) rfl rfl rfl (.c .z (.c .z (.c .z (.c .z (.c (.s .z) (.c (.s .z) .n)))))) ?_; refine At.H.pw 5 rfl rfl rfl rfl rfl (.c .z (.c .z (.c .z (.c .z (.c (.s .z) (.c (.s .z) .n)))))) ?_; refine At.H.pw 6 rfl rfl rfl rfl rfl (.c .z (.c .z (.c .z (.c .z (.c (.s .z) (.c (.s .z) .n)))))) ?_; refine At.H.pw 7 rfl rfl rfl rfl rfl (.c .z (.c .z (.c .z (.c .z (.c (.s .z) (.c (.s .z) .n)))))) ?_; refine At.H.tw 8 rfl (Y.load rfl rfl (.s (.s (.s .z))) rfl rfl rfl) rfl rfl rfl (.c .z (.c .z (.c .z (.c .z (.c (.s .z) (.c (.s .z) .n)))))) ?_; refine At.H.tw 9 rfl (Y.load rfl rfl .z rfl rfl rfl) rfl rfl rfl (.c .z (.c .z (.c .z (.c .z (.c (.s .z) (.c (.s .z) .n)))))) ?_; refine At.H.pw 11 rfl rfl rfl rfl rfl (.c .z (.c .z (.c .z (.c .z (.c (.s .z) (.c (.s .z) .n)))))) ?_; refine At.H.tw 12 rfl (Y.load rfl rfl (.s (.s .z)) rfl rfl rfl) rfl rfl rfl (.c .z (.c .z (.c .z (.c .z (.c (.s .z) (.c (.s .z) .n)))))) ?_; refine At.H.al [10] (Q7 ?_ Q11)
             ··refine At.HO.op rfl ?_
               refine At.y (Y.lookup (k := (⟨(gt p u).From, gt ([(gt B ((gt p u).Action)), ([45] : Bs)] : List Bs) J⟩ : Q14)) (z := (⟨(0 : Int), (0 : Int), (0 : Int), (0 : Int)⟩ : Q5)) (.s (.s (.s (.s .z)))) rfl rfl Q14.keyok (by kernel_rfl) rfl rfl rfl) rfl rfl rfl ?_; refine At.HO.back (.c .z (.c .z (.c .z (.c .z (.c (.s .z) (.c (.s .z) .n)))))) ?_; refine At.H.al [13] (Q7 ?_ Q11)
               ··refine At.HO.op rfl ?_
                 obtain ⟨L, g4, j⟩ := bbind j; refine At.call rfl Q24.callee rfl rfl rfl (Q24.spec g4) ?_; rintro _ _ ⟨rfl, rfl⟩; refine At.HO.back (.c .z (.c .z (.c .z (.c .z (.c (.s .z) (.c (.s .z) .n)))))) ?_; refine At.H.al [14] (Q7 ?_ Q11)
                 ··refine At.HO.op rfl ?_
                   refine At.mapUpdate (k := (⟨(gt p u).From, gt ([(gt B ((gt p u).Action)), ([45] : Bs)] : List Bs) J⟩ : Q14)) (v := (⟨L.1, L.2.1, L.2.2.1, L.2.2.2⟩ : Q5)) rfl (.s (.s (.s (.s .z)))) rfl rfl Q14.keyok rfl rfl rfl rfl rfl ?_; refine At.HO.back (.c (.s .z) (.c (.s .z) (.c (.s .z) (.c (.s .z) (.c (.s .z) (.c (.s .z) .n)))))) ?_; refine At.H.done (by kernel_rfl) ?_; refine At.ibn ?_; refine At.thn (At.region (At.run 2 rfl (At.nil (At.drop (.s .z) (At.f5 (At.f5 (At.f2 ?_))))))); refine At.f5 (At.f5 (At.f5 ?_)); have j := bnx hf_ j; exact fun a w e hs => ⟨g1, ((mset d1 (⟨(gt p u).From, gt ([(gt B ((gt p u).Action)), ([45] : Bs)] : List Bs) J⟩ : Q14) (⟨L.1, L.2.1, L.2.2.1, L.2.2.2⟩ : Q5)), IntKind.i64.wrap (J + 1)), g2, j, e.sub ⟨rfl, rfl, rfl, rfl, rfl, rfl, rfl, rfl, rfl, trivial⟩, hs⟩
           ··refine At.condF rfl (decide_eq_false d2) ?_
             refine At.exit ?_; refine At.the ?_; refine At.the ?_; exact fun a w e hs => g0 d1 (bdn j f9) a w (e.sub ⟨rfl, rfl, rfl, rfl, rfl, trivial⟩) hs
       ··refine At.condF rfl (decide_eq_false c8) ?_
         refine At.exit ?_; refine At.the ?_; refine At.the ?_; exact fun a w e hs => f0 b9 (bdn j e9) a w (e.sub ⟨rfl, trivial⟩) hs
   ·clear a2 b5; rintro b5 ⟨d3, a1⟩ a2; obtain ⟨g5, f_, g6, hf_, j⟩ := bit a2; clear a2; have j : (Q21.l0b D d3 a1).bind _ = some d6 := j; unfold Q21.l0b at j
    ·refine sR 1 rfl (nT (At.seq ?_)); rcases bite j with ⟨d4, j⟩ | ⟨d4, j⟩
     ··refine At.condT rfl (decide_eq_true d4) ?_
       refine At.skip (At.thn (At.seq ?_)); refine At.block ?_; refine At.seq (At.region ?_); obtain ⟨a8, j⟩ := bnone j; refine At.y (Y.ixRd hr0_3 rfl rfl rfl rfl rfl rfl rfl a8.1 a8.2) rfl rfl rfl ?_; obtain ⟨h9, g7, g8⟩ := RdS.whole (P := Tryz.prog) hr0_3 (Sub.refl _) rfl a8.1 a8.2; obtain ⟨_, _, rfl, rfl, ⟨g9, h0, rfl, h1, h2⟩⟩ := g7; refine At.y (g8 rfl rfl rfl rfl) rfl rfl rfl ?_; refine At.alloc rfl rfl rfl (fun h3 => ?_); refine At.store rfl rfl rfl rfl .z rfl rfl rfl (.c (.c .n)) ?_; refine nT ?_; refine At.held [pc h3 [.string ⟨((gt D a1).Name).toArray⟩, .slice g9 ((gt D a1).States.length) h0] 37, T4, T5, T6] 10 rfl ?_; refine At.H.pw 0 rfl rfl rfl rfl rfl (.c .z (.c .z (.c .z (.c (.s .z) .n)))) ?_; refine At.H.pw 1 rfl rfl rfl rfl rfl (.c .z (.c .z (.c .z (.c (.s .z) .n)))) ?_; refine At.H.pw 2 rfl rfl rfl rfl rfl (.c .z (.c .z (.c .z (.c (.s .z) .n)))) ?_; refine At.H.tw 3 rfl (Y.load rfl rfl (.s .z) rfl rfl rfl) rfl rfl rfl (.c .z (.c .z (.c .z (.c (.s .z) .n)))) ?_; refine At.H.pw 4 rfl rfl rfl rfl rfl (.c .z (.c .z (.c .z (.c (.s .z) .n)))) ?_; refine At.H.tw 5 rfl (Y.load rfl rfl .z rfl rfl rfl) rfl rfl rfl (.c .z (.c .z (.c .z (.c (.s .z) .n)))) ?_; refine At.H.pw 6 rfl rfl rfl rfl rfl (.c .z (.c .z (.c .z (.c (.s .z) .n)))) ?_; refine At.H.tw 7 rfl (Y.load rfl rfl .z rfl rfl rfl) rfl rfl rfl (.c .z (.c .z (.c .z (.c (.s .z) .n)))) ?_; refine At.H.al [8] (Q7 ?_ Q11)
       ··refine At.HO.op rfl ?_
         obtain ⟨N, h4, j⟩ := bbind j; refine At.call rfl Q54.callee rfl rfl rfl (Q54.spec h2 rfl h1 h4) ?_; rintro _ _ ⟨rfl, rfl⟩; refine At.HO.back (.c .z (.c .z (.c .z (.c (.s .z) .n)))) ?_; refine At.H.al [9] (Q7 ?_ Q11)
         ··refine At.HO.op rfl ?_
           refine At.mapUpdate (k := ((gt D a1).Name)) (v := (⟨N.1, N.2.1, N.2.2.1, N.2.2.2⟩ : Q5)) rfl (.s (.s (.s .z))) rfl rfl (KeyOk.str rfl rfl) rfl rfl rfl rfl rfl ?_; refine At.HO.back (.c (.s .z) (.c (.s .z) (.c (.s .z) (.c (.s .z) .n)))) ?_; refine At.H.done (by kernel_rfl) ?_; refine At.ibn ?_; refine At.thn (At.region (At.run 2 rfl (At.nil (At.drop (.s .z) (At.f3 (At.f1 (At.f3 ?_))))))); refine At.f3 ?_; have j := bnx hf_ j; exact fun a w e hs => ⟨g5, ((mset d3 ((gt D a1).Name) (⟨N.1, N.2.1, N.2.2.1, N.2.2.2⟩ : Q5)), IntKind.i64.wrap (a1 + 1)), g6, j, e.sub ⟨rfl, rfl, rfl, rfl, rfl, trivial⟩, hs⟩
     ··refine At.condF rfl (decide_eq_false d4) ?_
       refine At.exit ?_; refine At.the ?_; refine At.the ?_; exact fun a w e hs => e6 d3 (bdn j e5) a w (e.sub ⟨rfl, rfl, trivial⟩) hs
 ··refine At.condT rfl (nt (bn a9)) ?_
   refine sR 1 rfl (nT (At.ret (At.thr ?_))); refine At.optNone Q2.ow 91 ?_; refine At.drop (.s .z) ?_; cases bret j; exact At.res (.inl rfl) rfl rfl ⟨none, rfl, rfl⟩

noncomputable def Q35.l1b (q : List Q1) (u B p : Int) : Option ((Int × Int) ⊕ ((Int) ⊕ ((Int) ⊕ ((Int × Int) ⊕ ((Int) ⊕ (Int)))))) :=
 if p < ((gt q u).States.length : Int) then
 if (0 : Int) ≤ p ∧ p < ((gt q u).States.length : Int) then
 if (0 : Int) ≤ IntKind.u64.wrap (gt ((gt q u).States) p) then
 nx (bor .u64 B (Bw.shl .u64 1 (IntKind.u64.wrap (gt ((gt q u).States) p))), IntKind.i64.wrap (p + 1))
 else none
 else none
 else
 dn (.inl B)
noncomputable def Q35.l1 (p : List Q1) (q u B : Int) : Option ((Int) ⊕ ((Int) ⊕ ((Int × Int) ⊕ ((Int) ⊕ (Int))))) := iter (fun t_ : Int × Int => Q35.l1b p q t_.1 t_.2) (u, B)
noncomputable def Q35.l0b (q : List Q1) (a1 : Bs) (u p : Int) : Option ((Int × Int) ⊕ ((Int) ⊕ (Int))) :=
 if p < (q.length : Int) then
 jn (
 if (0 : Int) ≤ p ∧ p < (q.length : Int) then
 if bseq ((gt q p).Name) a1 = true then
 jn (Q35.l1 q p u 0) (fun (B : Int) =>
 some (.inl B))
 else
 some (.inl u)
 else none) (fun (D : Int) =>
 nx (D, IntKind.i64.wrap (p + 1)))
 else
 dn (.inl u)
noncomputable def Q35.l0 (p : List Q1) (a1 : Bs) (q u : Int) : Option ((Int) ⊕ (Int)) := iter (fun t_ : Int × Int => Q35.l0b p a1 t_.1 t_.2) (q, u)
noncomputable def Q35.f (u : Int) (B : List Bs) (D : List Q0) (p : List Q1) (a1 : Bs) : Option Int :=
 jn (Q35.l0 p a1 0 0) (fun (q : Int) =>
 some q)
theorem Q35.callee : Callee Tryz.prog 121 := ⟨_, Tryz.func121, by kernel_rfl, by kernel_rfl⟩
theorem Q35.spec {V : Int} {G : List Bs} {I : List Q0} {u : List Q1} {a1 : Bs} (hr0_1 : RdS Fl.bs.rep R.heap A0_1 G) (hn0_1 : G.length = n0_1) (hc0_1 : n0_1 ≤ c0_1) (hr0_2 : RdS Q0.fl.rep R.heap A0_2 I) (hn0_2 : I.length = n0_2) (hc0_2 : n0_2 ≤ c0_2) (hr0_3 : RdS Q1.rep R.heap A0_3 u) (hn0_3 : u.length = n0_3) (hc0_3 : n0_3 ≤ c0_3) {r : Int} (j : Q35.f V G I u a1 = some r) :
 Spec Tryz.prog 121 [.agg #[i6 V, .slice A0_1 n0_1 c0_1, .slice A0_2 n0_2 c0_2, .slice A0_3 n0_3 c0_3], .string ⟨(a1).toArray⟩] R (Fr) (fun v l' => v = .int .u64 r ∧ Fr = l') := by
 subst hn0_1; subst hn0_2; subst hn0_3; refine Spec.of Tryz.func121 rfl rfl ?_; unfold Q35.f at j; have j := brun j; refine At.seq (At.region ?_); refine At.box rfl rfl (cs := [i6 V, .slice A0_1 G.length c0_1, .slice A0_2 I.length c0_2, .slice A0_3 u.length c0_3]) rfl rfl (fun J => ?_); refine At.run 1 rfl (nT (sR 1 rfl (nT ?_))); refine At.seq (sR 1 rfl (nT ?_)); refine At.block ?_; obtain ⟨b9, c8, e5, j⟩ := bjoin j; obtain ⟨Z, a3, c9⟩ := bsome j; clear j; unfold Q35.l0 at a3; obtain ⟨a4, L⟩ := Q12.1 a3; clear a3; let N : HProp := pc J [i6 V, .slice A0_1 G.length c0_1, .slice A0_2 I.length c0_2, .slice A0_3 u.length c0_3] 26; refine At.loopJ (X := Int × Int) (Y := Int) (e0 := 0) (fun s_ => [(1, .string ⟨(a1).toArray⟩), (2, bp J), (5, .int .u64 s_.1), (6, i6 s_.2)]) (fun s_ => N :: Fr) (fun m_ => fun s_ => iterN (fun t_ : Int × Int => Q35.l0b u a1 t_.1 t_.2) m_ (s_.1, s_.2) = some Z) a4 (0, 0) L (fun O => [(5, .int .u64 O)]) (fun O => N :: Fr) (fun O => b9 (.inl O) = some r) (fun a w e hs => ⟨e.sub ⟨rfl, rfl, rfl, rfl, trivial⟩, (by exact hs)⟩) ?_ (fun d0 => ?_)
 ·rintro O j; have j := (c8 _).symm.trans j
  ·refine At.ibx ?_; refine At.thn (sR 2 rfl (nT (At.ret (At.drop .z ?_)))); cases bret j; exact At.res (.inl rfl) rfl rfl ⟨rfl, rfl⟩
 ·clear L a4; rintro a4 ⟨a0, B⟩ L; obtain ⟨d1, f_, d2, hf_, j⟩ := bit L; clear L; have j : (Q35.l0b u a1 a0 B).bind _ = some Z := j; unfold Q35.l0b at j
  ·refine At.seq (sR 2 rfl (At.y (Y.load rfl rfl .z rfl rfl rfl) rfl rfl rfl (At.run 2 rfl (nT ?_)))); rcases bite j with ⟨a5, j⟩ | ⟨a5, j⟩
   ··refine At.condT rfl (decide_eq_true a5) ?_
     refine At.skip (At.thn (At.seq ?_)); obtain ⟨d3, d4, e6, j⟩ := bjoin j; refine At.join (X := Int) (fun D => [(1, .string ⟨(a1).toArray⟩), (2, bp J), (5, .int .u64 D), (6, i6 B)]) (fun D => N :: Fr) (fun D => d3 (.inl D) = some Z) ?_ (fun b6 => ?_)
     ·rintro D j; have j := (d4 _).symm.trans j
      ·refine At.region (At.run 3 rfl (At.nil ?_)); have j := bnx hf_ j; exact fun a w e hs => ⟨d1, (D, IntKind.i64.wrap (B + 1)), d2, j, e.sub ⟨rfl, rfl, rfl, rfl, trivial⟩, hs⟩
     ··refine At.block ?_
       refine sR 1 rfl (At.y (Y.load rfl rfl .z rfl rfl rfl) rfl rfl rfl (At.run 1 rfl ?_)); obtain ⟨p, j⟩ := bnone j; refine At.y (Y.ixRd hr0_3 rfl rfl rfl rfl rfl rfl rfl p.1 p.2) rfl rfl rfl ?_; refine At.y (Y.fa (RdS.some_ hr0_3 rfl p.1 p.2) rfl rfl rfl rfl rfl rfl) rfl rfl rfl ?_; refine At.y (Y.ldPrj Q1.prj_Name hr0_3 rfl rfl rfl p.1 p.2 rfl rfl) rfl rfl rfl ?_; refine At.run 2 rfl (nT ?_); rcases bite j with ⟨a6, j⟩ | ⟨a6, j⟩
       ··refine At.condT rfl a6 ?_
         refine sR 1 rfl (nT ?_); refine At.block ?_; obtain ⟨d5, d6, e7, j⟩ := bjoin j; obtain ⟨b7, a7, d7⟩ := bsome j; clear j; unfold Q35.l1 at a7; obtain ⟨a8, U⟩ := Q12.1 a7; clear a7; refine At.loopJ (X := Int × Int) (Y := Int) (e0 := 2) (fun s_ => [(1, .string ⟨(a1).toArray⟩), (2, bp J), (5, .int .u64 s_.1), (6, i6 B), (7, i6 s_.2)]) (fun s_ => N :: Fr) (fun m_ => fun s_ => iterN (fun t_ : Int × Int => Q35.l1b u B t_.1 t_.2) m_ (s_.1, s_.2) = some b7) a8 (a0, 0) U (fun E => [(1, .string ⟨(a1).toArray⟩), (2, bp J), (5, .int .u64 E), (6, i6 B)]) (fun E => N :: Fr) (fun E => d5 (.inl E) = some Z) (fun a w e hs => ⟨e.sub ⟨rfl, rfl, rfl, rfl, rfl, trivial⟩, (by exact hs)⟩) ?_ (fun d8 => ?_)
         ·rintro E j; have j := (d6 _).symm.trans j
          ·refine At.ibx ?_; refine At.ibn ?_; refine At.thn ?_; exact fun a w e hs => b6 E j a w (e.sub ⟨rfl, rfl, rfl, rfl, trivial⟩) hs
         ·clear U a8; rintro a8 ⟨a9, b4⟩ U; obtain ⟨d9, f_, e1, hf_, j⟩ := bit U; clear U; have j : (Q35.l1b u B a9 b4).bind _ = some b7 := j; unfold Q35.l1b at j
          ·refine At.seq (sR 2 rfl (At.y (Y.load rfl rfl .z rfl rfl rfl) rfl rfl rfl (At.run 1 rfl (At.y (Y.ixRd hr0_3 rfl rfl rfl rfl rfl rfl rfl p.1 p.2) rfl rfl rfl ?_)))); refine At.y (Y.fa (RdS.some_ hr0_3 rfl p.1 p.2) rfl rfl rfl rfl rfl rfl) rfl rfl rfl ?_; obtain ⟨e8, e9, f0, f1, e2⟩ := RdS.prjSl (P := Tryz.prog) Q1.prj_States hr0_3 (Sub.refl _) rfl p.1 p.2; refine At.y (e2 rfl rfl rfl rfl) rfl rfl rfl ?_; refine At.run 2 rfl (nT ?_); rcases bite j with ⟨b5, j⟩ | ⟨b5, j⟩
           ··refine At.condT rfl (decide_eq_true b5) ?_
             refine At.skip (At.thn (At.seq ?_)); refine At.block ?_; refine At.region (At.run 2 rfl (At.y (Y.load rfl rfl .z rfl rfl rfl) rfl rfl rfl (At.run 1 rfl (At.y (Y.ixRd hr0_3 rfl rfl rfl rfl rfl rfl rfl p.1 p.2) rfl rfl rfl ?_)))); refine At.y (Y.fa (RdS.some_ hr0_3 rfl p.1 p.2) rfl rfl rfl rfl rfl rfl) rfl rfl rfl ?_; obtain ⟨f2, f3, f4, b8, e3⟩ := RdS.prjSl (P := Tryz.prog) Q1.prj_States hr0_3 (Sub.refl _) rfl p.1 p.2; refine At.y (e3 rfl rfl rfl rfl) rfl rfl rfl ?_; refine At.run 1 rfl ?_; obtain ⟨a2, j⟩ := bnone j; refine At.y (Y.ixRd b8 rfl rfl rfl rfl rfl rfl rfl a2.1 a2.2) rfl rfl rfl (At.y (Y.ldFl b8 rfl (q := 0) rfl rfl a2.1 a2.2 rfl rfl rfl) rfl rfl rfl (At.run 1 rfl ?_)); obtain ⟨e4, j⟩ := bnone j; refine At.y (Y.shl rfl rfl e4) rfl rfl rfl (At.run 2 rfl (At.nil ?_)); refine At.ibn ?_; refine At.thn (At.region (At.run 3 rfl (At.nil ?_))); have j := bnx hf_ j; exact fun a w e hs => ⟨d9, (bor .u64 a9 (Bw.shl .u64 1 (IntKind.u64.wrap (gt ((gt u B).States) b4))), IntKind.i64.wrap (b4 + 1)), e1, j, e.sub ⟨rfl, rfl, rfl, rfl, rfl, trivial⟩, hs⟩
           ··refine At.condF rfl (decide_eq_false b5) ?_
             refine At.exit ?_; refine At.the ?_; refine At.the ?_; exact fun a w e hs => d8 a9 (bdn j d7) a w (e.sub ⟨rfl, rfl, rfl, rfl, trivial⟩) hs
       ··refine At.condF rfl (bn a6) ?_
         refine At.skip ?_; refine At.ibn ?_; refine At.thn ?_; exact fun a w e hs => b6 a0 j a w (e.sub ⟨rfl, rfl, rfl, rfl, trivial⟩) hs
   ··refine At.condF rfl (decide_eq_false a5) ?_
     refine At.exit ?_; refine At.the ?_; refine At.the ?_; exact fun a w e hs => d0 a0 (bdn j c9) a w (e.sub ⟨rfl, trivial⟩) hs

noncomputable def Q114.f (B : Int) (q : List Bs) (D : List Q0) (E : List Q1) (G p I : Int) (a2 : Bs) : Option Bool :=
 jn (
 if bseq a2 ([45] : Bs) = true then
 some (.inl true)
 else
 if (0 : Int) ≤ p ∧ p < (q.length : Int) then
 some (.inl (bseq (gt q p) a2))
 else none) (fun (u : Bool) =>
 some u)
theorem Q114.callee : Callee Tryz.prog 157 := ⟨_, Tryz.func157, by kernel_rfl, by kernel_rfl⟩
theorem Q114.spec {G I u J : Int} {p : List Bs} {B : List Q0} {D : List Q1} {a2 : Bs} (hr0_1 : RdS Fl.bs.rep R.heap A0_1 p) (hn0_1 : p.length = n0_1) (hc0_1 : n0_1 ≤ c0_1) (hr0_2 : RdS Q0.fl.rep R.heap A0_2 B) (hn0_2 : B.length = n0_2) (hc0_2 : n0_2 ≤ c0_2) (hr0_3 : RdS Q1.rep R.heap A0_3 D) (hn0_3 : D.length = n0_3) (hc0_3 : n0_3 ≤ c0_3) {r : Bool} (j : Q114.f G p B D I u J a2 = some r) :
 Spec Tryz.prog 157 [.agg #[i6 G, .slice A0_1 n0_1 c0_1, .slice A0_2 n0_2 c0_2, .slice A0_3 n0_3 c0_3], .agg #[i6 I, i6 u, i6 J], .string ⟨(a2).toArray⟩] R (Fr) (fun v l' => v = .bool r ∧ Fr = l') := by
 subst hn0_1; subst hn0_2; subst hn0_3; refine Spec.of Tryz.func157 rfl rfl ?_; unfold Q114.f at j
 have j := brun j; refine At.seq (At.region ?_); refine At.box rfl rfl (cs := [i6 G, .slice A0_1 p.length c0_1, .slice A0_2 B.length c0_2, .slice A0_3 D.length c0_3]) rfl rfl (fun U => ?_); refine At.box rfl rfl (cs := [i6 I, i6 u, i6 J]) rfl rfl (fun V => ?_); refine At.run 1 rfl (nT (sR 3 rfl ?_)); obtain ⟨Z, a0, a4, j⟩ := bjoin j; let a1 : HProp := pc V [i6 I, i6 u, i6 J] 35; let a3 : HProp := pc U [i6 G, .slice A0_1 p.length c0_1, .slice A0_2 B.length c0_2, .slice A0_3 D.length c0_3] 26; refine At.joinO 9 (X := Bool) (fun E => [(18, .bool E)]) (fun E => a1 :: a3 :: Fr) (fun E => Z (.inl E) = some r) ?_ (fun O => ?_)
 ·rintro E j; have j := (a0 _).symm.trans j
  ·refine At.run 1 rfl (nT (At.ret (At.drop .z (At.drop .z ?_)))); cases bret j; exact At.res (.inl rfl) rfl rfl ⟨rfl, rfl⟩
 ··rcases bite j with ⟨N, j⟩ | ⟨N, j⟩
   ··refine At.know (t := 9) rfl N ?_
     refine At.run 9 rfl ?_; exact At.of (O true j) ⟨rfl, trivial⟩
   ··refine At.know (t := 9) rfl (bn N) ?_
     refine At.run 1 rfl (At.y (Y.load rfl rfl (.s .z) rfl rfl rfl) rfl rfl rfl (At.run 1 rfl (At.y (Y.load rfl rfl .z rfl rfl rfl) rfl rfl rfl ?_))); obtain ⟨L, j⟩ := bnone j; refine At.y (Y.ixRd hr0_1 rfl rfl rfl rfl rfl rfl rfl L.1 L.2) rfl rfl rfl (At.y (Y.ldFl hr0_1 rfl (q := 0) rfl rfl L.1 L.2 rfl rfl rfl) rfl rfl rfl (At.run 3 rfl ?_)); exact At.of (O (bseq (gt p u) a2) j) ⟨rfl, trivial⟩

noncomputable def Q47.l0b (B : Int) (D : List Bs) (q : List Q0) (E : List Q1) (a1 : Int) (a2 : Bs) (u p : Int) : Option ((Int × Int) ⊕ ((Int) ⊕ (Int))) :=
 if p < (q.length : Int) then
 jn (
 if (0 : Int) ≤ p ∧ p < (q.length : Int) then
 (Q114.f B D q E ((gt q p).From) ((gt q p).Action) ((gt q p).To) a2).bind fun G =>
 jn (
 if G = true then
 some (.inl (decide ((gt q p).From = a1)))
 else
 some (.inl false)) (fun (I : Bool) =>
 if I = true then
 if (0 : Int) ≤ IntKind.u64.wrap ((gt q p).To) then
 some (.inl (bor .u64 u (Bw.shl .u64 1 (IntKind.u64.wrap ((gt q p).To)))))
 else none
 else
 some (.inl u))
 else none) (fun (J : Int) =>
 nx (J, IntKind.i64.wrap (p + 1)))
 else
 dn (.inl u)
noncomputable def Q47.l0 (p : Int) (q : List Bs) (u : List Q0) (B : List Q1) (a1 : Int) (a2 : Bs) (D E : Int) : Option ((Int) ⊕ (Int)) := iter (fun t_ : Int × Int => Q47.l0b p q u B a1 a2 t_.1 t_.2) (D, E)
noncomputable def Q47.f (p : Int) (q : List Bs) (u : List Q0) (B : List Q1) (a1 : Int) (a2 : Bs) : Option Int :=
 jn (Q47.l0 p q u B a1 a2 0 0) (fun (D : Int) =>
 some D)
theorem Q47.callee : Callee Tryz.prog 122 := ⟨_, Tryz.func122, by kernel_rfl, by kernel_rfl⟩
theorem Q47.spec {E a1 : Int} {B : List Bs} {u : List Q0} {D : List Q1} {a2 : Bs} (hr0_1 : RdS Fl.bs.rep R.heap A0_1 B) (hn0_1 : B.length = n0_1) (hc0_1 : n0_1 ≤ c0_1) (hr0_2 : RdS Q0.fl.rep R.heap A0_2 u) (hn0_2 : u.length = n0_2) (hc0_2 : n0_2 ≤ c0_2) (hr0_3 : RdS Q1.rep R.heap A0_3 D) (hn0_3 : D.length = n0_3) (hc0_3 : n0_3 ≤ c0_3) {r : Int} (j : Q47.f E B u D a1 a2 = some r) :
 Spec Tryz.prog 122 [.agg #[i6 E, .slice A0_1 n0_1 c0_1, .slice A0_2 n0_2 c0_2, .slice A0_3 n0_3 c0_3], i6 a1, .string ⟨(a2).toArray⟩] R (Fr) (fun v l' => v = .int .u64 r ∧ Fr = l') := by
 subst hn0_1; subst hn0_2; subst hn0_3; refine Spec.of Tryz.func122 rfl rfl ?_; unfold Q47.f at j; have j := brun j; refine At.seq (At.region ?_); refine At.box rfl rfl (cs := [i6 E, .slice A0_1 B.length c0_1, .slice A0_2 u.length c0_2, .slice A0_3 D.length c0_3]) rfl rfl (fun U => ?_); refine At.run 1 rfl (nT (sR 1 rfl (nT ?_))); refine At.seq (sR 1 rfl (nT ?_)); refine At.block ?_; obtain ⟨a9, b4, d3, j⟩ := bjoin j; obtain ⟨V, a0, b5⟩ := bsome j; clear j; unfold Q47.l0 at a0; obtain ⟨a3, J⟩ := Q12.1 a0; clear a0; let Z : HProp := pc U [i6 E, .slice A0_1 B.length c0_1, .slice A0_2 u.length c0_2, .slice A0_3 D.length c0_3] 26; refine At.loopJ (X := Int × Int) (Y := Int) (e0 := 0) (fun s_ => [(1, i6 a1), (2, .string ⟨(a2).toArray⟩), (3, bp U), (7, .int .u64 s_.1), (8, i6 s_.2)]) (fun s_ => Z :: Fr) (fun m_ => fun s_ => iterN (fun t_ : Int × Int => Q47.l0b E B u D a1 a2 t_.1 t_.2) m_ (s_.1, s_.2) = some V) a3 (0, 0) J (fun L => [(7, .int .u64 L)]) (fun L => Z :: Fr) (fun L => a9 (.inl L) = some r) (fun a w e hs => ⟨e.sub ⟨rfl, rfl, rfl, rfl, rfl, trivial⟩, (by exact hs)⟩) ?_ (fun b6 => ?_)
 ·rintro L j; have j := (b4 _).symm.trans j
  ·refine At.ibx ?_; refine At.thn (sR 2 rfl (nT (At.ret (At.drop .z ?_)))); cases bret j; exact At.res (.inl rfl) rfl rfl ⟨rfl, rfl⟩
 ·clear J a3; rintro a3 ⟨N, G⟩ J; obtain ⟨b7, f_, b8, hf_, j⟩ := bit J; clear J; have j : (Q47.l0b E B u D a1 a2 N G).bind _ = some V := j; unfold Q47.l0b at j
  ·refine At.seq (sR 2 rfl (At.y (Y.load rfl rfl .z rfl rfl rfl) rfl rfl rfl (At.run 2 rfl (nT ?_)))); rcases bite j with ⟨a4, j⟩ | ⟨a4, j⟩
   ··refine At.condT rfl (decide_eq_true a4) ?_
     refine At.skip (At.thn (At.seq ?_)); obtain ⟨b9, c8, d4, j⟩ := bjoin j; refine At.join (X := Int) (fun I => [(1, i6 a1), (2, .string ⟨(a2).toArray⟩), (3, bp U), (7, .int .u64 I), (8, i6 G)]) (fun I => Z :: Fr) (fun I => b9 (.inl I) = some V) ?_ (fun a7 => ?_)
     ·rintro I j; have j := (c8 _).symm.trans j
      ·refine At.region (At.run 3 rfl (At.nil ?_)); have j := bnx hf_ j; exact fun a w e hs => ⟨b7, (I, IntKind.i64.wrap (G + 1)), b8, j, e.sub ⟨rfl, rfl, rfl, rfl, rfl, trivial⟩, hs⟩
     ··refine At.block ?_
       refine At.seq ?_; refine At.quiet (by kernel_rfl) ?_; refine At.Quiet.y (Y.load rfl rfl .z rfl rfl rfl) rfl rfl rfl ?_; refine At.Quiet.run 1 rfl ?_; refine At.Quiet.y (Y.load rfl rfl .z rfl rfl rfl) rfl rfl rfl ?_; refine At.Quiet.run 1 rfl ?_; obtain ⟨p, j⟩ := bnone j; refine At.Quiet.y (Y.ixRd hr0_2 rfl rfl rfl rfl rfl rfl rfl p.1 p.2) rfl rfl rfl ?_; refine At.Quiet.y (Y.ldFl hr0_2 rfl (q := 0) rfl rfl p.1 p.2 rfl rfl rfl) rfl rfl rfl ?_; refine At.Quiet.run 1 rfl ?_; obtain ⟨d5, c9, j⟩ := bbind j; refine At.Quiet.call rfl Q114.callee rfl rfl rfl (Q114.spec hr0_1 rfl hc0_1 hr0_2 rfl hc0_2 hr0_3 rfl hc0_3 c9) (fun _ _ h_ => ⟨h_.1, fun _ hs => h_.2 ▸ hs⟩) ?_
       refine At.Quiet.run 1 rfl (At.Quiet.nil (At.thn (sR 2 rfl ?_))); obtain ⟨d0, d1, d6, j⟩ := bjoin j; refine At.joinO 9 (X := Bool) (fun O => [(1, i6 a1), (2, .string ⟨(a2).toArray⟩), (3, bp U), (7, .int .u64 N), (8, i6 G), (35, .bool O)]) (fun O => Z :: Fr) (fun O => d0 (.inl O) = some V) ?_ (fun a8 => ?_)
       ·rintro O j; have j := (d1 _).symm.trans j
        ·refine nT ?_; rcases bite j with ⟨a5, j⟩ | ⟨a5, j⟩
         ··refine At.condT rfl a5 ?_
           refine At.region (At.run 2 rfl (At.y (Y.load rfl rfl .z rfl rfl rfl) rfl rfl rfl (At.run 1 rfl (At.y (Y.ixRd hr0_2 rfl rfl rfl rfl rfl rfl rfl p.1 p.2) rfl rfl rfl ?_)))); refine At.y (Y.fa (RdS.some_ hr0_2 rfl p.1 p.2) rfl rfl rfl rfl rfl rfl) rfl rfl rfl ?_; refine At.y (Y.ldFl hr0_2 rfl (q := 2) rfl rfl p.1 p.2 rfl rfl rfl) rfl rfl rfl (At.run 1 rfl ?_); obtain ⟨d2, j⟩ := bnone j; refine At.y (Y.shl rfl rfl d2) rfl rfl rfl (At.run 2 rfl (At.nil ?_)); refine At.ibn ?_; refine At.thn ?_; exact fun a w e hs => a7 (bor .u64 N (Bw.shl .u64 1 (IntKind.u64.wrap ((gt u G).To)))) j a w (e.sub ⟨rfl, rfl, rfl, rfl, rfl, trivial⟩) hs
         ··refine At.condF rfl (bn a5) ?_
           refine At.skip ?_; refine At.ibn ?_; refine At.thn ?_; exact fun a w e hs => a7 N j a w (e.sub ⟨rfl, rfl, rfl, rfl, rfl, trivial⟩) hs
       ··rcases bite j with ⟨a6, j⟩ | ⟨a6, j⟩
         ··refine At.know (t := 26) rfl a6 ?_
           refine At.run 1 rfl (At.y (Y.load rfl rfl .z rfl rfl rfl) rfl rfl rfl (At.run 1 rfl (At.y (Y.ixRd hr0_2 rfl rfl rfl rfl rfl rfl rfl p.1 p.2) rfl rfl rfl ?_))); refine At.y (Y.fa (RdS.some_ hr0_2 rfl p.1 p.2) rfl rfl rfl rfl rfl rfl) rfl rfl rfl ?_; refine At.y (Y.ldFl hr0_2 rfl (q := 0) rfl rfl p.1 p.2 rfl rfl rfl) rfl rfl rfl (At.run 3 rfl ?_); exact At.of (a8 (decide ((gt u G).From = a1)) j) ⟨rfl, rfl, rfl, rfl, rfl, rfl, trivial⟩
         ··refine At.know (t := 26) rfl (bn a6) ?_
           refine At.run 9 rfl ?_; exact At.of (a8 false j) ⟨rfl, rfl, rfl, rfl, rfl, rfl, trivial⟩
   ··refine At.condF rfl (decide_eq_false a4) ?_
     refine At.exit ?_; refine At.the ?_; refine At.the ?_; exact fun a w e hs => b6 N (bdn j b5) a w (e.sub ⟨rfl, trivial⟩) hs

end Go.Bw
namespace Go.Bw
open Go Go.RowKit Go.Sort Go.Proofs Go.Shelf

def CmpOn {α : Type} (c : α → α → Option Int) (xs : List α) : Prop := ∃ p : α → Prop, (∃ x, p x) ∧ (∀ x ∈ xs, p x) ∧ CmpTot (fun x y : {x // p x} => c x.1 y.1)
def Fl.on {α : Type} (F : Fl α) (p : α → Prop) : Fl {x // p x} := ⟨F.sz, fun x => F.enc x.1, fun x => F.len x.1, fun x u hu => F.one x.1 u hu, F.pos⟩
theorem Q211 {α : Type} (F : Fl α) (p : α → Prop) : ∀ (xs : List {x // p x}), xs.flatMap (F.on p).enc = (xs.map (·.1)).flatMap F.enc
 | [] => rfl
 | x :: xs => by rw [List.flatMap_cons, List.map_cons, List.flatMap_cons, Q211 F p xs]; rfl
section
variable {P : Program} {ρ : Ren} {α : Type}
theorem Q301 (L : SlLaysF0.n6 P ρ) (F : Fl α) (aE : ∀ w, (isAgg (ρ.t 24)).run P w = .ok true w) (zE : ∀ w, (Go.sizeOf (ρ.t 24)).run P w = .ok F.sz w)
 (cf : α → α → Option Int) (gf : Nat) (eg : ∀ args w, (callFunc gf args).run P w = .ok (.enter gf args) w)
 (hcmp : ∀ R x y v, cf x y = some v → Spec P gf [.agg (F.enc x).toArray, .agg (F.enc y).toArray] R [] (fun u l' => u = .int .i64 v ∧ [] = l')) (R : Res) (l : List HProp) {e n c : Nat} {A : Option Addr} {xs : List α} (hb : xs.length < 4611686018427387904) (ho : CmpOn cf xs) :
 Spec P (ρ.f 6) [.slice A n c, .func (.func gf) #[] #[]] R (row F e A n c xs :: l) (fun v l' => v = .tuple #[] ∧ row F e A n c (byCmp cf xs) :: l = l') := by
 obtain ⟨p, ⟨x0, hx0⟩, hp, ht⟩ := ho
 haveI : Inhabited {x // p x} := ⟨⟨x0, hx0⟩⟩
 have hmap : (xs.attachWith p hp).map (·.1) = xs := by simp
 have key := Q280 (α := {x // p x}) L (F.on p) aE zE (gcf fun x y : {x // p x} => cf x.1 y.1) ht.1.2 ht.2 gf eg (fun R x y => hcmp R x.1 y.1 _ (gcf_eq ht.1 x y)) R l (e := e) (n := n) (c := c) (A := A) (xs := xs.attachWith p hp) (by simpa using hb)
 have r1 : row (F.on p) e A n c (xs.attachWith p hp) = row F e A n c xs := by
  unfold row
  rw [Q211, hmap]
  rfl
 have r2 : row (F.on p) e A n c ((xs.attachWith p hp).mergeSort fun x y => !(ltOf (gcf fun x y : {x // p x} => cf x.1 y.1)) y x) = row F e A n c (byCmp cf xs) := by
  unfold row
  rw [Q211]
  have : ((xs.attachWith p hp).mergeSort fun x y => !(ltOf (gcf fun x y : {x // p x} => cf x.1 y.1)) y x).map (·.1) = byCmp cf xs := by
   unfold byCmp
   have h := List.map_mergeSort (f := fun x : {x // p x} => x.1) (r := fun x y => !(ltOf (gcf fun x y : {x // p x} => cf x.1 y.1)) y x) (s := fun x y => !(ltOf (gcf cf)) y x) (l := xs.attachWith p hp) (fun a _ b _ => rfl)
   rw [h, hmap]
  rw [this]
  rfl
 rw [r1, r2] at key
 exact key
end
end Go.Bw
namespace Go.Bw
open Go Go.RowKit

section
variable {P : Program} [Tys P] {n : Nat} {ds : List Deferred} {R : Res} {env : List (Nat × Value)} {l : List HProp} {d ty t e : Nat} {pos : String} {af : Array Edge} {g : Option (Nat × Bool)} {dd : Option Nat}
theorem Y.ixTab {x y : Operand} {i : Int} {k kk : IntKind} {m b : Nat} {ii j : TI} (hi : ti P t = some ii) (hk : ii.k = .array m e) (hx : ev env x = some (.pointer (some ⟨b, 0, none⟩))) (hy : ev env y = some (.int k i)) (hj : ti P e = some j) (hjs : j.size = 1) (h0 : 0 ≤ i) (h1 : i < (m : Int)) :
 Y P n ds R env l ⟨dd, .indexAddr t x y, ty, pos, af, g⟩ (elp (some ⟨b, 0, none⟩) (i.toNat * (Fl.int kk).sz)) := fun a' w e0 hs => by
 have := Y.ixArr (P := P) (n := n) (ds := ds) (R := R) (l := l) (ty := ty) (pos := pos) (af := af) (g := g) (dd := dd) hi hk hx hy hj h0 h1 a' w e0 hs
 rw [hjs] at this
 exact this
end
theorem Q309 {W : World} {b : Nat} {k : IntKind} {tab : List Int} (h : ∀ i : Nat, i < tab.length → W.cell? ⟨b, i, none⟩ = some (.int k (tab.getD i 0))) : RdS (Fl.int k).rep (wh W) (some ⟨b, 0, none⟩) tab := fun i x hx => by
 have hi : i < tab.length := (List.getElem?_eq_some_iff.1 hx).1
 have hd : tab.getD i 0 = x := by rw [List.getD_eq_getElem?_getD, hx]; rfl
 refine ⟨_, _, rfl, rfl, fun j u hu => ?_⟩
 have hj : j = 0 := by
  have : j < 1 := (List.getElem?_eq_some_iff.1 hu).1
  omega
 subst hj
 have hu' : Value.int k x = u := by simpa [Fl.int] using hu
 subst hu'
 have hc := h i hi
 rw [hd] at hc
 simp only [World.cell?] at hc
 have ha : ((⟨b, 0, none⟩ : Addr).add (i * (Fl.int k).rep.sz)).add 0 = ⟨b, i, none⟩ := by
  rw [Q69, Q102]
  simp [show (Fl.int k).rep.sz = 1 from rfl]
 rw [ha]
 dsimp only at hc ⊢
 unfold wh
 cases hb : W.heap[b]? with
 | none => rw [hb] at hc; cases hc
 | some o =>
  rw [hb] at hc
  cases o with
  | cells arr ee fr => exact ⟨arr, ee, fr, rfl, rfl, by simpa using hc⟩
  | _ => simp at hc
end Go.Bw
namespace Go.Bw
open Go Go.RowKit

section
variable {α : Type} {P : Program} [Tys P] {os : List Oper} {Q : Exit → Act → World → Prop} {rest : List Oper} {n : Nat} {ds : List Deferred} {R : Res} {env : List (Nat × Value)} {l l' : List HProp}
variable {d ty t e : Nat} {pos : String} {af : Array Edge} {g : Option (Nat × Bool)}
theorem At.make0 (F : Fl α) {x y : Operand} {m : Int} {k k' : IntKind} {bytes : Nat} {ii j : TI} (hg : grd os env g = some true) (hi : ti P t = some ii) (hk : ii.k = .slice e) (hj : ti P e = some j) (hjs : j.size = F.sz) (hjb : j.bytes = bytes) (hjz : j.zero.length = j.size)
 (hx : ev env x = some (.int k 0)) (hy : ev env y = some (.int k' m)) (h0 : 0 ≤ m) (h1 : (bytes : Int) * m ≤ 281474976710656) (hb0 : 0 < bytes) (hd : Nat.blt d n = true)
 (h : ∀ A c, At n ds R ((d, .slice A ([] : List α).length c) :: env) (row F e A ([] : List α).length c ([] : List α) :: l) (wpList P os.toArray Q rest)) :
 At n ds R env l (wpList P os.toArray Q (⟨some d, .makeSlice t x y, ty, pos, af, g⟩ :: rest)) := Q83 hg rfl hd fun a w e0 hs => by
 obtain ⟨xi, zv, hxi, hsz, hby, hze, hzc⟩ := (Q13 hj).info
 have hm : m ≤ 9223372036854775807 := by
  have := Int.mul_le_mul_of_nonneg_right (show (1 : Int) ≤ (bytes : Int) by omega) h0
  omega
 have hm2 : m ≤ 281474976710656 := by
  have := Int.mul_le_mul_of_nonneg_right (show (1 : Int) ≤ (bytes : Int) by omega) h0
  omega
 have hr := run_make (P := P) w t e xi zv ((Q13 hi).slice hk) hxi hze k k' 0 m (Int.le_refl _) h0 (by rw [hby, hjb]; exact h1) hm
 refine ⟨.slice (some ⟨w.heap.size, 0, none⟩) 0 m.toNat, w.alloc (.cells (madeCells zv.cells (m.toNat * xi.size)) e), row F e (some ⟨w.heap.size, 0, none⟩) 0 m.toNat ([] : List α) :: l, ?_, ?_, h (some ⟨w.heap.size, 0, none⟩) m.toNat⟩
 ·simp only [execOp, e0.ev hx, e0.ev hy, Sem.run_bind, hr, Result.andThen, Sem.run_pure]; rfl
 ·refine (hs.alloc _).imp fun h' o => ?_
  refine ⟨by simp, .inr ⟨w.heap.size, _, rfl, o, by simp, by simp only [maxLen]; omega, ?_, by simp⟩⟩
  simp [madeCells, hsz, hjs]
end
end Go.Bw
namespace Go.Bw
open Go Go.RowKit

def eqfs (P : Program) [Tys P] (g : Nat → Value → Value → Option Bool) : List (Nat × Nat) → List Value → List Value → Option Bool
 | [], _, _ => some true
 | (ft, off) :: r, xs, ys => match partOf P ft off xs, partOf P ft off ys with
  | some a, some b => match g ft a b with
   | some p => (eqfs P g r xs ys).map (p && ·)
   | none => none
  | _, _ => none
def eqv (P : Program) [Tys P] : Nat → Nat → Value → Value → Option Bool
 | 0, _, _, _ => none
 | d + 1, t, x, y => match ti P t with
  | none => none
  | some j => match j.k, x, y with
   | .int _, .int k a, .int k' b => if k = k' then some (decide (a = b)) else none
   | .bool, .bool a, .bool b => some (a == b)
   | .string, .string a, .string b => some (seq a b)
   | .struct fs, .agg xs, .agg ys => if (named P t && !P.stoodInHeld t) = true then eqfs P (eqv P d) fs xs.toList ys.toList else none
   | .array n e, .agg xs, .agg ys => match ti P e with
    | some je => eqfs P (eqv P d) ((List.range n).map fun i => (e, i * je.size)) xs.toList ys.toList
    | none => none
   | _, _, _ => none
section
variable {P : Program} [Tys P] {w : World} {t : Nat}
theorem Q259 {g : Nat → Value → Value → Option Bool} {d : Nat} (hg : ∀ t x y r, g t x y = some r → (Op.equalIn d t x y).run P w = .ok r w) {xs ys : List Value} : ∀ {fl : List Field} {fs : List (Nat × Nat)} {r : Bool}, fl.map (fun f => (f.type, f.offset)) = fs → fl.all (fun f => f.name != "_") = true → eqfs P g fs xs ys = some r →
 (Op.eqFields d xs.toArray ys.toArray fl).run P w = .ok r w
 | [], _, r, rfl, _, h => by cases h; simp [Op.eqFields]
 | f :: fl, _, r, rfl, hn, h => by
  simp only [List.all_cons, Bool.and_eq_true] at hn
  have hn' : f.name ≠ "_" := by simpa using hn.1
  simp only [List.map_cons, eqfs] at h
  split at h
  ·rename_i a b hx hy
   split at h
   ·rename_i p hp
    obtain ⟨q, hq, rfl⟩ := Option.map_eq_some_iff.1 h
    have ih := Q259 hg rfl hn.2 hq
    have h0 := hg _ _ _ _ hp
    rw [Op.eqFields]
    simp only [if_pos hn', Sem.run_bind, Q71 hx, Q71 hy, Result.andThen_ok, h0]
    cases p
    ·rfl
    ·simpa using ih
   ·cases h
  ·cases h
theorem Q275 {g : Nat → Value → Value → Option Bool} {d e c : Nat} (hg : ∀ t x y r, g t x y = some r → (Op.equalIn d t x y).run P w = .ok r w) {xs ys : List Value} : ∀ {is : List Nat} {r : Bool}, eqfs P g (is.map fun i => (e, i * c)) xs ys = some r →
 (Op.eqItems d e c xs.toArray ys.toArray is).run P w = .ok r w
 | [], r, h => by cases h; simp [Op.eqItems]
 | i :: is, r, h => by
  simp only [List.map_cons, eqfs] at h
  split at h
  ·rename_i a b hx hy
   split at h
   ·rename_i p hp
    obtain ⟨q, hq, rfl⟩ := Option.map_eq_some_iff.1 h
    have ih := Q275 hg hq
    have h0 := hg _ _ _ _ hp
    rw [Op.eqItems]
    simp only [Sem.run_bind, Q71 hx, Q71 hy, Result.andThen_ok, h0]
    cases p
    ·rfl
    ·simpa using ih
   ·cases h
  ·cases h
theorem Q238 {e : Nat} {je : TI} (hj : ti P e = some je) : ∃ i, P.info? e = some i ∧ P.cellsOf e = je.size := by
 obtain ⟨x, z, hx, h1, _⟩ := (Q13 hj).info
 refine ⟨x, hx, ?_⟩
 have a := run_sizeOf (P := P) (default : World) hx
 rw [(Q13 hj).run_sizeOf] at a
 injection a with a
 exact a.symm
theorem Q203 : ∀ (m d : Nat) (t : Nat) (x y : Value) (r : Bool), eqv P m t x y = some r → (Op.equalIn (d + m) t x y).run P w = .ok r w
 | 0, d, t, x, y, r, h => by cases h
 | m + 1, d, t, x, y, r, h => by
  unfold eqv at h
  split at h
  ·cases h
  ·rename_i j hj
   split at h
   ·rename_i kk k a k' b hk
    split at h
    ·rename_i hkk
     subst hkk
     cases h
     have hu := (Q13 hj).int hk
     rw [show d + (m + 1) = (d + m) + 1 from rfl]
     simp only [Op.equalIn, Sem.run_bind, run_underlying hu, Result.andThen_ok, if_true, Sem.run_pure, Q191]
    ·cases h
   ·rename_i hk
    cases h
    have hu := (Q13 hj).bool hk
    rw [show d + (m + 1) = (d + m) + 1 from rfl]
    simp only [Op.equalIn, Sem.run_bind, run_underlying hu, Result.andThen_ok, Sem.run_pure]
   ·rename_i hk
    cases h
    have hu := (Q13 hj).string hk
    rw [show d + (m + 1) = (d + m) + 1 from rfl]
    simp only [Op.equalIn, Sem.run_bind, run_underlying hu, Result.andThen_ok, Sem.run_pure, Q151]
   ·rename_i fs xs ys hk
    split at h
    ·rename_i hc
     rw [Bool.and_eq_true, Bool.not_eq_true'] at hc
     obtain ⟨fl, hu, hm⟩ := (Q13 hj).struct hk
     have hf : P.fieldsOf t = fl := by simp [Program.fieldsOf, hu]
     have hn := hc.1
     unfold named at hn
     rw [hf] at hn
     rw [show d + (m + 1) = (d + m) + 1 from rfl, run_equalIn_struct (P := P) (w := w) (d + m) t xs ys (by rw [hf]; exact hu) hc.2, hf]
     have := Q259 (P := P) (w := w) (d := d + m) (fun t x y r => Q203 m d t x y r) hm hn h
     simpa using this
    ·cases h
   ·rename_i n e xs ys hk
    split at h
    ·rename_i je hje
     have hu := (Q13 hj).array hk
     obtain ⟨i, hi, hcs⟩ := Q238 hje
     rw [show d + (m + 1) = (d + m) + 1 from rfl, run_equalIn_array w (d + m) xs ys hu hi, hcs]
     have := Q275 (P := P) (w := w) (d := d + m) (fun t x y r => Q203 m d t x y r) h
     simpa using this
    ·cases h
   ·cases h
theorem Q260 {g : Nat → Value → Value → Option Bool} {d : Nat} {em : Bool} (hg : ∀ t x y r, g t x y = some r → (Instr.checkKey em d t x).run P w = .ok () w) {xs ys : List Value} : ∀ {fl : List Field} {fs : List (Nat × Nat)} {r : Bool}, fl.map (fun f => (f.type, f.offset)) = fs → eqfs P g fs xs ys = some r →
 (do for f in fl do if f.name ≠ "_" then Instr.checkKey em d f.type (← part f.type xs.toArray f.offset) : Sem Unit).run P w = .ok () w
 | [], _, r, rfl, h => by simp
 | f :: fl, _, r, rfl, h => by
  simp only [List.map_cons, eqfs] at h
  split at h
  ·rename_i a b hx hy
   split at h
   ·rename_i p hp
    obtain ⟨q, hq, rfl⟩ := Option.map_eq_some_iff.1 h
    have ih := Q260 hg rfl hq
    have h0 := hg _ _ _ _ hp
    by_cases hn : f.name = "_"
    ·simpa [hn, Result.andThen] using ih
    ·simpa [hn, Q71 hx, h0, Result.andThen] using ih
   ·cases h
  ·cases h
theorem Q263 {g : Nat → Value → Value → Option Bool} {d e c : Nat} {em : Bool} {ie : TypeInfo} (hi : P.info? e = some ie) (hcs : P.cellsOf e = c) (hg : ∀ t x y r, g t x y = some r → (Instr.checkKey em d t x).run P w = .ok () w) {xs ys : List Value} : ∀ {is : List Nat} {r : Bool}, eqfs P g (is.map fun i => (e, i * c)) xs ys = some r →
 (do for i in is do Instr.checkKey em d e (← part e xs.toArray (i * (← sizeOf e))) : Sem Unit).run P w = .ok () w
 | [], r, h => by simp
 | i :: is, r, h => by
  simp only [List.map_cons, eqfs] at h
  split at h
  ·rename_i a b hx hy
   split at h
   ·rename_i p hp
    obtain ⟨q, hq, rfl⟩ := Option.map_eq_some_iff.1 h
    have ih := Q263 hi hcs hg hq
    have h0 := hg _ _ _ _ hp
    subst hcs
    simpa [run_sizeOf w hi, Q71 hx, h0, Result.andThen] using ih
   ·cases h
  ·cases h
theorem Q208 (em : Bool) : ∀ (m d : Nat) (t : Nat) (x y : Value) (r : Bool), eqv P m t x y = some r → (Instr.checkKey em (d + m) t x).run P w = .ok () w
 | 0, d, t, x, y, r, h => by cases h
 | m + 1, d, t, x, y, r, h => by
  unfold eqv at h
  split at h
  ·cases h
  ·rename_i j hj
   rw [show d + (m + 1) = (d + m) + 1 from rfl, Instr.checkKey]
   split at h
   ·rename_i kk k a k' b hk
    simp [run_underlying ((Q13 hj).int hk), Result.andThen]
   ·rename_i hk
    simp [run_underlying ((Q13 hj).bool hk), Result.andThen]
   ·rename_i hk
    simp [run_underlying ((Q13 hj).string hk), Result.andThen]
   ·rename_i fs xs ys hk
    split at h
    ·obtain ⟨fl, hu, hm⟩ := (Q13 hj).struct hk
     have := Q260 (P := P) (w := w) (d := d + m) (em := em) (fun t x y r => Q208 em m d t x y r) hm h
     simp only [Sem.run_bind, run_underlying hu, Result.andThen]
     rw [← Array.forIn_toList]
     simp [Result.andThen] at this ⊢
     rw [this]
    ·cases h
   ·rename_i n e xs ys hk
    split at h
    ·rename_i je hje
     have hu := (Q13 hj).array hk
     obtain ⟨i, hi, hcs⟩ := Q238 hje
     have := Q263 (P := P) (w := w) (d := d + m) (em := em) hi hcs (fun t x y r => Q208 em m d t x y r) h
     simp only [Sem.run_bind, run_underlying hu, Result.andThen]
     simp only [Std.Legacy.Range.forIn_eq_forIn_range', Std.Legacy.Range.size, Nat.sub_zero, Nat.add_one_sub_one, Nat.div_one]
     rw [List.range_eq_range'] at this
     simp [Result.andThen] at this ⊢
     rw [this]
    ·cases h
   ·cases h
variable {κ : Type} [DecidableEq κ]
theorem KeyOk.deep {F : Fl κ} {fs : List (Nat × Nat)} {ii : TI} (m : Nat) (hm : m ≤ 10000) (hi : ti P t = some ii) (hk : ii.k = .struct fs)
 (he : ∀ x y : κ, eqv P m t (F.av x) (F.av y) = some (decide (x = y))) (hs : ∀ x : κ, ((F.enc x).zip (F.enc x)).all (fun p => Instr.sameBits 9999 p.1 p.2) = true) : KeyOk P t F.av := by
 obtain ⟨fl, hu, hmm⟩ := (Q13 hi).struct hk
 refine ⟨fun k w em => ?_, fun es ks k w h => ?_, fun k => ?_⟩
 ·have := Q208 (P := P) (w := w) em m (10000 - m) t _ _ _ (he k k)
  rwa [show 10000 - m + m = 10000 by omega] at this
 ·refine Q224 hu k (fun a => ?_) es ks h
  rw [show decide (a = k) = decide (k = a) from decide_eq_decide.2 eq_comm]
  have := Q203 (P := P) (w := w) m (10000 - m) t _ _ _ (he k a)
  rwa [show 10000 - m + m = 10000 by omega] at this
 ·show Instr.sameBits (9999 + 1) (.agg (F.enc k).toArray) (.agg (F.enc k).toArray) = true
  simp only [Instr.sameBits]
  simpa using hs k
end
theorem Q252 (kk : IntKind) (s : Int) : ∀ (es : List MapEntry) (ks : List Int) (i : Nat), es.map (·.key) = ks.map (fun x => Value.int kk x) →
 Instr.findNow (.int kk) (.int kk s) es i = some ((ks.findIdx? (fun a => decide (a = s))).bind fun j => es[j]?.map fun e => (i + j, e.val))
 | [], [], _, _ => rfl
 | [], _ :: _, _, h => by simp at h
 | _ :: _, [], _, h => by simp at h
 | e :: es, k :: ks, i, h => by
  simp only [List.map_cons, List.cons.injEq] at h
  unfold Instr.findNow
  have hb : (s == k) = decide (k = s) := by
   rw [Bool.eq_iff_iff, beq_iff_eq, decide_eq_true_eq]
   exact eq_comm
  rw [h.1]
  simp only [Instr.sameNow, if_true, hb]
  rw [List.findIdx?_cons]
  by_cases hks : k = s
  ·rw [decide_eq_true hks]
   simp
  ·rw [decide_eq_false hks]
   simp only [Bool.false_eq_true, if_false]
   rw [Q252 kk s es ks (i + 1) h.2]
   cases hf : ks.findIdx? (fun a => decide (a = s)) with
   | none => rfl
   | some j =>
    simp
    congr 1
    funext e
    congr 1
    omega
theorem KeyOk.int {P : Program} [Tys P] {t : Nat} {kk : IntKind} {i : TI} (hi : ti P t = some i) (hk : i.k = .int kk) : KeyOk P t (Fl.int kk).ov := by
 have hu := (Q13 hi).int hk
 refine ⟨fun k w em => ?_, fun es ks k w h => ?_, fun k => ?_⟩
 ·show (Instr.checkKey em (9999 + 1) t (.int kk k)).run P w = _
  rw [Instr.checkKey]
  simp [run_underlying hu, Result.andThen]
 ·have := Q252 kk k es ks 0 h
  simp only [Nat.zero_add] at this
  exact MapKept.run_findKey (k := .int kk k) hu this
 ·show Instr.sameBits (9999 + 1) (.int kk k) (.int kk k) = true
  simp [Instr.sameBits]
end Go.Bw
