/- BisimKeeps, part 2: walks and plain laws. Conditions: none. -/
import Derived.Test.YtbkooifhcekpmaaGreatDoorProg
import Derived.MapKept
import Derived.LaidMore
import Derived.ProofKit
import Derived.OpenShut
import Derived.ChangeKeysEq
import Derived.Test.YtbkooifhcekpmaaGreatDoorBwBisimKeepsA
set_option linter.unusedVariables false
set_option linter.unusedSimpArgs false
set_option linter.unusedSectionVars false
set_option maxRecDepth 100000
set_option maxHeartbeats 2000000
namespace Go.Bw
open Go Go.RowKit Go.Proofs
variable {R : Res} {Fr : List HProp} {b1 n1_1 c1_1 n1_2 c1_2 n1_3 c1_3 n0 c0 b1_0_c0 n1_0_c0_1 c1_0_c0_1 n1_0_c0_2 c1_0_c0_2 n1_0_c0_3 c1_0_c0_3 b1_c0 b1_c0_0_c0 n1_c0_0_c0_1 c1_c0_0_c0_1 n1_c0_0_c0_2 c1_c0_0_c0_2 n1_c0_0_c0_3 c1_c0_0_c0_3 n0_1 c0_1 n0_2 c0_2 n0_3 c0_3 : Nat} {A1_1 A1_2 A1_3 A0 A1_0_c0_1 A1_0_c0_2 A1_0_c0_3 A1_c0_0_c0_1 A1_c0_0_c0_2 A1_c0_0_c0_3 A0_1 A0_2 A0_3 : Option Addr}
structure Q1 where
 From : Int
 Action : Int
 To : Int
deriving Inhabited, DecidableEq
def Q1.fl : Fl Q1 := ⟨3, fun x => [i6 x.From, i6 x.Action, i6 x.To], fun _ => rfl, fun x u hu => by simp at hu; rcases hu with rfl | rfl | rfl <;> rfl, by decide⟩
structure Q2 where
 Name : Bs
 States : List Int
deriving Inhabited
def Q2.rep : Rep Q2 := ((Fl.bs.rep).pair (((Fl.int .i64).rep).slice)).iso (fun x => (x.Name, x.States))
def Q2.ow : Ow Q2 := ((Ow.fl Fl.bs).pair (Ow.sl (Fl.int .i64) 3)).iso (fun x => (x.Name, x.States))
theorem Q2.ent {x0 : Bs} {A1 : Option Addr} {n1 c1 : Nat} {x1 : List Int} : Ent [row (Fl.int .i64) 3 A1 n1 c1 x1] (Q2.ow.own ⟨x0, x1⟩ [.string ⟨(x0).toArray⟩, .slice A1 n1 c1]) := (Ent.pair (c1 := [.string ⟨(x0).toArray⟩]) (c2 := [.slice A1 n1 c1]) (Ent.fl Fl.bs rfl) (Ent.sl (Fl.int .i64)))
theorem bytealg_cmpstring.ext : ExtOk Tryz.prog 135 Extern.BytealgCompare.compare := ⟨_, Tryz.func135, by kernel_rfl, by kernel_rfl, by kernel_rfl, by kernel_rfl⟩

noncomputable def Q82.f (a0 p : Int) (u : List Bs) (D : List Q1) (G : List Q2) : Option Bool :=
 jn (
 if 0 ≤ a0 then
 some (.inl (decide (a0 < p)))
 else
 some (.inl false)) (fun (q : Bool) =>
 some q)
theorem Q82.callee : Callee Tryz.prog 46 := ⟨_, Tryz.func46, by kernel_rfl, by kernel_rfl⟩
theorem Q82.spec {a0 p : Int} {u : List Bs} {D : List Q1} {G : List Q2} (hr1_1 : RdS Fl.bs.rep R.heap A1_1 u) (hn1_1 : u.length = n1_1) (hc1_1 : n1_1 ≤ c1_1) (hr1_2 : RdS Q1.fl.rep R.heap A1_2 D) (hn1_2 : D.length = n1_2) (hc1_2 : n1_2 ≤ c1_2) (hr1_3 : RdS Q2.rep R.heap A1_3 G) (hn1_3 : G.length = n1_3) (hc1_3 : n1_3 ≤ c1_3) {r : Bool} (j : Q82.f a0 p u D G = some r) :
 Spec Tryz.prog 46 [i6 a0, bp b1] R (pc b1 [i6 p, .slice A1_1 n1_1 c1_1, .slice A1_2 n1_2 c1_2, .slice A1_3 n1_3 c1_3] 26 :: Fr) (fun v l' => v = .bool r ∧ pc b1 [i6 p, .slice A1_1 n1_1 c1_1, .slice A1_2 n1_2 c1_2, .slice A1_3 n1_3 c1_3] 26 :: Fr = l') := by
 subst hn1_1; subst hn1_2; subst hn1_3; refine Spec.of Tryz.func46 rfl rfl ?_; unfold Q82.f at j; have j := brun j; refine sR 1 rfl (nT (sR 3 rfl ?_)); obtain ⟨L, O, U, j⟩ := bjoin j; let T1 : HProp := pc b1 [i6 p, .slice A1_1 u.length c1_1, .slice A1_2 D.length c1_2, .slice A1_3 G.length c1_3] 26; refine At.joinO 5 (X := Bool) (fun q => [(11, .bool q)]) (fun q => T1 :: Fr) (fun q => L (.inl q) = some r) ?_ (fun J => ?_)
 ·rintro q j; have j := (O _).symm.trans j
  ·refine At.run 1 rfl (nT (At.ret ?_)); cases bret j; exact At.res (.inl rfl) rfl rfl ⟨rfl, rfl⟩
 ··rcases bite j with ⟨I, j⟩ | ⟨I, j⟩
   ··refine At.know (t := 6) rfl (decide_eq_true I) ?_
     refine At.run 2 rfl (At.y (Y.load rfl rfl .z rfl rfl rfl) rfl rfl rfl (At.run 2 rfl ?_)); exact At.of (J (decide (a0 < p)) j) ⟨rfl, trivial⟩
   ··refine At.know (t := 6) rfl (decide_eq_false I) ?_
     refine At.run 5 rfl ?_; exact At.of (J false j) ⟨rfl, trivial⟩

noncomputable def Q104.f (a0 : Int) : Option Bool :=
 jn (
 if 97 ≤ a0 then
 some (.inl (decide (a0 ≤ 122)))
 else
 some (.inl false)) (fun (p : Bool) =>
 jn (
 if p = true then
 some (.inl true)
 else
 jn (
 if 65 ≤ a0 then
 some (.inl (decide (a0 ≤ 90)))
 else
 some (.inl false)) (fun (q : Bool) =>
 some (.inl q))) (fun (u : Bool) =>
 jn (
 if u = true then
 some (.inl true)
 else
 jn (
 if 48 ≤ a0 then
 some (.inl (decide (a0 ≤ 57)))
 else
 some (.inl false)) (fun (D : Bool) =>
 some (.inl D))) (fun (G : Bool) =>
 jn (
 if G = true then
 some (.inl true)
 else
 some (.inl (decide (a0 = 95)))) (fun (I : Bool) =>
 some (!I)))))
theorem Q104.callee : Callee Tryz.prog 84 := ⟨_, Tryz.func84, by kernel_rfl, by kernel_rfl⟩
theorem Q104.spec {a0 : Int} {r : Bool} (j : Q104.f a0 = some r) :
 Spec Tryz.prog 84 [.int .i32 a0] R (Fr) (fun v l' => v = .bool r ∧ Fr = l') := by
 refine Spec.of Tryz.func84 rfl rfl ?_; unfold Q104.f at j; have j := brun j; refine sR 1 rfl (nT (sR 3 rfl ?_)); obtain ⟨a7, a8, d1, j⟩ := bjoin j; refine At.joinO 3 (X := Bool) (fun u => [(0, .int .i32 a0), (8, .bool u)]) (fun u => Fr) (fun u => a7 (.inl u) = some r) ?_ (fun a1 => ?_)
 ·rintro u j; have j := (a8 _).symm.trans j
  ·refine At.run 1 rfl ?_; obtain ⟨a9, b4, d2, j⟩ := bjoin j; refine At.joinO 7 (X := Bool) (fun D => [(0, .int .i32 a0), (16, .bool D)]) (fun D => Fr) (fun D => a9 (.inl D) = some r) ?_ (fun a2 => ?_)
   ·rintro D j; have j := (b4 _).symm.trans j
    ·refine At.run 1 rfl ?_; obtain ⟨b5, b6, d3, j⟩ := bjoin j; refine At.joinO 7 (X := Bool) (fun G => [(0, .int .i32 a0), (24, .bool G)]) (fun G => Fr) (fun G => b5 (.inl G) = some r) ?_ (fun a3 => ?_)
     ·rintro G j; have j := (b6 _).symm.trans j
      ·refine At.run 1 rfl ?_; obtain ⟨b7, b8, d4, j⟩ := bjoin j; refine At.joinO 3 (X := Bool) (fun I => [(28, .bool I)]) (fun I => Fr) (fun I => b7 (.inl I) = some r) ?_ (fun a4 => ?_)
       ·rintro I j; have j := (b8 _).symm.trans j
        ·refine At.run 2 rfl (nT (At.ret ?_)); cases bret j; exact At.res (.inl rfl) rfl rfl ⟨rfl, rfl⟩
       ··rcases bite j with ⟨J, j⟩ | ⟨J, j⟩
         ··refine At.know (t := 25) rfl J ?_
           refine At.run 3 rfl ?_; exact At.of (a4 true j) ⟨rfl, trivial⟩
         ··refine At.know (t := 25) rfl (bn J) ?_
           refine At.run 3 rfl ?_; exact At.of (a4 (decide (a0 = 95)) j) ⟨rfl, trivial⟩
     ··rcases bite j with ⟨L, j⟩ | ⟨L, j⟩
       ··refine At.know (t := 17) rfl L ?_
         refine At.run 7 rfl ?_; exact At.of (a3 true j) ⟨rfl, rfl, trivial⟩
       ··refine At.know (t := 17) rfl (bn L) ?_
         refine At.run 3 rfl ?_; obtain ⟨b9, c8, d5, j⟩ := bjoin j; refine At.joinO 3 (X := Bool) (fun p => [(0, .int .i32 a0), (17, .bool false), (23, .bool p)]) (fun p => Fr) (fun p => b9 (.inl p) = some r) ?_ (fun a5 => ?_)
         ·rintro p j; have j := (c8 _).symm.trans j
          ·refine At.run 1 rfl ?_; exact At.of (a3 p j) ⟨rfl, rfl, trivial⟩
         ··rcases bite j with ⟨O, j⟩ | ⟨O, j⟩
           ··refine At.know (t := 20) rfl (decide_eq_true O) ?_
             refine At.run 3 rfl ?_; exact At.of (a5 (decide (a0 ≤ 57)) j) ⟨rfl, rfl, rfl, trivial⟩
           ··refine At.know (t := 20) rfl (decide_eq_false O) ?_
             refine At.run 3 rfl ?_; exact At.of (a5 false j) ⟨rfl, rfl, rfl, trivial⟩
   ··rcases bite j with ⟨U, j⟩ | ⟨U, j⟩
     ··refine At.know (t := 9) rfl U ?_
       refine At.run 7 rfl ?_; exact At.of (a2 true j) ⟨rfl, rfl, trivial⟩
     ··refine At.know (t := 9) rfl (bn U) ?_
       refine At.run 3 rfl ?_; obtain ⟨c9, d0, d6, j⟩ := bjoin j; refine At.joinO 3 (X := Bool) (fun q => [(0, .int .i32 a0), (9, .bool false), (15, .bool q)]) (fun q => Fr) (fun q => c9 (.inl q) = some r) ?_ (fun a6 => ?_)
       ·rintro q j; have j := (d0 _).symm.trans j
        ·refine At.run 1 rfl ?_; exact At.of (a2 q j) ⟨rfl, rfl, trivial⟩
       ··rcases bite j with ⟨V, j⟩ | ⟨V, j⟩
         ··refine At.know (t := 12) rfl (decide_eq_true V) ?_
           refine At.run 3 rfl ?_; exact At.of (a6 (decide (a0 ≤ 90)) j) ⟨rfl, rfl, rfl, trivial⟩
         ··refine At.know (t := 12) rfl (decide_eq_false V) ?_
           refine At.run 3 rfl ?_; exact At.of (a6 false j) ⟨rfl, rfl, rfl, trivial⟩
 ··rcases bite j with ⟨Z, j⟩ | ⟨Z, j⟩
   ··refine At.know (t := 5) rfl (decide_eq_true Z) ?_
     refine At.run 3 rfl ?_; exact At.of (a1 (decide (a0 ≤ 122)) j) ⟨rfl, rfl, trivial⟩
   ··refine At.know (t := 5) rfl (decide_eq_false Z) ?_
     refine At.run 3 rfl ?_; exact At.of (a1 false j) ⟨rfl, rfl, trivial⟩

noncomputable def Q61.l0b (a0 : Bs) (a2 : Bool) (p : Nat) : Option ((Nat) ⊕ ((Nat) ⊕ (Int))) :=
 if p < a0.length then
 (Q104.f (runeAt a0 p)).bind fun q =>
 if (q == a2) = true then
 upL (some (p : Int))
 else
 nx (p + runeLen a0 p)
 else
 dn (.inl p)
noncomputable def Q61.l0 (a0 : Bs) (a2 : Bool) (p : Nat) : Option ((Nat) ⊕ (Int)) := iter (fun t_ : Nat => Q61.l0b a0 a2 t_) p
noncomputable def Q61.f (a0 : Bs) (a2 : Bool) : Option Int :=
 jn (Q61.l0 a0 a2 0) (fun (p : Nat) =>
 some (-1))
theorem Q61.callee : Callee Tryz.prog 163 := ⟨_, Tryz.func163, by kernel_rfl, by kernel_rfl⟩
theorem Q61.spec {a0 : Bs} {a2 : Bool} {r : Int} (j : Q61.f a0 a2 = some r) :
 Spec Tryz.prog 163 [.string ⟨(a0).toArray⟩, .func (.func 84) #[] #[], .bool a2] R (Fr) (fun v l' => v = i6 r ∧ Fr = l') := by
 refine Spec.of Tryz.func163 rfl rfl ?_; unfold Q61.f at j; have j := brun j; refine sR 1 rfl (nT (At.seq (At.seq (At.region ?_)))); refine At.run 1 rfl ?_; refine At.rangeStr rfl rfl rfl rfl rfl (fun D => ?_); refine nT ?_; refine At.block ?_; obtain ⟨V, Z, a1, j⟩ := bjoin j; obtain ⟨O, G, U⟩ := bsome j; clear j; unfold Q61.l0 at G; obtain ⟨I, q⟩ := Q16.1 G; clear G; refine At.loopJ (X := Nat) (Y := Nat) (e0 := 0) (fun p => [(1, .func (.func 84) #[] #[]), (2, .bool a2), (10, bp D)]) (fun p => pt D (.stringIter ⟨(a0).toArray⟩ p) :: Fr) (fun m_ => fun p => iterN (fun t_ : Nat => Q61.l0b a0 a2 t_) m_ p = some O) I 0 q (fun u => []) (fun u => pt D (.stringIter ⟨(a0).toArray⟩ u) :: Fr) (fun u => V (.inl u) = some r) (fun a w e hs => ⟨e.sub ⟨rfl, rfl, rfl, trivial⟩, (by exact hs)⟩) ?_ (fun a3 => ?_)
 ·rintro u j; have j := (Z _).symm.trans j
  ·refine At.ibx ?_; refine At.thn (sR 1 rfl (nT (At.ret (At.drop .z ?_)))); cases bret j; exact At.res (.inl rfl) rfl rfl ⟨rfl, rfl⟩
 ·clear q I; rintro I p q; obtain ⟨a4, f_, a5, hf_, j⟩ := bit q; clear q; have j : (Q61.l0b a0 a2 p).bind _ = some O := j; unfold Q61.l0b at j
  ·refine At.seq (At.region ?_); rcases bite j with ⟨J, j⟩ | ⟨J, j⟩
   ··refine At.nextT rfl rfl .z (of_decide_eq_true (decide_eq_true J)) rfl ?_
     refine At.run 1 rfl (nT (At.seq ?_)); refine At.condT rfl rfl ?_; refine At.skip (At.thn ?_); refine At.block ?_; refine sR 4 rfl (nT (sR 2 rfl ?_)); obtain ⟨a7, a6, j⟩ := bbind j; refine At.call rfl Q104.callee rfl rfl rfl (Q104.spec a6) ?_; rintro _ _ ⟨rfl, rfl⟩; refine At.run 2 rfl (nT ?_); rcases bite j with ⟨L, j⟩ | ⟨L, j⟩
     ··refine At.condT rfl L ?_
       refine sR 2 rfl (nT (At.ret ?_)); refine At.ibr ?_; have j := bupL a1 U j; refine At.thr ?_; refine At.ibr ?_; refine At.thr (At.drop .z ?_); cases bret j; exact At.res (.inl rfl) rfl rfl ⟨rfl, rfl⟩
     ··refine At.condF rfl (bn L) ?_
       refine At.skip ?_; refine At.ibn ?_; have j := bnx hf_ j; exact fun a w e hs => ⟨a4, (p + runeLen a0 p), a5, j, e.sub ⟨rfl, rfl, rfl, trivial⟩, hs⟩
   ··refine At.nextF rfl rfl .z (of_decide_eq_false (decide_eq_false J)) rfl ?_
     refine At.run 1 rfl (nT (At.seq ?_)); refine At.condF rfl rfl ?_; refine At.exit ?_; refine At.the ?_; refine At.the ?_; exact fun a w e hs => a3 p (bdn j U) a w (e.sub trivial) hs

noncomputable def Q133.f (a0 : Bs) : Option Int :=
 (Q61.f a0 true).bind fun p =>
 some p
theorem Q133.callee : Callee Tryz.prog 134 := ⟨_, Tryz.func134, by kernel_rfl, by kernel_rfl⟩
theorem Q133.spec {a0 : Bs} {r : Int} (j : Q133.f a0 = some r) :
 Spec Tryz.prog 134 [.string ⟨(a0).toArray⟩, .func (.func 84) #[] #[]] R (Fr) (fun v l' => v = i6 r ∧ Fr = l') := by
 refine Spec.of Tryz.func134 rfl rfl ?_; unfold Q133.f at j; have j := brun j; refine sR 1 rfl (nT (sR 2 rfl ?_)); obtain ⟨q, p, j⟩ := bbind j; refine At.call rfl Q61.callee rfl rfl rfl (Q61.spec p) ?_; rintro _ _ ⟨rfl, rfl⟩; refine At.run 1 rfl (nT (At.ret ?_)); cases bret j; exact At.res (.inl rfl) rfl rfl ⟨rfl, rfl⟩

noncomputable def Q114.f (a0 : Bs) : Option Bool :=
 (Q133.f a0).bind fun p =>
 some (decide (0 ≤ p))
theorem Q114.callee : Callee Tryz.prog 83 := ⟨_, Tryz.func83, by kernel_rfl, by kernel_rfl⟩
theorem Q114.spec {a0 : Bs} {r : Bool} (j : Q114.f a0 = some r) :
 Spec Tryz.prog 83 [.string ⟨(a0).toArray⟩, .func (.func 84) #[] #[]] R (Fr) (fun v l' => v = .bool r ∧ Fr = l') := by
 refine Spec.of Tryz.func83 rfl rfl ?_; unfold Q114.f at j; have j := brun j; refine sR 1 rfl (nT (sR 2 rfl ?_)); obtain ⟨q, p, j⟩ := bbind j; refine At.call rfl Q133.callee rfl rfl rfl (Q133.spec p) ?_; rintro _ _ ⟨rfl, rfl⟩; refine At.run 2 rfl (nT (At.ret ?_)); cases bret j; exact At.res (.inl rfl) rfl rfl ⟨rfl, rfl⟩

noncomputable def Q79.f (a0 : Bs) : Option Bool :=
 jn (
 if (a0.length : Int) < 1 then
 some (.inl true)
 else
 some (.inl (decide (8 < (a0.length : Int))))) (fun (p : Bool) =>
 jn (
 if p = true then
 some (.inl true)
 else
 if (0 : Int) ≤ 0 ∧ 0 < (a0.length : Int) then
 some (.inl (decide (bat a0 0 < 97)))
 else none) (fun (q : Bool) =>
 jn (
 if q = true then
 some (.inl true)
 else
 if (0 : Int) ≤ 0 ∧ 0 < (a0.length : Int) then
 some (.inl (decide (122 < bat a0 0)))
 else none) (fun (u : Bool) =>
 if u = true then
 some false
 else
 if bseq a0 ([116, 116] : Bs) = true then
 some false
 else
 if bseq a0 ([102, 102] : Bs) = true then
 some false
 else
 if bseq a0 ([109, 117] : Bs) = true then
 some false
 else
 if bseq a0 ([110, 117] : Bs) = true then
 some false
 else
 (Q114.f a0).bind fun D =>
 some (!D))))
theorem Q79.callee : Callee Tryz.prog 47 := ⟨_, Tryz.func47, by kernel_rfl, by kernel_rfl⟩
theorem Q79.spec {a0 : Bs} {r : Bool} (j : Q79.f a0 = some r) :
 Spec Tryz.prog 47 [.string ⟨(a0).toArray⟩] R (Fr) (fun v l' => v = .bool r ∧ Fr = l') := by
 refine Spec.of Tryz.func47 rfl rfl ?_; unfold Q79.f at j; have j := brun j; refine sR 1 rfl (nT (At.seq (At.seq (At.region ?_)))); refine At.run 4 rfl ?_; obtain ⟨a5, a6, b6, j⟩ := bjoin j; refine At.joinO 4 (X := Bool) (fun p => [(0, .string ⟨(a0).toArray⟩), (10, .bool p)]) (fun p => Fr) (fun p => a5 (.inl p) = some r) ?_ (fun Z => ?_)
 ·rintro p j; have j := (a6 _).symm.trans j
  ·refine At.run 1 rfl ?_; obtain ⟨a7, a8, b7, j⟩ := bjoin j; refine At.joinO 4 (X := Bool) (fun q => [(0, .string ⟨(a0).toArray⟩), (15, .bool q)]) (fun q => Fr) (fun q => a7 (.inl q) = some r) ?_ (fun a1 => ?_)
   ·rintro q j; have j := (a8 _).symm.trans j
    ·refine At.run 1 rfl ?_; obtain ⟨a9, b4, b8, j⟩ := bjoin j; refine At.joinO 4 (X := Bool) (fun u => [(0, .string ⟨(a0).toArray⟩), (20, .bool u)]) (fun u => Fr) (fun u => a9 (.inl u) = some r) ?_ (fun a2 => ?_)
     ·rintro u j; have j := (b4 _).symm.trans j
      ·refine nT ?_; rcases bite j with ⟨J, j⟩ | ⟨J, j⟩
       ··refine At.condT rfl J ?_
         refine sR 1 rfl (nT (At.ret (At.thr ?_))); cases bret j; exact At.res (.inl rfl) rfl rfl ⟨rfl, rfl⟩
       ··refine At.condF rfl (bn J) ?_
         refine At.skip (At.thn (At.seq (sR 1 rfl (nT ?_)))); refine At.block ?_; refine At.seq (sR 2 rfl (nT ?_)); rcases bite j with ⟨D, j⟩ | ⟨D, j⟩
         ··refine At.condT rfl D ?_
           refine At.skip (At.thn ?_); refine At.condT rfl D ?_; refine sR 1 rfl (nT (At.ret ?_)); refine At.ibr ?_; refine At.thr ?_; cases bret j; exact At.res (.inl rfl) rfl rfl ⟨rfl, rfl⟩
         ··refine At.condF rfl (bn D) ?_
           refine sR 2 rfl (nT ?_); rcases bite j with ⟨G, j⟩ | ⟨G, j⟩
           ··refine At.condT rfl G ?_
             refine At.skip (At.thn ?_); refine At.condT rfl G ?_; refine sR 1 rfl (nT (At.ret ?_)); refine At.ibr ?_; refine At.thr ?_; cases bret j; exact At.res (.inl rfl) rfl rfl ⟨rfl, rfl⟩
           ··refine At.condF rfl (bn G) ?_
             refine sR 2 rfl (nT ?_); rcases bite j with ⟨I, j⟩ | ⟨I, j⟩
             ··refine At.condT rfl I ?_
               refine At.skip (At.thn ?_); refine At.condT rfl I ?_; refine sR 1 rfl (nT (At.ret ?_)); refine At.ibr ?_; refine At.thr ?_; cases bret j; exact At.res (.inl rfl) rfl rfl ⟨rfl, rfl⟩
             ··refine At.condF rfl (bn I) ?_
               refine At.region (At.run 2 rfl (nT ?_)); rcases bite j with ⟨L, j⟩ | ⟨L, j⟩
               ··refine At.condT rfl L ?_
                 refine sR 1 rfl (nT (At.ret ?_)); refine At.ibr ?_; refine At.thr ?_; cases bret j; exact At.res (.inl rfl) rfl rfl ⟨rfl, rfl⟩
               ··refine At.condF rfl (bn L) ?_
                 refine At.skip ?_; refine At.ibn ?_; refine At.thn (sR 1 rfl ?_); obtain ⟨b9, b5, j⟩ := bbind j; refine At.call rfl Q114.callee rfl rfl rfl (Q114.spec b5) ?_; rintro _ _ ⟨rfl, rfl⟩; refine At.run 2 rfl (nT (At.ret ?_)); cases bret j; exact At.res (.inl rfl) rfl rfl ⟨rfl, rfl⟩
     ··rcases bite j with ⟨O, j⟩ | ⟨O, j⟩
       ··refine At.know (t := 16) rfl O ?_
         refine At.run 4 rfl ?_; exact At.of (a2 true j) ⟨rfl, rfl, trivial⟩
       ··refine At.know (t := 16) rfl (bn O) ?_
         refine At.run 1 rfl ?_; obtain ⟨a3, j⟩ := bnone j; refine At.y (Y.ixStr rfl rfl rfl rfl a3.1 a3.2) rfl rfl rfl (At.run 2 rfl ?_); exact At.of (a2 (decide (122 < bat a0 0)) j) ⟨rfl, rfl, trivial⟩
   ··rcases bite j with ⟨U, j⟩ | ⟨U, j⟩
     ··refine At.know (t := 11) rfl U ?_
       refine At.run 4 rfl ?_; exact At.of (a1 true j) ⟨rfl, rfl, trivial⟩
     ··refine At.know (t := 11) rfl (bn U) ?_
       refine At.run 1 rfl ?_; obtain ⟨a4, j⟩ := bnone j; refine At.y (Y.ixStr rfl rfl rfl rfl a4.1 a4.2) rfl rfl rfl (At.run 2 rfl ?_); exact At.of (a1 (decide (bat a0 0 < 97)) j) ⟨rfl, rfl, trivial⟩
 ··rcases bite j with ⟨V, j⟩ | ⟨V, j⟩
   ··refine At.know (t := 6) rfl (decide_eq_true V) ?_
     refine At.run 4 rfl ?_; exact At.of (Z true j) ⟨rfl, rfl, trivial⟩
   ··refine At.know (t := 6) rfl (decide_eq_false V) ?_
     refine At.run 4 rfl ?_; exact At.of (Z (decide (8 < (a0.length : Int))) j) ⟨rfl, rfl, trivial⟩

noncomputable def Q105.f (a0 : Int) : Option Bool :=
 some (!(decide (a0 = a0)))
theorem Q105.callee : Callee Tryz.prog 85 := ⟨_, Tryz.func85, by kernel_rfl, by kernel_rfl⟩
theorem Q105.spec {a0 : Int} {r : Bool} (j : Q105.f a0 = some r) :
 Spec Tryz.prog 85 [i6 a0] R (Fr) (fun v l' => v = .bool r ∧ Fr = l') := by
 refine Spec.of Tryz.func85 rfl rfl ?_; unfold Q105.f at j; have j := brun j; refine sR 1 rfl (nT (sR 4 rfl ?_)); refine nT (At.ret ?_); cases bret j; exact At.res (.inl rfl) rfl rfl ⟨rfl, rfl⟩

noncomputable def Q69.f (a0 a1 : Int) : Option Int :=
 (Q105.f a0).bind fun q =>
 (Q105.f a1).bind fun p =>
 if q = true then
 if p = true then
 some 0
 else
 some (-1)
 else
 if p = true then
 some 1
 else
 if a0 < a1 then
 some (-1)
 else
 if a1 < a0 then
 some 1
 else
 some 0
theorem Q69.callee : Callee Tryz.prog 49 := ⟨_, Tryz.func49, by kernel_rfl, by kernel_rfl⟩
theorem Q69.spec {a0 a1 : Int} {r : Int} (j : Q69.f a0 a1 = some r) :
 Spec Tryz.prog 49 [i6 a0, i6 a1] R (Fr) (fun v l' => v = i6 r ∧ Fr = l') := by
 refine Spec.of Tryz.func49 rfl rfl ?_; unfold Q69.f at j; have j := brun j; refine sR 1 rfl (nT (sR 1 rfl ?_)); obtain ⟨L, I, j⟩ := bbind j; refine At.call rfl Q105.callee rfl rfl rfl (Q105.spec I) ?_; rintro _ _ ⟨rfl, rfl⟩; refine At.run 1 rfl (nT (sR 1 rfl ?_)); obtain ⟨O, J, j⟩ := bbind j; refine At.call rfl Q105.callee rfl rfl rfl (Q105.spec J) ?_; rintro _ _ ⟨rfl, rfl⟩; refine At.run 1 rfl (nT (At.seq (sR 1 rfl (At.nil ?_)))); refine At.thn ?_; rcases bite j with ⟨p, j⟩ | ⟨p, j⟩
 ··refine At.condT rfl p ?_
   refine At.seq (sR 1 rfl (nT ?_)); rcases bite j with ⟨q, j⟩ | ⟨q, j⟩
   ··refine At.condT rfl q ?_
     refine sR 1 rfl (nT (At.ret (At.thr (At.thr ?_)))); cases bret j; exact At.res (.inl rfl) rfl rfl ⟨rfl, rfl⟩
   ··refine At.condF rfl (bn q) ?_
     refine At.skip (At.thn (sR 1 rfl (nT (At.ret ?_)))); refine At.thr ?_; cases bret j; exact At.res (.inl rfl) rfl rfl ⟨rfl, rfl⟩
 ··refine At.condF rfl (bn p) ?_
   refine At.skip (At.thn (At.seq (sR 1 rfl (nT ?_)))); rcases bite j with ⟨u, j⟩ | ⟨u, j⟩
   ··refine At.condT rfl u ?_
     refine sR 1 rfl (nT (At.ret (At.thr ?_))); cases bret j; exact At.res (.inl rfl) rfl rfl ⟨rfl, rfl⟩
   ··refine At.condF rfl (bn u) ?_
     refine At.skip (At.thn (At.seq (sR 3 rfl (nT ?_)))); rcases bite j with ⟨D, j⟩ | ⟨D, j⟩
     ··refine At.condT rfl (decide_eq_true D) ?_
       refine sR 1 rfl (nT (At.ret (At.thr ?_))); cases bret j; exact At.res (.inl rfl) rfl rfl ⟨rfl, rfl⟩
     ··refine At.condF rfl (decide_eq_false D) ?_
       refine At.skip (At.thn (At.seq (sR 3 rfl (nT ?_)))); rcases bite j with ⟨G, j⟩ | ⟨G, j⟩
       ··refine At.condT rfl (decide_eq_true G) ?_
         refine sR 1 rfl (nT (At.ret (At.thr ?_))); cases bret j; exact At.res (.inl rfl) rfl rfl ⟨rfl, rfl⟩
       ··refine At.condF rfl (decide_eq_false G) ?_
         refine At.skip (At.thn (sR 1 rfl (nT (At.ret ?_)))); cases bret j; exact At.res (.inl rfl) rfl rfl ⟨rfl, rfl⟩

noncomputable def Q63.l0b (a0 : List Int) (p : Int) : Option ((Int) ⊕ ((Unit) ⊕ (Bool))) :=
 if p < (a0.length : Int) then
 if (0 : Int) ≤ IntKind.i64.wrap (p - 1) ∧ IntKind.i64.wrap (p - 1) < (a0.length : Int) then
 if (0 : Int) ≤ p ∧ p < (a0.length : Int) then
 (Q69.f (gt a0 (IntKind.i64.wrap (p - 1))) (gt a0 p)).bind fun q =>
 if 0 ≤ q then
 upL (some false)
 else
 nx (IntKind.i64.wrap (p + 1))
 else none
 else none
 else
 dn (.inl ())
noncomputable def Q63.l0 (a0 : List Int) (p : Int) : Option ((Unit) ⊕ (Bool)) := iter (fun t_ : Int => Q63.l0b a0 t_) p
noncomputable def Q63.f (a0 : List Int) : Option Bool :=
 jn (Q63.l0 a0 1) (fun (_ : Unit) =>
 some true)
theorem Q63.callee : Callee Tryz.prog 48 := ⟨_, Tryz.func48, by kernel_rfl, by kernel_rfl⟩
theorem Q63.spec {a0 : List Int} (hr0 : RdS (Fl.int .i64).rep R.heap A0 a0) (hn0 : a0.length = n0) (hc0 : n0 ≤ c0) {r : Bool} (j : Q63.f a0 = some r) :
 Spec Tryz.prog 48 [.slice A0 n0 c0, .func (.func 49) #[] #[]] R (Fr) (fun v l' => v = .bool r ∧ Fr = l') := by
 subst hn0; refine Spec.of Tryz.func48 rfl rfl ?_; unfold Q63.f at j; have j := brun j; refine sR 1 rfl (nT (At.seq (At.seq (At.region ?_)))); refine At.run 1 rfl (nT ?_); refine At.block ?_; obtain ⟨Z, a1, a2, j⟩ := bjoin j; obtain ⟨U, I, V⟩ := bsome j; clear j; unfold Q63.l0 at I; obtain ⟨J, u⟩ := Q16.1 I; clear I; refine At.loopJ (X := Int) (Y := Unit) (e0 := 0) (fun p => [(0, .slice A0 a0.length c0), (1, .func (.func 49) #[] #[]), (5, i6 p)]) (fun p => Fr) (fun m_ => fun p => iterN (fun t_ : Int => Q63.l0b a0 t_) m_ p = some U) J 1 u (fun _ => []) (fun _ => Fr) (fun _ => Z (.inl ()) = some r) (fun a w e hs => ⟨e.sub ⟨rfl, rfl, rfl, trivial⟩, (by exact hs)⟩) ?_ (fun a3 => ?_)
 ·rintro _ j; have j := (a1 _).symm.trans j
  ·refine At.ibx ?_; refine At.thn (sR 1 rfl (nT (At.ret ?_))); cases bret j; exact At.res (.inl rfl) rfl rfl ⟨rfl, rfl⟩
 ·clear u J; rintro J p u; obtain ⟨a4, f_, a5, hf_, j⟩ := bit u; clear u; have j : (Q63.l0b a0 p).bind _ = some U := j; unfold Q63.l0b at j
  ·refine At.seq (sR 4 rfl (nT ?_)); rcases bite j with ⟨L, j⟩ | ⟨L, j⟩
   ··refine At.condT rfl (decide_eq_true L) ?_
     refine At.skip (At.thn (At.seq ?_)); refine At.block ?_; refine At.seq ?_; refine At.quiet (by kernel_rfl) ?_; refine At.Quiet.run 4 rfl ?_; obtain ⟨D, j⟩ := bnone j; refine At.Quiet.y (Y.ixRd hr0 rfl rfl rfl rfl rfl rfl rfl D.1 D.2) rfl rfl rfl ?_; refine At.Quiet.y (Y.ldFl hr0 rfl (q := 0) rfl rfl D.1 D.2 rfl rfl rfl) rfl rfl rfl ?_; refine At.Quiet.run 2 rfl ?_; obtain ⟨G, j⟩ := bnone j; refine At.Quiet.y (Y.ixRd hr0 rfl rfl rfl rfl rfl rfl rfl G.1 G.2) rfl rfl rfl ?_; refine At.Quiet.y (Y.ldFl hr0 rfl (q := 0) rfl rfl G.1 G.2 rfl rfl rfl) rfl rfl rfl ?_; obtain ⟨a7, a6, j⟩ := bbind j; refine At.Quiet.call rfl Q69.callee rfl rfl rfl (Q69.spec a6) (fun _ _ h_ => ⟨h_.1, fun _ hs => h_.2 ▸ hs⟩) ?_; refine At.Quiet.run 1 rfl (At.Quiet.nil (At.thn ?_)); rcases bite j with ⟨O, j⟩ | ⟨O, j⟩
     ··refine At.condT rfl (decide_eq_true O) ?_
       refine sR 1 rfl (nT (At.ret ?_)); refine At.ibr ?_; refine At.thr ?_; have j := bupL a2 V j; refine At.thr ?_; refine At.ibr ?_; refine At.thr ?_; cases bret j; exact At.res (.inl rfl) rfl rfl ⟨rfl, rfl⟩
     ··refine At.condF rfl (decide_eq_false O) ?_
       refine At.skip ?_; refine At.ibn ?_; refine At.thn (At.region (At.run 3 rfl (At.nil ?_))); have j := bnx hf_ j; exact fun a w e hs => ⟨a4, (IntKind.i64.wrap (p + 1)), a5, j, e.sub ⟨rfl, rfl, rfl, trivial⟩, hs⟩
   ··refine At.condF rfl (decide_eq_false L) ?_
     refine At.exit ?_; refine At.the ?_; refine At.the ?_; exact fun a w e hs => a3 () (bdn j V) a w (e.sub trivial) hs

noncomputable def Q135.f (a0 p : Int) (q : List Bs) (u : List Q1) (D : List Q2) : Option Bool :=
 (Q82.f a0 p q u D).bind fun G =>
 some (!G)
theorem Q135.callee : Callee Tryz.prog 51 := ⟨_, Tryz.func51, by kernel_rfl, by kernel_rfl⟩
theorem Q135.spec {a0 p : Int} {q : List Bs} {u : List Q1} {D : List Q2} (hr1_0_c0_1 : RdS Fl.bs.rep R.heap A1_0_c0_1 q) (hn1_0_c0_1 : q.length = n1_0_c0_1) (hc1_0_c0_1 : n1_0_c0_1 ≤ c1_0_c0_1) (hr1_0_c0_2 : RdS Q1.fl.rep R.heap A1_0_c0_2 u) (hn1_0_c0_2 : u.length = n1_0_c0_2) (hc1_0_c0_2 : n1_0_c0_2 ≤ c1_0_c0_2) (hr1_0_c0_3 : RdS Q2.rep R.heap A1_0_c0_3 D) (hn1_0_c0_3 : D.length = n1_0_c0_3) (hc1_0_c0_3 : n1_0_c0_3 ≤ c1_0_c0_3) {r : Bool} (j : Q135.f a0 p q u D = some r) :
 Spec Tryz.prog 51 [i6 a0, bp b1] R (pc b1 [.func (.func 46) #[] #[bp b1_0_c0]] 45 :: pc b1_0_c0 [i6 p, .slice A1_0_c0_1 n1_0_c0_1 c1_0_c0_1, .slice A1_0_c0_2 n1_0_c0_2 c1_0_c0_2, .slice A1_0_c0_3 n1_0_c0_3 c1_0_c0_3] 26 :: Fr) (fun v l' => v = .bool r ∧ pc b1 [.func (.func 46) #[] #[bp b1_0_c0]] 45 :: pc b1_0_c0 [i6 p, .slice A1_0_c0_1 n1_0_c0_1 c1_0_c0_1, .slice A1_0_c0_2 n1_0_c0_2 c1_0_c0_2, .slice A1_0_c0_3 n1_0_c0_3 c1_0_c0_3] 26 :: Fr = l') := by
 subst hn1_0_c0_1; subst hn1_0_c0_2; subst hn1_0_c0_3; refine Spec.of Tryz.func51 rfl rfl ?_; unfold Q135.f at j; have j := brun j; refine sR 1 rfl (nT (At.seq (At.region (At.y (Y.load rfl rfl .z rfl rfl rfl) rfl rfl rfl ?_)))); refine At.run 1 rfl (At.f1 ?_); obtain ⟨I, G, j⟩ := bbind j; refine At.call rfl Q82.callee rfl rfl rfl (Q82.spec hr1_0_c0_1 rfl hc1_0_c0_1 hr1_0_c0_2 rfl hc1_0_c0_2 hr1_0_c0_3 rfl hc1_0_c0_3 G) ?_; rintro _ _ ⟨rfl, rfl⟩; refine At.run 2 rfl (nT (At.ret (At.f1 ?_))); cases bret j; exact At.res (.inl rfl) rfl rfl ⟨rfl, rfl⟩

noncomputable def Q65.l0b (a0 : List Int) (a1_c0_0_c0_0 : Int) (a1_c0_0_c0_1 : List Bs) (a1_c0_0_c0_2 : List Q1) (a1_c0_0_c0_3 : List Q2) (p : Int) : Option ((Int) ⊕ ((Unit) ⊕ (Int))) :=
 if p < (a0.length : Int) then
 if (0 : Int) ≤ p ∧ p < (a0.length : Int) then
 (Q135.f (gt a0 p) a1_c0_0_c0_0 a1_c0_0_c0_1 a1_c0_0_c0_2 a1_c0_0_c0_3).bind fun q =>
 if q = true then
 upL (some p)
 else
 nx (IntKind.i64.wrap (p + 1))
 else none
 else
 dn (.inl ())
noncomputable def Q65.l0 (a0 : List Int) (a1_c0_0_c0_0 : Int) (a1_c0_0_c0_1 : List Bs) (a1_c0_0_c0_2 : List Q1) (a1_c0_0_c0_3 : List Q2) (p : Int) : Option ((Unit) ⊕ (Int)) := iter (fun t_ : Int => Q65.l0b a0 a1_c0_0_c0_0 a1_c0_0_c0_1 a1_c0_0_c0_2 a1_c0_0_c0_3 t_) p
noncomputable def Q65.f (a0 : List Int) (a1_c0_0_c0_0 : Int) (a1_c0_0_c0_1 : List Bs) (a1_c0_0_c0_2 : List Q1) (a1_c0_0_c0_3 : List Q2) : Option Int :=
 jn (Q65.l0 a0 a1_c0_0_c0_0 a1_c0_0_c0_1 a1_c0_0_c0_2 a1_c0_0_c0_3 0) (fun (_ : Unit) =>
 some (-1))
theorem Q65.callee : Callee Tryz.prog 86 := ⟨_, Tryz.func86, by kernel_rfl, by kernel_rfl⟩
theorem Q65.spec {a0 : List Int} {a1_c0_0_c0_0 : Int} {a1_c0_0_c0_1 : List Bs} {a1_c0_0_c0_2 : List Q1} {a1_c0_0_c0_3 : List Q2} (hr0 : RdS (Fl.int .i64).rep R.heap A0 a0) (hn0 : a0.length = n0) (hc0 : n0 ≤ c0) (hr1_c0_0_c0_1 : RdS Fl.bs.rep R.heap A1_c0_0_c0_1 a1_c0_0_c0_1) (hn1_c0_0_c0_1 : a1_c0_0_c0_1.length = n1_c0_0_c0_1) (hc1_c0_0_c0_1 : n1_c0_0_c0_1 ≤ c1_c0_0_c0_1) (hr1_c0_0_c0_2 : RdS Q1.fl.rep R.heap A1_c0_0_c0_2 a1_c0_0_c0_2) (hn1_c0_0_c0_2 : a1_c0_0_c0_2.length = n1_c0_0_c0_2) (hc1_c0_0_c0_2 : n1_c0_0_c0_2 ≤ c1_c0_0_c0_2) (hr1_c0_0_c0_3 : RdS Q2.rep R.heap A1_c0_0_c0_3 a1_c0_0_c0_3) (hn1_c0_0_c0_3 : a1_c0_0_c0_3.length = n1_c0_0_c0_3) (hc1_c0_0_c0_3 : n1_c0_0_c0_3 ≤ c1_c0_0_c0_3) {r : Int} (j : Q65.f a0 a1_c0_0_c0_0 a1_c0_0_c0_1 a1_c0_0_c0_2 a1_c0_0_c0_3 = some r) :
 Spec Tryz.prog 86 [.slice A0 n0 c0, .func (.func 51) #[] #[bp b1_c0]] R (pc b1_c0 [.func (.func 46) #[] #[bp b1_c0_0_c0]] 45 :: pc b1_c0_0_c0 [i6 a1_c0_0_c0_0, .slice A1_c0_0_c0_1 n1_c0_0_c0_1 c1_c0_0_c0_1, .slice A1_c0_0_c0_2 n1_c0_0_c0_2 c1_c0_0_c0_2, .slice A1_c0_0_c0_3 n1_c0_0_c0_3 c1_c0_0_c0_3] 26 :: Fr) (fun v l' => v = i6 r ∧ pc b1_c0 [.func (.func 46) #[] #[bp b1_c0_0_c0]] 45 :: pc b1_c0_0_c0 [i6 a1_c0_0_c0_0, .slice A1_c0_0_c0_1 n1_c0_0_c0_1 c1_c0_0_c0_1, .slice A1_c0_0_c0_2 n1_c0_0_c0_2 c1_c0_0_c0_2, .slice A1_c0_0_c0_3 n1_c0_0_c0_3 c1_c0_0_c0_3] 26 :: Fr = l') := by
 subst hn0; subst hn1_c0_0_c0_1; subst hn1_c0_0_c0_2; subst hn1_c0_0_c0_3; refine Spec.of Tryz.func86 rfl rfl ?_; unfold Q65.f at j; have j := brun j; refine sR 1 rfl (nT (At.seq (At.seq (At.region ?_)))); refine At.run 3 rfl (nT ?_); refine At.block ?_; obtain ⟨V, Z, a1, j⟩ := bjoin j; obtain ⟨O, G, U⟩ := bsome j; clear j; unfold Q65.l0 at G; obtain ⟨I, u⟩ := Q16.1 G; clear G; let T2 : HProp := pc b1_c0 [.func (.func 46) #[] #[bp b1_c0_0_c0]] 45; let T3 : HProp := pc b1_c0_0_c0 [i6 a1_c0_0_c0_0, .slice A1_c0_0_c0_1 a1_c0_0_c0_1.length c1_c0_0_c0_1, .slice A1_c0_0_c0_2 a1_c0_0_c0_2.length c1_c0_0_c0_2, .slice A1_c0_0_c0_3 a1_c0_0_c0_3.length c1_c0_0_c0_3] 26; refine At.loopJ (X := Int) (Y := Unit) (e0 := 0) (fun p => [(0, .slice A0 a0.length c0), (1, .func (.func 51) #[] #[bp b1_c0]), (7, i6 (a0.length : Int)), (8, i6 p)]) (fun p => T2 :: T3 :: Fr) (fun m_ => fun p => iterN (fun t_ : Int => Q65.l0b a0 a1_c0_0_c0_0 a1_c0_0_c0_1 a1_c0_0_c0_2 a1_c0_0_c0_3 t_) m_ p = some O) I 0 u (fun _ => []) (fun _ => T2 :: T3 :: Fr) (fun _ => V (.inl ()) = some r) (fun a w e hs => ⟨e.sub ⟨rfl, rfl, rfl, rfl, trivial⟩, (by exact hs)⟩) ?_ (fun a2 => ?_)
 ·rintro _ j; have j := (Z _).symm.trans j
  ·refine At.ibx ?_; refine At.thn (sR 1 rfl (nT (At.ret ?_))); cases bret j; exact At.res (.inl rfl) rfl rfl ⟨rfl, rfl⟩
 ·clear u I; rintro I p u; obtain ⟨a3, f_, a4, hf_, j⟩ := bit u; clear u; have j : (Q65.l0b a0 a1_c0_0_c0_0 a1_c0_0_c0_1 a1_c0_0_c0_2 a1_c0_0_c0_3 p).bind _ = some O := j; unfold Q65.l0b at j
  ·refine sR 1 rfl (nT (At.seq ?_)); rcases bite j with ⟨J, j⟩ | ⟨J, j⟩
   ··refine At.condT rfl (decide_eq_true J) ?_
     refine At.skip (At.thn (At.seq ?_)); refine At.block ?_; refine sR 2 rfl (nT (sR 3 rfl ?_)); obtain ⟨D, j⟩ := bnone j; refine At.y (Y.ixRd hr0 rfl rfl rfl rfl rfl rfl rfl D.1 D.2) rfl rfl rfl (At.y (Y.ldFl hr0 rfl (q := 0) rfl rfl D.1 D.2 rfl rfl rfl) rfl rfl rfl ?_); obtain ⟨a6, a5, j⟩ := bbind j; refine At.call rfl Q135.callee rfl rfl rfl (Q135.spec hr1_c0_0_c0_1 rfl hc1_c0_0_c0_1 hr1_c0_0_c0_2 rfl hc1_c0_0_c0_2 hr1_c0_0_c0_3 rfl hc1_c0_0_c0_3 a5) ?_; rintro _ _ ⟨rfl, rfl⟩; refine nT ?_; rcases bite j with ⟨L, j⟩ | ⟨L, j⟩
     ··refine At.condT rfl L ?_
       refine sR 2 rfl (nT (At.ret ?_)); refine At.ibr ?_; refine At.thr ?_; have j := bupL a1 U j; refine At.thr ?_; refine At.ibr ?_; refine At.thr ?_; cases bret j; exact At.res (.inl rfl) rfl rfl ⟨rfl, rfl⟩
     ··refine At.condF rfl (bn L) ?_
       refine At.skip ?_; refine At.ibn ?_; refine At.thn (At.region (At.run 2 rfl (At.nil ?_))); have j := bnx hf_ j; exact fun a w e hs => ⟨a3, (IntKind.i64.wrap (p + 1)), a4, j, e.sub ⟨rfl, rfl, rfl, rfl, trivial⟩, hs⟩
   ··refine At.condF rfl (decide_eq_false J) ?_
     refine At.exit ?_; refine At.the ?_; refine At.the ?_; exact fun a w e hs => a2 () (bdn j U) a w (e.sub trivial) hs

noncomputable def Q116.f (a0 : List Int) (a1_c0_0_c0_0 : Int) (a1_c0_0_c0_1 : List Bs) (a1_c0_0_c0_2 : List Q1) (a1_c0_0_c0_3 : List Q2) : Option Bool :=
 (Q65.f a0 a1_c0_0_c0_0 a1_c0_0_c0_1 a1_c0_0_c0_2 a1_c0_0_c0_3).bind fun p =>
 some (decide (0 ≤ p))
theorem Q116.callee : Callee Tryz.prog 50 := ⟨_, Tryz.func50, by kernel_rfl, by kernel_rfl⟩
theorem Q116.spec {a0 : List Int} {a1_c0_0_c0_0 : Int} {a1_c0_0_c0_1 : List Bs} {a1_c0_0_c0_2 : List Q1} {a1_c0_0_c0_3 : List Q2} (hr0 : RdS (Fl.int .i64).rep R.heap A0 a0) (hn0 : a0.length = n0) (hc0 : n0 ≤ c0) (hr1_c0_0_c0_1 : RdS Fl.bs.rep R.heap A1_c0_0_c0_1 a1_c0_0_c0_1) (hn1_c0_0_c0_1 : a1_c0_0_c0_1.length = n1_c0_0_c0_1) (hc1_c0_0_c0_1 : n1_c0_0_c0_1 ≤ c1_c0_0_c0_1) (hr1_c0_0_c0_2 : RdS Q1.fl.rep R.heap A1_c0_0_c0_2 a1_c0_0_c0_2) (hn1_c0_0_c0_2 : a1_c0_0_c0_2.length = n1_c0_0_c0_2) (hc1_c0_0_c0_2 : n1_c0_0_c0_2 ≤ c1_c0_0_c0_2) (hr1_c0_0_c0_3 : RdS Q2.rep R.heap A1_c0_0_c0_3 a1_c0_0_c0_3) (hn1_c0_0_c0_3 : a1_c0_0_c0_3.length = n1_c0_0_c0_3) (hc1_c0_0_c0_3 : n1_c0_0_c0_3 ≤ c1_c0_0_c0_3) {r : Bool} (j : Q116.f a0 a1_c0_0_c0_0 a1_c0_0_c0_1 a1_c0_0_c0_2 a1_c0_0_c0_3 = some r) :
 Spec Tryz.prog 50 [.slice A0 n0 c0, .func (.func 51) #[] #[bp b1_c0]] R (pc b1_c0 [.func (.func 46) #[] #[bp b1_c0_0_c0]] 45 :: pc b1_c0_0_c0 [i6 a1_c0_0_c0_0, .slice A1_c0_0_c0_1 n1_c0_0_c0_1 c1_c0_0_c0_1, .slice A1_c0_0_c0_2 n1_c0_0_c0_2 c1_c0_0_c0_2, .slice A1_c0_0_c0_3 n1_c0_0_c0_3 c1_c0_0_c0_3] 26 :: Fr) (fun v l' => v = .bool r ∧ pc b1_c0 [.func (.func 46) #[] #[bp b1_c0_0_c0]] 45 :: pc b1_c0_0_c0 [i6 a1_c0_0_c0_0, .slice A1_c0_0_c0_1 n1_c0_0_c0_1 c1_c0_0_c0_1, .slice A1_c0_0_c0_2 n1_c0_0_c0_2 c1_c0_0_c0_2, .slice A1_c0_0_c0_3 n1_c0_0_c0_3 c1_c0_0_c0_3] 26 :: Fr = l') := by
 subst hn0; subst hn1_c0_0_c0_1; subst hn1_c0_0_c0_2; subst hn1_c0_0_c0_3; refine Spec.of Tryz.func50 rfl rfl ?_; unfold Q116.f at j; have j := brun j; refine sR 1 rfl (nT (sR 2 rfl ?_)); obtain ⟨q, p, j⟩ := bbind j; refine At.call rfl Q65.callee rfl rfl rfl (Q65.spec hr0 rfl hc0 hr1_c0_0_c0_1 rfl hc1_c0_0_c0_1 hr1_c0_0_c0_2 rfl hc1_c0_0_c0_2 hr1_c0_0_c0_3 rfl hc1_c0_0_c0_3 p) ?_; rintro _ _ ⟨rfl, rfl⟩; refine At.run 2 rfl (nT (At.ret ?_)); cases bret j; exact At.res (.inl rfl) rfl rfl ⟨rfl, rfl⟩

noncomputable def Q134.f (a0 : Bs) : Option Bool :=
 (Q79.f a0).bind fun p =>
 some (!p)
theorem Q134.callee : Callee Tryz.prog 53 := ⟨_, Tryz.func53, by kernel_rfl, by kernel_rfl⟩
theorem Q134.spec {a0 : Bs} {r : Bool} (j : Q134.f a0 = some r) :
 Spec Tryz.prog 53 [.string ⟨(a0).toArray⟩] R (Fr) (fun v l' => v = .bool r ∧ Fr = l') := by
 refine Spec.of Tryz.func53 rfl rfl ?_; unfold Q134.f at j; have j := brun j; refine sR 1 rfl (nT (sR 1 rfl ?_)); obtain ⟨q, p, j⟩ := bbind j; refine At.call rfl Q79.callee rfl rfl rfl (Q79.spec p) ?_; rintro _ _ ⟨rfl, rfl⟩; refine At.run 2 rfl (nT (At.ret ?_)); cases bret j; exact At.res (.inl rfl) rfl rfl ⟨rfl, rfl⟩

noncomputable def Q60.l0b (a0 : List Bs) (p : Int) : Option ((Int) ⊕ ((Unit) ⊕ (Int))) :=
 if p < (a0.length : Int) then
 if (0 : Int) ≤ p ∧ p < (a0.length : Int) then
 (Q134.f (gt a0 p)).bind fun q =>
 if q = true then
 upL (some p)
 else
 nx (IntKind.i64.wrap (p + 1))
 else none
 else
 dn (.inl ())
noncomputable def Q60.l0 (a0 : List Bs) (p : Int) : Option ((Unit) ⊕ (Int)) := iter (fun t_ : Int => Q60.l0b a0 t_) p
noncomputable def Q60.f (a0 : List Bs) : Option Int :=
 jn (Q60.l0 a0 0) (fun (_ : Unit) =>
 some (-1))
theorem Q60.callee : Callee Tryz.prog 87 := ⟨_, Tryz.func87, by kernel_rfl, by kernel_rfl⟩
theorem Q60.spec {a0 : List Bs} (hr0 : RdS Fl.bs.rep R.heap A0 a0) (hn0 : a0.length = n0) (hc0 : n0 ≤ c0) {r : Int} (j : Q60.f a0 = some r) :
 Spec Tryz.prog 87 [.slice A0 n0 c0, .func (.func 53) #[] #[]] R (Fr) (fun v l' => v = i6 r ∧ Fr = l') := by
 subst hn0; refine Spec.of Tryz.func87 rfl rfl ?_; unfold Q60.f at j; have j := brun j; refine sR 1 rfl (nT (At.seq (At.seq (At.region ?_)))); refine At.run 3 rfl (nT ?_); refine At.block ?_; obtain ⟨V, Z, a1, j⟩ := bjoin j; obtain ⟨O, G, U⟩ := bsome j; clear j; unfold Q60.l0 at G; obtain ⟨I, u⟩ := Q16.1 G; clear G; refine At.loopJ (X := Int) (Y := Unit) (e0 := 0) (fun p => [(0, .slice A0 a0.length c0), (1, .func (.func 53) #[] #[]), (7, i6 (a0.length : Int)), (8, i6 p)]) (fun p => Fr) (fun m_ => fun p => iterN (fun t_ : Int => Q60.l0b a0 t_) m_ p = some O) I 0 u (fun _ => []) (fun _ => Fr) (fun _ => V (.inl ()) = some r) (fun a w e hs => ⟨e.sub ⟨rfl, rfl, rfl, rfl, trivial⟩, (by exact hs)⟩) ?_ (fun a2 => ?_)
 ·rintro _ j; have j := (Z _).symm.trans j
  ·refine At.ibx ?_; refine At.thn (sR 1 rfl (nT (At.ret ?_))); cases bret j; exact At.res (.inl rfl) rfl rfl ⟨rfl, rfl⟩
 ·clear u I; rintro I p u; obtain ⟨a3, f_, a4, hf_, j⟩ := bit u; clear u; have j : (Q60.l0b a0 p).bind _ = some O := j; unfold Q60.l0b at j
  ·refine sR 1 rfl (nT (At.seq ?_)); rcases bite j with ⟨J, j⟩ | ⟨J, j⟩
   ··refine At.condT rfl (decide_eq_true J) ?_
     refine At.skip (At.thn (At.seq ?_)); refine At.block ?_; refine sR 2 rfl (nT (sR 3 rfl ?_)); obtain ⟨D, j⟩ := bnone j; refine At.y (Y.ixRd hr0 rfl rfl rfl rfl rfl rfl rfl D.1 D.2) rfl rfl rfl (At.y (Y.ldFl hr0 rfl (q := 0) rfl rfl D.1 D.2 rfl rfl rfl) rfl rfl rfl ?_); obtain ⟨a6, a5, j⟩ := bbind j; refine At.call rfl Q134.callee rfl rfl rfl (Q134.spec a5) ?_; rintro _ _ ⟨rfl, rfl⟩; refine nT ?_; rcases bite j with ⟨L, j⟩ | ⟨L, j⟩
     ··refine At.condT rfl L ?_
       refine sR 2 rfl (nT (At.ret ?_)); refine At.ibr ?_; refine At.thr ?_; have j := bupL a1 U j; refine At.thr ?_; refine At.ibr ?_; refine At.thr ?_; cases bret j; exact At.res (.inl rfl) rfl rfl ⟨rfl, rfl⟩
     ··refine At.condF rfl (bn L) ?_
       refine At.skip ?_; refine At.ibn ?_; refine At.thn (At.region (At.run 2 rfl (At.nil ?_))); have j := bnx hf_ j; exact fun a w e hs => ⟨a3, (IntKind.i64.wrap (p + 1)), a4, j, e.sub ⟨rfl, rfl, rfl, rfl, trivial⟩, hs⟩
   ··refine At.condF rfl (decide_eq_false J) ?_
     refine At.exit ?_; refine At.the ?_; refine At.the ?_; exact fun a w e hs => a2 () (bdn j U) a w (e.sub trivial) hs

noncomputable def Q124.f (a0 : List Bs) : Option Bool :=
 (Q60.f a0).bind fun p =>
 some (decide (0 ≤ p))
theorem Q124.callee : Callee Tryz.prog 52 := ⟨_, Tryz.func52, by kernel_rfl, by kernel_rfl⟩
theorem Q124.spec {a0 : List Bs} (hr0 : RdS Fl.bs.rep R.heap A0 a0) (hn0 : a0.length = n0) (hc0 : n0 ≤ c0) {r : Bool} (j : Q124.f a0 = some r) :
 Spec Tryz.prog 52 [.slice A0 n0 c0, .func (.func 53) #[] #[]] R (Fr) (fun v l' => v = .bool r ∧ Fr = l') := by
 subst hn0; refine Spec.of Tryz.func52 rfl rfl ?_; unfold Q124.f at j; have j := brun j; refine sR 1 rfl (nT (sR 2 rfl ?_)); obtain ⟨q, p, j⟩ := bbind j; refine At.call rfl Q60.callee rfl rfl rfl (Q60.spec hr0 rfl hc0 p) ?_; rintro _ _ ⟨rfl, rfl⟩; refine At.run 2 rfl (nT (At.ret ?_)); cases bret j; exact At.res (.inl rfl) rfl rfl ⟨rfl, rfl⟩

noncomputable def Q30.l0b (a0 : List Int) (p : Int) : Option ((Int) ⊕ ((Unit) ⊕ (Int))) :=
 if p < (a0.length : Int) then
 if (0 : Int) ≤ p ∧ p < (a0.length : Int) then
 if gt a0 p = 0 then
 nx (IntKind.i64.wrap (p + 1))
 else
 upL (some (gt a0 p))
 else none
 else
 dn (.inl ())
noncomputable def Q30.l0 (a0 : List Int) (p : Int) : Option ((Unit) ⊕ (Int)) := iter (fun t_ : Int => Q30.l0b a0 t_) p
noncomputable def Q30.f (a0 : List Int) : Option Int :=
 jn (Q30.l0 a0 0) (fun (_ : Unit) =>
 some 0)
theorem Q30.callee : Callee Tryz.prog 44 := ⟨_, Tryz.func44, by kernel_rfl, by kernel_rfl⟩
theorem Q30.spec {a0 : List Int} (hr0 : RdS (Fl.int .i64).rep R.heap A0 a0) (hn0 : a0.length = n0) (hc0 : n0 ≤ c0) {r : Int} (j : Q30.f a0 = some r) :
 Spec Tryz.prog 44 [.slice A0 n0 c0] R (Fr) (fun v l' => v = i6 r ∧ Fr = l') := by
 subst hn0; refine Spec.of Tryz.func44 rfl rfl ?_; unfold Q30.f at j; have j := brun j; refine sR 1 rfl (nT (sR 1 rfl ?_)); refine nT (At.seq (sR 3 rfl (nT ?_))); refine At.block ?_; obtain ⟨V, Z, a1, j⟩ := bjoin j; obtain ⟨O, G, U⟩ := bsome j; clear j; unfold Q30.l0 at G; obtain ⟨I, u⟩ := Q16.1 G; clear G; refine At.loopJ (X := Int) (Y := Unit) (e0 := 0) (fun p => [(3, i6 0), (6, .slice A0 a0.length c0), (7, i6 (a0.length : Int)), (8, i6 p)]) (fun p => Fr) (fun m_ => fun p => iterN (fun t_ : Int => Q30.l0b a0 t_) m_ p = some O) I 0 u (fun _ => [(3, i6 0)]) (fun _ => Fr) (fun _ => V (.inl ()) = some r) (fun a w e hs => ⟨e.sub ⟨rfl, rfl, rfl, rfl, trivial⟩, (by exact hs)⟩) ?_ (fun a2 => ?_)
 ·rintro _ j; have j := (Z _).symm.trans j
  ·refine At.ibx ?_; refine At.thn (sR 2 rfl (nT (At.ret ?_))); cases bret j; exact At.res (.inl rfl) rfl rfl ⟨rfl, rfl⟩
 ·clear u I; rintro I p u; obtain ⟨a3, f_, a4, hf_, j⟩ := bit u; clear u; have j : (Q30.l0b a0 p).bind _ = some O := j; unfold Q30.l0b at j
  ·refine sR 1 rfl (nT (At.seq ?_)); rcases bite j with ⟨J, j⟩ | ⟨J, j⟩
   ··refine At.condT rfl (decide_eq_true J) ?_
     refine At.skip (At.thn (At.seq ?_)); refine At.block ?_; refine At.seq (At.region ?_); obtain ⟨D, j⟩ := bnone j; refine At.y (Y.ixRd hr0 rfl rfl rfl rfl rfl rfl rfl D.1 D.2) rfl rfl rfl (At.y (Y.ldFl hr0 rfl (q := 0) rfl rfl D.1 D.2 rfl rfl rfl) rfl rfl rfl (At.run 1 rfl (nT (sR 3 rfl ?_)))); refine nT ?_; rcases bite j with ⟨L, j⟩ | ⟨L, j⟩
     ··refine At.condF rfl (nf (decide_eq_true L)) ?_
       refine At.skip ?_; refine At.ibn ?_; refine At.thn (At.region (At.run 2 rfl (At.nil ?_))); have j := bnx hf_ j; exact fun a w e hs => ⟨a3, (IntKind.i64.wrap (p + 1)), a4, j, e.sub ⟨rfl, rfl, rfl, rfl, trivial⟩, hs⟩
     ··refine At.condT rfl (nt (decide_eq_false L)) ?_
       refine sR 2 rfl (nT (At.ret ?_)); refine At.ibr ?_; refine At.thr ?_; have j := bupL a1 U j; refine At.thr ?_; refine At.ibr ?_; refine At.thr ?_; cases bret j; exact At.res (.inl rfl) rfl rfl ⟨rfl, rfl⟩
   ··refine At.condF rfl (decide_eq_false J) ?_
     refine At.exit ?_; refine At.the ?_; refine At.the ?_; exact fun a w e hs => a2 () (bdn j U) a w (e.sub ⟨rfl, trivial⟩) hs

noncomputable def Q99.f (p q u D G I : Int) : Option Int :=
 (Q69.f p D).bind fun J =>
 (Q69.f q G).bind fun L =>
 (Q69.f u I).bind fun O =>
 (Q30.f ([J, L, O] : List Int)).bind fun U =>
 some U
theorem Q99.callee : Callee Tryz.prog 55 := ⟨_, Tryz.func55, by kernel_rfl, by kernel_rfl⟩
theorem Q99.spec {p q u D G I : Int} {r : Int} (j : Q99.f p q u D G I = some r) :
 Spec Tryz.prog 55 [.agg #[i6 p, i6 q, i6 u], .agg #[i6 D, i6 G, i6 I]] R (Fr) (fun v l' => v = i6 r ∧ Fr = l') := by
 refine Spec.of Tryz.func55 rfl rfl ?_; unfold Q99.f at j; have j := brun j; refine At.seq (At.region ?_); refine At.box rfl rfl (cs := [i6 p, i6 q, i6 u]) rfl rfl (fun J => ?_); refine At.box rfl rfl (cs := [i6 D, i6 G, i6 I]) rfl rfl (fun L => ?_); refine At.run 1 rfl (nT (At.seq ?_)); refine At.held [pc L [i6 D, i6 G, i6 I] 35, pc J [i6 p, i6 q, i6 u] 35] 18 rfl ?_; refine At.H.pw 0 rfl rfl rfl rfl rfl (.c .z (.c .z .n)) ?_; refine At.H.tw 1 rfl (Y.load rfl rfl (.s .z) rfl rfl rfl) rfl rfl rfl (.c .z (.c .z .n)) ?_; refine At.H.pw 2 rfl rfl rfl rfl rfl (.c .z (.c .z .n)) ?_; refine At.H.tw 3 rfl (Y.load rfl rfl .z rfl rfl rfl) rfl rfl rfl (.c .z (.c .z .n)) ?_; refine At.H.pw 5 rfl rfl rfl rfl rfl (.c .z (.c .z .n)) ?_; refine At.H.tw 6 rfl (Y.load rfl rfl (.s .z) rfl rfl rfl) rfl rfl rfl (.c .z (.c .z .n)) ?_; refine At.H.pw 7 rfl rfl rfl rfl rfl (.c .z (.c .z .n)) ?_; refine At.H.tw 8 rfl (Y.load rfl rfl .z rfl rfl rfl) rfl rfl rfl (.c .z (.c .z .n)) ?_; refine At.H.pw 10 rfl rfl rfl rfl rfl (.c .z (.c .z .n)) ?_; refine At.H.tw 11 rfl (Y.load rfl rfl (.s .z) rfl rfl rfl) rfl rfl rfl (.c .z (.c .z .n)) ?_; refine At.H.pw 12 rfl rfl rfl rfl rfl (.c .z (.c .z .n)) ?_; refine At.H.tw 13 rfl (Y.load rfl rfl .z rfl rfl rfl) rfl rfl rfl (.c .z (.c .z .n)) ?_; refine At.H.al [4] (Q4 ?_ Q6)
 ··refine At.HO.op rfl ?_
   obtain ⟨O, U, j⟩ := bbind j; refine At.call rfl Q69.callee rfl rfl rfl (Q69.spec U) ?_; rintro _ _ ⟨rfl, rfl⟩; refine At.HO.back (.c .z (.c .z .n)) ?_; refine At.H.al [9] (Q4 ?_ Q6)
   ··refine At.HO.op rfl ?_
     obtain ⟨V, X, j⟩ := bbind j; refine At.call rfl Q69.callee rfl rfl rfl (Q69.spec X) ?_; rintro _ _ ⟨rfl, rfl⟩; refine At.HO.back (.c .z (.c .z .n)) ?_; refine At.H.al [14] (Q4 ?_ Q6)
     ··refine At.HO.op rfl ?_
       obtain ⟨Z, a0, j⟩ := bbind j; refine At.call rfl Q69.callee rfl rfl rfl (Q69.spec a0) ?_; rintro _ _ ⟨rfl, rfl⟩; refine At.HO.back (.c .z (.c .z .n)) ?_; refine At.H.al [15] (Q4 ?_ Q6)
       ··refine At.HO.op rfl ?_
         refine At.lit rfl (xo := [.tmp 9, .tmp 14, .tmp 19]) (ys := ([O, V, Z] : List Int)) (Fl.int .i64) rfl rfl rfl rfl rfl rfl rfl rfl rfl rfl rfl (fun a6 a7 => ?_); refine At.HO.back (.c (.s .z) (.c (.s .z) .n)) ?_; refine At.H.al [16] (Q4 ?_ Q6)
         ··refine At.HO.op rfl ?_
           refine At.freeze .z fun a8 a1 a2 a3 a9 a4 => ?_; obtain ⟨b4, a5, j⟩ := bbind j; refine At.call rfl Q30.callee rfl rfl rfl (Q30.spec a1 a2 a3 a5) ?_; rintro _ _ ⟨rfl, rfl⟩; refine At.thaw a4 ?_; refine At.HO.back (.c (.s .z) (.c (.s .z) .n)) ?_; refine At.H.pw 17 rfl rfl rfl rfl rfl (.c (.s .z) (.c (.s .z) .n)) ?_; refine At.H.done (by kernel_rfl) ?_; refine At.thn (At.ret (At.drop .z (At.drop .z (At.drop .z ?_)))); cases bret j; exact At.res (.inl rfl) rfl rfl ⟨rfl, rfl⟩

noncomputable def Q58.l0b (a0 : List Q1) (p : Int) : Option ((Int) ⊕ ((Unit) ⊕ (Bool))) :=
 if p < (a0.length : Int) then
 if (0 : Int) ≤ IntKind.i64.wrap (p - 1) ∧ IntKind.i64.wrap (p - 1) < (a0.length : Int) then
 if (0 : Int) ≤ p ∧ p < (a0.length : Int) then
 (Q99.f ((gt a0 (IntKind.i64.wrap (p - 1))).From) ((gt a0 (IntKind.i64.wrap (p - 1))).Action) ((gt a0 (IntKind.i64.wrap (p - 1))).To) ((gt a0 p).From) ((gt a0 p).Action) ((gt a0 p).To)).bind fun q =>
 if 0 ≤ q then
 upL (some false)
 else
 nx (IntKind.i64.wrap (p + 1))
 else none
 else none
 else
 dn (.inl ())
noncomputable def Q58.l0 (a0 : List Q1) (p : Int) : Option ((Unit) ⊕ (Bool)) := iter (fun t_ : Int => Q58.l0b a0 t_) p
noncomputable def Q58.f (a0 : List Q1) : Option Bool :=
 jn (Q58.l0 a0 1) (fun (_ : Unit) =>
 some true)
theorem Q58.callee : Callee Tryz.prog 54 := ⟨_, Tryz.func54, by kernel_rfl, by kernel_rfl⟩
theorem Q58.spec {a0 : List Q1} (hr0 : RdS Q1.fl.rep R.heap A0 a0) (hn0 : a0.length = n0) (hc0 : n0 ≤ c0) {r : Bool} (j : Q58.f a0 = some r) :
 Spec Tryz.prog 54 [.slice A0 n0 c0, .func (.func 55) #[] #[]] R (Fr) (fun v l' => v = .bool r ∧ Fr = l') := by
 subst hn0; refine Spec.of Tryz.func54 rfl rfl ?_; unfold Q58.f at j; have j := brun j; refine sR 1 rfl (nT (At.seq (At.seq (At.region ?_)))); refine At.run 1 rfl (nT ?_); refine At.block ?_; obtain ⟨Z, a1, a2, j⟩ := bjoin j; obtain ⟨U, I, V⟩ := bsome j; clear j; unfold Q58.l0 at I; obtain ⟨J, u⟩ := Q16.1 I; clear I; refine At.loopJ (X := Int) (Y := Unit) (e0 := 0) (fun p => [(0, .slice A0 a0.length c0), (1, .func (.func 55) #[] #[]), (5, i6 p)]) (fun p => Fr) (fun m_ => fun p => iterN (fun t_ : Int => Q58.l0b a0 t_) m_ p = some U) J 1 u (fun _ => []) (fun _ => Fr) (fun _ => Z (.inl ()) = some r) (fun a w e hs => ⟨e.sub ⟨rfl, rfl, rfl, trivial⟩, (by exact hs)⟩) ?_ (fun a3 => ?_)
 ·rintro _ j; have j := (a1 _).symm.trans j
  ·refine At.ibx ?_; refine At.thn (sR 1 rfl (nT (At.ret ?_))); cases bret j; exact At.res (.inl rfl) rfl rfl ⟨rfl, rfl⟩
 ·clear u J; rintro J p u; obtain ⟨a4, f_, a5, hf_, j⟩ := bit u; clear u; have j : (Q58.l0b a0 p).bind _ = some U := j; unfold Q58.l0b at j
  ·refine At.seq (sR 4 rfl (nT ?_)); rcases bite j with ⟨L, j⟩ | ⟨L, j⟩
   ··refine At.condT rfl (decide_eq_true L) ?_
     refine At.skip (At.thn (At.seq ?_)); refine At.block ?_; refine At.seq ?_; refine At.quiet (by kernel_rfl) ?_; refine At.Quiet.run 4 rfl ?_; obtain ⟨D, j⟩ := bnone j; refine At.Quiet.y (Y.ixRd hr0 rfl rfl rfl rfl rfl rfl rfl D.1 D.2) rfl rfl rfl ?_; refine At.Quiet.y (Y.ldFl hr0 rfl (q := 0) rfl rfl D.1 D.2 rfl rfl rfl) rfl rfl rfl ?_; refine At.Quiet.run 2 rfl ?_; obtain ⟨G, j⟩ := bnone j; refine At.Quiet.y (Y.ixRd hr0 rfl rfl rfl rfl rfl rfl rfl G.1 G.2) rfl rfl rfl ?_; refine At.Quiet.y (Y.ldFl hr0 rfl (q := 0) rfl rfl G.1 G.2 rfl rfl rfl) rfl rfl rfl ?_; obtain ⟨a7, a6, j⟩ := bbind j; refine At.Quiet.call rfl Q99.callee rfl rfl rfl (Q99.spec a6) (fun _ _ h_ => ⟨h_.1, fun _ hs => h_.2 ▸ hs⟩) ?_; refine At.Quiet.run 1 rfl (At.Quiet.nil (At.thn ?_)); rcases bite j with ⟨O, j⟩ | ⟨O, j⟩
     ··refine At.condT rfl (decide_eq_true O) ?_
       refine sR 1 rfl (nT (At.ret ?_)); refine At.ibr ?_; refine At.thr ?_; have j := bupL a2 V j; refine At.thr ?_; refine At.ibr ?_; refine At.thr ?_; cases bret j; exact At.res (.inl rfl) rfl rfl ⟨rfl, rfl⟩
     ··refine At.condF rfl (decide_eq_false O) ?_
       refine At.skip ?_; refine At.ibn ?_; refine At.thn (At.region (At.run 3 rfl (At.nil ?_))); have j := bnx hf_ j; exact fun a w e hs => ⟨a4, (IntKind.i64.wrap (p + 1)), a5, j, e.sub ⟨rfl, rfl, rfl, trivial⟩, hs⟩
   ··refine At.condF rfl (decide_eq_false L) ?_
     refine At.exit ?_; refine At.the ?_; refine At.the ?_; exact fun a w e hs => a3 () (bdn j V) a w (e.sub trivial) hs

noncomputable def Q123.f (a0 a1 : Bs) : Option Int :=
 some (Lib.compareBytes a0 a1)
theorem Q123.callee : Callee Tryz.prog 88 := ⟨_, Tryz.func88, by kernel_rfl, by kernel_rfl⟩
theorem Q123.spec {a0 a1 : Bs} {r : Int} (j : Q123.f a0 a1 = some r) :
 Spec Tryz.prog 88 [.string ⟨(a0).toArray⟩, .string ⟨(a1).toArray⟩] R (Fr) (fun v l' => v = i6 r ∧ Fr = l') := by
 refine Spec.of Tryz.func88 rfl rfl ?_; unfold Q123.f at j; have j := brun j; refine sR 1 rfl (nT (sR 2 rfl ?_)); refine At.y (Y.ext bytealg_cmpstring.ext rfl rfl (fun w => Q346 _ _ w)) rfl rfl rfl ?_; refine At.run 1 rfl (nT (At.ret ?_)); cases bret j; exact At.res (.inl rfl) rfl rfl ⟨rfl, rfl⟩

noncomputable def Q94.f (a0 a1 : Bs) : Option Int :=
 (Q123.f a0 a1).bind fun p =>
 some p
theorem Q94.callee : Callee Tryz.prog 57 := ⟨_, Tryz.func57, by kernel_rfl, by kernel_rfl⟩
theorem Q94.spec {a0 a1 : Bs} {r : Int} (j : Q94.f a0 a1 = some r) :
 Spec Tryz.prog 57 [.string ⟨(a0).toArray⟩, .string ⟨(a1).toArray⟩] R (Fr) (fun v l' => v = i6 r ∧ Fr = l') := by
 refine Spec.of Tryz.func57 rfl rfl ?_; unfold Q94.f at j; have j := brun j; refine sR 1 rfl (nT (sR 2 rfl ?_)); obtain ⟨q, p, j⟩ := bbind j; refine At.call rfl Q123.callee rfl rfl rfl (Q123.spec p) ?_; rintro _ _ ⟨rfl, rfl⟩; refine At.run 1 rfl (nT (At.ret ?_)); cases bret j; exact At.res (.inl rfl) rfl rfl ⟨rfl, rfl⟩

noncomputable def Q57.l0b (a0 : List Bs) (p : Int) : Option ((Int) ⊕ ((Unit) ⊕ (Bool))) :=
 if p < (a0.length : Int) then
 if (0 : Int) ≤ IntKind.i64.wrap (p - 1) ∧ IntKind.i64.wrap (p - 1) < (a0.length : Int) then
 if (0 : Int) ≤ p ∧ p < (a0.length : Int) then
 (Q94.f (gt a0 (IntKind.i64.wrap (p - 1))) (gt a0 p)).bind fun q =>
 if 0 ≤ q then
 upL (some false)
 else
 nx (IntKind.i64.wrap (p + 1))
 else none
 else none
 else
 dn (.inl ())
noncomputable def Q57.l0 (a0 : List Bs) (p : Int) : Option ((Unit) ⊕ (Bool)) := iter (fun t_ : Int => Q57.l0b a0 t_) p
noncomputable def Q57.f (a0 : List Bs) : Option Bool :=
 jn (Q57.l0 a0 1) (fun (_ : Unit) =>
 some true)
theorem Q57.callee : Callee Tryz.prog 56 := ⟨_, Tryz.func56, by kernel_rfl, by kernel_rfl⟩
theorem Q57.spec {a0 : List Bs} (hr0 : RdS Fl.bs.rep R.heap A0 a0) (hn0 : a0.length = n0) (hc0 : n0 ≤ c0) {r : Bool} (j : Q57.f a0 = some r) :
 Spec Tryz.prog 56 [.slice A0 n0 c0, .func (.func 57) #[] #[]] R (Fr) (fun v l' => v = .bool r ∧ Fr = l') := by
 subst hn0; refine Spec.of Tryz.func56 rfl rfl ?_; unfold Q57.f at j; have j := brun j; refine sR 1 rfl (nT (At.seq (At.seq (At.region ?_)))); refine At.run 1 rfl (nT ?_); refine At.block ?_; obtain ⟨Z, a1, a2, j⟩ := bjoin j; obtain ⟨U, I, V⟩ := bsome j; clear j; unfold Q57.l0 at I; obtain ⟨J, u⟩ := Q16.1 I; clear I; refine At.loopJ (X := Int) (Y := Unit) (e0 := 0) (fun p => [(0, .slice A0 a0.length c0), (1, .func (.func 57) #[] #[]), (5, i6 p)]) (fun p => Fr) (fun m_ => fun p => iterN (fun t_ : Int => Q57.l0b a0 t_) m_ p = some U) J 1 u (fun _ => []) (fun _ => Fr) (fun _ => Z (.inl ()) = some r) (fun a w e hs => ⟨e.sub ⟨rfl, rfl, rfl, trivial⟩, (by exact hs)⟩) ?_ (fun a3 => ?_)
 ·rintro _ j; have j := (a1 _).symm.trans j
  ·refine At.ibx ?_; refine At.thn (sR 1 rfl (nT (At.ret ?_))); cases bret j; exact At.res (.inl rfl) rfl rfl ⟨rfl, rfl⟩
 ·clear u J; rintro J p u; obtain ⟨a4, f_, a5, hf_, j⟩ := bit u; clear u; have j : (Q57.l0b a0 p).bind _ = some U := j; unfold Q57.l0b at j
  ·refine At.seq (sR 4 rfl (nT ?_)); rcases bite j with ⟨L, j⟩ | ⟨L, j⟩
   ··refine At.condT rfl (decide_eq_true L) ?_
     refine At.skip (At.thn (At.seq ?_)); refine At.block ?_; refine At.seq ?_; refine At.quiet (by kernel_rfl) ?_; refine At.Quiet.run 4 rfl ?_; obtain ⟨D, j⟩ := bnone j; refine At.Quiet.y (Y.ixRd hr0 rfl rfl rfl rfl rfl rfl rfl D.1 D.2) rfl rfl rfl ?_; refine At.Quiet.y (Y.ldFl hr0 rfl (q := 0) rfl rfl D.1 D.2 rfl rfl rfl) rfl rfl rfl ?_; refine At.Quiet.run 2 rfl ?_; obtain ⟨G, j⟩ := bnone j; refine At.Quiet.y (Y.ixRd hr0 rfl rfl rfl rfl rfl rfl rfl G.1 G.2) rfl rfl rfl ?_; refine At.Quiet.y (Y.ldFl hr0 rfl (q := 0) rfl rfl G.1 G.2 rfl rfl rfl) rfl rfl rfl ?_; obtain ⟨a7, a6, j⟩ := bbind j; refine At.Quiet.call rfl Q94.callee rfl rfl rfl (Q94.spec a6) (fun _ _ h_ => ⟨h_.1, fun _ hs => h_.2 ▸ hs⟩) ?_; refine At.Quiet.run 1 rfl (At.Quiet.nil (At.thn ?_)); rcases bite j with ⟨O, j⟩ | ⟨O, j⟩
     ··refine At.condT rfl (decide_eq_true O) ?_
       refine sR 1 rfl (nT (At.ret ?_)); refine At.ibr ?_; refine At.thr ?_; have j := bupL a2 V j; refine At.thr ?_; refine At.ibr ?_; refine At.thr ?_; cases bret j; exact At.res (.inl rfl) rfl rfl ⟨rfl, rfl⟩
     ··refine At.condF rfl (decide_eq_false O) ?_
       refine At.skip ?_; refine At.ibn ?_; refine At.thn (At.region (At.run 3 rfl (At.nil ?_))); have j := bnx hf_ j; exact fun a w e hs => ⟨a4, (IntKind.i64.wrap (p + 1)), a5, j, e.sub ⟨rfl, rfl, rfl, trivial⟩, hs⟩
   ··refine At.condF rfl (decide_eq_false L) ?_
     refine At.exit ?_; refine At.the ?_; refine At.the ?_; exact fun a w e hs => a3 () (bdn j V) a w (e.sub trivial) hs

noncomputable def Q107.f (p : Bs) (D : List Int) (q : Bs) (G : List Int) : Option Int :=
 (Q94.f p q).bind fun u =>
 some u
theorem Q107.callee : Callee Tryz.prog 59 := ⟨_, Tryz.func59, by kernel_rfl, by kernel_rfl⟩
theorem Q107.spec {u D : Bs} {p q : List Int} (hr0_1 : RdS (Fl.int .i64).rep R.heap A0_1 p) (hn0_1 : p.length = n0_1) (hc0_1 : n0_1 ≤ c0_1) (hr1_1 : RdS (Fl.int .i64).rep R.heap A1_1 q) (hn1_1 : q.length = n1_1) (hc1_1 : n1_1 ≤ c1_1) {r : Int} (j : Q107.f u p D q = some r) :
 Spec Tryz.prog 59 [.agg #[.string ⟨(u).toArray⟩, .slice A0_1 n0_1 c0_1], .agg #[.string ⟨(D).toArray⟩, .slice A1_1 n1_1 c1_1]] R (Fr) (fun v l' => v = i6 r ∧ Fr = l') := by
 subst hn0_1; subst hn1_1; refine Spec.of Tryz.func59 rfl rfl ?_; unfold Q107.f at j; have j := brun j; refine At.seq (At.region ?_); refine At.box rfl rfl (cs := [.string ⟨(u).toArray⟩, .slice A0_1 p.length c0_1]) rfl rfl (fun I => ?_); refine At.box rfl rfl (cs := [.string ⟨(D).toArray⟩, .slice A1_1 q.length c1_1]) rfl rfl (fun J => ?_); refine At.run 1 rfl (nT (sR 1 rfl (At.y (Y.load rfl rfl (.s .z) rfl rfl rfl) rfl rfl rfl (At.run 1 rfl ?_)))); refine At.y (Y.load rfl rfl .z rfl rfl rfl) rfl rfl rfl ?_; obtain ⟨L, G, j⟩ := bbind j; refine At.call rfl Q94.callee rfl rfl rfl (Q94.spec G) ?_; rintro _ _ ⟨rfl, rfl⟩; refine At.run 1 rfl (nT (At.ret (At.drop .z (At.drop .z ?_)))); cases bret j; exact At.res (.inl rfl) rfl rfl ⟨rfl, rfl⟩

noncomputable def Q64.l0b (a0 : List Q2) (p : Int) : Option ((Int) ⊕ ((Unit) ⊕ (Bool))) :=
 if p < (a0.length : Int) then
 if (0 : Int) ≤ IntKind.i64.wrap (p - 1) ∧ IntKind.i64.wrap (p - 1) < (a0.length : Int) then
 if (0 : Int) ≤ p ∧ p < (a0.length : Int) then
 (Q107.f ((gt a0 (IntKind.i64.wrap (p - 1))).Name) ((gt a0 (IntKind.i64.wrap (p - 1))).States) ((gt a0 p).Name) ((gt a0 p).States)).bind fun q =>
 if 0 ≤ q then
 upL (some false)
 else
 nx (IntKind.i64.wrap (p + 1))
 else none
 else none
 else
 dn (.inl ())
noncomputable def Q64.l0 (a0 : List Q2) (p : Int) : Option ((Unit) ⊕ (Bool)) := iter (fun t_ : Int => Q64.l0b a0 t_) p
noncomputable def Q64.f (a0 : List Q2) : Option Bool :=
 jn (Q64.l0 a0 1) (fun (_ : Unit) =>
 some true)
theorem Q64.callee : Callee Tryz.prog 58 := ⟨_, Tryz.func58, by kernel_rfl, by kernel_rfl⟩
theorem Q64.spec {a0 : List Q2} (hr0 : RdS Q2.rep R.heap A0 a0) (hn0 : a0.length = n0) (hc0 : n0 ≤ c0) {r : Bool} (j : Q64.f a0 = some r) :
 Spec Tryz.prog 58 [.slice A0 n0 c0, .func (.func 59) #[] #[]] R (Fr) (fun v l' => v = .bool r ∧ Fr = l') := by
 subst hn0; refine Spec.of Tryz.func58 rfl rfl ?_; unfold Q64.f at j; have j := brun j; refine sR 1 rfl (nT (At.seq (At.seq (At.region ?_)))); refine At.run 1 rfl (nT ?_); refine At.block ?_; obtain ⟨V, Z, a1, j⟩ := bjoin j; obtain ⟨O, G, U⟩ := bsome j; clear j; unfold Q64.l0 at G; obtain ⟨I, q⟩ := Q16.1 G; clear G; refine At.loopJ (X := Int) (Y := Unit) (e0 := 0) (fun p => [(0, .slice A0 a0.length c0), (1, .func (.func 59) #[] #[]), (5, i6 p)]) (fun p => Fr) (fun m_ => fun p => iterN (fun t_ : Int => Q64.l0b a0 t_) m_ p = some O) I 1 q (fun _ => []) (fun _ => Fr) (fun _ => V (.inl ()) = some r) (fun a w e hs => ⟨e.sub ⟨rfl, rfl, rfl, trivial⟩, (by exact hs)⟩) ?_ (fun a2 => ?_)
 ·rintro _ j; have j := (Z _).symm.trans j
  ·refine At.ibx ?_; refine At.thn (sR 1 rfl (nT (At.ret ?_))); cases bret j; exact At.res (.inl rfl) rfl rfl ⟨rfl, rfl⟩
 ·clear q I; rintro I p q; obtain ⟨a3, f_, a4, hf_, j⟩ := bit q; clear q; have j : (Q64.l0b a0 p).bind _ = some O := j; unfold Q64.l0b at j
  ·refine At.seq (sR 4 rfl (nT ?_)); rcases bite j with ⟨J, j⟩ | ⟨J, j⟩
   ··refine At.condT rfl (decide_eq_true J) ?_
     refine At.skip (At.thn (At.seq ?_)); refine At.block ?_; refine At.seq ?_; refine At.quiet (by kernel_rfl) ?_; refine At.Quiet.run 4 rfl ?_; obtain ⟨u, j⟩ := bnone j; refine At.Quiet.y (Y.ixRd hr0 rfl rfl rfl rfl rfl rfl rfl u.1 u.2) rfl rfl rfl ?_; obtain ⟨b8, a5, a6⟩ := RdS.whole (P := Tryz.prog) hr0 (Sub.refl _) rfl u.1 u.2; obtain ⟨_, _, rfl, rfl, ⟨b9, c8, rfl, a7, a8⟩⟩ := a5; refine At.Quiet.y (a6 rfl rfl rfl rfl) rfl rfl rfl ?_; refine At.Quiet.run 2 rfl ?_; obtain ⟨D, j⟩ := bnone j; refine At.Quiet.y (Y.ixRd hr0 rfl rfl rfl rfl rfl rfl rfl D.1 D.2) rfl rfl rfl ?_; obtain ⟨c9, a9, b4⟩ := RdS.whole (P := Tryz.prog) hr0 (Sub.refl _) rfl D.1 D.2; obtain ⟨_, _, rfl, rfl, ⟨d0, d1, rfl, b5, b6⟩⟩ := a9; refine At.Quiet.y (b4 rfl rfl rfl rfl) rfl rfl rfl ?_; obtain ⟨d2, b7, j⟩ := bbind j; refine At.Quiet.call rfl Q107.callee rfl rfl rfl (Q107.spec a8 rfl a7 b6 rfl b5 b7) (fun _ _ h_ => ⟨h_.1, fun _ hs => h_.2 ▸ hs⟩) ?_; refine At.Quiet.run 1 rfl (At.Quiet.nil (At.thn ?_)); rcases bite j with ⟨L, j⟩ | ⟨L, j⟩
     ··refine At.condT rfl (decide_eq_true L) ?_
       refine sR 1 rfl (nT (At.ret ?_)); refine At.ibr ?_; refine At.thr ?_; have j := bupL a1 U j; refine At.thr ?_; refine At.ibr ?_; refine At.thr ?_; cases bret j; exact At.res (.inl rfl) rfl rfl ⟨rfl, rfl⟩
     ··refine At.condF rfl (decide_eq_false L) ?_
       refine At.skip ?_; refine At.ibn ?_; refine At.thn (At.region (At.run 3 rfl (At.nil ?_))); have j := bnx hf_ j; exact fun a w e hs => ⟨a3, (IntKind.i64.wrap (p + 1)), a4, j, e.sub ⟨rfl, rfl, rfl, trivial⟩, hs⟩
   ··refine At.condF rfl (decide_eq_false J) ?_
     refine At.exit ?_; refine At.the ?_; refine At.the ?_; exact fun a w e hs => a2 () (bdn j U) a w (e.sub trivial) hs

noncomputable def Q27.l1b (u : Int) (D : List Bs) (G : List Q1) (q : List Q2) (p : Int) : Option ((Int) ⊕ ((Unit) ⊕ (Bool))) :=
 if p < (q.length : Int) then
 if (0 : Int) ≤ p ∧ p < (q.length : Int) then
 (Q79.f ((gt q p).Name)).bind fun I =>
 jn (
 if I = true then
 (Q63.f ((gt q p).States)).bind fun J =>
 some (.inl (!J))
 else
 some (.inl true)) (fun (L : Bool) =>
 jn (
 if L = true then
 some (.inl true)
 else
 (Q116.f ((gt q p).States) u D G q).bind fun O =>
 some (.inl O)) (fun (U : Bool) =>
 if U = true then
 upL (some false)
 else
 nx (IntKind.i64.wrap (p + 1))))
 else none
 else
 dn (.inl ())
noncomputable def Q27.l1 (p : Int) (q : List Bs) (u : List Q1) (D : List Q2) (G : Int) : Option ((Unit) ⊕ (Bool)) := iter (fun t_ : Int => Q27.l1b p q u D t_) G
noncomputable def Q27.l0b (D : Int) (u : List Bs) (p : List Q1) (G : List Q2) (I q : Int) : Option ((Int × Int) ⊕ ((Int) ⊕ (Bool))) :=
 if q < (p.length : Int) then
 if (0 : Int) ≤ q ∧ q < (p.length : Int) then
 (Q82.f ((gt p q).From) D u p G).bind fun J =>
 jn (
 if J = true then
 (Q82.f ((gt p q).To) D u p G).bind fun L =>
 some (.inl (!L))
 else
 some (.inl true)) (fun (O : Bool) =>
 jn (
 if O = true then
 some (.inl true)
 else
 some (.inl (decide ((gt p q).Action < 0)))) (fun (U : Bool) =>
 jn (
 if U = true then
 some (.inl true)
 else
 some (.inl (decide ((u.length : Int) ≤ (gt p q).Action)))) (fun (V : Bool) =>
 if V = true then
 upL (some false)
 else
 if (0 : Int) ≤ (gt p q).Action then
 nx (bor .u8 I (Bw.shl .u8 1 ((gt p q).Action)), IntKind.i64.wrap (q + 1))
 else none)))
 else none
 else
 dn (.inl I)
noncomputable def Q27.l0 (p : Int) (q : List Bs) (u : List Q1) (D : List Q2) (G I : Int) : Option ((Int) ⊕ (Bool)) := iter (fun t_ : Int × Int => Q27.l0b p q u D t_.1 t_.2) (G, I)
noncomputable def Q27.f (q : Int) (p : List Bs) (u : List Q1) (D : List Q2) : Option Bool :=
 jn (
 if q < 1 then
 some (.inl true)
 else
 some (.inl (decide (24 < q)))) (fun (G : Bool) =>
 jn (
 if G = true then
 some (.inl true)
 else
 some (.inl (decide (8 < (p.length : Int))))) (fun (I : Bool) =>
 jn (
 if I = true then
 some (.inl true)
 else
 some (.inl (decide (8 < (D.length : Int))))) (fun (J : Bool) =>
 jn (
 if J = true then
 some (.inl true)
 else
 some (.inl (decide (200 < (u.length : Int))))) (fun (L : Bool) =>
 if L = true then
 some false
 else
 jn (Q27.l0 q p u D 0 0) (fun (O : Int) =>
 jn (Q27.l1 q p u D 0) (fun (_ : Unit) =>
 (Q124.f p).bind fun U =>
 jn (
 if U = true then
 some (.inl true)
 else
 if (0 : Int) ≤ (p.length : Int) then
 some (.inl (!(decide (O = IntKind.u8.wrap ((Bw.shl .u8 1 (p.length : Int)) - 1)))))
 else none) (fun (V : Bool) =>
 if V = true then
 some false
 else
 (Q58.f u).bind fun X =>
 jn (
 if X = true then
 (Q57.f p).bind fun Z =>
 some (.inl Z)
 else
 some (.inl false)) (fun (a0 : Bool) =>
 jn (
 if a0 = true then
 (Q64.f D).bind fun a1 =>
 some (.inl a1)
 else
 some (.inl false)) (fun (a2 : Bool) =>
 some a2)))))))))
theorem Q27.callee : Callee Tryz.prog 18 := ⟨_, Tryz.func18, by kernel_rfl, by kernel_rfl⟩
theorem Q27.spec {O : Int} {G : List Bs} {p : List Q1} {u : List Q2} (hr0_1 : RdS Fl.bs.rep R.heap A0_1 G) (hn0_1 : G.length = n0_1) (hc0_1 : n0_1 ≤ c0_1) (hr0_2 : RdS Q1.fl.rep R.heap A0_2 p) (hn0_2 : p.length = n0_2) (hc0_2 : n0_2 ≤ c0_2) (hr0_3 : RdS Q2.rep R.heap A0_3 u) (hn0_3 : u.length = n0_3) (hc0_3 : n0_3 ≤ c0_3) {r : Bool} (j : Q27.f O G p u = some r) :
 Spec Tryz.prog 18 [.agg #[i6 O, .slice A0_1 n0_1 c0_1, .slice A0_2 n0_2 c0_2, .slice A0_3 n0_3 c0_3]] R (Fr) (fun v l' => v = .bool r ∧ Fr = l') := by
 subst hn0_1; subst hn0_2; subst hn0_3; refine Spec.of Tryz.func18 rfl rfl ?_; unfold Q27.f at j; have j := brun j; refine At.seq (At.region ?_); refine At.box rfl rfl (cs := [i6 O, .slice A0_1 G.length c0_1, .slice A0_2 p.length c0_2, .slice A0_3 u.length c0_3]) rfl rfl (fun D => ?_); refine At.run 1 rfl (nT (At.seq (sR 1 rfl (At.y (Y.load rfl rfl .z rfl rfl rfl) rfl rfl rfl ?_)))); refine At.run 2 rfl ?_; obtain ⟨h2, h3, q3, j⟩ := bjoin j; let T4 : HProp := pc D [i6 O, .slice A0_1 G.length c0_1, .slice A0_2 p.length c0_2, .slice A0_3 u.length c0_3] 26; refine At.joinO 4 (X := Bool) (fun Z => [(1, bp D), (16, .bool Z)]) (fun Z => T4 :: Fr) (fun Z => h2 (.inl Z) = some r) ?_ (fun f5 => ?_)
 ·rintro Z j; have j := (h3 _).symm.trans j
  ·refine At.run 1 rfl ?_; obtain ⟨h4, h5, q4, j⟩ := bjoin j; refine At.joinO 5 (X := Bool) (fun a0 => [(1, bp D), (22, .bool a0)]) (fun a0 => T4 :: Fr) (fun a0 => h4 (.inl a0) = some r) ?_ (fun f6 => ?_)
   ·rintro a0 j; have j := (h5 _).symm.trans j
    ·refine At.run 1 rfl ?_; obtain ⟨h6, h7, q5, j⟩ := bjoin j; refine At.joinO 5 (X := Bool) (fun a1 => [(1, bp D), (28, .bool a1)]) (fun a1 => T4 :: Fr) (fun a1 => h6 (.inl a1) = some r) ?_ (fun f7 => ?_)
     ·rintro a1 j; have j := (h7 _).symm.trans j
      ·refine At.run 1 rfl ?_; obtain ⟨h8, h9, q6, j⟩ := bjoin j; refine At.joinO 5 (X := Bool) (fun a2 => [(1, bp D), (34, .bool a2)]) (fun a2 => T4 :: Fr) (fun a2 => h8 (.inl a2) = some r) ?_ (fun f8 => ?_)
       ·rintro a2 j; have j := (h9 _).symm.trans j
        ·refine nT ?_; rcases bite j with ⟨d0, j⟩ | ⟨d0, j⟩
         ··refine At.condT rfl d0 ?_
           refine sR 1 rfl (nT (At.ret (At.thr (At.drop .z ?_)))); cases bret j; exact At.res (.inl rfl) rfl rfl ⟨rfl, rfl⟩
         ··refine At.condF rfl (bn d0) ?_
           refine At.skip (At.thn (sR 1 rfl ?_)); refine At.alloc rfl rfl rfl (fun U => ?_); refine At.store rfl rfl rfl rfl .z rfl rfl rfl (.c .n) ?_; refine nT (sR 1 rfl (nT (At.seq ?_))); refine sR 1 rfl (At.y (Y.load rfl rfl (.s .z) rfl rfl rfl) rfl rfl rfl (At.run 2 rfl (nT ?_))); refine At.block ?_; obtain ⟨k0, k1, k2, j⟩ := bjoin j; obtain ⟨a3, d1, f9⟩ := bsome j; clear j; unfold Q27.l0 at d1; obtain ⟨d2, a4⟩ := Q16.1 d1; clear d1; let T5 : HProp := pc U [.func (.func 46) #[] #[bp D]] 45; refine At.loopJ (X := Int × Int) (Y := Int) (e0 := 0) (fun s_ => [(1, bp D), (3, bp U), (4, .int .u8 s_.1), (37, .slice A0_2 p.length c0_2), (38, i6 (p.length : Int)), (39, i6 s_.2)]) (fun s_ => T5 :: T4 :: Fr) (fun m_ => fun s_ => iterN (fun t_ : Int × Int => Q27.l0b O G p u t_.1 t_.2) m_ (s_.1, s_.2) = some a3) d2 (0, 0) a4 (fun L => [(1, bp D), (3, bp U), (4, .int .u8 L)]) (fun L => T5 :: T4 :: Fr) (fun L => k0 (.inl L) = some r) (fun a w e hs => ⟨e.sub ⟨rfl, rfl, rfl, rfl, rfl, rfl, trivial⟩, (by exact hs)⟩) ?_ (fun k3 => ?_)
           ·rintro L j; have j := (k1 _).symm.trans j
            ·refine At.ibx ?_; refine At.thn (At.seq (sR 1 rfl (At.y (Y.load rfl rfl (.s .z) rfl rfl rfl) rfl rfl rfl (At.run 2 rfl (At.nil ?_))))); refine At.thn ?_; refine At.block ?_; obtain ⟨k4, k5, k6, j⟩ := bjoin j; obtain ⟨b8, d3, g0⟩ := bsome j; clear j; unfold Q27.l1 at d3; obtain ⟨d4, a5⟩ := Q16.1 d3; clear d3; refine At.loopJ (X := Int) (Y := Unit) (e0 := 2) (fun I => [(1, bp D), (3, bp U), (4, .int .u8 L), (75, .slice A0_3 u.length c0_3), (76, i6 (u.length : Int)), (77, i6 I)]) (fun I => T5 :: T4 :: Fr) (fun m_ => fun I => iterN (fun t_ : Int => Q27.l1b O G p u t_) m_ I = some b8) d4 0 a5 (fun _ => [(1, bp D), (4, .int .u8 L)]) (fun _ => T5 :: T4 :: Fr) (fun _ => k4 (.inl ()) = some r) (fun a w e hs => ⟨e.sub ⟨rfl, rfl, rfl, rfl, rfl, rfl, trivial⟩, (by exact hs)⟩) ?_ (fun k7 => ?_)
             ·rintro _ j; have j := (k5 _).symm.trans j
              ·refine At.ibx ?_; refine At.thn (At.seq (sR 1 rfl (At.y (Y.load rfl rfl (.s .z) rfl rfl rfl) rfl rfl rfl ?_))); obtain ⟨q7, k8, j⟩ := bbind j; refine At.call rfl Q124.callee rfl rfl rfl (Q124.spec hr0_1 rfl hc0_1 k8) ?_; rintro _ _ ⟨rfl, rfl⟩; refine At.run 1 rfl ?_; obtain ⟨k9, l7, q8, j⟩ := bjoin j; refine At.joinO 8 (X := Bool) (fun a6 => [(1, bp D), (109, .bool a6)]) (fun a6 => T5 :: T4 :: Fr) (fun a6 => k9 (.inl a6) = some r) ?_ (fun g1 => ?_)
               ·rintro a6 j; have j := (l7 _).symm.trans j
                ·refine nT ?_; rcases bite j with ⟨d5, j⟩ | ⟨d5, j⟩
                 ··refine At.condT rfl d5 ?_
                   refine sR 1 rfl (nT (At.ret (At.thr (At.drop .z ?_)))); refine At.drop .z ?_; cases bret j; exact At.res (.inl rfl) rfl rfl ⟨rfl, rfl⟩
                 ··refine At.condF rfl (bn d5) ?_
                   refine At.skip (At.thn (sR 1 rfl (At.y (Y.load rfl rfl (.s .z) rfl rfl rfl) rfl rfl rfl ?_))); obtain ⟨q9, l8, j⟩ := bbind j; refine At.call rfl Q58.callee rfl rfl rfl (Q58.spec hr0_2 rfl hc0_2 l8) ?_; rintro _ _ ⟨rfl, rfl⟩; refine At.run 1 rfl ?_; obtain ⟨l9, m0, r0, j⟩ := bjoin j; refine At.joinO 4 (X := Bool) (fun a7 => [(1, bp D), (117, .bool a7)]) (fun a7 => T5 :: T4 :: Fr) (fun a7 => l9 (.inl a7) = some r) ?_ (fun g2 => ?_)
                   ·rintro a7 j; have j := (m0 _).symm.trans j
                    ·refine At.run 1 rfl ?_; obtain ⟨m1, m2, r1, j⟩ := bjoin j; refine At.joinO 4 (X := Bool) (fun a8 => [(122, .bool a8)]) (fun a8 => T5 :: T4 :: Fr) (fun a8 => m1 (.inl a8) = some r) ?_ (fun g3 => ?_)
                     ·rintro a8 j; have j := (m2 _).symm.trans j
                      ·refine At.run 1 rfl (nT (At.ret (At.drop .z (At.drop .z ?_)))); cases bret j; exact At.res (.inl rfl) rfl rfl ⟨rfl, rfl⟩
                     ··rcases bite j with ⟨d6, j⟩ | ⟨d6, j⟩
                       ··refine At.know (t := 118) rfl d6 ?_
                         refine At.run 1 rfl (At.y (Y.load rfl rfl (.s .z) rfl rfl rfl) rfl rfl rfl ?_); obtain ⟨m3, m4, j⟩ := bbind j; refine At.call rfl Q64.callee rfl rfl rfl (Q64.spec hr0_3 rfl hc0_3 m4) ?_; rintro _ _ ⟨rfl, rfl⟩; refine At.run 1 rfl ?_; exact At.of (g3 m3 j) ⟨rfl, trivial⟩
                       ··refine At.know (t := 118) rfl (bn d6) ?_
                         refine At.run 4 rfl ?_; exact At.of (g3 false j) ⟨rfl, trivial⟩
                   ··rcases bite j with ⟨d7, j⟩ | ⟨d7, j⟩
                     ··refine At.know (t := 113) rfl d7 ?_
                       refine At.run 1 rfl (At.y (Y.load rfl rfl (.s .z) rfl rfl rfl) rfl rfl rfl ?_); obtain ⟨m5, m6, j⟩ := bbind j; refine At.call rfl Q57.callee rfl rfl rfl (Q57.spec hr0_1 rfl hc0_1 m6) ?_; rintro _ _ ⟨rfl, rfl⟩; refine At.run 1 rfl ?_; exact At.of (g2 m5 j) ⟨rfl, rfl, trivial⟩
                     ··refine At.know (t := 113) rfl (bn d7) ?_
                       refine At.run 4 rfl ?_; exact At.of (g2 false j) ⟨rfl, rfl, trivial⟩
               ··rcases bite j with ⟨d8, j⟩ | ⟨d8, j⟩
                 ··refine At.know (t := 101) rfl d8 ?_
                   refine At.run 8 rfl ?_; exact At.of (g1 true j) ⟨rfl, rfl, trivial⟩
                 ··refine At.know (t := 101) rfl (bn d8) ?_
                   refine At.run 2 rfl (At.y (Y.load rfl rfl (.s .z) rfl rfl rfl) rfl rfl rfl (At.run 1 rfl ?_)); obtain ⟨m7, j⟩ := bnone j; refine At.y (Y.shl rfl rfl m7) rfl rfl rfl (At.run 3 rfl ?_); exact At.of (g1 (!(decide (L = IntKind.u8.wrap ((Bw.shl .u8 1 (G.length : Int)) - 1)))) j) ⟨rfl, rfl, trivial⟩
             ·clear a5 d4; rintro d4 I a5; obtain ⟨m8, f_, m9, hf_, j⟩ := bit a5; clear a5; have j : (Q27.l1b O G p u I).bind _ = some b8 := j; unfold Q27.l1b at j
              ·refine sR 1 rfl (nT (At.seq ?_)); rcases bite j with ⟨d9, j⟩ | ⟨d9, j⟩
               ··refine At.condT rfl (decide_eq_true d9) ?_
                 refine At.skip (At.thn (At.seq ?_)); refine At.block ?_; refine At.seq (At.region ?_); obtain ⟨b9, j⟩ := bnone j; refine At.y (Y.ixRd hr0_3 rfl rfl rfl rfl rfl rfl rfl b9.1 b9.2) rfl rfl rfl ?_; obtain ⟨r2, n2, n3⟩ := RdS.whole (P := Tryz.prog) hr0_3 (Sub.refl _) rfl b9.1 b9.2; obtain ⟨_, _, rfl, rfl, ⟨n4, n5, rfl, g4, g5⟩⟩ := n2; refine At.y (n3 rfl rfl rfl rfl) rfl rfl rfl ?_; refine At.alloc rfl rfl rfl (fun g6 => ?_); refine At.store rfl rfl rfl rfl .z rfl rfl rfl (.c (.c .n)) ?_; refine nT (sR 1 rfl (At.y (Y.load rfl rfl .z rfl rfl rfl) rfl rfl rfl ?_)); obtain ⟨r3, n6, j⟩ := bbind j; refine At.call rfl Q79.callee rfl rfl rfl (Q79.spec n6) ?_; rintro _ _ ⟨rfl, rfl⟩; refine At.run 2 rfl ?_; obtain ⟨n7, n8, r4, j⟩ := bjoin j; let T6 : HProp := pc g6 [.string ⟨((gt u I).Name).toArray⟩, .slice n4 ((gt u I).States.length) n5] 37; refine At.joinO 5 (X := Bool) (fun a9 => [(1, bp D), (3, bp U), (4, .int .u8 L), (8, bp g6), (75, .slice A0_3 u.length c0_3), (76, i6 (u.length : Int)), (77, i6 I), (90, .bool a9)]) (fun a9 => T6 :: T5 :: T4 :: Fr) (fun a9 => n7 (.inl a9) = some b8) ?_ (fun g7 => ?_)
                 ·rintro a9 j; have j := (n8 _).symm.trans j
                  ·refine At.run 1 rfl ?_; obtain ⟨n9, o0, r5, j⟩ := bjoin j; refine At.joinO 5 (X := Bool) (fun b4 => [(1, bp D), (3, bp U), (4, .int .u8 L), (75, .slice A0_3 u.length c0_3), (76, i6 (u.length : Int)), (77, i6 I), (96, .bool b4)]) (fun b4 => T6 :: T5 :: T4 :: Fr) (fun b4 => n9 (.inl b4) = some b8) ?_ (fun g8 => ?_)
                   ·rintro b4 j; have j := (o0 _).symm.trans j
                    ·refine nT ?_; rcases bite j with ⟨e1, j⟩ | ⟨e1, j⟩
                     ··refine At.condT rfl e1 ?_
                       refine sR 1 rfl (nT (At.ret ?_)); refine At.ibr ?_; refine At.thr ?_; have j := bupL k6 g0 j; refine At.thr ?_; refine At.ibr ?_; refine At.thr (At.drop .z (At.drop .z (At.drop .z ?_))); cases bret j; exact At.res (.inl rfl) rfl rfl ⟨rfl, rfl⟩
                     ··refine At.condF rfl (bn e1) ?_
                       refine At.skip ?_; refine At.ibn ?_; refine At.thn (At.region (At.run 2 rfl (At.nil (At.drop .z ?_)))); have j := bnx hf_ j; exact fun a w e hs => ⟨m8, (IntKind.i64.wrap (I + 1)), m9, j, e.sub ⟨rfl, rfl, rfl, rfl, rfl, rfl, trivial⟩, hs⟩
                   ··rcases bite j with ⟨e2, j⟩ | ⟨e2, j⟩
                     ··refine At.know (t := 91) rfl e2 ?_
                       refine At.run 5 rfl ?_; exact At.of (g8 true j) ⟨rfl, rfl, rfl, rfl, rfl, rfl, rfl, trivial⟩
                     ··refine At.know (t := 91) rfl (bn e2) ?_
                       refine At.run 1 rfl (At.y (Y.load rfl rfl .z rfl rfl rfl) rfl rfl rfl (At.run 1 rfl (At.f2 (At.f2 ?_)))); obtain ⟨o7, o8, j⟩ := bbind j; refine At.call rfl Q116.callee rfl rfl rfl (Q116.spec g5 rfl g4 hr0_1 rfl hc0_1 hr0_2 rfl hc0_2 hr0_3 rfl hc0_3 o8) ?_; rintro _ _ ⟨rfl, rfl⟩; refine At.run 1 rfl (At.f1 (At.f1 (At.f2 ?_))); exact At.of (g8 o7 j) ⟨rfl, rfl, rfl, rfl, rfl, rfl, rfl, trivial⟩
                 ··rcases bite j with ⟨e3, j⟩ | ⟨e3, j⟩
                   ··refine At.know (t := 85) rfl (nf e3) ?_
                     refine At.run 1 rfl (At.y (Y.load rfl rfl .z rfl rfl rfl) rfl rfl rfl ?_); obtain ⟨o9, p0, j⟩ := bbind j; refine At.call rfl Q63.callee rfl rfl rfl (Q63.spec g5 rfl g4 p0) ?_; rintro _ _ ⟨rfl, rfl⟩; refine At.run 2 rfl ?_; exact At.of (g7 (!o9) j) ⟨rfl, rfl, rfl, rfl, rfl, rfl, rfl, rfl, trivial⟩
                   ··refine At.know (t := 85) rfl (nt (bn e3)) ?_
                     refine At.run 5 rfl ?_; exact At.of (g7 true j) ⟨rfl, rfl, rfl, rfl, rfl, rfl, rfl, rfl, trivial⟩
               ··refine At.condF rfl (decide_eq_false d9) ?_
                 refine At.exit ?_; refine At.the ?_; refine At.the ?_; exact fun a w e hs => k7 () (bdn j g0) a w (e.sub ⟨rfl, rfl, trivial⟩) hs
           ·clear a4 d2; rintro d2 ⟨V, J⟩ a4; obtain ⟨p1, f_, p2, hf_, j⟩ := bit a4; clear a4; have j : (Q27.l0b O G p u V J).bind _ = some a3 := j; unfold Q27.l0b at j
            ·refine sR 1 rfl (nT (At.seq ?_)); rcases bite j with ⟨e4, j⟩ | ⟨e4, j⟩
             ··refine At.condT rfl (decide_eq_true e4) ?_
               refine At.skip (At.thn (At.seq ?_)); refine At.block ?_; refine At.seq (At.region ?_); obtain ⟨c8, j⟩ := bnone j; refine At.y (Y.ixRd hr0_2 rfl rfl rfl rfl rfl rfl rfl c8.1 c8.2) rfl rfl rfl (At.y (Y.ldFl hr0_2 rfl (q := 0) rfl rfl c8.1 c8.2 rfl rfl rfl) rfl rfl rfl ?_); refine At.alloc rfl rfl rfl (fun c9 => ?_); refine At.store rfl rfl rfl rfl .z rfl rfl rfl (.c (.c (.c .n))) ?_; refine nT (At.seq (At.seq (At.region (At.y (Y.load rfl rfl (.s .z) rfl rfl rfl) rfl rfl rfl (At.run 1 rfl (At.y (Y.load rfl rfl .z rfl rfl rfl) rfl rfl rfl ?_)))))); refine At.f2 ?_; obtain ⟨r6, p3, j⟩ := bbind j; refine At.call rfl Q82.callee rfl rfl rfl (Q82.spec hr0_1 rfl hc0_1 hr0_2 rfl hc0_2 hr0_3 rfl hc0_3 p3) ?_; rintro _ _ ⟨rfl, rfl⟩; refine At.run 2 rfl ?_; obtain ⟨p4, p5, r7, j⟩ := bjoin j; let T7 : HProp := pc c9 [i6 ((gt p J).From), i6 ((gt p J).Action), i6 ((gt p J).To)] 35; refine At.joinO 6 (X := Bool) (fun b5 => [(1, bp D), (3, bp U), (4, .int .u8 V), (6, bp c9), (37, .slice A0_2 p.length c0_2), (38, i6 (p.length : Int)), (39, i6 J), (54, .bool b5)]) (fun b5 => T4 :: T7 :: T5 :: Fr) (fun b5 => p4 (.inl b5) = some a3) ?_ (fun g9 => ?_)
               ·rintro b5 j; have j := (p5 _).symm.trans j
                ·refine At.run 1 rfl ?_; obtain ⟨p6, p7, r8, j⟩ := bjoin j; refine At.joinO 4 (X := Bool) (fun b6 => [(1, bp D), (3, bp U), (4, .int .u8 V), (6, bp c9), (37, .slice A0_2 p.length c0_2), (38, i6 (p.length : Int)), (39, i6 J), (59, .bool b6)]) (fun b6 => T4 :: T7 :: T5 :: Fr) (fun b6 => p6 (.inl b6) = some a3) ?_ (fun h0 => ?_)
                 ·rintro b6 j; have j := (p7 _).symm.trans j
                  ·refine At.run 1 rfl ?_; obtain ⟨p8, p9, r9, j⟩ := bjoin j; refine At.joinO 7 (X := Bool) (fun b7 => [(1, bp D), (3, bp U), (4, .int .u8 V), (6, bp c9), (37, .slice A0_2 p.length c0_2), (38, i6 (p.length : Int)), (39, i6 J), (67, .bool b7)]) (fun b7 => T4 :: T7 :: T5 :: Fr) (fun b7 => p8 (.inl b7) = some a3) ?_ (fun h1 => ?_)
                   ·rintro b7 j; have j := (p9 _).symm.trans j
                    ·refine nT ?_; rcases bite j with ⟨e5, j⟩ | ⟨e5, j⟩
                     ··refine At.condT rfl e5 ?_
                       refine sR 1 rfl (nT (At.ret (At.thr ?_))); refine At.ibr ?_; refine At.thr ?_; have j := bupL k2 f9 j; refine At.thr ?_; refine At.ibr ?_; refine At.thr (At.drop .z (At.drop .z (At.drop .z ?_))); cases bret j; exact At.res (.inl rfl) rfl rfl ⟨rfl, rfl⟩
                     ··refine At.condF rfl (bn e5) ?_
                       refine At.skip (At.thn (At.region (At.run 2 rfl (At.y (Y.load rfl rfl (.s .z) rfl rfl rfl) rfl rfl rfl ?_)))); obtain ⟨q0, j⟩ := bnone j; refine At.y (Y.shl rfl rfl q0) rfl rfl rfl (At.run 2 rfl (At.nil ?_)); refine At.ibn ?_; refine At.thn (At.region (At.run 2 rfl (At.nil (At.drop (.s .z) (At.f1 ?_))))); have j := bnx hf_ j; exact fun a w e hs => ⟨p1, (bor .u8 V (Bw.shl .u8 1 ((gt p J).Action)), IntKind.i64.wrap (J + 1)), p2, j, e.sub ⟨rfl, rfl, rfl, rfl, rfl, rfl, trivial⟩, hs⟩
                   ··rcases bite j with ⟨e6, j⟩ | ⟨e6, j⟩
                     ··refine At.know (t := 60) rfl e6 ?_
                       refine At.run 7 rfl ?_; exact At.of (h1 true j) ⟨rfl, rfl, rfl, rfl, rfl, rfl, rfl, rfl, trivial⟩
                     ··refine At.know (t := 60) rfl (bn e6) ?_
                       refine At.run 1 rfl (At.y (Y.load rfl rfl (.s .z) rfl rfl rfl) rfl rfl rfl (At.run 1 rfl (At.y (Y.load rfl rfl .z rfl rfl rfl) rfl rfl rfl (At.run 3 rfl ?_)))); exact At.of (h1 (decide ((G.length : Int) ≤ (gt p J).Action)) j) ⟨rfl, rfl, rfl, rfl, rfl, rfl, rfl, rfl, trivial⟩
                 ··rcases bite j with ⟨e7, j⟩ | ⟨e7, j⟩
                   ··refine At.know (t := 55) rfl e7 ?_
                     refine At.run 4 rfl ?_; exact At.of (h0 true j) ⟨rfl, rfl, rfl, rfl, rfl, rfl, rfl, rfl, trivial⟩
                   ··refine At.know (t := 55) rfl (bn e7) ?_
                     refine At.run 1 rfl (At.y (Y.load rfl rfl (.s .z) rfl rfl rfl) rfl rfl rfl (At.run 2 rfl ?_)); exact At.of (h0 (decide ((gt p J).Action < 0)) j) ⟨rfl, rfl, rfl, rfl, rfl, rfl, rfl, rfl, trivial⟩
               ··rcases bite j with ⟨e8, j⟩ | ⟨e8, j⟩
                 ··refine At.know (t := 48) rfl (nf e8) ?_
                   refine At.y (Y.load rfl rfl (.s (.s .z)) rfl rfl rfl) rfl rfl rfl (At.run 1 rfl (At.y (Y.load rfl rfl (.s .z) rfl rfl rfl) rfl rfl rfl ?_)); obtain ⟨q1, q2, j⟩ := bbind j; refine At.call rfl Q82.callee rfl rfl rfl (Q82.spec hr0_1 rfl hc0_1 hr0_2 rfl hc0_2 hr0_3 rfl hc0_3 q2) ?_; rintro _ _ ⟨rfl, rfl⟩; refine At.run 2 rfl ?_; exact At.of (g9 (!q1) j) ⟨rfl, rfl, rfl, rfl, rfl, rfl, rfl, rfl, trivial⟩
                 ··refine At.know (t := 48) rfl (nt (bn e8)) ?_
                   refine At.run 6 rfl ?_; exact At.of (g9 true j) ⟨rfl, rfl, rfl, rfl, rfl, rfl, rfl, rfl, trivial⟩
             ··refine At.condF rfl (decide_eq_false e4) ?_
               refine At.exit ?_; refine At.the ?_; refine At.the ?_; exact fun a w e hs => k3 V (bdn j f9) a w (e.sub ⟨rfl, rfl, rfl, trivial⟩) hs
       ··rcases bite j with ⟨e9, j⟩ | ⟨e9, j⟩
         ··refine At.know (t := 29) rfl e9 ?_
           refine At.run 5 rfl ?_; exact At.of (f8 true j) ⟨rfl, rfl, trivial⟩
         ··refine At.know (t := 29) rfl (bn e9) ?_
           refine At.run 1 rfl (At.y (Y.load rfl rfl .z rfl rfl rfl) rfl rfl rfl (At.run 3 rfl ?_)); exact At.of (f8 (decide (200 < (p.length : Int))) j) ⟨rfl, rfl, trivial⟩
     ··rcases bite j with ⟨f0, j⟩ | ⟨f0, j⟩
       ··refine At.know (t := 23) rfl f0 ?_
         refine At.run 5 rfl ?_; exact At.of (f7 true j) ⟨rfl, rfl, trivial⟩
       ··refine At.know (t := 23) rfl (bn f0) ?_
         refine At.run 1 rfl (At.y (Y.load rfl rfl .z rfl rfl rfl) rfl rfl rfl (At.run 3 rfl ?_)); exact At.of (f7 (decide (8 < (u.length : Int))) j) ⟨rfl, rfl, trivial⟩
   ··rcases bite j with ⟨f3, j⟩ | ⟨f3, j⟩
     ··refine At.know (t := 17) rfl f3 ?_
       refine At.run 5 rfl ?_; exact At.of (f6 true j) ⟨rfl, rfl, trivial⟩
     ··refine At.know (t := 17) rfl (bn f3) ?_
       refine At.run 1 rfl (At.y (Y.load rfl rfl .z rfl rfl rfl) rfl rfl rfl (At.run 3 rfl ?_)); exact At.of (f6 (decide (8 < (G.length : Int))) j) ⟨rfl, rfl, trivial⟩
 ··rcases bite j with ⟨f4, j⟩ | ⟨f4, j⟩
   ··refine At.know (t := 12) rfl (decide_eq_true f4) ?_
     refine At.run 4 rfl ?_; exact At.of (f5 true j) ⟨rfl, rfl, trivial⟩
   ··refine At.know (t := 12) rfl (decide_eq_false f4) ?_
     refine At.run 1 rfl (At.y (Y.load rfl rfl .z rfl rfl rfl) rfl rfl rfl (At.run 2 rfl ?_)); exact At.of (f5 (decide (24 < O)) j) ⟨rfl, rfl, trivial⟩






end Go.Bw
namespace Go.Bw
open Go Go.RowKit

theorem TypeOk.map {P : Program} {t : Nat} {i : TI} (h : TypeOk P t i) {k e : Nat} (hk : i.k = .map k e) : P.underlying t = some (.map k e) := by
 obtain ⟨d, hd, hk'⟩ := h.under; rw [hk] at hk'; cases d <;> simp [tk] at hk'; rw [hk'.1, hk'.2] at hd; exact hd
def Fl.ov {α : Type} (F : Fl α) (x : α) : Value := (F.enc x).headD .nilFunc
def Fl.av {α : Type} (F : Fl α) (x : α) : Value := .agg (F.enc x).toArray
section
variable {κ ν : Type}
def mget [DecidableEq κ] : List (κ × ν) → κ → Option ν
 | [], _ => none
 | p :: r, k => if p.1 = k then some p.2 else mget r k
def mset [DecidableEq κ] : List (κ × ν) → κ → ν → List (κ × ν)
 | [], k, v => [(k, v)]
 | p :: r, k, v => if p.1 = k then (k, v) :: r else p :: mset r k v
structure KeyOk (P : Program) (t : Nat) (kv : κ → Value) [DecidableEq κ] : Prop where
 chk : ∀ k w em, (Instr.checkKey em 10000 t (kv k)).run P w = .ok () w
 find : ∀ (es : List MapEntry) (ks : List κ) k w, es.map (·.key) = ks.map kv → (Instr.findKey t (kv k) es).run P w = .ok ((ks.findIdx? (fun a => decide (a = k))).bind fun i => es[i]?.map fun e => (i, e.val)) w
 same : ∀ k, Instr.sameBits 10000 (kv k) (kv k) = true
def mapo (kv : κ → Value) (vv : ν → Value) (b : Nat) (kvs : List (κ × ν)) : HProp := fun h =>
 ∃ (es : List MapEntry) (clock : Nat), h b = some (.map es.toArray clock) ∧ es.map (fun e => (e.key, e.val)) = kvs.map (fun p => (kv p.1, vv p.2)) ∧ es.Pairwise (fun x y => x.born < y.born) ∧ ∀ e ∈ es, e.born < clock
theorem Q250 (s : Bs) : ∀ (es : List MapEntry) (ks : List Bs) (i : Nat), es.map (·.key) = ks.map (fun x => Value.string ⟨x.toArray⟩) →
 Instr.findNow .string (.string ⟨s.toArray⟩) es i = some ((ks.findIdx? (fun a => decide (a = s))).bind fun j => es[j]?.map fun e => (i + j, e.val))
 | [], [], _, _ => rfl
 | [], _ :: _, _, h => by simp at h
 | _ :: _, [], _, h => by simp at h
 | e :: es, k :: ks, i, h => by
  simp only [List.map_cons, List.cons.injEq] at h
  unfold Instr.findNow
  have hb : ((ByteArray.mk s.toArray) == (ByteArray.mk k.toArray)) = decide (k = s) := by
   rw [Q178]
   by_cases hks : k = s
   ·subst hks; rw [decide_eq_true rfl]; exact Q152.2 rfl
   ·rw [decide_eq_false hks]
    exact Bool.eq_false_iff.2 fun hc => hks (Q152.1 hc).symm
  rw [h.1]
  simp only [Instr.sameNow, hb]
  rw [List.findIdx?_cons]
  by_cases hks : k = s
  ·rw [decide_eq_true hks]
   simp
  ·rw [decide_eq_false hks]
   simp only [Bool.false_eq_true, if_false]
   rw [Q250 s es ks (i + 1) h.2]
   cases hf : ks.findIdx? (fun a => decide (a = s)) with
   | none => rfl
   | some j =>
    simp
    congr 1
    funext e
    congr 1
    omega
theorem KeyOk.str {P : Program} [Tys P] {t : Nat} {i : TI} (hi : ti P t = some i) (hk : i.k = .string) : KeyOk P t Fl.bs.ov := by
 have hu := (Q11 hi).string hk
 refine ⟨fun k w em => ?_, fun es ks k w h => ?_, fun k => ?_⟩
 ·exact MapKept.run_checkKey (k := .string ⟨k.toArray⟩) hu (by simp [MapKept.IsKey]) em 9999
 ·have := Q250 k es ks 0 h
  simp only [Nat.zero_add] at this
  exact MapKept.run_findKey (k := .string ⟨k.toArray⟩) hu this
 ·show Instr.sameBits (9999 + 1) (.string ⟨k.toArray⟩) (.string ⟨k.toArray⟩) = true
  simp only [Instr.sameBits]
  rw [Q178]
  exact Q152.2 rfl
theorem Q279 [DecidableEq κ] {kv : κ → Value} {vv : ν → Value} : ∀ {es : List MapEntry} {kvs : List (κ × ν)} {k : κ}, es.map (fun e => (e.key, e.val)) = kvs.map (fun p => (kv p.1, vv p.2)) →
 (((kvs.map (·.1)).findIdx? (fun a => decide (a = k))).bind fun i => es[i]?.map fun e => (i, e.val)).map (·.2) = (mget kvs k).map vv
 | [], [], _, _ => rfl
 | [], _ :: _, _, h => by simp at h
 | _ :: _, [], _, h => by simp at h
 | e :: es, p :: kvs, k, h => by
  simp only [List.map_cons, List.cons.injEq, Prod.mk.injEq] at h
  rw [List.map_cons, List.findIdx?_cons]
  unfold mget
  by_cases hk : p.1 = k
  ·rw [if_pos hk, decide_eq_true hk]
   simp [h.1.2]
  ·rw [if_neg hk, decide_eq_false hk]
   simp only [Bool.false_eq_true, if_false]
   rw [← Q279 (k := k) h.2]
   cases (kvs.map (·.1)).findIdx? (fun a => decide (a = k)) with
   | none => rfl
   | some j => simp; rfl
theorem Q210 {kv : κ → Value} {vv : ν → Value} {es : List MapEntry} {kvs : List (κ × ν)} (h : es.map (fun e => (e.key, e.val)) = kvs.map (fun p => (kv p.1, vv p.2))) : es.map (·.key) = (kvs.map (·.1)).map kv := by
 have := congrArg (List.map (·.1)) h
 simpa [List.map_map, Function.comp_def] using this
end
section
variable {P : Program} [Tys P] {os : List Oper} {Q : Exit → Act → World → Prop} {rest : List Oper} {n : Nat} {ds : List Deferred} {R : Res} {env : List (Nat × Value)} {l l' : List HProp}
variable {d ty : Nat} {pos : String} {af : Array Edge} {g : Option (Nat × Bool)} {κ ν : Type} [DecidableEq κ] {kv : κ → Value} {vv : ν → Value} {kvs : List (κ × ν)} {b t kt et : Nat} {K : Act → World → Prop} {dd : Option Nat}
theorem Q205 {w : World} (hs : sat R (mapo kv vv b kvs :: l) w) : ∃ (es : List MapEntry) (clock : Nat), w.heap[b]? = some (.map es.toArray clock) ∧ es.map (fun e => (e.key, e.val)) = kvs.map (fun p => (kv p.1, vv p.2)) ∧ es.Pairwise (fun x y => x.born < y.born) ∧ ∀ e ∈ es, e.born < clock := by
 obtain ⟨h1, ⟨es, clock, a, r⟩, s⟩ := hs.head
 exact ⟨es, clock, s _ _ a, r⟩
theorem At.makeMap (kv : κ → Value) (vv : ν → Value) (hg : grd os env g = some true) (hd : Nat.blt d n = true)
 (h : ∀ b, At n ds R ((d, .map (some b)) :: env) (mapo kv vv b [] :: l) (wpList P os.toArray Q rest)) :
 At n ds R env l (wpList P os.toArray Q (⟨some d, .makeMap t none, ty, pos, af, g⟩ :: rest)) := Q78 hg rfl hd fun a w e hs => by
 refine ⟨_, _, _, ?_, (hs.alloc (.map #[] 0)).imp fun h p => ⟨[], 0, p, rfl, List.Pairwise.nil, fun e he => by cases he⟩, h _⟩
 simp [execOp, Instr.makeMap]
theorem Q296 {w : World} {ii : TI} {z : ν} (hi : ti P t = some ii) (hk : ii.k = .map kt et) (ko : KeyOk P kt kv) (hz : ((P.info? et).bind fun x => x.zero) = some (vv z)) (hs : sat R (mapo kv vv b kvs :: l) w) (k : κ) (ok : Bool) :
 (Instr.lookup t (.map (some b)) (kv k) ok).run P w = .ok (if ok then .tuple #[vv ((mget kvs k).getD z), .bool (mget kvs k).isSome] else vv ((mget kvs k).getD z)) w := by
 obtain ⟨es, clock, hb, hm, _⟩ := Q205 hs
 have hu := (Q11 hi).map hk
 have hf := ko.find es (kvs.map (·.1)) k w (Q210 hm)
 have hg := Q279 (k := k) hm
 have hgo : (getObj b).run P w = .ok (.map es.toArray clock) w := MapKept.run_getObj_map hb
 simp only [Instr.lookup, Sem.run_bind, run_underlying hu, Result.andThen, hgo, Sem.run_pure, ko.chk, hf]
 cases hr : ((kvs.map (·.1)).findIdx? (fun a => decide (a = k))).bind fun i => es[i]?.map fun e => (i, e.val) with
 | none =>
  rw [hr] at hg
  have hgn : mget kvs k = none := by cases hq : mget kvs k with | none => rfl | some v => rw [hq] at hg; cases hg
  obtain ⟨x, hx, hx2⟩ := Option.bind_eq_some_iff.1 hz
  rw [hgn]
  cases ok <;> simp [zeroValue, typeInfo, hx, hx2]
 | some p =>
  obtain ⟨i, v⟩ := p
  rw [hr] at hg
  cases hq : mget kvs k with
  | none => rw [hq] at hg; cases hg
  | some v' =>
   rw [hq] at hg
   have hv : v = vv v' := by simpa using hg
   subst hv
   cases ok <;> simp
theorem Y.lookup {x y : Operand} {k : κ} {v : Value} {ii : TI} {z : ν} (f : Frt l (mapo kv vv b kvs) l') (hi : ti P t = some ii) (hk : ii.k = .map kt et) (ko : KeyOk P kt kv) (hz : ((P.info? et).bind fun x => x.zero) = some (vv z))
 (hx : ev env x = some (.map (some b))) (hy : ev env y = some v) (hv : v = kv k) :
 Y P n ds R env l ⟨dd, .lookup t x y false, ty, pos, af, g⟩ (vv ((mget kvs k).getD z)) := fun a w e hs => by
 subst hv
 have := Q296 hi hk ko hz (hs.frt f) k false
 simp only [execOp, e.ev hx, e.ev hy, Sem.run_bind, this, Result.andThen, Sem.run_pure]
 rfl
theorem Y.lookupOk {x y : Operand} {k : κ} {v : Value} {ii : TI} {z : ν} (f : Frt l (mapo kv vv b kvs) l') (hi : ti P t = some ii) (hk : ii.k = .map kt et) (ko : KeyOk P kt kv) (hz : ((P.info? et).bind fun x => x.zero) = some (vv z))
 (hx : ev env x = some (.map (some b))) (hy : ev env y = some v) (hv : v = kv k) :
 Y P n ds R env l ⟨dd, .lookup t x y true, ty, pos, af, g⟩ (.tuple #[vv ((mget kvs k).getD z), .bool (mget kvs k).isSome]) := fun a w e hs => by
 subst hv
 have := Q296 hi hk ko hz (hs.frt f) k true
 simp only [execOp, e.ev hx, e.ev hy, Sem.run_bind, this, Result.andThen, Sem.run_pure]
 rfl
theorem Q199 {es : List MapEntry} (h : es.map (fun e => (e.key, e.val)) = kvs.map (fun p => (kv p.1, vv p.2))) : es.length = kvs.length := by
 have := congrArg List.length h
 simpa using this
theorem Y.lenMap {x : Operand} {ii : TI} (f : Frt l (mapo kv vv b kvs) l') (hi : ti P t = some ii) (hk : ii.k = .map kt et) (hx : ev env x = some (.map (some b))) :
 Y P n ds R env l ⟨dd, .call ⟨.builtin .len, #[x], #[t]⟩, ty, pos, af, g⟩ (.int .i64 (kvs.length : Int)) := fun a w e hs => by
 obtain ⟨es, clock, hb, hm, _⟩ := Q205 (hs.frt f)
 have hu := (Q11 hi).map hk
 have hgo : (getObj b).run P w = .ok (.map es.toArray clock) w := MapKept.run_getObj_map hb
 simp [execOp, resolve, invoke, builtin, Builtin.len_, e.ev hx, run_underlying hu, hgo, Result.andThen, goInt, Q199 hm]
theorem set_mset {es : List MapEntry} {kvs : List (κ × ν)} {k : κ} {v : ν} (h : es.map (fun e => (e.key, e.val)) = kvs.map (fun p => (kv p.1, vv p.2))) :
 (match ((kvs.map (·.1)).findIdx? (fun a => decide (a = k))).bind fun i => es[i]?.map fun e => (i, e.val) with
  | some (i, _) => (es.modify i fun e => { e with key := kv k, val := vv v }).map (fun e => (e.key, e.val))
  | none => es.map (fun e => (e.key, e.val)) ++ [(kv k, vv v)]) = (mset kvs k v).map (fun p => (kv p.1, vv p.2)) := by
 induction kvs generalizing es with
 | nil =>
  cases es with
  | nil => rfl
  | cons e es => simp at h
 | cons p kvs ih =>
  cases es with
  | nil => simp at h
  | cons e es =>
   simp only [List.map_cons, List.cons.injEq, Prod.mk.injEq] at h
   rw [List.map_cons, List.findIdx?_cons]
   unfold mset
   by_cases hk : p.1 = k
   ·rw [if_pos hk, decide_eq_true hk]
    simp [h.2]
   ·rw [if_neg hk, decide_eq_false hk]
    simp only [Bool.false_eq_true, if_false]
    have := ih h.2
    cases hf : (kvs.map (·.1)).findIdx? (fun a => decide (a = k)) with
    | none =>
     rw [hf] at this
     simp at this ⊢
     exact ⟨h.1, this⟩
    | some j =>
     rw [hf] at this
     simp at this ⊢
     have hj : j < es.length := by
      have := (List.findIdx?_eq_some_iff_getElem.1 hf).1
      simp at this
      have h3 := Q199 h.2
      omega
     rw [List.getElem?_eq_getElem hj] at this ⊢
     simp at this ⊢
     exact ⟨h.1, this⟩
theorem Q263 {es : List MapEntry} {i : Nat} {f : MapEntry → MapEntry} (hf : ∀ e, (f e).born = e.born) : (es.modify i f).map (·.born) = es.map (·.born) := by
 apply List.ext_getElem?
 intro j
 rw [List.getElem?_map, List.getElem?_map, List.getElem?_modify]
 cases es[j]? with
 | none => rfl
 | some e => by_cases h : i = j <;> simp [h, hf]
theorem At.mapUpdate {x y z : Operand} {k : κ} {v : ν} {u u' : Value} {ii : TI} (hg : grd os env g = some true) (f : Frt l (mapo kv vv b kvs) l') (hi : ti P t = some ii) (hk : ii.k = .map kt et) (ko : KeyOk P kt kv)
 (hx : ev env x = some (.map (some b))) (hy : ev env y = some u) (hu : u = kv k) (hz : ev env z = some u') (hu' : u' = vv v)
 (h : At n ds R env (mapo kv vv b (mset kvs k v) :: l') (wpList P os.toArray Q rest)) :
 At n ds R env l (wpList P os.toArray Q (⟨none, .mapUpdate t x y z, ty, pos, af, g⟩ :: rest)) := op_sk hg rfl fun a w e hs => by
 subst hu hu'
 have hs1 := hs.frt f
 obtain ⟨es, clock, hb, hm, hbn, hcl⟩ := Q205 hs1
 have hun := (Q11 hi).map hk
 have hf := ko.find es (kvs.map (·.1)) k w (Q210 hm)
 have hset := set_mset (k := k) (v := v) hm
 have hgo : (getObj b).run P w = .ok (.map es.toArray clock) w := MapKept.run_getObj_map hb
 have hso : ∀ o, (setObj b o).run P w = .ok () { w with heap := w.heap.setIfInBounds b o } := fun o => MapKept.run_setObj_map o hb
 have hlt : b < w.heap.size := (Array.getElem?_eq_some_iff.1 hb).1
 have fin : ∀ (es' : List MapEntry) (clock' : Nat), es'.map (fun e => (e.key, e.val)) = (mset kvs k v).map (fun p => (kv p.1, vv p.2)) → es'.Pairwise (fun x y => x.born < y.born) → (∀ e ∈ es', e.born < clock') →
  sat R (mapo kv vv b (mset kvs k v) :: l') { w with heap := w.heap.setIfInBounds b (.map es'.toArray clock') } := fun es' clock' h1 h2 h3 => by
  obtain ⟨hh, ⟨_, _, hp, _⟩, s, kk⟩ := hs1.upd
  refine kk _ (single b (.map es'.toArray clock')) _ ⟨es', clock', Q226 _ _, h1, h2, h3⟩ rfl rfl rfl (Nat.le_refl _) (fun x o hx hn => ?_) (fun x o hx => ?_) (fun x o hx => ?_)
  ·have hne : b ≠ x := fun hxb => by subst hxb; rw [hp] at hn; cases hn
   show (w.heap.setIfInBounds b _)[x]? = _
   rw [Array.getElem?_setIfInBounds_ne hne]; exact hx
  ·obtain ⟨rfl, rfl⟩ := Q111 hx
   show (w.heap.setIfInBounds x _)[x]? = _
   simp [hlt]
  ·obtain ⟨rfl, rfl⟩ := Q111 hx; exact .inl ⟨_, hp⟩
 cases hr : ((kvs.map (·.1)).findIdx? (fun a => decide (a = k))).bind fun i => es[i]?.map fun e => (i, e.val) with
 | none =>
  rw [hr] at hset hf
  refine ⟨_, _, ?_, fin (es ++ [{ key := kv k, val := vv v, born := clock }]) (clock + 1) (by simpa using hset) ?_ ?_, h⟩
  ·simp [execOp, e.ev hx, e.ev hy, e.ev hz, Instr.mapUpdate, run_underlying hun, Result.andThen, hgo, ko.chk, hf, hso]
  ·rw [List.pairwise_append]
   exact ⟨hbn, by simp, fun x hx y hy => by simp at hy; subst hy; exact hcl x hx⟩
  ·intro e he
   rcases List.mem_append.1 he with he | he
   ·have := hcl e he; omega
   ·simp at he; subst he; exact Nat.lt_succ_self _
 | some p =>
  obtain ⟨i, v0⟩ := p
  rw [hr] at hset hf
  obtain ⟨j, hj, hj2⟩ := Option.bind_eq_some_iff.1 hr
  obtain ⟨e1, he1, he2⟩ := Option.map_eq_some_iff.1 hj2
  simp only [Prod.mk.injEq] at he2
  obtain ⟨rfl, rfl⟩ := he2
  have hkey : e1.key = kv k := by
   have hq := congrArg (fun l => l[j]?) (Q210 hm)
   simp only [List.getElem?_map, he1, Option.map_some] at hq
   obtain ⟨hl, hd, _⟩ := List.findIdx?_eq_some_iff_getElem.1 hj
   rw [← List.getElem?_map, List.getElem?_eq_getElem hl] at hq
   have hd' := of_decide_eq_true hd
   rw [hd'] at hq
   simpa using hq
  have hst : (Instr.keyThatStays (kv k) (kv k)).run P w = .ok (kv k) w := by simp [Instr.keyThatStays, ko.same]
  refine ⟨_, _, ?_, fin (es.modify j fun e => { e with key := kv k, val := vv v }) clock hset ?_ ?_, h⟩
  ·simp only [execOp, e.ev hx, e.ev hy, e.ev hz, Instr.mapUpdate, Sem.run_bind, run_underlying hun, Result.andThen, hgo, ko.chk, hf, List.getElem?_toArray, he1, Option.map_some, hkey, Option.getD_some, hst, hso, Sem.run_pure]
   simp
  ·have := Q263 (es := es) (i := j) (f := fun e => { e with key := kv k, val := vv v }) (fun _ => rfl)
   refine (List.pairwise_map (f := fun e : MapEntry => e.born) (R := fun x y : Nat => x < y)).1 ?_
   rw [this]
   exact List.pairwise_map.2 hbn
  ·intro e he
   have hmem : e.born ∈ (es.modify j fun e => { e with key := kv k, val := vv v }).map (·.born) := List.mem_map_of_mem he
   rw [Q263 (es := es) (i := j) (f := fun e => { e with key := kv k, val := vv v }) (fun _ => rfl)] at hmem
   obtain ⟨e', he', hb'⟩ := List.mem_map.1 hmem
   rw [← hb']
   exact hcl e' he'
theorem mapo_up {h h' : PHeap} (o : mapo kv vv b kvs h) (s : Sub h h') : mapo kv vv b kvs h' := let ⟨es, c, a, r⟩ := o; ⟨es, c, s _ _ a, r⟩
def Ow.mp (kv : κ → Value) (vv : ν → Value) : Ow (List (κ × ν)) := ⟨1, fun kvs cs h => ∃ b, cs = [.map (some b)] ∧ mapo kv vv b kvs h, fun ⟨_, h, _⟩ => by rw [h]; rfl, fun ⟨_, h, _⟩ u hu => by rw [h] at hu; simp at hu; subst hu; rfl, by decide,
 ⟨1, fun H kvs cs => ∃ b, cs = [.map (some b)] ∧ mapo kv vv b kvs H, fun ⟨_, h, _⟩ => by rw [h]; rfl, fun s ⟨b, h, o⟩ => ⟨b, h, let ⟨es, c, a, r⟩ := o; ⟨es, c, s _ _ a, r⟩⟩, by decide⟩, rfl, fun ⟨b, h, o⟩ s => ⟨b, h, let ⟨es, c, a, r⟩ := o; ⟨es, c, s _ _ a, r⟩⟩⟩
theorem Ent.mp : Ent [mapo kv vv b kvs] ((Ow.mp kv vv).own kvs [.map (some b)]) := fun h ⟨h1, _, a, _, _, s, _⟩ => ⟨b, rfl, mapo_up a s⟩
theorem At.ownMp {cs : List Value} (f : Frt l ((Ow.mp kv vv).own kvs cs) l') (h : ∀ b, cs = [.map (some b)] → At n ds R env (mapo kv vv b kvs :: l') K) : At n ds R env l K := fun a w e0 hs => by
 obtain ⟨ok, k, ⟨h1, h2, ⟨b, e1, r⟩, s⟩, dR⟩ := hs.frt f
 exact h b e1 a w e0 ⟨ok, k, ⟨h1, h2, r, s⟩, dR⟩
end
end Go.Bw
namespace Go.Bw
open Go Go.RowKit

theorem Q277 (s : Bs) : ((ByteArray.mk s.toArray) == (ByteArray.mk s.toArray)) = true := by rw [Q178]; exact Q152.2 rfl
section
variable {P : Program} [Tys P] {κ : Type} [DecidableEq κ] {w : World} {t : Nat}
theorem Q192 {xs : List Value} (em : Bool) : ∀ {fl : List Field} {fs : List (Nat × Nat)} {r : Bool}, fl.map (fun f => (f.type, f.offset)) = fs → eqcs P fs xs xs = some r →
 (do for f in fl do if f.name ≠ "_" then Instr.checkKey em 9999 f.type (← part f.type xs.toArray f.offset) : Sem Unit).run P w = .ok () w
 | [], _, r, rfl, h => by simp
 | f :: fl, _, r, rfl, h => by
  simp only [List.map_cons, eqcs] at h
  split at h
  ·rename_i j hj
   split at h
   ·rename_i hk hx hy
    split at h
    ·obtain ⟨q, hq, rfl⟩ := Option.map_eq_some_iff.1 h
     have hu := (Q11 hj).int hk
     have ih := Q192 em (fl := fl) rfl hq
     have hc : ∀ k a, (Instr.checkKey em 9999 f.type (.int k a)).run P w = .ok () w := fun k a => by
      show (Instr.checkKey em (9998 + 1) f.type _).run P w = _
      rw [Instr.checkKey]
      simp [run_underlying hu, Result.andThen]
     by_cases hn : f.name = "_"
     ·simpa [hn, Result.andThen] using ih
     ·simpa [hn, Q56 hx, hc, Result.andThen] using ih
    ·cases h
   ·rename_i hk hx hy
    obtain ⟨q, hq, rfl⟩ := Option.map_eq_some_iff.1 h
    have hu := (Q11 hj).bool hk
    have ih := Q192 em (fl := fl) rfl hq
    have hc : ∀ a, (Instr.checkKey em 9999 f.type (.bool a)).run P w = .ok () w := fun a => by
     show (Instr.checkKey em (9998 + 1) f.type _).run P w = _
     rw [Instr.checkKey]
     simp [run_underlying hu, Result.andThen]
    by_cases hn : f.name = "_"
    ·simpa [hn, Result.andThen] using ih
    ·simpa [hn, Q56 hx, hc, Result.andThen] using ih
   ·rename_i hk hx hy
    obtain ⟨q, hq, rfl⟩ := Option.map_eq_some_iff.1 h
    have hu := (Q11 hj).string hk
    have ih := Q192 em (fl := fl) rfl hq
    have hc : ∀ a, (Instr.checkKey em 9999 f.type (.string a)).run P w = .ok () w := fun a => by
     show (Instr.checkKey em (9998 + 1) f.type _).run P w = _
     rw [Instr.checkKey]
     simp [run_underlying hu, Result.andThen]
    by_cases hn : f.name = "_"
    ·simpa [hn, Result.andThen] using ih
    ·simpa [hn, Q56 hx, hc, Result.andThen] using ih
   ·cases h
  ·cases h
theorem Q280 {kv : κ → Value} (k : κ) (he : ∀ a, (Op.equal t (kv k) (kv a)).run P w = .ok (decide (a = k)) w) : ∀ (es : List MapEntry) (ks : List κ) (i : Nat), es.map (·.key) = ks.map kv →
 (Instr.findAsking t (kv k) es i).run P w = .ok ((ks.findIdx? (fun a => decide (a = k))).bind fun j => es[j]?.map fun e => (i + j, e.val)) w
 | [], [], i, _ => by simp [Instr.findAsking]
 | [], _ :: _, _, h => by simp at h
 | _ :: _, [], _, h => by simp at h
 | e :: es, a :: ks, i, h => by
  simp only [List.map_cons, List.cons.injEq] at h
  rw [Instr.findAsking, h.1]
  simp only [Sem.run_bind, he, Result.andThen]
  rw [List.findIdx?_cons]
  by_cases hk : a = k
  ·simp [hk]
  ·simp only [hk, decide_false, Bool.false_eq_true, if_false]
   rw [Q280 k he es ks (i + 1) h.2]
   cases hf : ks.findIdx? (fun a => decide (a = k)) with
   | none => rfl
   | some j =>
    simp
    congr 1
    funext e
    congr 1
    omega
theorem Q249 {kv : κ → Value} {fl : Array Field} (hu : P.underlying t = some (.struct fl)) (k : κ) (he : ∀ a, (Op.equal t (kv k) (kv a)).run P w = .ok (decide (a = k)) w) (es : List MapEntry) (ks : List κ) (h : es.map (·.key) = ks.map kv) :
 (Instr.findKey t (kv k) es).run P w = .ok ((ks.findIdx? (fun a => decide (a = k))).bind fun j => es[j]?.map fun e => (j, e.val)) w := by
 unfold Instr.findKey
 simp only [Sem.run_bind, run_underlying hu, Result.andThen]
 cases es with
 | nil =>
  cases ks with
  | nil => simp [Instr.findNow]
  | cons a ks => simp at h
 | cons e es =>
  have : Instr.findNow (.struct fl) (kv k) (e :: es) 0 = none := by simp [Instr.findNow, Instr.sameNow]
  rw [this]
  have := Q280 (P := P) (w := w) (t := t) k he (e :: es) ks 0 h
  simpa using this
theorem KeyOk.st {F : Fl κ} {fs : List (Nat × Nat)} {ii : TI} (hi : ti P t = some ii) (hk : ii.k = .struct fs) (hn : named P t = true) (hp : P.stoodInHeld t = false)
 (he : ∀ x y : κ, eqcs P fs (F.enc x) (F.enc y) = some (decide (x = y))) (hs : ∀ x : κ, ((F.enc x).zip (F.enc x)).all (fun p => Instr.sameBits 9999 p.1 p.2) = true) : KeyOk P t F.av := by
 obtain ⟨fl, hu, hm⟩ := (Q11 hi).struct hk
 refine ⟨fun k w em => ?_, fun es ks k w h => ?_, fun k => ?_⟩
 ·show (Instr.checkKey em (9999 + 1) t (.agg (F.enc k).toArray)).run P w = _
  rw [Instr.checkKey]
  have := Q192 (P := P) (w := w) em hm (he k k)
  simp only [Sem.run_bind, run_underlying hu, Result.andThen]
  rw [← Array.forIn_toList]
  simp [Result.andThen] at this ⊢
  rw [this]
 ·refine Q249 hu k (fun a => ?_) es ks h
  rw [show decide (a = k) = decide (k = a) from decide_eq_decide.2 eq_comm]
  exact Q209 hi hk hn hp (he k a)
 ·show Instr.sameBits (9999 + 1) (.agg (F.enc k).toArray) (.agg (F.enc k).toArray) = true
  simp only [Instr.sameBits]
  simpa using hs k
end
end Go.Bw
namespace Go.Bw
open Go Go.RowKit Go.Proofs
variable {R : Res} {Fr : List HProp} {A0 A0_1 A0_2 A0_3 : Option Addr} {n0 c0 n0_1 c0_1 n0_2 c0_2 n0_3 c0_3 : Nat}
structure Q0 where
 c0 : Int
 c1 : Int
 c2 : Int
 c3 : Int
deriving Inhabited, DecidableEq
def Q0.fl : Fl Q0 := ⟨4, fun x => [.int .u64 x.c0, .int .u64 x.c1, .int .u64 x.c2, .int .u64 x.c3], fun _ => rfl, fun x u hu => by simp at hu; rcases hu with rfl | rfl | rfl | rfl <;> rfl, by decide⟩
structure Q7 where
 from_ : Int
 action : Bs
deriving Inhabited, DecidableEq
def Q7.fl : Fl Q7 := ⟨2, fun x => [i6 x.from_, .string ⟨(x.action).toArray⟩], fun _ => rfl, fun x u hu => by simp at hu; rcases hu with rfl | rfl <;> rfl, by decide⟩
structure Q3 where
 states : Int
 holds : List (Bs × Q0)
 next : List (Q7 × Q0)
deriving Inhabited
def Q3.ow : Ow Q3 := ((Ow.fl (Fl.int .i64)).pair ((Ow.mp Fl.bs.ov Q0.fl.av).pair (Ow.mp Q7.fl.av Q0.fl.av))).iso (fun x => (x.states, x.holds, x.next))
theorem Q3.ent {x0 : Int} {b1 : Nat} {x1 : List (Bs × Q0)} {b2 : Nat} {x2 : List (Q7 × Q0)} : Ent [mapo Fl.bs.ov Q0.fl.av b1 x1, mapo Q7.fl.av Q0.fl.av b2 x2] (Q3.ow.own ⟨x0, x1, x2⟩ [i6 x0, .map (some b1), .map (some b2)]) := (Ent.pair (c1 := [i6 x0]) (c2 := [.map (some b1), .map (some b2)]) (Ent.fl (Fl.int .i64) rfl) (Ent.pair (c1 := [.map (some b1)]) (c2 := [.map (some b2)]) Ent.mp Ent.mp))
theorem Q7.keyok : KeyOk Tryz.prog 94 Q7.fl.av := KeyOk.st rfl rfl (by kernel_rfl) (by kernel_rfl) (fun x y => by
 refine (show _ = some (decide (x.from_ = y.from_) && (bseq x.action y.action && true)) from rfl).trans (congrArg some ?_)
 cases x
 cases y
 rw [Bool.eq_iff_iff]
 simp [Q152]) (fun x => by simp [Q7.fl, Instr.sameBits, Q277])

noncomputable def Q21.f (p q u D a1 : Int) : Option (Int × Int × Int × Int) :=
 jn (
 if 0 ≤ a1 then
 some (.inl (decide (a1 < 256)))
 else
 some (.inl false)) (fun (G : Bool) =>
 if G = true then
 if (0 : Int) ≤ (Bw.shr .i64 a1 6) ∧ (Bw.shr .i64 a1 6) < (4 : Int) then
 if (Bw.shr .i64 a1 6) = 0 then
 if (0 : Int) ≤ IntKind.u64.wrap (band .i64 a1 63) then
 some (bor .u64 p (Bw.shl .u64 1 (IntKind.u64.wrap (band .i64 a1 63))), q, u, D)
 else none
 else
 if (Bw.shr .i64 a1 6) = 1 then
 if (0 : Int) ≤ IntKind.u64.wrap (band .i64 a1 63) then
 some (p, bor .u64 q (Bw.shl .u64 1 (IntKind.u64.wrap (band .i64 a1 63))), u, D)
 else none
 else
 if (Bw.shr .i64 a1 6) = 2 then
 if (0 : Int) ≤ IntKind.u64.wrap (band .i64 a1 63) then
 some (p, q, bor .u64 u (Bw.shl .u64 1 (IntKind.u64.wrap (band .i64 a1 63))), D)
 else none
 else
 if (0 : Int) ≤ IntKind.u64.wrap (band .i64 a1 63) then
 some (p, q, u, bor .u64 D (Bw.shl .u64 1 (IntKind.u64.wrap (band .i64 a1 63))))
 else none
 else none
 else
 some (p, q, u, D))
theorem Q21.callee : Callee Tryz.prog 38 := ⟨_, Tryz.func38, by kernel_rfl, by kernel_rfl⟩
theorem Q21.spec {D G I J a1 : Int} {r : Int × Int × Int × Int} (j : Q21.f D G I J a1 = some r) :
 Spec Tryz.prog 38 [.agg #[.int .u64 D, .int .u64 G, .int .u64 I, .int .u64 J], i6 a1] R (Fr) (fun v l' => v = .agg #[.int .u64 r.1, .int .u64 r.2.1, .int .u64 r.2.2.1, .int .u64 r.2.2.2] ∧ Fr = l') := by
 refine Spec.of Tryz.func38 rfl rfl ?_; unfold Q21.f at j; have j := brun j; refine At.seq (At.region ?_); refine At.box rfl rfl (cs := [.int .u64 D, .int .u64 G, .int .u64 I, .int .u64 J]) rfl rfl (fun a0 => ?_); refine At.alloc rfl rfl rfl (fun a2 => ?_); refine nT (At.seq (sR 3 rfl ?_)); obtain ⟨a5, a6, b5, j⟩ := bjoin j; let T1 : HProp := pt a2 (.cells ([.int .u64 0, .int .u64 0, .int .u64 0, .int .u64 0] : List Value).toArray 43); let T2 : HProp := pc a0 [.int .u64 D, .int .u64 G, .int .u64 I, .int .u64 J] 43; refine At.joinO 3 (X := Bool) (fun u => [(1, i6 a1), (2, bp a0), (4, bp a2), (10, .bool u)]) (fun u => T1 :: T2 :: Fr) (fun u => a5 (.inl u) = some r) ?_ (fun a3 => ?_)
 ·rintro u j; have j := (a6 _).symm.trans j
  ·refine nT ?_; rcases bite j with ⟨L, j⟩ | ⟨L, j⟩
   ··refine At.condT rfl L ?_
     refine At.region (At.run 1 rfl (At.y (Y.shr rfl rfl (by decide)) rfl rfl rfl ?_)); obtain ⟨p, j⟩ := bnone j; rcases bite j with ⟨O, j⟩ | ⟨O, j⟩
     ··refine At.y (Y.ixArrK rfl rfl rfl rfl rfl p.1 p.2 (q := 0) (off := 0) O rfl) rfl rfl rfl ?_
       refine At.y (Y.load rfl rfl (.s .z) rfl rfl rfl) rfl rfl rfl (At.run 3 rfl ?_); obtain ⟨a7, j⟩ := bnone j; refine At.y (Y.shl rfl rfl a7) rfl rfl rfl (At.run 1 rfl (At.y (Y.ixArrK rfl rfl rfl rfl rfl p.1 p.2 (q := 0) (off := 0) O rfl) rfl rfl rfl ?_)); refine At.store rfl rfl rfl rfl (.s .z) rfl rfl rfl (.c .n) ?_; refine nT (At.seq (At.region (At.y (Y.load rfl rfl .z rfl rfl rfl) rfl rfl rfl ?_))); refine At.store rfl rfl rfl rfl (.s .z) rfl rfl rfl (.c (.c (.c (.c .n)))) ?_; refine nT (At.ret ?_); refine At.resM (.inl rfl) rfl (RV.cell rfl rfl .z rfl rfl rfl RV.nil) ?_; refine At.drop .z (At.drop .z ?_); cases bret j; exact fun a w e hs => ⟨_, ⟨rfl, rfl⟩, hs⟩
     ··rcases bite j with ⟨U, j⟩ | ⟨U, j⟩
       ··refine At.y (Y.ixArrK rfl rfl rfl rfl rfl p.1 p.2 (q := 1) (off := 1) U rfl) rfl rfl rfl ?_
         refine At.y (Y.load rfl rfl (.s .z) rfl rfl rfl) rfl rfl rfl (At.run 3 rfl ?_); obtain ⟨a8, j⟩ := bnone j; refine At.y (Y.shl rfl rfl a8) rfl rfl rfl (At.run 1 rfl (At.y (Y.ixArrK rfl rfl rfl rfl rfl p.1 p.2 (q := 1) (off := 1) U rfl) rfl rfl rfl ?_)); refine At.store rfl rfl rfl rfl (.s .z) rfl rfl rfl (.s (.c .n)) ?_; refine nT (At.seq (At.region (At.y (Y.load rfl rfl .z rfl rfl rfl) rfl rfl rfl ?_))); refine At.store rfl rfl rfl rfl (.s .z) rfl rfl rfl (.c (.c (.c (.c .n)))) ?_; refine nT (At.ret ?_); refine At.resM (.inl rfl) rfl (RV.cell rfl rfl .z rfl rfl rfl RV.nil) ?_; refine At.drop .z (At.drop .z ?_); cases bret j; exact fun a w e hs => ⟨_, ⟨rfl, rfl⟩, hs⟩
       ··rcases bite j with ⟨V, j⟩ | ⟨V, j⟩
         ··refine At.y (Y.ixArrK rfl rfl rfl rfl rfl p.1 p.2 (q := 2) (off := 2) V rfl) rfl rfl rfl ?_
           refine At.y (Y.load rfl rfl (.s .z) rfl rfl rfl) rfl rfl rfl (At.run 3 rfl ?_); obtain ⟨a9, j⟩ := bnone j; refine At.y (Y.shl rfl rfl a9) rfl rfl rfl (At.run 1 rfl (At.y (Y.ixArrK rfl rfl rfl rfl rfl p.1 p.2 (q := 2) (off := 2) V rfl) rfl rfl rfl ?_)); refine At.store rfl rfl rfl rfl (.s .z) rfl rfl rfl (.s (.s (.c .n))) ?_; refine nT (At.seq (At.region (At.y (Y.load rfl rfl .z rfl rfl rfl) rfl rfl rfl ?_))); refine At.store rfl rfl rfl rfl (.s .z) rfl rfl rfl (.c (.c (.c (.c .n)))) ?_; refine nT (At.ret ?_); refine At.resM (.inl rfl) rfl (RV.cell rfl rfl .z rfl rfl rfl RV.nil) ?_; refine At.drop .z (At.drop .z ?_); cases bret j; exact fun a w e hs => ⟨_, ⟨rfl, rfl⟩, hs⟩
         ··have a4 : (Bw.shr .i64 a1 6) = 3 := by have h1_ := p; omega
           refine At.y (Y.ixArrK rfl rfl rfl rfl rfl p.1 p.2 (q := 3) (off := 3) a4 rfl) rfl rfl rfl (At.y (Y.load rfl rfl (.s .z) rfl rfl rfl) rfl rfl rfl (At.run 3 rfl ?_)); obtain ⟨b4, j⟩ := bnone j; refine At.y (Y.shl rfl rfl b4) rfl rfl rfl (At.run 1 rfl (At.y (Y.ixArrK rfl rfl rfl rfl rfl p.1 p.2 (q := 3) (off := 3) a4 rfl) rfl rfl rfl ?_)); refine At.store rfl rfl rfl rfl (.s .z) rfl rfl rfl (.s (.s (.s (.c .n)))) ?_; refine nT (At.seq (At.region (At.y (Y.load rfl rfl .z rfl rfl rfl) rfl rfl rfl ?_))); refine At.store rfl rfl rfl rfl (.s .z) rfl rfl rfl (.c (.c (.c (.c .n)))) ?_; refine nT (At.ret ?_); refine At.resM (.inl rfl) rfl (RV.cell rfl rfl .z rfl rfl rfl RV.nil) ?_; refine At.drop .z (At.drop .z ?_); cases bret j; exact fun a w e hs => ⟨_, ⟨rfl, rfl⟩, hs⟩
   ··refine At.condF rfl (bn L) ?_
     refine At.skip (At.thn (At.seq (At.region (At.y (Y.load rfl rfl (.s .z) rfl rfl rfl) rfl rfl rfl ?_)))); refine At.store rfl rfl rfl rfl .z rfl rfl rfl (.c (.c (.c (.c .n)))) ?_; refine nT (At.ret ?_); refine At.resM (.inl rfl) rfl (RV.cell rfl rfl .z rfl rfl rfl RV.nil) ?_; refine At.drop .z (At.drop .z ?_); cases bret j; exact fun a w e hs => ⟨_, ⟨rfl, rfl⟩, hs⟩
 ··rcases bite j with ⟨Z, j⟩ | ⟨Z, j⟩
   ··refine At.know (t := 7) rfl (decide_eq_true Z) ?_
     refine At.run 3 rfl ?_; exact At.of (a3 (decide (a1 < 256)) j) ⟨rfl, rfl, rfl, rfl, trivial⟩
   ··refine At.know (t := 7) rfl (decide_eq_false Z) ?_
     refine At.run 3 rfl ?_; exact At.of (a3 false j) ⟨rfl, rfl, rfl, rfl, trivial⟩

noncomputable def Q51.l0b (a0 : List Int) (u D G I p : Int) : Option ((Int × Int × Int × Int × Int) ⊕ ((Int × Int × Int × Int) ⊕ (Int × Int × Int × Int))) :=
 if p < (a0.length : Int) then
 if (0 : Int) ≤ p ∧ p < (a0.length : Int) then
 (Q21.f u D G I (gt a0 p)).bind fun q =>
 nx (q.1, q.2.1, q.2.2.1, q.2.2.2, IntKind.i64.wrap (p + 1))
 else none
 else
 dn (.inl (u, D, G, I))
noncomputable def Q51.l0 (a0 : List Int) (p q u D G : Int) : Option ((Int × Int × Int × Int) ⊕ (Int × Int × Int × Int)) := iter (fun t_ : Int × Int × Int × Int × Int => Q51.l0b a0 t_.1 t_.2.1 t_.2.2.1 t_.2.2.2.1 t_.2.2.2.2) (p, q, u, D, G)
noncomputable def Q51.f (a0 : List Int) : Option (Int × Int × Int × Int) :=
 jn (Q51.l0 a0 0 0 0 0 0) (fun (s_ : Int × Int × Int × Int) =>
 some (s_.1, s_.2.1, s_.2.2.1, s_.2.2.2))
theorem Q51.callee : Callee Tryz.prog 60 := ⟨_, Tryz.func60, by kernel_rfl, by kernel_rfl⟩
theorem Q51.spec {a0 : List Int} (hr0 : RdS (Fl.int .i64).rep R.heap A0 a0) (hn0 : a0.length = n0) (hc0 : n0 ≤ c0) {r : Int × Int × Int × Int} (j : Q51.f a0 = some r) :
 Spec Tryz.prog 60 [.slice A0 n0 c0] R (Fr) (fun v l' => v = .agg #[.int .u64 r.1, .int .u64 r.2.1, .int .u64 r.2.2.1, .int .u64 r.2.2.2] ∧ Fr = l') := by
 subst hn0; refine Spec.of Tryz.func60 rfl rfl ?_; unfold Q51.f at j; have j := brun j; refine At.seq (At.region ?_); refine At.alloc rfl rfl rfl (fun I => ?_); refine nT (At.seq (At.region ?_)); refine At.alloc rfl rfl rfl (fun u => ?_); refine nT (At.seq (sR 3 rfl (nT ?_))); refine At.block ?_; obtain ⟨a4, a5, b5, j⟩ := bjoin j; obtain ⟨U, J, a6⟩ := bsome j; clear j; unfold Q51.l0 at J; obtain ⟨L, p⟩ := Q16.1 J; clear J; let T3 : HProp := pt I (.cells ([.int .u64 0, .int .u64 0, .int .u64 0, .int .u64 0] : List Value).toArray 43); refine At.loopJ (X := Int × Int × Int × Int × Int) (Y := Int × Int × Int × Int) (e0 := 0) (fun s_ => [(2, bp I), (3, bp u), (6, .slice A0 a0.length c0), (7, i6 (a0.length : Int)), (8, i6 s_.2.2.2.2)]) (fun s_ => pc u [.int .u64 s_.1, .int .u64 s_.2.1, .int .u64 s_.2.2.1, .int .u64 s_.2.2.2.1] 43 :: T3 :: Fr) (fun m_ => fun s_ => iterN (fun t_ : Int × Int × Int × Int × Int => Q51.l0b a0 t_.1 t_.2.1 t_.2.2.1 t_.2.2.2.1 t_.2.2.2.2) m_ (s_.1, s_.2.1, s_.2.2.1, s_.2.2.2.1, s_.2.2.2.2) = some U) L (0, 0, 0, 0, 0) p (fun s_ => [(2, bp I), (3, bp u)]) (fun s_ => pc u [.int .u64 s_.1, .int .u64 s_.2.1, .int .u64 s_.2.2.1, .int .u64 s_.2.2.2] 43 :: T3 :: Fr) (fun s_ => a4 (.inl (s_.1, s_.2.1, s_.2.2.1, s_.2.2.2)) = some r) (fun a w e hs => ⟨e.sub ⟨rfl, rfl, rfl, rfl, rfl, trivial⟩, (by exact hs)⟩) ?_ (fun a7 => ?_)
 ·rintro ⟨b6, b7, b8, b9⟩ j; have j := (a5 _).symm.trans j
  ·refine At.ibx ?_; refine At.thn (At.seq (At.region (At.y (Y.load rfl rfl .z rfl rfl rfl) rfl rfl rfl ?_))); refine At.store rfl rfl rfl rfl (.s .z) rfl rfl rfl (.c (.c (.c (.c .n)))) ?_; refine nT (At.ret ?_); refine At.resM (.inl rfl) rfl (RV.cell rfl rfl .z rfl rfl rfl RV.nil) ?_; refine At.drop .z (At.drop .z ?_); cases bret j; exact fun a w e hs => ⟨_, ⟨rfl, rfl⟩, hs⟩
 ·clear p L; rintro L ⟨V, Z, a1, a2, a3⟩ p; obtain ⟨a8, f_, a9, hf_, j⟩ := bit p; clear p; have j : (Q51.l0b a0 V Z a1 a2 a3).bind _ = some U := j; unfold Q51.l0b at j
  ·refine sR 1 rfl (nT (At.seq ?_)); rcases bite j with ⟨O, j⟩ | ⟨O, j⟩
   ··refine At.condT rfl (decide_eq_true O) ?_
     refine At.skip (At.thn (At.seq ?_)); refine At.block ?_; refine At.seq (At.region ?_); obtain ⟨D, j⟩ := bnone j; refine At.y (Y.ixRd hr0 rfl rfl rfl rfl rfl rfl rfl D.1 D.2) rfl rfl rfl (At.y (Y.ldFl hr0 rfl (q := 0) rfl rfl D.1 D.2 rfl rfl rfl) rfl rfl rfl (At.run 1 rfl (nT (At.region (At.y (Y.load rfl rfl .z rfl rfl rfl) rfl rfl rfl (At.run 1 rfl ?_)))))); obtain ⟨G, b4, j⟩ := bbind j; refine At.call rfl Q21.callee rfl rfl rfl (Q21.spec b4) ?_; rintro _ _ ⟨rfl, rfl⟩; refine At.store rfl rfl rfl rfl .z rfl rfl rfl (.c (.c (.c (.c .n)))) ?_; refine At.nil ?_; refine At.ibn ?_; refine At.thn (At.region (At.run 2 rfl (At.nil ?_))); have j := bnx hf_ j; exact fun a w e hs => ⟨a8, (G.1, G.2.1, G.2.2.1, G.2.2.2, IntKind.i64.wrap (a3 + 1)), a9, j, e.sub ⟨rfl, rfl, rfl, rfl, rfl, trivial⟩, hs⟩
   ··refine At.condF rfl (decide_eq_false O) ?_
     refine At.exit ?_; refine At.the ?_; refine At.the ?_; exact fun a w e hs => a7 (V, Z, a1, a2) (bdn j a6) a w (e.sub ⟨rfl, rfl, trivial⟩) hs

noncomputable def Q17.l2b (D : List Bs) (p : List Q1) (q : Int) (G : List (Q7 × Q0)) (u : Int) : Option (((List (Q7 × Q0)) × Int) ⊕ (((List (Q7 × Q0))) ⊕ (((List (Q7 × Q0)) × Int) ⊕ (((List (Q7 × Q0))) ⊕ ((Option Q3)))))) :=
 if u < (([(gt D ((gt p q).Action)), ([45] : Bs)] : List Bs).length : Int) then
 if (0 : Int) ≤ u ∧ u < (([(gt D ((gt p q).Action)), ([45] : Bs)] : List Bs).length : Int) then
 (Q21.f (((mget G (⟨(gt p q).From, gt ([(gt D ((gt p q).Action)), ([45] : Bs)] : List Bs) u⟩ : Q7)).getD (⟨(0 : Int), (0 : Int), (0 : Int), (0 : Int)⟩ : Q0)).c0) (((mget G (⟨(gt p q).From, gt ([(gt D ((gt p q).Action)), ([45] : Bs)] : List Bs) u⟩ : Q7)).getD (⟨(0 : Int), (0 : Int), (0 : Int), (0 : Int)⟩ : Q0)).c1) (((mget G (⟨(gt p q).From, gt ([(gt D ((gt p q).Action)), ([45] : Bs)] : List Bs) u⟩ : Q7)).getD (⟨(0 : Int), (0 : Int), (0 : Int), (0 : Int)⟩ : Q0)).c2) (((mget G (⟨(gt p q).From, gt ([(gt D ((gt p q).Action)), ([45] : Bs)] : List Bs) u⟩ : Q7)).getD (⟨(0 : Int), (0 : Int), (0 : Int), (0 : Int)⟩ : Q0)).c3) ((gt p q).To)).bind fun I =>
 nx ((mset G (⟨(gt p q).From, gt ([(gt D ((gt p q).Action)), ([45] : Bs)] : List Bs) u⟩ : Q7) (⟨I.1, I.2.1, I.2.2.1, I.2.2.2⟩ : Q0)), IntKind.i64.wrap (u + 1))
 else none
 else
 dn (.inl G)
noncomputable def Q17.l2 (p : List Bs) (q : List Q1) (u : Int) (D : List (Q7 × Q0)) (G : Int) : Option (((List (Q7 × Q0))) ⊕ (((List (Q7 × Q0)) × Int) ⊕ (((List (Q7 × Q0))) ⊕ ((Option Q3))))) := iter (fun t_ : (List (Q7 × Q0)) × Int => Q17.l2b p q u t_.1 t_.2) (D, G)
noncomputable def Q17.l1b (u : List Bs) (q : List Q1) (D : List (Q7 × Q0)) (p : Int) : Option (((List (Q7 × Q0)) × Int) ⊕ (((List (Q7 × Q0))) ⊕ ((Option Q3)))) :=
 if p < (q.length : Int) then
 if (0 : Int) ≤ p ∧ p < (q.length : Int) then
 if (0 : Int) ≤ (gt q p).Action ∧ (gt q p).Action < (u.length : Int) then
 jn (Q17.l2 u q p D 0) (fun (G : List (Q7 × Q0)) =>
 nx (G, IntKind.i64.wrap (p + 1)))
 else none
 else none
 else
 dn (.inl D)
noncomputable def Q17.l1 (p : List Bs) (q : List Q1) (u : List (Q7 × Q0)) (D : Int) : Option (((List (Q7 × Q0))) ⊕ ((Option Q3))) := iter (fun t_ : (List (Q7 × Q0)) × Int => Q17.l1b p q t_.1 t_.2) (u, D)
noncomputable def Q17.l0b (q : List Q2) (D : List (Bs × Q0)) (p : Int) : Option (((List (Bs × Q0)) × Int) ⊕ (((List (Bs × Q0))) ⊕ ((Option Q3)))) :=
 if p < (q.length : Int) then
 if (0 : Int) ≤ p ∧ p < (q.length : Int) then
 (Q51.f ((gt q p).States)).bind fun u =>
 nx ((mset D ((gt q p).Name) (⟨u.1, u.2.1, u.2.2.1, u.2.2.2⟩ : Q0)), IntKind.i64.wrap (p + 1))
 else none
 else
 dn (.inl D)
noncomputable def Q17.l0 (p : List Q2) (q : List (Bs × Q0)) (u : Int) : Option (((List (Bs × Q0))) ⊕ ((Option Q3))) := iter (fun t_ : (List (Bs × Q0)) × Int => Q17.l0b p t_.1 t_.2) (q, u)
noncomputable def Q17.f (p : Int) (q : List Bs) (u : List Q1) (D : List Q2) : Option (Option Q3) :=
 (Q27.f p q u D).bind fun G =>
 if G = true then
 jn (Q17.l0 D ([] : List (Bs × Q0)) 0) (fun (I : List (Bs × Q0)) =>
 jn (Q17.l1 q u ([] : List (Q7 × Q0)) 0) (fun (J : List (Q7 × Q0)) =>
 some (some (⟨p, I, J⟩ : Q3))))
 else
 some none
theorem Q17.callee : Callee Tryz.prog 19 := ⟨_, Tryz.func19, by kernel_rfl, by kernel_rfl⟩
theorem Q17.spec {I : Int} {D : List Bs} {p : List Q1} {G : List Q2} (hr0_1 : RdS Fl.bs.rep R.heap A0_1 D) (hn0_1 : D.length = n0_1) (hc0_1 : n0_1 ≤ c0_1) (hr0_2 : RdS Q1.fl.rep R.heap A0_2 p) (hn0_2 : p.length = n0_2) (hc0_2 : n0_2 ≤ c0_2) (hr0_3 : RdS Q2.rep R.heap A0_3 G) (hn0_3 : G.length = n0_3) (hc0_3 : n0_3 ≤ c0_3) {r : (Option Q3)} (j : Q17.f I D p G = some r) :
 Spec Tryz.prog 19 [.agg #[i6 I, .slice A0_1 n0_1 c0_1, .slice A0_2 n0_2 c0_2, .slice A0_3 n0_3 c0_3]] R (Fr) (fun v l' => ∃ (d8 : Option Nat), v = optp d8 ∧ optb Q3.ow 91 d8 r :: Fr = l') := by
 subst hn0_1; subst hn0_2; subst hn0_3; refine Spec.of Tryz.func19 rfl rfl ?_; unfold Q17.f at j; have j := brun j; refine At.seq (At.region ?_); refine At.box rfl rfl (cs := [i6 I, .slice A0_1 D.length c0_1, .slice A0_2 p.length c0_2, .slice A0_3 G.length c0_3]) rfl rfl (fun a1 => ?_); refine At.run 1 rfl (nT (At.seq (At.seq (At.region (At.y (Y.load rfl rfl .z rfl rfl rfl) rfl rfl rfl ?_))))); obtain ⟨h8, e5, j⟩ := bbind j; refine At.call rfl Q27.callee rfl rfl rfl (Q27.spec hr0_1 rfl hc0_1 hr0_2 rfl hc0_2 hr0_3 rfl hc0_3 e5) ?_; rintro _ _ ⟨rfl, rfl⟩; refine At.run 1 rfl (nT ?_); rcases bite j with ⟨b6, j⟩ | ⟨b6, j⟩
 ··refine At.condF rfl (nf b6) ?_
   refine At.skip (At.thn (sR 1 rfl (At.y (Y.load rfl rfl .z rfl rfl rfl) rfl rfl rfl ?_))); refine At.makeMap Fl.bs.ov Q0.fl.av rfl rfl (fun Z => ?_); refine At.makeMap Q7.fl.av Q0.fl.av rfl rfl (fun J => ?_); refine At.y (Y.build (is := [0, 1, 2]) (xo := [.tmp 15, .tmp 16, .tmp 17]) (vs := [i6 I, .map (some Z), .map (some J)]) (cs := [i6 I, .map (some Z), .map (some J)]) rfl rfl rfl rfl rfl rfl) rfl rfl rfl ?_; refine At.box rfl rfl (cs := [i6 I, .map (some Z), .map (some J)]) rfl rfl (fun L => ?_); refine At.run 1 rfl (nT (At.seq (sR 1 rfl (At.y (Y.load rfl rfl (.s (.s (.s .z))) rfl rfl rfl) rfl rfl rfl ?_)))); refine At.run 2 rfl (nT ?_); refine At.block ?_; obtain ⟨e6, e7, h9, j⟩ := bjoin j; obtain ⟨d9, b7, e8⟩ := bsome j; clear j; unfold Q17.l0 at b7; obtain ⟨b8, a5⟩ := Q16.1 b7; clear b7; let T4 : HProp := pc L [i6 I, .map (some Z), .map (some J)] 91; let T5 : HProp := mapo Q7.fl.av Q0.fl.av J ([] : List (Q7 × Q0)); let T6 : HProp := pc a1 [i6 I, .slice A0_1 D.length c0_1, .slice A0_2 p.length c0_2, .slice A0_3 G.length c0_3] 26; refine At.loopJ (X := (List (Bs × Q0)) × Int) (Y := (List (Bs × Q0))) (e0 := 0) (fun s_ => [(1, bp a1), (3, bp L), (21, .slice A0_3 G.length c0_3), (22, i6 (G.length : Int)), (23, i6 s_.2)]) (fun s_ => T4 :: T5 :: mapo Fl.bs.ov Q0.fl.av Z s_.1 :: T6 :: Fr) (fun m_ => fun s_ => iterN (fun t_ : (List (Bs × Q0)) × Int => Q17.l0b G t_.1 t_.2) m_ (s_.1, s_.2) = some d9) b8 (([] : List (Bs × Q0)), 0) a5 (fun a0 => [(1, bp a1), (3, bp L)]) (fun a0 => T4 :: T5 :: mapo Fl.bs.ov Q0.fl.av Z a0 :: T6 :: Fr) (fun a0 => e6 (.inl a0) = some r) (fun a w e hs => ⟨e.sub ⟨rfl, rfl, rfl, rfl, rfl, trivial⟩, (by exact hs)⟩) ?_ (fun e9 => ?_)
   ·rintro a0 j; have j := (e7 _).symm.trans j
    ·refine At.ibx ?_; refine At.thn (At.seq (sR 1 rfl (At.y (Y.load rfl rfl (.s (.s (.s .z))) rfl rfl rfl) rfl rfl rfl (At.run 2 rfl (At.nil ?_))))); refine At.thn ?_; refine At.block ?_; obtain ⟨f0, f4, k0, j⟩ := bjoin j; obtain ⟨b9, c8, f6⟩ := bsome j; clear j; unfold Q17.l1 at c8; obtain ⟨c9, a6⟩ := Q16.1 c8; clear c8; let T7 : HProp := mapo Fl.bs.ov Q0.fl.av Z a0; refine At.loopJ (X := (List (Q7 × Q0)) × Int) (Y := (List (Q7 × Q0))) (e0 := 2) (fun s_ => [(1, bp a1), (3, bp L), (38, .slice A0_2 p.length c0_2), (39, i6 (p.length : Int)), (40, i6 s_.2)]) (fun s_ => T4 :: mapo Q7.fl.av Q0.fl.av J s_.1 :: T7 :: T6 :: Fr) (fun m_ => fun s_ => iterN (fun t_ : (List (Q7 × Q0)) × Int => Q17.l1b D p t_.1 t_.2) m_ (s_.1, s_.2) = some b9) c9 (([] : List (Q7 × Q0)), 0) a6 (fun a2 => [(3, bp L)]) (fun a2 => T4 :: mapo Q7.fl.av Q0.fl.av J a2 :: T7 :: T6 :: Fr) (fun a2 => f0 (.inl a2) = some r) (fun a w e hs => ⟨e.sub ⟨rfl, rfl, rfl, rfl, rfl, trivial⟩, (by exact hs)⟩) ?_ (fun f7 => ?_)
     ·rintro a2 j; have j := (f4 _).symm.trans j
      ·refine At.ibx ?_; refine At.thn (sR 2 rfl (nT (At.ret (At.f1 ?_)))); refine At.f2 (At.f2 ?_); refine At.optSome (x := (⟨I, a0, a2⟩ : Q3)) Q3.ent ?_; refine At.drop (.s .z) ?_; cases bret j; exact At.res (.inl rfl) rfl rfl ⟨(some L), rfl, rfl⟩
     ·clear a6 c9; rintro c9 ⟨d0, u⟩ a6; obtain ⟨f8, f_, f9, hf_, j⟩ := bit a6; clear a6; have j : (Q17.l1b D p d0 u).bind _ = some b9 := j; unfold Q17.l1b at j
      ·refine sR 1 rfl (nT (At.seq ?_)); rcases bite j with ⟨d1, j⟩ | ⟨d1, j⟩
       ··refine At.condT rfl (decide_eq_true d1) ?_
         refine At.skip (At.thn (At.seq ?_)); refine At.block ?_; refine At.seq (At.region ?_); obtain ⟨a8, j⟩ := bnone j; refine At.y (Y.ixRd hr0_2 rfl rfl rfl rfl rfl rfl rfl a8.1 a8.2) rfl rfl rfl (At.y (Y.ldFl hr0_2 rfl (q := 0) rfl rfl a8.1 a8.2 rfl rfl rfl) rfl rfl rfl ?_); refine At.alloc rfl rfl rfl (fun e1 => ?_); refine At.store rfl rfl rfl rfl .z rfl rfl rfl (.c (.c (.c .n))) ?_; refine nT (sR 1 rfl ?_); refine At.y (Y.load rfl rfl (.s (.s (.s (.s .z)))) rfl rfl rfl) rfl rfl rfl ?_; refine At.run 1 rfl (At.y (Y.load rfl rfl .z rfl rfl rfl) rfl rfl rfl ?_); obtain ⟨a9, j⟩ := bnone j; refine At.y (Y.ixRd hr0_1 rfl rfl rfl rfl rfl rfl rfl a9.1 a9.2) rfl rfl rfl (At.y (Y.ldFl hr0_1 rfl (q := 0) rfl rfl a9.1 a9.2 rfl rfl rfl) rfl rfl rfl ?_); refine At.lit rfl (xo := [.tmp 49, .const (.string ⟨#[45]⟩)]) (ys := ([(gt D ((gt p u).Action)), ([45] : Bs)] : List Bs)) Fl.bs rfl rfl rfl rfl rfl rfl rfl rfl rfl rfl rfl (fun e2 e3 => ?_); refine At.run 2 rfl (nT ?_); refine At.block ?_; obtain ⟨g0, g1, k1, j⟩ := bjoin j; obtain ⟨e4, d2, g2⟩ := bsome j; clear j; unfold Q17.l2 at d2; obtain ⟨d3, a7⟩ := Q16.1 d2; clear d2; let T8 : HProp := row Fl.bs 9 e2 (([(gt D ((gt p u).Action)), ([45] : Bs)] : List Bs).length) e3 ([(gt D ((gt p u).Action)), ([45] : Bs)] : List Bs); let T9 : HProp := pc e1 [i6 ((gt p u).From), i6 ((gt p u).Action), i6 ((gt p u).To)] 35; refine At.loopJ (X := (List (Q7 × Q0)) × Int) (Y := (List (Q7 × Q0))) (e0 := 4) (fun s_ => [(1, bp a1), (3, bp L), (7, bp e1), (38, .slice A0_2 p.length c0_2), (39, i6 (p.length : Int)), (40, i6 u), (50, .slice e2 (([(gt D ((gt p u).Action)), ([45] : Bs)] : List Bs).length) e3), (51, i6 (([(gt D ((gt p u).Action)), ([45] : Bs)] : List Bs).length : Int)), (52, i6 s_.2)]) (fun s_ => T8 :: T9 :: T4 :: mapo Q7.fl.av Q0.fl.av J s_.1 :: T7 :: T6 :: Fr) (fun m_ => fun s_ => iterN (fun t_ : (List (Q7 × Q0)) × Int => Q17.l2b D p u t_.1 t_.2) m_ (s_.1, s_.2) = some e4) d3 (d0, 0) a7 (fun a3 => [(1, bp a1), (3, bp L), (38, .slice A0_2 p.length c0_2), (39, i6 (p.length : Int)), (40, i6 u)]) (fun a3 => T8 :: T9 :: T4 :: mapo Q7.fl.av Q0.fl.av J a3 :: T7 :: T6 :: Fr) (fun a3 => g0 (.inl a3) = some b9) (fun a w e hs => ⟨e.sub ⟨rfl, rfl, rfl, rfl, rfl, rfl, rfl, rfl, rfl, trivial⟩, (by exact hs)⟩) ?_ (fun g3 => ?_)
         ·rintro a3 j; have j := (g1 _).symm.trans j
          ·refine At.ibx ?_; refine At.ibn ?_; refine At.thn (At.region (At.run 2 rfl (At.nil (At.drop .z (At.drop .z ?_))))); have j := bnx hf_ j; exact fun a w e hs => ⟨f8, (a3, IntKind.i64.wrap (u + 1)), f9, j, e.sub ⟨rfl, rfl, rfl, rfl, rfl, trivial⟩, hs⟩
         ·clear a7 d3; rintro d3 ⟨d4, O⟩ a7; obtain ⟨g4, f_, g5, hf_, j⟩ := bit a7; clear a7; have j : (Q17.l2b D p u d4 O).bind _ = some e4 := j; unfold Q17.l2b at j
          ·refine sR 1 rfl (nT (At.seq ?_)); rcases bite j with ⟨d5, j⟩ | ⟨d5, j⟩
           ··refine At.condT rfl (decide_eq_true d5) ?_
             refine At.skip (At.thn (At.seq ?_)); refine At.block ?_; refine At.seq (At.region ?_); obtain ⟨b4, j⟩ := bnone j; refine At.y (Y.ix .z rfl rfl rfl rfl rfl rfl b4.1 b4.2) rfl rfl rfl (At.y (Y.ld .z (q := 0) rfl rfl b4.1 b4.2 rfl rfl rfl) rfl rfl rfl (At.run 1 rfl (nT (sR 1 rfl ?_)))); refine At.y (Y.load rfl rfl (.s .z) rfl rfl rfl) rfl rfl rfl (At.run 1 rfl ?_); refine At.y (Y.build (is := [0, 1]) (xo := [.tmp 57, .tmp 58]) (vs := [i6 ((gt p u).From), .string ⟨(gt ([(gt D ((gt p u).Action)), ([45] : Bs)] : List Bs) O).toArray⟩]) (cs := [i6 ((gt p u).From), .string ⟨(gt ([(gt D ((gt p u).Action)), ([45] : Bs)] : List Bs) O).toArray⟩]) rfl rfl rfl rfl rfl rfl) rfl rfl rfl ?_; refine At.alloc rfl rfl rfl (fun g6 => ?_); refine At.store rfl rfl rfl rfl .z rfl rfl rfl (.c (.c .n)) ?_; refine nT ?_; refine At.held [pc g6 [i6 ((gt p u).From), .string ⟨(gt ([(gt D ((gt p u).Action)), ([45] : Bs)] : List Bs) O).toArray⟩] 94, T8, T9, T4, T7, T6] 15 rfl ?_; refine At.H.pw 0 rfl rfl rfl rfl rfl (.c .z (.c .z (.c .z (.c .z (.c (.s .z) (.c (.s .z) .n)))))) ?_; refine At.H.pw 1 rfl rfl rfl rfl rfl (.c .z (.c .z (.c .z (.c .z (.c (.s .z) (.c (.s .z) .n)))))) ?_; refine At.H.pw 2 rfl rfl rfl rfl rfl (.c .z (.c .z (.c .z (.c .z (.c (.s .z) (.c (.s .z) .n)))))) ?_; refine At.H.tw 3 rfl (Y.load rfl rfl (.s (.s (.s .z))) rfl rfl rfl) rfl rfl rfl (.c .z (.c .z (.c .z (.c .z (.c (.s .z) (.c (.s .z) .n)))))) ?_; refine At.H.tw 4 rfl (Y.load rfl rfl .z rfl rfl rfl) rfl rfl rfl (.c .z (.c .z (.c .z (.c .z (.c (.s .z) (.c (.s .z) .n)))))) ?_; refine At.H.pw 5 rfl rfl rfl rfl rfl (.c .z (.c .z (.c .z (.c .z (.c (.s .z) (.c (.s .z) .n)))))) ?_; refine At.H.pw 6 rfl rfl rfl rfl rfl (.c .z (.c .z (.c .z (.c .z (.c (.s .z) (.c (.s .z) .n)))))) ?_; refine At.H.pw 7 rfl rfl rfl rfl rfl (.c .z (.c .z (.c .z (.c .z (.c (.s .z) (.c (.s .z) .n)))))) ?_; refine At.H.tw 8 rfl (Y.load rfl rfl (.s (.s (.s .z))) rfl rfl rfl) rfl rfl rfl (.c .z (.c .z (.c .z (.c .z (.c (.s .z) (.c (.s .z) .n)))))) ?_; refine At.H.tw 9 rfl (Y.load rfl rfl .z rfl rfl rfl) rfl rfl rfl (.c .z (.c .z (.c .z (.c .z (.c (.s .z) (.c (.s .z) .n)))))) ?_; refine At.H.pw 11 rfl rfl rfl rfl rfl (.c .z (.c .z (.c .z (.c .z (.c (.s .z) (.c (.s .z) .n)))))) ?_; refine At.H.tw 12 rfl (Y.load rfl rfl (.s (.s .z)) rfl rfl rfl) rfl rfl rfl (.c .z (.c .z (.c .z (.c .z (.c (.s .z) (.c (.s .z) .n)))))) ?_; refine At.H.al [10] (Q4 ?_ Q6)
             ··refine At.HO.op rfl ?_
               refine At.y (Y.lookup (k := (⟨(gt p u).From, gt ([(gt D ((gt p u).Action)), ([45] : Bs)] : List Bs) O⟩ : Q7)) (z := (⟨(0 : Int), (0 : Int), (0 : Int), (0 : Int)⟩ : Q0)) (.s (.s (.s (.s .z)))) rfl rfl Q7.keyok (by kernel_rfl) rfl rfl rfl) rfl rfl rfl ?_; refine At.HO.back (.c .z (.c .z (.c .z (.c .z (.c (.s .z) (.c (.s .z) .n)))))) ?_; refine At.H.al [13] (Q4 ?_ Q6)
               ··refine At.HO.op rfl ?_
                 obtain ⟨U, g7, j⟩ := bbind j; refine At.call rfl Q21.callee rfl rfl rfl (Q21.spec g7) ?_; rintro _ _ ⟨rfl, rfl⟩; refine At.HO.back (.c .z (.c .z (.c .z (.c .z (.c (.s .z) (.c (.s .z) .n)))))) ?_; refine At.H.al [14] (Q4 ?_ Q6)
                 ··refine At.HO.op rfl ?_
                   refine At.mapUpdate (k := (⟨(gt p u).From, gt ([(gt D ((gt p u).Action)), ([45] : Bs)] : List Bs) O⟩ : Q7)) (v := (⟨U.1, U.2.1, U.2.2.1, U.2.2.2⟩ : Q0)) rfl (.s (.s (.s (.s .z)))) rfl rfl Q7.keyok rfl rfl rfl rfl rfl ?_; refine At.HO.back (.c (.s .z) (.c (.s .z) (.c (.s .z) (.c (.s .z) (.c (.s .z) (.c (.s .z) .n)))))) ?_; refine At.H.done (by kernel_rfl) ?_; refine At.ibn ?_; refine At.thn (At.region (At.run 2 rfl (At.nil (At.drop (.s .z) (At.f5 (At.f5 (At.f2 ?_))))))); refine At.f5 (At.f5 (At.f5 ?_)); have j := bnx hf_ j; exact fun a w e hs => ⟨g4, ((mset d4 (⟨(gt p u).From, gt ([(gt D ((gt p u).Action)), ([45] : Bs)] : List Bs) O⟩ : Q7) (⟨U.1, U.2.1, U.2.2.1, U.2.2.2⟩ : Q0)), IntKind.i64.wrap (O + 1)), g5, j, e.sub ⟨rfl, rfl, rfl, rfl, rfl, rfl, rfl, rfl, rfl, trivial⟩, hs⟩
           ··refine At.condF rfl (decide_eq_false d5) ?_
             refine At.exit ?_; refine At.the ?_; refine At.the ?_; exact fun a w e hs => g3 d4 (bdn j g2) a w (e.sub ⟨rfl, rfl, rfl, rfl, rfl, trivial⟩) hs
       ··refine At.condF rfl (decide_eq_false d1) ?_
         refine At.exit ?_; refine At.the ?_; refine At.the ?_; exact fun a w e hs => f7 d0 (bdn j f6) a w (e.sub ⟨rfl, trivial⟩) hs
   ·clear a5 b8; rintro b8 ⟨d6, a4⟩ a5; obtain ⟨g8, f_, g9, hf_, j⟩ := bit a5; clear a5; have j : (Q17.l0b G d6 a4).bind _ = some d9 := j; unfold Q17.l0b at j
    ·refine sR 1 rfl (nT (At.seq ?_)); rcases bite j with ⟨d7, j⟩ | ⟨d7, j⟩
     ··refine At.condT rfl (decide_eq_true d7) ?_
       refine At.skip (At.thn (At.seq ?_)); refine At.block ?_; refine At.seq (At.region ?_); obtain ⟨b5, j⟩ := bnone j; refine At.y (Y.ixRd hr0_3 rfl rfl rfl rfl rfl rfl rfl b5.1 b5.2) rfl rfl rfl ?_; obtain ⟨k2, h0, h1⟩ := RdS.whole (P := Tryz.prog) hr0_3 (Sub.refl _) rfl b5.1 b5.2; obtain ⟨_, _, rfl, rfl, ⟨h2, h3, rfl, h4, h5⟩⟩ := h0; refine At.y (h1 rfl rfl rfl rfl) rfl rfl rfl ?_; refine At.alloc rfl rfl rfl (fun h6 => ?_); refine At.store rfl rfl rfl rfl .z rfl rfl rfl (.c (.c .n)) ?_; refine nT ?_; refine At.held [pc h6 [.string ⟨((gt G a4).Name).toArray⟩, .slice h2 ((gt G a4).States.length) h3] 37, T4, T5, T6] 10 rfl ?_; refine At.H.pw 0 rfl rfl rfl rfl rfl (.c .z (.c .z (.c .z (.c (.s .z) .n)))) ?_; refine At.H.pw 1 rfl rfl rfl rfl rfl (.c .z (.c .z (.c .z (.c (.s .z) .n)))) ?_; refine At.H.pw 2 rfl rfl rfl rfl rfl (.c .z (.c .z (.c .z (.c (.s .z) .n)))) ?_; refine At.H.tw 3 rfl (Y.load rfl rfl (.s .z) rfl rfl rfl) rfl rfl rfl (.c .z (.c .z (.c .z (.c (.s .z) .n)))) ?_; refine At.H.pw 4 rfl rfl rfl rfl rfl (.c .z (.c .z (.c .z (.c (.s .z) .n)))) ?_; refine At.H.tw 5 rfl (Y.load rfl rfl .z rfl rfl rfl) rfl rfl rfl (.c .z (.c .z (.c .z (.c (.s .z) .n)))) ?_; refine At.H.pw 6 rfl rfl rfl rfl rfl (.c .z (.c .z (.c .z (.c (.s .z) .n)))) ?_; refine At.H.tw 7 rfl (Y.load rfl rfl .z rfl rfl rfl) rfl rfl rfl (.c .z (.c .z (.c .z (.c (.s .z) .n)))) ?_; refine At.H.al [8] (Q4 ?_ Q6)
       ··refine At.HO.op rfl ?_
         obtain ⟨V, h7, j⟩ := bbind j; refine At.call rfl Q51.callee rfl rfl rfl (Q51.spec h5 rfl h4 h7) ?_; rintro _ _ ⟨rfl, rfl⟩; refine At.HO.back (.c .z (.c .z (.c .z (.c (.s .z) .n)))) ?_; refine At.H.al [9] (Q4 ?_ Q6)
         ··refine At.HO.op rfl ?_
           refine At.mapUpdate (k := ((gt G a4).Name)) (v := (⟨V.1, V.2.1, V.2.2.1, V.2.2.2⟩ : Q0)) rfl (.s (.s (.s .z))) rfl rfl (KeyOk.str rfl rfl) rfl rfl rfl rfl rfl ?_; refine At.HO.back (.c (.s .z) (.c (.s .z) (.c (.s .z) (.c (.s .z) .n)))) ?_; refine At.H.done (by kernel_rfl) ?_; refine At.ibn ?_; refine At.thn (At.region (At.run 2 rfl (At.nil (At.drop (.s .z) (At.f3 (At.f1 (At.f3 ?_))))))); refine At.f3 ?_; have j := bnx hf_ j; exact fun a w e hs => ⟨g8, ((mset d6 ((gt G a4).Name) (⟨V.1, V.2.1, V.2.2.1, V.2.2.2⟩ : Q0)), IntKind.i64.wrap (a4 + 1)), g9, j, e.sub ⟨rfl, rfl, rfl, rfl, rfl, trivial⟩, hs⟩
     ··refine At.condF rfl (decide_eq_false d7) ?_
       refine At.exit ?_; refine At.the ?_; refine At.the ?_; exact fun a w e hs => e9 d6 (bdn j e8) a w (e.sub ⟨rfl, rfl, trivial⟩) hs
 ··refine At.condT rfl (nt (bn b6)) ?_
   refine sR 1 rfl (nT (At.ret (At.thr ?_))); refine At.optNone Q3.ow 91 ?_; refine At.drop (.s .z) ?_; cases bret j; exact At.res (.inl rfl) rfl rfl ⟨none, rfl, rfl⟩




end Go.Bw
namespace Go.Bw
open Go Go.RowKit Go.Sort Go.Proofs Go.Shelf

def CmpOn {α : Type} (c : α → α → Option Int) (xs : List α) : Prop := ∃ p : α → Prop, (∃ x, p x) ∧ (∀ x ∈ xs, p x) ∧ CmpTot (fun x y : {x // p x} => c x.1 y.1)
def Fl.on {α : Type} (F : Fl α) (p : α → Prop) : Fl {x // p x} := ⟨F.sz, fun x => F.enc x.1, fun x => F.len x.1, fun x u hu => F.one x.1 u hu, F.pos⟩
theorem Q216 {α : Type} (F : Fl α) (p : α → Prop) : ∀ (xs : List {x // p x}), xs.flatMap (F.on p).enc = (xs.map (·.1)).flatMap F.enc
 | [] => rfl
 | x :: xs => by rw [List.flatMap_cons, List.map_cons, List.flatMap_cons, Q216 F p xs]; rfl
section
variable {P : Program} {ρ : Ren} {α : Type}
theorem Q341 (L : SlLaysF0.n6 P ρ) (F : Fl α) (aE : ∀ w, (isAgg (ρ.t 24)).run P w = .ok true w) (zE : ∀ w, (Go.sizeOf (ρ.t 24)).run P w = .ok F.sz w)
 (cf : α → α → Option Int) (gf : Nat) (eg : ∀ args w, (callFunc gf args).run P w = .ok (.enter gf args) w)
 (hcmp : ∀ R x y v, cf x y = some v → Spec P gf [.agg (F.enc x).toArray, .agg (F.enc y).toArray] R [] (fun u l' => u = .int .i64 v ∧ [] = l')) (R : Res) (l : List HProp) {e n c : Nat} {A : Option Addr} {xs : List α} (hb : xs.length < 4611686018427387904) (ho : CmpOn cf xs) :
 Spec P (ρ.f 6) [.slice A n c, .func (.func gf) #[] #[]] R (row F e A n c xs :: l) (fun v l' => v = .tuple #[] ∧ row F e A n c (byCmp cf xs) :: l = l') := by
 obtain ⟨p, ⟨x0, hx0⟩, hp, ht⟩ := ho
 haveI : Inhabited {x // p x} := ⟨⟨x0, hx0⟩⟩
 have hmap : (xs.attachWith p hp).map (·.1) = xs := by simp
 have key := Q298 (α := {x // p x}) L (F.on p) aE zE (gcf fun x y : {x // p x} => cf x.1 y.1) ht.1.2 ht.2 gf eg (fun R x y => hcmp R x.1 y.1 _ (gcf_eq ht.1 x y)) R l (e := e) (n := n) (c := c) (A := A) (xs := xs.attachWith p hp) (by simpa using hb)
 have r1 : row (F.on p) e A n c (xs.attachWith p hp) = row F e A n c xs := by
  unfold row
  rw [Q216, hmap]
  rfl
 have r2 : row (F.on p) e A n c ((xs.attachWith p hp).mergeSort fun x y => !(ltOf (gcf fun x y : {x // p x} => cf x.1 y.1)) y x) = row F e A n c (byCmp cf xs) := by
  unfold row
  rw [Q216]
  have : ((xs.attachWith p hp).mergeSort fun x y => !(ltOf (gcf fun x y : {x // p x} => cf x.1 y.1)) y x).map (·.1) = byCmp cf xs := by
   unfold byCmp
   have h := List.map_mergeSort (f := fun x : {x // p x} => x.1) (r := fun x y => !(ltOf (gcf fun x y : {x // p x} => cf x.1 y.1)) y x) (s := fun x y => !(ltOf (gcf cf)) y x) (l := xs.attachWith p hp) (fun a _ b _ => rfl)
   rw [h, hmap]
  rw [this]
  rfl
 rw [r1, r2] at key
 exact key
end
end Go.Bw
namespace Go.Bw
open Go Go.RowKit

section
variable {P : Program} [Tys P] {n : Nat} {ds : List Deferred} {R : Res} {env : List (Nat × Value)} {l : List HProp} {d ty t e : Nat} {pos : String} {af : Array Edge} {g : Option (Nat × Bool)} {dd : Option Nat}
theorem Y.ixTab {x y : Operand} {i : Int} {k kk : IntKind} {m b : Nat} {ii j : TI} (hi : ti P t = some ii) (hk : ii.k = .array m e) (hx : ev env x = some (.pointer (some ⟨b, 0, none⟩))) (hy : ev env y = some (.int k i)) (hj : ti P e = some j) (hjs : j.size = 1) (h0 : 0 ≤ i) (h1 : i < (m : Int)) :
 Y P n ds R env l ⟨dd, .indexAddr t x y, ty, pos, af, g⟩ (elp (some ⟨b, 0, none⟩) (i.toNat * (Fl.int kk).sz)) := fun a' w e0 hs => by
 have := Y.ixArr (P := P) (n := n) (ds := ds) (R := R) (l := l) (ty := ty) (pos := pos) (af := af) (g := g) (dd := dd) hi hk hx hy hj h0 h1 a' w e0 hs
 rw [hjs] at this
 exact this
end
theorem Q333 {W : World} {b : Nat} {k : IntKind} {tab : List Int} (h : ∀ i : Nat, i < tab.length → W.cell? ⟨b, i, none⟩ = some (.int k (tab.getD i 0))) : RdS (Fl.int k).rep (wh W) (some ⟨b, 0, none⟩) tab := fun i x hx => by
 have hi : i < tab.length := (List.getElem?_eq_some_iff.1 hx).1
 have hd : tab.getD i 0 = x := by rw [List.getD_eq_getElem?_getD, hx]; rfl
 refine ⟨_, _, rfl, rfl, fun j u hu => ?_⟩
 have hj : j = 0 := by
  have : j < 1 := (List.getElem?_eq_some_iff.1 hu).1
  omega
 subst hj
 have hu' : Value.int k x = u := by simpa [Fl.int] using hu
 subst hu'
 have hc := h i hi
 rw [hd] at hc
 simp only [World.cell?] at hc
 have ha : ((⟨b, 0, none⟩ : Addr).add (i * (Fl.int k).rep.sz)).add 0 = ⟨b, i, none⟩ := by
  rw [Q117, Q113]
  simp [show (Fl.int k).rep.sz = 1 from rfl]
 rw [ha]
 dsimp only at hc ⊢
 unfold wh
 cases hb : W.heap[b]? with
 | none => rw [hb] at hc; cases hc
 | some o =>
  rw [hb] at hc
  cases o with
  | cells arr ee fr => exact ⟨arr, ee, fr, rfl, rfl, by simpa using hc⟩
  | _ => simp at hc
end Go.Bw
namespace Go.Bw
open Go Go.RowKit

section
variable {α : Type} {P : Program} [Tys P] {os : List Oper} {Q : Exit → Act → World → Prop} {rest : List Oper} {n : Nat} {ds : List Deferred} {R : Res} {env : List (Nat × Value)} {l l' : List HProp}
variable {d ty t e : Nat} {pos : String} {af : Array Edge} {g : Option (Nat × Bool)}
theorem At.make0 (F : Fl α) {x y : Operand} {m : Int} {k k' : IntKind} {bytes : Nat} {ii j : TI} (hg : grd os env g = some true) (hi : ti P t = some ii) (hk : ii.k = .slice e) (hj : ti P e = some j) (hjs : j.size = F.sz) (hjb : j.bytes = bytes) (hjz : j.zero.length = j.size)
 (hx : ev env x = some (.int k 0)) (hy : ev env y = some (.int k' m)) (h0 : 0 ≤ m) (h1 : (bytes : Int) * m ≤ 281474976710656) (hb0 : 0 < bytes) (hd : Nat.blt d n = true)
 (h : ∀ A c, At n ds R ((d, .slice A ([] : List α).length c) :: env) (row F e A ([] : List α).length c ([] : List α) :: l) (wpList P os.toArray Q rest)) :
 At n ds R env l (wpList P os.toArray Q (⟨some d, .makeSlice t x y, ty, pos, af, g⟩ :: rest)) := Q78 hg rfl hd fun a w e0 hs => by
 obtain ⟨xi, zv, hxi, hsz, hby, hze, hzc⟩ := (Q11 hj).info
 have hm : m ≤ 9223372036854775807 := by
  have := Int.mul_le_mul_of_nonneg_right (show (1 : Int) ≤ (bytes : Int) by omega) h0
  omega
 have hm2 : m ≤ 281474976710656 := by
  have := Int.mul_le_mul_of_nonneg_right (show (1 : Int) ≤ (bytes : Int) by omega) h0
  omega
 have hr := run_make (P := P) w t e xi zv ((Q11 hi).slice hk) hxi hze k k' 0 m (Int.le_refl _) h0 (by rw [hby, hjb]; exact h1) hm
 refine ⟨.slice (some ⟨w.heap.size, 0, none⟩) 0 m.toNat, w.alloc (.cells (madeCells zv.cells (m.toNat * xi.size)) e), row F e (some ⟨w.heap.size, 0, none⟩) 0 m.toNat ([] : List α) :: l, ?_, ?_, h (some ⟨w.heap.size, 0, none⟩) m.toNat⟩
 ·simp only [execOp, e0.ev hx, e0.ev hy, Sem.run_bind, hr, Result.andThen, Sem.run_pure]; rfl
 ·refine (hs.alloc _).imp fun h' o => ?_
  refine ⟨by simp, .inr ⟨w.heap.size, _, rfl, o, by simp, by simp only [maxLen]; omega, ?_, by simp⟩⟩
  simp [madeCells, hsz, hjs]
end
end Go.Bw
namespace Go.Bw
open Go Go.RowKit

def eqfs (P : Program) [Tys P] (g : Nat → Value → Value → Option Bool) : List (Nat × Nat) → List Value → List Value → Option Bool
 | [], _, _ => some true
 | (ft, off) :: r, xs, ys => match partOf P ft off xs, partOf P ft off ys with
  | some a, some b => match g ft a b with
   | some p => (eqfs P g r xs ys).map (p && ·)
   | none => none
  | _, _ => none
def eqv (P : Program) [Tys P] : Nat → Nat → Value → Value → Option Bool
 | 0, _, _, _ => none
 | d + 1, t, x, y => match ti P t with
  | none => none
  | some j => match j.k, x, y with
   | .int _, .int k a, .int k' b => if k = k' then some (decide (a = b)) else none
   | .bool, .bool a, .bool b => some (a == b)
   | .string, .string a, .string b => some (seq a b)
   | .struct fs, .agg xs, .agg ys => if (named P t && !P.stoodInHeld t) = true then eqfs P (eqv P d) fs xs.toList ys.toList else none
   | .array n e, .agg xs, .agg ys => match ti P e with
    | some je => eqfs P (eqv P d) ((List.range n).map fun i => (e, i * je.size)) xs.toList ys.toList
    | none => none
   | _, _, _ => none
section
variable {P : Program} [Tys P] {w : World} {t : Nat}
theorem Q261 {g : Nat → Value → Value → Option Bool} {d : Nat} (hg : ∀ t x y r, g t x y = some r → (Op.equalIn d t x y).run P w = .ok r w) {xs ys : List Value} : ∀ {fl : List Field} {fs : List (Nat × Nat)} {r : Bool}, fl.map (fun f => (f.type, f.offset)) = fs → fl.all (fun f => f.name != "_") = true → eqfs P g fs xs ys = some r →
 (Op.eqFields d xs.toArray ys.toArray fl).run P w = .ok r w
 | [], _, r, rfl, _, h => by cases h; simp [Op.eqFields]
 | f :: fl, _, r, rfl, hn, h => by
  simp only [List.all_cons, Bool.and_eq_true] at hn
  have hn' : f.name ≠ "_" := by simpa using hn.1
  simp only [List.map_cons, eqfs] at h
  split at h
  ·rename_i a b hx hy
   split at h
   ·rename_i p hp
    obtain ⟨q, hq, rfl⟩ := Option.map_eq_some_iff.1 h
    have ih := Q261 hg rfl hn.2 hq
    have h0 := hg _ _ _ _ hp
    rw [Op.eqFields]
    simp only [if_pos hn', Sem.run_bind, Q56 hx, Q56 hy, Result.andThen_ok, h0]
    cases p
    ·rfl
    ·simpa using ih
   ·cases h
  ·cases h
theorem Q260 {g : Nat → Value → Value → Option Bool} {d e c : Nat} (hg : ∀ t x y r, g t x y = some r → (Op.equalIn d t x y).run P w = .ok r w) {xs ys : List Value} : ∀ {is : List Nat} {r : Bool}, eqfs P g (is.map fun i => (e, i * c)) xs ys = some r →
 (Op.eqItems d e c xs.toArray ys.toArray is).run P w = .ok r w
 | [], r, h => by cases h; simp [Op.eqItems]
 | i :: is, r, h => by
  simp only [List.map_cons, eqfs] at h
  split at h
  ·rename_i a b hx hy
   split at h
   ·rename_i p hp
    obtain ⟨q, hq, rfl⟩ := Option.map_eq_some_iff.1 h
    have ih := Q260 hg hq
    have h0 := hg _ _ _ _ hp
    rw [Op.eqItems]
    simp only [Sem.run_bind, Q56 hx, Q56 hy, Result.andThen_ok, h0]
    cases p
    ·rfl
    ·simpa using ih
   ·cases h
  ·cases h
theorem Q259 {e : Nat} {je : TI} (hj : ti P e = some je) : ∃ i, P.info? e = some i ∧ P.cellsOf e = je.size := by
 obtain ⟨x, z, hx, h1, _⟩ := (Q11 hj).info
 refine ⟨x, hx, ?_⟩
 have a := run_sizeOf (P := P) (default : World) hx
 rw [(Q11 hj).run_sizeOf] at a
 injection a with a
 exact a.symm
theorem Q224 : ∀ (m d : Nat) (t : Nat) (x y : Value) (r : Bool), eqv P m t x y = some r → (Op.equalIn (d + m) t x y).run P w = .ok r w
 | 0, d, t, x, y, r, h => by cases h
 | m + 1, d, t, x, y, r, h => by
  unfold eqv at h
  split at h
  ·cases h
  ·rename_i j hj
   split at h
   ·rename_i kk k a k' b hk
    split at h
    ·rename_i hkk
     subst hkk
     cases h
     have hu := (Q11 hj).int hk
     rw [show d + (m + 1) = (d + m) + 1 from rfl]
     simp only [Op.equalIn, Sem.run_bind, run_underlying hu, Result.andThen_ok, if_true, Sem.run_pure, Q204]
    ·cases h
   ·rename_i hk
    cases h
    have hu := (Q11 hj).bool hk
    rw [show d + (m + 1) = (d + m) + 1 from rfl]
    simp only [Op.equalIn, Sem.run_bind, run_underlying hu, Result.andThen_ok, Sem.run_pure]
   ·rename_i hk
    cases h
    have hu := (Q11 hj).string hk
    rw [show d + (m + 1) = (d + m) + 1 from rfl]
    simp only [Op.equalIn, Sem.run_bind, run_underlying hu, Result.andThen_ok, Sem.run_pure, Q178]
   ·rename_i fs xs ys hk
    split at h
    ·rename_i hc
     rw [Bool.and_eq_true, Bool.not_eq_true'] at hc
     obtain ⟨fl, hu, hm⟩ := (Q11 hj).struct hk
     have hf : P.fieldsOf t = fl := by simp [Program.fieldsOf, hu]
     have hn := hc.1
     unfold named at hn
     rw [hf] at hn
     rw [show d + (m + 1) = (d + m) + 1 from rfl, run_equalIn_struct (P := P) (w := w) (d + m) t xs ys (by rw [hf]; exact hu) hc.2, hf]
     have := Q261 (P := P) (w := w) (d := d + m) (fun t x y r => Q224 m d t x y r) hm hn h
     simpa using this
    ·cases h
   ·rename_i n e xs ys hk
    split at h
    ·rename_i je hje
     have hu := (Q11 hj).array hk
     obtain ⟨i, hi, hcs⟩ := Q259 hje
     rw [show d + (m + 1) = (d + m) + 1 from rfl, run_equalIn_array w (d + m) xs ys hu hi, hcs]
     have := Q260 (P := P) (w := w) (d := d + m) (fun t x y r => Q224 m d t x y r) h
     simpa using this
    ·cases h
   ·cases h
theorem Q240 {g : Nat → Value → Value → Option Bool} {d : Nat} {em : Bool} (hg : ∀ t x y r, g t x y = some r → (Instr.checkKey em d t x).run P w = .ok () w) {xs ys : List Value} : ∀ {fl : List Field} {fs : List (Nat × Nat)} {r : Bool}, fl.map (fun f => (f.type, f.offset)) = fs → eqfs P g fs xs ys = some r →
 (do for f in fl do if f.name ≠ "_" then Instr.checkKey em d f.type (← part f.type xs.toArray f.offset) : Sem Unit).run P w = .ok () w
 | [], _, r, rfl, h => by simp
 | f :: fl, _, r, rfl, h => by
  simp only [List.map_cons, eqfs] at h
  split at h
  ·rename_i a b hx hy
   split at h
   ·rename_i p hp
    obtain ⟨q, hq, rfl⟩ := Option.map_eq_some_iff.1 h
    have ih := Q240 hg rfl hq
    have h0 := hg _ _ _ _ hp
    by_cases hn : f.name = "_"
    ·simpa [hn, Result.andThen] using ih
    ·simpa [hn, Q56 hx, h0, Result.andThen] using ih
   ·cases h
  ·cases h
theorem Q257 {g : Nat → Value → Value → Option Bool} {d e c : Nat} {em : Bool} {ie : TypeInfo} (hi : P.info? e = some ie) (hcs : P.cellsOf e = c) (hg : ∀ t x y r, g t x y = some r → (Instr.checkKey em d t x).run P w = .ok () w) {xs ys : List Value} : ∀ {is : List Nat} {r : Bool}, eqfs P g (is.map fun i => (e, i * c)) xs ys = some r →
 (do for i in is do Instr.checkKey em d e (← part e xs.toArray (i * (← sizeOf e))) : Sem Unit).run P w = .ok () w
 | [], r, h => by simp
 | i :: is, r, h => by
  simp only [List.map_cons, eqfs] at h
  split at h
  ·rename_i a b hx hy
   split at h
   ·rename_i p hp
    obtain ⟨q, hq, rfl⟩ := Option.map_eq_some_iff.1 h
    have ih := Q257 hi hcs hg hq
    have h0 := hg _ _ _ _ hp
    subst hcs
    simpa [run_sizeOf w hi, Q56 hx, h0, Result.andThen] using ih
   ·cases h
  ·cases h
theorem Q221 (em : Bool) : ∀ (m d : Nat) (t : Nat) (x y : Value) (r : Bool), eqv P m t x y = some r → (Instr.checkKey em (d + m) t x).run P w = .ok () w
 | 0, d, t, x, y, r, h => by cases h
 | m + 1, d, t, x, y, r, h => by
  unfold eqv at h
  split at h
  ·cases h
  ·rename_i j hj
   rw [show d + (m + 1) = (d + m) + 1 from rfl, Instr.checkKey]
   split at h
   ·rename_i kk k a k' b hk
    simp [run_underlying ((Q11 hj).int hk), Result.andThen]
   ·rename_i hk
    simp [run_underlying ((Q11 hj).bool hk), Result.andThen]
   ·rename_i hk
    simp [run_underlying ((Q11 hj).string hk), Result.andThen]
   ·rename_i fs xs ys hk
    split at h
    ·obtain ⟨fl, hu, hm⟩ := (Q11 hj).struct hk
     have := Q240 (P := P) (w := w) (d := d + m) (em := em) (fun t x y r => Q221 em m d t x y r) hm h
     simp only [Sem.run_bind, run_underlying hu, Result.andThen]
     rw [← Array.forIn_toList]
     simp [Result.andThen] at this ⊢
     rw [this]
    ·cases h
   ·rename_i n e xs ys hk
    split at h
    ·rename_i je hje
     have hu := (Q11 hj).array hk
     obtain ⟨i, hi, hcs⟩ := Q259 hje
     have := Q257 (P := P) (w := w) (d := d + m) (em := em) hi hcs (fun t x y r => Q221 em m d t x y r) h
     simp only [Sem.run_bind, run_underlying hu, Result.andThen]
     simp only [Std.Legacy.Range.forIn_eq_forIn_range', Std.Legacy.Range.size, Nat.sub_zero, Nat.add_one_sub_one, Nat.div_one]
     rw [List.range_eq_range'] at this
     simp [Result.andThen] at this ⊢
     rw [this]
    ·cases h
   ·cases h
variable {κ : Type} [DecidableEq κ]
theorem KeyOk.deep {F : Fl κ} {fs : List (Nat × Nat)} {ii : TI} (m : Nat) (hm : m ≤ 10000) (hi : ti P t = some ii) (hk : ii.k = .struct fs)
 (he : ∀ x y : κ, eqv P m t (F.av x) (F.av y) = some (decide (x = y))) (hs : ∀ x : κ, ((F.enc x).zip (F.enc x)).all (fun p => Instr.sameBits 9999 p.1 p.2) = true) : KeyOk P t F.av := by
 obtain ⟨fl, hu, hmm⟩ := (Q11 hi).struct hk
 refine ⟨fun k w em => ?_, fun es ks k w h => ?_, fun k => ?_⟩
 ·have := Q221 (P := P) (w := w) em m (10000 - m) t _ _ _ (he k k)
  rwa [show 10000 - m + m = 10000 by omega] at this
 ·refine Q249 hu k (fun a => ?_) es ks h
  rw [show decide (a = k) = decide (k = a) from decide_eq_decide.2 eq_comm]
  have := Q224 (P := P) (w := w) m (10000 - m) t _ _ _ (he k a)
  rwa [show 10000 - m + m = 10000 by omega] at this
 ·show Instr.sameBits (9999 + 1) (.agg (F.enc k).toArray) (.agg (F.enc k).toArray) = true
  simp only [Instr.sameBits]
  simpa using hs k
end
theorem Q262 (kk : IntKind) (s : Int) : ∀ (es : List MapEntry) (ks : List Int) (i : Nat), es.map (·.key) = ks.map (fun x => Value.int kk x) →
 Instr.findNow (.int kk) (.int kk s) es i = some ((ks.findIdx? (fun a => decide (a = s))).bind fun j => es[j]?.map fun e => (i + j, e.val))
 | [], [], _, _ => rfl
 | [], _ :: _, _, h => by simp at h
 | _ :: _, [], _, h => by simp at h
 | e :: es, k :: ks, i, h => by
  simp only [List.map_cons, List.cons.injEq] at h
  unfold Instr.findNow
  have hb : (s == k) = decide (k = s) := by
   rw [Bool.eq_iff_iff, beq_iff_eq, decide_eq_true_eq]
   exact eq_comm
  rw [h.1]
  simp only [Instr.sameNow, if_true, hb]
  rw [List.findIdx?_cons]
  by_cases hks : k = s
  ·rw [decide_eq_true hks]
   simp
  ·rw [decide_eq_false hks]
   simp only [Bool.false_eq_true, if_false]
   rw [Q262 kk s es ks (i + 1) h.2]
   cases hf : ks.findIdx? (fun a => decide (a = s)) with
   | none => rfl
   | some j =>
    simp
    congr 1
    funext e
    congr 1
    omega
theorem KeyOk.int {P : Program} [Tys P] {t : Nat} {kk : IntKind} {i : TI} (hi : ti P t = some i) (hk : i.k = .int kk) : KeyOk P t (Fl.int kk).ov := by
 have hu := (Q11 hi).int hk
 refine ⟨fun k w em => ?_, fun es ks k w h => ?_, fun k => ?_⟩
 ·show (Instr.checkKey em (9999 + 1) t (.int kk k)).run P w = _
  rw [Instr.checkKey]
  simp [run_underlying hu, Result.andThen]
 ·have := Q262 kk k es ks 0 h
  simp only [Nat.zero_add] at this
  exact MapKept.run_findKey (k := .int kk k) hu this
 ·show Instr.sameBits (9999 + 1) (.int kk k) (.int kk k) = true
  simp [Instr.sameBits]
end Go.Bw
