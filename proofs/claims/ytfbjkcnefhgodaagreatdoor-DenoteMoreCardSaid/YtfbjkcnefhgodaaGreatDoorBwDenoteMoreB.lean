/- DenoteMore, part 2: walks and plain laws. Conditions: none. -/
import Derived.Test.YtfbjkcnefhgodaaGreatDoorProg
import Derived.MapKept
import Derived.Shelf.SortG.Plain
import Derived.Shelf.SortG.SortNone
import Derived.Shelf.SlSortCmp.NoneTotal
import Derived.Ground.SlgnProg
import Derived.Ground.SlsfProg
import Derived.Test.YtfbjkcnefhgodaaGreatDoorBwDenoteMoreA
set_option linter.unusedVariables false
set_option linter.unusedSimpArgs false
set_option linter.unusedSectionVars false
set_option maxRecDepth 100000
set_option maxHeartbeats 2000000
namespace Go.Bw
open Go Go.RowKit Go.Proofs
variable {R : Res} {Fr : List HProp} {b1 n1_1 c1_1 n1_2 c1_2 n1_3 c1_3 n0 c0 b1_0_c0 n1_0_c0_1 c1_0_c0_1 n1_0_c0_2 c1_0_c0_2 n1_0_c0_3 c1_0_c0_3 b1_c0 b1_c0_0_c0 n1_c0_0_c0_1 c1_c0_0_c0_1 n1_c0_0_c0_2 c1_c0_0_c0_2 n1_c0_0_c0_3 c1_c0_0_c0_3 n0_1 c0_1 n0_2 c0_2 n0_3 c0_3 : Nat} {A1_1 A1_2 A1_3 A0 A1_0_c0_1 A1_0_c0_2 A1_0_c0_3 A1_c0_0_c0_1 A1_c0_0_c0_2 A1_c0_0_c0_3 A0_1 A0_2 A0_3 : Option Addr}
structure Q3 where
 From : Int
 Action : Int
 To : Int
deriving Inhabited, DecidableEq
def Q3.fl : Fl Q3 := ⟨3, fun x => [i6 x.From, i6 x.Action, i6 x.To], fun _ => rfl, fun x u hu => by simp at hu; rcases hu with rfl | rfl | rfl <;> rfl, by decide⟩
structure Q4 where
 Name : Bs
 States : List Int
deriving Inhabited
def Q4.rep : Rep Q4 := ((Fl.bs.rep).pair (((Fl.int .i64).rep).slice)).iso (fun x => (x.Name, x.States))
def Q4.ow : Ow Q4 := ((Ow.fl Fl.bs).pair (Ow.sl (Fl.int .i64) 3)).iso (fun x => (x.Name, x.States))
theorem Q4.prj_Name : Prj Q4.rep 0 Fl.bs.rep (fun x => x.Name) := Prj.iso _ (Prj.fst (Prj.self _))
theorem Q4.ent {x0 : Bs} {A1 : Option Addr} {n1 c1 : Nat} {x1 : List Int} : Ent [row (Fl.int .i64) 3 A1 n1 c1 x1] (Q4.ow.own ⟨x0, x1⟩ [.string ⟨(x0).toArray⟩, .slice A1 n1 c1]) := (Ent.pair (c1 := [.string ⟨(x0).toArray⟩]) (c2 := [.slice A1 n1 c1]) (Ent.fl Fl.bs rfl) (Ent.sl (Fl.int .i64)))
theorem bytealg_cmpstring.ext : ExtOk Tryz.prog 160 Extern.BytealgCompare.compare := ⟨_, Tryz.func160, by kernel_rfl, by kernel_rfl, by kernel_rfl, by kernel_rfl⟩

noncomputable def Q81.f (a0 p : Int) (u : List Bs) (D : List Q3) (G : List Q4) : Option Bool :=
 jn (
 if 0 ≤ a0 then
 some (.inl (decide (a0 < p)))
 else
 some (.inl false)) (fun (q : Bool) =>
 some q)
theorem Q81.callee : Callee Tryz.prog 68 := ⟨_, Tryz.func68, by kernel_rfl, by kernel_rfl⟩
theorem Q81.spec {a0 p : Int} {u : List Bs} {D : List Q3} {G : List Q4} (hr1_1 : RdS Fl.bs.rep R.heap A1_1 u) (hn1_1 : u.length = n1_1) (hc1_1 : n1_1 ≤ c1_1) (hr1_2 : RdS Q3.fl.rep R.heap A1_2 D) (hn1_2 : D.length = n1_2) (hc1_2 : n1_2 ≤ c1_2) (hr1_3 : RdS Q4.rep R.heap A1_3 G) (hn1_3 : G.length = n1_3) (hc1_3 : n1_3 ≤ c1_3) {r : Bool} (j : Q81.f a0 p u D G = some r) :
 Spec Tryz.prog 68 [i6 a0, bp b1] R (pc b1 [i6 p, .slice A1_1 n1_1 c1_1, .slice A1_2 n1_2 c1_2, .slice A1_3 n1_3 c1_3] 26 :: Fr) (fun v l' => v = .bool r ∧ pc b1 [i6 p, .slice A1_1 n1_1 c1_1, .slice A1_2 n1_2 c1_2, .slice A1_3 n1_3 c1_3] 26 :: Fr = l') := by
 subst hn1_1; subst hn1_2; subst hn1_3; refine Spec.of Tryz.func68 rfl rfl ?_; unfold Q81.f at j; have j := brun j; refine sR 1 rfl (nT (sR 3 rfl ?_)); obtain ⟨L, M, O, j⟩ := bjoin j; let T1 : HProp := pc b1 [i6 p, .slice A1_1 u.length c1_1, .slice A1_2 D.length c1_2, .slice A1_3 G.length c1_3] 26; refine At.joinO 5 (X := Bool) (fun q => [(11, .bool q)]) (fun q => T1 :: Fr) (fun q => L (.inl q) = some r) ?_ (fun J => ?_)
 ·rintro q j; have j := (M _).symm.trans j
  ·refine At.run 1 rfl (nT (At.ret ?_)); cases bret j; exact At.res (.inl rfl) rfl rfl ⟨rfl, rfl⟩
 ··rcases bite j with ⟨I, j⟩ | ⟨I, j⟩
   ··refine At.know (t := 6) rfl (decide_eq_true I) ?_
     refine At.run 2 rfl (At.y (Y.load rfl rfl .z rfl rfl rfl) rfl rfl rfl (At.run 2 rfl ?_)); exact At.of (J (decide (a0 < p)) j) ⟨rfl, trivial⟩
   ··refine At.know (t := 6) rfl (decide_eq_false I) ?_
     refine At.run 5 rfl ?_; exact At.of (J false j) ⟨rfl, trivial⟩

noncomputable def Q107.f (a0 : Int) : Option Bool :=
 jn (
 if 97 ≤ a0 then
 some (.inl (decide (a0 ≤ 122)))
 else
 some (.inl false)) (fun (p : Bool) =>
 jn (
 if p = true then
 some (.inl true)
 else
 jn (
 if 65 ≤ a0 then
 some (.inl (decide (a0 ≤ 90)))
 else
 some (.inl false)) (fun (q : Bool) =>
 some (.inl q))) (fun (u : Bool) =>
 jn (
 if u = true then
 some (.inl true)
 else
 jn (
 if 48 ≤ a0 then
 some (.inl (decide (a0 ≤ 57)))
 else
 some (.inl false)) (fun (D : Bool) =>
 some (.inl D))) (fun (G : Bool) =>
 jn (
 if G = true then
 some (.inl true)
 else
 some (.inl (decide (a0 = 95)))) (fun (I : Bool) =>
 some (!I)))))
theorem Q107.callee : Callee Tryz.prog 127 := ⟨_, Tryz.func127, by kernel_rfl, by kernel_rfl⟩
theorem Q107.spec {a0 : Int} {r : Bool} (j : Q107.f a0 = some r) :
 Spec Tryz.prog 127 [.int .i32 a0] R (Fr) (fun v l' => v = .bool r ∧ Fr = l') := by
 refine Spec.of Tryz.func127 rfl rfl ?_; unfold Q107.f at j; have j := brun j; refine sR 1 rfl (nT (sR 3 rfl ?_)); obtain ⟨a6, a7, c4, j⟩ := bjoin j; refine At.joinO 3 (X := Bool) (fun u => [(0, .int .i32 a0), (8, .bool u)]) (fun u => Fr) (fun u => a6 (.inl u) = some r) ?_ (fun Z => ?_)
 ·rintro u j; have j := (a7 _).symm.trans j
  ·refine At.run 1 rfl ?_; obtain ⟨a8, a9, c5, j⟩ := bjoin j; refine At.joinO 7 (X := Bool) (fun D => [(0, .int .i32 a0), (16, .bool D)]) (fun D => Fr) (fun D => a8 (.inl D) = some r) ?_ (fun a1 => ?_)
   ·rintro D j; have j := (a9 _).symm.trans j
    ·refine At.run 1 rfl ?_; obtain ⟨b2, b3, c6, j⟩ := bjoin j; refine At.joinO 7 (X := Bool) (fun G => [(0, .int .i32 a0), (24, .bool G)]) (fun G => Fr) (fun G => b2 (.inl G) = some r) ?_ (fun a2 => ?_)
     ·rintro G j; have j := (b3 _).symm.trans j
      ·refine At.run 1 rfl ?_; obtain ⟨b4, b5, c7, j⟩ := bjoin j; refine At.joinO 3 (X := Bool) (fun I => [(28, .bool I)]) (fun I => Fr) (fun I => b4 (.inl I) = some r) ?_ (fun a3 => ?_)
       ·rintro I j; have j := (b5 _).symm.trans j
        ·refine At.run 2 rfl (nT (At.ret ?_)); cases bret j; exact At.res (.inl rfl) rfl rfl ⟨rfl, rfl⟩
       ··rcases bite j with ⟨J, j⟩ | ⟨J, j⟩
         ··refine At.know (t := 25) rfl J ?_
           refine At.run 3 rfl ?_; exact At.of (a3 true j) ⟨rfl, trivial⟩
         ··refine At.know (t := 25) rfl (bn J) ?_
           refine At.run 3 rfl ?_; exact At.of (a3 (decide (a0 = 95)) j) ⟨rfl, trivial⟩
     ··rcases bite j with ⟨L, j⟩ | ⟨L, j⟩
       ··refine At.know (t := 17) rfl L ?_
         refine At.run 7 rfl ?_; exact At.of (a2 true j) ⟨rfl, rfl, trivial⟩
       ··refine At.know (t := 17) rfl (bn L) ?_
         refine At.run 3 rfl ?_; obtain ⟨b6, b7, c8, j⟩ := bjoin j; refine At.joinO 3 (X := Bool) (fun p => [(0, .int .i32 a0), (17, .bool false), (23, .bool p)]) (fun p => Fr) (fun p => b6 (.inl p) = some r) ?_ (fun a4 => ?_)
         ·rintro p j; have j := (b7 _).symm.trans j
          ·refine At.run 1 rfl ?_; exact At.of (a2 p j) ⟨rfl, rfl, trivial⟩
         ··rcases bite j with ⟨M, j⟩ | ⟨M, j⟩
           ··refine At.know (t := 20) rfl (decide_eq_true M) ?_
             refine At.run 3 rfl ?_; exact At.of (a4 (decide (a0 ≤ 57)) j) ⟨rfl, rfl, rfl, trivial⟩
           ··refine At.know (t := 20) rfl (decide_eq_false M) ?_
             refine At.run 3 rfl ?_; exact At.of (a4 false j) ⟨rfl, rfl, rfl, trivial⟩
   ··rcases bite j with ⟨O, j⟩ | ⟨O, j⟩
     ··refine At.know (t := 9) rfl O ?_
       refine At.run 7 rfl ?_; exact At.of (a1 true j) ⟨rfl, rfl, trivial⟩
     ··refine At.know (t := 9) rfl (bn O) ?_
       refine At.run 3 rfl ?_; obtain ⟨b8, b9, c9, j⟩ := bjoin j; refine At.joinO 3 (X := Bool) (fun q => [(0, .int .i32 a0), (9, .bool false), (15, .bool q)]) (fun q => Fr) (fun q => b8 (.inl q) = some r) ?_ (fun a5 => ?_)
       ·rintro q j; have j := (b9 _).symm.trans j
        ·refine At.run 1 rfl ?_; exact At.of (a1 q j) ⟨rfl, rfl, trivial⟩
       ··rcases bite j with ⟨U, j⟩ | ⟨U, j⟩
         ··refine At.know (t := 12) rfl (decide_eq_true U) ?_
           refine At.run 3 rfl ?_; exact At.of (a5 (decide (a0 ≤ 90)) j) ⟨rfl, rfl, rfl, trivial⟩
         ··refine At.know (t := 12) rfl (decide_eq_false U) ?_
           refine At.run 3 rfl ?_; exact At.of (a5 false j) ⟨rfl, rfl, rfl, trivial⟩
 ··rcases bite j with ⟨V, j⟩ | ⟨V, j⟩
   ··refine At.know (t := 5) rfl (decide_eq_true V) ?_
     refine At.run 3 rfl ?_; exact At.of (Z (decide (a0 ≤ 122)) j) ⟨rfl, rfl, trivial⟩
   ··refine At.know (t := 5) rfl (decide_eq_false V) ?_
     refine At.run 3 rfl ?_; exact At.of (Z false j) ⟨rfl, rfl, trivial⟩

noncomputable def Q57.l0b (a0 : Bs) (a2 : Bool) (p : Nat) : Option ((Nat) ⊕ ((Nat) ⊕ (Int))) :=
 if p < a0.length then
 (Q107.f (runeAt a0 p)).bind fun q =>
 if (q == a2) = true then
 upL (some (p : Int))
 else
 nx (p + runeLen a0 p)
 else
 dn (.inl p)
noncomputable def Q57.l0 (a0 : Bs) (a2 : Bool) (p : Nat) : Option ((Nat) ⊕ (Int)) := iter (fun t_ : Nat => Q57.l0b a0 a2 t_) p
noncomputable def Q57.f (a0 : Bs) (a2 : Bool) : Option Int :=
 jn (Q57.l0 a0 a2 0) (fun (p : Nat) =>
 some (-1))
theorem Q57.callee : Callee Tryz.prog 209 := ⟨_, Tryz.func209, by kernel_rfl, by kernel_rfl⟩
theorem Q57.spec {a0 : Bs} {a2 : Bool} {r : Int} (j : Q57.f a0 a2 = some r) :
 Spec Tryz.prog 209 [.string ⟨(a0).toArray⟩, .func (.func 127) #[] #[], .bool a2] R (Fr) (fun v l' => v = i6 r ∧ Fr = l') := by
 refine Spec.of Tryz.func209 rfl rfl ?_; unfold Q57.f at j; have j := brun j; refine sR 1 rfl (nT (At.seq (At.seq (At.region ?_)))); refine At.run 1 rfl ?_; refine At.rangeStr rfl rfl rfl rfl rfl (fun D => ?_); refine nT ?_; refine At.block ?_; obtain ⟨U, V, Z, j⟩ := bjoin j; obtain ⟨M, G, O⟩ := bsome j; clear j; unfold Q57.l0 at G; obtain ⟨I, q⟩ := Q18.1 G; clear G; refine At.loopJ (X := Nat) (Y := Nat) (e0 := 0) (fun p => [(1, .func (.func 127) #[] #[]), (2, .bool a2), (10, bp D)]) (fun p => pt D (.stringIter ⟨(a0).toArray⟩ p) :: Fr) (fun m_ => fun p => iterN (fun t_ : Nat => Q57.l0b a0 a2 t_) m_ p = some M) I 0 q (fun u => []) (fun u => pt D (.stringIter ⟨(a0).toArray⟩ u) :: Fr) (fun u => U (.inl u) = some r) (fun a w e hs => ⟨e.sub ⟨rfl, rfl, rfl, trivial⟩, (by exact hs)⟩) ?_ (fun a1 => ?_)
 ·rintro u j; have j := (V _).symm.trans j
  ·refine At.ibx ?_; refine At.thn (sR 1 rfl (nT (At.ret (At.drop .z ?_)))); cases bret j; exact At.res (.inl rfl) rfl rfl ⟨rfl, rfl⟩
 ·clear q I; rintro I p q; obtain ⟨a3, f_, a4, hf_, j⟩ := bit q; clear q; have j : (Q57.l0b a0 a2 p).bind _ = some M := j; unfold Q57.l0b at j
  ·refine At.seq (At.region ?_); rcases bite j with ⟨J, j⟩ | ⟨J, j⟩
   ··refine At.nextT rfl rfl .z (of_decide_eq_true (decide_eq_true J)) rfl ?_
     refine At.run 1 rfl (nT (At.seq ?_)); refine At.condT rfl rfl ?_; refine At.skip (At.thn ?_); refine At.block ?_; refine sR 4 rfl (nT (sR 2 rfl ?_)); obtain ⟨a6, a5, j⟩ := bbind j; refine At.call rfl Q107.callee rfl rfl rfl (Q107.spec a5) ?_; rintro _ _ ⟨rfl, rfl⟩; refine At.run 2 rfl (nT ?_); rcases bite j with ⟨L, j⟩ | ⟨L, j⟩
     ··refine At.condT rfl L ?_
       refine sR 2 rfl (nT (At.ret ?_)); refine At.ibr ?_; have j := bupL Z O j; refine At.thr ?_; refine At.ibr ?_; refine At.thr (At.drop .z ?_); cases bret j; exact At.res (.inl rfl) rfl rfl ⟨rfl, rfl⟩
     ··refine At.condF rfl (bn L) ?_
       refine At.skip ?_; refine At.ibn ?_; have j := bnx hf_ j; exact fun a w e hs => ⟨a3, (p + runeLen a0 p), a4, j, e.sub ⟨rfl, rfl, rfl, trivial⟩, hs⟩
   ··refine At.nextF rfl rfl .z (of_decide_eq_false (decide_eq_false J)) rfl ?_
     refine At.run 1 rfl (nT (At.seq ?_)); refine At.condF rfl rfl ?_; refine At.exit ?_; refine At.the ?_; refine At.the ?_; exact fun a w e hs => a1 p (bdn j O) a w (e.sub trivial) hs

noncomputable def Q132.f (a0 : Bs) : Option Int :=
 (Q57.f a0 true).bind fun p =>
 some p
theorem Q132.callee : Callee Tryz.prog 159 := ⟨_, Tryz.func159, by kernel_rfl, by kernel_rfl⟩
theorem Q132.spec {a0 : Bs} {r : Int} (j : Q132.f a0 = some r) :
 Spec Tryz.prog 159 [.string ⟨(a0).toArray⟩, .func (.func 127) #[] #[]] R (Fr) (fun v l' => v = i6 r ∧ Fr = l') := by
 refine Spec.of Tryz.func159 rfl rfl ?_; unfold Q132.f at j; have j := brun j; refine sR 1 rfl (nT (sR 2 rfl ?_)); obtain ⟨q, p, j⟩ := bbind j; refine At.call rfl Q57.callee rfl rfl rfl (Q57.spec p) ?_; rintro _ _ ⟨rfl, rfl⟩; refine At.run 1 rfl (nT (At.ret ?_)); cases bret j; exact At.res (.inl rfl) rfl rfl ⟨rfl, rfl⟩

noncomputable def Q122.f (a0 : Bs) : Option Bool :=
 (Q132.f a0).bind fun p =>
 some (decide (0 ≤ p))
theorem Q122.callee : Callee Tryz.prog 126 := ⟨_, Tryz.func126, by kernel_rfl, by kernel_rfl⟩
theorem Q122.spec {a0 : Bs} {r : Bool} (j : Q122.f a0 = some r) :
 Spec Tryz.prog 126 [.string ⟨(a0).toArray⟩, .func (.func 127) #[] #[]] R (Fr) (fun v l' => v = .bool r ∧ Fr = l') := by
 refine Spec.of Tryz.func126 rfl rfl ?_; unfold Q122.f at j; have j := brun j; refine sR 1 rfl (nT (sR 2 rfl ?_)); obtain ⟨q, p, j⟩ := bbind j; refine At.call rfl Q132.callee rfl rfl rfl (Q132.spec p) ?_; rintro _ _ ⟨rfl, rfl⟩; refine At.run 2 rfl (nT (At.ret ?_)); cases bret j; exact At.res (.inl rfl) rfl rfl ⟨rfl, rfl⟩

noncomputable def Q85.f (a0 : Bs) : Option Bool :=
 jn (
 if (a0.length : Int) < 1 then
 some (.inl true)
 else
 some (.inl (decide (8 < (a0.length : Int))))) (fun (p : Bool) =>
 jn (
 if p = true then
 some (.inl true)
 else
 if (0 : Int) ≤ 0 ∧ 0 < (a0.length : Int) then
 some (.inl (decide (bat a0 0 < 97)))
 else none) (fun (q : Bool) =>
 jn (
 if q = true then
 some (.inl true)
 else
 if (0 : Int) ≤ 0 ∧ 0 < (a0.length : Int) then
 some (.inl (decide (122 < bat a0 0)))
 else none) (fun (u : Bool) =>
 if u = true then
 some false
 else
 if bseq a0 ([116, 116] : Bs) = true then
 some false
 else
 if bseq a0 ([102, 102] : Bs) = true then
 some false
 else
 if bseq a0 ([109, 117] : Bs) = true then
 some false
 else
 if bseq a0 ([110, 117] : Bs) = true then
 some false
 else
 (Q122.f a0).bind fun D =>
 some (!D))))
theorem Q85.callee : Callee Tryz.prog 69 := ⟨_, Tryz.func69, by kernel_rfl, by kernel_rfl⟩
theorem Q85.spec {a0 : Bs} {r : Bool} (j : Q85.f a0 = some r) :
 Spec Tryz.prog 69 [.string ⟨(a0).toArray⟩] R (Fr) (fun v l' => v = .bool r ∧ Fr = l') := by
 refine Spec.of Tryz.func69 rfl rfl ?_; unfold Q85.f at j; have j := brun j; refine sR 1 rfl (nT (At.seq (At.seq (At.region ?_)))); refine At.run 4 rfl ?_; obtain ⟨a4, a5, b3, j⟩ := bjoin j; refine At.joinO 4 (X := Bool) (fun p => [(0, .string ⟨(a0).toArray⟩), (10, .bool p)]) (fun p => Fr) (fun p => a4 (.inl p) = some r) ?_ (fun V => ?_)
 ·rintro p j; have j := (a5 _).symm.trans j
  ·refine At.run 1 rfl ?_; obtain ⟨a6, a7, b4, j⟩ := bjoin j; refine At.joinO 4 (X := Bool) (fun q => [(0, .string ⟨(a0).toArray⟩), (15, .bool q)]) (fun q => Fr) (fun q => a6 (.inl q) = some r) ?_ (fun Z => ?_)
   ·rintro q j; have j := (a7 _).symm.trans j
    ·refine At.run 1 rfl ?_; obtain ⟨a8, a9, b5, j⟩ := bjoin j; refine At.joinO 4 (X := Bool) (fun u => [(0, .string ⟨(a0).toArray⟩), (20, .bool u)]) (fun u => Fr) (fun u => a8 (.inl u) = some r) ?_ (fun a1 => ?_)
     ·rintro u j; have j := (a9 _).symm.trans j
      ·refine nT ?_; rcases bite j with ⟨J, j⟩ | ⟨J, j⟩
       ··refine At.condT rfl J ?_
         refine sR 1 rfl (nT (At.ret (At.thr ?_))); cases bret j; exact At.res (.inl rfl) rfl rfl ⟨rfl, rfl⟩
       ··refine At.condF rfl (bn J) ?_
         refine At.skip (At.thn (At.seq (sR 1 rfl (nT ?_)))); refine At.block ?_; refine At.seq (sR 2 rfl (nT ?_)); rcases bite j with ⟨D, j⟩ | ⟨D, j⟩
         ··refine At.condT rfl D ?_
           refine At.skip (At.thn ?_); refine At.condT rfl D ?_; refine sR 1 rfl (nT (At.ret ?_)); refine At.ibr ?_; refine At.thr ?_; cases bret j; exact At.res (.inl rfl) rfl rfl ⟨rfl, rfl⟩
         ··refine At.condF rfl (bn D) ?_
           refine sR 2 rfl (nT ?_); rcases bite j with ⟨G, j⟩ | ⟨G, j⟩
           ··refine At.condT rfl G ?_
             refine At.skip (At.thn ?_); refine At.condT rfl G ?_; refine sR 1 rfl (nT (At.ret ?_)); refine At.ibr ?_; refine At.thr ?_; cases bret j; exact At.res (.inl rfl) rfl rfl ⟨rfl, rfl⟩
           ··refine At.condF rfl (bn G) ?_
             refine sR 2 rfl (nT ?_); rcases bite j with ⟨I, j⟩ | ⟨I, j⟩
             ··refine At.condT rfl I ?_
               refine At.skip (At.thn ?_); refine At.condT rfl I ?_; refine sR 1 rfl (nT (At.ret ?_)); refine At.ibr ?_; refine At.thr ?_; cases bret j; exact At.res (.inl rfl) rfl rfl ⟨rfl, rfl⟩
             ··refine At.condF rfl (bn I) ?_
               refine At.region (At.run 2 rfl (nT ?_)); rcases bite j with ⟨L, j⟩ | ⟨L, j⟩
               ··refine At.condT rfl L ?_
                 refine sR 1 rfl (nT (At.ret ?_)); refine At.ibr ?_; refine At.thr ?_; cases bret j; exact At.res (.inl rfl) rfl rfl ⟨rfl, rfl⟩
               ··refine At.condF rfl (bn L) ?_
                 refine At.skip ?_; refine At.ibn ?_; refine At.thn (sR 1 rfl ?_); obtain ⟨b6, b2, j⟩ := bbind j; refine At.call rfl Q122.callee rfl rfl rfl (Q122.spec b2) ?_; rintro _ _ ⟨rfl, rfl⟩; refine At.run 2 rfl (nT (At.ret ?_)); cases bret j; exact At.res (.inl rfl) rfl rfl ⟨rfl, rfl⟩
     ··rcases bite j with ⟨M, j⟩ | ⟨M, j⟩
       ··refine At.know (t := 16) rfl M ?_
         refine At.run 4 rfl ?_; exact At.of (a1 true j) ⟨rfl, rfl, trivial⟩
       ··refine At.know (t := 16) rfl (bn M) ?_
         refine At.run 1 rfl ?_; obtain ⟨a2, j⟩ := bnone j; refine At.y (Y.ixStr rfl rfl rfl rfl a2.1 a2.2) rfl rfl rfl (At.run 2 rfl ?_); exact At.of (a1 (decide (122 < bat a0 0)) j) ⟨rfl, rfl, trivial⟩
   ··rcases bite j with ⟨O, j⟩ | ⟨O, j⟩
     ··refine At.know (t := 11) rfl O ?_
       refine At.run 4 rfl ?_; exact At.of (Z true j) ⟨rfl, rfl, trivial⟩
     ··refine At.know (t := 11) rfl (bn O) ?_
       refine At.run 1 rfl ?_; obtain ⟨a3, j⟩ := bnone j; refine At.y (Y.ixStr rfl rfl rfl rfl a3.1 a3.2) rfl rfl rfl (At.run 2 rfl ?_); exact At.of (Z (decide (bat a0 0 < 97)) j) ⟨rfl, rfl, trivial⟩
 ··rcases bite j with ⟨U, j⟩ | ⟨U, j⟩
   ··refine At.know (t := 6) rfl (decide_eq_true U) ?_
     refine At.run 4 rfl ?_; exact At.of (V true j) ⟨rfl, rfl, trivial⟩
   ··refine At.know (t := 6) rfl (decide_eq_false U) ?_
     refine At.run 4 rfl ?_; exact At.of (V (decide (8 < (a0.length : Int))) j) ⟨rfl, rfl, trivial⟩

noncomputable def Q106.f (a0 : Int) : Option Bool :=
 some (!(decide (a0 = a0)))
theorem Q106.callee : Callee Tryz.prog 128 := ⟨_, Tryz.func128, by kernel_rfl, by kernel_rfl⟩
theorem Q106.spec {a0 : Int} {r : Bool} (j : Q106.f a0 = some r) :
 Spec Tryz.prog 128 [i6 a0] R (Fr) (fun v l' => v = .bool r ∧ Fr = l') := by
 refine Spec.of Tryz.func128 rfl rfl ?_; unfold Q106.f at j; have j := brun j; refine sR 1 rfl (nT (sR 4 rfl ?_)); refine nT (At.ret ?_); cases bret j; exact At.res (.inl rfl) rfl rfl ⟨rfl, rfl⟩

noncomputable def Q66.f (a0 a1 : Int) : Option Int :=
 (Q106.f a0).bind fun q =>
 (Q106.f a1).bind fun p =>
 if q = true then
 if p = true then
 some 0
 else
 some (-1)
 else
 if p = true then
 some 1
 else
 if a0 < a1 then
 some (-1)
 else
 if a1 < a0 then
 some 1
 else
 some 0
theorem Q66.callee : Callee Tryz.prog 71 := ⟨_, Tryz.func71, by kernel_rfl, by kernel_rfl⟩
theorem Q66.spec {a0 a1 : Int} {r : Int} (j : Q66.f a0 a1 = some r) :
 Spec Tryz.prog 71 [i6 a0, i6 a1] R (Fr) (fun v l' => v = i6 r ∧ Fr = l') := by
 refine Spec.of Tryz.func71 rfl rfl ?_; unfold Q66.f at j; have j := brun j; refine sR 1 rfl (nT (sR 1 rfl ?_)); obtain ⟨L, I, j⟩ := bbind j; refine At.call rfl Q106.callee rfl rfl rfl (Q106.spec I) ?_; rintro _ _ ⟨rfl, rfl⟩; refine At.run 1 rfl (nT (sR 1 rfl ?_)); obtain ⟨M, J, j⟩ := bbind j; refine At.call rfl Q106.callee rfl rfl rfl (Q106.spec J) ?_; rintro _ _ ⟨rfl, rfl⟩; refine At.run 1 rfl (nT (At.seq (sR 1 rfl (At.nil ?_)))); refine At.thn ?_; rcases bite j with ⟨p, j⟩ | ⟨p, j⟩
 ··refine At.condT rfl p ?_
   refine At.seq (sR 1 rfl (nT ?_)); rcases bite j with ⟨q, j⟩ | ⟨q, j⟩
   ··refine At.condT rfl q ?_
     refine sR 1 rfl (nT (At.ret (At.thr (At.thr ?_)))); cases bret j; exact At.res (.inl rfl) rfl rfl ⟨rfl, rfl⟩
   ··refine At.condF rfl (bn q) ?_
     refine At.skip (At.thn (sR 1 rfl (nT (At.ret ?_)))); refine At.thr ?_; cases bret j; exact At.res (.inl rfl) rfl rfl ⟨rfl, rfl⟩
 ··refine At.condF rfl (bn p) ?_
   refine At.skip (At.thn (At.seq (sR 1 rfl (nT ?_)))); rcases bite j with ⟨u, j⟩ | ⟨u, j⟩
   ··refine At.condT rfl u ?_
     refine sR 1 rfl (nT (At.ret (At.thr ?_))); cases bret j; exact At.res (.inl rfl) rfl rfl ⟨rfl, rfl⟩
   ··refine At.condF rfl (bn u) ?_
     refine At.skip (At.thn (At.seq (sR 3 rfl (nT ?_)))); rcases bite j with ⟨D, j⟩ | ⟨D, j⟩
     ··refine At.condT rfl (decide_eq_true D) ?_
       refine sR 1 rfl (nT (At.ret (At.thr ?_))); cases bret j; exact At.res (.inl rfl) rfl rfl ⟨rfl, rfl⟩
     ··refine At.condF rfl (decide_eq_false D) ?_
       refine At.skip (At.thn (At.seq (sR 3 rfl (nT ?_)))); rcases bite j with ⟨G, j⟩ | ⟨G, j⟩
       ··refine At.condT rfl (decide_eq_true G) ?_
         refine sR 1 rfl (nT (At.ret (At.thr ?_))); cases bret j; exact At.res (.inl rfl) rfl rfl ⟨rfl, rfl⟩
       ··refine At.condF rfl (decide_eq_false G) ?_
         refine At.skip (At.thn (sR 1 rfl (nT (At.ret ?_)))); cases bret j; exact At.res (.inl rfl) rfl rfl ⟨rfl, rfl⟩

noncomputable def Q64.l0b (a0 : List Int) (p : Int) : Option ((Int) ⊕ ((Unit) ⊕ (Bool))) :=
 if p < (a0.length : Int) then
 if (0 : Int) ≤ IntKind.i64.wrap (p - 1) ∧ IntKind.i64.wrap (p - 1) < (a0.length : Int) then
 if (0 : Int) ≤ p ∧ p < (a0.length : Int) then
 (Q66.f (gt a0 (IntKind.i64.wrap (p - 1))) (gt a0 p)).bind fun q =>
 if 0 ≤ q then
 upL (some false)
 else
 nx (IntKind.i64.wrap (p + 1))
 else none
 else none
 else
 dn (.inl ())
noncomputable def Q64.l0 (a0 : List Int) (p : Int) : Option ((Unit) ⊕ (Bool)) := iter (fun t_ : Int => Q64.l0b a0 t_) p
noncomputable def Q64.f (a0 : List Int) : Option Bool :=
 jn (Q64.l0 a0 1) (fun (_ : Unit) =>
 some true)
theorem Q64.callee : Callee Tryz.prog 70 := ⟨_, Tryz.func70, by kernel_rfl, by kernel_rfl⟩
theorem Q64.spec {a0 : List Int} (hr0 : RdS (Fl.int .i64).rep R.heap A0 a0) (hn0 : a0.length = n0) (hc0 : n0 ≤ c0) {r : Bool} (j : Q64.f a0 = some r) :
 Spec Tryz.prog 70 [.slice A0 n0 c0, .func (.func 71) #[] #[]] R (Fr) (fun v l' => v = .bool r ∧ Fr = l') := by
 subst hn0; refine Spec.of Tryz.func70 rfl rfl ?_; unfold Q64.f at j; have j := brun j; refine sR 1 rfl (nT (At.seq (At.seq (At.region ?_)))); refine At.run 1 rfl (nT ?_); refine At.block ?_; obtain ⟨V, Z, a1, j⟩ := bjoin j; obtain ⟨O, I, U⟩ := bsome j; clear j; unfold Q64.l0 at I; obtain ⟨J, u⟩ := Q18.1 I; clear I; refine At.loopJ (X := Int) (Y := Unit) (e0 := 0) (fun p => [(0, .slice A0 a0.length c0), (1, .func (.func 71) #[] #[]), (5, i6 p)]) (fun p => Fr) (fun m_ => fun p => iterN (fun t_ : Int => Q64.l0b a0 t_) m_ p = some O) J 1 u (fun _ => []) (fun _ => Fr) (fun _ => V (.inl ()) = some r) (fun a w e hs => ⟨e.sub ⟨rfl, rfl, rfl, trivial⟩, (by exact hs)⟩) ?_ (fun a2 => ?_)
 ·rintro _ j; have j := (Z _).symm.trans j
  ·refine At.ibx ?_; refine At.thn (sR 1 rfl (nT (At.ret ?_))); cases bret j; exact At.res (.inl rfl) rfl rfl ⟨rfl, rfl⟩
 ·clear u J; rintro J p u; obtain ⟨a3, f_, a4, hf_, j⟩ := bit u; clear u; have j : (Q64.l0b a0 p).bind _ = some O := j; unfold Q64.l0b at j
  ·refine At.seq (sR 4 rfl (nT ?_)); rcases bite j with ⟨L, j⟩ | ⟨L, j⟩
   ··refine At.condT rfl (decide_eq_true L) ?_
     refine At.skip (At.thn (At.seq ?_)); refine At.block ?_; refine At.seq ?_; refine At.quiet (by kernel_rfl) ?_; refine At.Quiet.run 4 rfl ?_; obtain ⟨D, j⟩ := bnone j; refine At.Quiet.y (Y.ixRd hr0 rfl rfl rfl rfl rfl rfl rfl D.1 D.2) rfl rfl rfl ?_; refine At.Quiet.y (Y.ldFl hr0 rfl (q := 0) rfl rfl D.1 D.2 rfl rfl rfl) rfl rfl rfl ?_; refine At.Quiet.run 2 rfl ?_; obtain ⟨G, j⟩ := bnone j; refine At.Quiet.y (Y.ixRd hr0 rfl rfl rfl rfl rfl rfl rfl G.1 G.2) rfl rfl rfl ?_; refine At.Quiet.y (Y.ldFl hr0 rfl (q := 0) rfl rfl G.1 G.2 rfl rfl rfl) rfl rfl rfl ?_; obtain ⟨a6, a5, j⟩ := bbind j; refine At.Quiet.call rfl Q66.callee rfl rfl rfl (Q66.spec a5) (fun _ _ h_ => ⟨h_.1, fun _ hs => h_.2 ▸ hs⟩) ?_; refine At.Quiet.run 1 rfl (At.Quiet.nil (At.thn ?_)); rcases bite j with ⟨M, j⟩ | ⟨M, j⟩
     ··refine At.condT rfl (decide_eq_true M) ?_
       refine sR 1 rfl (nT (At.ret ?_)); refine At.ibr ?_; refine At.thr ?_; have j := bupL a1 U j; refine At.thr ?_; refine At.ibr ?_; refine At.thr ?_; cases bret j; exact At.res (.inl rfl) rfl rfl ⟨rfl, rfl⟩
     ··refine At.condF rfl (decide_eq_false M) ?_
       refine At.skip ?_; refine At.ibn ?_; refine At.thn (At.region (At.run 3 rfl (At.nil ?_))); have j := bnx hf_ j; exact fun a w e hs => ⟨a3, (IntKind.i64.wrap (p + 1)), a4, j, e.sub ⟨rfl, rfl, rfl, trivial⟩, hs⟩
   ··refine At.condF rfl (decide_eq_false L) ?_
     refine At.exit ?_; refine At.the ?_; refine At.the ?_; exact fun a w e hs => a2 () (bdn j U) a w (e.sub trivial) hs

noncomputable def Q138.f (a0 p : Int) (q : List Bs) (u : List Q3) (D : List Q4) : Option Bool :=
 (Q81.f a0 p q u D).bind fun G =>
 some (!G)
theorem Q138.callee : Callee Tryz.prog 73 := ⟨_, Tryz.func73, by kernel_rfl, by kernel_rfl⟩
theorem Q138.spec {a0 p : Int} {q : List Bs} {u : List Q3} {D : List Q4} (hr1_0_c0_1 : RdS Fl.bs.rep R.heap A1_0_c0_1 q) (hn1_0_c0_1 : q.length = n1_0_c0_1) (hc1_0_c0_1 : n1_0_c0_1 ≤ c1_0_c0_1) (hr1_0_c0_2 : RdS Q3.fl.rep R.heap A1_0_c0_2 u) (hn1_0_c0_2 : u.length = n1_0_c0_2) (hc1_0_c0_2 : n1_0_c0_2 ≤ c1_0_c0_2) (hr1_0_c0_3 : RdS Q4.rep R.heap A1_0_c0_3 D) (hn1_0_c0_3 : D.length = n1_0_c0_3) (hc1_0_c0_3 : n1_0_c0_3 ≤ c1_0_c0_3) {r : Bool} (j : Q138.f a0 p q u D = some r) :
 Spec Tryz.prog 73 [i6 a0, bp b1] R (pc b1 [.func (.func 68) #[] #[bp b1_0_c0]] 50 :: pc b1_0_c0 [i6 p, .slice A1_0_c0_1 n1_0_c0_1 c1_0_c0_1, .slice A1_0_c0_2 n1_0_c0_2 c1_0_c0_2, .slice A1_0_c0_3 n1_0_c0_3 c1_0_c0_3] 26 :: Fr) (fun v l' => v = .bool r ∧ pc b1 [.func (.func 68) #[] #[bp b1_0_c0]] 50 :: pc b1_0_c0 [i6 p, .slice A1_0_c0_1 n1_0_c0_1 c1_0_c0_1, .slice A1_0_c0_2 n1_0_c0_2 c1_0_c0_2, .slice A1_0_c0_3 n1_0_c0_3 c1_0_c0_3] 26 :: Fr = l') := by
 subst hn1_0_c0_1; subst hn1_0_c0_2; subst hn1_0_c0_3; refine Spec.of Tryz.func73 rfl rfl ?_; unfold Q138.f at j; have j := brun j; refine sR 1 rfl (nT (At.seq (At.region (At.y (Y.load rfl rfl .z rfl rfl rfl) rfl rfl rfl ?_)))); refine At.run 1 rfl (At.f1 ?_); obtain ⟨I, G, j⟩ := bbind j; refine At.call rfl Q81.callee rfl rfl rfl (Q81.spec hr1_0_c0_1 rfl hc1_0_c0_1 hr1_0_c0_2 rfl hc1_0_c0_2 hr1_0_c0_3 rfl hc1_0_c0_3 G) ?_; rintro _ _ ⟨rfl, rfl⟩; refine At.run 2 rfl (nT (At.ret (At.f1 ?_))); cases bret j; exact At.res (.inl rfl) rfl rfl ⟨rfl, rfl⟩

noncomputable def Q62.l0b (a0 : List Int) (a1_c0_0_c0_0 : Int) (a1_c0_0_c0_1 : List Bs) (a1_c0_0_c0_2 : List Q3) (a1_c0_0_c0_3 : List Q4) (p : Int) : Option ((Int) ⊕ ((Unit) ⊕ (Int))) :=
 if p < (a0.length : Int) then
 if (0 : Int) ≤ p ∧ p < (a0.length : Int) then
 (Q138.f (gt a0 p) a1_c0_0_c0_0 a1_c0_0_c0_1 a1_c0_0_c0_2 a1_c0_0_c0_3).bind fun q =>
 if q = true then
 upL (some p)
 else
 nx (IntKind.i64.wrap (p + 1))
 else none
 else
 dn (.inl ())
noncomputable def Q62.l0 (a0 : List Int) (a1_c0_0_c0_0 : Int) (a1_c0_0_c0_1 : List Bs) (a1_c0_0_c0_2 : List Q3) (a1_c0_0_c0_3 : List Q4) (p : Int) : Option ((Unit) ⊕ (Int)) := iter (fun t_ : Int => Q62.l0b a0 a1_c0_0_c0_0 a1_c0_0_c0_1 a1_c0_0_c0_2 a1_c0_0_c0_3 t_) p
noncomputable def Q62.f (a0 : List Int) (a1_c0_0_c0_0 : Int) (a1_c0_0_c0_1 : List Bs) (a1_c0_0_c0_2 : List Q3) (a1_c0_0_c0_3 : List Q4) : Option Int :=
 jn (Q62.l0 a0 a1_c0_0_c0_0 a1_c0_0_c0_1 a1_c0_0_c0_2 a1_c0_0_c0_3 0) (fun (_ : Unit) =>
 some (-1))
theorem Q62.callee : Callee Tryz.prog 129 := ⟨_, Tryz.func129, by kernel_rfl, by kernel_rfl⟩
theorem Q62.spec {a0 : List Int} {a1_c0_0_c0_0 : Int} {a1_c0_0_c0_1 : List Bs} {a1_c0_0_c0_2 : List Q3} {a1_c0_0_c0_3 : List Q4} (hr0 : RdS (Fl.int .i64).rep R.heap A0 a0) (hn0 : a0.length = n0) (hc0 : n0 ≤ c0) (hr1_c0_0_c0_1 : RdS Fl.bs.rep R.heap A1_c0_0_c0_1 a1_c0_0_c0_1) (hn1_c0_0_c0_1 : a1_c0_0_c0_1.length = n1_c0_0_c0_1) (hc1_c0_0_c0_1 : n1_c0_0_c0_1 ≤ c1_c0_0_c0_1) (hr1_c0_0_c0_2 : RdS Q3.fl.rep R.heap A1_c0_0_c0_2 a1_c0_0_c0_2) (hn1_c0_0_c0_2 : a1_c0_0_c0_2.length = n1_c0_0_c0_2) (hc1_c0_0_c0_2 : n1_c0_0_c0_2 ≤ c1_c0_0_c0_2) (hr1_c0_0_c0_3 : RdS Q4.rep R.heap A1_c0_0_c0_3 a1_c0_0_c0_3) (hn1_c0_0_c0_3 : a1_c0_0_c0_3.length = n1_c0_0_c0_3) (hc1_c0_0_c0_3 : n1_c0_0_c0_3 ≤ c1_c0_0_c0_3) {r : Int} (j : Q62.f a0 a1_c0_0_c0_0 a1_c0_0_c0_1 a1_c0_0_c0_2 a1_c0_0_c0_3 = some r) :
 Spec Tryz.prog 129 [.slice A0 n0 c0, .func (.func 73) #[] #[bp b1_c0]] R (pc b1_c0 [.func (.func 68) #[] #[bp b1_c0_0_c0]] 50 :: pc b1_c0_0_c0 [i6 a1_c0_0_c0_0, .slice A1_c0_0_c0_1 n1_c0_0_c0_1 c1_c0_0_c0_1, .slice A1_c0_0_c0_2 n1_c0_0_c0_2 c1_c0_0_c0_2, .slice A1_c0_0_c0_3 n1_c0_0_c0_3 c1_c0_0_c0_3] 26 :: Fr) (fun v l' => v = i6 r ∧ pc b1_c0 [.func (.func 68) #[] #[bp b1_c0_0_c0]] 50 :: pc b1_c0_0_c0 [i6 a1_c0_0_c0_0, .slice A1_c0_0_c0_1 n1_c0_0_c0_1 c1_c0_0_c0_1, .slice A1_c0_0_c0_2 n1_c0_0_c0_2 c1_c0_0_c0_2, .slice A1_c0_0_c0_3 n1_c0_0_c0_3 c1_c0_0_c0_3] 26 :: Fr = l') := by
 subst hn0; subst hn1_c0_0_c0_1; subst hn1_c0_0_c0_2; subst hn1_c0_0_c0_3; refine Spec.of Tryz.func129 rfl rfl ?_; unfold Q62.f at j; have j := brun j; refine sR 1 rfl (nT (At.seq (At.seq (At.region ?_)))); refine At.run 3 rfl (nT ?_); refine At.block ?_; obtain ⟨U, V, Z, j⟩ := bjoin j; obtain ⟨M, G, O⟩ := bsome j; clear j; unfold Q62.l0 at G; obtain ⟨I, u⟩ := Q18.1 G; clear G; let T2 : HProp := pc b1_c0 [.func (.func 68) #[] #[bp b1_c0_0_c0]] 50; let T3 : HProp := pc b1_c0_0_c0 [i6 a1_c0_0_c0_0, .slice A1_c0_0_c0_1 a1_c0_0_c0_1.length c1_c0_0_c0_1, .slice A1_c0_0_c0_2 a1_c0_0_c0_2.length c1_c0_0_c0_2, .slice A1_c0_0_c0_3 a1_c0_0_c0_3.length c1_c0_0_c0_3] 26; refine At.loopJ (X := Int) (Y := Unit) (e0 := 0) (fun p => [(0, .slice A0 a0.length c0), (1, .func (.func 73) #[] #[bp b1_c0]), (7, i6 (a0.length : Int)), (8, i6 p)]) (fun p => T2 :: T3 :: Fr) (fun m_ => fun p => iterN (fun t_ : Int => Q62.l0b a0 a1_c0_0_c0_0 a1_c0_0_c0_1 a1_c0_0_c0_2 a1_c0_0_c0_3 t_) m_ p = some M) I 0 u (fun _ => []) (fun _ => T2 :: T3 :: Fr) (fun _ => U (.inl ()) = some r) (fun a w e hs => ⟨e.sub ⟨rfl, rfl, rfl, rfl, trivial⟩, (by exact hs)⟩) ?_ (fun a1 => ?_)
 ·rintro _ j; have j := (V _).symm.trans j
  ·refine At.ibx ?_; refine At.thn (sR 1 rfl (nT (At.ret ?_))); cases bret j; exact At.res (.inl rfl) rfl rfl ⟨rfl, rfl⟩
 ·clear u I; rintro I p u; obtain ⟨a2, f_, a3, hf_, j⟩ := bit u; clear u; have j : (Q62.l0b a0 a1_c0_0_c0_0 a1_c0_0_c0_1 a1_c0_0_c0_2 a1_c0_0_c0_3 p).bind _ = some M := j; unfold Q62.l0b at j
  ·refine sR 1 rfl (nT (At.seq ?_)); rcases bite j with ⟨J, j⟩ | ⟨J, j⟩
   ··refine At.condT rfl (decide_eq_true J) ?_
     refine At.skip (At.thn (At.seq ?_)); refine At.block ?_; refine sR 2 rfl (nT (sR 3 rfl ?_)); obtain ⟨D, j⟩ := bnone j; refine At.y (Y.ixRd hr0 rfl rfl rfl rfl rfl rfl rfl D.1 D.2) rfl rfl rfl (At.y (Y.ldFl hr0 rfl (q := 0) rfl rfl D.1 D.2 rfl rfl rfl) rfl rfl rfl ?_); obtain ⟨a5, a4, j⟩ := bbind j; refine At.call rfl Q138.callee rfl rfl rfl (Q138.spec hr1_c0_0_c0_1 rfl hc1_c0_0_c0_1 hr1_c0_0_c0_2 rfl hc1_c0_0_c0_2 hr1_c0_0_c0_3 rfl hc1_c0_0_c0_3 a4) ?_; rintro _ _ ⟨rfl, rfl⟩; refine nT ?_; rcases bite j with ⟨L, j⟩ | ⟨L, j⟩
     ··refine At.condT rfl L ?_
       refine sR 2 rfl (nT (At.ret ?_)); refine At.ibr ?_; refine At.thr ?_; have j := bupL Z O j; refine At.thr ?_; refine At.ibr ?_; refine At.thr ?_; cases bret j; exact At.res (.inl rfl) rfl rfl ⟨rfl, rfl⟩
     ··refine At.condF rfl (bn L) ?_
       refine At.skip ?_; refine At.ibn ?_; refine At.thn (At.region (At.run 2 rfl (At.nil ?_))); have j := bnx hf_ j; exact fun a w e hs => ⟨a2, (IntKind.i64.wrap (p + 1)), a3, j, e.sub ⟨rfl, rfl, rfl, rfl, trivial⟩, hs⟩
   ··refine At.condF rfl (decide_eq_false J) ?_
     refine At.exit ?_; refine At.the ?_; refine At.the ?_; exact fun a w e hs => a1 () (bdn j O) a w (e.sub trivial) hs

noncomputable def Q121.f (a0 : List Int) (a1_c0_0_c0_0 : Int) (a1_c0_0_c0_1 : List Bs) (a1_c0_0_c0_2 : List Q3) (a1_c0_0_c0_3 : List Q4) : Option Bool :=
 (Q62.f a0 a1_c0_0_c0_0 a1_c0_0_c0_1 a1_c0_0_c0_2 a1_c0_0_c0_3).bind fun p =>
 some (decide (0 ≤ p))
theorem Q121.callee : Callee Tryz.prog 72 := ⟨_, Tryz.func72, by kernel_rfl, by kernel_rfl⟩
theorem Q121.spec {a0 : List Int} {a1_c0_0_c0_0 : Int} {a1_c0_0_c0_1 : List Bs} {a1_c0_0_c0_2 : List Q3} {a1_c0_0_c0_3 : List Q4} (hr0 : RdS (Fl.int .i64).rep R.heap A0 a0) (hn0 : a0.length = n0) (hc0 : n0 ≤ c0) (hr1_c0_0_c0_1 : RdS Fl.bs.rep R.heap A1_c0_0_c0_1 a1_c0_0_c0_1) (hn1_c0_0_c0_1 : a1_c0_0_c0_1.length = n1_c0_0_c0_1) (hc1_c0_0_c0_1 : n1_c0_0_c0_1 ≤ c1_c0_0_c0_1) (hr1_c0_0_c0_2 : RdS Q3.fl.rep R.heap A1_c0_0_c0_2 a1_c0_0_c0_2) (hn1_c0_0_c0_2 : a1_c0_0_c0_2.length = n1_c0_0_c0_2) (hc1_c0_0_c0_2 : n1_c0_0_c0_2 ≤ c1_c0_0_c0_2) (hr1_c0_0_c0_3 : RdS Q4.rep R.heap A1_c0_0_c0_3 a1_c0_0_c0_3) (hn1_c0_0_c0_3 : a1_c0_0_c0_3.length = n1_c0_0_c0_3) (hc1_c0_0_c0_3 : n1_c0_0_c0_3 ≤ c1_c0_0_c0_3) {r : Bool} (j : Q121.f a0 a1_c0_0_c0_0 a1_c0_0_c0_1 a1_c0_0_c0_2 a1_c0_0_c0_3 = some r) :
 Spec Tryz.prog 72 [.slice A0 n0 c0, .func (.func 73) #[] #[bp b1_c0]] R (pc b1_c0 [.func (.func 68) #[] #[bp b1_c0_0_c0]] 50 :: pc b1_c0_0_c0 [i6 a1_c0_0_c0_0, .slice A1_c0_0_c0_1 n1_c0_0_c0_1 c1_c0_0_c0_1, .slice A1_c0_0_c0_2 n1_c0_0_c0_2 c1_c0_0_c0_2, .slice A1_c0_0_c0_3 n1_c0_0_c0_3 c1_c0_0_c0_3] 26 :: Fr) (fun v l' => v = .bool r ∧ pc b1_c0 [.func (.func 68) #[] #[bp b1_c0_0_c0]] 50 :: pc b1_c0_0_c0 [i6 a1_c0_0_c0_0, .slice A1_c0_0_c0_1 n1_c0_0_c0_1 c1_c0_0_c0_1, .slice A1_c0_0_c0_2 n1_c0_0_c0_2 c1_c0_0_c0_2, .slice A1_c0_0_c0_3 n1_c0_0_c0_3 c1_c0_0_c0_3] 26 :: Fr = l') := by
 subst hn0; subst hn1_c0_0_c0_1; subst hn1_c0_0_c0_2; subst hn1_c0_0_c0_3; refine Spec.of Tryz.func72 rfl rfl ?_; unfold Q121.f at j; have j := brun j; refine sR 1 rfl (nT (sR 2 rfl ?_)); obtain ⟨q, p, j⟩ := bbind j; refine At.call rfl Q62.callee rfl rfl rfl (Q62.spec hr0 rfl hc0 hr1_c0_0_c0_1 rfl hc1_c0_0_c0_1 hr1_c0_0_c0_2 rfl hc1_c0_0_c0_2 hr1_c0_0_c0_3 rfl hc1_c0_0_c0_3 p) ?_; rintro _ _ ⟨rfl, rfl⟩; refine At.run 2 rfl (nT (At.ret ?_)); cases bret j; exact At.res (.inl rfl) rfl rfl ⟨rfl, rfl⟩

noncomputable def Q139.f (a0 : Bs) : Option Bool :=
 (Q85.f a0).bind fun p =>
 some (!p)
theorem Q139.callee : Callee Tryz.prog 75 := ⟨_, Tryz.func75, by kernel_rfl, by kernel_rfl⟩
theorem Q139.spec {a0 : Bs} {r : Bool} (j : Q139.f a0 = some r) :
 Spec Tryz.prog 75 [.string ⟨(a0).toArray⟩] R (Fr) (fun v l' => v = .bool r ∧ Fr = l') := by
 refine Spec.of Tryz.func75 rfl rfl ?_; unfold Q139.f at j; have j := brun j; refine sR 1 rfl (nT (sR 1 rfl ?_)); obtain ⟨q, p, j⟩ := bbind j; refine At.call rfl Q85.callee rfl rfl rfl (Q85.spec p) ?_; rintro _ _ ⟨rfl, rfl⟩; refine At.run 2 rfl (nT (At.ret ?_)); cases bret j; exact At.res (.inl rfl) rfl rfl ⟨rfl, rfl⟩

noncomputable def Q53.l0b (a0 : List Bs) (p : Int) : Option ((Int) ⊕ ((Unit) ⊕ (Int))) :=
 if p < (a0.length : Int) then
 if (0 : Int) ≤ p ∧ p < (a0.length : Int) then
 (Q139.f (gt a0 p)).bind fun q =>
 if q = true then
 upL (some p)
 else
 nx (IntKind.i64.wrap (p + 1))
 else none
 else
 dn (.inl ())
noncomputable def Q53.l0 (a0 : List Bs) (p : Int) : Option ((Unit) ⊕ (Int)) := iter (fun t_ : Int => Q53.l0b a0 t_) p
noncomputable def Q53.f (a0 : List Bs) : Option Int :=
 jn (Q53.l0 a0 0) (fun (_ : Unit) =>
 some (-1))
theorem Q53.callee : Callee Tryz.prog 130 := ⟨_, Tryz.func130, by kernel_rfl, by kernel_rfl⟩
theorem Q53.spec {a0 : List Bs} (hr0 : RdS Fl.bs.rep R.heap A0 a0) (hn0 : a0.length = n0) (hc0 : n0 ≤ c0) {r : Int} (j : Q53.f a0 = some r) :
 Spec Tryz.prog 130 [.slice A0 n0 c0, .func (.func 75) #[] #[]] R (Fr) (fun v l' => v = i6 r ∧ Fr = l') := by
 subst hn0; refine Spec.of Tryz.func130 rfl rfl ?_; unfold Q53.f at j; have j := brun j; refine sR 1 rfl (nT (At.seq (At.seq (At.region ?_)))); refine At.run 3 rfl (nT ?_); refine At.block ?_; obtain ⟨U, V, Z, j⟩ := bjoin j; obtain ⟨M, G, O⟩ := bsome j; clear j; unfold Q53.l0 at G; obtain ⟨I, u⟩ := Q18.1 G; clear G; refine At.loopJ (X := Int) (Y := Unit) (e0 := 0) (fun p => [(0, .slice A0 a0.length c0), (1, .func (.func 75) #[] #[]), (7, i6 (a0.length : Int)), (8, i6 p)]) (fun p => Fr) (fun m_ => fun p => iterN (fun t_ : Int => Q53.l0b a0 t_) m_ p = some M) I 0 u (fun _ => []) (fun _ => Fr) (fun _ => U (.inl ()) = some r) (fun a w e hs => ⟨e.sub ⟨rfl, rfl, rfl, rfl, trivial⟩, (by exact hs)⟩) ?_ (fun a1 => ?_)
 ·rintro _ j; have j := (V _).symm.trans j
  ·refine At.ibx ?_; refine At.thn (sR 1 rfl (nT (At.ret ?_))); cases bret j; exact At.res (.inl rfl) rfl rfl ⟨rfl, rfl⟩
 ·clear u I; rintro I p u; obtain ⟨a2, f_, a3, hf_, j⟩ := bit u; clear u; have j : (Q53.l0b a0 p).bind _ = some M := j; unfold Q53.l0b at j
  ·refine sR 1 rfl (nT (At.seq ?_)); rcases bite j with ⟨J, j⟩ | ⟨J, j⟩
   ··refine At.condT rfl (decide_eq_true J) ?_
     refine At.skip (At.thn (At.seq ?_)); refine At.block ?_; refine sR 2 rfl (nT (sR 3 rfl ?_)); obtain ⟨D, j⟩ := bnone j; refine At.y (Y.ixRd hr0 rfl rfl rfl rfl rfl rfl rfl D.1 D.2) rfl rfl rfl (At.y (Y.ldFl hr0 rfl (q := 0) rfl rfl D.1 D.2 rfl rfl rfl) rfl rfl rfl ?_); obtain ⟨a5, a4, j⟩ := bbind j; refine At.call rfl Q139.callee rfl rfl rfl (Q139.spec a4) ?_; rintro _ _ ⟨rfl, rfl⟩; refine nT ?_; rcases bite j with ⟨L, j⟩ | ⟨L, j⟩
     ··refine At.condT rfl L ?_
       refine sR 2 rfl (nT (At.ret ?_)); refine At.ibr ?_; refine At.thr ?_; have j := bupL Z O j; refine At.thr ?_; refine At.ibr ?_; refine At.thr ?_; cases bret j; exact At.res (.inl rfl) rfl rfl ⟨rfl, rfl⟩
     ··refine At.condF rfl (bn L) ?_
       refine At.skip ?_; refine At.ibn ?_; refine At.thn (At.region (At.run 2 rfl (At.nil ?_))); have j := bnx hf_ j; exact fun a w e hs => ⟨a2, (IntKind.i64.wrap (p + 1)), a3, j, e.sub ⟨rfl, rfl, rfl, rfl, trivial⟩, hs⟩
   ··refine At.condF rfl (decide_eq_false J) ?_
     refine At.exit ?_; refine At.the ?_; refine At.the ?_; exact fun a w e hs => a1 () (bdn j O) a w (e.sub trivial) hs

noncomputable def Q124.f (a0 : List Bs) : Option Bool :=
 (Q53.f a0).bind fun p =>
 some (decide (0 ≤ p))
theorem Q124.callee : Callee Tryz.prog 74 := ⟨_, Tryz.func74, by kernel_rfl, by kernel_rfl⟩
theorem Q124.spec {a0 : List Bs} (hr0 : RdS Fl.bs.rep R.heap A0 a0) (hn0 : a0.length = n0) (hc0 : n0 ≤ c0) {r : Bool} (j : Q124.f a0 = some r) :
 Spec Tryz.prog 74 [.slice A0 n0 c0, .func (.func 75) #[] #[]] R (Fr) (fun v l' => v = .bool r ∧ Fr = l') := by
 subst hn0; refine Spec.of Tryz.func74 rfl rfl ?_; unfold Q124.f at j; have j := brun j; refine sR 1 rfl (nT (sR 2 rfl ?_)); obtain ⟨q, p, j⟩ := bbind j; refine At.call rfl Q53.callee rfl rfl rfl (Q53.spec hr0 rfl hc0 p) ?_; rintro _ _ ⟨rfl, rfl⟩; refine At.run 2 rfl (nT (At.ret ?_)); cases bret j; exact At.res (.inl rfl) rfl rfl ⟨rfl, rfl⟩

noncomputable def Q31.l0b (a0 : List Int) (p : Int) : Option ((Int) ⊕ ((Unit) ⊕ (Int))) :=
 if p < (a0.length : Int) then
 if (0 : Int) ≤ p ∧ p < (a0.length : Int) then
 if gt a0 p = 0 then
 nx (IntKind.i64.wrap (p + 1))
 else
 upL (some (gt a0 p))
 else none
 else
 dn (.inl ())
noncomputable def Q31.l0 (a0 : List Int) (p : Int) : Option ((Unit) ⊕ (Int)) := iter (fun t_ : Int => Q31.l0b a0 t_) p
noncomputable def Q31.f (a0 : List Int) : Option Int :=
 jn (Q31.l0 a0 0) (fun (_ : Unit) =>
 some 0)
theorem Q31.callee : Callee Tryz.prog 131 := ⟨_, Tryz.func131, by kernel_rfl, by kernel_rfl⟩
theorem Q31.spec {a0 : List Int} (hr0 : RdS (Fl.int .i64).rep R.heap A0 a0) (hn0 : a0.length = n0) (hc0 : n0 ≤ c0) {r : Int} (j : Q31.f a0 = some r) :
 Spec Tryz.prog 131 [.slice A0 n0 c0] R (Fr) (fun v l' => v = i6 r ∧ Fr = l') := by
 subst hn0; refine Spec.of Tryz.func131 rfl rfl ?_; unfold Q31.f at j; have j := brun j; refine sR 1 rfl (nT (sR 1 rfl ?_)); refine nT (At.seq (sR 3 rfl (nT ?_))); refine At.block ?_; obtain ⟨U, V, Z, j⟩ := bjoin j; obtain ⟨M, G, O⟩ := bsome j; clear j; unfold Q31.l0 at G; obtain ⟨I, u⟩ := Q18.1 G; clear G; refine At.loopJ (X := Int) (Y := Unit) (e0 := 0) (fun p => [(3, i6 0), (6, .slice A0 a0.length c0), (7, i6 (a0.length : Int)), (8, i6 p)]) (fun p => Fr) (fun m_ => fun p => iterN (fun t_ : Int => Q31.l0b a0 t_) m_ p = some M) I 0 u (fun _ => [(3, i6 0)]) (fun _ => Fr) (fun _ => U (.inl ()) = some r) (fun a w e hs => ⟨e.sub ⟨rfl, rfl, rfl, rfl, trivial⟩, (by exact hs)⟩) ?_ (fun a1 => ?_)
 ·rintro _ j; have j := (V _).symm.trans j
  ·refine At.ibx ?_; refine At.thn (sR 2 rfl (nT (At.ret ?_))); cases bret j; exact At.res (.inl rfl) rfl rfl ⟨rfl, rfl⟩
 ·clear u I; rintro I p u; obtain ⟨a2, f_, a3, hf_, j⟩ := bit u; clear u; have j : (Q31.l0b a0 p).bind _ = some M := j; unfold Q31.l0b at j
  ·refine sR 1 rfl (nT (At.seq ?_)); rcases bite j with ⟨J, j⟩ | ⟨J, j⟩
   ··refine At.condT rfl (decide_eq_true J) ?_
     refine At.skip (At.thn (At.seq ?_)); refine At.block ?_; refine At.seq (At.region ?_); obtain ⟨D, j⟩ := bnone j; refine At.y (Y.ixRd hr0 rfl rfl rfl rfl rfl rfl rfl D.1 D.2) rfl rfl rfl (At.y (Y.ldFl hr0 rfl (q := 0) rfl rfl D.1 D.2 rfl rfl rfl) rfl rfl rfl (At.run 1 rfl (nT (sR 3 rfl ?_)))); refine nT ?_; rcases bite j with ⟨L, j⟩ | ⟨L, j⟩
     ··refine At.condF rfl (nf (decide_eq_true L)) ?_
       refine At.skip ?_; refine At.ibn ?_; refine At.thn (At.region (At.run 2 rfl (At.nil ?_))); have j := bnx hf_ j; exact fun a w e hs => ⟨a2, (IntKind.i64.wrap (p + 1)), a3, j, e.sub ⟨rfl, rfl, rfl, rfl, trivial⟩, hs⟩
     ··refine At.condT rfl (nt (decide_eq_false L)) ?_
       refine sR 2 rfl (nT (At.ret ?_)); refine At.ibr ?_; refine At.thr ?_; have j := bupL Z O j; refine At.thr ?_; refine At.ibr ?_; refine At.thr ?_; cases bret j; exact At.res (.inl rfl) rfl rfl ⟨rfl, rfl⟩
   ··refine At.condF rfl (decide_eq_false J) ?_
     refine At.exit ?_; refine At.the ?_; refine At.the ?_; exact fun a w e hs => a1 () (bdn j O) a w (e.sub ⟨rfl, trivial⟩) hs

noncomputable def Q97.f (p q u D G I : Int) : Option Int :=
 (Q66.f p D).bind fun J =>
 (Q66.f q G).bind fun L =>
 (Q66.f u I).bind fun M =>
 (Q31.f ([J, L, M] : List Int)).bind fun O =>
 some O
theorem Q97.callee : Callee Tryz.prog 77 := ⟨_, Tryz.func77, by kernel_rfl, by kernel_rfl⟩
theorem Q97.spec {p q u D G I : Int} {r : Int} (j : Q97.f p q u D G I = some r) :
 Spec Tryz.prog 77 [.agg #[i6 p, i6 q, i6 u], .agg #[i6 D, i6 G, i6 I]] R (Fr) (fun v l' => v = i6 r ∧ Fr = l') := by
 refine Spec.of Tryz.func77 rfl rfl ?_; unfold Q97.f at j; have j := brun j; refine At.seq (At.region ?_); refine At.box rfl rfl (cs := [i6 p, i6 q, i6 u]) rfl rfl (fun J => ?_); refine At.box rfl rfl (cs := [i6 D, i6 G, i6 I]) rfl rfl (fun L => ?_); refine At.run 1 rfl (nT (At.seq ?_)); refine At.held [pc L [i6 D, i6 G, i6 I] 48, pc J [i6 p, i6 q, i6 u] 48] 18 rfl ?_; refine At.H.pw 0 rfl rfl rfl rfl rfl (.c .z (.c .z .n)) ?_; refine At.H.tw 1 rfl (Y.load rfl rfl (.s .z) rfl rfl rfl) rfl rfl rfl (.c .z (.c .z .n)) ?_; refine At.H.pw 2 rfl rfl rfl rfl rfl (.c .z (.c .z .n)) ?_; refine At.H.tw 3 rfl (Y.load rfl rfl .z rfl rfl rfl) rfl rfl rfl (.c .z (.c .z .n)) ?_; refine At.H.pw 5 rfl rfl rfl rfl rfl (.c .z (.c .z .n)) ?_; refine At.H.tw 6 rfl (Y.load rfl rfl (.s .z) rfl rfl rfl) rfl rfl rfl (.c .z (.c .z .n)) ?_; refine At.H.pw 7 rfl rfl rfl rfl rfl (.c .z (.c .z .n)) ?_; refine At.H.tw 8 rfl (Y.load rfl rfl .z rfl rfl rfl) rfl rfl rfl (.c .z (.c .z .n)) ?_; refine At.H.pw 10 rfl rfl rfl rfl rfl (.c .z (.c .z .n)) ?_; refine At.H.tw 11 rfl (Y.load rfl rfl (.s .z) rfl rfl rfl) rfl rfl rfl (.c .z (.c .z .n)) ?_; refine At.H.pw 12 rfl rfl rfl rfl rfl (.c .z (.c .z .n)) ?_; refine At.H.tw 13 rfl (Y.load rfl rfl .z rfl rfl rfl) rfl rfl rfl (.c .z (.c .z .n)) ?_; refine At.H.al [4] (Q6 ?_ Q8)
 ··refine At.HO.op rfl ?_
   obtain ⟨M, O, j⟩ := bbind j; refine At.call rfl Q66.callee rfl rfl rfl (Q66.spec O) ?_; rintro _ _ ⟨rfl, rfl⟩; refine At.HO.back (.c .z (.c .z .n)) ?_; refine At.H.al [9] (Q6 ?_ Q8)
   ··refine At.HO.op rfl ?_
     obtain ⟨U, V, j⟩ := bbind j; refine At.call rfl Q66.callee rfl rfl rfl (Q66.spec V) ?_; rintro _ _ ⟨rfl, rfl⟩; refine At.HO.back (.c .z (.c .z .n)) ?_; refine At.H.al [14] (Q6 ?_ Q8)
     ··refine At.HO.op rfl ?_
       obtain ⟨X, Z, j⟩ := bbind j; refine At.call rfl Q66.callee rfl rfl rfl (Q66.spec Z) ?_; rintro _ _ ⟨rfl, rfl⟩; refine At.HO.back (.c .z (.c .z .n)) ?_; refine At.H.al [15] (Q6 ?_ Q8)
       ··refine At.HO.op rfl ?_
         refine At.lit rfl (xo := [.tmp 9, .tmp 14, .tmp 19]) (ys := ([M, U, X] : List Int)) (Fl.int .i64) rfl rfl rfl rfl rfl rfl rfl rfl rfl rfl rfl (fun a5 a6 => ?_); refine At.HO.back (.c (.s .z) (.c (.s .z) .n)) ?_; refine At.H.al [16] (Q6 ?_ Q8)
         ··refine At.HO.op rfl ?_
           refine At.freeze .z fun a7 a0 a1 a2 a8 a3 => ?_; obtain ⟨a9, a4, j⟩ := bbind j; refine At.call rfl Q31.callee rfl rfl rfl (Q31.spec a0 a1 a2 a4) ?_; rintro _ _ ⟨rfl, rfl⟩; refine At.thaw a3 ?_; refine At.HO.back (.c (.s .z) (.c (.s .z) .n)) ?_; refine At.H.pw 17 rfl rfl rfl rfl rfl (.c (.s .z) (.c (.s .z) .n)) ?_; refine At.H.done (by kernel_rfl) ?_; refine At.thn (At.ret (At.drop .z (At.drop .z (At.drop .z ?_)))); cases bret j; exact At.res (.inl rfl) rfl rfl ⟨rfl, rfl⟩

noncomputable def Q61.l0b (a0 : List Q3) (p : Int) : Option ((Int) ⊕ ((Unit) ⊕ (Bool))) :=
 if p < (a0.length : Int) then
 if (0 : Int) ≤ IntKind.i64.wrap (p - 1) ∧ IntKind.i64.wrap (p - 1) < (a0.length : Int) then
 if (0 : Int) ≤ p ∧ p < (a0.length : Int) then
 (Q97.f ((gt a0 (IntKind.i64.wrap (p - 1))).From) ((gt a0 (IntKind.i64.wrap (p - 1))).Action) ((gt a0 (IntKind.i64.wrap (p - 1))).To) ((gt a0 p).From) ((gt a0 p).Action) ((gt a0 p).To)).bind fun q =>
 if 0 ≤ q then
 upL (some false)
 else
 nx (IntKind.i64.wrap (p + 1))
 else none
 else none
 else
 dn (.inl ())
noncomputable def Q61.l0 (a0 : List Q3) (p : Int) : Option ((Unit) ⊕ (Bool)) := iter (fun t_ : Int => Q61.l0b a0 t_) p
noncomputable def Q61.f (a0 : List Q3) : Option Bool :=
 jn (Q61.l0 a0 1) (fun (_ : Unit) =>
 some true)
theorem Q61.callee : Callee Tryz.prog 76 := ⟨_, Tryz.func76, by kernel_rfl, by kernel_rfl⟩
theorem Q61.spec {a0 : List Q3} (hr0 : RdS Q3.fl.rep R.heap A0 a0) (hn0 : a0.length = n0) (hc0 : n0 ≤ c0) {r : Bool} (j : Q61.f a0 = some r) :
 Spec Tryz.prog 76 [.slice A0 n0 c0, .func (.func 77) #[] #[]] R (Fr) (fun v l' => v = .bool r ∧ Fr = l') := by
 subst hn0; refine Spec.of Tryz.func76 rfl rfl ?_; unfold Q61.f at j; have j := brun j; refine sR 1 rfl (nT (At.seq (At.seq (At.region ?_)))); refine At.run 1 rfl (nT ?_); refine At.block ?_; obtain ⟨V, Z, a1, j⟩ := bjoin j; obtain ⟨O, I, U⟩ := bsome j; clear j; unfold Q61.l0 at I; obtain ⟨J, u⟩ := Q18.1 I; clear I; refine At.loopJ (X := Int) (Y := Unit) (e0 := 0) (fun p => [(0, .slice A0 a0.length c0), (1, .func (.func 77) #[] #[]), (5, i6 p)]) (fun p => Fr) (fun m_ => fun p => iterN (fun t_ : Int => Q61.l0b a0 t_) m_ p = some O) J 1 u (fun _ => []) (fun _ => Fr) (fun _ => V (.inl ()) = some r) (fun a w e hs => ⟨e.sub ⟨rfl, rfl, rfl, trivial⟩, (by exact hs)⟩) ?_ (fun a2 => ?_)
 ·rintro _ j; have j := (Z _).symm.trans j
  ·refine At.ibx ?_; refine At.thn (sR 1 rfl (nT (At.ret ?_))); cases bret j; exact At.res (.inl rfl) rfl rfl ⟨rfl, rfl⟩
 ·clear u J; rintro J p u; obtain ⟨a3, f_, a4, hf_, j⟩ := bit u; clear u; have j : (Q61.l0b a0 p).bind _ = some O := j; unfold Q61.l0b at j
  ·refine At.seq (sR 4 rfl (nT ?_)); rcases bite j with ⟨L, j⟩ | ⟨L, j⟩
   ··refine At.condT rfl (decide_eq_true L) ?_
     refine At.skip (At.thn (At.seq ?_)); refine At.block ?_; refine At.seq ?_; refine At.quiet (by kernel_rfl) ?_; refine At.Quiet.run 4 rfl ?_; obtain ⟨D, j⟩ := bnone j; refine At.Quiet.y (Y.ixRd hr0 rfl rfl rfl rfl rfl rfl rfl D.1 D.2) rfl rfl rfl ?_; refine At.Quiet.y (Y.ldFl hr0 rfl (q := 0) rfl rfl D.1 D.2 rfl rfl rfl) rfl rfl rfl ?_; refine At.Quiet.run 2 rfl ?_; obtain ⟨G, j⟩ := bnone j; refine At.Quiet.y (Y.ixRd hr0 rfl rfl rfl rfl rfl rfl rfl G.1 G.2) rfl rfl rfl ?_; refine At.Quiet.y (Y.ldFl hr0 rfl (q := 0) rfl rfl G.1 G.2 rfl rfl rfl) rfl rfl rfl ?_; obtain ⟨a6, a5, j⟩ := bbind j; refine At.Quiet.call rfl Q97.callee rfl rfl rfl (Q97.spec a5) (fun _ _ h_ => ⟨h_.1, fun _ hs => h_.2 ▸ hs⟩) ?_; refine At.Quiet.run 1 rfl (At.Quiet.nil (At.thn ?_)); rcases bite j with ⟨M, j⟩ | ⟨M, j⟩
     ··refine At.condT rfl (decide_eq_true M) ?_
       refine sR 1 rfl (nT (At.ret ?_)); refine At.ibr ?_; refine At.thr ?_; have j := bupL a1 U j; refine At.thr ?_; refine At.ibr ?_; refine At.thr ?_; cases bret j; exact At.res (.inl rfl) rfl rfl ⟨rfl, rfl⟩
     ··refine At.condF rfl (decide_eq_false M) ?_
       refine At.skip ?_; refine At.ibn ?_; refine At.thn (At.region (At.run 3 rfl (At.nil ?_))); have j := bnx hf_ j; exact fun a w e hs => ⟨a3, (IntKind.i64.wrap (p + 1)), a4, j, e.sub ⟨rfl, rfl, rfl, trivial⟩, hs⟩
   ··refine At.condF rfl (decide_eq_false L) ?_
     refine At.exit ?_; refine At.the ?_; refine At.the ?_; exact fun a w e hs => a2 () (bdn j U) a w (e.sub trivial) hs

noncomputable def Q117.f (a0 a1 : Bs) : Option Int :=
 some (Lib.compareBytes a0 a1)
theorem Q117.callee : Callee Tryz.prog 132 := ⟨_, Tryz.func132, by kernel_rfl, by kernel_rfl⟩
theorem Q117.spec {a0 a1 : Bs} {r : Int} (j : Q117.f a0 a1 = some r) :
 Spec Tryz.prog 132 [.string ⟨(a0).toArray⟩, .string ⟨(a1).toArray⟩] R (Fr) (fun v l' => v = i6 r ∧ Fr = l') := by
 refine Spec.of Tryz.func132 rfl rfl ?_; unfold Q117.f at j; have j := brun j; refine sR 1 rfl (nT (sR 2 rfl ?_)); refine At.y (Y.ext bytealg_cmpstring.ext rfl rfl (fun w => Q293 _ _ w)) rfl rfl rfl ?_; refine At.run 1 rfl (nT (At.ret ?_)); cases bret j; exact At.res (.inl rfl) rfl rfl ⟨rfl, rfl⟩

noncomputable def Q99.f (a0 a1 : Bs) : Option Int :=
 (Q117.f a0 a1).bind fun p =>
 some p
theorem Q99.callee : Callee Tryz.prog 79 := ⟨_, Tryz.func79, by kernel_rfl, by kernel_rfl⟩
theorem Q99.spec {a0 a1 : Bs} {r : Int} (j : Q99.f a0 a1 = some r) :
 Spec Tryz.prog 79 [.string ⟨(a0).toArray⟩, .string ⟨(a1).toArray⟩] R (Fr) (fun v l' => v = i6 r ∧ Fr = l') := by
 refine Spec.of Tryz.func79 rfl rfl ?_; unfold Q99.f at j; have j := brun j; refine sR 1 rfl (nT (sR 2 rfl ?_)); obtain ⟨q, p, j⟩ := bbind j; refine At.call rfl Q117.callee rfl rfl rfl (Q117.spec p) ?_; rintro _ _ ⟨rfl, rfl⟩; refine At.run 1 rfl (nT (At.ret ?_)); cases bret j; exact At.res (.inl rfl) rfl rfl ⟨rfl, rfl⟩

noncomputable def Q55.l0b (a0 : List Bs) (p : Int) : Option ((Int) ⊕ ((Unit) ⊕ (Bool))) :=
 if p < (a0.length : Int) then
 if (0 : Int) ≤ IntKind.i64.wrap (p - 1) ∧ IntKind.i64.wrap (p - 1) < (a0.length : Int) then
 if (0 : Int) ≤ p ∧ p < (a0.length : Int) then
 (Q99.f (gt a0 (IntKind.i64.wrap (p - 1))) (gt a0 p)).bind fun q =>
 if 0 ≤ q then
 upL (some false)
 else
 nx (IntKind.i64.wrap (p + 1))
 else none
 else none
 else
 dn (.inl ())
noncomputable def Q55.l0 (a0 : List Bs) (p : Int) : Option ((Unit) ⊕ (Bool)) := iter (fun t_ : Int => Q55.l0b a0 t_) p
noncomputable def Q55.f (a0 : List Bs) : Option Bool :=
 jn (Q55.l0 a0 1) (fun (_ : Unit) =>
 some true)
theorem Q55.callee : Callee Tryz.prog 78 := ⟨_, Tryz.func78, by kernel_rfl, by kernel_rfl⟩
theorem Q55.spec {a0 : List Bs} (hr0 : RdS Fl.bs.rep R.heap A0 a0) (hn0 : a0.length = n0) (hc0 : n0 ≤ c0) {r : Bool} (j : Q55.f a0 = some r) :
 Spec Tryz.prog 78 [.slice A0 n0 c0, .func (.func 79) #[] #[]] R (Fr) (fun v l' => v = .bool r ∧ Fr = l') := by
 subst hn0; refine Spec.of Tryz.func78 rfl rfl ?_; unfold Q55.f at j; have j := brun j; refine sR 1 rfl (nT (At.seq (At.seq (At.region ?_)))); refine At.run 1 rfl (nT ?_); refine At.block ?_; obtain ⟨V, Z, a1, j⟩ := bjoin j; obtain ⟨O, I, U⟩ := bsome j; clear j; unfold Q55.l0 at I; obtain ⟨J, u⟩ := Q18.1 I; clear I; refine At.loopJ (X := Int) (Y := Unit) (e0 := 0) (fun p => [(0, .slice A0 a0.length c0), (1, .func (.func 79) #[] #[]), (5, i6 p)]) (fun p => Fr) (fun m_ => fun p => iterN (fun t_ : Int => Q55.l0b a0 t_) m_ p = some O) J 1 u (fun _ => []) (fun _ => Fr) (fun _ => V (.inl ()) = some r) (fun a w e hs => ⟨e.sub ⟨rfl, rfl, rfl, trivial⟩, (by exact hs)⟩) ?_ (fun a2 => ?_)
 ·rintro _ j; have j := (Z _).symm.trans j
  ·refine At.ibx ?_; refine At.thn (sR 1 rfl (nT (At.ret ?_))); cases bret j; exact At.res (.inl rfl) rfl rfl ⟨rfl, rfl⟩
 ·clear u J; rintro J p u; obtain ⟨a3, f_, a4, hf_, j⟩ := bit u; clear u; have j : (Q55.l0b a0 p).bind _ = some O := j; unfold Q55.l0b at j
  ·refine At.seq (sR 4 rfl (nT ?_)); rcases bite j with ⟨L, j⟩ | ⟨L, j⟩
   ··refine At.condT rfl (decide_eq_true L) ?_
     refine At.skip (At.thn (At.seq ?_)); refine At.block ?_; refine At.seq ?_; refine At.quiet (by kernel_rfl) ?_; refine At.Quiet.run 4 rfl ?_; obtain ⟨D, j⟩ := bnone j; refine At.Quiet.y (Y.ixRd hr0 rfl rfl rfl rfl rfl rfl rfl D.1 D.2) rfl rfl rfl ?_; refine At.Quiet.y (Y.ldFl hr0 rfl (q := 0) rfl rfl D.1 D.2 rfl rfl rfl) rfl rfl rfl ?_; refine At.Quiet.run 2 rfl ?_; obtain ⟨G, j⟩ := bnone j; refine At.Quiet.y (Y.ixRd hr0 rfl rfl rfl rfl rfl rfl rfl G.1 G.2) rfl rfl rfl ?_; refine At.Quiet.y (Y.ldFl hr0 rfl (q := 0) rfl rfl G.1 G.2 rfl rfl rfl) rfl rfl rfl ?_; obtain ⟨a6, a5, j⟩ := bbind j; refine At.Quiet.call rfl Q99.callee rfl rfl rfl (Q99.spec a5) (fun _ _ h_ => ⟨h_.1, fun _ hs => h_.2 ▸ hs⟩) ?_; refine At.Quiet.run 1 rfl (At.Quiet.nil (At.thn ?_)); rcases bite j with ⟨M, j⟩ | ⟨M, j⟩
     ··refine At.condT rfl (decide_eq_true M) ?_
       refine sR 1 rfl (nT (At.ret ?_)); refine At.ibr ?_; refine At.thr ?_; have j := bupL a1 U j; refine At.thr ?_; refine At.ibr ?_; refine At.thr ?_; cases bret j; exact At.res (.inl rfl) rfl rfl ⟨rfl, rfl⟩
     ··refine At.condF rfl (decide_eq_false M) ?_
       refine At.skip ?_; refine At.ibn ?_; refine At.thn (At.region (At.run 3 rfl (At.nil ?_))); have j := bnx hf_ j; exact fun a w e hs => ⟨a3, (IntKind.i64.wrap (p + 1)), a4, j, e.sub ⟨rfl, rfl, rfl, trivial⟩, hs⟩
   ··refine At.condF rfl (decide_eq_false L) ?_
     refine At.exit ?_; refine At.the ?_; refine At.the ?_; exact fun a w e hs => a2 () (bdn j U) a w (e.sub trivial) hs

noncomputable def Q114.f (p : Bs) (D : List Int) (q : Bs) (G : List Int) : Option Int :=
 (Q99.f p q).bind fun u =>
 some u
theorem Q114.callee : Callee Tryz.prog 81 := ⟨_, Tryz.func81, by kernel_rfl, by kernel_rfl⟩
theorem Q114.spec {u D : Bs} {p q : List Int} (hr0_1 : RdS (Fl.int .i64).rep R.heap A0_1 p) (hn0_1 : p.length = n0_1) (hc0_1 : n0_1 ≤ c0_1) (hr1_1 : RdS (Fl.int .i64).rep R.heap A1_1 q) (hn1_1 : q.length = n1_1) (hc1_1 : n1_1 ≤ c1_1) {r : Int} (j : Q114.f u p D q = some r) :
 Spec Tryz.prog 81 [.agg #[.string ⟨(u).toArray⟩, .slice A0_1 n0_1 c0_1], .agg #[.string ⟨(D).toArray⟩, .slice A1_1 n1_1 c1_1]] R (Fr) (fun v l' => v = i6 r ∧ Fr = l') := by
 subst hn0_1; subst hn1_1; refine Spec.of Tryz.func81 rfl rfl ?_; unfold Q114.f at j; have j := brun j; refine At.seq (At.region ?_); refine At.box rfl rfl (cs := [.string ⟨(u).toArray⟩, .slice A0_1 p.length c0_1]) rfl rfl (fun I => ?_); refine At.box rfl rfl (cs := [.string ⟨(D).toArray⟩, .slice A1_1 q.length c1_1]) rfl rfl (fun J => ?_); refine At.run 1 rfl (nT (sR 1 rfl (At.y (Y.load rfl rfl (.s .z) rfl rfl rfl) rfl rfl rfl (At.run 1 rfl ?_)))); refine At.y (Y.load rfl rfl .z rfl rfl rfl) rfl rfl rfl ?_; obtain ⟨L, G, j⟩ := bbind j; refine At.call rfl Q99.callee rfl rfl rfl (Q99.spec G) ?_; rintro _ _ ⟨rfl, rfl⟩; refine At.run 1 rfl (nT (At.ret (At.drop .z (At.drop .z ?_)))); cases bret j; exact At.res (.inl rfl) rfl rfl ⟨rfl, rfl⟩

noncomputable def Q56.l0b (a0 : List Q4) (p : Int) : Option ((Int) ⊕ ((Unit) ⊕ (Bool))) :=
 if p < (a0.length : Int) then
 if (0 : Int) ≤ IntKind.i64.wrap (p - 1) ∧ IntKind.i64.wrap (p - 1) < (a0.length : Int) then
 if (0 : Int) ≤ p ∧ p < (a0.length : Int) then
 (Q114.f ((gt a0 (IntKind.i64.wrap (p - 1))).Name) ((gt a0 (IntKind.i64.wrap (p - 1))).States) ((gt a0 p).Name) ((gt a0 p).States)).bind fun q =>
 if 0 ≤ q then
 upL (some false)
 else
 nx (IntKind.i64.wrap (p + 1))
 else none
 else none
 else
 dn (.inl ())
noncomputable def Q56.l0 (a0 : List Q4) (p : Int) : Option ((Unit) ⊕ (Bool)) := iter (fun t_ : Int => Q56.l0b a0 t_) p
noncomputable def Q56.f (a0 : List Q4) : Option Bool :=
 jn (Q56.l0 a0 1) (fun (_ : Unit) =>
 some true)
theorem Q56.callee : Callee Tryz.prog 80 := ⟨_, Tryz.func80, by kernel_rfl, by kernel_rfl⟩
theorem Q56.spec {a0 : List Q4} (hr0 : RdS Q4.rep R.heap A0 a0) (hn0 : a0.length = n0) (hc0 : n0 ≤ c0) {r : Bool} (j : Q56.f a0 = some r) :
 Spec Tryz.prog 80 [.slice A0 n0 c0, .func (.func 81) #[] #[]] R (Fr) (fun v l' => v = .bool r ∧ Fr = l') := by
 subst hn0; refine Spec.of Tryz.func80 rfl rfl ?_; unfold Q56.f at j; have j := brun j; refine sR 1 rfl (nT (At.seq (At.seq (At.region ?_)))); refine At.run 1 rfl (nT ?_); refine At.block ?_; obtain ⟨U, V, Z, j⟩ := bjoin j; obtain ⟨M, G, O⟩ := bsome j; clear j; unfold Q56.l0 at G; obtain ⟨I, q⟩ := Q18.1 G; clear G; refine At.loopJ (X := Int) (Y := Unit) (e0 := 0) (fun p => [(0, .slice A0 a0.length c0), (1, .func (.func 81) #[] #[]), (5, i6 p)]) (fun p => Fr) (fun m_ => fun p => iterN (fun t_ : Int => Q56.l0b a0 t_) m_ p = some M) I 1 q (fun _ => []) (fun _ => Fr) (fun _ => U (.inl ()) = some r) (fun a w e hs => ⟨e.sub ⟨rfl, rfl, rfl, trivial⟩, (by exact hs)⟩) ?_ (fun a1 => ?_)
 ·rintro _ j; have j := (V _).symm.trans j
  ·refine At.ibx ?_; refine At.thn (sR 1 rfl (nT (At.ret ?_))); cases bret j; exact At.res (.inl rfl) rfl rfl ⟨rfl, rfl⟩
 ·clear q I; rintro I p q; obtain ⟨a2, f_, a3, hf_, j⟩ := bit q; clear q; have j : (Q56.l0b a0 p).bind _ = some M := j; unfold Q56.l0b at j
  ·refine At.seq (sR 4 rfl (nT ?_)); rcases bite j with ⟨J, j⟩ | ⟨J, j⟩
   ··refine At.condT rfl (decide_eq_true J) ?_
     refine At.skip (At.thn (At.seq ?_)); refine At.block ?_; refine At.seq ?_; refine At.quiet (by kernel_rfl) ?_; refine At.Quiet.run 4 rfl ?_; obtain ⟨u, j⟩ := bnone j; refine At.Quiet.y (Y.ixRd hr0 rfl rfl rfl rfl rfl rfl rfl u.1 u.2) rfl rfl rfl ?_; obtain ⟨b5, a4, a5⟩ := RdS.whole (P := Tryz.prog) hr0 (Sub.refl _) rfl u.1 u.2; obtain ⟨_, _, rfl, rfl, ⟨b6, b7, rfl, a6, a7⟩⟩ := a4; refine At.Quiet.y (a5 rfl rfl rfl rfl) rfl rfl rfl ?_; refine At.Quiet.run 2 rfl ?_; obtain ⟨D, j⟩ := bnone j; refine At.Quiet.y (Y.ixRd hr0 rfl rfl rfl rfl rfl rfl rfl D.1 D.2) rfl rfl rfl ?_; obtain ⟨b8, a8, a9⟩ := RdS.whole (P := Tryz.prog) hr0 (Sub.refl _) rfl D.1 D.2; obtain ⟨_, _, rfl, rfl, ⟨b9, c4, rfl, b2, b3⟩⟩ := a8; refine At.Quiet.y (a9 rfl rfl rfl rfl) rfl rfl rfl ?_; obtain ⟨c5, b4, j⟩ := bbind j; refine At.Quiet.call rfl Q114.callee rfl rfl rfl (Q114.spec a7 rfl a6 b3 rfl b2 b4) (fun _ _ h_ => ⟨h_.1, fun _ hs => h_.2 ▸ hs⟩) ?_; refine At.Quiet.run 1 rfl (At.Quiet.nil (At.thn ?_)); rcases bite j with ⟨L, j⟩ | ⟨L, j⟩
     ··refine At.condT rfl (decide_eq_true L) ?_
       refine sR 1 rfl (nT (At.ret ?_)); refine At.ibr ?_; refine At.thr ?_; have j := bupL Z O j; refine At.thr ?_; refine At.ibr ?_; refine At.thr ?_; cases bret j; exact At.res (.inl rfl) rfl rfl ⟨rfl, rfl⟩
     ··refine At.condF rfl (decide_eq_false L) ?_
       refine At.skip ?_; refine At.ibn ?_; refine At.thn (At.region (At.run 3 rfl (At.nil ?_))); have j := bnx hf_ j; exact fun a w e hs => ⟨a2, (IntKind.i64.wrap (p + 1)), a3, j, e.sub ⟨rfl, rfl, rfl, trivial⟩, hs⟩
   ··refine At.condF rfl (decide_eq_false J) ?_
     refine At.exit ?_; refine At.the ?_; refine At.the ?_; exact fun a w e hs => a1 () (bdn j O) a w (e.sub trivial) hs

noncomputable def Q25.l1b (u : Int) (D : List Bs) (G : List Q3) (q : List Q4) (p : Int) : Option ((Int) ⊕ ((Unit) ⊕ (Bool))) :=
 if p < (q.length : Int) then
 if (0 : Int) ≤ p ∧ p < (q.length : Int) then
 (Q85.f ((gt q p).Name)).bind fun I =>
 jn (
 if I = true then
 (Q64.f ((gt q p).States)).bind fun J =>
 some (.inl (!J))
 else
 some (.inl true)) (fun (L : Bool) =>
 jn (
 if L = true then
 some (.inl true)
 else
 (Q121.f ((gt q p).States) u D G q).bind fun M =>
 some (.inl M)) (fun (O : Bool) =>
 if O = true then
 upL (some false)
 else
 nx (IntKind.i64.wrap (p + 1))))
 else none
 else
 dn (.inl ())
noncomputable def Q25.l1 (p : Int) (q : List Bs) (u : List Q3) (D : List Q4) (G : Int) : Option ((Unit) ⊕ (Bool)) := iter (fun t_ : Int => Q25.l1b p q u D t_) G
noncomputable def Q25.l0b (D : Int) (u : List Bs) (p : List Q3) (G : List Q4) (I q : Int) : Option ((Int × Int) ⊕ ((Int) ⊕ (Bool))) :=
 if q < (p.length : Int) then
 if (0 : Int) ≤ q ∧ q < (p.length : Int) then
 (Q81.f ((gt p q).From) D u p G).bind fun J =>
 jn (
 if J = true then
 (Q81.f ((gt p q).To) D u p G).bind fun L =>
 some (.inl (!L))
 else
 some (.inl true)) (fun (M : Bool) =>
 jn (
 if M = true then
 some (.inl true)
 else
 some (.inl (decide ((gt p q).Action < 0)))) (fun (O : Bool) =>
 jn (
 if O = true then
 some (.inl true)
 else
 some (.inl (decide ((u.length : Int) ≤ (gt p q).Action)))) (fun (U : Bool) =>
 if U = true then
 upL (some false)
 else
 if (0 : Int) ≤ (gt p q).Action then
 nx (bor .u8 I (Bw.shl .u8 1 ((gt p q).Action)), IntKind.i64.wrap (q + 1))
 else none)))
 else none
 else
 dn (.inl I)
noncomputable def Q25.l0 (p : Int) (q : List Bs) (u : List Q3) (D : List Q4) (G I : Int) : Option ((Int) ⊕ (Bool)) := iter (fun t_ : Int × Int => Q25.l0b p q u D t_.1 t_.2) (G, I)
noncomputable def Q25.f (q : Int) (p : List Bs) (u : List Q3) (D : List Q4) : Option Bool :=
 jn (
 if q < 1 then
 some (.inl true)
 else
 some (.inl (decide (24 < q)))) (fun (G : Bool) =>
 jn (
 if G = true then
 some (.inl true)
 else
 some (.inl (decide (8 < (p.length : Int))))) (fun (I : Bool) =>
 jn (
 if I = true then
 some (.inl true)
 else
 some (.inl (decide (8 < (D.length : Int))))) (fun (J : Bool) =>
 jn (
 if J = true then
 some (.inl true)
 else
 some (.inl (decide (200 < (u.length : Int))))) (fun (L : Bool) =>
 if L = true then
 some false
 else
 jn (Q25.l0 q p u D 0 0) (fun (M : Int) =>
 jn (Q25.l1 q p u D 0) (fun (_ : Unit) =>
 (Q124.f p).bind fun O =>
 jn (
 if O = true then
 some (.inl true)
 else
 if (0 : Int) ≤ (p.length : Int) then
 some (.inl (!(decide (M = IntKind.u8.wrap ((Bw.shl .u8 1 (p.length : Int)) - 1)))))
 else none) (fun (U : Bool) =>
 if U = true then
 some false
 else
 (Q61.f u).bind fun V =>
 jn (
 if V = true then
 (Q55.f p).bind fun X =>
 some (.inl X)
 else
 some (.inl false)) (fun (Z : Bool) =>
 jn (
 if Z = true then
 (Q56.f D).bind fun a0 =>
 some (.inl a0)
 else
 some (.inl false)) (fun (a1 : Bool) =>
 some a1)))))))))
theorem Q25.callee : Callee Tryz.prog 32 := ⟨_, Tryz.func32, by kernel_rfl, by kernel_rfl⟩
theorem Q25.spec {M : Int} {G : List Bs} {p : List Q3} {u : List Q4} (hr0_1 : RdS Fl.bs.rep R.heap A0_1 G) (hn0_1 : G.length = n0_1) (hc0_1 : n0_1 ≤ c0_1) (hr0_2 : RdS Q3.fl.rep R.heap A0_2 p) (hn0_2 : p.length = n0_2) (hc0_2 : n0_2 ≤ c0_2) (hr0_3 : RdS Q4.rep R.heap A0_3 u) (hn0_3 : u.length = n0_3) (hc0_3 : n0_3 ≤ c0_3) {r : Bool} (j : Q25.f M G p u = some r) :
 Spec Tryz.prog 32 [.agg #[i6 M, .slice A0_1 n0_1 c0_1, .slice A0_2 n0_2 c0_2, .slice A0_3 n0_3 c0_3]] R (Fr) (fun v l' => v = .bool r ∧ Fr = l') := by
 subst hn0_1; subst hn0_2; subst hn0_3; refine Spec.of Tryz.func32 rfl rfl ?_; unfold Q25.f at j; have j := brun j; refine At.seq (At.region ?_); refine At.box rfl rfl (cs := [i6 M, .slice A0_1 G.length c0_1, .slice A0_2 p.length c0_2, .slice A0_3 u.length c0_3]) rfl rfl (fun D => ?_); refine At.run 1 rfl (nT (At.seq (sR 1 rfl (At.y (Y.load rfl rfl .z rfl rfl rfl) rfl rfl rfl ?_)))); refine At.run 2 rfl ?_; obtain ⟨g5, g6, p4, j⟩ := bjoin j; let T4 : HProp := pc D [i6 M, .slice A0_1 G.length c0_1, .slice A0_2 p.length c0_2, .slice A0_3 u.length c0_3] 26; refine At.joinO 4 (X := Bool) (fun V => [(1, bp D), (16, .bool V)]) (fun V => T4 :: Fr) (fun V => g5 (.inl V) = some r) ?_ (fun e6 => ?_)
 ·rintro V j; have j := (g6 _).symm.trans j
  ·refine At.run 1 rfl ?_; obtain ⟨g7, g8, p5, j⟩ := bjoin j; refine At.joinO 5 (X := Bool) (fun Z => [(1, bp D), (22, .bool Z)]) (fun Z => T4 :: Fr) (fun Z => g7 (.inl Z) = some r) ?_ (fun e7 => ?_)
   ·rintro Z j; have j := (g8 _).symm.trans j
    ·refine At.run 1 rfl ?_; obtain ⟨g9, h0, p6, j⟩ := bjoin j; refine At.joinO 5 (X := Bool) (fun a0 => [(1, bp D), (28, .bool a0)]) (fun a0 => T4 :: Fr) (fun a0 => g9 (.inl a0) = some r) ?_ (fun e8 => ?_)
     ·rintro a0 j; have j := (h0 _).symm.trans j
      ·refine At.run 1 rfl ?_; obtain ⟨h1, h2, p7, j⟩ := bjoin j; refine At.joinO 5 (X := Bool) (fun a1 => [(1, bp D), (34, .bool a1)]) (fun a1 => T4 :: Fr) (fun a1 => h1 (.inl a1) = some r) ?_ (fun e9 => ?_)
       ·rintro a1 j; have j := (h2 _).symm.trans j
        ·refine nT ?_; rcases bite j with ⟨b9, j⟩ | ⟨b9, j⟩
         ··refine At.condT rfl b9 ?_
           refine sR 1 rfl (nT (At.ret (At.thr (At.drop .z ?_)))); cases bret j; exact At.res (.inl rfl) rfl rfl ⟨rfl, rfl⟩
         ··refine At.condF rfl (bn b9) ?_
           refine At.skip (At.thn (sR 1 rfl ?_)); refine At.alloc rfl rfl rfl (fun O => ?_); refine At.store rfl rfl rfl rfl .z rfl rfl rfl (.c .n) ?_; refine nT (sR 1 rfl (nT (At.seq ?_))); refine sR 1 rfl (At.y (Y.load rfl rfl (.s .z) rfl rfl rfl) rfl rfl rfl (At.run 2 rfl (nT ?_))); refine At.block ?_; obtain ⟨h3, h4, h5, j⟩ := bjoin j; obtain ⟨a2, c4, f0⟩ := bsome j; clear j; unfold Q25.l0 at c4; obtain ⟨c5, a3⟩ := Q18.1 c4; clear c4; let T5 : HProp := pc O [.func (.func 68) #[] #[bp D]] 50; refine At.loopJ (X := Int × Int) (Y := Int) (e0 := 0) (fun s_ => [(1, bp D), (3, bp O), (4, .int .u8 s_.1), (37, .slice A0_2 p.length c0_2), (38, i6 (p.length : Int)), (39, i6 s_.2)]) (fun s_ => T5 :: T4 :: Fr) (fun m_ => fun s_ => iterN (fun t_ : Int × Int => Q25.l0b M G p u t_.1 t_.2) m_ (s_.1, s_.2) = some a2) c5 (0, 0) a3 (fun L => [(1, bp D), (3, bp O), (4, .int .u8 L)]) (fun L => T5 :: T4 :: Fr) (fun L => h3 (.inl L) = some r) (fun a w e hs => ⟨e.sub ⟨rfl, rfl, rfl, rfl, rfl, rfl, trivial⟩, (by exact hs)⟩) ?_ (fun h6 => ?_)
           ·rintro L j; have j := (h4 _).symm.trans j
            ·refine At.ibx ?_; refine At.thn (At.seq (sR 1 rfl (At.y (Y.load rfl rfl (.s .z) rfl rfl rfl) rfl rfl rfl (At.run 2 rfl (At.nil ?_))))); refine At.thn ?_; refine At.block ?_; obtain ⟨h7, h8, h9, j⟩ := bjoin j; obtain ⟨b5, c6, f3⟩ := bsome j; clear j; unfold Q25.l1 at c6; obtain ⟨c7, a4⟩ := Q18.1 c6; clear c6; refine At.loopJ (X := Int) (Y := Unit) (e0 := 2) (fun I => [(1, bp D), (3, bp O), (4, .int .u8 L), (75, .slice A0_3 u.length c0_3), (76, i6 (u.length : Int)), (77, i6 I)]) (fun I => T5 :: T4 :: Fr) (fun m_ => fun I => iterN (fun t_ : Int => Q25.l1b M G p u t_) m_ I = some b5) c7 0 a4 (fun _ => [(1, bp D), (4, .int .u8 L)]) (fun _ => T5 :: T4 :: Fr) (fun _ => h7 (.inl ()) = some r) (fun a w e hs => ⟨e.sub ⟨rfl, rfl, rfl, rfl, rfl, rfl, trivial⟩, (by exact hs)⟩) ?_ (fun k0 => ?_)
             ·rintro _ j; have j := (h8 _).symm.trans j
              ·refine At.ibx ?_; refine At.thn (At.seq (sR 1 rfl (At.y (Y.load rfl rfl (.s .z) rfl rfl rfl) rfl rfl rfl ?_))); obtain ⟨p8, k1, j⟩ := bbind j; refine At.call rfl Q124.callee rfl rfl rfl (Q124.spec hr0_1 rfl hc0_1 k1) ?_; rintro _ _ ⟨rfl, rfl⟩; refine At.run 1 rfl ?_; obtain ⟨k2, k3, p9, j⟩ := bjoin j; refine At.joinO 8 (X := Bool) (fun a5 => [(1, bp D), (109, .bool a5)]) (fun a5 => T5 :: T4 :: Fr) (fun a5 => k2 (.inl a5) = some r) ?_ (fun f4 => ?_)
               ·rintro a5 j; have j := (k3 _).symm.trans j
                ·refine nT ?_; rcases bite j with ⟨c8, j⟩ | ⟨c8, j⟩
                 ··refine At.condT rfl c8 ?_
                   refine sR 1 rfl (nT (At.ret (At.thr (At.drop .z ?_)))); refine At.drop .z ?_; cases bret j; exact At.res (.inl rfl) rfl rfl ⟨rfl, rfl⟩
                 ··refine At.condF rfl (bn c8) ?_
                   refine At.skip (At.thn (sR 1 rfl (At.y (Y.load rfl rfl (.s .z) rfl rfl rfl) rfl rfl rfl ?_))); obtain ⟨q0, k4, j⟩ := bbind j; refine At.call rfl Q61.callee rfl rfl rfl (Q61.spec hr0_2 rfl hc0_2 k4) ?_; rintro _ _ ⟨rfl, rfl⟩; refine At.run 1 rfl ?_; obtain ⟨k5, k6, q1, j⟩ := bjoin j; refine At.joinO 4 (X := Bool) (fun a6 => [(1, bp D), (117, .bool a6)]) (fun a6 => T5 :: T4 :: Fr) (fun a6 => k5 (.inl a6) = some r) ?_ (fun f5 => ?_)
                   ·rintro a6 j; have j := (k6 _).symm.trans j
                    ·refine At.run 1 rfl ?_; obtain ⟨k7, k8, q2, j⟩ := bjoin j; refine At.joinO 4 (X := Bool) (fun a7 => [(122, .bool a7)]) (fun a7 => T5 :: T4 :: Fr) (fun a7 => k7 (.inl a7) = some r) ?_ (fun f6 => ?_)
                     ·rintro a7 j; have j := (k8 _).symm.trans j
                      ·refine At.run 1 rfl (nT (At.ret (At.drop .z (At.drop .z ?_)))); cases bret j; exact At.res (.inl rfl) rfl rfl ⟨rfl, rfl⟩
                     ··rcases bite j with ⟨c9, j⟩ | ⟨c9, j⟩
                       ··refine At.know (t := 118) rfl c9 ?_
                         refine At.run 1 rfl (At.y (Y.load rfl rfl (.s .z) rfl rfl rfl) rfl rfl rfl ?_); obtain ⟨k9, l5, j⟩ := bbind j; refine At.call rfl Q56.callee rfl rfl rfl (Q56.spec hr0_3 rfl hc0_3 l5) ?_; rintro _ _ ⟨rfl, rfl⟩; refine At.run 1 rfl ?_; exact At.of (f6 k9 j) ⟨rfl, trivial⟩
                       ··refine At.know (t := 118) rfl (bn c9) ?_
                         refine At.run 4 rfl ?_; exact At.of (f6 false j) ⟨rfl, trivial⟩
                   ··rcases bite j with ⟨d0, j⟩ | ⟨d0, j⟩
                     ··refine At.know (t := 113) rfl d0 ?_
                       refine At.run 1 rfl (At.y (Y.load rfl rfl (.s .z) rfl rfl rfl) rfl rfl rfl ?_); obtain ⟨l6, l7, j⟩ := bbind j; refine At.call rfl Q55.callee rfl rfl rfl (Q55.spec hr0_1 rfl hc0_1 l7) ?_; rintro _ _ ⟨rfl, rfl⟩; refine At.run 1 rfl ?_; exact At.of (f5 l6 j) ⟨rfl, rfl, trivial⟩
                     ··refine At.know (t := 113) rfl (bn d0) ?_
                       refine At.run 4 rfl ?_; exact At.of (f5 false j) ⟨rfl, rfl, trivial⟩
               ··rcases bite j with ⟨d1, j⟩ | ⟨d1, j⟩
                 ··refine At.know (t := 101) rfl d1 ?_
                   refine At.run 8 rfl ?_; exact At.of (f4 true j) ⟨rfl, rfl, trivial⟩
                 ··refine At.know (t := 101) rfl (bn d1) ?_
                   refine At.run 2 rfl (At.y (Y.load rfl rfl (.s .z) rfl rfl rfl) rfl rfl rfl (At.run 1 rfl ?_)); obtain ⟨l8, j⟩ := bnone j; refine At.y (Y.shl rfl rfl l8) rfl rfl rfl (At.run 3 rfl ?_); exact At.of (f4 (!(decide (L = IntKind.u8.wrap ((Bw.shl .u8 1 (G.length : Int)) - 1)))) j) ⟨rfl, rfl, trivial⟩
             ·clear a4 c7; rintro c7 I a4; obtain ⟨l9, f_, m0, hf_, j⟩ := bit a4; clear a4; have j : (Q25.l1b M G p u I).bind _ = some b5 := j; unfold Q25.l1b at j
              ·refine sR 1 rfl (nT (At.seq ?_)); rcases bite j with ⟨d2, j⟩ | ⟨d2, j⟩
               ··refine At.condT rfl (decide_eq_true d2) ?_
                 refine At.skip (At.thn (At.seq ?_)); refine At.block ?_; refine At.seq (At.region ?_); obtain ⟨b6, j⟩ := bnone j; refine At.y (Y.ixRd hr0_3 rfl rfl rfl rfl rfl rfl rfl b6.1 b6.2) rfl rfl rfl ?_; obtain ⟨q3, m1, m2⟩ := RdS.whole (P := Tryz.prog) hr0_3 (Sub.refl _) rfl b6.1 b6.2; obtain ⟨_, _, rfl, rfl, ⟨m3, m4, rfl, f7, f8⟩⟩ := m1; refine At.y (m2 rfl rfl rfl rfl) rfl rfl rfl ?_; refine At.alloc rfl rfl rfl (fun f9 => ?_); refine At.store rfl rfl rfl rfl .z rfl rfl rfl (.c (.c .n)) ?_; refine nT (sR 1 rfl (At.y (Y.load rfl rfl .z rfl rfl rfl) rfl rfl rfl ?_)); obtain ⟨q4, m5, j⟩ := bbind j; refine At.call rfl Q85.callee rfl rfl rfl (Q85.spec m5) ?_; rintro _ _ ⟨rfl, rfl⟩; refine At.run 2 rfl ?_; obtain ⟨m6, m7, q5, j⟩ := bjoin j; let T6 : HProp := pc f9 [.string ⟨((gt u I).Name).toArray⟩, .slice m3 ((gt u I).States.length) m4] 41; refine At.joinO 5 (X := Bool) (fun a8 => [(1, bp D), (3, bp O), (4, .int .u8 L), (8, bp f9), (75, .slice A0_3 u.length c0_3), (76, i6 (u.length : Int)), (77, i6 I), (90, .bool a8)]) (fun a8 => T6 :: T5 :: T4 :: Fr) (fun a8 => m6 (.inl a8) = some b5) ?_ (fun g0 => ?_)
                 ·rintro a8 j; have j := (m7 _).symm.trans j
                  ·refine At.run 1 rfl ?_; obtain ⟨m8, m9, q6, j⟩ := bjoin j; refine At.joinO 5 (X := Bool) (fun a9 => [(1, bp D), (3, bp O), (4, .int .u8 L), (75, .slice A0_3 u.length c0_3), (76, i6 (u.length : Int)), (77, i6 I), (96, .bool a9)]) (fun a9 => T6 :: T5 :: T4 :: Fr) (fun a9 => m8 (.inl a9) = some b5) ?_ (fun g1 => ?_)
                   ·rintro a9 j; have j := (m9 _).symm.trans j
                    ·refine nT ?_; rcases bite j with ⟨d3, j⟩ | ⟨d3, j⟩
                     ··refine At.condT rfl d3 ?_
                       refine sR 1 rfl (nT (At.ret ?_)); refine At.ibr ?_; refine At.thr ?_; have j := bupL h9 f3 j; refine At.thr ?_; refine At.ibr ?_; refine At.thr (At.drop .z (At.drop .z (At.drop .z ?_))); cases bret j; exact At.res (.inl rfl) rfl rfl ⟨rfl, rfl⟩
                     ··refine At.condF rfl (bn d3) ?_
                       refine At.skip ?_; refine At.ibn ?_; refine At.thn (At.region (At.run 2 rfl (At.nil (At.drop .z ?_)))); have j := bnx hf_ j; exact fun a w e hs => ⟨l9, (IntKind.i64.wrap (I + 1)), m0, j, e.sub ⟨rfl, rfl, rfl, rfl, rfl, rfl, trivial⟩, hs⟩
                   ··rcases bite j with ⟨d4, j⟩ | ⟨d4, j⟩
                     ··refine At.know (t := 91) rfl d4 ?_
                       refine At.run 5 rfl ?_; exact At.of (g1 true j) ⟨rfl, rfl, rfl, rfl, rfl, rfl, rfl, trivial⟩
                     ··refine At.know (t := 91) rfl (bn d4) ?_
                       refine At.run 1 rfl (At.y (Y.load rfl rfl .z rfl rfl rfl) rfl rfl rfl (At.run 1 rfl (At.f2 (At.f2 ?_)))); obtain ⟨n2, n3, j⟩ := bbind j; refine At.call rfl Q121.callee rfl rfl rfl (Q121.spec f8 rfl f7 hr0_1 rfl hc0_1 hr0_2 rfl hc0_2 hr0_3 rfl hc0_3 n3) ?_; rintro _ _ ⟨rfl, rfl⟩; refine At.run 1 rfl (At.f1 (At.f1 (At.f2 ?_))); exact At.of (g1 n2 j) ⟨rfl, rfl, rfl, rfl, rfl, rfl, rfl, trivial⟩
                 ··rcases bite j with ⟨d5, j⟩ | ⟨d5, j⟩
                   ··refine At.know (t := 85) rfl (nf d5) ?_
                     refine At.run 1 rfl (At.y (Y.load rfl rfl .z rfl rfl rfl) rfl rfl rfl ?_); obtain ⟨n4, n5, j⟩ := bbind j; refine At.call rfl Q64.callee rfl rfl rfl (Q64.spec f8 rfl f7 n5) ?_; rintro _ _ ⟨rfl, rfl⟩; refine At.run 2 rfl ?_; exact At.of (g0 (!n4) j) ⟨rfl, rfl, rfl, rfl, rfl, rfl, rfl, rfl, trivial⟩
                   ··refine At.know (t := 85) rfl (nt (bn d5)) ?_
                     refine At.run 5 rfl ?_; exact At.of (g0 true j) ⟨rfl, rfl, rfl, rfl, rfl, rfl, rfl, rfl, trivial⟩
               ··refine At.condF rfl (decide_eq_false d2) ?_
                 refine At.exit ?_; refine At.the ?_; refine At.the ?_; exact fun a w e hs => k0 () (bdn j f3) a w (e.sub ⟨rfl, rfl, trivial⟩) hs
           ·clear a3 c5; rintro c5 ⟨U, J⟩ a3; obtain ⟨n6, f_, n7, hf_, j⟩ := bit a3; clear a3; have j : (Q25.l0b M G p u U J).bind _ = some a2 := j; unfold Q25.l0b at j
            ·refine sR 1 rfl (nT (At.seq ?_)); rcases bite j with ⟨d6, j⟩ | ⟨d6, j⟩
             ··refine At.condT rfl (decide_eq_true d6) ?_
               refine At.skip (At.thn (At.seq ?_)); refine At.block ?_; refine At.seq (At.region ?_); obtain ⟨b7, j⟩ := bnone j; refine At.y (Y.ixRd hr0_2 rfl rfl rfl rfl rfl rfl rfl b7.1 b7.2) rfl rfl rfl (At.y (Y.ldFl hr0_2 rfl (q := 0) rfl rfl b7.1 b7.2 rfl rfl rfl) rfl rfl rfl ?_); refine At.alloc rfl rfl rfl (fun b8 => ?_); refine At.store rfl rfl rfl rfl .z rfl rfl rfl (.c (.c (.c .n))) ?_; refine nT (At.seq (At.seq (At.region (At.y (Y.load rfl rfl (.s .z) rfl rfl rfl) rfl rfl rfl (At.run 1 rfl (At.y (Y.load rfl rfl .z rfl rfl rfl) rfl rfl rfl ?_)))))); refine At.f2 ?_; obtain ⟨q7, n8, j⟩ := bbind j; refine At.call rfl Q81.callee rfl rfl rfl (Q81.spec hr0_1 rfl hc0_1 hr0_2 rfl hc0_2 hr0_3 rfl hc0_3 n8) ?_; rintro _ _ ⟨rfl, rfl⟩; refine At.run 2 rfl ?_; obtain ⟨n9, o0, q8, j⟩ := bjoin j; let T7 : HProp := pc b8 [i6 ((gt p J).From), i6 ((gt p J).Action), i6 ((gt p J).To)] 48; refine At.joinO 6 (X := Bool) (fun b2 => [(1, bp D), (3, bp O), (4, .int .u8 U), (6, bp b8), (37, .slice A0_2 p.length c0_2), (38, i6 (p.length : Int)), (39, i6 J), (54, .bool b2)]) (fun b2 => T4 :: T7 :: T5 :: Fr) (fun b2 => n9 (.inl b2) = some a2) ?_ (fun g2 => ?_)
               ·rintro b2 j; have j := (o0 _).symm.trans j
                ·refine At.run 1 rfl ?_; obtain ⟨o7, o8, q9, j⟩ := bjoin j; refine At.joinO 4 (X := Bool) (fun b3 => [(1, bp D), (3, bp O), (4, .int .u8 U), (6, bp b8), (37, .slice A0_2 p.length c0_2), (38, i6 (p.length : Int)), (39, i6 J), (59, .bool b3)]) (fun b3 => T4 :: T7 :: T5 :: Fr) (fun b3 => o7 (.inl b3) = some a2) ?_ (fun g3 => ?_)
                 ·rintro b3 j; have j := (o8 _).symm.trans j
                  ·refine At.run 1 rfl ?_; obtain ⟨o9, p0, r0, j⟩ := bjoin j; refine At.joinO 7 (X := Bool) (fun b4 => [(1, bp D), (3, bp O), (4, .int .u8 U), (6, bp b8), (37, .slice A0_2 p.length c0_2), (38, i6 (p.length : Int)), (39, i6 J), (67, .bool b4)]) (fun b4 => T4 :: T7 :: T5 :: Fr) (fun b4 => o9 (.inl b4) = some a2) ?_ (fun g4 => ?_)
                   ·rintro b4 j; have j := (p0 _).symm.trans j
                    ·refine nT ?_; rcases bite j with ⟨d7, j⟩ | ⟨d7, j⟩
                     ··refine At.condT rfl d7 ?_
                       refine sR 1 rfl (nT (At.ret (At.thr ?_))); refine At.ibr ?_; refine At.thr ?_; have j := bupL h5 f0 j; refine At.thr ?_; refine At.ibr ?_; refine At.thr (At.drop .z (At.drop .z (At.drop .z ?_))); cases bret j; exact At.res (.inl rfl) rfl rfl ⟨rfl, rfl⟩
                     ··refine At.condF rfl (bn d7) ?_
                       refine At.skip (At.thn (At.region (At.run 2 rfl (At.y (Y.load rfl rfl (.s .z) rfl rfl rfl) rfl rfl rfl ?_)))); obtain ⟨p1, j⟩ := bnone j; refine At.y (Y.shl rfl rfl p1) rfl rfl rfl (At.run 2 rfl (At.nil ?_)); refine At.ibn ?_; refine At.thn (At.region (At.run 2 rfl (At.nil (At.drop (.s .z) (At.f1 ?_))))); have j := bnx hf_ j; exact fun a w e hs => ⟨n6, (bor .u8 U (Bw.shl .u8 1 ((gt p J).Action)), IntKind.i64.wrap (J + 1)), n7, j, e.sub ⟨rfl, rfl, rfl, rfl, rfl, rfl, trivial⟩, hs⟩
                   ··rcases bite j with ⟨d8, j⟩ | ⟨d8, j⟩
                     ··refine At.know (t := 60) rfl d8 ?_
                       refine At.run 7 rfl ?_; exact At.of (g4 true j) ⟨rfl, rfl, rfl, rfl, rfl, rfl, rfl, rfl, trivial⟩
                     ··refine At.know (t := 60) rfl (bn d8) ?_
                       refine At.run 1 rfl (At.y (Y.load rfl rfl (.s .z) rfl rfl rfl) rfl rfl rfl (At.run 1 rfl (At.y (Y.load rfl rfl .z rfl rfl rfl) rfl rfl rfl (At.run 3 rfl ?_)))); exact At.of (g4 (decide ((G.length : Int) ≤ (gt p J).Action)) j) ⟨rfl, rfl, rfl, rfl, rfl, rfl, rfl, rfl, trivial⟩
                 ··rcases bite j with ⟨d9, j⟩ | ⟨d9, j⟩
                   ··refine At.know (t := 55) rfl d9 ?_
                     refine At.run 4 rfl ?_; exact At.of (g3 true j) ⟨rfl, rfl, rfl, rfl, rfl, rfl, rfl, rfl, trivial⟩
                   ··refine At.know (t := 55) rfl (bn d9) ?_
                     refine At.run 1 rfl (At.y (Y.load rfl rfl (.s .z) rfl rfl rfl) rfl rfl rfl (At.run 2 rfl ?_)); exact At.of (g3 (decide ((gt p J).Action < 0)) j) ⟨rfl, rfl, rfl, rfl, rfl, rfl, rfl, rfl, trivial⟩
               ··rcases bite j with ⟨e1, j⟩ | ⟨e1, j⟩
                 ··refine At.know (t := 48) rfl (nf e1) ?_
                   refine At.y (Y.load rfl rfl (.s (.s .z)) rfl rfl rfl) rfl rfl rfl (At.run 1 rfl (At.y (Y.load rfl rfl (.s .z) rfl rfl rfl) rfl rfl rfl ?_)); obtain ⟨p2, p3, j⟩ := bbind j; refine At.call rfl Q81.callee rfl rfl rfl (Q81.spec hr0_1 rfl hc0_1 hr0_2 rfl hc0_2 hr0_3 rfl hc0_3 p3) ?_; rintro _ _ ⟨rfl, rfl⟩; refine At.run 2 rfl ?_; exact At.of (g2 (!p2) j) ⟨rfl, rfl, rfl, rfl, rfl, rfl, rfl, rfl, trivial⟩
                 ··refine At.know (t := 48) rfl (nt (bn e1)) ?_
                   refine At.run 6 rfl ?_; exact At.of (g2 true j) ⟨rfl, rfl, rfl, rfl, rfl, rfl, rfl, rfl, trivial⟩
             ··refine At.condF rfl (decide_eq_false d6) ?_
               refine At.exit ?_; refine At.the ?_; refine At.the ?_; exact fun a w e hs => h6 U (bdn j f0) a w (e.sub ⟨rfl, rfl, rfl, trivial⟩) hs
       ··rcases bite j with ⟨e2, j⟩ | ⟨e2, j⟩
         ··refine At.know (t := 29) rfl e2 ?_
           refine At.run 5 rfl ?_; exact At.of (e9 true j) ⟨rfl, rfl, trivial⟩
         ··refine At.know (t := 29) rfl (bn e2) ?_
           refine At.run 1 rfl (At.y (Y.load rfl rfl .z rfl rfl rfl) rfl rfl rfl (At.run 3 rfl ?_)); exact At.of (e9 (decide (200 < (p.length : Int))) j) ⟨rfl, rfl, trivial⟩
     ··rcases bite j with ⟨e3, j⟩ | ⟨e3, j⟩
       ··refine At.know (t := 23) rfl e3 ?_
         refine At.run 5 rfl ?_; exact At.of (e8 true j) ⟨rfl, rfl, trivial⟩
       ··refine At.know (t := 23) rfl (bn e3) ?_
         refine At.run 1 rfl (At.y (Y.load rfl rfl .z rfl rfl rfl) rfl rfl rfl (At.run 3 rfl ?_)); exact At.of (e8 (decide (8 < (u.length : Int))) j) ⟨rfl, rfl, trivial⟩
   ··rcases bite j with ⟨e4, j⟩ | ⟨e4, j⟩
     ··refine At.know (t := 17) rfl e4 ?_
       refine At.run 5 rfl ?_; exact At.of (e7 true j) ⟨rfl, rfl, trivial⟩
     ··refine At.know (t := 17) rfl (bn e4) ?_
       refine At.run 1 rfl (At.y (Y.load rfl rfl .z rfl rfl rfl) rfl rfl rfl (At.run 3 rfl ?_)); exact At.of (e7 (decide (8 < (G.length : Int))) j) ⟨rfl, rfl, trivial⟩
 ··rcases bite j with ⟨e5, j⟩ | ⟨e5, j⟩
   ··refine At.know (t := 12) rfl (decide_eq_true e5) ?_
     refine At.run 4 rfl ?_; exact At.of (e6 true j) ⟨rfl, rfl, trivial⟩
   ··refine At.know (t := 12) rfl (decide_eq_false e5) ?_
     refine At.run 1 rfl (At.y (Y.load rfl rfl .z rfl rfl rfl) rfl rfl rfl (At.run 2 rfl ?_)); exact At.of (e6 (decide (24 < M)) j) ⟨rfl, rfl, trivial⟩






end Go.Bw
namespace Go.Bw
open Go Go.RowKit

theorem TypeOk.map {P : Program} {t : Nat} {i : TI} (h : TypeOk P t i) {k e : Nat} (hk : i.k = .map k e) : P.underlying t = some (.map k e) := by
 obtain ⟨d, hd, hk'⟩ := h.under; rw [hk] at hk'; cases d <;> simp [tk] at hk'; rw [hk'.1, hk'.2] at hd; exact hd
def Fl.ov {α : Type} (F : Fl α) (x : α) : Value := (F.enc x).headD .nilFunc
def Fl.av {α : Type} (F : Fl α) (x : α) : Value := .agg (F.enc x).toArray
section
variable {κ ν : Type}
def mget [DecidableEq κ] : List (κ × ν) → κ → Option ν
 | [], _ => none
 | p :: r, k => if p.1 = k then some p.2 else mget r k
def mset [DecidableEq κ] : List (κ × ν) → κ → ν → List (κ × ν)
 | [], k, v => [(k, v)]
 | p :: r, k, v => if p.1 = k then (k, v) :: r else p :: mset r k v
structure KeyOk (P : Program) (t : Nat) (kv : κ → Value) [DecidableEq κ] : Prop where
 chk : ∀ k w em, (Instr.checkKey em 10000 t (kv k)).run P w = .ok () w
 find : ∀ (es : List MapEntry) (ks : List κ) k w, es.map (·.key) = ks.map kv → (Instr.findKey t (kv k) es).run P w = .ok ((ks.findIdx? (fun a => decide (a = k))).bind fun i => es[i]?.map fun e => (i, e.val)) w
 same : ∀ k, Instr.sameBits 10000 (kv k) (kv k) = true
def mapo (kv : κ → Value) (vv : ν → Value) (b : Nat) (kvs : List (κ × ν)) : HProp := fun h =>
 ∃ (es : List MapEntry) (clock : Nat), h b = some (.map es.toArray clock) ∧ es.map (fun e => (e.key, e.val)) = kvs.map (fun p => (kv p.1, vv p.2)) ∧ es.Pairwise (fun x y => x.born < y.born) ∧ ∀ e ∈ es, e.born < clock
theorem Q257 (s : Bs) : ∀ (es : List MapEntry) (ks : List Bs) (i : Nat), es.map (·.key) = ks.map (fun x => Value.string ⟨x.toArray⟩) →
 Instr.findNow .string (.string ⟨s.toArray⟩) es i = some ((ks.findIdx? (fun a => decide (a = s))).bind fun j => es[j]?.map fun e => (i + j, e.val))
 | [], [], _, _ => rfl
 | [], _ :: _, _, h => by simp at h
 | _ :: _, [], _, h => by simp at h
 | e :: es, k :: ks, i, h => by
  simp only [List.map_cons, List.cons.injEq] at h
  unfold Instr.findNow
  have hb : ((ByteArray.mk s.toArray) == (ByteArray.mk k.toArray)) = decide (k = s) := by
   rw [Q192]
   by_cases hks : k = s
   ·subst hks; rw [decide_eq_true rfl]; exact Q166.2 rfl
   ·rw [decide_eq_false hks]
    exact Bool.eq_false_iff.2 fun hc => hks (Q166.1 hc).symm
  rw [h.1]
  simp only [Instr.sameNow, hb]
  rw [List.findIdx?_cons]
  by_cases hks : k = s
  ·rw [decide_eq_true hks]
   simp
  ·rw [decide_eq_false hks]
   simp only [Bool.false_eq_true, if_false]
   rw [Q257 s es ks (i + 1) h.2]
   cases hf : ks.findIdx? (fun a => decide (a = s)) with
   | none => rfl
   | some j =>
    simp
    congr 1
    funext e
    congr 1
    omega
theorem KeyOk.str {P : Program} [Tys P] {t : Nat} {i : TI} (hi : ti P t = some i) (hk : i.k = .string) : KeyOk P t Fl.bs.ov := by
 have hu := (Q14 hi).string hk
 refine ⟨fun k w em => ?_, fun es ks k w h => ?_, fun k => ?_⟩
 ·exact MapKept.run_checkKey (k := .string ⟨k.toArray⟩) hu (by simp [MapKept.IsKey]) em 9999
 ·have := Q257 k es ks 0 h
  simp only [Nat.zero_add] at this
  exact MapKept.run_findKey (k := .string ⟨k.toArray⟩) hu this
 ·show Instr.sameBits (9999 + 1) (.string ⟨k.toArray⟩) (.string ⟨k.toArray⟩) = true
  simp only [Instr.sameBits]
  rw [Q192]
  exact Q166.2 rfl
theorem Q278 [DecidableEq κ] {kv : κ → Value} {vv : ν → Value} : ∀ {es : List MapEntry} {kvs : List (κ × ν)} {k : κ}, es.map (fun e => (e.key, e.val)) = kvs.map (fun p => (kv p.1, vv p.2)) →
 (((kvs.map (·.1)).findIdx? (fun a => decide (a = k))).bind fun i => es[i]?.map fun e => (i, e.val)).map (·.2) = (mget kvs k).map vv
 | [], [], _, _ => rfl
 | [], _ :: _, _, h => by simp at h
 | _ :: _, [], _, h => by simp at h
 | e :: es, p :: kvs, k, h => by
  simp only [List.map_cons, List.cons.injEq, Prod.mk.injEq] at h
  rw [List.map_cons, List.findIdx?_cons]
  unfold mget
  by_cases hk : p.1 = k
  ·rw [if_pos hk, decide_eq_true hk]
   simp [h.1.2]
  ·rw [if_neg hk, decide_eq_false hk]
   simp only [Bool.false_eq_true, if_false]
   rw [← Q278 (k := k) h.2]
   cases (kvs.map (·.1)).findIdx? (fun a => decide (a = k)) with
   | none => rfl
   | some j => simp; rfl
theorem Q217 {kv : κ → Value} {vv : ν → Value} {es : List MapEntry} {kvs : List (κ × ν)} (h : es.map (fun e => (e.key, e.val)) = kvs.map (fun p => (kv p.1, vv p.2))) : es.map (·.key) = (kvs.map (·.1)).map kv := by
 have := congrArg (List.map (·.1)) h
 simpa [List.map_map, Function.comp_def] using this
end
section
variable {P : Program} [Tys P] {os : List Oper} {Q : Exit → Act → World → Prop} {rest : List Oper} {n : Nat} {ds : List Deferred} {R : Res} {env : List (Nat × Value)} {l l' : List HProp}
variable {d ty : Nat} {pos : String} {af : Array Edge} {g : Option (Nat × Bool)} {κ ν : Type} [DecidableEq κ] {kv : κ → Value} {vv : ν → Value} {kvs : List (κ × ν)} {b t kt et : Nat} {K : Act → World → Prop} {dd : Option Nat}
theorem Q189 {w : World} (hs : sat R (mapo kv vv b kvs :: l) w) : ∃ (es : List MapEntry) (clock : Nat), w.heap[b]? = some (.map es.toArray clock) ∧ es.map (fun e => (e.key, e.val)) = kvs.map (fun p => (kv p.1, vv p.2)) ∧ es.Pairwise (fun x y => x.born < y.born) ∧ ∀ e ∈ es, e.born < clock := by
 obtain ⟨h1, ⟨es, clock, a, r⟩, s⟩ := hs.head
 exact ⟨es, clock, s _ _ a, r⟩
theorem At.makeMap (kv : κ → Value) (vv : ν → Value) (hg : grd os env g = some true) (hd : Nat.blt d n = true)
 (h : ∀ b, At n ds R ((d, .map (some b)) :: env) (mapo kv vv b [] :: l) (wpList P os.toArray Q rest)) :
 At n ds R env l (wpList P os.toArray Q (⟨some d, .makeMap t none, ty, pos, af, g⟩ :: rest)) := Q76 hg rfl hd fun a w e hs => by
 refine ⟨_, _, _, ?_, (hs.alloc (.map #[] 0)).imp fun h p => ⟨[], 0, p, rfl, List.Pairwise.nil, fun e he => by cases he⟩, h _⟩
 simp [execOp, Instr.makeMap]
theorem Q297 {w : World} {ii : TI} {z : ν} (hi : ti P t = some ii) (hk : ii.k = .map kt et) (ko : KeyOk P kt kv) (hz : ((P.info? et).bind fun x => x.zero) = some (vv z)) (hs : sat R (mapo kv vv b kvs :: l) w) (k : κ) (ok : Bool) :
 (Instr.lookup t (.map (some b)) (kv k) ok).run P w = .ok (if ok then .tuple #[vv ((mget kvs k).getD z), .bool (mget kvs k).isSome] else vv ((mget kvs k).getD z)) w := by
 obtain ⟨es, clock, hb, hm, _⟩ := Q189 hs
 have hu := (Q14 hi).map hk
 have hf := ko.find es (kvs.map (·.1)) k w (Q217 hm)
 have hg := Q278 (k := k) hm
 have hgo : (getObj b).run P w = .ok (.map es.toArray clock) w := MapKept.run_getObj_map hb
 simp only [Instr.lookup, Sem.run_bind, run_underlying hu, Result.andThen, hgo, Sem.run_pure, ko.chk, hf]
 cases hr : ((kvs.map (·.1)).findIdx? (fun a => decide (a = k))).bind fun i => es[i]?.map fun e => (i, e.val) with
 | none =>
  rw [hr] at hg
  have hgn : mget kvs k = none := by cases hq : mget kvs k with | none => rfl | some v => rw [hq] at hg; cases hg
  obtain ⟨x, hx, hx2⟩ := Option.bind_eq_some_iff.1 hz
  rw [hgn]
  cases ok <;> simp [zeroValue, typeInfo, hx, hx2]
 | some p =>
  obtain ⟨i, v⟩ := p
  rw [hr] at hg
  cases hq : mget kvs k with
  | none => rw [hq] at hg; cases hg
  | some v' =>
   rw [hq] at hg
   have hv : v = vv v' := by simpa using hg
   subst hv
   cases ok <;> simp
theorem Y.lookup {x y : Operand} {k : κ} {v : Value} {ii : TI} {z : ν} (f : Frt l (mapo kv vv b kvs) l') (hi : ti P t = some ii) (hk : ii.k = .map kt et) (ko : KeyOk P kt kv) (hz : ((P.info? et).bind fun x => x.zero) = some (vv z))
 (hx : ev env x = some (.map (some b))) (hy : ev env y = some v) (hv : v = kv k) :
 Y P n ds R env l ⟨dd, .lookup t x y false, ty, pos, af, g⟩ (vv ((mget kvs k).getD z)) := fun a w e hs => by
 subst hv
 have := Q297 hi hk ko hz (hs.frt f) k false
 simp only [execOp, e.ev hx, e.ev hy, Sem.run_bind, this, Result.andThen, Sem.run_pure]
 rfl
theorem Q199 {es : List MapEntry} (h : es.map (fun e => (e.key, e.val)) = kvs.map (fun p => (kv p.1, vv p.2))) : es.length = kvs.length := by
 have := congrArg List.length h
 simpa using this
theorem Y.lenMap {x : Operand} {ii : TI} (f : Frt l (mapo kv vv b kvs) l') (hi : ti P t = some ii) (hk : ii.k = .map kt et) (hx : ev env x = some (.map (some b))) :
 Y P n ds R env l ⟨dd, .call ⟨.builtin .len, #[x], #[t]⟩, ty, pos, af, g⟩ (.int .i64 (kvs.length : Int)) := fun a w e hs => by
 obtain ⟨es, clock, hb, hm, _⟩ := Q189 (hs.frt f)
 have hu := (Q14 hi).map hk
 have hgo : (getObj b).run P w = .ok (.map es.toArray clock) w := MapKept.run_getObj_map hb
 simp [execOp, resolve, invoke, builtin, Builtin.len_, e.ev hx, run_underlying hu, hgo, Result.andThen, goInt, Q199 hm]
theorem set_mset {es : List MapEntry} {kvs : List (κ × ν)} {k : κ} {v : ν} (h : es.map (fun e => (e.key, e.val)) = kvs.map (fun p => (kv p.1, vv p.2))) :
 (match ((kvs.map (·.1)).findIdx? (fun a => decide (a = k))).bind fun i => es[i]?.map fun e => (i, e.val) with
  | some (i, _) => (es.modify i fun e => { e with key := kv k, val := vv v }).map (fun e => (e.key, e.val))
  | none => es.map (fun e => (e.key, e.val)) ++ [(kv k, vv v)]) = (mset kvs k v).map (fun p => (kv p.1, vv p.2)) := by
 induction kvs generalizing es with
 | nil =>
  cases es with
  | nil => rfl
  | cons e es => simp at h
 | cons p kvs ih =>
  cases es with
  | nil => simp at h
  | cons e es =>
   simp only [List.map_cons, List.cons.injEq, Prod.mk.injEq] at h
   rw [List.map_cons, List.findIdx?_cons]
   unfold mset
   by_cases hk : p.1 = k
   ·rw [if_pos hk, decide_eq_true hk]
    simp [h.2]
   ·rw [if_neg hk, decide_eq_false hk]
    simp only [Bool.false_eq_true, if_false]
    have := ih h.2
    cases hf : (kvs.map (·.1)).findIdx? (fun a => decide (a = k)) with
    | none =>
     rw [hf] at this
     simp at this ⊢
     exact ⟨h.1, this⟩
    | some j =>
     rw [hf] at this
     simp at this ⊢
     have hj : j < es.length := by
      have := (List.findIdx?_eq_some_iff_getElem.1 hf).1
      simp at this
      have h3 := Q199 h.2
      omega
     rw [List.getElem?_eq_getElem hj] at this ⊢
     simp at this ⊢
     exact ⟨h.1, this⟩
theorem Q252 {es : List MapEntry} {i : Nat} {f : MapEntry → MapEntry} (hf : ∀ e, (f e).born = e.born) : (es.modify i f).map (·.born) = es.map (·.born) := by
 apply List.ext_getElem?
 intro j
 rw [List.getElem?_map, List.getElem?_map, List.getElem?_modify]
 cases es[j]? with
 | none => rfl
 | some e => by_cases h : i = j <;> simp [h, hf]
theorem At.mapUpdate {x y z : Operand} {k : κ} {v : ν} {u u' : Value} {ii : TI} (hg : grd os env g = some true) (f : Frt l (mapo kv vv b kvs) l') (hi : ti P t = some ii) (hk : ii.k = .map kt et) (ko : KeyOk P kt kv)
 (hx : ev env x = some (.map (some b))) (hy : ev env y = some u) (hu : u = kv k) (hz : ev env z = some u') (hu' : u' = vv v)
 (h : At n ds R env (mapo kv vv b (mset kvs k v) :: l') (wpList P os.toArray Q rest)) :
 At n ds R env l (wpList P os.toArray Q (⟨none, .mapUpdate t x y z, ty, pos, af, g⟩ :: rest)) := op_sk hg rfl fun a w e hs => by
 subst hu hu'
 have hs1 := hs.frt f
 obtain ⟨es, clock, hb, hm, hbn, hcl⟩ := Q189 hs1
 have hun := (Q14 hi).map hk
 have hf := ko.find es (kvs.map (·.1)) k w (Q217 hm)
 have hset := set_mset (k := k) (v := v) hm
 have hgo : (getObj b).run P w = .ok (.map es.toArray clock) w := MapKept.run_getObj_map hb
 have hso : ∀ o, (setObj b o).run P w = .ok () { w with heap := w.heap.setIfInBounds b o } := fun o => MapKept.run_setObj_map o hb
 have hlt : b < w.heap.size := (Array.getElem?_eq_some_iff.1 hb).1
 have fin : ∀ (es' : List MapEntry) (clock' : Nat), es'.map (fun e => (e.key, e.val)) = (mset kvs k v).map (fun p => (kv p.1, vv p.2)) → es'.Pairwise (fun x y => x.born < y.born) → (∀ e ∈ es', e.born < clock') →
  sat R (mapo kv vv b (mset kvs k v) :: l') { w with heap := w.heap.setIfInBounds b (.map es'.toArray clock') } := fun es' clock' h1 h2 h3 => by
  obtain ⟨hh, ⟨_, _, hp, _⟩, s, kk⟩ := hs1.upd
  refine kk _ (single b (.map es'.toArray clock')) _ ⟨es', clock', Q205 _ _, h1, h2, h3⟩ rfl rfl rfl (Nat.le_refl _) (fun x o hx hn => ?_) (fun x o hx => ?_) (fun x o hx => ?_)
  ·have hne : b ≠ x := fun hxb => by subst hxb; rw [hp] at hn; cases hn
   show (w.heap.setIfInBounds b _)[x]? = _
   rw [Array.getElem?_setIfInBounds_ne hne]; exact hx
  ·obtain ⟨rfl, rfl⟩ := Q111 hx
   show (w.heap.setIfInBounds x _)[x]? = _
   simp [hlt]
  ·obtain ⟨rfl, rfl⟩ := Q111 hx; exact .inl ⟨_, hp⟩
 cases hr : ((kvs.map (·.1)).findIdx? (fun a => decide (a = k))).bind fun i => es[i]?.map fun e => (i, e.val) with
 | none =>
  rw [hr] at hset hf
  refine ⟨_, _, ?_, fin (es ++ [{ key := kv k, val := vv v, born := clock }]) (clock + 1) (by simpa using hset) ?_ ?_, h⟩
  ·simp [execOp, e.ev hx, e.ev hy, e.ev hz, Instr.mapUpdate, run_underlying hun, Result.andThen, hgo, ko.chk, hf, hso]
  ·rw [List.pairwise_append]
   exact ⟨hbn, by simp, fun x hx y hy => by simp at hy; subst hy; exact hcl x hx⟩
  ·intro e he
   rcases List.mem_append.1 he with he | he
   ·have := hcl e he; omega
   ·simp at he; subst he; exact Nat.lt_succ_self _
 | some p =>
  obtain ⟨i, v0⟩ := p
  rw [hr] at hset hf
  obtain ⟨j, hj, hj2⟩ := Option.bind_eq_some_iff.1 hr
  obtain ⟨e1, he1, he2⟩ := Option.map_eq_some_iff.1 hj2
  simp only [Prod.mk.injEq] at he2
  obtain ⟨rfl, rfl⟩ := he2
  have hkey : e1.key = kv k := by
   have hq := congrArg (fun l => l[j]?) (Q217 hm)
   simp only [List.getElem?_map, he1, Option.map_some] at hq
   obtain ⟨hl, hd, _⟩ := List.findIdx?_eq_some_iff_getElem.1 hj
   rw [← List.getElem?_map, List.getElem?_eq_getElem hl] at hq
   have hd' := of_decide_eq_true hd
   rw [hd'] at hq
   simpa using hq
  have hst : (Instr.keyThatStays (kv k) (kv k)).run P w = .ok (kv k) w := by simp [Instr.keyThatStays, ko.same]
  refine ⟨_, _, ?_, fin (es.modify j fun e => { e with key := kv k, val := vv v }) clock hset ?_ ?_, h⟩
  ·simp only [execOp, e.ev hx, e.ev hy, e.ev hz, Instr.mapUpdate, Sem.run_bind, run_underlying hun, Result.andThen, hgo, ko.chk, hf, List.getElem?_toArray, he1, Option.map_some, hkey, Option.getD_some, hst, hso, Sem.run_pure]
   simp
  ·have := Q252 (es := es) (i := j) (f := fun e => { e with key := kv k, val := vv v }) (fun _ => rfl)
   refine (List.pairwise_map (f := fun e : MapEntry => e.born) (R := fun x y : Nat => x < y)).1 ?_
   rw [this]
   exact List.pairwise_map.2 hbn
  ·intro e he
   have hmem : e.born ∈ (es.modify j fun e => { e with key := kv k, val := vv v }).map (·.born) := List.mem_map_of_mem he
   rw [Q252 (es := es) (i := j) (f := fun e => { e with key := kv k, val := vv v }) (fun _ => rfl)] at hmem
   obtain ⟨e', he', hb'⟩ := List.mem_map.1 hmem
   rw [← hb']
   exact hcl e' he'
theorem mapo_up {h h' : PHeap} (o : mapo kv vv b kvs h) (s : Sub h h') : mapo kv vv b kvs h' := let ⟨es, c, a, r⟩ := o; ⟨es, c, s _ _ a, r⟩
def Ow.mp (kv : κ → Value) (vv : ν → Value) : Ow (List (κ × ν)) := ⟨1, fun kvs cs h => ∃ b, cs = [.map (some b)] ∧ mapo kv vv b kvs h, fun ⟨_, h, _⟩ => by rw [h]; rfl, fun ⟨_, h, _⟩ u hu => by rw [h] at hu; simp at hu; subst hu; rfl, by decide,
 ⟨1, fun H kvs cs => ∃ b, cs = [.map (some b)] ∧ mapo kv vv b kvs H, fun ⟨_, h, _⟩ => by rw [h]; rfl, fun s ⟨b, h, o⟩ => ⟨b, h, let ⟨es, c, a, r⟩ := o; ⟨es, c, s _ _ a, r⟩⟩, by decide⟩, rfl, fun ⟨b, h, o⟩ s => ⟨b, h, let ⟨es, c, a, r⟩ := o; ⟨es, c, s _ _ a, r⟩⟩⟩
theorem Ent.mp : Ent [mapo kv vv b kvs] ((Ow.mp kv vv).own kvs [.map (some b)]) := fun h ⟨h1, _, a, _, _, s, _⟩ => ⟨b, rfl, mapo_up a s⟩
theorem At.ownMp {cs : List Value} (f : Frt l ((Ow.mp kv vv).own kvs cs) l') (h : ∀ b, cs = [.map (some b)] → At n ds R env (mapo kv vv b kvs :: l') K) : At n ds R env l K := fun a w e0 hs => by
 obtain ⟨ok, k, ⟨h1, h2, ⟨b, e1, r⟩, s⟩, dR⟩ := hs.frt f
 exact h b e1 a w e0 ⟨ok, k, ⟨h1, h2, r, s⟩, dR⟩
end
end Go.Bw
namespace Go.Bw
open Go Go.RowKit

theorem Q333 (s : Bs) : ((ByteArray.mk s.toArray) == (ByteArray.mk s.toArray)) = true := by rw [Q192]; exact Q166.2 rfl
section
variable {P : Program} [Tys P] {κ : Type} [DecidableEq κ] {w : World} {t : Nat}
theorem Q188 {xs : List Value} (em : Bool) : ∀ {fl : List Field} {fs : List (Nat × Nat)} {r : Bool}, fl.map (fun f => (f.type, f.offset)) = fs → eqcs P fs xs xs = some r →
 (do for f in fl do if f.name ≠ "_" then Instr.checkKey em 9999 f.type (← part f.type xs.toArray f.offset) : Sem Unit).run P w = .ok () w
 | [], _, r, rfl, h => by simp
 | f :: fl, _, r, rfl, h => by
  simp only [List.map_cons, eqcs] at h
  split at h
  ·rename_i j hj
   split at h
   ·rename_i hk hx hy
    split at h
    ·obtain ⟨q, hq, rfl⟩ := Option.map_eq_some_iff.1 h
     have hu := (Q14 hj).int hk
     have ih := Q188 em (fl := fl) rfl hq
     have hc : ∀ k a, (Instr.checkKey em 9999 f.type (.int k a)).run P w = .ok () w := fun k a => by
      show (Instr.checkKey em (9998 + 1) f.type _).run P w = _
      rw [Instr.checkKey]
      simp [run_underlying hu, Result.andThen]
     by_cases hn : f.name = "_"
     ·simpa [hn, Result.andThen] using ih
     ·simpa [hn, Q89 hx, hc, Result.andThen] using ih
    ·cases h
   ·rename_i hk hx hy
    obtain ⟨q, hq, rfl⟩ := Option.map_eq_some_iff.1 h
    have hu := (Q14 hj).bool hk
    have ih := Q188 em (fl := fl) rfl hq
    have hc : ∀ a, (Instr.checkKey em 9999 f.type (.bool a)).run P w = .ok () w := fun a => by
     show (Instr.checkKey em (9998 + 1) f.type _).run P w = _
     rw [Instr.checkKey]
     simp [run_underlying hu, Result.andThen]
    by_cases hn : f.name = "_"
    ·simpa [hn, Result.andThen] using ih
    ·simpa [hn, Q89 hx, hc, Result.andThen] using ih
   ·rename_i hk hx hy
    obtain ⟨q, hq, rfl⟩ := Option.map_eq_some_iff.1 h
    have hu := (Q14 hj).string hk
    have ih := Q188 em (fl := fl) rfl hq
    have hc : ∀ a, (Instr.checkKey em 9999 f.type (.string a)).run P w = .ok () w := fun a => by
     show (Instr.checkKey em (9998 + 1) f.type _).run P w = _
     rw [Instr.checkKey]
     simp [run_underlying hu, Result.andThen]
    by_cases hn : f.name = "_"
    ·simpa [hn, Result.andThen] using ih
    ·simpa [hn, Q89 hx, hc, Result.andThen] using ih
   ·cases h
  ·cases h
theorem Q275 {kv : κ → Value} (k : κ) (he : ∀ a, (Op.equal t (kv k) (kv a)).run P w = .ok (decide (a = k)) w) : ∀ (es : List MapEntry) (ks : List κ) (i : Nat), es.map (·.key) = ks.map kv →
 (Instr.findAsking t (kv k) es i).run P w = .ok ((ks.findIdx? (fun a => decide (a = k))).bind fun j => es[j]?.map fun e => (i + j, e.val)) w
 | [], [], i, _ => by simp [Instr.findAsking]
 | [], _ :: _, _, h => by simp at h
 | _ :: _, [], _, h => by simp at h
 | e :: es, a :: ks, i, h => by
  simp only [List.map_cons, List.cons.injEq] at h
  rw [Instr.findAsking, h.1]
  simp only [Sem.run_bind, he, Result.andThen]
  rw [List.findIdx?_cons]
  by_cases hk : a = k
  ·simp [hk]
  ·simp only [hk, decide_false, Bool.false_eq_true, if_false]
   rw [Q275 k he es ks (i + 1) h.2]
   cases hf : ks.findIdx? (fun a => decide (a = k)) with
   | none => rfl
   | some j =>
    simp
    congr 1
    funext e
    congr 1
    omega
theorem Q314 {kv : κ → Value} {fl : Array Field} (hu : P.underlying t = some (.struct fl)) (k : κ) (he : ∀ a, (Op.equal t (kv k) (kv a)).run P w = .ok (decide (a = k)) w) (es : List MapEntry) (ks : List κ) (h : es.map (·.key) = ks.map kv) :
 (Instr.findKey t (kv k) es).run P w = .ok ((ks.findIdx? (fun a => decide (a = k))).bind fun j => es[j]?.map fun e => (j, e.val)) w := by
 unfold Instr.findKey
 simp only [Sem.run_bind, run_underlying hu, Result.andThen]
 cases es with
 | nil =>
  cases ks with
  | nil => simp [Instr.findNow]
  | cons a ks => simp at h
 | cons e es =>
  have : Instr.findNow (.struct fl) (kv k) (e :: es) 0 = none := by simp [Instr.findNow, Instr.sameNow]
  rw [this]
  have := Q275 (P := P) (w := w) (t := t) k he (e :: es) ks 0 h
  simpa using this
theorem KeyOk.st {F : Fl κ} {fs : List (Nat × Nat)} {ii : TI} (hi : ti P t = some ii) (hk : ii.k = .struct fs) (hn : named P t = true) (hp : P.stoodInHeld t = false)
 (he : ∀ x y : κ, eqcs P fs (F.enc x) (F.enc y) = some (decide (x = y))) (hs : ∀ x : κ, ((F.enc x).zip (F.enc x)).all (fun p => Instr.sameBits 9999 p.1 p.2) = true) : KeyOk P t F.av := by
 obtain ⟨fl, hu, hm⟩ := (Q14 hi).struct hk
 refine ⟨fun k w em => ?_, fun es ks k w h => ?_, fun k => ?_⟩
 ·show (Instr.checkKey em (9999 + 1) t (.agg (F.enc k).toArray)).run P w = _
  rw [Instr.checkKey]
  have := Q188 (P := P) (w := w) em hm (he k k)
  simp only [Sem.run_bind, run_underlying hu, Result.andThen]
  rw [← Array.forIn_toList]
  simp [Result.andThen] at this ⊢
  rw [this]
 ·refine Q314 hu k (fun a => ?_) es ks h
  rw [show decide (a = k) = decide (k = a) from decide_eq_decide.2 eq_comm]
  exact Q244 hi hk hn hp (he k a)
 ·show Instr.sameBits (9999 + 1) (.agg (F.enc k).toArray) (.agg (F.enc k).toArray) = true
  simp only [Instr.sameBits]
  simpa using hs k
end
end Go.Bw
namespace Go.Bw
open Go Go.RowKit Go.Proofs
variable {R : Res} {Fr : List HProp} {A0 A0_1 A0_2 A0_3 : Option Addr} {n0 c0 n0_1 c0_1 n0_2 c0_2 n0_3 c0_3 : Nat}
structure Q2 where
 c0 : Int
 c1 : Int
 c2 : Int
 c3 : Int
deriving Inhabited, DecidableEq
def Q2.fl : Fl Q2 := ⟨4, fun x => [.int .u64 x.c0, .int .u64 x.c1, .int .u64 x.c2, .int .u64 x.c3], fun _ => rfl, fun x u hu => by simp at hu; rcases hu with rfl | rfl | rfl | rfl <;> rfl, by decide⟩
structure Q7 where
 from_ : Int
 action : Bs
deriving Inhabited, DecidableEq
def Q7.fl : Fl Q7 := ⟨2, fun x => [i6 x.from_, .string ⟨(x.action).toArray⟩], fun _ => rfl, fun x u hu => by simp at hu; rcases hu with rfl | rfl <;> rfl, by decide⟩
structure Q11 where
 states : Int
 holds : List (Bs × Q2)
 next : List (Q7 × Q2)
deriving Inhabited
def Q11.ow : Ow Q11 := ((Ow.fl (Fl.int .i64)).pair ((Ow.mp Fl.bs.ov Q2.fl.av).pair (Ow.mp Q7.fl.av Q2.fl.av))).iso (fun x => (x.states, x.holds, x.next))
theorem Q11.ent {x0 : Int} {b1 : Nat} {x1 : List (Bs × Q2)} {b2 : Nat} {x2 : List (Q7 × Q2)} : Ent [mapo Fl.bs.ov Q2.fl.av b1 x1, mapo Q7.fl.av Q2.fl.av b2 x2] (Q11.ow.own ⟨x0, x1, x2⟩ [i6 x0, .map (some b1), .map (some b2)]) := (Ent.pair (c1 := [i6 x0]) (c2 := [.map (some b1), .map (some b2)]) (Ent.fl (Fl.int .i64) rfl) (Ent.pair (c1 := [.map (some b1)]) (c2 := [.map (some b2)]) Ent.mp Ent.mp))
theorem Q7.keyok : KeyOk Tryz.prog 85 Q7.fl.av := KeyOk.st rfl rfl (by kernel_rfl) (by kernel_rfl) (fun x y => by
 refine (show _ = some (decide (x.from_ = y.from_) && (bseq x.action y.action && true)) from rfl).trans (congrArg some ?_)
 cases x
 cases y
 rw [Bool.eq_iff_iff]
 simp [Q166]) (fun x => by simp [Q7.fl, Instr.sameBits, Q333])

noncomputable def Q45.f (p q u D a1 : Int) : Option (Int × Int × Int × Int) :=
 jn (
 if 0 ≤ a1 then
 some (.inl (decide (a1 < 256)))
 else
 some (.inl false)) (fun (G : Bool) =>
 if G = true then
 if (0 : Int) ≤ (Bw.shr .i64 a1 6) ∧ (Bw.shr .i64 a1 6) < (4 : Int) then
 if (Bw.shr .i64 a1 6) = 0 then
 if (0 : Int) ≤ IntKind.u64.wrap (band .i64 a1 63) then
 some (bor .u64 p (Bw.shl .u64 1 (IntKind.u64.wrap (band .i64 a1 63))), q, u, D)
 else none
 else
 if (Bw.shr .i64 a1 6) = 1 then
 if (0 : Int) ≤ IntKind.u64.wrap (band .i64 a1 63) then
 some (p, bor .u64 q (Bw.shl .u64 1 (IntKind.u64.wrap (band .i64 a1 63))), u, D)
 else none
 else
 if (Bw.shr .i64 a1 6) = 2 then
 if (0 : Int) ≤ IntKind.u64.wrap (band .i64 a1 63) then
 some (p, q, bor .u64 u (Bw.shl .u64 1 (IntKind.u64.wrap (band .i64 a1 63))), D)
 else none
 else
 if (0 : Int) ≤ IntKind.u64.wrap (band .i64 a1 63) then
 some (p, q, u, bor .u64 D (Bw.shl .u64 1 (IntKind.u64.wrap (band .i64 a1 63))))
 else none
 else none
 else
 some (p, q, u, D))
theorem Q45.callee : Callee Tryz.prog 20 := ⟨_, Tryz.func20, by kernel_rfl, by kernel_rfl⟩
theorem Q45.spec {D G I J a1 : Int} {r : Int × Int × Int × Int} (j : Q45.f D G I J a1 = some r) :
 Spec Tryz.prog 20 [.agg #[.int .u64 D, .int .u64 G, .int .u64 I, .int .u64 J], i6 a1] R (Fr) (fun v l' => v = .agg #[.int .u64 r.1, .int .u64 r.2.1, .int .u64 r.2.2.1, .int .u64 r.2.2.2] ∧ Fr = l') := by
 refine Spec.of Tryz.func20 rfl rfl ?_; unfold Q45.f at j; have j := brun j; refine At.seq (At.region ?_); refine At.box rfl rfl (cs := [.int .u64 D, .int .u64 G, .int .u64 I, .int .u64 J]) rfl rfl (fun Z => ?_); refine At.alloc rfl rfl rfl (fun a0 => ?_); refine nT (At.seq (sR 3 rfl ?_)); obtain ⟨a4, a5, b2, j⟩ := bjoin j; let T1 : HProp := pt a0 (.cells ([.int .u64 0, .int .u64 0, .int .u64 0, .int .u64 0] : List Value).toArray 35); let T2 : HProp := pc Z [.int .u64 D, .int .u64 G, .int .u64 I, .int .u64 J] 35; refine At.joinO 3 (X := Bool) (fun u => [(1, i6 a1), (2, bp Z), (4, bp a0), (10, .bool u)]) (fun u => T1 :: T2 :: Fr) (fun u => a4 (.inl u) = some r) ?_ (fun a2 => ?_)
 ·rintro u j; have j := (a5 _).symm.trans j
  ·refine nT ?_; rcases bite j with ⟨L, j⟩ | ⟨L, j⟩
   ··refine At.condT rfl L ?_
     refine At.region (At.run 1 rfl (At.y (Y.shr rfl rfl (by decide)) rfl rfl rfl ?_)); obtain ⟨p, j⟩ := bnone j; rcases bite j with ⟨M, j⟩ | ⟨M, j⟩
     ··refine At.y (Y.ixArrK rfl rfl rfl rfl rfl p.1 p.2 (q := 0) (off := 0) M rfl) rfl rfl rfl ?_
       refine At.y (Y.load rfl rfl (.s .z) rfl rfl rfl) rfl rfl rfl (At.run 3 rfl ?_); obtain ⟨a6, j⟩ := bnone j; refine At.y (Y.shl rfl rfl a6) rfl rfl rfl (At.run 1 rfl (At.y (Y.ixArrK rfl rfl rfl rfl rfl p.1 p.2 (q := 0) (off := 0) M rfl) rfl rfl rfl ?_)); refine At.store rfl rfl rfl rfl (.s .z) rfl rfl rfl (.c .n) ?_; refine nT (At.seq (At.region (At.y (Y.load rfl rfl .z rfl rfl rfl) rfl rfl rfl ?_))); refine At.store rfl rfl rfl rfl (.s .z) rfl rfl rfl (.c (.c (.c (.c .n)))) ?_; refine nT (At.ret ?_); refine At.resM (.inl rfl) rfl (RV.cell rfl rfl .z rfl rfl rfl RV.nil) ?_; refine At.drop .z (At.drop .z ?_); cases bret j; exact fun a w e hs => ⟨_, ⟨rfl, rfl⟩, hs⟩
     ··rcases bite j with ⟨O, j⟩ | ⟨O, j⟩
       ··refine At.y (Y.ixArrK rfl rfl rfl rfl rfl p.1 p.2 (q := 1) (off := 1) O rfl) rfl rfl rfl ?_
         refine At.y (Y.load rfl rfl (.s .z) rfl rfl rfl) rfl rfl rfl (At.run 3 rfl ?_); obtain ⟨a7, j⟩ := bnone j; refine At.y (Y.shl rfl rfl a7) rfl rfl rfl (At.run 1 rfl (At.y (Y.ixArrK rfl rfl rfl rfl rfl p.1 p.2 (q := 1) (off := 1) O rfl) rfl rfl rfl ?_)); refine At.store rfl rfl rfl rfl (.s .z) rfl rfl rfl (.s (.c .n)) ?_; refine nT (At.seq (At.region (At.y (Y.load rfl rfl .z rfl rfl rfl) rfl rfl rfl ?_))); refine At.store rfl rfl rfl rfl (.s .z) rfl rfl rfl (.c (.c (.c (.c .n)))) ?_; refine nT (At.ret ?_); refine At.resM (.inl rfl) rfl (RV.cell rfl rfl .z rfl rfl rfl RV.nil) ?_; refine At.drop .z (At.drop .z ?_); cases bret j; exact fun a w e hs => ⟨_, ⟨rfl, rfl⟩, hs⟩
       ··rcases bite j with ⟨U, j⟩ | ⟨U, j⟩
         ··refine At.y (Y.ixArrK rfl rfl rfl rfl rfl p.1 p.2 (q := 2) (off := 2) U rfl) rfl rfl rfl ?_
           refine At.y (Y.load rfl rfl (.s .z) rfl rfl rfl) rfl rfl rfl (At.run 3 rfl ?_); obtain ⟨a8, j⟩ := bnone j; refine At.y (Y.shl rfl rfl a8) rfl rfl rfl (At.run 1 rfl (At.y (Y.ixArrK rfl rfl rfl rfl rfl p.1 p.2 (q := 2) (off := 2) U rfl) rfl rfl rfl ?_)); refine At.store rfl rfl rfl rfl (.s .z) rfl rfl rfl (.s (.s (.c .n))) ?_; refine nT (At.seq (At.region (At.y (Y.load rfl rfl .z rfl rfl rfl) rfl rfl rfl ?_))); refine At.store rfl rfl rfl rfl (.s .z) rfl rfl rfl (.c (.c (.c (.c .n)))) ?_; refine nT (At.ret ?_); refine At.resM (.inl rfl) rfl (RV.cell rfl rfl .z rfl rfl rfl RV.nil) ?_; refine At.drop .z (At.drop .z ?_); cases bret j; exact fun a w e hs => ⟨_, ⟨rfl, rfl⟩, hs⟩
         ··have a3 : (Bw.shr .i64 a1 6) = 3 := by have h1_ := p; omega
           refine At.y (Y.ixArrK rfl rfl rfl rfl rfl p.1 p.2 (q := 3) (off := 3) a3 rfl) rfl rfl rfl (At.y (Y.load rfl rfl (.s .z) rfl rfl rfl) rfl rfl rfl (At.run 3 rfl ?_)); obtain ⟨a9, j⟩ := bnone j; refine At.y (Y.shl rfl rfl a9) rfl rfl rfl (At.run 1 rfl (At.y (Y.ixArrK rfl rfl rfl rfl rfl p.1 p.2 (q := 3) (off := 3) a3 rfl) rfl rfl rfl ?_)); refine At.store rfl rfl rfl rfl (.s .z) rfl rfl rfl (.s (.s (.s (.c .n)))) ?_; refine nT (At.seq (At.region (At.y (Y.load rfl rfl .z rfl rfl rfl) rfl rfl rfl ?_))); refine At.store rfl rfl rfl rfl (.s .z) rfl rfl rfl (.c (.c (.c (.c .n)))) ?_; refine nT (At.ret ?_); refine At.resM (.inl rfl) rfl (RV.cell rfl rfl .z rfl rfl rfl RV.nil) ?_; refine At.drop .z (At.drop .z ?_); cases bret j; exact fun a w e hs => ⟨_, ⟨rfl, rfl⟩, hs⟩
   ··refine At.condF rfl (bn L) ?_
     refine At.skip (At.thn (At.seq (At.region (At.y (Y.load rfl rfl (.s .z) rfl rfl rfl) rfl rfl rfl ?_)))); refine At.store rfl rfl rfl rfl .z rfl rfl rfl (.c (.c (.c (.c .n)))) ?_; refine nT (At.ret ?_); refine At.resM (.inl rfl) rfl (RV.cell rfl rfl .z rfl rfl rfl RV.nil) ?_; refine At.drop .z (At.drop .z ?_); cases bret j; exact fun a w e hs => ⟨_, ⟨rfl, rfl⟩, hs⟩
 ··rcases bite j with ⟨V, j⟩ | ⟨V, j⟩
   ··refine At.know (t := 7) rfl (decide_eq_true V) ?_
     refine At.run 3 rfl ?_; exact At.of (a2 (decide (a1 < 256)) j) ⟨rfl, rfl, rfl, rfl, trivial⟩
   ··refine At.know (t := 7) rfl (decide_eq_false V) ?_
     refine At.run 3 rfl ?_; exact At.of (a2 false j) ⟨rfl, rfl, rfl, rfl, trivial⟩

noncomputable def Q51.l0b (a0 : List Int) (u D G I p : Int) : Option ((Int × Int × Int × Int × Int) ⊕ ((Int × Int × Int × Int) ⊕ (Int × Int × Int × Int))) :=
 if p < (a0.length : Int) then
 if (0 : Int) ≤ p ∧ p < (a0.length : Int) then
 (Q45.f u D G I (gt a0 p)).bind fun q =>
 nx (q.1, q.2.1, q.2.2.1, q.2.2.2, IntKind.i64.wrap (p + 1))
 else none
 else
 dn (.inl (u, D, G, I))
noncomputable def Q51.l0 (a0 : List Int) (p q u D G : Int) : Option ((Int × Int × Int × Int) ⊕ (Int × Int × Int × Int)) := iter (fun t_ : Int × Int × Int × Int × Int => Q51.l0b a0 t_.1 t_.2.1 t_.2.2.1 t_.2.2.2.1 t_.2.2.2.2) (p, q, u, D, G)
noncomputable def Q51.f (a0 : List Int) : Option (Int × Int × Int × Int) :=
 jn (Q51.l0 a0 0 0 0 0 0) (fun (s_ : Int × Int × Int × Int) =>
 some (s_.1, s_.2.1, s_.2.2.1, s_.2.2.2))
theorem Q51.callee : Callee Tryz.prog 33 := ⟨_, Tryz.func33, by kernel_rfl, by kernel_rfl⟩
theorem Q51.spec {a0 : List Int} (hr0 : RdS (Fl.int .i64).rep R.heap A0 a0) (hn0 : a0.length = n0) (hc0 : n0 ≤ c0) {r : Int × Int × Int × Int} (j : Q51.f a0 = some r) :
 Spec Tryz.prog 33 [.slice A0 n0 c0] R (Fr) (fun v l' => v = .agg #[.int .u64 r.1, .int .u64 r.2.1, .int .u64 r.2.2.1, .int .u64 r.2.2.2] ∧ Fr = l') := by
 subst hn0; refine Spec.of Tryz.func33 rfl rfl ?_; unfold Q51.f at j; have j := brun j; refine At.seq (At.region ?_); refine At.alloc rfl rfl rfl (fun I => ?_); refine nT (At.seq (At.region ?_)); refine At.alloc rfl rfl rfl (fun u => ?_); refine nT (At.seq (sR 3 rfl (nT ?_))); refine At.block ?_; obtain ⟨a3, a4, b2, j⟩ := bjoin j; obtain ⟨O, J, a5⟩ := bsome j; clear j; unfold Q51.l0 at J; obtain ⟨L, p⟩ := Q18.1 J; clear J; let T3 : HProp := pt I (.cells ([.int .u64 0, .int .u64 0, .int .u64 0, .int .u64 0] : List Value).toArray 35); refine At.loopJ (X := Int × Int × Int × Int × Int) (Y := Int × Int × Int × Int) (e0 := 0) (fun s_ => [(2, bp I), (3, bp u), (6, .slice A0 a0.length c0), (7, i6 (a0.length : Int)), (8, i6 s_.2.2.2.2)]) (fun s_ => pc u [.int .u64 s_.1, .int .u64 s_.2.1, .int .u64 s_.2.2.1, .int .u64 s_.2.2.2.1] 35 :: T3 :: Fr) (fun m_ => fun s_ => iterN (fun t_ : Int × Int × Int × Int × Int => Q51.l0b a0 t_.1 t_.2.1 t_.2.2.1 t_.2.2.2.1 t_.2.2.2.2) m_ (s_.1, s_.2.1, s_.2.2.1, s_.2.2.2.1, s_.2.2.2.2) = some O) L (0, 0, 0, 0, 0) p (fun s_ => [(2, bp I), (3, bp u)]) (fun s_ => pc u [.int .u64 s_.1, .int .u64 s_.2.1, .int .u64 s_.2.2.1, .int .u64 s_.2.2.2] 35 :: T3 :: Fr) (fun s_ => a3 (.inl (s_.1, s_.2.1, s_.2.2.1, s_.2.2.2)) = some r) (fun a w e hs => ⟨e.sub ⟨rfl, rfl, rfl, rfl, rfl, trivial⟩, (by exact hs)⟩) ?_ (fun a6 => ?_)
 ·rintro ⟨b3, b4, b5, b6⟩ j; have j := (a4 _).symm.trans j
  ·refine At.ibx ?_; refine At.thn (At.seq (At.region (At.y (Y.load rfl rfl .z rfl rfl rfl) rfl rfl rfl ?_))); refine At.store rfl rfl rfl rfl (.s .z) rfl rfl rfl (.c (.c (.c (.c .n)))) ?_; refine nT (At.ret ?_); refine At.resM (.inl rfl) rfl (RV.cell rfl rfl .z rfl rfl rfl RV.nil) ?_; refine At.drop .z (At.drop .z ?_); cases bret j; exact fun a w e hs => ⟨_, ⟨rfl, rfl⟩, hs⟩
 ·clear p L; rintro L ⟨U, V, Z, a1, a2⟩ p; obtain ⟨a7, f_, a8, hf_, j⟩ := bit p; clear p; have j : (Q51.l0b a0 U V Z a1 a2).bind _ = some O := j; unfold Q51.l0b at j
  ·refine sR 1 rfl (nT (At.seq ?_)); rcases bite j with ⟨M, j⟩ | ⟨M, j⟩
   ··refine At.condT rfl (decide_eq_true M) ?_
     refine At.skip (At.thn (At.seq ?_)); refine At.block ?_; refine At.seq (At.region ?_); obtain ⟨D, j⟩ := bnone j; refine At.y (Y.ixRd hr0 rfl rfl rfl rfl rfl rfl rfl D.1 D.2) rfl rfl rfl (At.y (Y.ldFl hr0 rfl (q := 0) rfl rfl D.1 D.2 rfl rfl rfl) rfl rfl rfl (At.run 1 rfl (nT (At.region (At.y (Y.load rfl rfl .z rfl rfl rfl) rfl rfl rfl (At.run 1 rfl ?_)))))); obtain ⟨G, a9, j⟩ := bbind j; refine At.call rfl Q45.callee rfl rfl rfl (Q45.spec a9) ?_; rintro _ _ ⟨rfl, rfl⟩; refine At.store rfl rfl rfl rfl .z rfl rfl rfl (.c (.c (.c (.c .n)))) ?_; refine At.nil ?_; refine At.ibn ?_; refine At.thn (At.region (At.run 2 rfl (At.nil ?_))); have j := bnx hf_ j; exact fun a w e hs => ⟨a7, (G.1, G.2.1, G.2.2.1, G.2.2.2, IntKind.i64.wrap (a2 + 1)), a8, j, e.sub ⟨rfl, rfl, rfl, rfl, rfl, trivial⟩, hs⟩
   ··refine At.condF rfl (decide_eq_false M) ?_
     refine At.exit ?_; refine At.the ?_; refine At.the ?_; exact fun a w e hs => a6 (U, V, Z, a1) (bdn j a5) a w (e.sub ⟨rfl, rfl, trivial⟩) hs

noncomputable def Q17.l2b (D : List Bs) (p : List Q3) (q : Int) (G : List (Q7 × Q2)) (u : Int) : Option (((List (Q7 × Q2)) × Int) ⊕ (((List (Q7 × Q2))) ⊕ (((List (Q7 × Q2)) × Int) ⊕ (((List (Q7 × Q2))) ⊕ ((Option Q11)))))) :=
 if u < (([(gt D ((gt p q).Action)), ([45] : Bs)] : List Bs).length : Int) then
 if (0 : Int) ≤ u ∧ u < (([(gt D ((gt p q).Action)), ([45] : Bs)] : List Bs).length : Int) then
 (Q45.f (((mget G (⟨(gt p q).From, gt ([(gt D ((gt p q).Action)), ([45] : Bs)] : List Bs) u⟩ : Q7)).getD (⟨(0 : Int), (0 : Int), (0 : Int), (0 : Int)⟩ : Q2)).c0) (((mget G (⟨(gt p q).From, gt ([(gt D ((gt p q).Action)), ([45] : Bs)] : List Bs) u⟩ : Q7)).getD (⟨(0 : Int), (0 : Int), (0 : Int), (0 : Int)⟩ : Q2)).c1) (((mget G (⟨(gt p q).From, gt ([(gt D ((gt p q).Action)), ([45] : Bs)] : List Bs) u⟩ : Q7)).getD (⟨(0 : Int), (0 : Int), (0 : Int), (0 : Int)⟩ : Q2)).c2) (((mget G (⟨(gt p q).From, gt ([(gt D ((gt p q).Action)), ([45] : Bs)] : List Bs) u⟩ : Q7)).getD (⟨(0 : Int), (0 : Int), (0 : Int), (0 : Int)⟩ : Q2)).c3) ((gt p q).To)).bind fun I =>
 nx ((mset G (⟨(gt p q).From, gt ([(gt D ((gt p q).Action)), ([45] : Bs)] : List Bs) u⟩ : Q7) (⟨I.1, I.2.1, I.2.2.1, I.2.2.2⟩ : Q2)), IntKind.i64.wrap (u + 1))
 else none
 else
 dn (.inl G)
noncomputable def Q17.l2 (p : List Bs) (q : List Q3) (u : Int) (D : List (Q7 × Q2)) (G : Int) : Option (((List (Q7 × Q2))) ⊕ (((List (Q7 × Q2)) × Int) ⊕ (((List (Q7 × Q2))) ⊕ ((Option Q11))))) := iter (fun t_ : (List (Q7 × Q2)) × Int => Q17.l2b p q u t_.1 t_.2) (D, G)
noncomputable def Q17.l1b (u : List Bs) (q : List Q3) (D : List (Q7 × Q2)) (p : Int) : Option (((List (Q7 × Q2)) × Int) ⊕ (((List (Q7 × Q2))) ⊕ ((Option Q11)))) :=
 if p < (q.length : Int) then
 if (0 : Int) ≤ p ∧ p < (q.length : Int) then
 if (0 : Int) ≤ (gt q p).Action ∧ (gt q p).Action < (u.length : Int) then
 jn (Q17.l2 u q p D 0) (fun (G : List (Q7 × Q2)) =>
 nx (G, IntKind.i64.wrap (p + 1)))
 else none
 else none
 else
 dn (.inl D)
noncomputable def Q17.l1 (p : List Bs) (q : List Q3) (u : List (Q7 × Q2)) (D : Int) : Option (((List (Q7 × Q2))) ⊕ ((Option Q11))) := iter (fun t_ : (List (Q7 × Q2)) × Int => Q17.l1b p q t_.1 t_.2) (u, D)
noncomputable def Q17.l0b (q : List Q4) (D : List (Bs × Q2)) (p : Int) : Option (((List (Bs × Q2)) × Int) ⊕ (((List (Bs × Q2))) ⊕ ((Option Q11)))) :=
 if p < (q.length : Int) then
 if (0 : Int) ≤ p ∧ p < (q.length : Int) then
 (Q51.f ((gt q p).States)).bind fun u =>
 nx ((mset D ((gt q p).Name) (⟨u.1, u.2.1, u.2.2.1, u.2.2.2⟩ : Q2)), IntKind.i64.wrap (p + 1))
 else none
 else
 dn (.inl D)
noncomputable def Q17.l0 (p : List Q4) (q : List (Bs × Q2)) (u : Int) : Option (((List (Bs × Q2))) ⊕ ((Option Q11))) := iter (fun t_ : (List (Bs × Q2)) × Int => Q17.l0b p t_.1 t_.2) (q, u)
noncomputable def Q17.f (p : Int) (q : List Bs) (u : List Q3) (D : List Q4) : Option (Option Q11) :=
 (Q25.f p q u D).bind fun G =>
 if G = true then
 jn (Q17.l0 D ([] : List (Bs × Q2)) 0) (fun (I : List (Bs × Q2)) =>
 jn (Q17.l1 q u ([] : List (Q7 × Q2)) 0) (fun (J : List (Q7 × Q2)) =>
 some (some (⟨p, I, J⟩ : Q11))))
 else
 some none
theorem Q17.callee : Callee Tryz.prog 11 := ⟨_, Tryz.func11, by kernel_rfl, by kernel_rfl⟩
theorem Q17.spec {I : Int} {D : List Bs} {p : List Q3} {G : List Q4} (hr0_1 : RdS Fl.bs.rep R.heap A0_1 D) (hn0_1 : D.length = n0_1) (hc0_1 : n0_1 ≤ c0_1) (hr0_2 : RdS Q3.fl.rep R.heap A0_2 p) (hn0_2 : p.length = n0_2) (hc0_2 : n0_2 ≤ c0_2) (hr0_3 : RdS Q4.rep R.heap A0_3 G) (hn0_3 : G.length = n0_3) (hc0_3 : n0_3 ≤ c0_3) {r : (Option Q11)} (j : Q17.f I D p G = some r) :
 Spec Tryz.prog 11 [.agg #[i6 I, .slice A0_1 n0_1 c0_1, .slice A0_2 n0_2 c0_2, .slice A0_3 n0_3 c0_3]] R (Fr) (fun v l' => ∃ (d1 : Option Nat), v = optp d1 ∧ optb Q11.ow 82 d1 r :: Fr = l') := by
 subst hn0_1; subst hn0_2; subst hn0_3; refine Spec.of Tryz.func11 rfl rfl ?_; unfold Q17.f at j; have j := brun j; refine At.seq (At.region ?_); refine At.box rfl rfl (cs := [i6 I, .slice A0_1 D.length c0_1, .slice A0_2 p.length c0_2, .slice A0_3 G.length c0_3]) rfl rfl (fun a0 => ?_); refine At.run 1 rfl (nT (At.seq (At.seq (At.region (At.y (Y.load rfl rfl .z rfl rfl rfl) rfl rfl rfl ?_))))); obtain ⟨h1, d7, j⟩ := bbind j; refine At.call rfl Q25.callee rfl rfl rfl (Q25.spec hr0_1 rfl hc0_1 hr0_2 rfl hc0_2 hr0_3 rfl hc0_3 d7) ?_; rintro _ _ ⟨rfl, rfl⟩; refine At.run 1 rfl (nT ?_); rcases bite j with ⟨b3, j⟩ | ⟨b3, j⟩
 ··refine At.condF rfl (nf b3) ?_
   refine At.skip (At.thn (sR 1 rfl (At.y (Y.load rfl rfl .z rfl rfl rfl) rfl rfl rfl ?_))); refine At.makeMap Fl.bs.ov Q2.fl.av rfl rfl (fun V => ?_); refine At.makeMap Q7.fl.av Q2.fl.av rfl rfl (fun J => ?_); refine At.y (Y.build (is := [0, 1, 2]) (xo := [.tmp 15, .tmp 16, .tmp 17]) (vs := [i6 I, .map (some V), .map (some J)]) (cs := [i6 I, .map (some V), .map (some J)]) rfl rfl rfl rfl rfl rfl) rfl rfl rfl ?_; refine At.box rfl rfl (cs := [i6 I, .map (some V), .map (some J)]) rfl rfl (fun L => ?_); refine At.run 1 rfl (nT (At.seq (sR 1 rfl (At.y (Y.load rfl rfl (.s (.s (.s .z))) rfl rfl rfl) rfl rfl rfl ?_)))); refine At.run 2 rfl (nT ?_); refine At.block ?_; obtain ⟨d8, d9, h2, j⟩ := bjoin j; obtain ⟨d2, b4, e1⟩ := bsome j; clear j; unfold Q17.l0 at b4; obtain ⟨b5, a4⟩ := Q18.1 b4; clear b4; let T4 : HProp := pc L [i6 I, .map (some V), .map (some J)] 82; let T5 : HProp := mapo Q7.fl.av Q2.fl.av J ([] : List (Q7 × Q2)); let T6 : HProp := pc a0 [i6 I, .slice A0_1 D.length c0_1, .slice A0_2 p.length c0_2, .slice A0_3 G.length c0_3] 26; refine At.loopJ (X := (List (Bs × Q2)) × Int) (Y := (List (Bs × Q2))) (e0 := 0) (fun s_ => [(1, bp a0), (3, bp L), (21, .slice A0_3 G.length c0_3), (22, i6 (G.length : Int)), (23, i6 s_.2)]) (fun s_ => T4 :: T5 :: mapo Fl.bs.ov Q2.fl.av V s_.1 :: T6 :: Fr) (fun m_ => fun s_ => iterN (fun t_ : (List (Bs × Q2)) × Int => Q17.l0b G t_.1 t_.2) m_ (s_.1, s_.2) = some d2) b5 (([] : List (Bs × Q2)), 0) a4 (fun Z => [(1, bp a0), (3, bp L)]) (fun Z => T4 :: T5 :: mapo Fl.bs.ov Q2.fl.av V Z :: T6 :: Fr) (fun Z => d8 (.inl Z) = some r) (fun a w e hs => ⟨e.sub ⟨rfl, rfl, rfl, rfl, rfl, trivial⟩, (by exact hs)⟩) ?_ (fun e2 => ?_)
   ·rintro Z j; have j := (d9 _).symm.trans j
    ·refine At.ibx ?_; refine At.thn (At.seq (sR 1 rfl (At.y (Y.load rfl rfl (.s (.s (.s .z))) rfl rfl rfl) rfl rfl rfl (At.run 2 rfl (At.nil ?_))))); refine At.thn ?_; refine At.block ?_; obtain ⟨e3, e4, h3, j⟩ := bjoin j; obtain ⟨b6, b7, e5⟩ := bsome j; clear j; unfold Q17.l1 at b7; obtain ⟨b8, a5⟩ := Q18.1 b7; clear b7; let T7 : HProp := mapo Fl.bs.ov Q2.fl.av V Z; refine At.loopJ (X := (List (Q7 × Q2)) × Int) (Y := (List (Q7 × Q2))) (e0 := 2) (fun s_ => [(1, bp a0), (3, bp L), (38, .slice A0_2 p.length c0_2), (39, i6 (p.length : Int)), (40, i6 s_.2)]) (fun s_ => T4 :: mapo Q7.fl.av Q2.fl.av J s_.1 :: T7 :: T6 :: Fr) (fun m_ => fun s_ => iterN (fun t_ : (List (Q7 × Q2)) × Int => Q17.l1b D p t_.1 t_.2) m_ (s_.1, s_.2) = some b6) b8 (([] : List (Q7 × Q2)), 0) a5 (fun a1 => [(3, bp L)]) (fun a1 => T4 :: mapo Q7.fl.av Q2.fl.av J a1 :: T7 :: T6 :: Fr) (fun a1 => e3 (.inl a1) = some r) (fun a w e hs => ⟨e.sub ⟨rfl, rfl, rfl, rfl, rfl, trivial⟩, (by exact hs)⟩) ?_ (fun e6 => ?_)
     ·rintro a1 j; have j := (e4 _).symm.trans j
      ·refine At.ibx ?_; refine At.thn (sR 2 rfl (nT (At.ret (At.f1 ?_)))); refine At.f2 (At.f2 ?_); refine At.optSome (x := (⟨I, Z, a1⟩ : Q11)) Q11.ent ?_; refine At.drop (.s .z) ?_; cases bret j; exact At.res (.inl rfl) rfl rfl ⟨(some L), rfl, rfl⟩
     ·clear a5 b8; rintro b8 ⟨b9, u⟩ a5; obtain ⟨e7, f_, e8, hf_, j⟩ := bit a5; clear a5; have j : (Q17.l1b D p b9 u).bind _ = some b6 := j; unfold Q17.l1b at j
      ·refine sR 1 rfl (nT (At.seq ?_)); rcases bite j with ⟨c4, j⟩ | ⟨c4, j⟩
       ··refine At.condT rfl (decide_eq_true c4) ?_
         refine At.skip (At.thn (At.seq ?_)); refine At.block ?_; refine At.seq (At.region ?_); obtain ⟨a7, j⟩ := bnone j; refine At.y (Y.ixRd hr0_2 rfl rfl rfl rfl rfl rfl rfl a7.1 a7.2) rfl rfl rfl (At.y (Y.ldFl hr0_2 rfl (q := 0) rfl rfl a7.1 a7.2 rfl rfl rfl) rfl rfl rfl ?_); refine At.alloc rfl rfl rfl (fun d3 => ?_); refine At.store rfl rfl rfl rfl .z rfl rfl rfl (.c (.c (.c .n))) ?_; refine nT (sR 1 rfl ?_); refine At.y (Y.load rfl rfl (.s (.s (.s (.s .z)))) rfl rfl rfl) rfl rfl rfl ?_; refine At.run 1 rfl (At.y (Y.load rfl rfl .z rfl rfl rfl) rfl rfl rfl ?_); obtain ⟨a8, j⟩ := bnone j; refine At.y (Y.ixRd hr0_1 rfl rfl rfl rfl rfl rfl rfl a8.1 a8.2) rfl rfl rfl (At.y (Y.ldFl hr0_1 rfl (q := 0) rfl rfl a8.1 a8.2 rfl rfl rfl) rfl rfl rfl ?_); refine At.lit rfl (xo := [.tmp 49, .const (.string ⟨#[45]⟩)]) (ys := ([(gt D ((gt p u).Action)), ([45] : Bs)] : List Bs)) Fl.bs rfl rfl rfl rfl rfl rfl rfl rfl rfl rfl rfl (fun d4 d5 => ?_); refine At.run 2 rfl (nT ?_); refine At.block ?_; obtain ⟨e9, f0, h4, j⟩ := bjoin j; obtain ⟨d6, c5, f4⟩ := bsome j; clear j; unfold Q17.l2 at c5; obtain ⟨c6, a6⟩ := Q18.1 c5; clear c5; let T8 : HProp := row Fl.bs 9 d4 (([(gt D ((gt p u).Action)), ([45] : Bs)] : List Bs).length) d5 ([(gt D ((gt p u).Action)), ([45] : Bs)] : List Bs); let T9 : HProp := pc d3 [i6 ((gt p u).From), i6 ((gt p u).Action), i6 ((gt p u).To)] 48; refine At.loopJ (X := (List (Q7 × Q2)) × Int) (Y := (List (Q7 × Q2))) (e0 := 4) (fun s_ => [(1, bp a0), (3, bp L), (7, bp d3), (38, .slice A0_2 p.length c0_2), (39, i6 (p.length : Int)), (40, i6 u), (50, .slice d4 (([(gt D ((gt p u).Action)), ([45] : Bs)] : List Bs).length) d5), (51, i6 (([(gt D ((gt p u).Action)), ([45] : Bs)] : List Bs).length : Int)), (52, i6 s_.2)]) (fun s_ => T8 :: T9 :: T4 :: mapo Q7.fl.av Q2.fl.av J s_.1 :: T7 :: T6 :: Fr) (fun m_ => fun s_ => iterN (fun t_ : (List (Q7 × Q2)) × Int => Q17.l2b D p u t_.1 t_.2) m_ (s_.1, s_.2) = some d6) c6 (b9, 0) a6 (fun a2 => [(1, bp a0), (3, bp L), (38, .slice A0_2 p.length c0_2), (39, i6 (p.length : Int)), (40, i6 u)]) (fun a2 => T8 :: T9 :: T4 :: mapo Q7.fl.av Q2.fl.av J a2 :: T7 :: T6 :: Fr) (fun a2 => e9 (.inl a2) = some b6) (fun a w e hs => ⟨e.sub ⟨rfl, rfl, rfl, rfl, rfl, rfl, rfl, rfl, rfl, trivial⟩, (by exact hs)⟩) ?_ (fun f6 => ?_)
         ·rintro a2 j; have j := (f0 _).symm.trans j
          ·refine At.ibx ?_; refine At.ibn ?_; refine At.thn (At.region (At.run 2 rfl (At.nil (At.drop .z (At.drop .z ?_))))); have j := bnx hf_ j; exact fun a w e hs => ⟨e7, (a2, IntKind.i64.wrap (u + 1)), e8, j, e.sub ⟨rfl, rfl, rfl, rfl, rfl, trivial⟩, hs⟩
         ·clear a6 c6; rintro c6 ⟨c7, M⟩ a6; obtain ⟨f7, f_, f8, hf_, j⟩ := bit a6; clear a6; have j : (Q17.l2b D p u c7 M).bind _ = some d6 := j; unfold Q17.l2b at j
          ·refine sR 1 rfl (nT (At.seq ?_)); rcases bite j with ⟨c8, j⟩ | ⟨c8, j⟩
           ··refine At.condT rfl (decide_eq_true c8) ?_
             refine At.skip (At.thn (At.seq ?_)); refine At.block ?_; refine At.seq (At.region ?_); obtain ⟨a9, j⟩ := bnone j; refine At.y (Y.ix .z rfl rfl rfl rfl rfl rfl a9.1 a9.2) rfl rfl rfl (At.y (Y.ld .z (q := 0) rfl rfl a9.1 a9.2 rfl rfl rfl) rfl rfl rfl (At.run 1 rfl (nT (sR 1 rfl ?_)))); refine At.y (Y.load rfl rfl (.s .z) rfl rfl rfl) rfl rfl rfl (At.run 1 rfl ?_); refine At.y (Y.build (is := [0, 1]) (xo := [.tmp 57, .tmp 58]) (vs := [i6 ((gt p u).From), .string ⟨(gt ([(gt D ((gt p u).Action)), ([45] : Bs)] : List Bs) M).toArray⟩]) (cs := [i6 ((gt p u).From), .string ⟨(gt ([(gt D ((gt p u).Action)), ([45] : Bs)] : List Bs) M).toArray⟩]) rfl rfl rfl rfl rfl rfl) rfl rfl rfl ?_; refine At.alloc rfl rfl rfl (fun f9 => ?_); refine At.store rfl rfl rfl rfl .z rfl rfl rfl (.c (.c .n)) ?_; refine nT ?_; refine At.held [pc f9 [i6 ((gt p u).From), .string ⟨(gt ([(gt D ((gt p u).Action)), ([45] : Bs)] : List Bs) M).toArray⟩] 85, T8, T9, T4, T7, T6] 15 rfl ?_; refine At.H.pw 0 rfl rfl rfl rfl rfl (.c .z (.c .z (.c .z (.c .z (.c (.s .z) (.c (.s .z) .n)))))) ?_; refine At.H.pw 1 rfl rfl rfl rfl rfl (.c .z (.c .z (.c .z (.c .z (.c (.s .z) (.c (.s .z) .n)))))) ?_; refine At.H.pw 2 rfl rfl rfl rfl rfl (.c .z (.c .z (.c .z (.c .z (.c (.s .z) (.c (.s .z) .n)))))) ?_; refine At.H.tw 3 rfl (Y.load rfl rfl (.s (.s (.s .z))) rfl rfl rfl) rfl rfl rfl (.c .z (.c .z (.c .z (.c .z (.c (.s .z) (.c (.s .z) .n)))))) ?_; refine At.H.tw 4 rfl (Y.load rfl rfl .z rfl rfl rfl) rfl rfl rfl (.c .z (.c .z (.c .z (.c .z (.c (.s .z) (.c (.s .z) .n)))))) ?_; refine At.H.pw 5 rfl rfl rfl rfl rfl (.c .z (.c .z (.c .z (.c .z (.c (.s .z) (.c (.s .z) .n)))))) ?_; refine At.H.pw 6 rfl rfl rfl rfl rfl (.c .z (.c .z (.c .z (.c .z (.c (.s .z) (.c (.s .z) .n)))))) ?_; refine At.H.pw 7 rfl rfl rfl rfl rfl (.c .z (.c .z (.c .z (.c .z (.c (.s .z) (.c (.s .z) .n)))))) ?_; refine At.H.tw 8 rfl (Y.load rfl rfl (.s (.s (.s .z))) rfl rfl rfl) rfl rfl rfl (.c .z (.c .z (.c .z (.c .z (.c (.s .z) (.c (.s .z) .n)))))) ?_; refine At.H.tw 9 rfl (Y.load rfl rfl .z rfl rfl rfl) rfl rfl rfl (.c .z (.c .z (.c .z (.c .z (.c (.s .z) (.c (.s .z) .n)))))) ?_; refine At.H.pw 11 rfl rfl rfl rfl rfl (.c .z (.c .z (.c .z (.c .z (.c (.s .z) (.c (.s .z) .n)))))) ?_; refine At.H.tw 12 rfl (Y.load rfl rfl (.s (.s .z)) rfl rfl rfl) rfl rfl rfl (.c .z (.c .z (.c .z (.c .z (.c (.s .z) (.c (.s .z) .n)))))) ?_; refine At.H.al [10] (Q6 ?_ Q8)
             ··refine At.HO.op rfl ?_
               refine At.y (Y.lookup (k := (⟨(gt p u).From, gt ([(gt D ((gt p u).Action)), ([45] : Bs)] : List Bs) M⟩ : Q7)) (z := (⟨(0 : Int), (0 : Int), (0 : Int), (0 : Int)⟩ : Q2)) (.s (.s (.s (.s .z)))) rfl rfl Q7.keyok (by kernel_rfl) rfl rfl rfl) rfl rfl rfl ?_; refine At.HO.back (.c .z (.c .z (.c .z (.c .z (.c (.s .z) (.c (.s .z) .n)))))) ?_; refine At.H.al [13] (Q6 ?_ Q8)
               ··refine At.HO.op rfl ?_
                 obtain ⟨O, g0, j⟩ := bbind j; refine At.call rfl Q45.callee rfl rfl rfl (Q45.spec g0) ?_; rintro _ _ ⟨rfl, rfl⟩; refine At.HO.back (.c .z (.c .z (.c .z (.c .z (.c (.s .z) (.c (.s .z) .n)))))) ?_; refine At.H.al [14] (Q6 ?_ Q8)
                 ··refine At.HO.op rfl ?_
                   refine At.mapUpdate (k := (⟨(gt p u).From, gt ([(gt D ((gt p u).Action)), ([45] : Bs)] : List Bs) M⟩ : Q7)) (v := (⟨O.1, O.2.1, O.2.2.1, O.2.2.2⟩ : Q2)) rfl (.s (.s (.s (.s .z)))) rfl rfl Q7.keyok rfl rfl rfl rfl rfl ?_; refine At.HO.back (.c (.s .z) (.c (.s .z) (.c (.s .z) (.c (.s .z) (.c (.s .z) (.c (.s .z) .n)))))) ?_; refine At.H.done (by kernel_rfl) ?_; refine At.ibn ?_; refine At.thn (At.region (At.run 2 rfl (At.nil (At.drop (.s .z) (At.f5 (At.f5 (At.f2 ?_))))))); refine At.f5 (At.f5 (At.f5 ?_)); have j := bnx hf_ j; exact fun a w e hs => ⟨f7, ((mset c7 (⟨(gt p u).From, gt ([(gt D ((gt p u).Action)), ([45] : Bs)] : List Bs) M⟩ : Q7) (⟨O.1, O.2.1, O.2.2.1, O.2.2.2⟩ : Q2)), IntKind.i64.wrap (M + 1)), f8, j, e.sub ⟨rfl, rfl, rfl, rfl, rfl, rfl, rfl, rfl, rfl, trivial⟩, hs⟩
           ··refine At.condF rfl (decide_eq_false c8) ?_
             refine At.exit ?_; refine At.the ?_; refine At.the ?_; exact fun a w e hs => f6 c7 (bdn j f4) a w (e.sub ⟨rfl, rfl, rfl, rfl, rfl, trivial⟩) hs
       ··refine At.condF rfl (decide_eq_false c4) ?_
         refine At.exit ?_; refine At.the ?_; refine At.the ?_; exact fun a w e hs => e6 b9 (bdn j e5) a w (e.sub ⟨rfl, trivial⟩) hs
   ·clear a4 b5; rintro b5 ⟨c9, a3⟩ a4; obtain ⟨g1, f_, g2, hf_, j⟩ := bit a4; clear a4; have j : (Q17.l0b G c9 a3).bind _ = some d2 := j; unfold Q17.l0b at j
    ·refine sR 1 rfl (nT (At.seq ?_)); rcases bite j with ⟨d0, j⟩ | ⟨d0, j⟩
     ··refine At.condT rfl (decide_eq_true d0) ?_
       refine At.skip (At.thn (At.seq ?_)); refine At.block ?_; refine At.seq (At.region ?_); obtain ⟨b2, j⟩ := bnone j; refine At.y (Y.ixRd hr0_3 rfl rfl rfl rfl rfl rfl rfl b2.1 b2.2) rfl rfl rfl ?_; obtain ⟨h5, g3, g4⟩ := RdS.whole (P := Tryz.prog) hr0_3 (Sub.refl _) rfl b2.1 b2.2; obtain ⟨_, _, rfl, rfl, ⟨g5, g6, rfl, g7, g8⟩⟩ := g3; refine At.y (g4 rfl rfl rfl rfl) rfl rfl rfl ?_; refine At.alloc rfl rfl rfl (fun g9 => ?_); refine At.store rfl rfl rfl rfl .z rfl rfl rfl (.c (.c .n)) ?_; refine nT ?_; refine At.held [pc g9 [.string ⟨((gt G a3).Name).toArray⟩, .slice g5 ((gt G a3).States.length) g6] 41, T4, T5, T6] 10 rfl ?_; refine At.H.pw 0 rfl rfl rfl rfl rfl (.c .z (.c .z (.c .z (.c (.s .z) .n)))) ?_; refine At.H.pw 1 rfl rfl rfl rfl rfl (.c .z (.c .z (.c .z (.c (.s .z) .n)))) ?_; refine At.H.pw 2 rfl rfl rfl rfl rfl (.c .z (.c .z (.c .z (.c (.s .z) .n)))) ?_; refine At.H.tw 3 rfl (Y.load rfl rfl (.s .z) rfl rfl rfl) rfl rfl rfl (.c .z (.c .z (.c .z (.c (.s .z) .n)))) ?_; refine At.H.pw 4 rfl rfl rfl rfl rfl (.c .z (.c .z (.c .z (.c (.s .z) .n)))) ?_; refine At.H.tw 5 rfl (Y.load rfl rfl .z rfl rfl rfl) rfl rfl rfl (.c .z (.c .z (.c .z (.c (.s .z) .n)))) ?_; refine At.H.pw 6 rfl rfl rfl rfl rfl (.c .z (.c .z (.c .z (.c (.s .z) .n)))) ?_; refine At.H.tw 7 rfl (Y.load rfl rfl .z rfl rfl rfl) rfl rfl rfl (.c .z (.c .z (.c .z (.c (.s .z) .n)))) ?_; refine At.H.al [8] (Q6 ?_ Q8)
       ··refine At.HO.op rfl ?_
         obtain ⟨U, h0, j⟩ := bbind j; refine At.call rfl Q51.callee rfl rfl rfl (Q51.spec g8 rfl g7 h0) ?_; rintro _ _ ⟨rfl, rfl⟩; refine At.HO.back (.c .z (.c .z (.c .z (.c (.s .z) .n)))) ?_; refine At.H.al [9] (Q6 ?_ Q8)
         ··refine At.HO.op rfl ?_
           refine At.mapUpdate (k := ((gt G a3).Name)) (v := (⟨U.1, U.2.1, U.2.2.1, U.2.2.2⟩ : Q2)) rfl (.s (.s (.s .z))) rfl rfl (KeyOk.str rfl rfl) rfl rfl rfl rfl rfl ?_; refine At.HO.back (.c (.s .z) (.c (.s .z) (.c (.s .z) (.c (.s .z) .n)))) ?_; refine At.H.done (by kernel_rfl) ?_; refine At.ibn ?_; refine At.thn (At.region (At.run 2 rfl (At.nil (At.drop (.s .z) (At.f3 (At.f1 (At.f3 ?_))))))); refine At.f3 ?_; have j := bnx hf_ j; exact fun a w e hs => ⟨g1, ((mset c9 ((gt G a3).Name) (⟨U.1, U.2.1, U.2.2.1, U.2.2.2⟩ : Q2)), IntKind.i64.wrap (a3 + 1)), g2, j, e.sub ⟨rfl, rfl, rfl, rfl, rfl, trivial⟩, hs⟩
     ··refine At.condF rfl (decide_eq_false d0) ?_
       refine At.exit ?_; refine At.the ?_; refine At.the ?_; exact fun a w e hs => e2 c9 (bdn j e1) a w (e.sub ⟨rfl, rfl, trivial⟩) hs
 ··refine At.condT rfl (nt (bn b3)) ?_
   refine sR 1 rfl (nT (At.ret (At.thr ?_))); refine At.optNone Q11.ow 82 ?_; refine At.drop (.s .z) ?_; cases bret j; exact At.res (.inl rfl) rfl rfl ⟨none, rfl, rfl⟩

end Go.Bw
namespace Go.Proofs
open Go.Shelf
def Tryz.sort118_ren : Go.Shelf.Ren := ⟨fun | 53 => 118 | 64 => 151 | 63 => 150 | 78 => 178 | 79 => 179 | 70 => 169 | 71 => 170 | 72 => 171 | 73 => 172 | 74 => 173 | 75 => 174 | 59 => 175 | 76 => 176 | 77 => 177 | 88 => 214 | 89 => 215 | 90 => 216 | 91 => 217 | 92 => 218 | 68 => 128 | 96 => 231 | n => n, fun | 22 => 39 | 23 => 3 | 3 => 3 | 51 => 69 | 0 => 0 | 67 => 221 | 69 => 28 | 4 => 4 | 61 => 215 | 60 => 214 | 44 => 156 | 5 => 5 | 9 => 9 | 75 => 245 | 79 => 249 | 83 => 258 | 84 => 191 | n => n, fun | n => n⟩
theorem Tryz.sort118 : Go.Proofs.SlLaysN.n53 Tryz.prog Tryz.sort118_ren := {
  mixed := by kernel_rfl
  f53 := ⟨Tryz.f118.name, by decide, Tryz.func118.trans (congrArg some (by kernel_rfl))⟩
  f59 := ⟨Tryz.f175.name, by decide, Tryz.func175.trans (congrArg some (by kernel_rfl))⟩
  f63 := ⟨Tryz.f150.name, by decide, Tryz.func150.trans (congrArg some (by kernel_rfl))⟩
  f64 := Tryz.func151.trans (congrArg some (by kernel_rfl))
  f68 := ⟨Tryz.f128.name, by decide, Tryz.func128.trans (congrArg some (by kernel_rfl))⟩
  f70 := ⟨Tryz.f169.name, by decide, Tryz.func169.trans (congrArg some (by kernel_rfl))⟩
  f71 := ⟨Tryz.f170.name, by decide, Tryz.func170.trans (congrArg some (by kernel_rfl))⟩
  f72 := ⟨Tryz.f171.name, by decide, Tryz.func171.trans (congrArg some (by kernel_rfl))⟩
  f73 := ⟨Tryz.f172.name, by decide, Tryz.func172.trans (congrArg some (by kernel_rfl))⟩
  f74 := ⟨Tryz.f173.name, by decide, Tryz.func173.trans (congrArg some (by kernel_rfl))⟩
  f75 := ⟨Tryz.f174.name, by decide, Tryz.func174.trans (congrArg some (by kernel_rfl))⟩
  f76 := ⟨Tryz.f176.name, by decide, Tryz.func176.trans (congrArg some (by kernel_rfl))⟩
  f77 := ⟨Tryz.f177.name, by decide, Tryz.func177.trans (congrArg some (by kernel_rfl))⟩
  f78 := Tryz.func178.trans (congrArg some (by kernel_rfl))
  f79 := Tryz.func179.trans (congrArg some (by kernel_rfl))
  f88 := ⟨Tryz.f214.name, by decide, Tryz.func214.trans (congrArg some (by kernel_rfl))⟩
  f89 := Tryz.func215.trans (congrArg some (by kernel_rfl))
  f90 := Tryz.func216.trans (congrArg some (by kernel_rfl))
  f91 := ⟨Tryz.f217.name, by decide, Tryz.func217.trans (congrArg some (by kernel_rfl))⟩
  f92 := ⟨Tryz.f218.name, by decide, Tryz.func218.trans (congrArg some (by kernel_rfl))⟩
  f96 := ⟨Tryz.f231.name, by decide, Tryz.func231.trans (congrArg some (by kernel_rfl))⟩
  t0 := Tryz.underlying0
  a0 := Tryz.isAgg0
  z0 := Tryz.sizeOf0
  v0 := Tryz.zeroValue0
  t3 := Tryz.underlying3
  a3 := Tryz.isAgg3
  z3 := Tryz.sizeOf3
  v3 := Tryz.zeroValue3
  t4 := Tryz.underlying4
  a4 := Tryz.isAgg4
  z4 := Tryz.sizeOf4
  v4 := Tryz.zeroValue4
  t5 := Tryz.underlying5
  a5 := Tryz.isAgg5
  z5 := Tryz.sizeOf5
  v5 := Tryz.zeroValue5
  t9 := Tryz.underlying9
  a9 := Tryz.isAgg9
  z9 := Tryz.sizeOf9
  v9 := Tryz.zeroValue9
  t22 := Tryz.underlying39
  a22 := Tryz.isAgg39
  z22 := Tryz.sizeOf39
  v22 := Tryz.zeroValue39
  t23 := Tryz.underlying3
  a23 := Tryz.isAgg3
  z23 := Tryz.sizeOf3
  v23 := Tryz.zeroValue3
  t44 := Tryz.underlying156
  a44 := Tryz.isAgg156
  z44 := Tryz.sizeOf156
  v44 := Tryz.zeroValue156
  t51 := Tryz.underlying69
  a51 := Tryz.isAgg69
  z51 := Tryz.sizeOf69
  v51 := Tryz.zeroValue69
  t60 := Tryz.underlying214
  a60 := Tryz.isAgg214
  z60 := Tryz.sizeOf214
  v60 := Tryz.zeroValue214
  t61 := Tryz.underlying215
  a61 := Tryz.isAgg215
  z61 := Tryz.sizeOf215
  v61 := Tryz.zeroValue215
  t67 := Tryz.underlying221
  a67 := Tryz.isAgg221
  z67 := Tryz.sizeOf221
  v67 := Tryz.zeroValue221
  t69 := Tryz.underlying28
  a69 := Tryz.isAgg28
  z69 := Tryz.sizeOf28
  v69 := Tryz.zeroValue28
  t75 := Tryz.underlying245
  a75 := Tryz.isAgg245
  z75 := Tryz.sizeOf245
  v75 := Tryz.zeroValue245
  t79 := Tryz.underlying249
  a79 := Tryz.isAgg249
  z79 := Tryz.sizeOf249
  v79 := Tryz.zeroValue249
  t83 := Tryz.underlying258
  a83 := Tryz.isAgg258
  z83 := Tryz.sizeOf258
  v83 := Tryz.zeroValue258
  t84 := Tryz.underlying191
  a84 := Tryz.isAgg191
  z84 := Tryz.sizeOf191
  v84 := Tryz.zeroValue191 }
def Tryz.sort119_ren : Go.Shelf.Ren := ⟨fun | 54 => 119 | 64 => 151 | 65 => 152 | 78 => 178 | 79 => 179 | 80 => 180 | 81 => 181 | 82 => 182 | 83 => 183 | 84 => 184 | 85 => 185 | 61 => 186 | 86 => 187 | 87 => 188 | 93 => 219 | 89 => 215 | 90 => 216 | 94 => 220 | 95 => 221 | 69 => 222 | 97 => 232 | n => n, fun | 25 => 22 | 26 => 9 | 3 => 3 | 51 => 69 | 0 => 0 | 67 => 221 | 69 => 28 | 4 => 4 | 61 => 215 | 60 => 214 | 44 => 156 | 5 => 5 | 9 => 9 | 75 => 245 | 79 => 249 | 83 => 258 | 84 => 191 | n => n, fun | n => n⟩
theorem Tryz.sort119 : Go.Proofs.SlLaysN.n54 Tryz.prog Tryz.sort119_ren := {
  mixed := by kernel_rfl
  f54 := ⟨Tryz.f119.name, by decide, Tryz.func119.trans (congrArg some (by kernel_rfl))⟩
  f61 := ⟨Tryz.f186.name, by decide, Tryz.func186.trans (congrArg some (by kernel_rfl))⟩
  f64 := Tryz.func151.trans (congrArg some (by kernel_rfl))
  f65 := ⟨Tryz.f152.name, by decide, Tryz.func152.trans (congrArg some (by kernel_rfl))⟩
  f69 := ⟨Tryz.f222.name, by decide, Tryz.func222.trans (congrArg some (by kernel_rfl))⟩
  f78 := Tryz.func178.trans (congrArg some (by kernel_rfl))
  f79 := Tryz.func179.trans (congrArg some (by kernel_rfl))
  f80 := ⟨Tryz.f180.name, by decide, Tryz.func180.trans (congrArg some (by kernel_rfl))⟩
  f81 := ⟨Tryz.f181.name, by decide, Tryz.func181.trans (congrArg some (by kernel_rfl))⟩
  f82 := ⟨Tryz.f182.name, by decide, Tryz.func182.trans (congrArg some (by kernel_rfl))⟩
  f83 := ⟨Tryz.f183.name, by decide, Tryz.func183.trans (congrArg some (by kernel_rfl))⟩
  f84 := ⟨Tryz.f184.name, by decide, Tryz.func184.trans (congrArg some (by kernel_rfl))⟩
  f85 := ⟨Tryz.f185.name, by decide, Tryz.func185.trans (congrArg some (by kernel_rfl))⟩
  f86 := ⟨Tryz.f187.name, by decide, Tryz.func187.trans (congrArg some (by kernel_rfl))⟩
  f87 := ⟨Tryz.f188.name, by decide, Tryz.func188.trans (congrArg some (by kernel_rfl))⟩
  f89 := Tryz.func215.trans (congrArg some (by kernel_rfl))
  f90 := Tryz.func216.trans (congrArg some (by kernel_rfl))
  f93 := ⟨Tryz.f219.name, by decide, Tryz.func219.trans (congrArg some (by kernel_rfl))⟩
  f94 := ⟨Tryz.f220.name, by decide, Tryz.func220.trans (congrArg some (by kernel_rfl))⟩
  f95 := ⟨Tryz.f221.name, by decide, Tryz.func221.trans (congrArg some (by kernel_rfl))⟩
  f97 := ⟨Tryz.f232.name, by decide, Tryz.func232.trans (congrArg some (by kernel_rfl))⟩
  t0 := Tryz.underlying0
  a0 := Tryz.isAgg0
  z0 := Tryz.sizeOf0
  v0 := Tryz.zeroValue0
  t3 := Tryz.underlying3
  a3 := Tryz.isAgg3
  z3 := Tryz.sizeOf3
  v3 := Tryz.zeroValue3
  t4 := Tryz.underlying4
  a4 := Tryz.isAgg4
  z4 := Tryz.sizeOf4
  v4 := Tryz.zeroValue4
  t5 := Tryz.underlying5
  a5 := Tryz.isAgg5
  z5 := Tryz.sizeOf5
  v5 := Tryz.zeroValue5
  t9 := Tryz.underlying9
  a9 := Tryz.isAgg9
  z9 := Tryz.sizeOf9
  v9 := Tryz.zeroValue9
  t25 := Tryz.underlying22
  a25 := Tryz.isAgg22
  z25 := Tryz.sizeOf22
  v25 := Tryz.zeroValue22
  t26 := Tryz.underlying9
  a26 := Tryz.isAgg9
  z26 := Tryz.sizeOf9
  v26 := Tryz.zeroValue9
  t44 := Tryz.underlying156
  a44 := Tryz.isAgg156
  z44 := Tryz.sizeOf156
  v44 := Tryz.zeroValue156
  t51 := Tryz.underlying69
  a51 := Tryz.isAgg69
  z51 := Tryz.sizeOf69
  v51 := Tryz.zeroValue69
  t60 := Tryz.underlying214
  a60 := Tryz.isAgg214
  z60 := Tryz.sizeOf214
  v60 := Tryz.zeroValue214
  t61 := Tryz.underlying215
  a61 := Tryz.isAgg215
  z61 := Tryz.sizeOf215
  v61 := Tryz.zeroValue215
  t67 := Tryz.underlying221
  a67 := Tryz.isAgg221
  z67 := Tryz.sizeOf221
  v67 := Tryz.zeroValue221
  t69 := Tryz.underlying28
  a69 := Tryz.isAgg28
  z69 := Tryz.sizeOf28
  v69 := Tryz.zeroValue28
  t75 := Tryz.underlying245
  a75 := Tryz.isAgg245
  z75 := Tryz.sizeOf245
  v75 := Tryz.zeroValue245
  t79 := Tryz.underlying249
  a79 := Tryz.isAgg249
  z79 := Tryz.sizeOf249
  v79 := Tryz.zeroValue249
  t83 := Tryz.underlying258
  a83 := Tryz.isAgg258
  z83 := Tryz.sizeOf258
  v83 := Tryz.zeroValue258
  t84 := Tryz.underlying191
  a84 := Tryz.isAgg191
  z84 := Tryz.sizeOf191
  v84 := Tryz.zeroValue191 }
def Tryz.sort121_ren : Go.Shelf.Ren := ⟨fun | 6 => 121 | 15 => 151 | 14 => 153 | 28 => 178 | 29 => 179 | 20 => 189 | 21 => 190 | 22 => 191 | 23 => 192 | 24 => 193 | 25 => 194 | 26 => 195 | 27 => 196 | 46 => 223 | 47 => 215 | 48 => 216 | 49 => 224 | 50 => 225 | 57 => 233 | n => n, fun | 22 => 23 | 24 => 48 | 25 => 135 | 3 => 3 | 39 => 69 | 0 => 0 | 53 => 221 | 55 => 28 | 4 => 4 | 46 => 215 | 45 => 214 | 50 => 156 | 5 => 5 | 9 => 9 | 66 => 245 | 70 => 249 | 76 => 258 | 77 => 191 | n => n, fun | n => n⟩
theorem Tryz.sort121 : Go.Proofs.SlLaysF0.n6 Tryz.prog Tryz.sort121_ren := {
  mixed := by kernel_rfl
  f6 := ⟨Tryz.f121.name, by decide, Tryz.func121.trans (congrArg some (by kernel_rfl))⟩
  f14 := ⟨Tryz.f153.name, by decide, Tryz.func153.trans (congrArg some (by kernel_rfl))⟩
  f15 := Tryz.func151.trans (congrArg some (by kernel_rfl))
  f20 := ⟨Tryz.f189.name, by decide, Tryz.func189.trans (congrArg some (by kernel_rfl))⟩
  f21 := ⟨Tryz.f190.name, by decide, Tryz.func190.trans (congrArg some (by kernel_rfl))⟩
  f22 := ⟨Tryz.f191.name, by decide, Tryz.func191.trans (congrArg some (by kernel_rfl))⟩
  f23 := ⟨Tryz.f192.name, by decide, Tryz.func192.trans (congrArg some (by kernel_rfl))⟩
  f24 := ⟨Tryz.f193.name, by decide, Tryz.func193.trans (congrArg some (by kernel_rfl))⟩
  f25 := ⟨Tryz.f194.name, by decide, Tryz.func194.trans (congrArg some (by kernel_rfl))⟩
  f26 := ⟨Tryz.f195.name, by decide, Tryz.func195.trans (congrArg some (by kernel_rfl))⟩
  f27 := ⟨Tryz.f196.name, by decide, Tryz.func196.trans (congrArg some (by kernel_rfl))⟩
  f28 := Tryz.func178.trans (congrArg some (by kernel_rfl))
  f29 := Tryz.func179.trans (congrArg some (by kernel_rfl))
  f46 := ⟨Tryz.f223.name, by decide, Tryz.func223.trans (congrArg some (by kernel_rfl))⟩
  f47 := Tryz.func215.trans (congrArg some (by kernel_rfl))
  f48 := Tryz.func216.trans (congrArg some (by kernel_rfl))
  f49 := ⟨Tryz.f224.name, by decide, Tryz.func224.trans (congrArg some (by kernel_rfl))⟩
  f50 := ⟨Tryz.f225.name, by decide, Tryz.func225.trans (congrArg some (by kernel_rfl))⟩
  f57 := ⟨Tryz.f233.name, by decide, Tryz.func233.trans (congrArg some (by kernel_rfl))⟩
  t0 := Tryz.underlying0
  a0 := Tryz.isAgg0
  z0 := Tryz.sizeOf0
  v0 := Tryz.zeroValue0
  t3 := Tryz.underlying3
  a3 := Tryz.isAgg3
  z3 := Tryz.sizeOf3
  v3 := Tryz.zeroValue3
  t4 := Tryz.underlying4
  a4 := Tryz.isAgg4
  z4 := Tryz.sizeOf4
  v4 := Tryz.zeroValue4
  t5 := Tryz.underlying5
  a5 := Tryz.isAgg5
  z5 := Tryz.sizeOf5
  v5 := Tryz.zeroValue5
  t9 := Tryz.underlying9
  a9 := Tryz.isAgg9
  z9 := Tryz.sizeOf9
  v9 := Tryz.zeroValue9
  t22 := Tryz.underlying23
  a22 := Tryz.isAgg23
  z22 := Tryz.sizeOf23
  v22 := Tryz.zeroValue23
  t25 := Tryz.underlying135
  a25 := Tryz.isAgg135
  z25 := Tryz.sizeOf135
  v25 := Tryz.zeroValue135
  t39 := Tryz.underlying69
  a39 := Tryz.isAgg69
  z39 := Tryz.sizeOf69
  v39 := Tryz.zeroValue69
  t45 := Tryz.underlying214
  a45 := Tryz.isAgg214
  z45 := Tryz.sizeOf214
  v45 := Tryz.zeroValue214
  t46 := Tryz.underlying215
  a46 := Tryz.isAgg215
  z46 := Tryz.sizeOf215
  v46 := Tryz.zeroValue215
  t50 := Tryz.underlying156
  a50 := Tryz.isAgg156
  z50 := Tryz.sizeOf156
  v50 := Tryz.zeroValue156
  t53 := Tryz.underlying221
  a53 := Tryz.isAgg221
  z53 := Tryz.sizeOf221
  v53 := Tryz.zeroValue221
  t55 := Tryz.underlying28
  a55 := Tryz.isAgg28
  z55 := Tryz.sizeOf28
  v55 := Tryz.zeroValue28
  t66 := Tryz.underlying245
  a66 := Tryz.isAgg245
  z66 := Tryz.sizeOf245
  v66 := Tryz.zeroValue245
  t70 := Tryz.underlying249
  a70 := Tryz.isAgg249
  z70 := Tryz.sizeOf249
  v70 := Tryz.zeroValue249
  t76 := Tryz.underlying258
  a76 := Tryz.isAgg258
  z76 := Tryz.sizeOf258
  v76 := Tryz.zeroValue258
  t77 := Tryz.underlying191
  a77 := Tryz.isAgg191
  z77 := Tryz.sizeOf191
  v77 := Tryz.zeroValue191 }
def Tryz.sort122_ren : Go.Shelf.Ren := ⟨fun | 6 => 122 | 15 => 151 | 14 => 154 | 28 => 178 | 29 => 179 | 20 => 197 | 21 => 198 | 22 => 199 | 23 => 200 | 24 => 201 | 25 => 202 | 26 => 203 | 27 => 204 | 46 => 226 | 47 => 215 | 48 => 216 | 49 => 227 | 50 => 228 | 57 => 234 | n => n, fun | 22 => 24 | 24 => 41 | 25 => 139 | 3 => 3 | 39 => 69 | 0 => 0 | 53 => 221 | 55 => 28 | 4 => 4 | 46 => 215 | 45 => 214 | 50 => 156 | 5 => 5 | 9 => 9 | 66 => 245 | 70 => 249 | 76 => 258 | 77 => 191 | n => n, fun | n => n⟩
theorem Tryz.sort122 : Go.Proofs.SlLaysF0.n6 Tryz.prog Tryz.sort122_ren := {
  mixed := by kernel_rfl
  f6 := ⟨Tryz.f122.name, by decide, Tryz.func122.trans (congrArg some (by kernel_rfl))⟩
  f14 := ⟨Tryz.f154.name, by decide, Tryz.func154.trans (congrArg some (by kernel_rfl))⟩
  f15 := Tryz.func151.trans (congrArg some (by kernel_rfl))
  f20 := ⟨Tryz.f197.name, by decide, Tryz.func197.trans (congrArg some (by kernel_rfl))⟩
  f21 := ⟨Tryz.f198.name, by decide, Tryz.func198.trans (congrArg some (by kernel_rfl))⟩
  f22 := ⟨Tryz.f199.name, by decide, Tryz.func199.trans (congrArg some (by kernel_rfl))⟩
  f23 := ⟨Tryz.f200.name, by decide, Tryz.func200.trans (congrArg some (by kernel_rfl))⟩
  f24 := ⟨Tryz.f201.name, by decide, Tryz.func201.trans (congrArg some (by kernel_rfl))⟩
  f25 := ⟨Tryz.f202.name, by decide, Tryz.func202.trans (congrArg some (by kernel_rfl))⟩
  f26 := ⟨Tryz.f203.name, by decide, Tryz.func203.trans (congrArg some (by kernel_rfl))⟩
  f27 := ⟨Tryz.f204.name, by decide, Tryz.func204.trans (congrArg some (by kernel_rfl))⟩
  f28 := Tryz.func178.trans (congrArg some (by kernel_rfl))
  f29 := Tryz.func179.trans (congrArg some (by kernel_rfl))
  f46 := ⟨Tryz.f226.name, by decide, Tryz.func226.trans (congrArg some (by kernel_rfl))⟩
  f47 := Tryz.func215.trans (congrArg some (by kernel_rfl))
  f48 := Tryz.func216.trans (congrArg some (by kernel_rfl))
  f49 := ⟨Tryz.f227.name, by decide, Tryz.func227.trans (congrArg some (by kernel_rfl))⟩
  f50 := ⟨Tryz.f228.name, by decide, Tryz.func228.trans (congrArg some (by kernel_rfl))⟩
  f57 := ⟨Tryz.f234.name, by decide, Tryz.func234.trans (congrArg some (by kernel_rfl))⟩
  t0 := Tryz.underlying0
  a0 := Tryz.isAgg0
  z0 := Tryz.sizeOf0
  v0 := Tryz.zeroValue0
  t3 := Tryz.underlying3
  a3 := Tryz.isAgg3
  z3 := Tryz.sizeOf3
  v3 := Tryz.zeroValue3
  t4 := Tryz.underlying4
  a4 := Tryz.isAgg4
  z4 := Tryz.sizeOf4
  v4 := Tryz.zeroValue4
  t5 := Tryz.underlying5
  a5 := Tryz.isAgg5
  z5 := Tryz.sizeOf5
  v5 := Tryz.zeroValue5
  t9 := Tryz.underlying9
  a9 := Tryz.isAgg9
  z9 := Tryz.sizeOf9
  v9 := Tryz.zeroValue9
  t22 := Tryz.underlying24
  a22 := Tryz.isAgg24
  z22 := Tryz.sizeOf24
  v22 := Tryz.zeroValue24
  t25 := Tryz.underlying139
  a25 := Tryz.isAgg139
  z25 := Tryz.sizeOf139
  v25 := Tryz.zeroValue139
  t39 := Tryz.underlying69
  a39 := Tryz.isAgg69
  z39 := Tryz.sizeOf69
  v39 := Tryz.zeroValue69
  t45 := Tryz.underlying214
  a45 := Tryz.isAgg214
  z45 := Tryz.sizeOf214
  v45 := Tryz.zeroValue214
  t46 := Tryz.underlying215
  a46 := Tryz.isAgg215
  z46 := Tryz.sizeOf215
  v46 := Tryz.zeroValue215
  t50 := Tryz.underlying156
  a50 := Tryz.isAgg156
  z50 := Tryz.sizeOf156
  v50 := Tryz.zeroValue156
  t53 := Tryz.underlying221
  a53 := Tryz.isAgg221
  z53 := Tryz.sizeOf221
  v53 := Tryz.zeroValue221
  t55 := Tryz.underlying28
  a55 := Tryz.isAgg28
  z55 := Tryz.sizeOf28
  v55 := Tryz.zeroValue28
  t66 := Tryz.underlying245
  a66 := Tryz.isAgg245
  z66 := Tryz.sizeOf245
  v66 := Tryz.zeroValue245
  t70 := Tryz.underlying249
  a70 := Tryz.isAgg249
  z70 := Tryz.sizeOf249
  v70 := Tryz.zeroValue249
  t76 := Tryz.underlying258
  a76 := Tryz.isAgg258
  z76 := Tryz.sizeOf258
  v76 := Tryz.zeroValue258
  t77 := Tryz.underlying191
  a77 := Tryz.isAgg191
  z77 := Tryz.sizeOf191
  v77 := Tryz.zeroValue191 }
end Go.Proofs
namespace Go.Bw
open Go Go.RowKit Go.Sort Go.Proofs Go.Shelf

theorem flat_str (xs : List Bs) : xs.flatMap Fl.bs.enc = xs.map encStr := by
 induction xs with
 | nil => rfl
 | cons x xs ih => rw [List.flatMap_cons, ih]; rfl
theorem Q227 (e : Nat) (A : Option Addr) (n c : Nat) (xs : List Bs) : row Fl.bs e A n c xs = own e 1 A n c (xs.map encStr) := by
 unfold row
 rw [flat_str]
 rfl
theorem Q330 {P : Program} {ρ : Ren} (Ly : SlLaysN.n54 P ρ) (R : Res) (l : List HProp) {e n c : Nat} {A : Option Addr} {xs : List Bs} (hb : xs.length < 4611686018427387904) :
 Spec P (ρ.f 54) [.slice A n c] R (row Fl.bs e A n c xs :: l) (fun v l' => v = .tuple #[] ∧ row Fl.bs e A n c (xs.mergeSort fun x y => decide (x ≤ y)) :: l = l') := fun w hs => by
 obtain ⟨h, o, s⟩ := hs.head
 have hn := Q113 o
 subst hn
 rw [Q227] at o hs
 rcases o.2 with ⟨rfl, h0, rfl⟩ | ⟨g, cur, rfl, hg, h3, h4, h5, h6⟩
 ·have hx : xs = [] := List.eq_nil_of_length_eq_zero h0
  subst hx
  refine (AnyG.slices_Sort_string_none Ly none 0 w).mono fun e w' ⟨he, hw⟩ => ⟨_, _, he, ⟨rfl, rfl⟩, ?_⟩
  subst hw
  rw [Q227]
  simpa using hs
 ·have hgw : w.heap[g]? = some (.cells cur e) := s g _ hg
  have hH : Holds encStr w g 0 xs.toArray := Q206 hgw (by rw [Nat.mul_one] at h6; exact h6)
  refine (AnyG.slices_Sort_string Ly g 0 c xs w hH (Array.getElem?_eq_some_iff.1 hgw).1 hb).mono fun e' w' ⟨he, n, os, hw⟩ => ⟨_, _, he, ⟨rfl, rfl⟩, ?_⟩
  subst hw
  rw [Q227]
  exact sat.sorted hs (by simp)

theorem grown_of {W w : World} (h : sat (Res.of W) [] w) : ∃ q os, w = Sort.grow (W.drewN q) os := by
 obtain ⟨ok, _⟩ := h
 obtain ⟨s, h1, h2, h3, h4⟩ := ok
 refine ⟨w.drawn - W.drawn, w.heap.extract W.heap.size w.heap.size, ?_⟩
 have h4' : W.drawn ≤ w.drawn := h4
 have hsz : W.heap.size ≤ w.heap.size := by
  rcases Nat.eq_zero_or_pos W.heap.size with h0 | h0
  ·omega
  ·have := s (W.heap.size - 1) _ (Array.getElem?_eq_getElem (by omega))
   have := (Array.getElem?_eq_some_iff.1 this).1
   omega
 have hh : w.heap = W.heap ++ w.heap.extract W.heap.size w.heap.size := by
  apply Array.ext_getElem?
  intro i
  by_cases hi : i < W.heap.size
  ·rw [Array.getElem?_append_left hi]
   exact (s i _ (Array.getElem?_eq_getElem hi)).trans (Array.getElem?_eq_getElem hi).symm
  ·rw [Array.getElem?_append_right (by omega), Array.getElem?_extract]
   by_cases h2 : i < w.heap.size
   ·rw [if_pos (by omega)]
    congr 1
    omega
   ·rw [if_neg (by omega), Array.getElem?_eq_none (by omega)]
 have hd : W.drawn + (w.drawn - W.drawn) = w.drawn := by omega
 cases w
 simp only [Sort.grow, World.drewN] at *
 simp only [World.mk.injEq]
 exact ⟨hh, h2, hd.symm, h1, h3⟩
theorem Spec.reads {P : Program} {f : Nat} {args : List Value} {W : World} {u : Value} (h : Spec P f args (Res.of W) [] (fun v l' => v = u ∧ [] = l')) :
 Calls P f args.toArray W fun e w' => e = .returned u ∧ ∃ q os', w' = Sort.grow (W.drewN q) os' :=
 (h W (sat_of W)).mono fun e w' ⟨v, l', he, ⟨hv, hl⟩, hs⟩ => by
  subst hv hl
  exact ⟨he, grown_of hs⟩

section
variable {β : Type} [Inhabited β] {enc : β → List Value} {k : Nat}
theorem Q181 (hk : ∀ x, (enc x).length = k) (hk0 : 0 < k) : ∀ (xs : List β), (flatK enc k xs.toArray).toList = xs.flatMap enc := fun xs => by
 have hl : ∀ (ys : List β), (ys.flatMap enc).length = ys.length * k := fun ys => by
  induction ys with
  | nil => simp
  | cons y ys ih => rw [List.flatMap_cons, List.length_append, ih, hk, List.length_cons, Nat.succ_mul]; omega
 have hg : ∀ (ys : List β) (t : Nat), t < ys.length * k → (ys.flatMap enc)[t]? = (enc (ys[t / k]!))[t % k]? := fun ys => by
  induction ys with
  | nil => intro t ht; simp at ht
  | cons y ys ih =>
   intro t ht
   rw [List.flatMap_cons]
   by_cases h : t < k
   ·rw [List.getElem?_append_left (by rw [hk]; exact h), Nat.div_eq_of_lt h, Nat.mod_eq_of_lt h]
    rfl
   ·rw [List.length_cons, Nat.succ_mul] at ht
    rw [List.getElem?_append_right (by rw [hk]; omega), hk, ih (t - k) (by omega)]
    have h1 : t / k = (t - k) / k + 1 := by rw [Nat.div_eq, if_pos ⟨hk0, by omega⟩]
    have h2 : t % k = (t - k) % k := by rw [Nat.mod_eq_sub_mod (by omega)]
    rw [h1, h2]
    rfl
 apply List.ext_getElem?
 intro t
 by_cases ht : t < xs.length * k
 ·rw [hg xs t ht]
  have hm : t % k < k := Nat.mod_lt _ hk0
  have hq : t / k < xs.length := Nat.div_lt_of_lt_mul (by rw [Nat.mul_comm]; exact ht)
  have : t < (flatK enc k xs.toArray).size := by rw [size_flatK]; simpa using ht
  rw [Array.getElem?_toList, Array.getElem?_eq_getElem this]
  have h1 := get_flatK enc k xs.toArray t (by simpa using ht)
  rw [getElem!_pos _ t this] at h1
  rw [h1]
  have : xs.toArray[t / k]! = xs[t / k]! := by simp
  rw [this, getElem!_pos _ (t % k) (by rw [hk]; exact hm), List.getElem?_eq_getElem (by rw [hk]; exact hm)]
 ·have h1 : (xs.flatMap enc).length ≤ t := by rw [hl]; omega
  rw [List.getElem?_eq_none (l := xs.flatMap enc) h1, List.getElem?_eq_none (by rw [Array.length_toList, size_flatK]; simpa using ht)]
variable {R : Res} {l : List HProp} {w : World} {g n c e : Nat} {os : Array Obj} {cur : Array Value} {xs ys : List β}
theorem Q313 (hk : ∀ x, (enc x).length = k) (hk0 : 0 < k) (hb : w.heap[g]? = some (.cells cur e (0, 0))) (ht : cur.toList.take (xs.length * k) = xs.flatMap enc) : HoldsK enc k w g 0 xs.toArray := by
 unfold HoldsK
 have h1 := Q206 (enc := (id : Value → Value)) (xs := xs.flatMap enc) hb (by
  rw [List.map_id, ← ht, List.length_take]
  have hlen : (xs.flatMap enc).length = xs.length * k := by rw [← Q181 hk hk0]; simp
  have : (cur.toList.take (xs.length * k)).length = xs.length * k := by rw [ht, hlen]
  rw [List.length_take] at this
  rw [this])
 rw [← Q181 hk hk0] at h1
 exact h1
theorem sat.sortedK (hk : ∀ x, (enc x).length = k) (hk0 : 0 < k) (hs : sat R (own e k (some ⟨g, 0, none⟩) xs.length c (xs.flatMap enc) :: l) w) (hl : ys.length = xs.length) :
 sat R (own e k (some ⟨g, 0, none⟩) xs.length c (ys.flatMap enc) :: l) (sortWorldK enc k w g 0 n ys.toArray os) := by
 have hf : ∀ zs : List β, (zs.flatMap enc).length = zs.length * k := fun zs => by rw [← Q181 hk hk0]; simp
 obtain ⟨h, o, s⟩ := hs.head
 rcases o.2 with ⟨h0, _⟩ | ⟨g', cur, h1, hg, h3, h4, h5, h6⟩
 ·cases h0
 ·cases h1
  have hgw : w.heap[g]? = some (.cells cur e) := s g _ hg
  have hfl : flatK enc k ys.toArray = (ys.flatMap enc).toArray := by apply Array.ext'; rw [Q181 hk hk0]
  have hq : (ys.flatMap enc).length ≤ cur.size := by rw [hf, hl, h5]; exact Nat.mul_le_mul_right _ h3
  unfold sortWorldK putRowK
  rw [hfl]
  obtain ⟨A', c', hv, hs'⟩ := hs.grown (v' := .slice (some ⟨g, 0, none⟩) xs.length c) (m' := xs.length) (ys := ys.flatMap enc) (Q223 (enc := (id : Value → Value)) (n := n) (os := os) (ys.flatMap enc).toArray) (Nat.le_add_right _ _)
   ⟨by rw [hf, hl], .inr ⟨g, c, _, rfl, Nat.zero_le _, Q233 (enc := (id : Value → Value)) _ hgw, h3, h4, by simp [putCells, h5], by
    rw [← hl, ← hf]
    have := Q263 (enc := (id : Value → Value)) cur (ys.flatMap enc) hq
    rw [List.map_id] at this
    exact this⟩⟩ (.inl rfl)
  cases hv
  exact hs'
theorem sortk {P : Program} {ρ : Ren} (L : SlLaysF0.n6 P ρ) (hk : ∀ x, (enc x).length = k) (hk0 : 0 < k) (h1 : ∀ x, ∀ v ∈ enc x, v.oneCell' = true) (aE : ∀ w, (isAgg (ρ.t 24)).run P w = .ok true w) (zE : ∀ w, (Go.sizeOf (ρ.t 24)).run P w = .ok k w)
 (cf : β → β → Int) (hO : SWO (ltOf cf)) (hT : ∀ x y, (ltOf cf) x y = false → (ltOf cf) y x = false → x = y) (gf : Nat) (eg : ∀ args w, (callFunc gf args).run P w = .ok (.enter gf args) w) (hb : xs.length < 4611686018427387904)
 (hcmp : ∀ W : World, (∀ b o, b ≠ g → w.heap[b]? = some o → W.heap[b]? = some o) → ∀ x y, Calls P gf #[.agg (enc x).toArray, .agg (enc y).toArray] W fun e w' => e = .returned (.int .i64 (cf x y)) ∧ ∃ q os', w' = Sort.grow (W.drewN q) os')
 (hs : sat R (own e k (some ⟨g, 0, none⟩) xs.length c (xs.flatMap enc) :: l) w) :
 Calls P (ρ.f 6) #[.slice (some ⟨g, 0, none⟩) xs.length c, .func (.func gf) #[] #[]] w fun e' w' => e' = .returned (.tuple #[]) ∧ sat R (own e k (some ⟨g, 0, none⟩) xs.length c ((xs.mergeSort fun x y => !(ltOf cf) y x).flatMap enc) :: l) w' := by
 obtain ⟨h, o, s⟩ := hs.head
 rcases o.2 with ⟨h0, _⟩ | ⟨g', cur, h1', hg, h3, h4, h5, h6⟩
 ·cases h0
 ·cases h1'
  have hgw : w.heap[g]? = some (.cells cur e) := s g _ hg
  have hsz : xs.toArray.size = xs.length := by simp
  have hrun := AnyQ.slices_SortFunc_total L k aE zE enc hk h1 cf hO gf #[] g 0 c xs.toArray w eg (fun m os dk hdk x y => by
   have := hcmp (sortWorldK enc k w g 0 m dk os) (fun b o hb ho => by
    have hw := (Q223 (w := w) (enc := (id : Value → Value)) (g := g) (n := m) (os := os) (flatK enc k dk)).block b (Array.getElem?_eq_some_iff.1 ho).1 (fun e => hb (by cases e; rfl))
    exact hw.trans ho) x y
   simpa using this) (Q313 hk hk0 hgw h6) (Array.getElem?_eq_some_iff.1 hgw).1 (by rw [hsz]; exact hb) hT
  rw [hsz] at hrun
  refine hrun.mono fun e' w' ⟨he, m, os, hw⟩ => ⟨he, ?_⟩
  subst hw
  exact sat.sortedK hk hk0 hs (by simp)
end
section
variable {P : Program} {ρ : Ren} {α : Type}
theorem Q328 [Inhabited α] (L : SlLaysF0.n6 P ρ) (F : Fl α) (aE : ∀ w, (isAgg (ρ.t 24)).run P w = .ok true w) (zE : ∀ w, (Go.sizeOf (ρ.t 24)).run P w = .ok F.sz w)
 (cf : α → α → Int) (hO : SWO (ltOf cf)) (hT : ∀ x y, (ltOf cf) x y = false → (ltOf cf) y x = false → x = y) (gf : Nat) (eg : ∀ args w, (callFunc gf args).run P w = .ok (.enter gf args) w)
 (hcmp : ∀ R x y, Spec P gf [.agg (F.enc x).toArray, .agg (F.enc y).toArray] R [] (fun v l' => v = .int .i64 (cf x y) ∧ [] = l')) (R : Res) (l : List HProp) {e n c : Nat} {A : Option Addr} {xs : List α} (hb : xs.length < 4611686018427387904) :
 Spec P (ρ.f 6) [.slice A n c, .func (.func gf) #[] #[]] R (row F e A n c xs :: l) (fun v l' => v = .tuple #[] ∧ row F e A n c (xs.mergeSort fun x y => !(ltOf cf) y x) :: l = l') := fun w hs => by
 have hn : xs.length = n := let ⟨_, o, _⟩ := hs.head; Q113 o
 subst hn
 obtain ⟨h, o, s⟩ := hs.head
 rcases o.2 with ⟨rfl, h0, rfl⟩ | ⟨g, cur, rfl, hg, h3, h4, h5, h6⟩
 ·have hx : xs = [] := List.eq_nil_of_length_eq_zero h0
  subst hx
  refine (AnyF.slices_SortFunc_none L none 0 _ w).mono fun e' w' ⟨he, hw⟩ => ⟨_, _, he, ⟨rfl, rfl⟩, ?_⟩
  subst hw
  simpa using hs
 ·refine (sortk L F.len F.pos F.one aE zE cf hO hT gf eg hb (fun W _ x y => (hcmp _ x y).reads) hs).mono fun e' w' ⟨he, h7⟩ => ⟨_, _, he, ⟨rfl, rfl⟩, ?_⟩
  have : (xs.mergeSort fun x y => !(ltOf cf) y x).length = xs.length := by simp
  exact h7.imp fun h o => o
theorem Q301 (L : SlLaysF0.n6 P ρ) (T : Ow α) (aE : ∀ w, (isAgg (ρ.t 24)).run P w = .ok true w) (zE : ∀ w, (Go.sizeOf (ρ.t 24)).run P w = .ok T.sz w)
 (cf : α → α → Int) (hO : SWO (ltOf cf)) (gf : Nat) (eg : ∀ args w, (callFunc gf args).run P w = .ok (.enter gf args) w)
 (hcmp : ∀ R x y cs cs', T.rep.K R.heap x cs → T.rep.K R.heap y cs' → Spec P gf [.agg cs.toArray, .agg cs'.toArray] R [] (fun v l' => v = .int .i64 (cf x y) ∧ [] = l')) (R : Res) (l : List HProp) {e n c : Nat} {A : Option Addr} {xs : List α} (hb : xs.length < 4611686018427387904)
 (hT : xs.Pairwise fun x y => ¬ ((ltOf cf) x y = false ∧ (ltOf cf) y x = false)) :
 Spec P (ρ.f 6) [.slice A n c, .func (.func gf) #[] #[]] R (Bw.grow T e A n c xs :: l) (fun v l' => v = .tuple #[] ∧ Bw.grow T e A n c (xs.mergeSort fun x y => !(ltOf cf) y x) :: l = l') := fun w hs => by
 have hn : xs.length = n := let ⟨_, o, _⟩ := hs.head; (Q165 o).1
 subst hn
 obtain ⟨css, hbl, h2⟩ := sat.grow.1 hs
 rw [← hbl] at h2
 obtain ⟨h, o, s⟩ := h2.head
 rcases o.2 with ⟨rfl, h0, rfl⟩ | ⟨g, cur, rfl, hg, h3, h4, h5, h6⟩
 ·have hx : xs = [] := List.eq_nil_of_length_eq_zero (hbl.symm.trans h0)
  subst hx
  refine (AnyF.slices_SortFunc_none L none 0 _ w).mono fun e' w' ⟨he, hw⟩ => ⟨_, _, he, ⟨rfl, rfl⟩, ?_⟩
  subst hw
  simpa using hs
 ·by_cases hne : xs.length = 0
  ·have : xs = [] := List.eq_nil_of_length_eq_zero hne
   subst this
   refine (AnyF.slices_SortFunc_none L (some ⟨g, 0, none⟩) c _ w).mono fun e' w' ⟨he, hw⟩ => ⟨_, _, he, ⟨rfl, rfl⟩, ?_⟩
   subst hw
   simpa using hs
  have hpos : 0 < xs.length := Nat.pos_of_ne_zero hne
  have hinh : Inhabited (Fin xs.length) := ⟨⟨0, hpos⟩⟩
  let ci : Fin xs.length → Raw T.sz := fun i => css[i.1]'(by rw [hbl]; exact i.2)
  let enc : Fin xs.length → List Value := fun i => (ci i).1
  let cf' : Fin xs.length → Fin xs.length → Int := fun i j => cf xs[i.1] xs[j.1]
  have hO' : SWO (ltOf cf') := ⟨fun x => hO.irrefl _, fun x y z => hO.trans _ _ _, fun x y z => hO.ntrans _ _ _⟩
  have hT' : ∀ x y, ltOf cf' x y = false → ltOf cf' y x = false → x = y := fun x y h1 h2 => by
   have hp := List.pairwise_iff_getElem.1 hT
   rcases Nat.lt_trichotomy x.1 y.1 with h3 | h3 | h3
   ·exact absurd ⟨h1, h2⟩ (hp x.1 y.1 x.2 y.2 h3)
   ·exact Fin.ext h3
   ·exact absurd ⟨h2, h1⟩ (hp y.1 x.1 y.2 x.2 h3)
  have hcss : css = (List.finRange xs.length).map ci := by
   apply List.ext_getElem
   ·simp [hbl]
   ·intro i h1 h2
    simp [ci]
  have hfl : css.flatMap (Fl.raw T.sz T.pos).enc = (List.finRange xs.length).flatMap enc := by
   rw [hcss, List.flatMap_map]
   rfl
  have hgins : gins T xs css = (List.finRange xs.length).map fun i => T.own xs[i.1] (ci i).1 := by
   apply List.ext_getElem
   ·simp [gins, hbl]
   ·intro i h1 h2
    simp [gins, ci]
  have hlen : (List.finRange xs.length).length = css.length := by rw [List.length_finRange, hbl]
  have h2' : sat R (own e T.sz (some ⟨g, 0, none⟩) (List.finRange xs.length).length c ((List.finRange xs.length).flatMap enc) :: (gins T xs css ++ l)) w := by
   rw [hlen, ← hfl]; exact h2
  have hgw : w.heap[g]? = some (.cells cur e) := s g _ hg
  have hrun := sortk L (enc := enc) (fun x => (ci x).2.1) T.pos (fun x => (ci x).2.2) aE zE cf' hO' hT' gf eg (by simpa using hb) (fun W hW x y => by
   have hK : ∀ i : Fin xs.length, T.rep.K (wh W) xs[i.1] (ci i).1 := fun i => by
    obtain ⟨ok, k, ⟨k1, k2, ow, inn, dd, t1, t2⟩, dR, ss⟩ := h2
    obtain ⟨h', ro, sr⟩ := Q203 (Q115.1 inn).choose_spec.choose_spec.1 (Q240 (T := T) (xs := xs) (css := css) (i := i.1) (List.getElem?_eq_getElem i.2) (List.getElem?_eq_getElem (by rw [hbl]; exact i.2)))
    have s3 : Sub h' k2 := sr.trans (Q115.1 inn).choose_spec.choose_spec.2.2.2.1
    refine T.rd ro fun b ob hob => hW b ob (fun hbg => ?_) (ss b ob (t2 b ob (s3 b ob hob)))
    subst hbg
    have hgk : ∃ ob', k1 b = some ob' := by
     rcases ow.2 with ⟨e0, _⟩ | ⟨g2, cur2, e2, hg2, _⟩
     ·cases e0
     ·cases e2
      exact ⟨_, hg2⟩
    exact dd b _ _ hgk.choose_spec (s3 b ob hob)
   exact (hcmp (Res.of W) _ _ _ _ (hK x) (hK y)).reads) h2'
  rw [hlen, hbl] at hrun
  refine hrun.mono fun e' w' ⟨he, h7⟩ => ⟨_, _, he, ⟨rfl, rfl⟩, ?_⟩
  let ys := (List.finRange xs.length).mergeSort fun x y => !(ltOf cf') y x
  have hperm : ys.Perm (List.finRange xs.length) := List.mergeSort_perm _ _
  have hxs : (xs.mergeSort fun x y => !(ltOf cf) y x) = ys.map fun i => xs[i.1] := by
   show _ = ((List.finRange xs.length).mergeSort fun x y => !(ltOf cf') y x).map fun i => xs[i.1]
   rw [List.map_mergeSort (r := fun x y => !(ltOf cf') y x) (s := fun x y => !(ltOf cf) y x) (f := fun i : Fin xs.length => xs[i.1]) (fun a _ b _ => rfl)]
   congr 1
   apply List.ext_getElem
   ·simp
   ·intro i h1 h2
    simp
  rw [hxs]
  refine sat.grow.2 ⟨ys.map ci, by simp, ?_⟩
  have e1 : (ys.map ci).flatMap (Fl.raw T.sz T.pos).enc = ys.flatMap enc := by rw [List.flatMap_map]; rfl
  have e2 : gins T (ys.map fun i => xs[i.1]) (ys.map ci) = ys.map fun i => T.own xs[i.1] (ci i).1 := by
   apply List.ext_getElem
   ·simp [gins]
   ·intro i h1 h2
    simp [gins]
  have h8 : sat R (own e T.sz (some ⟨g, 0, none⟩) xs.length c (ys.flatMap enc) :: (gins T xs css ++ l)) w' := h7
  rw [e2]
  rw [hgins] at h8
  obtain ⟨ok, k, ⟨k1, k2, a, b, d, t1, t2⟩, dR, ss⟩ := h8
  refine ⟨ok, k, ⟨k1, k2, ?_, Q326 (hperm.symm.map _) b, d, t1, t2⟩, dR, ss⟩
  show own e T.sz (some ⟨g, 0, none⟩) xs.length c ((ys.map ci).flatMap (Fl.raw T.sz T.pos).enc) k1
  rw [e1]
  exact a
end
def gcf {α : Type} (c : α → α → Option Int) (x y : α) : Int := (c x y).getD 0
def CmpSwo {α : Type} (c : α → α → Option Int) : Prop := (∀ x y, (c x y).isSome = true) ∧ SWO (ltOf (gcf c))
def CmpTot {α : Type} (c : α → α → Option Int) : Prop := CmpSwo c ∧ ∀ x y, ltOf (gcf c) x y = false → ltOf (gcf c) y x = false → x = y
def CmpParts {α : Type} (c : α → α → Option Int) (xs : List α) : Prop := xs.Pairwise fun x y => ¬ (ltOf (gcf c) x y = false ∧ ltOf (gcf c) y x = false)
def byCmp {α : Type} (c : α → α → Option Int) (xs : List α) : List α := xs.mergeSort fun x y => !(ltOf (gcf c)) y x
theorem gcf_eq {α : Type} {c : α → α → Option Int} (h : CmpSwo c) (x y : α) : c x y = some (gcf c x y) := by
 have := h.1 x y
 unfold gcf
 cases hc : c x y with
 | none => rw [hc] at this; cases this
 | some v => rfl
end Go.Bw
