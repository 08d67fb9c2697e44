/- BuildBeside, part 2: walks and plain laws. Conditions: none. -/
import Derived.Test.YtfbjkcnefhgodaaGreatDoorProg
import Derived.MapKept
import Derived.Test.YtfbjkcnefhgodaaGreatDoorBwBuildBesideA
set_option linter.unusedVariables false
set_option linter.unusedSimpArgs false
set_option linter.unusedSectionVars false
set_option maxRecDepth 100000
set_option maxHeartbeats 2000000
namespace Go.Bw
open Go Go.RowKit Go.Proofs
variable {R : Res} {Fr : List HProp} {b1 n1_1 c1_1 n1_2 c1_2 n1_3 c1_3 n0 c0 b1_0_c0 n1_0_c0_1 c1_0_c0_1 n1_0_c0_2 c1_0_c0_2 n1_0_c0_3 c1_0_c0_3 b1_c0 b1_c0_0_c0 n1_c0_0_c0_1 c1_c0_0_c0_1 n1_c0_0_c0_2 c1_c0_0_c0_2 n1_c0_0_c0_3 c1_c0_0_c0_3 n0_1 c0_1 n0_2 c0_2 n0_3 c0_3 : Nat} {A1_1 A1_2 A1_3 A0 A1_0_c0_1 A1_0_c0_2 A1_0_c0_3 A1_c0_0_c0_1 A1_c0_0_c0_2 A1_c0_0_c0_3 A0_1 A0_2 A0_3 : Option Addr}
structure Q3 where
 From : Int
 Action : Int
 To : Int
deriving Inhabited, DecidableEq
def Q3.fl : Fl Q3 := ⟨3, fun x => [i6 x.From, i6 x.Action, i6 x.To], fun _ => rfl, fun x u hu => by simp at hu; rcases hu with rfl | rfl | rfl <;> rfl, by decide⟩
structure Q5 where
 Name : Bs
 States : List Int
deriving Inhabited
def Q5.rep : Rep Q5 := ((Fl.bs.rep).pair (((Fl.int .i64).rep).slice)).iso (fun x => (x.Name, x.States))
def Q5.ow : Ow Q5 := ((Ow.fl Fl.bs).pair (Ow.sl (Fl.int .i64) 3)).iso (fun x => (x.Name, x.States))
theorem Q5.ent {x0 : Bs} {A1 : Option Addr} {n1 c1 : Nat} {x1 : List Int} : Ent [row (Fl.int .i64) 3 A1 n1 c1 x1] (Q5.ow.own ⟨x0, x1⟩ [.string ⟨(x0).toArray⟩, .slice A1 n1 c1]) := (Ent.pair (c1 := [.string ⟨(x0).toArray⟩]) (c2 := [.slice A1 n1 c1]) (Ent.fl Fl.bs rfl) (Ent.sl (Fl.int .i64)))
theorem bytealg_cmpstring.ext : ExtOk Tryz.prog 160 Extern.BytealgCompare.compare := ⟨_, Tryz.func160, by kernel_rfl, by kernel_rfl, by kernel_rfl, by kernel_rfl⟩

noncomputable def Q83.f (a0 p : Int) (u : List Bs) (C : List Q3) (D : List Q5) : Option Bool :=
 jn (
 if 0 ≤ a0 then
 some (.inl (decide (a0 < p)))
 else
 some (.inl false)) (fun (q : Bool) =>
 some q)
theorem Q83.callee : Callee Tryz.prog 68 := ⟨_, Tryz.func68, by kernel_rfl, by kernel_rfl⟩
theorem Q83.spec {a0 p : Int} {u : List Bs} {C : List Q3} {D : List Q5} (hr1_1 : RdS Fl.bs.rep R.heap A1_1 u) (hn1_1 : u.length = n1_1) (hc1_1 : n1_1 ≤ c1_1) (hr1_2 : RdS Q3.fl.rep R.heap A1_2 C) (hn1_2 : C.length = n1_2) (hc1_2 : n1_2 ≤ c1_2) (hr1_3 : RdS Q5.rep R.heap A1_3 D) (hn1_3 : D.length = n1_3) (hc1_3 : n1_3 ≤ c1_3) {r : Bool} (j : Q83.f a0 p u C D = some r) :
 Spec Tryz.prog 68 [i6 a0, bp b1] R (pc b1 [i6 p, .slice A1_1 n1_1 c1_1, .slice A1_2 n1_2 c1_2, .slice A1_3 n1_3 c1_3] 26 :: Fr) (fun v l' => v = .bool r ∧ pc b1 [i6 p, .slice A1_1 n1_1 c1_1, .slice A1_2 n1_2 c1_2, .slice A1_3 n1_3 c1_3] 26 :: Fr = l') := by
 subst hn1_1; subst hn1_2; subst hn1_3; refine Spec.of Tryz.func68 rfl rfl ?_; unfold Q83.f at j; have j := brun j; refine sR 1 rfl (nT (sR 3 rfl ?_)); obtain ⟨I, J, U, j⟩ := bjoin j; let T1 : HProp := pc b1 [i6 p, .slice A1_1 u.length c1_1, .slice A1_2 C.length c1_2, .slice A1_3 D.length c1_3] 26; refine At.joinO 5 (X := Bool) (fun q => [(11, .bool q)]) (fun q => T1 :: Fr) (fun q => I (.inl q) = some r) ?_ (fun G => ?_)
 ·rintro q j; have j := (J _).symm.trans j
  ·refine At.run 1 rfl (nT (At.ret ?_)); cases bret j; exact At.res (.inl rfl) rfl rfl ⟨rfl, rfl⟩
 ··rcases bite j with ⟨E, j⟩ | ⟨E, j⟩
   ··refine At.know (t := 6) rfl (decide_eq_true E) ?_
     refine At.run 2 rfl (At.y (Y.load rfl rfl .z rfl rfl rfl) rfl rfl rfl (At.run 2 rfl ?_)); exact At.of (G (decide (a0 < p)) j) ⟨rfl, trivial⟩
   ··refine At.know (t := 6) rfl (decide_eq_false E) ?_
     refine At.run 5 rfl ?_; exact At.of (G false j) ⟨rfl, trivial⟩

noncomputable def Q112.f (a0 : Int) : Option Bool :=
 jn (
 if 97 ≤ a0 then
 some (.inl (decide (a0 ≤ 122)))
 else
 some (.inl false)) (fun (p : Bool) =>
 jn (
 if p = true then
 some (.inl true)
 else
 jn (
 if 65 ≤ a0 then
 some (.inl (decide (a0 ≤ 90)))
 else
 some (.inl false)) (fun (q : Bool) =>
 some (.inl q))) (fun (u : Bool) =>
 jn (
 if u = true then
 some (.inl true)
 else
 jn (
 if 48 ≤ a0 then
 some (.inl (decide (a0 ≤ 57)))
 else
 some (.inl false)) (fun (C : Bool) =>
 some (.inl C))) (fun (D : Bool) =>
 jn (
 if D = true then
 some (.inl true)
 else
 some (.inl (decide (a0 = 95)))) (fun (E : Bool) =>
 some (!E)))))
theorem Q112.callee : Callee Tryz.prog 127 := ⟨_, Tryz.func127, by kernel_rfl, by kernel_rfl⟩
theorem Q112.spec {a0 : Int} {r : Bool} (j : Q112.f a0 = some r) :
 Spec Tryz.prog 127 [.int .i32 a0] R (Fr) (fun v l' => v = .bool r ∧ Fr = l') := by
 refine Spec.of Tryz.func127 rfl rfl ?_; unfold Q112.f at j; have j := brun j; refine sR 1 rfl (nT (sR 3 rfl ?_)); obtain ⟨a7, a8, c5, j⟩ := bjoin j; refine At.joinO 3 (X := Bool) (fun u => [(0, .int .i32 a0), (8, .bool u)]) (fun u => Fr) (fun u => a7 (.inl u) = some r) ?_ (fun a1 => ?_)
 ·rintro u j; have j := (a8 _).symm.trans j
  ·refine At.run 1 rfl ?_; obtain ⟨a9, b2, c6, j⟩ := bjoin j; refine At.joinO 7 (X := Bool) (fun C => [(0, .int .i32 a0), (16, .bool C)]) (fun C => Fr) (fun C => a9 (.inl C) = some r) ?_ (fun a2 => ?_)
   ·rintro C j; have j := (b2 _).symm.trans j
    ·refine At.run 1 rfl ?_; obtain ⟨b3, b4, c7, j⟩ := bjoin j; refine At.joinO 7 (X := Bool) (fun D => [(0, .int .i32 a0), (24, .bool D)]) (fun D => Fr) (fun D => b3 (.inl D) = some r) ?_ (fun a3 => ?_)
     ·rintro D j; have j := (b4 _).symm.trans j
      ·refine At.run 1 rfl ?_; obtain ⟨b5, b6, c8, j⟩ := bjoin j; refine At.joinO 3 (X := Bool) (fun E => [(28, .bool E)]) (fun E => Fr) (fun E => b5 (.inl E) = some r) ?_ (fun a4 => ?_)
       ·rintro E j; have j := (b6 _).symm.trans j
        ·refine At.run 2 rfl (nT (At.ret ?_)); cases bret j; exact At.res (.inl rfl) rfl rfl ⟨rfl, rfl⟩
       ··rcases bite j with ⟨G, j⟩ | ⟨G, j⟩
         ··refine At.know (t := 25) rfl G ?_
           refine At.run 3 rfl ?_; exact At.of (a4 true j) ⟨rfl, trivial⟩
         ··refine At.know (t := 25) rfl (bn G) ?_
           refine At.run 3 rfl ?_; exact At.of (a4 (decide (a0 = 95)) j) ⟨rfl, trivial⟩
     ··rcases bite j with ⟨I, j⟩ | ⟨I, j⟩
       ··refine At.know (t := 17) rfl I ?_
         refine At.run 7 rfl ?_; exact At.of (a3 true j) ⟨rfl, rfl, trivial⟩
       ··refine At.know (t := 17) rfl (bn I) ?_
         refine At.run 3 rfl ?_; obtain ⟨b7, b8, c9, j⟩ := bjoin j; refine At.joinO 3 (X := Bool) (fun p => [(0, .int .i32 a0), (17, .bool false), (23, .bool p)]) (fun p => Fr) (fun p => b7 (.inl p) = some r) ?_ (fun a5 => ?_)
         ·rintro p j; have j := (b8 _).symm.trans j
          ·refine At.run 1 rfl ?_; exact At.of (a3 p j) ⟨rfl, rfl, trivial⟩
         ··rcases bite j with ⟨J, j⟩ | ⟨J, j⟩
           ··refine At.know (t := 20) rfl (decide_eq_true J) ?_
             refine At.run 3 rfl ?_; exact At.of (a5 (decide (a0 ≤ 57)) j) ⟨rfl, rfl, rfl, trivial⟩
           ··refine At.know (t := 20) rfl (decide_eq_false J) ?_
             refine At.run 3 rfl ?_; exact At.of (a5 false j) ⟨rfl, rfl, rfl, trivial⟩
   ··rcases bite j with ⟨U, j⟩ | ⟨U, j⟩
     ··refine At.know (t := 9) rfl U ?_
       refine At.run 7 rfl ?_; exact At.of (a2 true j) ⟨rfl, rfl, trivial⟩
     ··refine At.know (t := 9) rfl (bn U) ?_
       refine At.run 3 rfl ?_; obtain ⟨b9, c4, d0, j⟩ := bjoin j; refine At.joinO 3 (X := Bool) (fun q => [(0, .int .i32 a0), (9, .bool false), (15, .bool q)]) (fun q => Fr) (fun q => b9 (.inl q) = some r) ?_ (fun a6 => ?_)
       ·rintro q j; have j := (c4 _).symm.trans j
        ·refine At.run 1 rfl ?_; exact At.of (a2 q j) ⟨rfl, rfl, trivial⟩
       ··rcases bite j with ⟨V, j⟩ | ⟨V, j⟩
         ··refine At.know (t := 12) rfl (decide_eq_true V) ?_
           refine At.run 3 rfl ?_; exact At.of (a6 (decide (a0 ≤ 90)) j) ⟨rfl, rfl, rfl, trivial⟩
         ··refine At.know (t := 12) rfl (decide_eq_false V) ?_
           refine At.run 3 rfl ?_; exact At.of (a6 false j) ⟨rfl, rfl, rfl, trivial⟩
 ··rcases bite j with ⟨Z, j⟩ | ⟨Z, j⟩
   ··refine At.know (t := 5) rfl (decide_eq_true Z) ?_
     refine At.run 3 rfl ?_; exact At.of (a1 (decide (a0 ≤ 122)) j) ⟨rfl, rfl, trivial⟩
   ··refine At.know (t := 5) rfl (decide_eq_false Z) ?_
     refine At.run 3 rfl ?_; exact At.of (a1 false j) ⟨rfl, rfl, trivial⟩

noncomputable def Q69.l0b (a0 : Bs) (a2 : Bool) (p : Nat) : Option ((Nat) ⊕ ((Nat) ⊕ (Int))) :=
 if p < a0.length then
 (Q112.f (runeAt a0 p)).bind fun q =>
 if (q == a2) = true then
 upL (some (p : Int))
 else
 nx (p + runeLen a0 p)
 else
 dn (.inl p)
noncomputable def Q69.l0 (a0 : Bs) (a2 : Bool) (p : Nat) : Option ((Nat) ⊕ (Int)) := iter (fun t_ : Nat => Q69.l0b a0 a2 t_) p
noncomputable def Q69.f (a0 : Bs) (a2 : Bool) : Option Int :=
 jn (Q69.l0 a0 a2 0) (fun (p : Nat) =>
 some (-1))
theorem Q69.callee : Callee Tryz.prog 209 := ⟨_, Tryz.func209, by kernel_rfl, by kernel_rfl⟩
theorem Q69.spec {a0 : Bs} {a2 : Bool} {r : Int} (j : Q69.f a0 a2 = some r) :
 Spec Tryz.prog 209 [.string ⟨(a0).toArray⟩, .func (.func 127) #[] #[], .bool a2] R (Fr) (fun v l' => v = i6 r ∧ Fr = l') := by
 refine Spec.of Tryz.func209 rfl rfl ?_; unfold Q69.f at j; have j := brun j; refine sR 1 rfl (nT (At.seq (At.seq (At.region ?_)))); refine At.run 1 rfl ?_; refine At.rangeStr rfl rfl rfl rfl rfl (fun C => ?_); refine nT ?_; refine At.block ?_; obtain ⟨V, Z, a1, j⟩ := bjoin j; obtain ⟨J, D, U⟩ := bsome j; clear j; unfold Q69.l0 at D; obtain ⟨E, q⟩ := Q15.1 D; clear D; refine At.loopJ (X := Nat) (Y := Nat) (e0 := 0) (fun p => [(1, .func (.func 127) #[] #[]), (2, .bool a2), (10, bp C)]) (fun p => pt C (.stringIter ⟨(a0).toArray⟩ p) :: Fr) (fun m_ => fun p => iterN (fun t_ : Nat => Q69.l0b a0 a2 t_) m_ p = some J) E 0 q (fun u => []) (fun u => pt C (.stringIter ⟨(a0).toArray⟩ u) :: Fr) (fun u => V (.inl u) = some r) (fun a w e hs => ⟨e.sub ⟨rfl, rfl, rfl, trivial⟩, (by exact hs)⟩) ?_ (fun a3 => ?_)
 ·rintro u j; have j := (Z _).symm.trans j
  ·refine At.ibx ?_; refine At.thn (sR 1 rfl (nT (At.ret (At.drop .z ?_)))); cases bret j; exact At.res (.inl rfl) rfl rfl ⟨rfl, rfl⟩
 ·clear q E; rintro E p q; obtain ⟨a4, f_, a5, hf_, j⟩ := bit q; clear q; have j : (Q69.l0b a0 a2 p).bind _ = some J := j; unfold Q69.l0b at j
  ·refine At.seq (At.region ?_); rcases bite j with ⟨G, j⟩ | ⟨G, j⟩
   ··refine At.nextT rfl rfl .z (of_decide_eq_true (decide_eq_true G)) rfl ?_
     refine At.run 1 rfl (nT (At.seq ?_)); refine At.condT rfl rfl ?_; refine At.skip (At.thn ?_); refine At.block ?_; refine sR 4 rfl (nT (sR 2 rfl ?_)); obtain ⟨a7, a6, j⟩ := bbind j; refine At.call rfl Q112.callee rfl rfl rfl (Q112.spec a6) ?_; rintro _ _ ⟨rfl, rfl⟩; refine At.run 2 rfl (nT ?_); rcases bite j with ⟨I, j⟩ | ⟨I, j⟩
     ··refine At.condT rfl I ?_
       refine sR 2 rfl (nT (At.ret ?_)); refine At.ibr ?_; have j := bupL a1 U j; refine At.thr ?_; refine At.ibr ?_; refine At.thr (At.drop .z ?_); cases bret j; exact At.res (.inl rfl) rfl rfl ⟨rfl, rfl⟩
     ··refine At.condF rfl (bn I) ?_
       refine At.skip ?_; refine At.ibn ?_; have j := bnx hf_ j; exact fun a w e hs => ⟨a4, (p + runeLen a0 p), a5, j, e.sub ⟨rfl, rfl, rfl, trivial⟩, hs⟩
   ··refine At.nextF rfl rfl .z (of_decide_eq_false (decide_eq_false G)) rfl ?_
     refine At.run 1 rfl (nT (At.seq ?_)); refine At.condF rfl rfl ?_; refine At.exit ?_; refine At.the ?_; refine At.the ?_; exact fun a w e hs => a3 p (bdn j U) a w (e.sub trivial) hs

noncomputable def Q139.f (a0 : Bs) : Option Int :=
 (Q69.f a0 true).bind fun p =>
 some p
theorem Q139.callee : Callee Tryz.prog 159 := ⟨_, Tryz.func159, by kernel_rfl, by kernel_rfl⟩
theorem Q139.spec {a0 : Bs} {r : Int} (j : Q139.f a0 = some r) :
 Spec Tryz.prog 159 [.string ⟨(a0).toArray⟩, .func (.func 127) #[] #[]] R (Fr) (fun v l' => v = i6 r ∧ Fr = l') := by
 refine Spec.of Tryz.func159 rfl rfl ?_; unfold Q139.f at j; have j := brun j; refine sR 1 rfl (nT (sR 2 rfl ?_)); obtain ⟨q, p, j⟩ := bbind j; refine At.call rfl Q69.callee rfl rfl rfl (Q69.spec p) ?_; rintro _ _ ⟨rfl, rfl⟩; refine At.run 1 rfl (nT (At.ret ?_)); cases bret j; exact At.res (.inl rfl) rfl rfl ⟨rfl, rfl⟩

noncomputable def Q134.f (a0 : Bs) : Option Bool :=
 (Q139.f a0).bind fun p =>
 some (decide (0 ≤ p))
theorem Q134.callee : Callee Tryz.prog 126 := ⟨_, Tryz.func126, by kernel_rfl, by kernel_rfl⟩
theorem Q134.spec {a0 : Bs} {r : Bool} (j : Q134.f a0 = some r) :
 Spec Tryz.prog 126 [.string ⟨(a0).toArray⟩, .func (.func 127) #[] #[]] R (Fr) (fun v l' => v = .bool r ∧ Fr = l') := by
 refine Spec.of Tryz.func126 rfl rfl ?_; unfold Q134.f at j; have j := brun j; refine sR 1 rfl (nT (sR 2 rfl ?_)); obtain ⟨q, p, j⟩ := bbind j; refine At.call rfl Q139.callee rfl rfl rfl (Q139.spec p) ?_; rintro _ _ ⟨rfl, rfl⟩; refine At.run 2 rfl (nT (At.ret ?_)); cases bret j; exact At.res (.inl rfl) rfl rfl ⟨rfl, rfl⟩

noncomputable def Q82.f (a0 : Bs) : Option Bool :=
 jn (
 if (a0.length : Int) < 1 then
 some (.inl true)
 else
 some (.inl (decide (8 < (a0.length : Int))))) (fun (p : Bool) =>
 jn (
 if p = true then
 some (.inl true)
 else
 if (0 : Int) ≤ 0 ∧ 0 < (a0.length : Int) then
 some (.inl (decide (bat a0 0 < 97)))
 else none) (fun (q : Bool) =>
 jn (
 if q = true then
 some (.inl true)
 else
 if (0 : Int) ≤ 0 ∧ 0 < (a0.length : Int) then
 some (.inl (decide (122 < bat a0 0)))
 else none) (fun (u : Bool) =>
 if u = true then
 some false
 else
 if bseq a0 ([116, 116] : Bs) = true then
 some false
 else
 if bseq a0 ([102, 102] : Bs) = true then
 some false
 else
 if bseq a0 ([109, 117] : Bs) = true then
 some false
 else
 if bseq a0 ([110, 117] : Bs) = true then
 some false
 else
 (Q134.f a0).bind fun C =>
 some (!C))))
theorem Q82.callee : Callee Tryz.prog 69 := ⟨_, Tryz.func69, by kernel_rfl, by kernel_rfl⟩
theorem Q82.spec {a0 : Bs} {r : Bool} (j : Q82.f a0 = some r) :
 Spec Tryz.prog 69 [.string ⟨(a0).toArray⟩] R (Fr) (fun v l' => v = .bool r ∧ Fr = l') := by
 refine Spec.of Tryz.func69 rfl rfl ?_; unfold Q82.f at j; have j := brun j; refine sR 1 rfl (nT (At.seq (At.seq (At.region ?_)))); refine At.run 4 rfl ?_; obtain ⟨a5, a6, b4, j⟩ := bjoin j; refine At.joinO 4 (X := Bool) (fun p => [(0, .string ⟨(a0).toArray⟩), (10, .bool p)]) (fun p => Fr) (fun p => a5 (.inl p) = some r) ?_ (fun Z => ?_)
 ·rintro p j; have j := (a6 _).symm.trans j
  ·refine At.run 1 rfl ?_; obtain ⟨a7, a8, b5, j⟩ := bjoin j; refine At.joinO 4 (X := Bool) (fun q => [(0, .string ⟨(a0).toArray⟩), (15, .bool q)]) (fun q => Fr) (fun q => a7 (.inl q) = some r) ?_ (fun a1 => ?_)
   ·rintro q j; have j := (a8 _).symm.trans j
    ·refine At.run 1 rfl ?_; obtain ⟨a9, b2, b6, j⟩ := bjoin j; refine At.joinO 4 (X := Bool) (fun u => [(0, .string ⟨(a0).toArray⟩), (20, .bool u)]) (fun u => Fr) (fun u => a9 (.inl u) = some r) ?_ (fun a2 => ?_)
     ·rintro u j; have j := (b2 _).symm.trans j
      ·refine nT ?_; rcases bite j with ⟨G, j⟩ | ⟨G, j⟩
       ··refine At.condT rfl G ?_
         refine sR 1 rfl (nT (At.ret (At.thr ?_))); cases bret j; exact At.res (.inl rfl) rfl rfl ⟨rfl, rfl⟩
       ··refine At.condF rfl (bn G) ?_
         refine At.skip (At.thn (At.seq (sR 1 rfl (nT ?_)))); refine At.block ?_; refine At.seq (sR 2 rfl (nT ?_)); rcases bite j with ⟨C, j⟩ | ⟨C, j⟩
         ··refine At.condT rfl C ?_
           refine At.skip (At.thn ?_); refine At.condT rfl C ?_; refine sR 1 rfl (nT (At.ret ?_)); refine At.ibr ?_; refine At.thr ?_; cases bret j; exact At.res (.inl rfl) rfl rfl ⟨rfl, rfl⟩
         ··refine At.condF rfl (bn C) ?_
           refine sR 2 rfl (nT ?_); rcases bite j with ⟨D, j⟩ | ⟨D, j⟩
           ··refine At.condT rfl D ?_
             refine At.skip (At.thn ?_); refine At.condT rfl D ?_; refine sR 1 rfl (nT (At.ret ?_)); refine At.ibr ?_; refine At.thr ?_; cases bret j; exact At.res (.inl rfl) rfl rfl ⟨rfl, rfl⟩
           ··refine At.condF rfl (bn D) ?_
             refine sR 2 rfl (nT ?_); rcases bite j with ⟨E, j⟩ | ⟨E, j⟩
             ··refine At.condT rfl E ?_
               refine At.skip (At.thn ?_); refine At.condT rfl E ?_; refine sR 1 rfl (nT (At.ret ?_)); refine At.ibr ?_; refine At.thr ?_; cases bret j; exact At.res (.inl rfl) rfl rfl ⟨rfl, rfl⟩
             ··refine At.condF rfl (bn E) ?_
               refine At.region (At.run 2 rfl (nT ?_)); rcases bite j with ⟨I, j⟩ | ⟨I, j⟩
               ··refine At.condT rfl I ?_
                 refine sR 1 rfl (nT (At.ret ?_)); refine At.ibr ?_; refine At.thr ?_; cases bret j; exact At.res (.inl rfl) rfl rfl ⟨rfl, rfl⟩
               ··refine At.condF rfl (bn I) ?_
                 refine At.skip ?_; refine At.ibn ?_; refine At.thn (sR 1 rfl ?_); obtain ⟨b7, b3, j⟩ := bbind j; refine At.call rfl Q134.callee rfl rfl rfl (Q134.spec b3) ?_; rintro _ _ ⟨rfl, rfl⟩; refine At.run 2 rfl (nT (At.ret ?_)); cases bret j; exact At.res (.inl rfl) rfl rfl ⟨rfl, rfl⟩
     ··rcases bite j with ⟨J, j⟩ | ⟨J, j⟩
       ··refine At.know (t := 16) rfl J ?_
         refine At.run 4 rfl ?_; exact At.of (a2 true j) ⟨rfl, rfl, trivial⟩
       ··refine At.know (t := 16) rfl (bn J) ?_
         refine At.run 1 rfl ?_; obtain ⟨a3, j⟩ := bnone j; refine At.y (Y.ixStr rfl rfl rfl rfl a3.1 a3.2) rfl rfl rfl (At.run 2 rfl ?_); exact At.of (a2 (decide (122 < bat a0 0)) j) ⟨rfl, rfl, trivial⟩
   ··rcases bite j with ⟨U, j⟩ | ⟨U, j⟩
     ··refine At.know (t := 11) rfl U ?_
       refine At.run 4 rfl ?_; exact At.of (a1 true j) ⟨rfl, rfl, trivial⟩
     ··refine At.know (t := 11) rfl (bn U) ?_
       refine At.run 1 rfl ?_; obtain ⟨a4, j⟩ := bnone j; refine At.y (Y.ixStr rfl rfl rfl rfl a4.1 a4.2) rfl rfl rfl (At.run 2 rfl ?_); exact At.of (a1 (decide (bat a0 0 < 97)) j) ⟨rfl, rfl, trivial⟩
 ··rcases bite j with ⟨V, j⟩ | ⟨V, j⟩
   ··refine At.know (t := 6) rfl (decide_eq_true V) ?_
     refine At.run 4 rfl ?_; exact At.of (Z true j) ⟨rfl, rfl, trivial⟩
   ··refine At.know (t := 6) rfl (decide_eq_false V) ?_
     refine At.run 4 rfl ?_; exact At.of (Z (decide (8 < (a0.length : Int))) j) ⟨rfl, rfl, trivial⟩

noncomputable def Q111.f (a0 : Int) : Option Bool :=
 some (!(decide (a0 = a0)))
theorem Q111.callee : Callee Tryz.prog 128 := ⟨_, Tryz.func128, by kernel_rfl, by kernel_rfl⟩
theorem Q111.spec {a0 : Int} {r : Bool} (j : Q111.f a0 = some r) :
 Spec Tryz.prog 128 [i6 a0] R (Fr) (fun v l' => v = .bool r ∧ Fr = l') := by
 refine Spec.of Tryz.func128 rfl rfl ?_; unfold Q111.f at j; have j := brun j; refine sR 1 rfl (nT (sR 4 rfl ?_)); refine nT (At.ret ?_); cases bret j; exact At.res (.inl rfl) rfl rfl ⟨rfl, rfl⟩

noncomputable def Q77.f (a0 a1 : Int) : Option Int :=
 (Q111.f a0).bind fun q =>
 (Q111.f a1).bind fun p =>
 if q = true then
 if p = true then
 some 0
 else
 some (-1)
 else
 if p = true then
 some 1
 else
 if a0 < a1 then
 some (-1)
 else
 if a1 < a0 then
 some 1
 else
 some 0
theorem Q77.callee : Callee Tryz.prog 71 := ⟨_, Tryz.func71, by kernel_rfl, by kernel_rfl⟩
theorem Q77.spec {a0 a1 : Int} {r : Int} (j : Q77.f a0 a1 = some r) :
 Spec Tryz.prog 71 [i6 a0, i6 a1] R (Fr) (fun v l' => v = i6 r ∧ Fr = l') := by
 refine Spec.of Tryz.func71 rfl rfl ?_; unfold Q77.f at j; have j := brun j; refine sR 1 rfl (nT (sR 1 rfl ?_)); obtain ⟨I, E, j⟩ := bbind j; refine At.call rfl Q111.callee rfl rfl rfl (Q111.spec E) ?_; rintro _ _ ⟨rfl, rfl⟩; refine At.run 1 rfl (nT (sR 1 rfl ?_)); obtain ⟨J, G, j⟩ := bbind j; refine At.call rfl Q111.callee rfl rfl rfl (Q111.spec G) ?_; rintro _ _ ⟨rfl, rfl⟩; refine At.run 1 rfl (nT (At.seq (sR 1 rfl (At.nil ?_)))); refine At.thn ?_; rcases bite j with ⟨p, j⟩ | ⟨p, j⟩
 ··refine At.condT rfl p ?_
   refine At.seq (sR 1 rfl (nT ?_)); rcases bite j with ⟨q, j⟩ | ⟨q, j⟩
   ··refine At.condT rfl q ?_
     refine sR 1 rfl (nT (At.ret (At.thr (At.thr ?_)))); cases bret j; exact At.res (.inl rfl) rfl rfl ⟨rfl, rfl⟩
   ··refine At.condF rfl (bn q) ?_
     refine At.skip (At.thn (sR 1 rfl (nT (At.ret ?_)))); refine At.thr ?_; cases bret j; exact At.res (.inl rfl) rfl rfl ⟨rfl, rfl⟩
 ··refine At.condF rfl (bn p) ?_
   refine At.skip (At.thn (At.seq (sR 1 rfl (nT ?_)))); rcases bite j with ⟨u, j⟩ | ⟨u, j⟩
   ··refine At.condT rfl u ?_
     refine sR 1 rfl (nT (At.ret (At.thr ?_))); cases bret j; exact At.res (.inl rfl) rfl rfl ⟨rfl, rfl⟩
   ··refine At.condF rfl (bn u) ?_
     refine At.skip (At.thn (At.seq (sR 3 rfl (nT ?_)))); rcases bite j with ⟨C, j⟩ | ⟨C, j⟩
     ··refine At.condT rfl (decide_eq_true C) ?_
       refine sR 1 rfl (nT (At.ret (At.thr ?_))); cases bret j; exact At.res (.inl rfl) rfl rfl ⟨rfl, rfl⟩
     ··refine At.condF rfl (decide_eq_false C) ?_
       refine At.skip (At.thn (At.seq (sR 3 rfl (nT ?_)))); rcases bite j with ⟨D, j⟩ | ⟨D, j⟩
       ··refine At.condT rfl (decide_eq_true D) ?_
         refine sR 1 rfl (nT (At.ret (At.thr ?_))); cases bret j; exact At.res (.inl rfl) rfl rfl ⟨rfl, rfl⟩
       ··refine At.condF rfl (decide_eq_false D) ?_
         refine At.skip (At.thn (sR 1 rfl (nT (At.ret ?_)))); cases bret j; exact At.res (.inl rfl) rfl rfl ⟨rfl, rfl⟩

noncomputable def Q72.l0b (a0 : List Int) (p : Int) : Option ((Int) ⊕ ((Unit) ⊕ (Bool))) :=
 if p < (a0.length : Int) then
 if (0 : Int) ≤ IntKind.i64.wrap (p - 1) ∧ IntKind.i64.wrap (p - 1) < (a0.length : Int) then
 if (0 : Int) ≤ p ∧ p < (a0.length : Int) then
 (Q77.f (gt a0 (IntKind.i64.wrap (p - 1))) (gt a0 p)).bind fun q =>
 if 0 ≤ q then
 upL (some false)
 else
 nx (IntKind.i64.wrap (p + 1))
 else none
 else none
 else
 dn (.inl ())
noncomputable def Q72.l0 (a0 : List Int) (p : Int) : Option ((Unit) ⊕ (Bool)) := iter (fun t_ : Int => Q72.l0b a0 t_) p
noncomputable def Q72.f (a0 : List Int) : Option Bool :=
 jn (Q72.l0 a0 1) (fun (_ : Unit) =>
 some true)
theorem Q72.callee : Callee Tryz.prog 70 := ⟨_, Tryz.func70, by kernel_rfl, by kernel_rfl⟩
theorem Q72.spec {a0 : List Int} (hr0 : RdS (Fl.int .i64).rep R.heap A0 a0) (hn0 : a0.length = n0) (hc0 : n0 ≤ c0) {r : Bool} (j : Q72.f a0 = some r) :
 Spec Tryz.prog 70 [.slice A0 n0 c0, .func (.func 71) #[] #[]] R (Fr) (fun v l' => v = .bool r ∧ Fr = l') := by
 subst hn0; refine Spec.of Tryz.func70 rfl rfl ?_; unfold Q72.f at j; have j := brun j; refine sR 1 rfl (nT (At.seq (At.seq (At.region ?_)))); refine At.run 1 rfl (nT ?_); refine At.block ?_; obtain ⟨Z, a1, a2, j⟩ := bjoin j; obtain ⟨U, E, V⟩ := bsome j; clear j; unfold Q72.l0 at E; obtain ⟨G, u⟩ := Q15.1 E; clear E; refine At.loopJ (X := Int) (Y := Unit) (e0 := 0) (fun p => [(0, .slice A0 a0.length c0), (1, .func (.func 71) #[] #[]), (5, i6 p)]) (fun p => Fr) (fun m_ => fun p => iterN (fun t_ : Int => Q72.l0b a0 t_) m_ p = some U) G 1 u (fun _ => []) (fun _ => Fr) (fun _ => Z (.inl ()) = some r) (fun a w e hs => ⟨e.sub ⟨rfl, rfl, rfl, trivial⟩, (by exact hs)⟩) ?_ (fun a3 => ?_)
 ·rintro _ j; have j := (a1 _).symm.trans j
  ·refine At.ibx ?_; refine At.thn (sR 1 rfl (nT (At.ret ?_))); cases bret j; exact At.res (.inl rfl) rfl rfl ⟨rfl, rfl⟩
 ·clear u G; rintro G p u; obtain ⟨a4, f_, a5, hf_, j⟩ := bit u; clear u; have j : (Q72.l0b a0 p).bind _ = some U := j; unfold Q72.l0b at j
  ·refine At.seq (sR 4 rfl (nT ?_)); rcases bite j with ⟨I, j⟩ | ⟨I, j⟩
   ··refine At.condT rfl (decide_eq_true I) ?_
     refine At.skip (At.thn (At.seq ?_)); refine At.block ?_; refine At.seq ?_; refine At.quiet (by kernel_rfl) ?_; refine At.Quiet.run 4 rfl ?_; obtain ⟨C, j⟩ := bnone j; refine At.Quiet.y (Y.ixRd hr0 rfl rfl rfl rfl rfl rfl rfl C.1 C.2) rfl rfl rfl ?_; refine At.Quiet.y (Y.ldFl hr0 rfl (q := 0) rfl rfl C.1 C.2 rfl rfl rfl) rfl rfl rfl ?_; refine At.Quiet.run 2 rfl ?_; obtain ⟨D, j⟩ := bnone j; refine At.Quiet.y (Y.ixRd hr0 rfl rfl rfl rfl rfl rfl rfl D.1 D.2) rfl rfl rfl ?_; refine At.Quiet.y (Y.ldFl hr0 rfl (q := 0) rfl rfl D.1 D.2 rfl rfl rfl) rfl rfl rfl ?_; obtain ⟨a7, a6, j⟩ := bbind j; refine At.Quiet.call rfl Q77.callee rfl rfl rfl (Q77.spec a6) (fun _ _ h_ => ⟨h_.1, fun _ hs => h_.2 ▸ hs⟩) ?_; refine At.Quiet.run 1 rfl (At.Quiet.nil (At.thn ?_)); rcases bite j with ⟨J, j⟩ | ⟨J, j⟩
     ··refine At.condT rfl (decide_eq_true J) ?_
       refine sR 1 rfl (nT (At.ret ?_)); refine At.ibr ?_; refine At.thr ?_; have j := bupL a2 V j; refine At.thr ?_; refine At.ibr ?_; refine At.thr ?_; cases bret j; exact At.res (.inl rfl) rfl rfl ⟨rfl, rfl⟩
     ··refine At.condF rfl (decide_eq_false J) ?_
       refine At.skip ?_; refine At.ibn ?_; refine At.thn (At.region (At.run 3 rfl (At.nil ?_))); have j := bnx hf_ j; exact fun a w e hs => ⟨a4, (IntKind.i64.wrap (p + 1)), a5, j, e.sub ⟨rfl, rfl, rfl, trivial⟩, hs⟩
   ··refine At.condF rfl (decide_eq_false I) ?_
     refine At.exit ?_; refine At.the ?_; refine At.the ?_; exact fun a w e hs => a3 () (bdn j V) a w (e.sub trivial) hs

noncomputable def Q144.f (a0 p : Int) (q : List Bs) (u : List Q3) (C : List Q5) : Option Bool :=
 (Q83.f a0 p q u C).bind fun D =>
 some (!D)
theorem Q144.callee : Callee Tryz.prog 73 := ⟨_, Tryz.func73, by kernel_rfl, by kernel_rfl⟩
theorem Q144.spec {a0 p : Int} {q : List Bs} {u : List Q3} {C : List Q5} (hr1_0_c0_1 : RdS Fl.bs.rep R.heap A1_0_c0_1 q) (hn1_0_c0_1 : q.length = n1_0_c0_1) (hc1_0_c0_1 : n1_0_c0_1 ≤ c1_0_c0_1) (hr1_0_c0_2 : RdS Q3.fl.rep R.heap A1_0_c0_2 u) (hn1_0_c0_2 : u.length = n1_0_c0_2) (hc1_0_c0_2 : n1_0_c0_2 ≤ c1_0_c0_2) (hr1_0_c0_3 : RdS Q5.rep R.heap A1_0_c0_3 C) (hn1_0_c0_3 : C.length = n1_0_c0_3) (hc1_0_c0_3 : n1_0_c0_3 ≤ c1_0_c0_3) {r : Bool} (j : Q144.f a0 p q u C = some r) :
 Spec Tryz.prog 73 [i6 a0, bp b1] R (pc b1 [.func (.func 68) #[] #[bp b1_0_c0]] 50 :: pc b1_0_c0 [i6 p, .slice A1_0_c0_1 n1_0_c0_1 c1_0_c0_1, .slice A1_0_c0_2 n1_0_c0_2 c1_0_c0_2, .slice A1_0_c0_3 n1_0_c0_3 c1_0_c0_3] 26 :: Fr) (fun v l' => v = .bool r ∧ pc b1 [.func (.func 68) #[] #[bp b1_0_c0]] 50 :: pc b1_0_c0 [i6 p, .slice A1_0_c0_1 n1_0_c0_1 c1_0_c0_1, .slice A1_0_c0_2 n1_0_c0_2 c1_0_c0_2, .slice A1_0_c0_3 n1_0_c0_3 c1_0_c0_3] 26 :: Fr = l') := by
 subst hn1_0_c0_1; subst hn1_0_c0_2; subst hn1_0_c0_3; refine Spec.of Tryz.func73 rfl rfl ?_; unfold Q144.f at j; have j := brun j; refine sR 1 rfl (nT (At.seq (At.region (At.y (Y.load rfl rfl .z rfl rfl rfl) rfl rfl rfl ?_)))); refine At.run 1 rfl (At.f1 ?_); obtain ⟨E, D, j⟩ := bbind j; refine At.call rfl Q83.callee rfl rfl rfl (Q83.spec hr1_0_c0_1 rfl hc1_0_c0_1 hr1_0_c0_2 rfl hc1_0_c0_2 hr1_0_c0_3 rfl hc1_0_c0_3 D) ?_; rintro _ _ ⟨rfl, rfl⟩; refine At.run 2 rfl (nT (At.ret (At.f1 ?_))); cases bret j; exact At.res (.inl rfl) rfl rfl ⟨rfl, rfl⟩

noncomputable def Q68.l0b (a0 : List Int) (a1_c0_0_c0_0 : Int) (a1_c0_0_c0_1 : List Bs) (a1_c0_0_c0_2 : List Q3) (a1_c0_0_c0_3 : List Q5) (p : Int) : Option ((Int) ⊕ ((Unit) ⊕ (Int))) :=
 if p < (a0.length : Int) then
 if (0 : Int) ≤ p ∧ p < (a0.length : Int) then
 (Q144.f (gt a0 p) a1_c0_0_c0_0 a1_c0_0_c0_1 a1_c0_0_c0_2 a1_c0_0_c0_3).bind fun q =>
 if q = true then
 upL (some p)
 else
 nx (IntKind.i64.wrap (p + 1))
 else none
 else
 dn (.inl ())
noncomputable def Q68.l0 (a0 : List Int) (a1_c0_0_c0_0 : Int) (a1_c0_0_c0_1 : List Bs) (a1_c0_0_c0_2 : List Q3) (a1_c0_0_c0_3 : List Q5) (p : Int) : Option ((Unit) ⊕ (Int)) := iter (fun t_ : Int => Q68.l0b a0 a1_c0_0_c0_0 a1_c0_0_c0_1 a1_c0_0_c0_2 a1_c0_0_c0_3 t_) p
noncomputable def Q68.f (a0 : List Int) (a1_c0_0_c0_0 : Int) (a1_c0_0_c0_1 : List Bs) (a1_c0_0_c0_2 : List Q3) (a1_c0_0_c0_3 : List Q5) : Option Int :=
 jn (Q68.l0 a0 a1_c0_0_c0_0 a1_c0_0_c0_1 a1_c0_0_c0_2 a1_c0_0_c0_3 0) (fun (_ : Unit) =>
 some (-1))
theorem Q68.callee : Callee Tryz.prog 129 := ⟨_, Tryz.func129, by kernel_rfl, by kernel_rfl⟩
theorem Q68.spec {a0 : List Int} {a1_c0_0_c0_0 : Int} {a1_c0_0_c0_1 : List Bs} {a1_c0_0_c0_2 : List Q3} {a1_c0_0_c0_3 : List Q5} (hr0 : RdS (Fl.int .i64).rep R.heap A0 a0) (hn0 : a0.length = n0) (hc0 : n0 ≤ c0) (hr1_c0_0_c0_1 : RdS Fl.bs.rep R.heap A1_c0_0_c0_1 a1_c0_0_c0_1) (hn1_c0_0_c0_1 : a1_c0_0_c0_1.length = n1_c0_0_c0_1) (hc1_c0_0_c0_1 : n1_c0_0_c0_1 ≤ c1_c0_0_c0_1) (hr1_c0_0_c0_2 : RdS Q3.fl.rep R.heap A1_c0_0_c0_2 a1_c0_0_c0_2) (hn1_c0_0_c0_2 : a1_c0_0_c0_2.length = n1_c0_0_c0_2) (hc1_c0_0_c0_2 : n1_c0_0_c0_2 ≤ c1_c0_0_c0_2) (hr1_c0_0_c0_3 : RdS Q5.rep R.heap A1_c0_0_c0_3 a1_c0_0_c0_3) (hn1_c0_0_c0_3 : a1_c0_0_c0_3.length = n1_c0_0_c0_3) (hc1_c0_0_c0_3 : n1_c0_0_c0_3 ≤ c1_c0_0_c0_3) {r : Int} (j : Q68.f a0 a1_c0_0_c0_0 a1_c0_0_c0_1 a1_c0_0_c0_2 a1_c0_0_c0_3 = some r) :
 Spec Tryz.prog 129 [.slice A0 n0 c0, .func (.func 73) #[] #[bp b1_c0]] R (pc b1_c0 [.func (.func 68) #[] #[bp b1_c0_0_c0]] 50 :: pc b1_c0_0_c0 [i6 a1_c0_0_c0_0, .slice A1_c0_0_c0_1 n1_c0_0_c0_1 c1_c0_0_c0_1, .slice A1_c0_0_c0_2 n1_c0_0_c0_2 c1_c0_0_c0_2, .slice A1_c0_0_c0_3 n1_c0_0_c0_3 c1_c0_0_c0_3] 26 :: Fr) (fun v l' => v = i6 r ∧ pc b1_c0 [.func (.func 68) #[] #[bp b1_c0_0_c0]] 50 :: pc b1_c0_0_c0 [i6 a1_c0_0_c0_0, .slice A1_c0_0_c0_1 n1_c0_0_c0_1 c1_c0_0_c0_1, .slice A1_c0_0_c0_2 n1_c0_0_c0_2 c1_c0_0_c0_2, .slice A1_c0_0_c0_3 n1_c0_0_c0_3 c1_c0_0_c0_3] 26 :: Fr = l') := by
 subst hn0; subst hn1_c0_0_c0_1; subst hn1_c0_0_c0_2; subst hn1_c0_0_c0_3; refine Spec.of Tryz.func129 rfl rfl ?_; unfold Q68.f at j; have j := brun j; refine sR 1 rfl (nT (At.seq (At.seq (At.region ?_)))); refine At.run 3 rfl (nT ?_); refine At.block ?_; obtain ⟨V, Z, a1, j⟩ := bjoin j; obtain ⟨J, D, U⟩ := bsome j; clear j; unfold Q68.l0 at D; obtain ⟨E, u⟩ := Q15.1 D; clear D; let T2 : HProp := pc b1_c0 [.func (.func 68) #[] #[bp b1_c0_0_c0]] 50; let T3 : HProp := pc b1_c0_0_c0 [i6 a1_c0_0_c0_0, .slice A1_c0_0_c0_1 a1_c0_0_c0_1.length c1_c0_0_c0_1, .slice A1_c0_0_c0_2 a1_c0_0_c0_2.length c1_c0_0_c0_2, .slice A1_c0_0_c0_3 a1_c0_0_c0_3.length c1_c0_0_c0_3] 26; refine At.loopJ (X := Int) (Y := Unit) (e0 := 0) (fun p => [(0, .slice A0 a0.length c0), (1, .func (.func 73) #[] #[bp b1_c0]), (7, i6 (a0.length : Int)), (8, i6 p)]) (fun p => T2 :: T3 :: Fr) (fun m_ => fun p => iterN (fun t_ : Int => Q68.l0b a0 a1_c0_0_c0_0 a1_c0_0_c0_1 a1_c0_0_c0_2 a1_c0_0_c0_3 t_) m_ p = some J) E 0 u (fun _ => []) (fun _ => T2 :: T3 :: Fr) (fun _ => V (.inl ()) = some r) (fun a w e hs => ⟨e.sub ⟨rfl, rfl, rfl, rfl, trivial⟩, (by exact hs)⟩) ?_ (fun a2 => ?_)
 ·rintro _ j; have j := (Z _).symm.trans j
  ·refine At.ibx ?_; refine At.thn (sR 1 rfl (nT (At.ret ?_))); cases bret j; exact At.res (.inl rfl) rfl rfl ⟨rfl, rfl⟩
 ·clear u E; rintro E p u; obtain ⟨a3, f_, a4, hf_, j⟩ := bit u; clear u; have j : (Q68.l0b a0 a1_c0_0_c0_0 a1_c0_0_c0_1 a1_c0_0_c0_2 a1_c0_0_c0_3 p).bind _ = some J := j; unfold Q68.l0b at j
  ·refine sR 1 rfl (nT (At.seq ?_)); rcases bite j with ⟨G, j⟩ | ⟨G, j⟩
   ··refine At.condT rfl (decide_eq_true G) ?_
     refine At.skip (At.thn (At.seq ?_)); refine At.block ?_; refine sR 2 rfl (nT (sR 3 rfl ?_)); obtain ⟨C, j⟩ := bnone j; refine At.y (Y.ixRd hr0 rfl rfl rfl rfl rfl rfl rfl C.1 C.2) rfl rfl rfl (At.y (Y.ldFl hr0 rfl (q := 0) rfl rfl C.1 C.2 rfl rfl rfl) rfl rfl rfl ?_); obtain ⟨a6, a5, j⟩ := bbind j; refine At.call rfl Q144.callee rfl rfl rfl (Q144.spec hr1_c0_0_c0_1 rfl hc1_c0_0_c0_1 hr1_c0_0_c0_2 rfl hc1_c0_0_c0_2 hr1_c0_0_c0_3 rfl hc1_c0_0_c0_3 a5) ?_; rintro _ _ ⟨rfl, rfl⟩; refine nT ?_; rcases bite j with ⟨I, j⟩ | ⟨I, j⟩
     ··refine At.condT rfl I ?_
       refine sR 2 rfl (nT (At.ret ?_)); refine At.ibr ?_; refine At.thr ?_; have j := bupL a1 U j; refine At.thr ?_; refine At.ibr ?_; refine At.thr ?_; cases bret j; exact At.res (.inl rfl) rfl rfl ⟨rfl, rfl⟩
     ··refine At.condF rfl (bn I) ?_
       refine At.skip ?_; refine At.ibn ?_; refine At.thn (At.region (At.run 2 rfl (At.nil ?_))); have j := bnx hf_ j; exact fun a w e hs => ⟨a3, (IntKind.i64.wrap (p + 1)), a4, j, e.sub ⟨rfl, rfl, rfl, rfl, trivial⟩, hs⟩
   ··refine At.condF rfl (decide_eq_false G) ?_
     refine At.exit ?_; refine At.the ?_; refine At.the ?_; exact fun a w e hs => a2 () (bdn j U) a w (e.sub trivial) hs

noncomputable def Q130.f (a0 : List Int) (a1_c0_0_c0_0 : Int) (a1_c0_0_c0_1 : List Bs) (a1_c0_0_c0_2 : List Q3) (a1_c0_0_c0_3 : List Q5) : Option Bool :=
 (Q68.f a0 a1_c0_0_c0_0 a1_c0_0_c0_1 a1_c0_0_c0_2 a1_c0_0_c0_3).bind fun p =>
 some (decide (0 ≤ p))
theorem Q130.callee : Callee Tryz.prog 72 := ⟨_, Tryz.func72, by kernel_rfl, by kernel_rfl⟩
theorem Q130.spec {a0 : List Int} {a1_c0_0_c0_0 : Int} {a1_c0_0_c0_1 : List Bs} {a1_c0_0_c0_2 : List Q3} {a1_c0_0_c0_3 : List Q5} (hr0 : RdS (Fl.int .i64).rep R.heap A0 a0) (hn0 : a0.length = n0) (hc0 : n0 ≤ c0) (hr1_c0_0_c0_1 : RdS Fl.bs.rep R.heap A1_c0_0_c0_1 a1_c0_0_c0_1) (hn1_c0_0_c0_1 : a1_c0_0_c0_1.length = n1_c0_0_c0_1) (hc1_c0_0_c0_1 : n1_c0_0_c0_1 ≤ c1_c0_0_c0_1) (hr1_c0_0_c0_2 : RdS Q3.fl.rep R.heap A1_c0_0_c0_2 a1_c0_0_c0_2) (hn1_c0_0_c0_2 : a1_c0_0_c0_2.length = n1_c0_0_c0_2) (hc1_c0_0_c0_2 : n1_c0_0_c0_2 ≤ c1_c0_0_c0_2) (hr1_c0_0_c0_3 : RdS Q5.rep R.heap A1_c0_0_c0_3 a1_c0_0_c0_3) (hn1_c0_0_c0_3 : a1_c0_0_c0_3.length = n1_c0_0_c0_3) (hc1_c0_0_c0_3 : n1_c0_0_c0_3 ≤ c1_c0_0_c0_3) {r : Bool} (j : Q130.f a0 a1_c0_0_c0_0 a1_c0_0_c0_1 a1_c0_0_c0_2 a1_c0_0_c0_3 = some r) :
 Spec Tryz.prog 72 [.slice A0 n0 c0, .func (.func 73) #[] #[bp b1_c0]] R (pc b1_c0 [.func (.func 68) #[] #[bp b1_c0_0_c0]] 50 :: pc b1_c0_0_c0 [i6 a1_c0_0_c0_0, .slice A1_c0_0_c0_1 n1_c0_0_c0_1 c1_c0_0_c0_1, .slice A1_c0_0_c0_2 n1_c0_0_c0_2 c1_c0_0_c0_2, .slice A1_c0_0_c0_3 n1_c0_0_c0_3 c1_c0_0_c0_3] 26 :: Fr) (fun v l' => v = .bool r ∧ pc b1_c0 [.func (.func 68) #[] #[bp b1_c0_0_c0]] 50 :: pc b1_c0_0_c0 [i6 a1_c0_0_c0_0, .slice A1_c0_0_c0_1 n1_c0_0_c0_1 c1_c0_0_c0_1, .slice A1_c0_0_c0_2 n1_c0_0_c0_2 c1_c0_0_c0_2, .slice A1_c0_0_c0_3 n1_c0_0_c0_3 c1_c0_0_c0_3] 26 :: Fr = l') := by
 subst hn0; subst hn1_c0_0_c0_1; subst hn1_c0_0_c0_2; subst hn1_c0_0_c0_3; refine Spec.of Tryz.func72 rfl rfl ?_; unfold Q130.f at j; have j := brun j; refine sR 1 rfl (nT (sR 2 rfl ?_)); obtain ⟨q, p, j⟩ := bbind j; refine At.call rfl Q68.callee rfl rfl rfl (Q68.spec hr0 rfl hc0 hr1_c0_0_c0_1 rfl hc1_c0_0_c0_1 hr1_c0_0_c0_2 rfl hc1_c0_0_c0_2 hr1_c0_0_c0_3 rfl hc1_c0_0_c0_3 p) ?_; rintro _ _ ⟨rfl, rfl⟩; refine At.run 2 rfl (nT (At.ret ?_)); cases bret j; exact At.res (.inl rfl) rfl rfl ⟨rfl, rfl⟩

noncomputable def Q146.f (a0 : Bs) : Option Bool :=
 (Q82.f a0).bind fun p =>
 some (!p)
theorem Q146.callee : Callee Tryz.prog 75 := ⟨_, Tryz.func75, by kernel_rfl, by kernel_rfl⟩
theorem Q146.spec {a0 : Bs} {r : Bool} (j : Q146.f a0 = some r) :
 Spec Tryz.prog 75 [.string ⟨(a0).toArray⟩] R (Fr) (fun v l' => v = .bool r ∧ Fr = l') := by
 refine Spec.of Tryz.func75 rfl rfl ?_; unfold Q146.f at j; have j := brun j; refine sR 1 rfl (nT (sR 1 rfl ?_)); obtain ⟨q, p, j⟩ := bbind j; refine At.call rfl Q82.callee rfl rfl rfl (Q82.spec p) ?_; rintro _ _ ⟨rfl, rfl⟩; refine At.run 2 rfl (nT (At.ret ?_)); cases bret j; exact At.res (.inl rfl) rfl rfl ⟨rfl, rfl⟩

noncomputable def Q67.l0b (a0 : List Bs) (p : Int) : Option ((Int) ⊕ ((Unit) ⊕ (Int))) :=
 if p < (a0.length : Int) then
 if (0 : Int) ≤ p ∧ p < (a0.length : Int) then
 (Q146.f (gt a0 p)).bind fun q =>
 if q = true then
 upL (some p)
 else
 nx (IntKind.i64.wrap (p + 1))
 else none
 else
 dn (.inl ())
noncomputable def Q67.l0 (a0 : List Bs) (p : Int) : Option ((Unit) ⊕ (Int)) := iter (fun t_ : Int => Q67.l0b a0 t_) p
noncomputable def Q67.f (a0 : List Bs) : Option Int :=
 jn (Q67.l0 a0 0) (fun (_ : Unit) =>
 some (-1))
theorem Q67.callee : Callee Tryz.prog 130 := ⟨_, Tryz.func130, by kernel_rfl, by kernel_rfl⟩
theorem Q67.spec {a0 : List Bs} (hr0 : RdS Fl.bs.rep R.heap A0 a0) (hn0 : a0.length = n0) (hc0 : n0 ≤ c0) {r : Int} (j : Q67.f a0 = some r) :
 Spec Tryz.prog 130 [.slice A0 n0 c0, .func (.func 75) #[] #[]] R (Fr) (fun v l' => v = i6 r ∧ Fr = l') := by
 subst hn0; refine Spec.of Tryz.func130 rfl rfl ?_; unfold Q67.f at j; have j := brun j; refine sR 1 rfl (nT (At.seq (At.seq (At.region ?_)))); refine At.run 3 rfl (nT ?_); refine At.block ?_; obtain ⟨V, Z, a1, j⟩ := bjoin j; obtain ⟨J, D, U⟩ := bsome j; clear j; unfold Q67.l0 at D; obtain ⟨E, u⟩ := Q15.1 D; clear D; refine At.loopJ (X := Int) (Y := Unit) (e0 := 0) (fun p => [(0, .slice A0 a0.length c0), (1, .func (.func 75) #[] #[]), (7, i6 (a0.length : Int)), (8, i6 p)]) (fun p => Fr) (fun m_ => fun p => iterN (fun t_ : Int => Q67.l0b a0 t_) m_ p = some J) E 0 u (fun _ => []) (fun _ => Fr) (fun _ => V (.inl ()) = some r) (fun a w e hs => ⟨e.sub ⟨rfl, rfl, rfl, rfl, trivial⟩, (by exact hs)⟩) ?_ (fun a2 => ?_)
 ·rintro _ j; have j := (Z _).symm.trans j
  ·refine At.ibx ?_; refine At.thn (sR 1 rfl (nT (At.ret ?_))); cases bret j; exact At.res (.inl rfl) rfl rfl ⟨rfl, rfl⟩
 ·clear u E; rintro E p u; obtain ⟨a3, f_, a4, hf_, j⟩ := bit u; clear u; have j : (Q67.l0b a0 p).bind _ = some J := j; unfold Q67.l0b at j
  ·refine sR 1 rfl (nT (At.seq ?_)); rcases bite j with ⟨G, j⟩ | ⟨G, j⟩
   ··refine At.condT rfl (decide_eq_true G) ?_
     refine At.skip (At.thn (At.seq ?_)); refine At.block ?_; refine sR 2 rfl (nT (sR 3 rfl ?_)); obtain ⟨C, j⟩ := bnone j; refine At.y (Y.ixRd hr0 rfl rfl rfl rfl rfl rfl rfl C.1 C.2) rfl rfl rfl (At.y (Y.ldFl hr0 rfl (q := 0) rfl rfl C.1 C.2 rfl rfl rfl) rfl rfl rfl ?_); obtain ⟨a6, a5, j⟩ := bbind j; refine At.call rfl Q146.callee rfl rfl rfl (Q146.spec a5) ?_; rintro _ _ ⟨rfl, rfl⟩; refine nT ?_; rcases bite j with ⟨I, j⟩ | ⟨I, j⟩
     ··refine At.condT rfl I ?_
       refine sR 2 rfl (nT (At.ret ?_)); refine At.ibr ?_; refine At.thr ?_; have j := bupL a1 U j; refine At.thr ?_; refine At.ibr ?_; refine At.thr ?_; cases bret j; exact At.res (.inl rfl) rfl rfl ⟨rfl, rfl⟩
     ··refine At.condF rfl (bn I) ?_
       refine At.skip ?_; refine At.ibn ?_; refine At.thn (At.region (At.run 2 rfl (At.nil ?_))); have j := bnx hf_ j; exact fun a w e hs => ⟨a3, (IntKind.i64.wrap (p + 1)), a4, j, e.sub ⟨rfl, rfl, rfl, rfl, trivial⟩, hs⟩
   ··refine At.condF rfl (decide_eq_false G) ?_
     refine At.exit ?_; refine At.the ?_; refine At.the ?_; exact fun a w e hs => a2 () (bdn j U) a w (e.sub trivial) hs

noncomputable def Q129.f (a0 : List Bs) : Option Bool :=
 (Q67.f a0).bind fun p =>
 some (decide (0 ≤ p))
theorem Q129.callee : Callee Tryz.prog 74 := ⟨_, Tryz.func74, by kernel_rfl, by kernel_rfl⟩
theorem Q129.spec {a0 : List Bs} (hr0 : RdS Fl.bs.rep R.heap A0 a0) (hn0 : a0.length = n0) (hc0 : n0 ≤ c0) {r : Bool} (j : Q129.f a0 = some r) :
 Spec Tryz.prog 74 [.slice A0 n0 c0, .func (.func 75) #[] #[]] R (Fr) (fun v l' => v = .bool r ∧ Fr = l') := by
 subst hn0; refine Spec.of Tryz.func74 rfl rfl ?_; unfold Q129.f at j; have j := brun j; refine sR 1 rfl (nT (sR 2 rfl ?_)); obtain ⟨q, p, j⟩ := bbind j; refine At.call rfl Q67.callee rfl rfl rfl (Q67.spec hr0 rfl hc0 p) ?_; rintro _ _ ⟨rfl, rfl⟩; refine At.run 2 rfl (nT (At.ret ?_)); cases bret j; exact At.res (.inl rfl) rfl rfl ⟨rfl, rfl⟩

noncomputable def Q34.l0b (a0 : List Int) (p : Int) : Option ((Int) ⊕ ((Unit) ⊕ (Int))) :=
 if p < (a0.length : Int) then
 if (0 : Int) ≤ p ∧ p < (a0.length : Int) then
 if gt a0 p = 0 then
 nx (IntKind.i64.wrap (p + 1))
 else
 upL (some (gt a0 p))
 else none
 else
 dn (.inl ())
noncomputable def Q34.l0 (a0 : List Int) (p : Int) : Option ((Unit) ⊕ (Int)) := iter (fun t_ : Int => Q34.l0b a0 t_) p
noncomputable def Q34.f (a0 : List Int) : Option Int :=
 jn (Q34.l0 a0 0) (fun (_ : Unit) =>
 some 0)
theorem Q34.callee : Callee Tryz.prog 131 := ⟨_, Tryz.func131, by kernel_rfl, by kernel_rfl⟩
theorem Q34.spec {a0 : List Int} (hr0 : RdS (Fl.int .i64).rep R.heap A0 a0) (hn0 : a0.length = n0) (hc0 : n0 ≤ c0) {r : Int} (j : Q34.f a0 = some r) :
 Spec Tryz.prog 131 [.slice A0 n0 c0] R (Fr) (fun v l' => v = i6 r ∧ Fr = l') := by
 subst hn0; refine Spec.of Tryz.func131 rfl rfl ?_; unfold Q34.f at j; have j := brun j; refine sR 1 rfl (nT (sR 1 rfl ?_)); refine nT (At.seq (sR 3 rfl (nT ?_))); refine At.block ?_; obtain ⟨V, Z, a1, j⟩ := bjoin j; obtain ⟨J, D, U⟩ := bsome j; clear j; unfold Q34.l0 at D; obtain ⟨E, u⟩ := Q15.1 D; clear D; refine At.loopJ (X := Int) (Y := Unit) (e0 := 0) (fun p => [(3, i6 0), (6, .slice A0 a0.length c0), (7, i6 (a0.length : Int)), (8, i6 p)]) (fun p => Fr) (fun m_ => fun p => iterN (fun t_ : Int => Q34.l0b a0 t_) m_ p = some J) E 0 u (fun _ => [(3, i6 0)]) (fun _ => Fr) (fun _ => V (.inl ()) = some r) (fun a w e hs => ⟨e.sub ⟨rfl, rfl, rfl, rfl, trivial⟩, (by exact hs)⟩) ?_ (fun a2 => ?_)
 ·rintro _ j; have j := (Z _).symm.trans j
  ·refine At.ibx ?_; refine At.thn (sR 2 rfl (nT (At.ret ?_))); cases bret j; exact At.res (.inl rfl) rfl rfl ⟨rfl, rfl⟩
 ·clear u E; rintro E p u; obtain ⟨a3, f_, a4, hf_, j⟩ := bit u; clear u; have j : (Q34.l0b a0 p).bind _ = some J := j; unfold Q34.l0b at j
  ·refine sR 1 rfl (nT (At.seq ?_)); rcases bite j with ⟨G, j⟩ | ⟨G, j⟩
   ··refine At.condT rfl (decide_eq_true G) ?_
     refine At.skip (At.thn (At.seq ?_)); refine At.block ?_; refine At.seq (At.region ?_); obtain ⟨C, j⟩ := bnone j; refine At.y (Y.ixRd hr0 rfl rfl rfl rfl rfl rfl rfl C.1 C.2) rfl rfl rfl (At.y (Y.ldFl hr0 rfl (q := 0) rfl rfl C.1 C.2 rfl rfl rfl) rfl rfl rfl (At.run 1 rfl (nT (sR 3 rfl ?_)))); refine nT ?_; rcases bite j with ⟨I, j⟩ | ⟨I, j⟩
     ··refine At.condF rfl (nf (decide_eq_true I)) ?_
       refine At.skip ?_; refine At.ibn ?_; refine At.thn (At.region (At.run 2 rfl (At.nil ?_))); have j := bnx hf_ j; exact fun a w e hs => ⟨a3, (IntKind.i64.wrap (p + 1)), a4, j, e.sub ⟨rfl, rfl, rfl, rfl, trivial⟩, hs⟩
     ··refine At.condT rfl (nt (decide_eq_false I)) ?_
       refine sR 2 rfl (nT (At.ret ?_)); refine At.ibr ?_; refine At.thr ?_; have j := bupL a1 U j; refine At.thr ?_; refine At.ibr ?_; refine At.thr ?_; cases bret j; exact At.res (.inl rfl) rfl rfl ⟨rfl, rfl⟩
   ··refine At.condF rfl (decide_eq_false G) ?_
     refine At.exit ?_; refine At.the ?_; refine At.the ?_; exact fun a w e hs => a2 () (bdn j U) a w (e.sub ⟨rfl, trivial⟩) hs

noncomputable def Q108.f (p q u C D E : Int) : Option Int :=
 (Q77.f p C).bind fun G =>
 (Q77.f q D).bind fun I =>
 (Q77.f u E).bind fun J =>
 (Q34.f ([G, I, J] : List Int)).bind fun U =>
 some U
theorem Q108.callee : Callee Tryz.prog 77 := ⟨_, Tryz.func77, by kernel_rfl, by kernel_rfl⟩
theorem Q108.spec {p q u C D E : Int} {r : Int} (j : Q108.f p q u C D E = some r) :
 Spec Tryz.prog 77 [.agg #[i6 p, i6 q, i6 u], .agg #[i6 C, i6 D, i6 E]] R (Fr) (fun v l' => v = i6 r ∧ Fr = l') := by
 refine Spec.of Tryz.func77 rfl rfl ?_; unfold Q108.f at j; have j := brun j; refine At.seq (At.region ?_); refine At.box rfl rfl (cs := [i6 p, i6 q, i6 u]) rfl rfl (fun G => ?_); refine At.box rfl rfl (cs := [i6 C, i6 D, i6 E]) rfl rfl (fun I => ?_); refine At.run 1 rfl (nT (At.seq ?_)); refine At.held [pc I [i6 C, i6 D, i6 E] 48, pc G [i6 p, i6 q, i6 u] 48] 18 rfl ?_; refine At.H.pw 0 rfl rfl rfl rfl rfl (.c .z (.c .z .n)) ?_; refine At.H.tw 1 rfl (Y.load rfl rfl (.s .z) rfl rfl rfl) rfl rfl rfl (.c .z (.c .z .n)) ?_; refine At.H.pw 2 rfl rfl rfl rfl rfl (.c .z (.c .z .n)) ?_; refine At.H.tw 3 rfl (Y.load rfl rfl .z rfl rfl rfl) rfl rfl rfl (.c .z (.c .z .n)) ?_; refine At.H.pw 5 rfl rfl rfl rfl rfl (.c .z (.c .z .n)) ?_; refine At.H.tw 6 rfl (Y.load rfl rfl (.s .z) rfl rfl rfl) rfl rfl rfl (.c .z (.c .z .n)) ?_; refine At.H.pw 7 rfl rfl rfl rfl rfl (.c .z (.c .z .n)) ?_; refine At.H.tw 8 rfl (Y.load rfl rfl .z rfl rfl rfl) rfl rfl rfl (.c .z (.c .z .n)) ?_; refine At.H.pw 10 rfl rfl rfl rfl rfl (.c .z (.c .z .n)) ?_; refine At.H.tw 11 rfl (Y.load rfl rfl (.s .z) rfl rfl rfl) rfl rfl rfl (.c .z (.c .z .n)) ?_; refine At.H.pw 12 rfl rfl rfl rfl rfl (.c .z (.c .z .n)) ?_; refine At.H.tw 13 rfl (Y.load rfl rfl .z rfl rfl rfl) rfl rfl rfl (.c .z (.c .z .n)) ?_; refine At.H.al [4] (Q7 ?_ Q8)
 ··refine At.HO.op rfl ?_
   obtain ⟨J, U, j⟩ := bbind j; refine At.call rfl Q77.callee rfl rfl rfl (Q77.spec U) ?_; rintro _ _ ⟨rfl, rfl⟩; refine At.HO.back (.c .z (.c .z .n)) ?_; refine At.H.al [9] (Q7 ?_ Q8)
   ··refine At.HO.op rfl ?_
     obtain ⟨V, X, j⟩ := bbind j; refine At.call rfl Q77.callee rfl rfl rfl (Q77.spec X) ?_; rintro _ _ ⟨rfl, rfl⟩; refine At.HO.back (.c .z (.c .z .n)) ?_; refine At.H.al [14] (Q7 ?_ Q8)
     ··refine At.HO.op rfl ?_
       obtain ⟨Z, a0, j⟩ := bbind j; refine At.call rfl Q77.callee rfl rfl rfl (Q77.spec a0) ?_; rintro _ _ ⟨rfl, rfl⟩; refine At.HO.back (.c .z (.c .z .n)) ?_; refine At.H.al [15] (Q7 ?_ Q8)
       ··refine At.HO.op rfl ?_
         refine At.lit rfl (xo := [.tmp 9, .tmp 14, .tmp 19]) (ys := ([J, V, Z] : List Int)) (Fl.int .i64) rfl rfl rfl rfl rfl rfl rfl rfl rfl rfl rfl (fun a6 a7 => ?_); refine At.HO.back (.c (.s .z) (.c (.s .z) .n)) ?_; refine At.H.al [16] (Q7 ?_ Q8)
         ··refine At.HO.op rfl ?_
           refine At.freeze .z fun a8 a1 a2 a3 a9 a4 => ?_; obtain ⟨b2, a5, j⟩ := bbind j; refine At.call rfl Q34.callee rfl rfl rfl (Q34.spec a1 a2 a3 a5) ?_; rintro _ _ ⟨rfl, rfl⟩; refine At.thaw a4 ?_; refine At.HO.back (.c (.s .z) (.c (.s .z) .n)) ?_; refine At.H.pw 17 rfl rfl rfl rfl rfl (.c (.s .z) (.c (.s .z) .n)) ?_; refine At.H.done (by kernel_rfl) ?_; refine At.thn (At.ret (At.drop .z (At.drop .z (At.drop .z ?_)))); cases bret j; exact At.res (.inl rfl) rfl rfl ⟨rfl, rfl⟩

noncomputable def Q63.l0b (a0 : List Q3) (p : Int) : Option ((Int) ⊕ ((Unit) ⊕ (Bool))) :=
 if p < (a0.length : Int) then
 if (0 : Int) ≤ IntKind.i64.wrap (p - 1) ∧ IntKind.i64.wrap (p - 1) < (a0.length : Int) then
 if (0 : Int) ≤ p ∧ p < (a0.length : Int) then
 (Q108.f ((gt a0 (IntKind.i64.wrap (p - 1))).From) ((gt a0 (IntKind.i64.wrap (p - 1))).Action) ((gt a0 (IntKind.i64.wrap (p - 1))).To) ((gt a0 p).From) ((gt a0 p).Action) ((gt a0 p).To)).bind fun q =>
 if 0 ≤ q then
 upL (some false)
 else
 nx (IntKind.i64.wrap (p + 1))
 else none
 else none
 else
 dn (.inl ())
noncomputable def Q63.l0 (a0 : List Q3) (p : Int) : Option ((Unit) ⊕ (Bool)) := iter (fun t_ : Int => Q63.l0b a0 t_) p
noncomputable def Q63.f (a0 : List Q3) : Option Bool :=
 jn (Q63.l0 a0 1) (fun (_ : Unit) =>
 some true)
theorem Q63.callee : Callee Tryz.prog 76 := ⟨_, Tryz.func76, by kernel_rfl, by kernel_rfl⟩
theorem Q63.spec {a0 : List Q3} (hr0 : RdS Q3.fl.rep R.heap A0 a0) (hn0 : a0.length = n0) (hc0 : n0 ≤ c0) {r : Bool} (j : Q63.f a0 = some r) :
 Spec Tryz.prog 76 [.slice A0 n0 c0, .func (.func 77) #[] #[]] R (Fr) (fun v l' => v = .bool r ∧ Fr = l') := by
 subst hn0; refine Spec.of Tryz.func76 rfl rfl ?_; unfold Q63.f at j; have j := brun j; refine sR 1 rfl (nT (At.seq (At.seq (At.region ?_)))); refine At.run 1 rfl (nT ?_); refine At.block ?_; obtain ⟨Z, a1, a2, j⟩ := bjoin j; obtain ⟨U, E, V⟩ := bsome j; clear j; unfold Q63.l0 at E; obtain ⟨G, u⟩ := Q15.1 E; clear E; refine At.loopJ (X := Int) (Y := Unit) (e0 := 0) (fun p => [(0, .slice A0 a0.length c0), (1, .func (.func 77) #[] #[]), (5, i6 p)]) (fun p => Fr) (fun m_ => fun p => iterN (fun t_ : Int => Q63.l0b a0 t_) m_ p = some U) G 1 u (fun _ => []) (fun _ => Fr) (fun _ => Z (.inl ()) = some r) (fun a w e hs => ⟨e.sub ⟨rfl, rfl, rfl, trivial⟩, (by exact hs)⟩) ?_ (fun a3 => ?_)
 ·rintro _ j; have j := (a1 _).symm.trans j
  ·refine At.ibx ?_; refine At.thn (sR 1 rfl (nT (At.ret ?_))); cases bret j; exact At.res (.inl rfl) rfl rfl ⟨rfl, rfl⟩
 ·clear u G; rintro G p u; obtain ⟨a4, f_, a5, hf_, j⟩ := bit u; clear u; have j : (Q63.l0b a0 p).bind _ = some U := j; unfold Q63.l0b at j
  ·refine At.seq (sR 4 rfl (nT ?_)); rcases bite j with ⟨I, j⟩ | ⟨I, j⟩
   ··refine At.condT rfl (decide_eq_true I) ?_
     refine At.skip (At.thn (At.seq ?_)); refine At.block ?_; refine At.seq ?_; refine At.quiet (by kernel_rfl) ?_; refine At.Quiet.run 4 rfl ?_; obtain ⟨C, j⟩ := bnone j; refine At.Quiet.y (Y.ixRd hr0 rfl rfl rfl rfl rfl rfl rfl C.1 C.2) rfl rfl rfl ?_; refine At.Quiet.y (Y.ldFl hr0 rfl (q := 0) rfl rfl C.1 C.2 rfl rfl rfl) rfl rfl rfl ?_; refine At.Quiet.run 2 rfl ?_; obtain ⟨D, j⟩ := bnone j; refine At.Quiet.y (Y.ixRd hr0 rfl rfl rfl rfl rfl rfl rfl D.1 D.2) rfl rfl rfl ?_; refine At.Quiet.y (Y.ldFl hr0 rfl (q := 0) rfl rfl D.1 D.2 rfl rfl rfl) rfl rfl rfl ?_; obtain ⟨a7, a6, j⟩ := bbind j; refine At.Quiet.call rfl Q108.callee rfl rfl rfl (Q108.spec a6) (fun _ _ h_ => ⟨h_.1, fun _ hs => h_.2 ▸ hs⟩) ?_; refine At.Quiet.run 1 rfl (At.Quiet.nil (At.thn ?_)); rcases bite j with ⟨J, j⟩ | ⟨J, j⟩
     ··refine At.condT rfl (decide_eq_true J) ?_
       refine sR 1 rfl (nT (At.ret ?_)); refine At.ibr ?_; refine At.thr ?_; have j := bupL a2 V j; refine At.thr ?_; refine At.ibr ?_; refine At.thr ?_; cases bret j; exact At.res (.inl rfl) rfl rfl ⟨rfl, rfl⟩
     ··refine At.condF rfl (decide_eq_false J) ?_
       refine At.skip ?_; refine At.ibn ?_; refine At.thn (At.region (At.run 3 rfl (At.nil ?_))); have j := bnx hf_ j; exact fun a w e hs => ⟨a4, (IntKind.i64.wrap (p + 1)), a5, j, e.sub ⟨rfl, rfl, rfl, trivial⟩, hs⟩
   ··refine At.condF rfl (decide_eq_false I) ?_
     refine At.exit ?_; refine At.the ?_; refine At.the ?_; exact fun a w e hs => a3 () (bdn j V) a w (e.sub trivial) hs

noncomputable def Q132.f (a0 a1 : Bs) : Option Int :=
 some (Lib.compareBytes a0 a1)
theorem Q132.callee : Callee Tryz.prog 132 := ⟨_, Tryz.func132, by kernel_rfl, by kernel_rfl⟩
theorem Q132.spec {a0 a1 : Bs} {r : Int} (j : Q132.f a0 a1 = some r) :
 Spec Tryz.prog 132 [.string ⟨(a0).toArray⟩, .string ⟨(a1).toArray⟩] R (Fr) (fun v l' => v = i6 r ∧ Fr = l') := by
 refine Spec.of Tryz.func132 rfl rfl ?_; unfold Q132.f at j; have j := brun j; refine sR 1 rfl (nT (sR 2 rfl ?_)); refine At.y (Y.ext bytealg_cmpstring.ext rfl rfl (fun w => Q312 _ _ w)) rfl rfl rfl ?_; refine At.run 1 rfl (nT (At.ret ?_)); cases bret j; exact At.res (.inl rfl) rfl rfl ⟨rfl, rfl⟩

noncomputable def Q109.f (a0 a1 : Bs) : Option Int :=
 (Q132.f a0 a1).bind fun p =>
 some p
theorem Q109.callee : Callee Tryz.prog 79 := ⟨_, Tryz.func79, by kernel_rfl, by kernel_rfl⟩
theorem Q109.spec {a0 a1 : Bs} {r : Int} (j : Q109.f a0 a1 = some r) :
 Spec Tryz.prog 79 [.string ⟨(a0).toArray⟩, .string ⟨(a1).toArray⟩] R (Fr) (fun v l' => v = i6 r ∧ Fr = l') := by
 refine Spec.of Tryz.func79 rfl rfl ?_; unfold Q109.f at j; have j := brun j; refine sR 1 rfl (nT (sR 2 rfl ?_)); obtain ⟨q, p, j⟩ := bbind j; refine At.call rfl Q132.callee rfl rfl rfl (Q132.spec p) ?_; rintro _ _ ⟨rfl, rfl⟩; refine At.run 1 rfl (nT (At.ret ?_)); cases bret j; exact At.res (.inl rfl) rfl rfl ⟨rfl, rfl⟩

noncomputable def Q75.l0b (a0 : List Bs) (p : Int) : Option ((Int) ⊕ ((Unit) ⊕ (Bool))) :=
 if p < (a0.length : Int) then
 if (0 : Int) ≤ IntKind.i64.wrap (p - 1) ∧ IntKind.i64.wrap (p - 1) < (a0.length : Int) then
 if (0 : Int) ≤ p ∧ p < (a0.length : Int) then
 (Q109.f (gt a0 (IntKind.i64.wrap (p - 1))) (gt a0 p)).bind fun q =>
 if 0 ≤ q then
 upL (some false)
 else
 nx (IntKind.i64.wrap (p + 1))
 else none
 else none
 else
 dn (.inl ())
noncomputable def Q75.l0 (a0 : List Bs) (p : Int) : Option ((Unit) ⊕ (Bool)) := iter (fun t_ : Int => Q75.l0b a0 t_) p
noncomputable def Q75.f (a0 : List Bs) : Option Bool :=
 jn (Q75.l0 a0 1) (fun (_ : Unit) =>
 some true)
theorem Q75.callee : Callee Tryz.prog 78 := ⟨_, Tryz.func78, by kernel_rfl, by kernel_rfl⟩
theorem Q75.spec {a0 : List Bs} (hr0 : RdS Fl.bs.rep R.heap A0 a0) (hn0 : a0.length = n0) (hc0 : n0 ≤ c0) {r : Bool} (j : Q75.f a0 = some r) :
 Spec Tryz.prog 78 [.slice A0 n0 c0, .func (.func 79) #[] #[]] R (Fr) (fun v l' => v = .bool r ∧ Fr = l') := by
 subst hn0; refine Spec.of Tryz.func78 rfl rfl ?_; unfold Q75.f at j; have j := brun j; refine sR 1 rfl (nT (At.seq (At.seq (At.region ?_)))); refine At.run 1 rfl (nT ?_); refine At.block ?_; obtain ⟨Z, a1, a2, j⟩ := bjoin j; obtain ⟨U, E, V⟩ := bsome j; clear j; unfold Q75.l0 at E; obtain ⟨G, u⟩ := Q15.1 E; clear E; refine At.loopJ (X := Int) (Y := Unit) (e0 := 0) (fun p => [(0, .slice A0 a0.length c0), (1, .func (.func 79) #[] #[]), (5, i6 p)]) (fun p => Fr) (fun m_ => fun p => iterN (fun t_ : Int => Q75.l0b a0 t_) m_ p = some U) G 1 u (fun _ => []) (fun _ => Fr) (fun _ => Z (.inl ()) = some r) (fun a w e hs => ⟨e.sub ⟨rfl, rfl, rfl, trivial⟩, (by exact hs)⟩) ?_ (fun a3 => ?_)
 ·rintro _ j; have j := (a1 _).symm.trans j
  ·refine At.ibx ?_; refine At.thn (sR 1 rfl (nT (At.ret ?_))); cases bret j; exact At.res (.inl rfl) rfl rfl ⟨rfl, rfl⟩
 ·clear u G; rintro G p u; obtain ⟨a4, f_, a5, hf_, j⟩ := bit u; clear u; have j : (Q75.l0b a0 p).bind _ = some U := j; unfold Q75.l0b at j
  ·refine At.seq (sR 4 rfl (nT ?_)); rcases bite j with ⟨I, j⟩ | ⟨I, j⟩
   ··refine At.condT rfl (decide_eq_true I) ?_
     refine At.skip (At.thn (At.seq ?_)); refine At.block ?_; refine At.seq ?_; refine At.quiet (by kernel_rfl) ?_; refine At.Quiet.run 4 rfl ?_; obtain ⟨C, j⟩ := bnone j; refine At.Quiet.y (Y.ixRd hr0 rfl rfl rfl rfl rfl rfl rfl C.1 C.2) rfl rfl rfl ?_; refine At.Quiet.y (Y.ldFl hr0 rfl (q := 0) rfl rfl C.1 C.2 rfl rfl rfl) rfl rfl rfl ?_; refine At.Quiet.run 2 rfl ?_; obtain ⟨D, j⟩ := bnone j; refine At.Quiet.y (Y.ixRd hr0 rfl rfl rfl rfl rfl rfl rfl D.1 D.2) rfl rfl rfl ?_; refine At.Quiet.y (Y.ldFl hr0 rfl (q := 0) rfl rfl D.1 D.2 rfl rfl rfl) rfl rfl rfl ?_; obtain ⟨a7, a6, j⟩ := bbind j; refine At.Quiet.call rfl Q109.callee rfl rfl rfl (Q109.spec a6) (fun _ _ h_ => ⟨h_.1, fun _ hs => h_.2 ▸ hs⟩) ?_; refine At.Quiet.run 1 rfl (At.Quiet.nil (At.thn ?_)); rcases bite j with ⟨J, j⟩ | ⟨J, j⟩
     ··refine At.condT rfl (decide_eq_true J) ?_
       refine sR 1 rfl (nT (At.ret ?_)); refine At.ibr ?_; refine At.thr ?_; have j := bupL a2 V j; refine At.thr ?_; refine At.ibr ?_; refine At.thr ?_; cases bret j; exact At.res (.inl rfl) rfl rfl ⟨rfl, rfl⟩
     ··refine At.condF rfl (decide_eq_false J) ?_
       refine At.skip ?_; refine At.ibn ?_; refine At.thn (At.region (At.run 3 rfl (At.nil ?_))); have j := bnx hf_ j; exact fun a w e hs => ⟨a4, (IntKind.i64.wrap (p + 1)), a5, j, e.sub ⟨rfl, rfl, rfl, trivial⟩, hs⟩
   ··refine At.condF rfl (decide_eq_false I) ?_
     refine At.exit ?_; refine At.the ?_; refine At.the ?_; exact fun a w e hs => a3 () (bdn j V) a w (e.sub trivial) hs

noncomputable def Q116.f (p : Bs) (C : List Int) (q : Bs) (D : List Int) : Option Int :=
 (Q109.f p q).bind fun u =>
 some u
theorem Q116.callee : Callee Tryz.prog 81 := ⟨_, Tryz.func81, by kernel_rfl, by kernel_rfl⟩
theorem Q116.spec {u C : Bs} {p q : List Int} (hr0_1 : RdS (Fl.int .i64).rep R.heap A0_1 p) (hn0_1 : p.length = n0_1) (hc0_1 : n0_1 ≤ c0_1) (hr1_1 : RdS (Fl.int .i64).rep R.heap A1_1 q) (hn1_1 : q.length = n1_1) (hc1_1 : n1_1 ≤ c1_1) {r : Int} (j : Q116.f u p C q = some r) :
 Spec Tryz.prog 81 [.agg #[.string ⟨(u).toArray⟩, .slice A0_1 n0_1 c0_1], .agg #[.string ⟨(C).toArray⟩, .slice A1_1 n1_1 c1_1]] R (Fr) (fun v l' => v = i6 r ∧ Fr = l') := by
 subst hn0_1; subst hn1_1; refine Spec.of Tryz.func81 rfl rfl ?_; unfold Q116.f at j; have j := brun j; refine At.seq (At.region ?_); refine At.box rfl rfl (cs := [.string ⟨(u).toArray⟩, .slice A0_1 p.length c0_1]) rfl rfl (fun E => ?_); refine At.box rfl rfl (cs := [.string ⟨(C).toArray⟩, .slice A1_1 q.length c1_1]) rfl rfl (fun G => ?_); refine At.run 1 rfl (nT (sR 1 rfl (At.y (Y.load rfl rfl (.s .z) rfl rfl rfl) rfl rfl rfl (At.run 1 rfl ?_)))); refine At.y (Y.load rfl rfl .z rfl rfl rfl) rfl rfl rfl ?_; obtain ⟨I, D, j⟩ := bbind j; refine At.call rfl Q109.callee rfl rfl rfl (Q109.spec D) ?_; rintro _ _ ⟨rfl, rfl⟩; refine At.run 1 rfl (nT (At.ret (At.drop .z (At.drop .z ?_)))); cases bret j; exact At.res (.inl rfl) rfl rfl ⟨rfl, rfl⟩

noncomputable def Q73.l0b (a0 : List Q5) (p : Int) : Option ((Int) ⊕ ((Unit) ⊕ (Bool))) :=
 if p < (a0.length : Int) then
 if (0 : Int) ≤ IntKind.i64.wrap (p - 1) ∧ IntKind.i64.wrap (p - 1) < (a0.length : Int) then
 if (0 : Int) ≤ p ∧ p < (a0.length : Int) then
 (Q116.f ((gt a0 (IntKind.i64.wrap (p - 1))).Name) ((gt a0 (IntKind.i64.wrap (p - 1))).States) ((gt a0 p).Name) ((gt a0 p).States)).bind fun q =>
 if 0 ≤ q then
 upL (some false)
 else
 nx (IntKind.i64.wrap (p + 1))
 else none
 else none
 else
 dn (.inl ())
noncomputable def Q73.l0 (a0 : List Q5) (p : Int) : Option ((Unit) ⊕ (Bool)) := iter (fun t_ : Int => Q73.l0b a0 t_) p
noncomputable def Q73.f (a0 : List Q5) : Option Bool :=
 jn (Q73.l0 a0 1) (fun (_ : Unit) =>
 some true)
theorem Q73.callee : Callee Tryz.prog 80 := ⟨_, Tryz.func80, by kernel_rfl, by kernel_rfl⟩
theorem Q73.spec {a0 : List Q5} (hr0 : RdS Q5.rep R.heap A0 a0) (hn0 : a0.length = n0) (hc0 : n0 ≤ c0) {r : Bool} (j : Q73.f a0 = some r) :
 Spec Tryz.prog 80 [.slice A0 n0 c0, .func (.func 81) #[] #[]] R (Fr) (fun v l' => v = .bool r ∧ Fr = l') := by
 subst hn0; refine Spec.of Tryz.func80 rfl rfl ?_; unfold Q73.f at j; have j := brun j; refine sR 1 rfl (nT (At.seq (At.seq (At.region ?_)))); refine At.run 1 rfl (nT ?_); refine At.block ?_; obtain ⟨V, Z, a1, j⟩ := bjoin j; obtain ⟨J, D, U⟩ := bsome j; clear j; unfold Q73.l0 at D; obtain ⟨E, q⟩ := Q15.1 D; clear D; refine At.loopJ (X := Int) (Y := Unit) (e0 := 0) (fun p => [(0, .slice A0 a0.length c0), (1, .func (.func 81) #[] #[]), (5, i6 p)]) (fun p => Fr) (fun m_ => fun p => iterN (fun t_ : Int => Q73.l0b a0 t_) m_ p = some J) E 1 q (fun _ => []) (fun _ => Fr) (fun _ => V (.inl ()) = some r) (fun a w e hs => ⟨e.sub ⟨rfl, rfl, rfl, trivial⟩, (by exact hs)⟩) ?_ (fun a2 => ?_)
 ·rintro _ j; have j := (Z _).symm.trans j
  ·refine At.ibx ?_; refine At.thn (sR 1 rfl (nT (At.ret ?_))); cases bret j; exact At.res (.inl rfl) rfl rfl ⟨rfl, rfl⟩
 ·clear q E; rintro E p q; obtain ⟨a3, f_, a4, hf_, j⟩ := bit q; clear q; have j : (Q73.l0b a0 p).bind _ = some J := j; unfold Q73.l0b at j
  ·refine At.seq (sR 4 rfl (nT ?_)); rcases bite j with ⟨G, j⟩ | ⟨G, j⟩
   ··refine At.condT rfl (decide_eq_true G) ?_
     refine At.skip (At.thn (At.seq ?_)); refine At.block ?_; refine At.seq ?_; refine At.quiet (by kernel_rfl) ?_; refine At.Quiet.run 4 rfl ?_; obtain ⟨u, j⟩ := bnone j; refine At.Quiet.y (Y.ixRd hr0 rfl rfl rfl rfl rfl rfl rfl u.1 u.2) rfl rfl rfl ?_; obtain ⟨b6, a5, a6⟩ := RdS.whole (P := Tryz.prog) hr0 (Sub.refl _) rfl u.1 u.2; obtain ⟨_, _, rfl, rfl, ⟨b7, b8, rfl, a7, a8⟩⟩ := a5; refine At.Quiet.y (a6 rfl rfl rfl rfl) rfl rfl rfl ?_; refine At.Quiet.run 2 rfl ?_; obtain ⟨C, j⟩ := bnone j; refine At.Quiet.y (Y.ixRd hr0 rfl rfl rfl rfl rfl rfl rfl C.1 C.2) rfl rfl rfl ?_; obtain ⟨b9, a9, b2⟩ := RdS.whole (P := Tryz.prog) hr0 (Sub.refl _) rfl C.1 C.2; obtain ⟨_, _, rfl, rfl, ⟨c4, c5, rfl, b3, b4⟩⟩ := a9; refine At.Quiet.y (b2 rfl rfl rfl rfl) rfl rfl rfl ?_; obtain ⟨c6, b5, j⟩ := bbind j; refine At.Quiet.call rfl Q116.callee rfl rfl rfl (Q116.spec a8 rfl a7 b4 rfl b3 b5) (fun _ _ h_ => ⟨h_.1, fun _ hs => h_.2 ▸ hs⟩) ?_; refine At.Quiet.run 1 rfl (At.Quiet.nil (At.thn ?_)); rcases bite j with ⟨I, j⟩ | ⟨I, j⟩
     ··refine At.condT rfl (decide_eq_true I) ?_
       refine sR 1 rfl (nT (At.ret ?_)); refine At.ibr ?_; refine At.thr ?_; have j := bupL a1 U j; refine At.thr ?_; refine At.ibr ?_; refine At.thr ?_; cases bret j; exact At.res (.inl rfl) rfl rfl ⟨rfl, rfl⟩
     ··refine At.condF rfl (decide_eq_false I) ?_
       refine At.skip ?_; refine At.ibn ?_; refine At.thn (At.region (At.run 3 rfl (At.nil ?_))); have j := bnx hf_ j; exact fun a w e hs => ⟨a3, (IntKind.i64.wrap (p + 1)), a4, j, e.sub ⟨rfl, rfl, rfl, trivial⟩, hs⟩
   ··refine At.condF rfl (decide_eq_false G) ?_
     refine At.exit ?_; refine At.the ?_; refine At.the ?_; exact fun a w e hs => a2 () (bdn j U) a w (e.sub trivial) hs

noncomputable def Q24.l1b (u : Int) (C : List Bs) (D : List Q3) (q : List Q5) (p : Int) : Option ((Int) ⊕ ((Unit) ⊕ (Bool))) :=
 if p < (q.length : Int) then
 if (0 : Int) ≤ p ∧ p < (q.length : Int) then
 (Q82.f ((gt q p).Name)).bind fun E =>
 jn (
 if E = true then
 (Q72.f ((gt q p).States)).bind fun G =>
 some (.inl (!G))
 else
 some (.inl true)) (fun (I : Bool) =>
 jn (
 if I = true then
 some (.inl true)
 else
 (Q130.f ((gt q p).States) u C D q).bind fun J =>
 some (.inl J)) (fun (U : Bool) =>
 if U = true then
 upL (some false)
 else
 nx (IntKind.i64.wrap (p + 1))))
 else none
 else
 dn (.inl ())
noncomputable def Q24.l1 (p : Int) (q : List Bs) (u : List Q3) (C : List Q5) (D : Int) : Option ((Unit) ⊕ (Bool)) := iter (fun t_ : Int => Q24.l1b p q u C t_) D
noncomputable def Q24.l0b (C : Int) (u : List Bs) (p : List Q3) (D : List Q5) (E q : Int) : Option ((Int × Int) ⊕ ((Int) ⊕ (Bool))) :=
 if q < (p.length : Int) then
 if (0 : Int) ≤ q ∧ q < (p.length : Int) then
 (Q83.f ((gt p q).From) C u p D).bind fun G =>
 jn (
 if G = true then
 (Q83.f ((gt p q).To) C u p D).bind fun I =>
 some (.inl (!I))
 else
 some (.inl true)) (fun (J : Bool) =>
 jn (
 if J = true then
 some (.inl true)
 else
 some (.inl (decide ((gt p q).Action < 0)))) (fun (U : Bool) =>
 jn (
 if U = true then
 some (.inl true)
 else
 some (.inl (decide ((u.length : Int) ≤ (gt p q).Action)))) (fun (V : Bool) =>
 if V = true then
 upL (some false)
 else
 if (0 : Int) ≤ (gt p q).Action then
 nx (bor .u8 E (Bw.shl .u8 1 ((gt p q).Action)), IntKind.i64.wrap (q + 1))
 else none)))
 else none
 else
 dn (.inl E)
noncomputable def Q24.l0 (p : Int) (q : List Bs) (u : List Q3) (C : List Q5) (D E : Int) : Option ((Int) ⊕ (Bool)) := iter (fun t_ : Int × Int => Q24.l0b p q u C t_.1 t_.2) (D, E)
noncomputable def Q24.f (q : Int) (p : List Bs) (u : List Q3) (C : List Q5) : Option Bool :=
 jn (
 if q < 1 then
 some (.inl true)
 else
 some (.inl (decide (24 < q)))) (fun (D : Bool) =>
 jn (
 if D = true then
 some (.inl true)
 else
 some (.inl (decide (8 < (p.length : Int))))) (fun (E : Bool) =>
 jn (
 if E = true then
 some (.inl true)
 else
 some (.inl (decide (8 < (C.length : Int))))) (fun (G : Bool) =>
 jn (
 if G = true then
 some (.inl true)
 else
 some (.inl (decide (200 < (u.length : Int))))) (fun (I : Bool) =>
 if I = true then
 some false
 else
 jn (Q24.l0 q p u C 0 0) (fun (J : Int) =>
 jn (Q24.l1 q p u C 0) (fun (_ : Unit) =>
 (Q129.f p).bind fun U =>
 jn (
 if U = true then
 some (.inl true)
 else
 if (0 : Int) ≤ (p.length : Int) then
 some (.inl (!(decide (J = IntKind.u8.wrap ((Bw.shl .u8 1 (p.length : Int)) - 1)))))
 else none) (fun (V : Bool) =>
 if V = true then
 some false
 else
 (Q63.f u).bind fun X =>
 jn (
 if X = true then
 (Q75.f p).bind fun Z =>
 some (.inl Z)
 else
 some (.inl false)) (fun (a0 : Bool) =>
 jn (
 if a0 = true then
 (Q73.f C).bind fun a1 =>
 some (.inl a1)
 else
 some (.inl false)) (fun (a2 : Bool) =>
 some a2)))))))))
theorem Q24.callee : Callee Tryz.prog 32 := ⟨_, Tryz.func32, by kernel_rfl, by kernel_rfl⟩
theorem Q24.spec {J : Int} {D : List Bs} {p : List Q3} {u : List Q5} (hr0_1 : RdS Fl.bs.rep R.heap A0_1 D) (hn0_1 : D.length = n0_1) (hc0_1 : n0_1 ≤ c0_1) (hr0_2 : RdS Q3.fl.rep R.heap A0_2 p) (hn0_2 : p.length = n0_2) (hc0_2 : n0_2 ≤ c0_2) (hr0_3 : RdS Q5.rep R.heap A0_3 u) (hn0_3 : u.length = n0_3) (hc0_3 : n0_3 ≤ c0_3) {r : Bool} (j : Q24.f J D p u = some r) :
 Spec Tryz.prog 32 [.agg #[i6 J, .slice A0_1 n0_1 c0_1, .slice A0_2 n0_2 c0_2, .slice A0_3 n0_3 c0_3]] R (Fr) (fun v l' => v = .bool r ∧ Fr = l') := by
 subst hn0_1; subst hn0_2; subst hn0_3; refine Spec.of Tryz.func32 rfl rfl ?_; unfold Q24.f at j; have j := brun j; refine At.seq (At.region ?_); refine At.box rfl rfl (cs := [i6 J, .slice A0_1 D.length c0_1, .slice A0_2 p.length c0_2, .slice A0_3 u.length c0_3]) rfl rfl (fun C => ?_); refine At.run 1 rfl (nT (At.seq (sR 1 rfl (At.y (Y.load rfl rfl .z rfl rfl rfl) rfl rfl rfl ?_)))); refine At.run 2 rfl ?_; obtain ⟨g6, g7, p7, j⟩ := bjoin j; let T4 : HProp := pc C [i6 J, .slice A0_1 D.length c0_1, .slice A0_2 p.length c0_2, .slice A0_3 u.length c0_3] 26; refine At.joinO 4 (X := Bool) (fun Z => [(1, bp C), (16, .bool Z)]) (fun Z => T4 :: Fr) (fun Z => g6 (.inl Z) = some r) ?_ (fun e7 => ?_)
 ·rintro Z j; have j := (g7 _).symm.trans j
  ·refine At.run 1 rfl ?_; obtain ⟨g8, g9, p8, j⟩ := bjoin j; refine At.joinO 5 (X := Bool) (fun a0 => [(1, bp C), (22, .bool a0)]) (fun a0 => T4 :: Fr) (fun a0 => g8 (.inl a0) = some r) ?_ (fun e8 => ?_)
   ·rintro a0 j; have j := (g9 _).symm.trans j
    ·refine At.run 1 rfl ?_; obtain ⟨h0, h1, p9, j⟩ := bjoin j; refine At.joinO 5 (X := Bool) (fun a1 => [(1, bp C), (28, .bool a1)]) (fun a1 => T4 :: Fr) (fun a1 => h0 (.inl a1) = some r) ?_ (fun e9 => ?_)
     ·rintro a1 j; have j := (h1 _).symm.trans j
      ·refine At.run 1 rfl ?_; obtain ⟨h2, h3, q0, j⟩ := bjoin j; refine At.joinO 5 (X := Bool) (fun a2 => [(1, bp C), (34, .bool a2)]) (fun a2 => T4 :: Fr) (fun a2 => h2 (.inl a2) = some r) ?_ (fun f0 => ?_)
       ·rintro a2 j; have j := (h3 _).symm.trans j
        ·refine nT ?_; rcases bite j with ⟨c4, j⟩ | ⟨c4, j⟩
         ··refine At.condT rfl c4 ?_
           refine sR 1 rfl (nT (At.ret (At.thr (At.drop .z ?_)))); cases bret j; exact At.res (.inl rfl) rfl rfl ⟨rfl, rfl⟩
         ··refine At.condF rfl (bn c4) ?_
           refine At.skip (At.thn (sR 1 rfl ?_)); refine At.alloc rfl rfl rfl (fun U => ?_); refine At.store rfl rfl rfl rfl .z rfl rfl rfl (.c .n) ?_; refine nT (sR 1 rfl (nT (At.seq ?_))); refine sR 1 rfl (At.y (Y.load rfl rfl (.s .z) rfl rfl rfl) rfl rfl rfl (At.run 2 rfl (nT ?_))); refine At.block ?_; obtain ⟨h4, h5, h6, j⟩ := bjoin j; obtain ⟨a3, c5, f3⟩ := bsome j; clear j; unfold Q24.l0 at c5; obtain ⟨c6, a4⟩ := Q15.1 c5; clear c5; let T5 : HProp := pc U [.func (.func 68) #[] #[bp C]] 50; refine At.loopJ (X := Int × Int) (Y := Int) (e0 := 0) (fun s_ => [(1, bp C), (3, bp U), (4, .int .u8 s_.1), (37, .slice A0_2 p.length c0_2), (38, i6 (p.length : Int)), (39, i6 s_.2)]) (fun s_ => T5 :: T4 :: Fr) (fun m_ => fun s_ => iterN (fun t_ : Int × Int => Q24.l0b J D p u t_.1 t_.2) m_ (s_.1, s_.2) = some a3) c6 (0, 0) a4 (fun I => [(1, bp C), (3, bp U), (4, .int .u8 I)]) (fun I => T5 :: T4 :: Fr) (fun I => h4 (.inl I) = some r) (fun a w e hs => ⟨e.sub ⟨rfl, rfl, rfl, rfl, rfl, rfl, trivial⟩, (by exact hs)⟩) ?_ (fun h7 => ?_)
           ·rintro I j; have j := (h5 _).symm.trans j
            ·refine At.ibx ?_; refine At.thn (At.seq (sR 1 rfl (At.y (Y.load rfl rfl (.s .z) rfl rfl rfl) rfl rfl rfl (At.run 2 rfl (At.nil ?_))))); refine At.thn ?_; refine At.block ?_; obtain ⟨h8, h9, k0, j⟩ := bjoin j; obtain ⟨b6, c7, f4⟩ := bsome j; clear j; unfold Q24.l1 at c7; obtain ⟨c8, a5⟩ := Q15.1 c7; clear c7; refine At.loopJ (X := Int) (Y := Unit) (e0 := 2) (fun E => [(1, bp C), (3, bp U), (4, .int .u8 I), (75, .slice A0_3 u.length c0_3), (76, i6 (u.length : Int)), (77, i6 E)]) (fun E => T5 :: T4 :: Fr) (fun m_ => fun E => iterN (fun t_ : Int => Q24.l1b J D p u t_) m_ E = some b6) c8 0 a5 (fun _ => [(1, bp C), (4, .int .u8 I)]) (fun _ => T5 :: T4 :: Fr) (fun _ => h8 (.inl ()) = some r) (fun a w e hs => ⟨e.sub ⟨rfl, rfl, rfl, rfl, rfl, rfl, trivial⟩, (by exact hs)⟩) ?_ (fun k1 => ?_)
             ·rintro _ j; have j := (h9 _).symm.trans j
              ·refine At.ibx ?_; refine At.thn (At.seq (sR 1 rfl (At.y (Y.load rfl rfl (.s .z) rfl rfl rfl) rfl rfl rfl ?_))); obtain ⟨q1, k2, j⟩ := bbind j; refine At.call rfl Q129.callee rfl rfl rfl (Q129.spec hr0_1 rfl hc0_1 k2) ?_; rintro _ _ ⟨rfl, rfl⟩; refine At.run 1 rfl ?_; obtain ⟨k3, k4, q2, j⟩ := bjoin j; refine At.joinO 8 (X := Bool) (fun a6 => [(1, bp C), (109, .bool a6)]) (fun a6 => T5 :: T4 :: Fr) (fun a6 => k3 (.inl a6) = some r) ?_ (fun f5 => ?_)
               ·rintro a6 j; have j := (k4 _).symm.trans j
                ·refine nT ?_; rcases bite j with ⟨c9, j⟩ | ⟨c9, j⟩
                 ··refine At.condT rfl c9 ?_
                   refine sR 1 rfl (nT (At.ret (At.thr (At.drop .z ?_)))); refine At.drop .z ?_; cases bret j; exact At.res (.inl rfl) rfl rfl ⟨rfl, rfl⟩
                 ··refine At.condF rfl (bn c9) ?_
                   refine At.skip (At.thn (sR 1 rfl (At.y (Y.load rfl rfl (.s .z) rfl rfl rfl) rfl rfl rfl ?_))); obtain ⟨q3, k5, j⟩ := bbind j; refine At.call rfl Q63.callee rfl rfl rfl (Q63.spec hr0_2 rfl hc0_2 k5) ?_; rintro _ _ ⟨rfl, rfl⟩; refine At.run 1 rfl ?_; obtain ⟨k6, k7, q4, j⟩ := bjoin j; refine At.joinO 4 (X := Bool) (fun a7 => [(1, bp C), (117, .bool a7)]) (fun a7 => T5 :: T4 :: Fr) (fun a7 => k6 (.inl a7) = some r) ?_ (fun f6 => ?_)
                   ·rintro a7 j; have j := (k7 _).symm.trans j
                    ·refine At.run 1 rfl ?_; obtain ⟨k8, k9, q5, j⟩ := bjoin j; refine At.joinO 4 (X := Bool) (fun a8 => [(122, .bool a8)]) (fun a8 => T5 :: T4 :: Fr) (fun a8 => k8 (.inl a8) = some r) ?_ (fun f7 => ?_)
                     ·rintro a8 j; have j := (k9 _).symm.trans j
                      ·refine At.run 1 rfl (nT (At.ret (At.drop .z (At.drop .z ?_)))); cases bret j; exact At.res (.inl rfl) rfl rfl ⟨rfl, rfl⟩
                     ··rcases bite j with ⟨d0, j⟩ | ⟨d0, j⟩
                       ··refine At.know (t := 118) rfl d0 ?_
                         refine At.run 1 rfl (At.y (Y.load rfl rfl (.s .z) rfl rfl rfl) rfl rfl rfl ?_); obtain ⟨l6, l7, j⟩ := bbind j; refine At.call rfl Q73.callee rfl rfl rfl (Q73.spec hr0_3 rfl hc0_3 l7) ?_; rintro _ _ ⟨rfl, rfl⟩; refine At.run 1 rfl ?_; exact At.of (f7 l6 j) ⟨rfl, trivial⟩
                       ··refine At.know (t := 118) rfl (bn d0) ?_
                         refine At.run 4 rfl ?_; exact At.of (f7 false j) ⟨rfl, trivial⟩
                   ··rcases bite j with ⟨d1, j⟩ | ⟨d1, j⟩
                     ··refine At.know (t := 113) rfl d1 ?_
                       refine At.run 1 rfl (At.y (Y.load rfl rfl (.s .z) rfl rfl rfl) rfl rfl rfl ?_); obtain ⟨l8, l9, j⟩ := bbind j; refine At.call rfl Q75.callee rfl rfl rfl (Q75.spec hr0_1 rfl hc0_1 l9) ?_; rintro _ _ ⟨rfl, rfl⟩; refine At.run 1 rfl ?_; exact At.of (f6 l8 j) ⟨rfl, rfl, trivial⟩
                     ··refine At.know (t := 113) rfl (bn d1) ?_
                       refine At.run 4 rfl ?_; exact At.of (f6 false j) ⟨rfl, rfl, trivial⟩
               ··rcases bite j with ⟨d2, j⟩ | ⟨d2, j⟩
                 ··refine At.know (t := 101) rfl d2 ?_
                   refine At.run 8 rfl ?_; exact At.of (f5 true j) ⟨rfl, rfl, trivial⟩
                 ··refine At.know (t := 101) rfl (bn d2) ?_
                   refine At.run 2 rfl (At.y (Y.load rfl rfl (.s .z) rfl rfl rfl) rfl rfl rfl (At.run 1 rfl ?_)); obtain ⟨m0, j⟩ := bnone j; refine At.y (Y.shl rfl rfl m0) rfl rfl rfl (At.run 3 rfl ?_); exact At.of (f5 (!(decide (I = IntKind.u8.wrap ((Bw.shl .u8 1 (D.length : Int)) - 1)))) j) ⟨rfl, rfl, trivial⟩
             ·clear a5 c8; rintro c8 E a5; obtain ⟨m1, f_, m2, hf_, j⟩ := bit a5; clear a5; have j : (Q24.l1b J D p u E).bind _ = some b6 := j; unfold Q24.l1b at j
              ·refine sR 1 rfl (nT (At.seq ?_)); rcases bite j with ⟨d3, j⟩ | ⟨d3, j⟩
               ··refine At.condT rfl (decide_eq_true d3) ?_
                 refine At.skip (At.thn (At.seq ?_)); refine At.block ?_; refine At.seq (At.region ?_); obtain ⟨b7, j⟩ := bnone j; refine At.y (Y.ixRd hr0_3 rfl rfl rfl rfl rfl rfl rfl b7.1 b7.2) rfl rfl rfl ?_; obtain ⟨q6, m3, m4⟩ := RdS.whole (P := Tryz.prog) hr0_3 (Sub.refl _) rfl b7.1 b7.2; obtain ⟨_, _, rfl, rfl, ⟨m5, m6, rfl, f8, f9⟩⟩ := m3; refine At.y (m4 rfl rfl rfl rfl) rfl rfl rfl ?_; refine At.alloc rfl rfl rfl (fun g0 => ?_); refine At.store rfl rfl rfl rfl .z rfl rfl rfl (.c (.c .n)) ?_; refine nT (sR 1 rfl (At.y (Y.load rfl rfl .z rfl rfl rfl) rfl rfl rfl ?_)); obtain ⟨q7, m7, j⟩ := bbind j; refine At.call rfl Q82.callee rfl rfl rfl (Q82.spec m7) ?_; rintro _ _ ⟨rfl, rfl⟩; refine At.run 2 rfl ?_; obtain ⟨m8, m9, q8, j⟩ := bjoin j; let T6 : HProp := pc g0 [.string ⟨((gt u E).Name).toArray⟩, .slice m5 ((gt u E).States.length) m6] 41; refine At.joinO 5 (X := Bool) (fun a9 => [(1, bp C), (3, bp U), (4, .int .u8 I), (8, bp g0), (75, .slice A0_3 u.length c0_3), (76, i6 (u.length : Int)), (77, i6 E), (90, .bool a9)]) (fun a9 => T6 :: T5 :: T4 :: Fr) (fun a9 => m8 (.inl a9) = some b6) ?_ (fun g1 => ?_)
                 ·rintro a9 j; have j := (m9 _).symm.trans j
                  ·refine At.run 1 rfl ?_; obtain ⟨n2, n4, q9, j⟩ := bjoin j; refine At.joinO 5 (X := Bool) (fun b2 => [(1, bp C), (3, bp U), (4, .int .u8 I), (75, .slice A0_3 u.length c0_3), (76, i6 (u.length : Int)), (77, i6 E), (96, .bool b2)]) (fun b2 => T6 :: T5 :: T4 :: Fr) (fun b2 => n2 (.inl b2) = some b6) ?_ (fun g2 => ?_)
                   ·rintro b2 j; have j := (n4 _).symm.trans j
                    ·refine nT ?_; rcases bite j with ⟨d4, j⟩ | ⟨d4, j⟩
                     ··refine At.condT rfl d4 ?_
                       refine sR 1 rfl (nT (At.ret ?_)); refine At.ibr ?_; refine At.thr ?_; have j := bupL k0 f4 j; refine At.thr ?_; refine At.ibr ?_; refine At.thr (At.drop .z (At.drop .z (At.drop .z ?_))); cases bret j; exact At.res (.inl rfl) rfl rfl ⟨rfl, rfl⟩
                     ··refine At.condF rfl (bn d4) ?_
                       refine At.skip ?_; refine At.ibn ?_; refine At.thn (At.region (At.run 2 rfl (At.nil (At.drop .z ?_)))); have j := bnx hf_ j; exact fun a w e hs => ⟨m1, (IntKind.i64.wrap (E + 1)), m2, j, e.sub ⟨rfl, rfl, rfl, rfl, rfl, rfl, trivial⟩, hs⟩
                   ··rcases bite j with ⟨d5, j⟩ | ⟨d5, j⟩
                     ··refine At.know (t := 91) rfl d5 ?_
                       refine At.run 5 rfl ?_; exact At.of (g2 true j) ⟨rfl, rfl, rfl, rfl, rfl, rfl, rfl, trivial⟩
                     ··refine At.know (t := 91) rfl (bn d5) ?_
                       refine At.run 1 rfl (At.y (Y.load rfl rfl .z rfl rfl rfl) rfl rfl rfl (At.run 1 rfl (At.f2 (At.f2 ?_)))); obtain ⟨n5, n6, j⟩ := bbind j; refine At.call rfl Q130.callee rfl rfl rfl (Q130.spec f9 rfl f8 hr0_1 rfl hc0_1 hr0_2 rfl hc0_2 hr0_3 rfl hc0_3 n6) ?_; rintro _ _ ⟨rfl, rfl⟩; refine At.run 1 rfl (At.f1 (At.f1 (At.f2 ?_))); exact At.of (g2 n5 j) ⟨rfl, rfl, rfl, rfl, rfl, rfl, rfl, trivial⟩
                 ··rcases bite j with ⟨d6, j⟩ | ⟨d6, j⟩
                   ··refine At.know (t := 85) rfl (nf d6) ?_
                     refine At.run 1 rfl (At.y (Y.load rfl rfl .z rfl rfl rfl) rfl rfl rfl ?_); obtain ⟨n7, n8, j⟩ := bbind j; refine At.call rfl Q72.callee rfl rfl rfl (Q72.spec f9 rfl f8 n8) ?_; rintro _ _ ⟨rfl, rfl⟩; refine At.run 2 rfl ?_; exact At.of (g1 (!n7) j) ⟨rfl, rfl, rfl, rfl, rfl, rfl, rfl, rfl, trivial⟩
                   ··refine At.know (t := 85) rfl (nt (bn d6)) ?_
                     refine At.run 5 rfl ?_; exact At.of (g1 true j) ⟨rfl, rfl, rfl, rfl, rfl, rfl, rfl, rfl, trivial⟩
               ··refine At.condF rfl (decide_eq_false d3) ?_
                 refine At.exit ?_; refine At.the ?_; refine At.the ?_; exact fun a w e hs => k1 () (bdn j f4) a w (e.sub ⟨rfl, rfl, trivial⟩) hs
           ·clear a4 c6; rintro c6 ⟨V, G⟩ a4; obtain ⟨n9, f_, o0, hf_, j⟩ := bit a4; clear a4; have j : (Q24.l0b J D p u V G).bind _ = some a3 := j; unfold Q24.l0b at j
            ·refine sR 1 rfl (nT (At.seq ?_)); rcases bite j with ⟨d7, j⟩ | ⟨d7, j⟩
             ··refine At.condT rfl (decide_eq_true d7) ?_
               refine At.skip (At.thn (At.seq ?_)); refine At.block ?_; refine At.seq (At.region ?_); obtain ⟨b8, j⟩ := bnone j; refine At.y (Y.ixRd hr0_2 rfl rfl rfl rfl rfl rfl rfl b8.1 b8.2) rfl rfl rfl (At.y (Y.ldFl hr0_2 rfl (q := 0) rfl rfl b8.1 b8.2 rfl rfl rfl) rfl rfl rfl ?_); refine At.alloc rfl rfl rfl (fun b9 => ?_); refine At.store rfl rfl rfl rfl .z rfl rfl rfl (.c (.c (.c .n))) ?_; refine nT (At.seq (At.seq (At.region (At.y (Y.load rfl rfl (.s .z) rfl rfl rfl) rfl rfl rfl (At.run 1 rfl (At.y (Y.load rfl rfl .z rfl rfl rfl) rfl rfl rfl ?_)))))); refine At.f2 ?_; obtain ⟨r0, o7, j⟩ := bbind j; refine At.call rfl Q83.callee rfl rfl rfl (Q83.spec hr0_1 rfl hc0_1 hr0_2 rfl hc0_2 hr0_3 rfl hc0_3 o7) ?_; rintro _ _ ⟨rfl, rfl⟩; refine At.run 2 rfl ?_; obtain ⟨o8, o9, r1, j⟩ := bjoin j; let T7 : HProp := pc b9 [i6 ((gt p G).From), i6 ((gt p G).Action), i6 ((gt p G).To)] 48; refine At.joinO 6 (X := Bool) (fun b3 => [(1, bp C), (3, bp U), (4, .int .u8 V), (6, bp b9), (37, .slice A0_2 p.length c0_2), (38, i6 (p.length : Int)), (39, i6 G), (54, .bool b3)]) (fun b3 => T4 :: T7 :: T5 :: Fr) (fun b3 => o8 (.inl b3) = some a3) ?_ (fun g3 => ?_)
               ·rintro b3 j; have j := (o9 _).symm.trans j
                ·refine At.run 1 rfl ?_; obtain ⟨p0, p1, r2, j⟩ := bjoin j; refine At.joinO 4 (X := Bool) (fun b4 => [(1, bp C), (3, bp U), (4, .int .u8 V), (6, bp b9), (37, .slice A0_2 p.length c0_2), (38, i6 (p.length : Int)), (39, i6 G), (59, .bool b4)]) (fun b4 => T4 :: T7 :: T5 :: Fr) (fun b4 => p0 (.inl b4) = some a3) ?_ (fun g4 => ?_)
                 ·rintro b4 j; have j := (p1 _).symm.trans j
                  ·refine At.run 1 rfl ?_; obtain ⟨p2, p3, r3, j⟩ := bjoin j; refine At.joinO 7 (X := Bool) (fun b5 => [(1, bp C), (3, bp U), (4, .int .u8 V), (6, bp b9), (37, .slice A0_2 p.length c0_2), (38, i6 (p.length : Int)), (39, i6 G), (67, .bool b5)]) (fun b5 => T4 :: T7 :: T5 :: Fr) (fun b5 => p2 (.inl b5) = some a3) ?_ (fun g5 => ?_)
                   ·rintro b5 j; have j := (p3 _).symm.trans j
                    ·refine nT ?_; rcases bite j with ⟨d8, j⟩ | ⟨d8, j⟩
                     ··refine At.condT rfl d8 ?_
                       refine sR 1 rfl (nT (At.ret (At.thr ?_))); refine At.ibr ?_; refine At.thr ?_; have j := bupL h6 f3 j; refine At.thr ?_; refine At.ibr ?_; refine At.thr (At.drop .z (At.drop .z (At.drop .z ?_))); cases bret j; exact At.res (.inl rfl) rfl rfl ⟨rfl, rfl⟩
                     ··refine At.condF rfl (bn d8) ?_
                       refine At.skip (At.thn (At.region (At.run 2 rfl (At.y (Y.load rfl rfl (.s .z) rfl rfl rfl) rfl rfl rfl ?_)))); obtain ⟨p4, j⟩ := bnone j; refine At.y (Y.shl rfl rfl p4) rfl rfl rfl (At.run 2 rfl (At.nil ?_)); refine At.ibn ?_; refine At.thn (At.region (At.run 2 rfl (At.nil (At.drop (.s .z) (At.f1 ?_))))); have j := bnx hf_ j; exact fun a w e hs => ⟨n9, (bor .u8 V (Bw.shl .u8 1 ((gt p G).Action)), IntKind.i64.wrap (G + 1)), o0, j, e.sub ⟨rfl, rfl, rfl, rfl, rfl, rfl, trivial⟩, hs⟩
                   ··rcases bite j with ⟨d9, j⟩ | ⟨d9, j⟩
                     ··refine At.know (t := 60) rfl d9 ?_
                       refine At.run 7 rfl ?_; exact At.of (g5 true j) ⟨rfl, rfl, rfl, rfl, rfl, rfl, rfl, rfl, trivial⟩
                     ··refine At.know (t := 60) rfl (bn d9) ?_
                       refine At.run 1 rfl (At.y (Y.load rfl rfl (.s .z) rfl rfl rfl) rfl rfl rfl (At.run 1 rfl (At.y (Y.load rfl rfl .z rfl rfl rfl) rfl rfl rfl (At.run 3 rfl ?_)))); exact At.of (g5 (decide ((D.length : Int) ≤ (gt p G).Action)) j) ⟨rfl, rfl, rfl, rfl, rfl, rfl, rfl, rfl, trivial⟩
                 ··rcases bite j with ⟨e1, j⟩ | ⟨e1, j⟩
                   ··refine At.know (t := 55) rfl e1 ?_
                     refine At.run 4 rfl ?_; exact At.of (g4 true j) ⟨rfl, rfl, rfl, rfl, rfl, rfl, rfl, rfl, trivial⟩
                   ··refine At.know (t := 55) rfl (bn e1) ?_
                     refine At.run 1 rfl (At.y (Y.load rfl rfl (.s .z) rfl rfl rfl) rfl rfl rfl (At.run 2 rfl ?_)); exact At.of (g4 (decide ((gt p G).Action < 0)) j) ⟨rfl, rfl, rfl, rfl, rfl, rfl, rfl, rfl, trivial⟩
               ··rcases bite j with ⟨e2, j⟩ | ⟨e2, j⟩
                 ··refine At.know (t := 48) rfl (nf e2) ?_
                   refine At.y (Y.load rfl rfl (.s (.s .z)) rfl rfl rfl) rfl rfl rfl (At.run 1 rfl (At.y (Y.load rfl rfl (.s .z) rfl rfl rfl) rfl rfl rfl ?_)); obtain ⟨p5, p6, j⟩ := bbind j; refine At.call rfl Q83.callee rfl rfl rfl (Q83.spec hr0_1 rfl hc0_1 hr0_2 rfl hc0_2 hr0_3 rfl hc0_3 p6) ?_; rintro _ _ ⟨rfl, rfl⟩; refine At.run 2 rfl ?_; exact At.of (g3 (!p5) j) ⟨rfl, rfl, rfl, rfl, rfl, rfl, rfl, rfl, trivial⟩
                 ··refine At.know (t := 48) rfl (nt (bn e2)) ?_
                   refine At.run 6 rfl ?_; exact At.of (g3 true j) ⟨rfl, rfl, rfl, rfl, rfl, rfl, rfl, rfl, trivial⟩
             ··refine At.condF rfl (decide_eq_false d7) ?_
               refine At.exit ?_; refine At.the ?_; refine At.the ?_; exact fun a w e hs => h7 V (bdn j f3) a w (e.sub ⟨rfl, rfl, rfl, trivial⟩) hs
       ··rcases bite j with ⟨e3, j⟩ | ⟨e3, j⟩
         ··refine At.know (t := 29) rfl e3 ?_
           refine At.run 5 rfl ?_; exact At.of (f0 true j) ⟨rfl, rfl, trivial⟩
         ··refine At.know (t := 29) rfl (bn e3) ?_
           refine At.run 1 rfl (At.y (Y.load rfl rfl .z rfl rfl rfl) rfl rfl rfl (At.run 3 rfl ?_)); exact At.of (f0 (decide (200 < (p.length : Int))) j) ⟨rfl, rfl, trivial⟩
     ··rcases bite j with ⟨e4, j⟩ | ⟨e4, j⟩
       ··refine At.know (t := 23) rfl e4 ?_
         refine At.run 5 rfl ?_; exact At.of (e9 true j) ⟨rfl, rfl, trivial⟩
       ··refine At.know (t := 23) rfl (bn e4) ?_
         refine At.run 1 rfl (At.y (Y.load rfl rfl .z rfl rfl rfl) rfl rfl rfl (At.run 3 rfl ?_)); exact At.of (e9 (decide (8 < (u.length : Int))) j) ⟨rfl, rfl, trivial⟩
   ··rcases bite j with ⟨e5, j⟩ | ⟨e5, j⟩
     ··refine At.know (t := 17) rfl e5 ?_
       refine At.run 5 rfl ?_; exact At.of (e8 true j) ⟨rfl, rfl, trivial⟩
     ··refine At.know (t := 17) rfl (bn e5) ?_
       refine At.run 1 rfl (At.y (Y.load rfl rfl .z rfl rfl rfl) rfl rfl rfl (At.run 3 rfl ?_)); exact At.of (e8 (decide (8 < (D.length : Int))) j) ⟨rfl, rfl, trivial⟩
 ··rcases bite j with ⟨e6, j⟩ | ⟨e6, j⟩
   ··refine At.know (t := 12) rfl (decide_eq_true e6) ?_
     refine At.run 4 rfl ?_; exact At.of (e7 true j) ⟨rfl, rfl, trivial⟩
   ··refine At.know (t := 12) rfl (decide_eq_false e6) ?_
     refine At.run 1 rfl (At.y (Y.load rfl rfl .z rfl rfl rfl) rfl rfl rfl (At.run 2 rfl ?_)); exact At.of (e7 (decide (24 < J)) j) ⟨rfl, rfl, trivial⟩






end Go.Bw
namespace Go.Bw
open Go Go.RowKit

theorem TypeOk.map {P : Program} {t : Nat} {i : TI} (h : TypeOk P t i) {k e : Nat} (hk : i.k = .map k e) : P.underlying t = some (.map k e) := by
 obtain ⟨d, hd, hk'⟩ := h.under; rw [hk] at hk'; cases d <;> simp [tk] at hk'; rw [hk'.1, hk'.2] at hd; exact hd
def Fl.ov {α : Type} (F : Fl α) (x : α) : Value := (F.enc x).headD .nilFunc
def Fl.av {α : Type} (F : Fl α) (x : α) : Value := .agg (F.enc x).toArray
section
variable {κ ν : Type}
def mget [DecidableEq κ] : List (κ × ν) → κ → Option ν
 | [], _ => none
 | p :: r, k => if p.1 = k then some p.2 else mget r k
def mset [DecidableEq κ] : List (κ × ν) → κ → ν → List (κ × ν)
 | [], k, v => [(k, v)]
 | p :: r, k, v => if p.1 = k then (k, v) :: r else p :: mset r k v
structure KeyOk (P : Program) (t : Nat) (kv : κ → Value) [DecidableEq κ] : Prop where
 chk : ∀ k w em, (Instr.checkKey em 10000 t (kv k)).run P w = .ok () w
 find : ∀ (es : List MapEntry) (ks : List κ) k w, es.map (·.key) = ks.map kv → (Instr.findKey t (kv k) es).run P w = .ok ((ks.findIdx? (fun a => decide (a = k))).bind fun i => es[i]?.map fun e => (i, e.val)) w
 same : ∀ k, Instr.sameBits 10000 (kv k) (kv k) = true
def mapo (kv : κ → Value) (vv : ν → Value) (b : Nat) (kvs : List (κ × ν)) : HProp := fun h =>
 ∃ (es : List MapEntry) (clock : Nat), h b = some (.map es.toArray clock) ∧ es.map (fun e => (e.key, e.val)) = kvs.map (fun p => (kv p.1, vv p.2)) ∧ es.Pairwise (fun x y => x.born < y.born) ∧ ∀ e ∈ es, e.born < clock
theorem Q249 (s : Bs) : ∀ (es : List MapEntry) (ks : List Bs) (i : Nat), es.map (·.key) = ks.map (fun x => Value.string ⟨x.toArray⟩) →
 Instr.findNow .string (.string ⟨s.toArray⟩) es i = some ((ks.findIdx? (fun a => decide (a = s))).bind fun j => es[j]?.map fun e => (i + j, e.val))
 | [], [], _, _ => rfl
 | [], _ :: _, _, h => by simp at h
 | _ :: _, [], _, h => by simp at h
 | e :: es, k :: ks, i, h => by
  simp only [List.map_cons, List.cons.injEq] at h
  unfold Instr.findNow
  have hb : ((ByteArray.mk s.toArray) == (ByteArray.mk k.toArray)) = decide (k = s) := by
   rw [Q195]
   by_cases hks : k = s
   ·subst hks; rw [decide_eq_true rfl]; exact Q164.2 rfl
   ·rw [decide_eq_false hks]
    exact Bool.eq_false_iff.2 fun hc => hks (Q164.1 hc).symm
  rw [h.1]
  simp only [Instr.sameNow, hb]
  rw [List.findIdx?_cons]
  by_cases hks : k = s
  ·rw [decide_eq_true hks]
   simp
  ·rw [decide_eq_false hks]
   simp only [Bool.false_eq_true, if_false]
   rw [Q249 s es ks (i + 1) h.2]
   cases hf : ks.findIdx? (fun a => decide (a = s)) with
   | none => rfl
   | some j =>
    simp
    congr 1
    funext e
    congr 1
    omega
theorem KeyOk.str {P : Program} [Tys P] {t : Nat} {i : TI} (hi : ti P t = some i) (hk : i.k = .string) : KeyOk P t Fl.bs.ov := by
 have hu := (Q13 hi).string hk
 refine ⟨fun k w em => ?_, fun es ks k w h => ?_, fun k => ?_⟩
 ·exact MapKept.run_checkKey (k := .string ⟨k.toArray⟩) hu (by simp [MapKept.IsKey]) em 9999
 ·have := Q249 k es ks 0 h
  simp only [Nat.zero_add] at this
  exact MapKept.run_findKey (k := .string ⟨k.toArray⟩) hu this
 ·show Instr.sameBits (9999 + 1) (.string ⟨k.toArray⟩) (.string ⟨k.toArray⟩) = true
  simp only [Instr.sameBits]
  rw [Q195]
  exact Q164.2 rfl
theorem Q261 [DecidableEq κ] {kv : κ → Value} {vv : ν → Value} : ∀ {es : List MapEntry} {kvs : List (κ × ν)} {k : κ}, es.map (fun e => (e.key, e.val)) = kvs.map (fun p => (kv p.1, vv p.2)) →
 (((kvs.map (·.1)).findIdx? (fun a => decide (a = k))).bind fun i => es[i]?.map fun e => (i, e.val)).map (·.2) = (mget kvs k).map vv
 | [], [], _, _ => rfl
 | [], _ :: _, _, h => by simp at h
 | _ :: _, [], _, h => by simp at h
 | e :: es, p :: kvs, k, h => by
  simp only [List.map_cons, List.cons.injEq, Prod.mk.injEq] at h
  rw [List.map_cons, List.findIdx?_cons]
  unfold mget
  by_cases hk : p.1 = k
  ·rw [if_pos hk, decide_eq_true hk]
   simp [h.1.2]
  ·rw [if_neg hk, decide_eq_false hk]
   simp only [Bool.false_eq_true, if_false]
   rw [← Q261 (k := k) h.2]
   cases (kvs.map (·.1)).findIdx? (fun a => decide (a = k)) with
   | none => rfl
   | some j => simp; rfl
theorem Q225 {kv : κ → Value} {vv : ν → Value} {es : List MapEntry} {kvs : List (κ × ν)} (h : es.map (fun e => (e.key, e.val)) = kvs.map (fun p => (kv p.1, vv p.2))) : es.map (·.key) = (kvs.map (·.1)).map kv := by
 have := congrArg (List.map (·.1)) h
 simpa [List.map_map, Function.comp_def] using this
end
section
variable {P : Program} [Tys P] {os : List Oper} {Q : Exit → Act → World → Prop} {rest : List Oper} {n : Nat} {ds : List Deferred} {R : Res} {env : List (Nat × Value)} {l l' : List HProp}
variable {d ty : Nat} {pos : String} {af : Array Edge} {g : Option (Nat × Bool)} {κ ν : Type} [DecidableEq κ] {kv : κ → Value} {vv : ν → Value} {kvs : List (κ × ν)} {b t kt et : Nat} {K : Act → World → Prop} {dd : Option Nat}
theorem Q191 {w : World} (hs : sat R (mapo kv vv b kvs :: l) w) : ∃ (es : List MapEntry) (clock : Nat), w.heap[b]? = some (.map es.toArray clock) ∧ es.map (fun e => (e.key, e.val)) = kvs.map (fun p => (kv p.1, vv p.2)) ∧ es.Pairwise (fun x y => x.born < y.born) ∧ ∀ e ∈ es, e.born < clock := by
 obtain ⟨h1, ⟨es, clock, a, r⟩, s⟩ := hs.head
 exact ⟨es, clock, s _ _ a, r⟩
theorem At.makeMap (kv : κ → Value) (vv : ν → Value) (hg : grd os env g = some true) (hd : Nat.blt d n = true)
 (h : ∀ b, At n ds R ((d, .map (some b)) :: env) (mapo kv vv b [] :: l) (wpList P os.toArray Q rest)) :
 At n ds R env l (wpList P os.toArray Q (⟨some d, .makeMap t none, ty, pos, af, g⟩ :: rest)) := Q88 hg rfl hd fun a w e hs => by
 refine ⟨_, _, _, ?_, (hs.alloc (.map #[] 0)).imp fun h p => ⟨[], 0, p, rfl, List.Pairwise.nil, fun e he => by cases he⟩, h _⟩
 simp [execOp, Instr.makeMap]
theorem Q275 {w : World} {ii : TI} {z : ν} (hi : ti P t = some ii) (hk : ii.k = .map kt et) (ko : KeyOk P kt kv) (hz : ((P.info? et).bind fun x => x.zero) = some (vv z)) (hs : sat R (mapo kv vv b kvs :: l) w) (k : κ) (ok : Bool) :
 (Instr.lookup t (.map (some b)) (kv k) ok).run P w = .ok (if ok then .tuple #[vv ((mget kvs k).getD z), .bool (mget kvs k).isSome] else vv ((mget kvs k).getD z)) w := by
 obtain ⟨es, clock, hb, hm, _⟩ := Q191 hs
 have hu := (Q13 hi).map hk
 have hf := ko.find es (kvs.map (·.1)) k w (Q225 hm)
 have hg := Q261 (k := k) hm
 have hgo : (getObj b).run P w = .ok (.map es.toArray clock) w := MapKept.run_getObj_map hb
 simp only [Instr.lookup, Sem.run_bind, run_underlying hu, Result.andThen, hgo, Sem.run_pure, ko.chk, hf]
 cases hr : ((kvs.map (·.1)).findIdx? (fun a => decide (a = k))).bind fun i => es[i]?.map fun e => (i, e.val) with
 | none =>
  rw [hr] at hg
  have hgn : mget kvs k = none := by cases hq : mget kvs k with | none => rfl | some v => rw [hq] at hg; cases hg
  obtain ⟨x, hx, hx2⟩ := Option.bind_eq_some_iff.1 hz
  rw [hgn]
  cases ok <;> simp [zeroValue, typeInfo, hx, hx2]
 | some p =>
  obtain ⟨i, v⟩ := p
  rw [hr] at hg
  cases hq : mget kvs k with
  | none => rw [hq] at hg; cases hg
  | some v' =>
   rw [hq] at hg
   have hv : v = vv v' := by simpa using hg
   subst hv
   cases ok <;> simp
theorem Y.lookup {x y : Operand} {k : κ} {v : Value} {ii : TI} {z : ν} (f : Frt l (mapo kv vv b kvs) l') (hi : ti P t = some ii) (hk : ii.k = .map kt et) (ko : KeyOk P kt kv) (hz : ((P.info? et).bind fun x => x.zero) = some (vv z))
 (hx : ev env x = some (.map (some b))) (hy : ev env y = some v) (hv : v = kv k) :
 Y P n ds R env l ⟨dd, .lookup t x y false, ty, pos, af, g⟩ (vv ((mget kvs k).getD z)) := fun a w e hs => by
 subst hv
 have := Q275 hi hk ko hz (hs.frt f) k false
 simp only [execOp, e.ev hx, e.ev hy, Sem.run_bind, this, Result.andThen, Sem.run_pure]
 rfl
theorem Y.lookupOk {x y : Operand} {k : κ} {v : Value} {ii : TI} {z : ν} (f : Frt l (mapo kv vv b kvs) l') (hi : ti P t = some ii) (hk : ii.k = .map kt et) (ko : KeyOk P kt kv) (hz : ((P.info? et).bind fun x => x.zero) = some (vv z))
 (hx : ev env x = some (.map (some b))) (hy : ev env y = some v) (hv : v = kv k) :
 Y P n ds R env l ⟨dd, .lookup t x y true, ty, pos, af, g⟩ (.tuple #[vv ((mget kvs k).getD z), .bool (mget kvs k).isSome]) := fun a w e hs => by
 subst hv
 have := Q275 hi hk ko hz (hs.frt f) k true
 simp only [execOp, e.ev hx, e.ev hy, Sem.run_bind, this, Result.andThen, Sem.run_pure]
 rfl
theorem Q199 {es : List MapEntry} (h : es.map (fun e => (e.key, e.val)) = kvs.map (fun p => (kv p.1, vv p.2))) : es.length = kvs.length := by
 have := congrArg List.length h
 simpa using this
theorem Y.lenMap {x : Operand} {ii : TI} (f : Frt l (mapo kv vv b kvs) l') (hi : ti P t = some ii) (hk : ii.k = .map kt et) (hx : ev env x = some (.map (some b))) :
 Y P n ds R env l ⟨dd, .call ⟨.builtin .len, #[x], #[t]⟩, ty, pos, af, g⟩ (.int .i64 (kvs.length : Int)) := fun a w e hs => by
 obtain ⟨es, clock, hb, hm, _⟩ := Q191 (hs.frt f)
 have hu := (Q13 hi).map hk
 have hgo : (getObj b).run P w = .ok (.map es.toArray clock) w := MapKept.run_getObj_map hb
 simp [execOp, resolve, invoke, builtin, Builtin.len_, e.ev hx, run_underlying hu, hgo, Result.andThen, goInt, Q199 hm]
theorem set_mset {es : List MapEntry} {kvs : List (κ × ν)} {k : κ} {v : ν} (h : es.map (fun e => (e.key, e.val)) = kvs.map (fun p => (kv p.1, vv p.2))) :
 (match ((kvs.map (·.1)).findIdx? (fun a => decide (a = k))).bind fun i => es[i]?.map fun e => (i, e.val) with
  | some (i, _) => (es.modify i fun e => { e with key := kv k, val := vv v }).map (fun e => (e.key, e.val))
  | none => es.map (fun e => (e.key, e.val)) ++ [(kv k, vv v)]) = (mset kvs k v).map (fun p => (kv p.1, vv p.2)) := by
 induction kvs generalizing es with
 | nil =>
  cases es with
  | nil => rfl
  | cons e es => simp at h
 | cons p kvs ih =>
  cases es with
  | nil => simp at h
  | cons e es =>
   simp only [List.map_cons, List.cons.injEq, Prod.mk.injEq] at h
   rw [List.map_cons, List.findIdx?_cons]
   unfold mset
   by_cases hk : p.1 = k
   ·rw [if_pos hk, decide_eq_true hk]
    simp [h.2]
   ·rw [if_neg hk, decide_eq_false hk]
    simp only [Bool.false_eq_true, if_false]
    have := ih h.2
    cases hf : (kvs.map (·.1)).findIdx? (fun a => decide (a = k)) with
    | none =>
     rw [hf] at this
     simp at this ⊢
     exact ⟨h.1, this⟩
    | some j =>
     rw [hf] at this
     simp at this ⊢
     have hj : j < es.length := by
      have := (List.findIdx?_eq_some_iff_getElem.1 hf).1
      simp at this
      have h3 := Q199 h.2
      omega
     rw [List.getElem?_eq_getElem hj] at this ⊢
     simp at this ⊢
     exact ⟨h.1, this⟩
theorem Q281 {es : List MapEntry} {i : Nat} {f : MapEntry → MapEntry} (hf : ∀ e, (f e).born = e.born) : (es.modify i f).map (·.born) = es.map (·.born) := by
 apply List.ext_getElem?
 intro j
 rw [List.getElem?_map, List.getElem?_map, List.getElem?_modify]
 cases es[j]? with
 | none => rfl
 | some e => by_cases h : i = j <;> simp [h, hf]
theorem At.mapUpdate {x y z : Operand} {k : κ} {v : ν} {u u' : Value} {ii : TI} (hg : grd os env g = some true) (f : Frt l (mapo kv vv b kvs) l') (hi : ti P t = some ii) (hk : ii.k = .map kt et) (ko : KeyOk P kt kv)
 (hx : ev env x = some (.map (some b))) (hy : ev env y = some u) (hu : u = kv k) (hz : ev env z = some u') (hu' : u' = vv v)
 (h : At n ds R env (mapo kv vv b (mset kvs k v) :: l') (wpList P os.toArray Q rest)) :
 At n ds R env l (wpList P os.toArray Q (⟨none, .mapUpdate t x y z, ty, pos, af, g⟩ :: rest)) := op_sk hg rfl fun a w e hs => by
 subst hu hu'
 have hs1 := hs.frt f
 obtain ⟨es, clock, hb, hm, hbn, hcl⟩ := Q191 hs1
 have hun := (Q13 hi).map hk
 have hf := ko.find es (kvs.map (·.1)) k w (Q225 hm)
 have hset := set_mset (k := k) (v := v) hm
 have hgo : (getObj b).run P w = .ok (.map es.toArray clock) w := MapKept.run_getObj_map hb
 have hso : ∀ o, (setObj b o).run P w = .ok () { w with heap := w.heap.setIfInBounds b o } := fun o => MapKept.run_setObj_map o hb
 have hlt : b < w.heap.size := (Array.getElem?_eq_some_iff.1 hb).1
 have fin : ∀ (es' : List MapEntry) (clock' : Nat), es'.map (fun e => (e.key, e.val)) = (mset kvs k v).map (fun p => (kv p.1, vv p.2)) → es'.Pairwise (fun x y => x.born < y.born) → (∀ e ∈ es', e.born < clock') →
  sat R (mapo kv vv b (mset kvs k v) :: l') { w with heap := w.heap.setIfInBounds b (.map es'.toArray clock') } := fun es' clock' h1 h2 h3 => by
  obtain ⟨hh, ⟨_, _, hp, _⟩, s, kk⟩ := hs1.upd
  refine kk _ (single b (.map es'.toArray clock')) _ ⟨es', clock', Q216 _ _, h1, h2, h3⟩ rfl rfl rfl (Nat.le_refl _) (fun x o hx hn => ?_) (fun x o hx => ?_) (fun x o hx => ?_)
  ·have hne : b ≠ x := fun hxb => by subst hxb; rw [hp] at hn; cases hn
   show (w.heap.setIfInBounds b _)[x]? = _
   rw [Array.getElem?_setIfInBounds_ne hne]; exact hx
  ·obtain ⟨rfl, rfl⟩ := Q119 hx
   show (w.heap.setIfInBounds x _)[x]? = _
   simp [hlt]
  ·obtain ⟨rfl, rfl⟩ := Q119 hx; exact .inl ⟨_, hp⟩
 cases hr : ((kvs.map (·.1)).findIdx? (fun a => decide (a = k))).bind fun i => es[i]?.map fun e => (i, e.val) with
 | none =>
  rw [hr] at hset hf
  refine ⟨_, _, ?_, fin (es ++ [{ key := kv k, val := vv v, born := clock }]) (clock + 1) (by simpa using hset) ?_ ?_, h⟩
  ·simp [execOp, e.ev hx, e.ev hy, e.ev hz, Instr.mapUpdate, run_underlying hun, Result.andThen, hgo, ko.chk, hf, hso]
  ·rw [List.pairwise_append]
   exact ⟨hbn, by simp, fun x hx y hy => by simp at hy; subst hy; exact hcl x hx⟩
  ·intro e he
   rcases List.mem_append.1 he with he | he
   ·have := hcl e he; omega
   ·simp at he; subst he; exact Nat.lt_succ_self _
 | some p =>
  obtain ⟨i, v0⟩ := p
  rw [hr] at hset hf
  obtain ⟨j, hj, hj2⟩ := Option.bind_eq_some_iff.1 hr
  obtain ⟨e1, he1, he2⟩ := Option.map_eq_some_iff.1 hj2
  simp only [Prod.mk.injEq] at he2
  obtain ⟨rfl, rfl⟩ := he2
  have hkey : e1.key = kv k := by
   have hq := congrArg (fun l => l[j]?) (Q225 hm)
   simp only [List.getElem?_map, he1, Option.map_some] at hq
   obtain ⟨hl, hd, _⟩ := List.findIdx?_eq_some_iff_getElem.1 hj
   rw [← List.getElem?_map, List.getElem?_eq_getElem hl] at hq
   have hd' := of_decide_eq_true hd
   rw [hd'] at hq
   simpa using hq
  have hst : (Instr.keyThatStays (kv k) (kv k)).run P w = .ok (kv k) w := by simp [Instr.keyThatStays, ko.same]
  refine ⟨_, _, ?_, fin (es.modify j fun e => { e with key := kv k, val := vv v }) clock hset ?_ ?_, h⟩
  ·simp only [execOp, e.ev hx, e.ev hy, e.ev hz, Instr.mapUpdate, Sem.run_bind, run_underlying hun, Result.andThen, hgo, ko.chk, hf, List.getElem?_toArray, he1, Option.map_some, hkey, Option.getD_some, hst, hso, Sem.run_pure]
   simp
  ·have := Q281 (es := es) (i := j) (f := fun e => { e with key := kv k, val := vv v }) (fun _ => rfl)
   refine (List.pairwise_map (f := fun e : MapEntry => e.born) (R := fun x y : Nat => x < y)).1 ?_
   rw [this]
   exact List.pairwise_map.2 hbn
  ·intro e he
   have hmem : e.born ∈ (es.modify j fun e => { e with key := kv k, val := vv v }).map (·.born) := List.mem_map_of_mem he
   rw [Q281 (es := es) (i := j) (f := fun e => { e with key := kv k, val := vv v }) (fun _ => rfl)] at hmem
   obtain ⟨e', he', hb'⟩ := List.mem_map.1 hmem
   rw [← hb']
   exact hcl e' he'
theorem mapo_up {h h' : PHeap} (o : mapo kv vv b kvs h) (s : Sub h h') : mapo kv vv b kvs h' := let ⟨es, c, a, r⟩ := o; ⟨es, c, s _ _ a, r⟩
def Ow.mp (kv : κ → Value) (vv : ν → Value) : Ow (List (κ × ν)) := ⟨1, fun kvs cs h => ∃ b, cs = [.map (some b)] ∧ mapo kv vv b kvs h, fun ⟨_, h, _⟩ => by rw [h]; rfl, fun ⟨_, h, _⟩ u hu => by rw [h] at hu; simp at hu; subst hu; rfl, by decide,
 ⟨1, fun H kvs cs => ∃ b, cs = [.map (some b)] ∧ mapo kv vv b kvs H, fun ⟨_, h, _⟩ => by rw [h]; rfl, fun s ⟨b, h, o⟩ => ⟨b, h, let ⟨es, c, a, r⟩ := o; ⟨es, c, s _ _ a, r⟩⟩, by decide⟩, rfl, fun ⟨b, h, o⟩ s => ⟨b, h, let ⟨es, c, a, r⟩ := o; ⟨es, c, s _ _ a, r⟩⟩⟩
theorem Ent.mp : Ent [mapo kv vv b kvs] ((Ow.mp kv vv).own kvs [.map (some b)]) := fun h ⟨h1, _, a, _, _, s, _⟩ => ⟨b, rfl, mapo_up a s⟩
theorem At.ownMp {cs : List Value} (f : Frt l ((Ow.mp kv vv).own kvs cs) l') (h : ∀ b, cs = [.map (some b)] → At n ds R env (mapo kv vv b kvs :: l') K) : At n ds R env l K := fun a w e0 hs => by
 obtain ⟨ok, k, ⟨h1, h2, ⟨b, e1, r⟩, s⟩, dR⟩ := hs.frt f
 exact h b e1 a w e0 ⟨ok, k, ⟨h1, h2, r, s⟩, dR⟩
end
end Go.Bw
namespace Go.Bw
open Go Go.RowKit

theorem Q277 (s : Bs) : ((ByteArray.mk s.toArray) == (ByteArray.mk s.toArray)) = true := by rw [Q195]; exact Q164.2 rfl
section
variable {P : Program} [Tys P] {κ : Type} [DecidableEq κ] {w : World} {t : Nat}
theorem Q184 {xs : List Value} (em : Bool) : ∀ {fl : List Field} {fs : List (Nat × Nat)} {r : Bool}, fl.map (fun f => (f.type, f.offset)) = fs → eqcs P fs xs xs = some r →
 (do for f in fl do if f.name ≠ "_" then Instr.checkKey em 9999 f.type (← part f.type xs.toArray f.offset) : Sem Unit).run P w = .ok () w
 | [], _, r, rfl, h => by simp
 | f :: fl, _, r, rfl, h => by
  simp only [List.map_cons, eqcs] at h
  split at h
  ·rename_i j hj
   split at h
   ·rename_i hk hx hy
    split at h
    ·obtain ⟨q, hq, rfl⟩ := Option.map_eq_some_iff.1 h
     have hu := (Q13 hj).int hk
     have ih := Q184 em (fl := fl) rfl hq
     have hc : ∀ k a, (Instr.checkKey em 9999 f.type (.int k a)).run P w = .ok () w := fun k a => by
      show (Instr.checkKey em (9998 + 1) f.type _).run P w = _
      rw [Instr.checkKey]
      simp [run_underlying hu, Result.andThen]
     by_cases hn : f.name = "_"
     ·simpa [hn, Result.andThen] using ih
     ·simpa [hn, Q113 hx, hc, Result.andThen] using ih
    ·cases h
   ·rename_i hk hx hy
    obtain ⟨q, hq, rfl⟩ := Option.map_eq_some_iff.1 h
    have hu := (Q13 hj).bool hk
    have ih := Q184 em (fl := fl) rfl hq
    have hc : ∀ a, (Instr.checkKey em 9999 f.type (.bool a)).run P w = .ok () w := fun a => by
     show (Instr.checkKey em (9998 + 1) f.type _).run P w = _
     rw [Instr.checkKey]
     simp [run_underlying hu, Result.andThen]
    by_cases hn : f.name = "_"
    ·simpa [hn, Result.andThen] using ih
    ·simpa [hn, Q113 hx, hc, Result.andThen] using ih
   ·rename_i hk hx hy
    obtain ⟨q, hq, rfl⟩ := Option.map_eq_some_iff.1 h
    have hu := (Q13 hj).string hk
    have ih := Q184 em (fl := fl) rfl hq
    have hc : ∀ a, (Instr.checkKey em 9999 f.type (.string a)).run P w = .ok () w := fun a => by
     show (Instr.checkKey em (9998 + 1) f.type _).run P w = _
     rw [Instr.checkKey]
     simp [run_underlying hu, Result.andThen]
    by_cases hn : f.name = "_"
    ·simpa [hn, Result.andThen] using ih
    ·simpa [hn, Q113 hx, hc, Result.andThen] using ih
   ·cases h
  ·cases h
theorem Q268 {kv : κ → Value} (k : κ) (he : ∀ a, (Op.equal t (kv k) (kv a)).run P w = .ok (decide (a = k)) w) : ∀ (es : List MapEntry) (ks : List κ) (i : Nat), es.map (·.key) = ks.map kv →
 (Instr.findAsking t (kv k) es i).run P w = .ok ((ks.findIdx? (fun a => decide (a = k))).bind fun j => es[j]?.map fun e => (i + j, e.val)) w
 | [], [], i, _ => by simp [Instr.findAsking]
 | [], _ :: _, _, h => by simp at h
 | _ :: _, [], _, h => by simp at h
 | e :: es, a :: ks, i, h => by
  simp only [List.map_cons, List.cons.injEq] at h
  rw [Instr.findAsking, h.1]
  simp only [Sem.run_bind, he, Result.andThen]
  rw [List.findIdx?_cons]
  by_cases hk : a = k
  ·simp [hk]
  ·simp only [hk, decide_false, Bool.false_eq_true, if_false]
   rw [Q268 k he es ks (i + 1) h.2]
   cases hf : ks.findIdx? (fun a => decide (a = k)) with
   | none => rfl
   | some j =>
    simp
    congr 1
    funext e
    congr 1
    omega
theorem Q303 {kv : κ → Value} {fl : Array Field} (hu : P.underlying t = some (.struct fl)) (k : κ) (he : ∀ a, (Op.equal t (kv k) (kv a)).run P w = .ok (decide (a = k)) w) (es : List MapEntry) (ks : List κ) (h : es.map (·.key) = ks.map kv) :
 (Instr.findKey t (kv k) es).run P w = .ok ((ks.findIdx? (fun a => decide (a = k))).bind fun j => es[j]?.map fun e => (j, e.val)) w := by
 unfold Instr.findKey
 simp only [Sem.run_bind, run_underlying hu, Result.andThen]
 cases es with
 | nil =>
  cases ks with
  | nil => simp [Instr.findNow]
  | cons a ks => simp at h
 | cons e es =>
  have : Instr.findNow (.struct fl) (kv k) (e :: es) 0 = none := by simp [Instr.findNow, Instr.sameNow]
  rw [this]
  have := Q268 (P := P) (w := w) (t := t) k he (e :: es) ks 0 h
  simpa using this
theorem KeyOk.st {F : Fl κ} {fs : List (Nat × Nat)} {ii : TI} (hi : ti P t = some ii) (hk : ii.k = .struct fs) (hn : named P t = true) (hp : P.stoodInHeld t = false)
 (he : ∀ x y : κ, eqcs P fs (F.enc x) (F.enc y) = some (decide (x = y))) (hs : ∀ x : κ, ((F.enc x).zip (F.enc x)).all (fun p => Instr.sameBits 9999 p.1 p.2) = true) : KeyOk P t F.av := by
 obtain ⟨fl, hu, hm⟩ := (Q13 hi).struct hk
 refine ⟨fun k w em => ?_, fun es ks k w h => ?_, fun k => ?_⟩
 ·show (Instr.checkKey em (9999 + 1) t (.agg (F.enc k).toArray)).run P w = _
  rw [Instr.checkKey]
  have := Q184 (P := P) (w := w) em hm (he k k)
  simp only [Sem.run_bind, run_underlying hu, Result.andThen]
  rw [← Array.forIn_toList]
  simp [Result.andThen] at this ⊢
  rw [this]
 ·refine Q303 hu k (fun a => ?_) es ks h
  rw [show decide (a = k) = decide (k = a) from decide_eq_decide.2 eq_comm]
  exact Q211 hi hk hn hp (he k a)
 ·show Instr.sameBits (9999 + 1) (.agg (F.enc k).toArray) (.agg (F.enc k).toArray) = true
  simp only [Instr.sameBits]
  simpa using hs k
end
end Go.Bw
namespace Go.Bw
open Go Go.RowKit Go.Proofs
variable {R : Res} {Fr : List HProp} {A0 A0_1 A0_2 A0_3 : Option Addr} {n0 c0 n0_1 c0_1 n0_2 c0_2 n0_3 c0_3 : Nat}
structure Q4 where
 c0 : Int
 c1 : Int
 c2 : Int
 c3 : Int
deriving Inhabited, DecidableEq
def Q4.fl : Fl Q4 := ⟨4, fun x => [.int .u64 x.c0, .int .u64 x.c1, .int .u64 x.c2, .int .u64 x.c3], fun _ => rfl, fun x u hu => by simp at hu; rcases hu with rfl | rfl | rfl | rfl <;> rfl, by decide⟩
structure Q9 where
 from_ : Int
 action : Bs
deriving Inhabited, DecidableEq
def Q9.fl : Fl Q9 := ⟨2, fun x => [i6 x.from_, .string ⟨(x.action).toArray⟩], fun _ => rfl, fun x u hu => by simp at hu; rcases hu with rfl | rfl <;> rfl, by decide⟩
structure Q36 where
 states : Int
 holds : List (Bs × Q4)
 next : List (Q9 × Q4)
deriving Inhabited
def Q36.ow : Ow Q36 := ((Ow.fl (Fl.int .i64)).pair ((Ow.mp Fl.bs.ov Q4.fl.av).pair (Ow.mp Q9.fl.av Q4.fl.av))).iso (fun x => (x.states, x.holds, x.next))
theorem Q36.ent {x0 : Int} {b1 : Nat} {x1 : List (Bs × Q4)} {b2 : Nat} {x2 : List (Q9 × Q4)} : Ent [mapo Fl.bs.ov Q4.fl.av b1 x1, mapo Q9.fl.av Q4.fl.av b2 x2] (Q36.ow.own ⟨x0, x1, x2⟩ [i6 x0, .map (some b1), .map (some b2)]) := (Ent.pair (c1 := [i6 x0]) (c2 := [.map (some b1), .map (some b2)]) (Ent.fl (Fl.int .i64) rfl) (Ent.pair (c1 := [.map (some b1)]) (c2 := [.map (some b2)]) Ent.mp Ent.mp))
theorem Q9.keyok : KeyOk Tryz.prog 85 Q9.fl.av := KeyOk.st rfl rfl (by kernel_rfl) (by kernel_rfl) (fun x y => by
 refine (show _ = some (decide (x.from_ = y.from_) && (bseq x.action y.action && true)) from rfl).trans (congrArg some ?_)
 cases x
 cases y
 rw [Bool.eq_iff_iff]
 simp [Q164]) (fun x => by simp [Q9.fl, Instr.sameBits, Q277])

noncomputable def Q106.f (p q u C a1 : Int) : Option (Int × Int × Int × Int) :=
 jn (
 if 0 ≤ a1 then
 some (.inl (decide (a1 < 256)))
 else
 some (.inl false)) (fun (D : Bool) =>
 if D = true then
 if (0 : Int) ≤ (Bw.shr .i64 a1 6) ∧ (Bw.shr .i64 a1 6) < (4 : Int) then
 if (Bw.shr .i64 a1 6) = 0 then
 if (0 : Int) ≤ IntKind.u64.wrap (band .i64 a1 63) then
 some (bor .u64 p (Bw.shl .u64 1 (IntKind.u64.wrap (band .i64 a1 63))), q, u, C)
 else none
 else
 if (Bw.shr .i64 a1 6) = 1 then
 if (0 : Int) ≤ IntKind.u64.wrap (band .i64 a1 63) then
 some (p, bor .u64 q (Bw.shl .u64 1 (IntKind.u64.wrap (band .i64 a1 63))), u, C)
 else none
 else
 if (Bw.shr .i64 a1 6) = 2 then
 if (0 : Int) ≤ IntKind.u64.wrap (band .i64 a1 63) then
 some (p, q, bor .u64 u (Bw.shl .u64 1 (IntKind.u64.wrap (band .i64 a1 63))), C)
 else none
 else
 if (0 : Int) ≤ IntKind.u64.wrap (band .i64 a1 63) then
 some (p, q, u, bor .u64 C (Bw.shl .u64 1 (IntKind.u64.wrap (band .i64 a1 63))))
 else none
 else none
 else
 some (p, q, u, C))
theorem Q106.callee : Callee Tryz.prog 20 := ⟨_, Tryz.func20, by kernel_rfl, by kernel_rfl⟩
theorem Q106.spec {C D E G a1 : Int} {r : Int × Int × Int × Int} (j : Q106.f C D E G a1 = some r) :
 Spec Tryz.prog 20 [.agg #[.int .u64 C, .int .u64 D, .int .u64 E, .int .u64 G], i6 a1] R (Fr) (fun v l' => v = .agg #[.int .u64 r.1, .int .u64 r.2.1, .int .u64 r.2.2.1, .int .u64 r.2.2.2] ∧ Fr = l') := by
 refine Spec.of Tryz.func20 rfl rfl ?_; unfold Q106.f at j; have j := brun j; refine At.seq (At.region ?_); refine At.box rfl rfl (cs := [.int .u64 C, .int .u64 D, .int .u64 E, .int .u64 G]) rfl rfl (fun a0 => ?_); refine At.alloc rfl rfl rfl (fun a2 => ?_); refine nT (At.seq (sR 3 rfl ?_)); obtain ⟨a5, a6, b3, j⟩ := bjoin j; let T1 : HProp := pt a2 (.cells ([.int .u64 0, .int .u64 0, .int .u64 0, .int .u64 0] : List Value).toArray 35); let T2 : HProp := pc a0 [.int .u64 C, .int .u64 D, .int .u64 E, .int .u64 G] 35; refine At.joinO 3 (X := Bool) (fun u => [(1, i6 a1), (2, bp a0), (4, bp a2), (10, .bool u)]) (fun u => T1 :: T2 :: Fr) (fun u => a5 (.inl u) = some r) ?_ (fun a3 => ?_)
 ·rintro u j; have j := (a6 _).symm.trans j
  ·refine nT ?_; rcases bite j with ⟨I, j⟩ | ⟨I, j⟩
   ··refine At.condT rfl I ?_
     refine At.region (At.run 1 rfl (At.y (Y.shr rfl rfl (by decide)) rfl rfl rfl ?_)); obtain ⟨p, j⟩ := bnone j; rcases bite j with ⟨J, j⟩ | ⟨J, j⟩
     ··refine At.y (Y.ixArrK rfl rfl rfl rfl rfl p.1 p.2 (q := 0) (off := 0) J rfl) rfl rfl rfl ?_
       refine At.y (Y.load rfl rfl (.s .z) rfl rfl rfl) rfl rfl rfl (At.run 3 rfl ?_); obtain ⟨a7, j⟩ := bnone j; refine At.y (Y.shl rfl rfl a7) rfl rfl rfl (At.run 1 rfl (At.y (Y.ixArrK rfl rfl rfl rfl rfl p.1 p.2 (q := 0) (off := 0) J rfl) rfl rfl rfl ?_)); refine At.store rfl rfl rfl rfl (.s .z) rfl rfl rfl (.c .n) ?_; refine nT (At.seq (At.region (At.y (Y.load rfl rfl .z rfl rfl rfl) rfl rfl rfl ?_))); refine At.store rfl rfl rfl rfl (.s .z) rfl rfl rfl (.c (.c (.c (.c .n)))) ?_; refine nT (At.ret ?_); refine At.resM (.inl rfl) rfl (RV.cell rfl rfl .z rfl rfl rfl RV.nil) ?_; refine At.drop .z (At.drop .z ?_); cases bret j; exact fun a w e hs => ⟨_, ⟨rfl, rfl⟩, hs⟩
     ··rcases bite j with ⟨U, j⟩ | ⟨U, j⟩
       ··refine At.y (Y.ixArrK rfl rfl rfl rfl rfl p.1 p.2 (q := 1) (off := 1) U rfl) rfl rfl rfl ?_
         refine At.y (Y.load rfl rfl (.s .z) rfl rfl rfl) rfl rfl rfl (At.run 3 rfl ?_); obtain ⟨a8, j⟩ := bnone j; refine At.y (Y.shl rfl rfl a8) rfl rfl rfl (At.run 1 rfl (At.y (Y.ixArrK rfl rfl rfl rfl rfl p.1 p.2 (q := 1) (off := 1) U rfl) rfl rfl rfl ?_)); refine At.store rfl rfl rfl rfl (.s .z) rfl rfl rfl (.s (.c .n)) ?_; refine nT (At.seq (At.region (At.y (Y.load rfl rfl .z rfl rfl rfl) rfl rfl rfl ?_))); refine At.store rfl rfl rfl rfl (.s .z) rfl rfl rfl (.c (.c (.c (.c .n)))) ?_; refine nT (At.ret ?_); refine At.resM (.inl rfl) rfl (RV.cell rfl rfl .z rfl rfl rfl RV.nil) ?_; refine At.drop .z (At.drop .z ?_); cases bret j; exact fun a w e hs => ⟨_, ⟨rfl, rfl⟩, hs⟩
       ··rcases bite j with ⟨V, j⟩ | ⟨V, j⟩
         ··refine At.y (Y.ixArrK rfl rfl rfl rfl rfl p.1 p.2 (q := 2) (off := 2) V rfl) rfl rfl rfl ?_
           refine At.y (Y.load rfl rfl (.s .z) rfl rfl rfl) rfl rfl rfl (At.run 3 rfl ?_); obtain ⟨a9, j⟩ := bnone j; refine At.y (Y.shl rfl rfl a9) rfl rfl rfl (At.run 1 rfl (At.y (Y.ixArrK rfl rfl rfl rfl rfl p.1 p.2 (q := 2) (off := 2) V rfl) rfl rfl rfl ?_)); refine At.store rfl rfl rfl rfl (.s .z) rfl rfl rfl (.s (.s (.c .n))) ?_; refine nT (At.seq (At.region (At.y (Y.load rfl rfl .z rfl rfl rfl) rfl rfl rfl ?_))); refine At.store rfl rfl rfl rfl (.s .z) rfl rfl rfl (.c (.c (.c (.c .n)))) ?_; refine nT (At.ret ?_); refine At.resM (.inl rfl) rfl (RV.cell rfl rfl .z rfl rfl rfl RV.nil) ?_; refine At.drop .z (At.drop .z ?_); cases bret j; exact fun a w e hs => ⟨_, ⟨rfl, rfl⟩, hs⟩
         ··have a4 : (Bw.shr .i64 a1 6) = 3 := by have h1_ := p; omega
           refine At.y (Y.ixArrK rfl rfl rfl rfl rfl p.1 p.2 (q := 3) (off := 3) a4 rfl) rfl rfl rfl (At.y (Y.load rfl rfl (.s .z) rfl rfl rfl) rfl rfl rfl (At.run 3 rfl ?_)); obtain ⟨b2, j⟩ := bnone j; refine At.y (Y.shl rfl rfl b2) rfl rfl rfl (At.run 1 rfl (At.y (Y.ixArrK rfl rfl rfl rfl rfl p.1 p.2 (q := 3) (off := 3) a4 rfl) rfl rfl rfl ?_)); refine At.store rfl rfl rfl rfl (.s .z) rfl rfl rfl (.s (.s (.s (.c .n)))) ?_; refine nT (At.seq (At.region (At.y (Y.load rfl rfl .z rfl rfl rfl) rfl rfl rfl ?_))); refine At.store rfl rfl rfl rfl (.s .z) rfl rfl rfl (.c (.c (.c (.c .n)))) ?_; refine nT (At.ret ?_); refine At.resM (.inl rfl) rfl (RV.cell rfl rfl .z rfl rfl rfl RV.nil) ?_; refine At.drop .z (At.drop .z ?_); cases bret j; exact fun a w e hs => ⟨_, ⟨rfl, rfl⟩, hs⟩
   ··refine At.condF rfl (bn I) ?_
     refine At.skip (At.thn (At.seq (At.region (At.y (Y.load rfl rfl (.s .z) rfl rfl rfl) rfl rfl rfl ?_)))); refine At.store rfl rfl rfl rfl .z rfl rfl rfl (.c (.c (.c (.c .n)))) ?_; refine nT (At.ret ?_); refine At.resM (.inl rfl) rfl (RV.cell rfl rfl .z rfl rfl rfl RV.nil) ?_; refine At.drop .z (At.drop .z ?_); cases bret j; exact fun a w e hs => ⟨_, ⟨rfl, rfl⟩, hs⟩
 ··rcases bite j with ⟨Z, j⟩ | ⟨Z, j⟩
   ··refine At.know (t := 7) rfl (decide_eq_true Z) ?_
     refine At.run 3 rfl ?_; exact At.of (a3 (decide (a1 < 256)) j) ⟨rfl, rfl, rfl, rfl, trivial⟩
   ··refine At.know (t := 7) rfl (decide_eq_false Z) ?_
     refine At.run 3 rfl ?_; exact At.of (a3 false j) ⟨rfl, rfl, rfl, rfl, trivial⟩

noncomputable def Q60.l0b (a0 : List Int) (u C D E p : Int) : Option ((Int × Int × Int × Int × Int) ⊕ ((Int × Int × Int × Int) ⊕ (Int × Int × Int × Int))) :=
 if p < (a0.length : Int) then
 if (0 : Int) ≤ p ∧ p < (a0.length : Int) then
 (Q106.f u C D E (gt a0 p)).bind fun q =>
 nx (q.1, q.2.1, q.2.2.1, q.2.2.2, IntKind.i64.wrap (p + 1))
 else none
 else
 dn (.inl (u, C, D, E))
noncomputable def Q60.l0 (a0 : List Int) (p q u C D : Int) : Option ((Int × Int × Int × Int) ⊕ (Int × Int × Int × Int)) := iter (fun t_ : Int × Int × Int × Int × Int => Q60.l0b a0 t_.1 t_.2.1 t_.2.2.1 t_.2.2.2.1 t_.2.2.2.2) (p, q, u, C, D)
noncomputable def Q60.f (a0 : List Int) : Option (Int × Int × Int × Int) :=
 jn (Q60.l0 a0 0 0 0 0 0) (fun (s_ : Int × Int × Int × Int) =>
 some (s_.1, s_.2.1, s_.2.2.1, s_.2.2.2))
theorem Q60.callee : Callee Tryz.prog 33 := ⟨_, Tryz.func33, by kernel_rfl, by kernel_rfl⟩
theorem Q60.spec {a0 : List Int} (hr0 : RdS (Fl.int .i64).rep R.heap A0 a0) (hn0 : a0.length = n0) (hc0 : n0 ≤ c0) {r : Int × Int × Int × Int} (j : Q60.f a0 = some r) :
 Spec Tryz.prog 33 [.slice A0 n0 c0] R (Fr) (fun v l' => v = .agg #[.int .u64 r.1, .int .u64 r.2.1, .int .u64 r.2.2.1, .int .u64 r.2.2.2] ∧ Fr = l') := by
 subst hn0; refine Spec.of Tryz.func33 rfl rfl ?_; unfold Q60.f at j; have j := brun j; refine At.seq (At.region ?_); refine At.alloc rfl rfl rfl (fun E => ?_); refine nT (At.seq (At.region ?_)); refine At.alloc rfl rfl rfl (fun u => ?_); refine nT (At.seq (sR 3 rfl (nT ?_))); refine At.block ?_; obtain ⟨a4, a5, b3, j⟩ := bjoin j; obtain ⟨U, G, a6⟩ := bsome j; clear j; unfold Q60.l0 at G; obtain ⟨I, p⟩ := Q15.1 G; clear G; let T3 : HProp := pt E (.cells ([.int .u64 0, .int .u64 0, .int .u64 0, .int .u64 0] : List Value).toArray 35); refine At.loopJ (X := Int × Int × Int × Int × Int) (Y := Int × Int × Int × Int) (e0 := 0) (fun s_ => [(2, bp E), (3, bp u), (6, .slice A0 a0.length c0), (7, i6 (a0.length : Int)), (8, i6 s_.2.2.2.2)]) (fun s_ => pc u [.int .u64 s_.1, .int .u64 s_.2.1, .int .u64 s_.2.2.1, .int .u64 s_.2.2.2.1] 35 :: T3 :: Fr) (fun m_ => fun s_ => iterN (fun t_ : Int × Int × Int × Int × Int => Q60.l0b a0 t_.1 t_.2.1 t_.2.2.1 t_.2.2.2.1 t_.2.2.2.2) m_ (s_.1, s_.2.1, s_.2.2.1, s_.2.2.2.1, s_.2.2.2.2) = some U) I (0, 0, 0, 0, 0) p (fun s_ => [(2, bp E), (3, bp u)]) (fun s_ => pc u [.int .u64 s_.1, .int .u64 s_.2.1, .int .u64 s_.2.2.1, .int .u64 s_.2.2.2] 35 :: T3 :: Fr) (fun s_ => a4 (.inl (s_.1, s_.2.1, s_.2.2.1, s_.2.2.2)) = some r) (fun a w e hs => ⟨e.sub ⟨rfl, rfl, rfl, rfl, rfl, trivial⟩, (by exact hs)⟩) ?_ (fun a7 => ?_)
 ·rintro ⟨b4, b5, b6, b7⟩ j; have j := (a5 _).symm.trans j
  ·refine At.ibx ?_; refine At.thn (At.seq (At.region (At.y (Y.load rfl rfl .z rfl rfl rfl) rfl rfl rfl ?_))); refine At.store rfl rfl rfl rfl (.s .z) rfl rfl rfl (.c (.c (.c (.c .n)))) ?_; refine nT (At.ret ?_); refine At.resM (.inl rfl) rfl (RV.cell rfl rfl .z rfl rfl rfl RV.nil) ?_; refine At.drop .z (At.drop .z ?_); cases bret j; exact fun a w e hs => ⟨_, ⟨rfl, rfl⟩, hs⟩
 ·clear p I; rintro I ⟨V, Z, a1, a2, a3⟩ p; obtain ⟨a8, f_, a9, hf_, j⟩ := bit p; clear p; have j : (Q60.l0b a0 V Z a1 a2 a3).bind _ = some U := j; unfold Q60.l0b at j
  ·refine sR 1 rfl (nT (At.seq ?_)); rcases bite j with ⟨J, j⟩ | ⟨J, j⟩
   ··refine At.condT rfl (decide_eq_true J) ?_
     refine At.skip (At.thn (At.seq ?_)); refine At.block ?_; refine At.seq (At.region ?_); obtain ⟨C, j⟩ := bnone j; refine At.y (Y.ixRd hr0 rfl rfl rfl rfl rfl rfl rfl C.1 C.2) rfl rfl rfl (At.y (Y.ldFl hr0 rfl (q := 0) rfl rfl C.1 C.2 rfl rfl rfl) rfl rfl rfl (At.run 1 rfl (nT (At.region (At.y (Y.load rfl rfl .z rfl rfl rfl) rfl rfl rfl (At.run 1 rfl ?_)))))); obtain ⟨D, b2, j⟩ := bbind j; refine At.call rfl Q106.callee rfl rfl rfl (Q106.spec b2) ?_; rintro _ _ ⟨rfl, rfl⟩; refine At.store rfl rfl rfl rfl .z rfl rfl rfl (.c (.c (.c (.c .n)))) ?_; refine At.nil ?_; refine At.ibn ?_; refine At.thn (At.region (At.run 2 rfl (At.nil ?_))); have j := bnx hf_ j; exact fun a w e hs => ⟨a8, (D.1, D.2.1, D.2.2.1, D.2.2.2, IntKind.i64.wrap (a3 + 1)), a9, j, e.sub ⟨rfl, rfl, rfl, rfl, rfl, trivial⟩, hs⟩
   ··refine At.condF rfl (decide_eq_false J) ?_
     refine At.exit ?_; refine At.the ?_; refine At.the ?_; exact fun a w e hs => a7 (V, Z, a1, a2) (bdn j a6) a w (e.sub ⟨rfl, rfl, trivial⟩) hs

noncomputable def Q16.l2b (C : List Bs) (p : List Q3) (q : Int) (D : List (Q9 × Q4)) (u : Int) : Option (((List (Q9 × Q4)) × Int) ⊕ (((List (Q9 × Q4))) ⊕ (((List (Q9 × Q4)) × Int) ⊕ (((List (Q9 × Q4))) ⊕ ((Option Q36)))))) :=
 if u < (([(gt C ((gt p q).Action)), ([45] : Bs)] : List Bs).length : Int) then
 if (0 : Int) ≤ u ∧ u < (([(gt C ((gt p q).Action)), ([45] : Bs)] : List Bs).length : Int) then
 (Q106.f (((mget D (⟨(gt p q).From, gt ([(gt C ((gt p q).Action)), ([45] : Bs)] : List Bs) u⟩ : Q9)).getD (⟨(0 : Int), (0 : Int), (0 : Int), (0 : Int)⟩ : Q4)).c0) (((mget D (⟨(gt p q).From, gt ([(gt C ((gt p q).Action)), ([45] : Bs)] : List Bs) u⟩ : Q9)).getD (⟨(0 : Int), (0 : Int), (0 : Int), (0 : Int)⟩ : Q4)).c1) (((mget D (⟨(gt p q).From, gt ([(gt C ((gt p q).Action)), ([45] : Bs)] : List Bs) u⟩ : Q9)).getD (⟨(0 : Int), (0 : Int), (0 : Int), (0 : Int)⟩ : Q4)).c2) (((mget D (⟨(gt p q).From, gt ([(gt C ((gt p q).Action)), ([45] : Bs)] : List Bs) u⟩ : Q9)).getD (⟨(0 : Int), (0 : Int), (0 : Int), (0 : Int)⟩ : Q4)).c3) ((gt p q).To)).bind fun E =>
 nx ((mset D (⟨(gt p q).From, gt ([(gt C ((gt p q).Action)), ([45] : Bs)] : List Bs) u⟩ : Q9) (⟨E.1, E.2.1, E.2.2.1, E.2.2.2⟩ : Q4)), IntKind.i64.wrap (u + 1))
 else none
 else
 dn (.inl D)
noncomputable def Q16.l2 (p : List Bs) (q : List Q3) (u : Int) (C : List (Q9 × Q4)) (D : Int) : Option (((List (Q9 × Q4))) ⊕ (((List (Q9 × Q4)) × Int) ⊕ (((List (Q9 × Q4))) ⊕ ((Option Q36))))) := iter (fun t_ : (List (Q9 × Q4)) × Int => Q16.l2b p q u t_.1 t_.2) (C, D)
noncomputable def Q16.l1b (u : List Bs) (q : List Q3) (C : List (Q9 × Q4)) (p : Int) : Option (((List (Q9 × Q4)) × Int) ⊕ (((List (Q9 × Q4))) ⊕ ((Option Q36)))) :=
 if p < (q.length : Int) then
 if (0 : Int) ≤ p ∧ p < (q.length : Int) then
 if (0 : Int) ≤ (gt q p).Action ∧ (gt q p).Action < (u.length : Int) then
 jn (Q16.l2 u q p C 0) (fun (D : List (Q9 × Q4)) =>
 nx (D, IntKind.i64.wrap (p + 1)))
 else none
 else none
 else
 dn (.inl C)
noncomputable def Q16.l1 (p : List Bs) (q : List Q3) (u : List (Q9 × Q4)) (C : Int) : Option (((List (Q9 × Q4))) ⊕ ((Option Q36))) := iter (fun t_ : (List (Q9 × Q4)) × Int => Q16.l1b p q t_.1 t_.2) (u, C)
noncomputable def Q16.l0b (q : List Q5) (C : List (Bs × Q4)) (p : Int) : Option (((List (Bs × Q4)) × Int) ⊕ (((List (Bs × Q4))) ⊕ ((Option Q36)))) :=
 if p < (q.length : Int) then
 if (0 : Int) ≤ p ∧ p < (q.length : Int) then
 (Q60.f ((gt q p).States)).bind fun u =>
 nx ((mset C ((gt q p).Name) (⟨u.1, u.2.1, u.2.2.1, u.2.2.2⟩ : Q4)), IntKind.i64.wrap (p + 1))
 else none
 else
 dn (.inl C)
noncomputable def Q16.l0 (p : List Q5) (q : List (Bs × Q4)) (u : Int) : Option (((List (Bs × Q4))) ⊕ ((Option Q36))) := iter (fun t_ : (List (Bs × Q4)) × Int => Q16.l0b p t_.1 t_.2) (q, u)
noncomputable def Q16.f (p : Int) (q : List Bs) (u : List Q3) (C : List Q5) : Option (Option Q36) :=
 (Q24.f p q u C).bind fun D =>
 if D = true then
 jn (Q16.l0 C ([] : List (Bs × Q4)) 0) (fun (E : List (Bs × Q4)) =>
 jn (Q16.l1 q u ([] : List (Q9 × Q4)) 0) (fun (G : List (Q9 × Q4)) =>
 some (some (⟨p, E, G⟩ : Q36))))
 else
 some none
theorem Q16.callee : Callee Tryz.prog 11 := ⟨_, Tryz.func11, by kernel_rfl, by kernel_rfl⟩
theorem Q16.spec {E : Int} {C : List Bs} {p : List Q3} {D : List Q5} (hr0_1 : RdS Fl.bs.rep R.heap A0_1 C) (hn0_1 : C.length = n0_1) (hc0_1 : n0_1 ≤ c0_1) (hr0_2 : RdS Q3.fl.rep R.heap A0_2 p) (hn0_2 : p.length = n0_2) (hc0_2 : n0_2 ≤ c0_2) (hr0_3 : RdS Q5.rep R.heap A0_3 D) (hn0_3 : D.length = n0_3) (hc0_3 : n0_3 ≤ c0_3) {r : (Option Q36)} (j : Q16.f E C p D = some r) :
 Spec Tryz.prog 11 [.agg #[i6 E, .slice A0_1 n0_1 c0_1, .slice A0_2 n0_2 c0_2, .slice A0_3 n0_3 c0_3]] R (Fr) (fun v l' => ∃ (d2 : Option Nat), v = optp d2 ∧ optb Q36.ow 82 d2 r :: Fr = l') := by
 subst hn0_1; subst hn0_2; subst hn0_3; refine Spec.of Tryz.func11 rfl rfl ?_; unfold Q16.f at j; have j := brun j; refine At.seq (At.region ?_); refine At.box rfl rfl (cs := [i6 E, .slice A0_1 C.length c0_1, .slice A0_2 p.length c0_2, .slice A0_3 D.length c0_3]) rfl rfl (fun a1 => ?_); refine At.run 1 rfl (nT (At.seq (At.seq (At.region (At.y (Y.load rfl rfl .z rfl rfl rfl) rfl rfl rfl ?_))))); obtain ⟨h2, d8, j⟩ := bbind j; refine At.call rfl Q24.callee rfl rfl rfl (Q24.spec hr0_1 rfl hc0_1 hr0_2 rfl hc0_2 hr0_3 rfl hc0_3 d8) ?_; rintro _ _ ⟨rfl, rfl⟩; refine At.run 1 rfl (nT ?_); rcases bite j with ⟨b4, j⟩ | ⟨b4, j⟩
 ··refine At.condF rfl (nf b4) ?_
   refine At.skip (At.thn (sR 1 rfl (At.y (Y.load rfl rfl .z rfl rfl rfl) rfl rfl rfl ?_))); refine At.makeMap Fl.bs.ov Q4.fl.av rfl rfl (fun Z => ?_); refine At.makeMap Q9.fl.av Q4.fl.av rfl rfl (fun G => ?_); refine At.y (Y.build (is := [0, 1, 2]) (xo := [.tmp 15, .tmp 16, .tmp 17]) (vs := [i6 E, .map (some Z), .map (some G)]) (cs := [i6 E, .map (some Z), .map (some G)]) rfl rfl rfl rfl rfl rfl) rfl rfl rfl ?_; refine At.box rfl rfl (cs := [i6 E, .map (some Z), .map (some G)]) rfl rfl (fun I => ?_); refine At.run 1 rfl (nT (At.seq (sR 1 rfl (At.y (Y.load rfl rfl (.s (.s (.s .z))) rfl rfl rfl) rfl rfl rfl ?_)))); refine At.run 2 rfl (nT ?_); refine At.block ?_; obtain ⟨d9, e1, h3, j⟩ := bjoin j; obtain ⟨d3, b5, e2⟩ := bsome j; clear j; unfold Q16.l0 at b5; obtain ⟨b6, a5⟩ := Q15.1 b5; clear b5; let T4 : HProp := pc I [i6 E, .map (some Z), .map (some G)] 82; let T5 : HProp := mapo Q9.fl.av Q4.fl.av G ([] : List (Q9 × Q4)); let T6 : HProp := pc a1 [i6 E, .slice A0_1 C.length c0_1, .slice A0_2 p.length c0_2, .slice A0_3 D.length c0_3] 26; refine At.loopJ (X := (List (Bs × Q4)) × Int) (Y := (List (Bs × Q4))) (e0 := 0) (fun s_ => [(1, bp a1), (3, bp I), (21, .slice A0_3 D.length c0_3), (22, i6 (D.length : Int)), (23, i6 s_.2)]) (fun s_ => T4 :: T5 :: mapo Fl.bs.ov Q4.fl.av Z s_.1 :: T6 :: Fr) (fun m_ => fun s_ => iterN (fun t_ : (List (Bs × Q4)) × Int => Q16.l0b D t_.1 t_.2) m_ (s_.1, s_.2) = some d3) b6 (([] : List (Bs × Q4)), 0) a5 (fun a0 => [(1, bp a1), (3, bp I)]) (fun a0 => T4 :: T5 :: mapo Fl.bs.ov Q4.fl.av Z a0 :: T6 :: Fr) (fun a0 => d9 (.inl a0) = some r) (fun a w e hs => ⟨e.sub ⟨rfl, rfl, rfl, rfl, rfl, trivial⟩, (by exact hs)⟩) ?_ (fun e3 => ?_)
   ·rintro a0 j; have j := (e1 _).symm.trans j
    ·refine At.ibx ?_; refine At.thn (At.seq (sR 1 rfl (At.y (Y.load rfl rfl (.s (.s (.s .z))) rfl rfl rfl) rfl rfl rfl (At.run 2 rfl (At.nil ?_))))); refine At.thn ?_; refine At.block ?_; obtain ⟨e4, e5, h4, j⟩ := bjoin j; obtain ⟨b7, b8, e6⟩ := bsome j; clear j; unfold Q16.l1 at b8; obtain ⟨b9, a6⟩ := Q15.1 b8; clear b8; let T7 : HProp := mapo Fl.bs.ov Q4.fl.av Z a0; refine At.loopJ (X := (List (Q9 × Q4)) × Int) (Y := (List (Q9 × Q4))) (e0 := 2) (fun s_ => [(1, bp a1), (3, bp I), (38, .slice A0_2 p.length c0_2), (39, i6 (p.length : Int)), (40, i6 s_.2)]) (fun s_ => T4 :: mapo Q9.fl.av Q4.fl.av G s_.1 :: T7 :: T6 :: Fr) (fun m_ => fun s_ => iterN (fun t_ : (List (Q9 × Q4)) × Int => Q16.l1b C p t_.1 t_.2) m_ (s_.1, s_.2) = some b7) b9 (([] : List (Q9 × Q4)), 0) a6 (fun a2 => [(3, bp I)]) (fun a2 => T4 :: mapo Q9.fl.av Q4.fl.av G a2 :: T7 :: T6 :: Fr) (fun a2 => e4 (.inl a2) = some r) (fun a w e hs => ⟨e.sub ⟨rfl, rfl, rfl, rfl, rfl, trivial⟩, (by exact hs)⟩) ?_ (fun e7 => ?_)
     ·rintro a2 j; have j := (e5 _).symm.trans j
      ·refine At.ibx ?_; refine At.thn (sR 2 rfl (nT (At.ret (At.f1 ?_)))); refine At.f2 (At.f2 ?_); refine At.optSome (x := (⟨E, a0, a2⟩ : Q36)) Q36.ent ?_; refine At.drop (.s .z) ?_; cases bret j; exact At.res (.inl rfl) rfl rfl ⟨(some I), rfl, rfl⟩
     ·clear a6 b9; rintro b9 ⟨c4, u⟩ a6; obtain ⟨e8, f_, e9, hf_, j⟩ := bit a6; clear a6; have j : (Q16.l1b C p c4 u).bind _ = some b7 := j; unfold Q16.l1b at j
      ·refine sR 1 rfl (nT (At.seq ?_)); rcases bite j with ⟨c5, j⟩ | ⟨c5, j⟩
       ··refine At.condT rfl (decide_eq_true c5) ?_
         refine At.skip (At.thn (At.seq ?_)); refine At.block ?_; refine At.seq (At.region ?_); obtain ⟨a8, j⟩ := bnone j; refine At.y (Y.ixRd hr0_2 rfl rfl rfl rfl rfl rfl rfl a8.1 a8.2) rfl rfl rfl (At.y (Y.ldFl hr0_2 rfl (q := 0) rfl rfl a8.1 a8.2 rfl rfl rfl) rfl rfl rfl ?_); refine At.alloc rfl rfl rfl (fun d4 => ?_); refine At.store rfl rfl rfl rfl .z rfl rfl rfl (.c (.c (.c .n))) ?_; refine nT (sR 1 rfl ?_); refine At.y (Y.load rfl rfl (.s (.s (.s (.s .z)))) rfl rfl rfl) rfl rfl rfl ?_; refine At.run 1 rfl (At.y (Y.load rfl rfl .z rfl rfl rfl) rfl rfl rfl ?_); obtain ⟨a9, j⟩ := bnone j; refine At.y (Y.ixRd hr0_1 rfl rfl rfl rfl rfl rfl rfl a9.1 a9.2) rfl rfl rfl (At.y (Y.ldFl hr0_1 rfl (q := 0) rfl rfl a9.1 a9.2 rfl rfl rfl) rfl rfl rfl ?_); refine At.lit rfl (xo := [.tmp 49, .const (.string ⟨#[45]⟩)]) (ys := ([(gt C ((gt p u).Action)), ([45] : Bs)] : List Bs)) Fl.bs rfl rfl rfl rfl rfl rfl rfl rfl rfl rfl rfl (fun d5 d6 => ?_); refine At.run 2 rfl (nT ?_); refine At.block ?_; obtain ⟨f0, f4, h5, j⟩ := bjoin j; obtain ⟨d7, c6, f6⟩ := bsome j; clear j; unfold Q16.l2 at c6; obtain ⟨c7, a7⟩ := Q15.1 c6; clear c6; let T8 : HProp := row Fl.bs 9 d5 (([(gt C ((gt p u).Action)), ([45] : Bs)] : List Bs).length) d6 ([(gt C ((gt p u).Action)), ([45] : Bs)] : List Bs); let T9 : HProp := pc d4 [i6 ((gt p u).From), i6 ((gt p u).Action), i6 ((gt p u).To)] 48; refine At.loopJ (X := (List (Q9 × Q4)) × Int) (Y := (List (Q9 × Q4))) (e0 := 4) (fun s_ => [(1, bp a1), (3, bp I), (7, bp d4), (38, .slice A0_2 p.length c0_2), (39, i6 (p.length : Int)), (40, i6 u), (50, .slice d5 (([(gt C ((gt p u).Action)), ([45] : Bs)] : List Bs).length) d6), (51, i6 (([(gt C ((gt p u).Action)), ([45] : Bs)] : List Bs).length : Int)), (52, i6 s_.2)]) (fun s_ => T8 :: T9 :: T4 :: mapo Q9.fl.av Q4.fl.av G s_.1 :: T7 :: T6 :: Fr) (fun m_ => fun s_ => iterN (fun t_ : (List (Q9 × Q4)) × Int => Q16.l2b C p u t_.1 t_.2) m_ (s_.1, s_.2) = some d7) c7 (c4, 0) a7 (fun a3 => [(1, bp a1), (3, bp I), (38, .slice A0_2 p.length c0_2), (39, i6 (p.length : Int)), (40, i6 u)]) (fun a3 => T8 :: T9 :: T4 :: mapo Q9.fl.av Q4.fl.av G a3 :: T7 :: T6 :: Fr) (fun a3 => f0 (.inl a3) = some b7) (fun a w e hs => ⟨e.sub ⟨rfl, rfl, rfl, rfl, rfl, rfl, rfl, rfl, rfl, trivial⟩, (by exact hs)⟩) ?_ (fun f7 => ?_)
         ·rintro a3 j; have j := (f4 _).symm.trans j
          ·refine At.ibx ?_; refine At.ibn ?_; refine At.thn (At.region (At.run 2 rfl (At.nil (At.drop .z (At.drop .z ?_))))); have j := bnx hf_ j; exact fun a w e hs => ⟨e8, (a3, IntKind.i64.wrap (u + 1)), e9, j, e.sub ⟨rfl, rfl, rfl, rfl, rfl, trivial⟩, hs⟩
         ·clear a7 c7; rintro c7 ⟨c8, J⟩ a7; obtain ⟨f8, f_, f9, hf_, j⟩ := bit a7; clear a7; have j : (Q16.l2b C p u c8 J).bind _ = some d7 := j; unfold Q16.l2b at j
          ·refine sR 1 rfl (nT (At.seq ?_)); rcases bite j with ⟨c9, j⟩ | ⟨c9, j⟩
           ··refine At.condT rfl (decide_eq_true c9) ?_
             refine At.skip (At.thn (At.seq ?_)); refine At.block ?_; refine At.seq (At.region ?_); obtain ⟨b2, j⟩ := bnone j; refine At.y (Y.ix .z rfl rfl rfl rfl rfl rfl b2.1 b2.2) rfl rfl rfl (At.y (Y.ld .z (q := 0) rfl rfl b2.1 b2.2 rfl rfl rfl) rfl rfl rfl (At.run 1 rfl (nT (sR 1 rfl ?_)))); refine At.y (Y.load rfl rfl (.s .z) rfl rfl rfl) rfl rfl rfl (At.run 1 rfl ?_); refine At.y (Y.build (is := [0, 1]) (xo := [.tmp 57, .tmp 58]) (vs := [i6 ((gt p u).From), .string ⟨(gt ([(gt C ((gt p u).Action)), ([45] : Bs)] : List Bs) J).toArray⟩]) (cs := [i6 ((gt p u).From), .string ⟨(gt ([(gt C ((gt p u).Action)), ([45] : Bs)] : List Bs) J).toArray⟩]) rfl rfl rfl rfl rfl rfl) rfl rfl rfl ?_; refine At.alloc rfl rfl rfl (fun g0 => ?_); refine At.store rfl rfl rfl rfl .z rfl rfl rfl (.c (.c .n)) ?_; refine nT ?_; refine At.held [pc g0 [i6 ((gt p u).From), .string ⟨(gt ([(gt C ((gt p u).Action)), ([45] : Bs)] : List Bs) J).toArray⟩] 85, T8, T9, T4, T7, T6] 15 rfl ?_; refine At.H.pw 0 rfl rfl rfl rfl rfl (.c .z (.c .z (.c .z (.c .z (.c (.s .z) (.c (.s .z) .n)))))) ?_; refine At.H.pw 1 rfl rfl rfl rfl rfl (.c .z (.c .z (.c .z (.c .z (.c (.s .z) (.c (.s .z) .n)))))) ?_; refine At.H.pw 2 rfl rfl rfl rfl rfl (.c .z (.c .z (.c .z (.c .z (.c (.s .z) (.c (.s .z) .n)))))) ?_; refine At.H.tw 3 rfl (Y.load rfl rfl (.s (.s (.s .z))) rfl rfl rfl) rfl rfl rfl (.c .z (.c .z (.c .z (.c .z (.c (.s .z) (.c (.s .z) .n)))))) ?_; refine At.H.tw 4 rfl (Y.load rfl rfl .z rfl rfl rfl) rfl rfl rfl (.c .z (.c .z (.c .z (.c .z (.c (.s .z) (.c (.s .z) .n)))))) ?_; refine At.H.pw 5 rfl rfl rfl rfl rfl (.c .z (.c .z (.c .z (.c .z (.c (.s .z) (.c (.s .z) .n)))))) ?_; refine At.H.pw 6 rfl rfl rfl rfl rfl (.c .z (.c .z (.c .z (.c .z (.c (.s .z) (.c (.s .z) .n)))))) ?_; refine At.H.pw 7 rfl rfl rfl rfl rfl (.c .z (.c .z (.c .z (.c .z (.c (.s .z) (.c (.s .z) .n)))))) ?_; refine At.H.tw 8 rfl (Y.load rfl rfl (.s (.s (.s .z))) rfl rfl rfl) rfl rfl rfl (.c .z (.c .z (.c .z (.c .z (.c (.s .z) (.c (.s .z) .n)))))) ?_; refine At.H.tw 9 rfl (Y.load rfl rfl .z rfl rfl rfl) rfl rfl rfl (.c .z (.c .z (.c .z (.c .z (.c (.s .z) (.c (.s .z) .n)))))) ?_; refine At.H.pw 11 rfl rfl rfl rfl rfl (.c .z (.c .z (.c .z (.c .z (.c (.s .z) (.c (.s .z) .n)))))) ?_; refine At.H.tw 12 rfl (Y.load rfl rfl (.s (.s .z)) rfl rfl rfl) rfl rfl rfl (.c .z (.c .z (.c .z (.c .z (.c (.s .z) (.c (.s .z) .n)))))) ?_; refine At.H.al [10] (Q7 ?_ Q8)
             ··refine At.HO.op rfl ?_
               refine At.y (Y.lookup (k := (⟨(gt p u).From, gt ([(gt C ((gt p u).Action)), ([45] : Bs)] : List Bs) J⟩ : Q9)) (z := (⟨(0 : Int), (0 : Int), (0 : Int), (0 : Int)⟩ : Q4)) (.s (.s (.s (.s .z)))) rfl rfl Q9.keyok (by kernel_rfl) rfl rfl rfl) rfl rfl rfl ?_; refine At.HO.back (.c .z (.c .z (.c .z (.c .z (.c (.s .z) (.c (.s .z) .n)))))) ?_; refine At.H.al [13] (Q7 ?_ Q8)
               ··refine At.HO.op rfl ?_
                 obtain ⟨U, g1, j⟩ := bbind j; refine At.call rfl Q106.callee rfl rfl rfl (Q106.spec g1) ?_; rintro _ _ ⟨rfl, rfl⟩; refine At.HO.back (.c .z (.c .z (.c .z (.c .z (.c (.s .z) (.c (.s .z) .n)))))) ?_; refine At.H.al [14] (Q7 ?_ Q8)
                 ··refine At.HO.op rfl ?_
                   refine At.mapUpdate (k := (⟨(gt p u).From, gt ([(gt C ((gt p u).Action)), ([45] : Bs)] : List Bs) J⟩ : Q9)) (v := (⟨U.1, U.2.1, U.2.2.1, U.2.2.2⟩ : Q4)) rfl (.s (.s (.s (.s .z)))) rfl rfl Q9.keyok rfl rfl rfl rfl rfl ?_; refine At.HO.back (.c (.s .z) (.c (.s .z) (.c (.s .z) (.c (.s .z) (.c (.s .z) (.c (.s .z) .n)))))) ?_; refine At.H.done (by kernel_rfl) ?_; refine At.ibn ?_; refine At.thn (At.region (At.run 2 rfl (At.nil (At.drop (.s .z) (At.f5 (At.f5 (At.f2 ?_))))))); refine At.f5 (At.f5 (At.f5 ?_)); have j := bnx hf_ j; exact fun a w e hs => ⟨f8, ((mset c8 (⟨(gt p u).From, gt ([(gt C ((gt p u).Action)), ([45] : Bs)] : List Bs) J⟩ : Q9) (⟨U.1, U.2.1, U.2.2.1, U.2.2.2⟩ : Q4)), IntKind.i64.wrap (J + 1)), f9, j, e.sub ⟨rfl, rfl, rfl, rfl, rfl, rfl, rfl, rfl, rfl, trivial⟩, hs⟩
           ··refine At.condF rfl (decide_eq_false c9) ?_
             refine At.exit ?_; refine At.the ?_; refine At.the ?_; exact fun a w e hs => f7 c8 (bdn j f6) a w (e.sub ⟨rfl, rfl, rfl, rfl, rfl, trivial⟩) hs
       ··refine At.condF rfl (decide_eq_false c5) ?_
         refine At.exit ?_; refine At.the ?_; refine At.the ?_; exact fun a w e hs => e7 c4 (bdn j e6) a w (e.sub ⟨rfl, trivial⟩) hs
   ·clear a5 b6; rintro b6 ⟨d0, a4⟩ a5; obtain ⟨g2, f_, g3, hf_, j⟩ := bit a5; clear a5; have j : (Q16.l0b D d0 a4).bind _ = some d3 := j; unfold Q16.l0b at j
    ·refine sR 1 rfl (nT (At.seq ?_)); rcases bite j with ⟨d1, j⟩ | ⟨d1, j⟩
     ··refine At.condT rfl (decide_eq_true d1) ?_
       refine At.skip (At.thn (At.seq ?_)); refine At.block ?_; refine At.seq (At.region ?_); obtain ⟨b3, j⟩ := bnone j; refine At.y (Y.ixRd hr0_3 rfl rfl rfl rfl rfl rfl rfl b3.1 b3.2) rfl rfl rfl ?_; obtain ⟨h6, g4, g5⟩ := RdS.whole (P := Tryz.prog) hr0_3 (Sub.refl _) rfl b3.1 b3.2; obtain ⟨_, _, rfl, rfl, ⟨g6, g7, rfl, g8, g9⟩⟩ := g4; refine At.y (g5 rfl rfl rfl rfl) rfl rfl rfl ?_; refine At.alloc rfl rfl rfl (fun h0 => ?_); refine At.store rfl rfl rfl rfl .z rfl rfl rfl (.c (.c .n)) ?_; refine nT ?_; refine At.held [pc h0 [.string ⟨((gt D a4).Name).toArray⟩, .slice g6 ((gt D a4).States.length) g7] 41, T4, T5, T6] 10 rfl ?_; refine At.H.pw 0 rfl rfl rfl rfl rfl (.c .z (.c .z (.c .z (.c (.s .z) .n)))) ?_; refine At.H.pw 1 rfl rfl rfl rfl rfl (.c .z (.c .z (.c .z (.c (.s .z) .n)))) ?_; refine At.H.pw 2 rfl rfl rfl rfl rfl (.c .z (.c .z (.c .z (.c (.s .z) .n)))) ?_; refine At.H.tw 3 rfl (Y.load rfl rfl (.s .z) rfl rfl rfl) rfl rfl rfl (.c .z (.c .z (.c .z (.c (.s .z) .n)))) ?_; refine At.H.pw 4 rfl rfl rfl rfl rfl (.c .z (.c .z (.c .z (.c (.s .z) .n)))) ?_; refine At.H.tw 5 rfl (Y.load rfl rfl .z rfl rfl rfl) rfl rfl rfl (.c .z (.c .z (.c .z (.c (.s .z) .n)))) ?_; refine At.H.pw 6 rfl rfl rfl rfl rfl (.c .z (.c .z (.c .z (.c (.s .z) .n)))) ?_; refine At.H.tw 7 rfl (Y.load rfl rfl .z rfl rfl rfl) rfl rfl rfl (.c .z (.c .z (.c .z (.c (.s .z) .n)))) ?_; refine At.H.al [8] (Q7 ?_ Q8)
       ··refine At.HO.op rfl ?_
         obtain ⟨V, h1, j⟩ := bbind j; refine At.call rfl Q60.callee rfl rfl rfl (Q60.spec g9 rfl g8 h1) ?_; rintro _ _ ⟨rfl, rfl⟩; refine At.HO.back (.c .z (.c .z (.c .z (.c (.s .z) .n)))) ?_; refine At.H.al [9] (Q7 ?_ Q8)
         ··refine At.HO.op rfl ?_
           refine At.mapUpdate (k := ((gt D a4).Name)) (v := (⟨V.1, V.2.1, V.2.2.1, V.2.2.2⟩ : Q4)) rfl (.s (.s (.s .z))) rfl rfl (KeyOk.str rfl rfl) rfl rfl rfl rfl rfl ?_; refine At.HO.back (.c (.s .z) (.c (.s .z) (.c (.s .z) (.c (.s .z) .n)))) ?_; refine At.H.done (by kernel_rfl) ?_; refine At.ibn ?_; refine At.thn (At.region (At.run 2 rfl (At.nil (At.drop (.s .z) (At.f3 (At.f1 (At.f3 ?_))))))); refine At.f3 ?_; have j := bnx hf_ j; exact fun a w e hs => ⟨g2, ((mset d0 ((gt D a4).Name) (⟨V.1, V.2.1, V.2.2.1, V.2.2.2⟩ : Q4)), IntKind.i64.wrap (a4 + 1)), g3, j, e.sub ⟨rfl, rfl, rfl, rfl, rfl, trivial⟩, hs⟩
     ··refine At.condF rfl (decide_eq_false d1) ?_
       refine At.exit ?_; refine At.the ?_; refine At.the ?_; exact fun a w e hs => e3 d0 (bdn j e2) a w (e.sub ⟨rfl, rfl, trivial⟩) hs
 ··refine At.condT rfl (nt (bn b4)) ?_
   refine sR 1 rfl (nT (At.ret (At.thr ?_))); refine At.optNone Q36.ow 82 ?_; refine At.drop (.s .z) ?_; cases bret j; exact At.res (.inl rfl) rfl rfl ⟨none, rfl, rfl⟩

end Go.Bw
