/- BuildPlaces, part 2: walks and plain laws. Conditions: none. -/
import Derived.Test.YtfbjkcnefhgodaaGreatDoorProg
import Derived.MapKept
import Derived.Test.YtfbjkcnefhgodaaGreatDoorBwBuildPlacesA
set_option linter.unusedVariables false
set_option linter.unusedSimpArgs false
set_option linter.unusedSectionVars false
set_option maxRecDepth 100000
set_option maxHeartbeats 2000000
namespace Go.Bw
open Go Go.RowKit Go.Proofs
variable {R : Res} {Fr : List HProp} {b1 n1_1 c1_1 n1_2 c1_2 n1_3 c1_3 n0 c0 b1_0_c0 n1_0_c0_1 c1_0_c0_1 n1_0_c0_2 c1_0_c0_2 n1_0_c0_3 c1_0_c0_3 b1_c0 b1_c0_0_c0 n1_c0_0_c0_1 c1_c0_0_c0_1 n1_c0_0_c0_2 c1_c0_0_c0_2 n1_c0_0_c0_3 c1_c0_0_c0_3 n0_1 c0_1 n0_2 c0_2 n0_3 c0_3 : Nat} {A1_1 A1_2 A1_3 A0 A1_0_c0_1 A1_0_c0_2 A1_0_c0_3 A1_c0_0_c0_1 A1_c0_0_c0_2 A1_c0_0_c0_3 A0_1 A0_2 A0_3 : Option Addr}
structure Q6 where
 From : Int
 Action : Int
 To : Int
deriving Inhabited, DecidableEq
def Q6.fl : Fl Q6 := ⟨3, fun x => [i6 x.From, i6 x.Action, i6 x.To], fun _ => rfl, fun x u hu => by simp at hu; rcases hu with rfl | rfl | rfl <;> rfl, by decide⟩
structure Q5 where
 Name : Bs
 States : List Int
deriving Inhabited
def Q5.rep : Rep Q5 := ((Fl.bs.rep).pair (((Fl.int .i64).rep).slice)).iso (fun x => (x.Name, x.States))
def Q5.ow : Ow Q5 := ((Ow.fl Fl.bs).pair (Ow.sl (Fl.int .i64) 3)).iso (fun x => (x.Name, x.States))
theorem Q5.ent {x0 : Bs} {A1 : Option Addr} {n1 c1 : Nat} {x1 : List Int} : Ent [row (Fl.int .i64) 3 A1 n1 c1 x1] (Q5.ow.own ⟨x0, x1⟩ [.string ⟨(x0).toArray⟩, .slice A1 n1 c1]) := (Ent.pair (c1 := [.string ⟨(x0).toArray⟩]) (c2 := [.slice A1 n1 c1]) (Ent.fl Fl.bs rfl) (Ent.sl (Fl.int .i64)))
theorem bytealg_cmpstring.ext : ExtOk Tryz.prog 160 Extern.BytealgCompare.compare := ⟨_, Tryz.func160, by kernel_rfl, by kernel_rfl, by kernel_rfl, by kernel_rfl⟩

noncomputable def Q89.f (a0 p : Int) (u : List Bs) (x : List Q6) (C : List Q5) : Option Bool :=
 jn (
 if 0 ≤ a0 then
 some (.inl (decide (a0 < p)))
 else
 some (.inl false)) (fun (q : Bool) =>
 some q)
theorem Q89.callee : Callee Tryz.prog 68 := ⟨_, Tryz.func68, by kernel_rfl, by kernel_rfl⟩
theorem Q89.spec {a0 p : Int} {u : List Bs} {x : List Q6} {C : List Q5} (hr1_1 : RdS Fl.bs.rep R.heap A1_1 u) (hn1_1 : u.length = n1_1) (hc1_1 : n1_1 ≤ c1_1) (hr1_2 : RdS Q6.fl.rep R.heap A1_2 x) (hn1_2 : x.length = n1_2) (hc1_2 : n1_2 ≤ c1_2) (hr1_3 : RdS Q5.rep R.heap A1_3 C) (hn1_3 : C.length = n1_3) (hc1_3 : n1_3 ≤ c1_3) {r : Bool} (j : Q89.f a0 p u x C = some r) :
 Spec Tryz.prog 68 [i6 a0, bp b1] R (pc b1 [i6 p, .slice A1_1 n1_1 c1_1, .slice A1_2 n1_2 c1_2, .slice A1_3 n1_3 c1_3] 26 :: Fr) (fun v l' => v = .bool r ∧ pc b1 [i6 p, .slice A1_1 n1_1 c1_1, .slice A1_2 n1_2 c1_2, .slice A1_3 n1_3 c1_3] 26 :: Fr = l') := by
 subst hn1_1; subst hn1_2; subst hn1_3; refine Spec.of Tryz.func68 rfl rfl ?_; unfold Q89.f at j; have j := brun j; refine sR 1 rfl (nT (sR 3 rfl ?_)); obtain ⟨G, I, J, j⟩ := bjoin j; let T1 : HProp := pc b1 [i6 p, .slice A1_1 u.length c1_1, .slice A1_2 x.length c1_2, .slice A1_3 C.length c1_3] 26; refine At.joinO 5 (X := Bool) (fun q => [(11, .bool q)]) (fun q => T1 :: Fr) (fun q => G (.inl q) = some r) ?_ (fun E => ?_)
 ·rintro q j; have j := (I _).symm.trans j
  ·refine At.run 1 rfl (nT (At.ret ?_)); cases bret j; exact At.res (.inl rfl) rfl rfl ⟨rfl, rfl⟩
 ··rcases bite j with ⟨D, j⟩ | ⟨D, j⟩
   ··refine At.know (t := 6) rfl (decide_eq_true D) ?_
     refine At.run 2 rfl (At.y (Y.load rfl rfl .z rfl rfl rfl) rfl rfl rfl (At.run 2 rfl ?_)); exact At.of (E (decide (a0 < p)) j) ⟨rfl, trivial⟩
   ··refine At.know (t := 6) rfl (decide_eq_false D) ?_
     refine At.run 5 rfl ?_; exact At.of (E false j) ⟨rfl, trivial⟩

noncomputable def Q139.f (a0 : Int) : Option Bool :=
 jn (
 if 97 ≤ a0 then
 some (.inl (decide (a0 ≤ 122)))
 else
 some (.inl false)) (fun (p : Bool) =>
 jn (
 if p = true then
 some (.inl true)
 else
 jn (
 if 65 ≤ a0 then
 some (.inl (decide (a0 ≤ 90)))
 else
 some (.inl false)) (fun (q : Bool) =>
 some (.inl q))) (fun (u : Bool) =>
 jn (
 if u = true then
 some (.inl true)
 else
 jn (
 if 48 ≤ a0 then
 some (.inl (decide (a0 ≤ 57)))
 else
 some (.inl false)) (fun (x : Bool) =>
 some (.inl x))) (fun (C : Bool) =>
 jn (
 if C = true then
 some (.inl true)
 else
 some (.inl (decide (a0 = 95)))) (fun (D : Bool) =>
 some (!D)))))
theorem Q139.callee : Callee Tryz.prog 127 := ⟨_, Tryz.func127, by kernel_rfl, by kernel_rfl⟩
theorem Q139.spec {a0 : Int} {r : Bool} (j : Q139.f a0 = some r) :
 Spec Tryz.prog 127 [.int .i32 a0] R (Fr) (fun v l' => v = .bool r ∧ Fr = l') := by
 refine Spec.of Tryz.func127 rfl rfl ?_; unfold Q139.f at j; have j := brun j; refine sR 1 rfl (nT (sR 3 rfl ?_)); obtain ⟨a2, a3, b6, j⟩ := bjoin j; refine At.joinO 3 (X := Bool) (fun u => [(0, .int .i32 a0), (8, .bool u)]) (fun u => Fr) (fun u => a2 (.inl u) = some r) ?_ (fun N => ?_)
 ·rintro u j; have j := (a3 _).symm.trans j
  ·refine At.run 1 rfl ?_; obtain ⟨a4, a5, b7, j⟩ := bjoin j; refine At.joinO 7 (X := Bool) (fun x => [(0, .int .i32 a0), (16, .bool x)]) (fun x => Fr) (fun x => a4 (.inl x) = some r) ?_ (fun O => ?_)
   ·rintro x j; have j := (a5 _).symm.trans j
    ·refine At.run 1 rfl ?_; obtain ⟨a6, a7, b8, j⟩ := bjoin j; refine At.joinO 7 (X := Bool) (fun C => [(0, .int .i32 a0), (24, .bool C)]) (fun C => Fr) (fun C => a6 (.inl C) = some r) ?_ (fun U => ?_)
     ·rintro C j; have j := (a7 _).symm.trans j
      ·refine At.run 1 rfl ?_; obtain ⟨a8, a9, b9, j⟩ := bjoin j; refine At.joinO 3 (X := Bool) (fun D => [(28, .bool D)]) (fun D => Fr) (fun D => a8 (.inl D) = some r) ?_ (fun V => ?_)
       ·rintro D j; have j := (a9 _).symm.trans j
        ·refine At.run 2 rfl (nT (At.ret ?_)); cases bret j; exact At.res (.inl rfl) rfl rfl ⟨rfl, rfl⟩
       ··rcases bite j with ⟨E, j⟩ | ⟨E, j⟩
         ··refine At.know (t := 25) rfl E ?_
           refine At.run 3 rfl ?_; exact At.of (V true j) ⟨rfl, trivial⟩
         ··refine At.know (t := 25) rfl (bn E) ?_
           refine At.run 3 rfl ?_; exact At.of (V (decide (a0 = 95)) j) ⟨rfl, trivial⟩
     ··rcases bite j with ⟨G, j⟩ | ⟨G, j⟩
       ··refine At.know (t := 17) rfl G ?_
         refine At.run 7 rfl ?_; exact At.of (U true j) ⟨rfl, rfl, trivial⟩
       ··refine At.know (t := 17) rfl (bn G) ?_
         refine At.run 3 rfl ?_; obtain ⟨b2, b3, c4, j⟩ := bjoin j; refine At.joinO 3 (X := Bool) (fun p => [(0, .int .i32 a0), (17, .bool false), (23, .bool p)]) (fun p => Fr) (fun p => b2 (.inl p) = some r) ?_ (fun Z => ?_)
         ·rintro p j; have j := (b3 _).symm.trans j
          ·refine At.run 1 rfl ?_; exact At.of (U p j) ⟨rfl, rfl, trivial⟩
         ··rcases bite j with ⟨I, j⟩ | ⟨I, j⟩
           ··refine At.know (t := 20) rfl (decide_eq_true I) ?_
             refine At.run 3 rfl ?_; exact At.of (Z (decide (a0 ≤ 57)) j) ⟨rfl, rfl, rfl, trivial⟩
           ··refine At.know (t := 20) rfl (decide_eq_false I) ?_
             refine At.run 3 rfl ?_; exact At.of (Z false j) ⟨rfl, rfl, rfl, trivial⟩
   ··rcases bite j with ⟨J, j⟩ | ⟨J, j⟩
     ··refine At.know (t := 9) rfl J ?_
       refine At.run 7 rfl ?_; exact At.of (O true j) ⟨rfl, rfl, trivial⟩
     ··refine At.know (t := 9) rfl (bn J) ?_
       refine At.run 3 rfl ?_; obtain ⟨b4, b5, c5, j⟩ := bjoin j; refine At.joinO 3 (X := Bool) (fun q => [(0, .int .i32 a0), (9, .bool false), (15, .bool q)]) (fun q => Fr) (fun q => b4 (.inl q) = some r) ?_ (fun a1 => ?_)
       ·rintro q j; have j := (b5 _).symm.trans j
        ·refine At.run 1 rfl ?_; exact At.of (O q j) ⟨rfl, rfl, trivial⟩
       ··rcases bite j with ⟨L, j⟩ | ⟨L, j⟩
         ··refine At.know (t := 12) rfl (decide_eq_true L) ?_
           refine At.run 3 rfl ?_; exact At.of (a1 (decide (a0 ≤ 90)) j) ⟨rfl, rfl, rfl, trivial⟩
         ··refine At.know (t := 12) rfl (decide_eq_false L) ?_
           refine At.run 3 rfl ?_; exact At.of (a1 false j) ⟨rfl, rfl, rfl, trivial⟩
 ··rcases bite j with ⟨M, j⟩ | ⟨M, j⟩
   ··refine At.know (t := 5) rfl (decide_eq_true M) ?_
     refine At.run 3 rfl ?_; exact At.of (N (decide (a0 ≤ 122)) j) ⟨rfl, rfl, trivial⟩
   ··refine At.know (t := 5) rfl (decide_eq_false M) ?_
     refine At.run 3 rfl ?_; exact At.of (N false j) ⟨rfl, rfl, trivial⟩

noncomputable def Q71.l0b (a0 : Bs) (a2 : Bool) (p : Nat) : Option ((Nat) ⊕ ((Nat) ⊕ (Int))) :=
 if p < a0.length then
 (Q139.f (runeAt a0 p)).bind fun q =>
 if (q == a2) = true then
 upL (some (p : Int))
 else
 nx (p + runeLen a0 p)
 else
 dn (.inl p)
noncomputable def Q71.l0 (a0 : Bs) (a2 : Bool) (p : Nat) : Option ((Nat) ⊕ (Int)) := iter (fun t_ : Nat => Q71.l0b a0 a2 t_) p
noncomputable def Q71.f (a0 : Bs) (a2 : Bool) : Option Int :=
 jn (Q71.l0 a0 a2 0) (fun (p : Nat) =>
 some (-1))
theorem Q71.callee : Callee Tryz.prog 209 := ⟨_, Tryz.func209, by kernel_rfl, by kernel_rfl⟩
theorem Q71.spec {a0 : Bs} {a2 : Bool} {r : Int} (j : Q71.f a0 a2 = some r) :
 Spec Tryz.prog 209 [.string ⟨(a0).toArray⟩, .func (.func 127) #[] #[], .bool a2] R (Fr) (fun v l' => v = i6 r ∧ Fr = l') := by
 refine Spec.of Tryz.func209 rfl rfl ?_; unfold Q71.f at j; have j := brun j; refine sR 1 rfl (nT (At.seq (At.seq (At.region ?_)))); refine At.run 1 rfl ?_; refine At.rangeStr rfl rfl rfl rfl rfl (fun x => ?_); refine nT ?_; refine At.block ?_; obtain ⟨L, M, N, j⟩ := bjoin j; obtain ⟨I, C, J⟩ := bsome j; clear j; unfold Q71.l0 at C; obtain ⟨D, q⟩ := Q14.1 C; clear C; refine At.loopJ (X := Nat) (Y := Nat) (e0 := 0) (fun p => [(1, .func (.func 127) #[] #[]), (2, .bool a2), (10, bp x)]) (fun p => pt x (.stringIter ⟨(a0).toArray⟩ p) :: Fr) (fun m_ => fun p => iterN (fun t_ : Nat => Q71.l0b a0 a2 t_) m_ p = some I) D 0 q (fun u => []) (fun u => pt x (.stringIter ⟨(a0).toArray⟩ u) :: Fr) (fun u => L (.inl u) = some r) (fun a w e hs => ⟨e.sub ⟨rfl, rfl, rfl, trivial⟩, (by exact hs)⟩) ?_ (fun O => ?_)
 ·rintro u j; have j := (M _).symm.trans j
  ·refine At.ibx ?_; refine At.thn (sR 1 rfl (nT (At.ret (At.drop .z ?_)))); cases bret j; exact At.res (.inl rfl) rfl rfl ⟨rfl, rfl⟩
 ·clear q D; rintro D p q; obtain ⟨U, f_, V, hf_, j⟩ := bit q; clear q; have j : (Q71.l0b a0 a2 p).bind _ = some I := j; unfold Q71.l0b at j
  ·refine At.seq (At.region ?_); rcases bite j with ⟨E, j⟩ | ⟨E, j⟩
   ··refine At.nextT rfl rfl .z (of_decide_eq_true (decide_eq_true E)) rfl ?_
     refine At.run 1 rfl (nT (At.seq ?_)); refine At.condT rfl rfl ?_; refine At.skip (At.thn ?_); refine At.block ?_; refine sR 4 rfl (nT (sR 2 rfl ?_)); obtain ⟨a1, Z, j⟩ := bbind j; refine At.call rfl Q139.callee rfl rfl rfl (Q139.spec Z) ?_; rintro _ _ ⟨rfl, rfl⟩; refine At.run 2 rfl (nT ?_); rcases bite j with ⟨G, j⟩ | ⟨G, j⟩
     ··refine At.condT rfl G ?_
       refine sR 2 rfl (nT (At.ret ?_)); refine At.ibr ?_; have j := bupL N J j; refine At.thr ?_; refine At.ibr ?_; refine At.thr (At.drop .z ?_); cases bret j; exact At.res (.inl rfl) rfl rfl ⟨rfl, rfl⟩
     ··refine At.condF rfl (bn G) ?_
       refine At.skip ?_; refine At.ibn ?_; have j := bnx hf_ j; exact fun a w e hs => ⟨U, (p + runeLen a0 p), V, j, e.sub ⟨rfl, rfl, rfl, trivial⟩, hs⟩
   ··refine At.nextF rfl rfl .z (of_decide_eq_false (decide_eq_false E)) rfl ?_
     refine At.run 1 rfl (nT (At.seq ?_)); refine At.condF rfl rfl ?_; refine At.exit ?_; refine At.the ?_; refine At.the ?_; exact fun a w e hs => O p (bdn j J) a w (e.sub trivial) hs

noncomputable def Q132.f (a0 : Bs) : Option Int :=
 (Q71.f a0 true).bind fun p =>
 some p
theorem Q132.callee : Callee Tryz.prog 159 := ⟨_, Tryz.func159, by kernel_rfl, by kernel_rfl⟩
theorem Q132.spec {a0 : Bs} {r : Int} (j : Q132.f a0 = some r) :
 Spec Tryz.prog 159 [.string ⟨(a0).toArray⟩, .func (.func 127) #[] #[]] R (Fr) (fun v l' => v = i6 r ∧ Fr = l') := by
 refine Spec.of Tryz.func159 rfl rfl ?_; unfold Q132.f at j; have j := brun j; refine sR 1 rfl (nT (sR 2 rfl ?_)); obtain ⟨q, p, j⟩ := bbind j; refine At.call rfl Q71.callee rfl rfl rfl (Q71.spec p) ?_; rintro _ _ ⟨rfl, rfl⟩; refine At.run 1 rfl (nT (At.ret ?_)); cases bret j; exact At.res (.inl rfl) rfl rfl ⟨rfl, rfl⟩

noncomputable def Q124.f (a0 : Bs) : Option Bool :=
 (Q132.f a0).bind fun p =>
 some (decide (0 ≤ p))
theorem Q124.callee : Callee Tryz.prog 126 := ⟨_, Tryz.func126, by kernel_rfl, by kernel_rfl⟩
theorem Q124.spec {a0 : Bs} {r : Bool} (j : Q124.f a0 = some r) :
 Spec Tryz.prog 126 [.string ⟨(a0).toArray⟩, .func (.func 127) #[] #[]] R (Fr) (fun v l' => v = .bool r ∧ Fr = l') := by
 refine Spec.of Tryz.func126 rfl rfl ?_; unfold Q124.f at j; have j := brun j; refine sR 1 rfl (nT (sR 2 rfl ?_)); obtain ⟨q, p, j⟩ := bbind j; refine At.call rfl Q132.callee rfl rfl rfl (Q132.spec p) ?_; rintro _ _ ⟨rfl, rfl⟩; refine At.run 2 rfl (nT (At.ret ?_)); cases bret j; exact At.res (.inl rfl) rfl rfl ⟨rfl, rfl⟩

noncomputable def Q88.f (a0 : Bs) : Option Bool :=
 jn (
 if (a0.length : Int) < 1 then
 some (.inl true)
 else
 some (.inl (decide (8 < (a0.length : Int))))) (fun (p : Bool) =>
 jn (
 if p = true then
 some (.inl true)
 else
 if (0 : Int) ≤ 0 ∧ 0 < (a0.length : Int) then
 some (.inl (decide (bat a0 0 < 97)))
 else none) (fun (q : Bool) =>
 jn (
 if q = true then
 some (.inl true)
 else
 if (0 : Int) ≤ 0 ∧ 0 < (a0.length : Int) then
 some (.inl (decide (122 < bat a0 0)))
 else none) (fun (u : Bool) =>
 if u = true then
 some false
 else
 if bseq a0 ([116, 116] : Bs) = true then
 some false
 else
 if bseq a0 ([102, 102] : Bs) = true then
 some false
 else
 if bseq a0 ([109, 117] : Bs) = true then
 some false
 else
 if bseq a0 ([110, 117] : Bs) = true then
 some false
 else
 (Q124.f a0).bind fun x =>
 some (!x))))
theorem Q88.callee : Callee Tryz.prog 69 := ⟨_, Tryz.func69, by kernel_rfl, by kernel_rfl⟩
theorem Q88.spec {a0 : Bs} {r : Bool} (j : Q88.f a0 = some r) :
 Spec Tryz.prog 69 [.string ⟨(a0).toArray⟩] R (Fr) (fun v l' => v = .bool r ∧ Fr = l') := by
 refine Spec.of Tryz.func69 rfl rfl ?_; unfold Q88.f at j; have j := brun j; refine sR 1 rfl (nT (At.seq (At.seq (At.region ?_)))); refine At.run 4 rfl ?_; obtain ⟨Z, a1, a7, j⟩ := bjoin j; refine At.joinO 4 (X := Bool) (fun p => [(0, .string ⟨(a0).toArray⟩), (10, .bool p)]) (fun p => Fr) (fun p => Z (.inl p) = some r) ?_ (fun M => ?_)
 ·rintro p j; have j := (a1 _).symm.trans j
  ·refine At.run 1 rfl ?_; obtain ⟨a2, a3, a8, j⟩ := bjoin j; refine At.joinO 4 (X := Bool) (fun q => [(0, .string ⟨(a0).toArray⟩), (15, .bool q)]) (fun q => Fr) (fun q => a2 (.inl q) = some r) ?_ (fun N => ?_)
   ·rintro q j; have j := (a3 _).symm.trans j
    ·refine At.run 1 rfl ?_; obtain ⟨a4, a5, a9, j⟩ := bjoin j; refine At.joinO 4 (X := Bool) (fun u => [(0, .string ⟨(a0).toArray⟩), (20, .bool u)]) (fun u => Fr) (fun u => a4 (.inl u) = some r) ?_ (fun O => ?_)
     ·rintro u j; have j := (a5 _).symm.trans j
      ·refine nT ?_; rcases bite j with ⟨E, j⟩ | ⟨E, j⟩
       ··refine At.condT rfl E ?_
         refine sR 1 rfl (nT (At.ret (At.thr ?_))); cases bret j; exact At.res (.inl rfl) rfl rfl ⟨rfl, rfl⟩
       ··refine At.condF rfl (bn E) ?_
         refine At.skip (At.thn (At.seq (sR 1 rfl (nT ?_)))); refine At.block ?_; refine At.seq (sR 2 rfl (nT ?_)); rcases bite j with ⟨x, j⟩ | ⟨x, j⟩
         ··refine At.condT rfl x ?_
           refine At.skip (At.thn ?_); refine At.condT rfl x ?_; refine sR 1 rfl (nT (At.ret ?_)); refine At.ibr ?_; refine At.thr ?_; cases bret j; exact At.res (.inl rfl) rfl rfl ⟨rfl, rfl⟩
         ··refine At.condF rfl (bn x) ?_
           refine sR 2 rfl (nT ?_); rcases bite j with ⟨C, j⟩ | ⟨C, j⟩
           ··refine At.condT rfl C ?_
             refine At.skip (At.thn ?_); refine At.condT rfl C ?_; refine sR 1 rfl (nT (At.ret ?_)); refine At.ibr ?_; refine At.thr ?_; cases bret j; exact At.res (.inl rfl) rfl rfl ⟨rfl, rfl⟩
           ··refine At.condF rfl (bn C) ?_
             refine sR 2 rfl (nT ?_); rcases bite j with ⟨D, j⟩ | ⟨D, j⟩
             ··refine At.condT rfl D ?_
               refine At.skip (At.thn ?_); refine At.condT rfl D ?_; refine sR 1 rfl (nT (At.ret ?_)); refine At.ibr ?_; refine At.thr ?_; cases bret j; exact At.res (.inl rfl) rfl rfl ⟨rfl, rfl⟩
             ··refine At.condF rfl (bn D) ?_
               refine At.region (At.run 2 rfl (nT ?_)); rcases bite j with ⟨G, j⟩ | ⟨G, j⟩
               ··refine At.condT rfl G ?_
                 refine sR 1 rfl (nT (At.ret ?_)); refine At.ibr ?_; refine At.thr ?_; cases bret j; exact At.res (.inl rfl) rfl rfl ⟨rfl, rfl⟩
               ··refine At.condF rfl (bn G) ?_
                 refine At.skip ?_; refine At.ibn ?_; refine At.thn (sR 1 rfl ?_); obtain ⟨b2, a6, j⟩ := bbind j; refine At.call rfl Q124.callee rfl rfl rfl (Q124.spec a6) ?_; rintro _ _ ⟨rfl, rfl⟩; refine At.run 2 rfl (nT (At.ret ?_)); cases bret j; exact At.res (.inl rfl) rfl rfl ⟨rfl, rfl⟩
     ··rcases bite j with ⟨I, j⟩ | ⟨I, j⟩
       ··refine At.know (t := 16) rfl I ?_
         refine At.run 4 rfl ?_; exact At.of (O true j) ⟨rfl, rfl, trivial⟩
       ··refine At.know (t := 16) rfl (bn I) ?_
         refine At.run 1 rfl ?_; obtain ⟨U, j⟩ := bnone j; refine At.y (Y.ixStr rfl rfl rfl rfl U.1 U.2) rfl rfl rfl (At.run 2 rfl ?_); exact At.of (O (decide (122 < bat a0 0)) j) ⟨rfl, rfl, trivial⟩
   ··rcases bite j with ⟨J, j⟩ | ⟨J, j⟩
     ··refine At.know (t := 11) rfl J ?_
       refine At.run 4 rfl ?_; exact At.of (N true j) ⟨rfl, rfl, trivial⟩
     ··refine At.know (t := 11) rfl (bn J) ?_
       refine At.run 1 rfl ?_; obtain ⟨V, j⟩ := bnone j; refine At.y (Y.ixStr rfl rfl rfl rfl V.1 V.2) rfl rfl rfl (At.run 2 rfl ?_); exact At.of (N (decide (bat a0 0 < 97)) j) ⟨rfl, rfl, trivial⟩
 ··rcases bite j with ⟨L, j⟩ | ⟨L, j⟩
   ··refine At.know (t := 6) rfl (decide_eq_true L) ?_
     refine At.run 4 rfl ?_; exact At.of (M true j) ⟨rfl, rfl, trivial⟩
   ··refine At.know (t := 6) rfl (decide_eq_false L) ?_
     refine At.run 4 rfl ?_; exact At.of (M (decide (8 < (a0.length : Int))) j) ⟨rfl, rfl, trivial⟩

noncomputable def Q96.f (a0 : Int) : Option Bool :=
 some (!(decide (a0 = a0)))
theorem Q96.callee : Callee Tryz.prog 128 := ⟨_, Tryz.func128, by kernel_rfl, by kernel_rfl⟩
theorem Q96.spec {a0 : Int} {r : Bool} (j : Q96.f a0 = some r) :
 Spec Tryz.prog 128 [i6 a0] R (Fr) (fun v l' => v = .bool r ∧ Fr = l') := by
 refine Spec.of Tryz.func128 rfl rfl ?_; unfold Q96.f at j; have j := brun j; refine sR 1 rfl (nT (sR 4 rfl ?_)); refine nT (At.ret ?_); cases bret j; exact At.res (.inl rfl) rfl rfl ⟨rfl, rfl⟩

noncomputable def Q56.f (a0 a1 : Int) : Option Int :=
 (Q96.f a0).bind fun q =>
 (Q96.f a1).bind fun p =>
 if q = true then
 if p = true then
 some 0
 else
 some (-1)
 else
 if p = true then
 some 1
 else
 if a0 < a1 then
 some (-1)
 else
 if a1 < a0 then
 some 1
 else
 some 0
theorem Q56.callee : Callee Tryz.prog 71 := ⟨_, Tryz.func71, by kernel_rfl, by kernel_rfl⟩
theorem Q56.spec {a0 a1 : Int} {r : Int} (j : Q56.f a0 a1 = some r) :
 Spec Tryz.prog 71 [i6 a0, i6 a1] R (Fr) (fun v l' => v = i6 r ∧ Fr = l') := by
 refine Spec.of Tryz.func71 rfl rfl ?_; unfold Q56.f at j; have j := brun j; refine sR 1 rfl (nT (sR 1 rfl ?_)); obtain ⟨G, D, j⟩ := bbind j; refine At.call rfl Q96.callee rfl rfl rfl (Q96.spec D) ?_; rintro _ _ ⟨rfl, rfl⟩; refine At.run 1 rfl (nT (sR 1 rfl ?_)); obtain ⟨I, E, j⟩ := bbind j; refine At.call rfl Q96.callee rfl rfl rfl (Q96.spec E) ?_; rintro _ _ ⟨rfl, rfl⟩; refine At.run 1 rfl (nT (At.seq (sR 1 rfl (At.nil ?_)))); refine At.thn ?_; rcases bite j with ⟨p, j⟩ | ⟨p, j⟩
 ··refine At.condT rfl p ?_
   refine At.seq (sR 1 rfl (nT ?_)); rcases bite j with ⟨q, j⟩ | ⟨q, j⟩
   ··refine At.condT rfl q ?_
     refine sR 1 rfl (nT (At.ret (At.thr (At.thr ?_)))); cases bret j; exact At.res (.inl rfl) rfl rfl ⟨rfl, rfl⟩
   ··refine At.condF rfl (bn q) ?_
     refine At.skip (At.thn (sR 1 rfl (nT (At.ret ?_)))); refine At.thr ?_; cases bret j; exact At.res (.inl rfl) rfl rfl ⟨rfl, rfl⟩
 ··refine At.condF rfl (bn p) ?_
   refine At.skip (At.thn (At.seq (sR 1 rfl (nT ?_)))); rcases bite j with ⟨u, j⟩ | ⟨u, j⟩
   ··refine At.condT rfl u ?_
     refine sR 1 rfl (nT (At.ret (At.thr ?_))); cases bret j; exact At.res (.inl rfl) rfl rfl ⟨rfl, rfl⟩
   ··refine At.condF rfl (bn u) ?_
     refine At.skip (At.thn (At.seq (sR 3 rfl (nT ?_)))); rcases bite j with ⟨x, j⟩ | ⟨x, j⟩
     ··refine At.condT rfl (decide_eq_true x) ?_
       refine sR 1 rfl (nT (At.ret (At.thr ?_))); cases bret j; exact At.res (.inl rfl) rfl rfl ⟨rfl, rfl⟩
     ··refine At.condF rfl (decide_eq_false x) ?_
       refine At.skip (At.thn (At.seq (sR 3 rfl (nT ?_)))); rcases bite j with ⟨C, j⟩ | ⟨C, j⟩
       ··refine At.condT rfl (decide_eq_true C) ?_
         refine sR 1 rfl (nT (At.ret (At.thr ?_))); cases bret j; exact At.res (.inl rfl) rfl rfl ⟨rfl, rfl⟩
       ··refine At.condF rfl (decide_eq_false C) ?_
         refine At.skip (At.thn (sR 1 rfl (nT (At.ret ?_)))); cases bret j; exact At.res (.inl rfl) rfl rfl ⟨rfl, rfl⟩

noncomputable def Q78.l0b (a0 : List Int) (p : Int) : Option ((Int) ⊕ ((Unit) ⊕ (Bool))) :=
 if p < (a0.length : Int) then
 if (0 : Int) ≤ IntKind.i64.wrap (p - 1) ∧ IntKind.i64.wrap (p - 1) < (a0.length : Int) then
 if (0 : Int) ≤ p ∧ p < (a0.length : Int) then
 (Q56.f (gt a0 (IntKind.i64.wrap (p - 1))) (gt a0 p)).bind fun q =>
 if 0 ≤ q then
 upL (some false)
 else
 nx (IntKind.i64.wrap (p + 1))
 else none
 else none
 else
 dn (.inl ())
noncomputable def Q78.l0 (a0 : List Int) (p : Int) : Option ((Unit) ⊕ (Bool)) := iter (fun t_ : Int => Q78.l0b a0 t_) p
noncomputable def Q78.f (a0 : List Int) : Option Bool :=
 jn (Q78.l0 a0 1) (fun (_ : Unit) =>
 some true)
theorem Q78.callee : Callee Tryz.prog 70 := ⟨_, Tryz.func70, by kernel_rfl, by kernel_rfl⟩
theorem Q78.spec {a0 : List Int} (hr0 : RdS (Fl.int .i64).rep R.heap A0 a0) (hn0 : a0.length = n0) (hc0 : n0 ≤ c0) {r : Bool} (j : Q78.f a0 = some r) :
 Spec Tryz.prog 70 [.slice A0 n0 c0, .func (.func 71) #[] #[]] R (Fr) (fun v l' => v = .bool r ∧ Fr = l') := by
 subst hn0; refine Spec.of Tryz.func70 rfl rfl ?_; unfold Q78.f at j; have j := brun j; refine sR 1 rfl (nT (At.seq (At.seq (At.region ?_)))); refine At.run 1 rfl (nT ?_); refine At.block ?_; obtain ⟨M, N, O, j⟩ := bjoin j; obtain ⟨J, D, L⟩ := bsome j; clear j; unfold Q78.l0 at D; obtain ⟨E, u⟩ := Q14.1 D; clear D; refine At.loopJ (X := Int) (Y := Unit) (e0 := 0) (fun p => [(0, .slice A0 a0.length c0), (1, .func (.func 71) #[] #[]), (5, i6 p)]) (fun p => Fr) (fun m_ => fun p => iterN (fun t_ : Int => Q78.l0b a0 t_) m_ p = some J) E 1 u (fun _ => []) (fun _ => Fr) (fun _ => M (.inl ()) = some r) (fun a w e hs => ⟨e.sub ⟨rfl, rfl, rfl, trivial⟩, (by exact hs)⟩) ?_ (fun U => ?_)
 ·rintro _ j; have j := (N _).symm.trans j
  ·refine At.ibx ?_; refine At.thn (sR 1 rfl (nT (At.ret ?_))); cases bret j; exact At.res (.inl rfl) rfl rfl ⟨rfl, rfl⟩
 ·clear u E; rintro E p u; obtain ⟨V, f_, Z, hf_, j⟩ := bit u; clear u; have j : (Q78.l0b a0 p).bind _ = some J := j; unfold Q78.l0b at j
  ·refine At.seq (sR 4 rfl (nT ?_)); rcases bite j with ⟨G, j⟩ | ⟨G, j⟩
   ··refine At.condT rfl (decide_eq_true G) ?_
     refine At.skip (At.thn (At.seq ?_)); refine At.block ?_; refine At.seq ?_; refine At.quiet (by kernel_rfl) ?_; refine At.Quiet.run 4 rfl ?_; obtain ⟨x, j⟩ := bnone j; refine At.Quiet.y (Y.ixRd hr0 rfl rfl rfl rfl rfl rfl rfl x.1 x.2) rfl rfl rfl ?_; refine At.Quiet.y (Y.ldFl hr0 rfl (q := 0) rfl rfl x.1 x.2 rfl rfl rfl) rfl rfl rfl ?_; refine At.Quiet.run 2 rfl ?_; obtain ⟨C, j⟩ := bnone j; refine At.Quiet.y (Y.ixRd hr0 rfl rfl rfl rfl rfl rfl rfl C.1 C.2) rfl rfl rfl ?_; refine At.Quiet.y (Y.ldFl hr0 rfl (q := 0) rfl rfl C.1 C.2 rfl rfl rfl) rfl rfl rfl ?_; obtain ⟨a2, a1, j⟩ := bbind j; refine At.Quiet.call rfl Q56.callee rfl rfl rfl (Q56.spec a1) (fun _ _ h_ => ⟨h_.1, fun _ hs => h_.2 ▸ hs⟩) ?_; refine At.Quiet.run 1 rfl (At.Quiet.nil (At.thn ?_)); rcases bite j with ⟨I, j⟩ | ⟨I, j⟩
     ··refine At.condT rfl (decide_eq_true I) ?_
       refine sR 1 rfl (nT (At.ret ?_)); refine At.ibr ?_; refine At.thr ?_; have j := bupL O L j; refine At.thr ?_; refine At.ibr ?_; refine At.thr ?_; cases bret j; exact At.res (.inl rfl) rfl rfl ⟨rfl, rfl⟩
     ··refine At.condF rfl (decide_eq_false I) ?_
       refine At.skip ?_; refine At.ibn ?_; refine At.thn (At.region (At.run 3 rfl (At.nil ?_))); have j := bnx hf_ j; exact fun a w e hs => ⟨V, (IntKind.i64.wrap (p + 1)), Z, j, e.sub ⟨rfl, rfl, rfl, trivial⟩, hs⟩
   ··refine At.condF rfl (decide_eq_false G) ?_
     refine At.exit ?_; refine At.the ?_; refine At.the ?_; exact fun a w e hs => U () (bdn j L) a w (e.sub trivial) hs

noncomputable def Q128.f (a0 p : Int) (q : List Bs) (u : List Q6) (x : List Q5) : Option Bool :=
 (Q89.f a0 p q u x).bind fun C =>
 some (!C)
theorem Q128.callee : Callee Tryz.prog 73 := ⟨_, Tryz.func73, by kernel_rfl, by kernel_rfl⟩
theorem Q128.spec {a0 p : Int} {q : List Bs} {u : List Q6} {x : List Q5} (hr1_0_c0_1 : RdS Fl.bs.rep R.heap A1_0_c0_1 q) (hn1_0_c0_1 : q.length = n1_0_c0_1) (hc1_0_c0_1 : n1_0_c0_1 ≤ c1_0_c0_1) (hr1_0_c0_2 : RdS Q6.fl.rep R.heap A1_0_c0_2 u) (hn1_0_c0_2 : u.length = n1_0_c0_2) (hc1_0_c0_2 : n1_0_c0_2 ≤ c1_0_c0_2) (hr1_0_c0_3 : RdS Q5.rep R.heap A1_0_c0_3 x) (hn1_0_c0_3 : x.length = n1_0_c0_3) (hc1_0_c0_3 : n1_0_c0_3 ≤ c1_0_c0_3) {r : Bool} (j : Q128.f a0 p q u x = some r) :
 Spec Tryz.prog 73 [i6 a0, bp b1] R (pc b1 [.func (.func 68) #[] #[bp b1_0_c0]] 50 :: pc b1_0_c0 [i6 p, .slice A1_0_c0_1 n1_0_c0_1 c1_0_c0_1, .slice A1_0_c0_2 n1_0_c0_2 c1_0_c0_2, .slice A1_0_c0_3 n1_0_c0_3 c1_0_c0_3] 26 :: Fr) (fun v l' => v = .bool r ∧ pc b1 [.func (.func 68) #[] #[bp b1_0_c0]] 50 :: pc b1_0_c0 [i6 p, .slice A1_0_c0_1 n1_0_c0_1 c1_0_c0_1, .slice A1_0_c0_2 n1_0_c0_2 c1_0_c0_2, .slice A1_0_c0_3 n1_0_c0_3 c1_0_c0_3] 26 :: Fr = l') := by
 subst hn1_0_c0_1; subst hn1_0_c0_2; subst hn1_0_c0_3; refine Spec.of Tryz.func73 rfl rfl ?_; unfold Q128.f at j; have j := brun j; refine sR 1 rfl (nT (At.seq (At.region (At.y (Y.load rfl rfl .z rfl rfl rfl) rfl rfl rfl ?_)))); refine At.run 1 rfl (At.f1 ?_); obtain ⟨D, C, j⟩ := bbind j; refine At.call rfl Q89.callee rfl rfl rfl (Q89.spec hr1_0_c0_1 rfl hc1_0_c0_1 hr1_0_c0_2 rfl hc1_0_c0_2 hr1_0_c0_3 rfl hc1_0_c0_3 C) ?_; rintro _ _ ⟨rfl, rfl⟩; refine At.run 2 rfl (nT (At.ret (At.f1 ?_))); cases bret j; exact At.res (.inl rfl) rfl rfl ⟨rfl, rfl⟩

noncomputable def Q75.l0b (a0 : List Int) (a1_c0_0_c0_0 : Int) (a1_c0_0_c0_1 : List Bs) (a1_c0_0_c0_2 : List Q6) (a1_c0_0_c0_3 : List Q5) (p : Int) : Option ((Int) ⊕ ((Unit) ⊕ (Int))) :=
 if p < (a0.length : Int) then
 if (0 : Int) ≤ p ∧ p < (a0.length : Int) then
 (Q128.f (gt a0 p) a1_c0_0_c0_0 a1_c0_0_c0_1 a1_c0_0_c0_2 a1_c0_0_c0_3).bind fun q =>
 if q = true then
 upL (some p)
 else
 nx (IntKind.i64.wrap (p + 1))
 else none
 else
 dn (.inl ())
noncomputable def Q75.l0 (a0 : List Int) (a1_c0_0_c0_0 : Int) (a1_c0_0_c0_1 : List Bs) (a1_c0_0_c0_2 : List Q6) (a1_c0_0_c0_3 : List Q5) (p : Int) : Option ((Unit) ⊕ (Int)) := iter (fun t_ : Int => Q75.l0b a0 a1_c0_0_c0_0 a1_c0_0_c0_1 a1_c0_0_c0_2 a1_c0_0_c0_3 t_) p
noncomputable def Q75.f (a0 : List Int) (a1_c0_0_c0_0 : Int) (a1_c0_0_c0_1 : List Bs) (a1_c0_0_c0_2 : List Q6) (a1_c0_0_c0_3 : List Q5) : Option Int :=
 jn (Q75.l0 a0 a1_c0_0_c0_0 a1_c0_0_c0_1 a1_c0_0_c0_2 a1_c0_0_c0_3 0) (fun (_ : Unit) =>
 some (-1))
theorem Q75.callee : Callee Tryz.prog 129 := ⟨_, Tryz.func129, by kernel_rfl, by kernel_rfl⟩
theorem Q75.spec {a0 : List Int} {a1_c0_0_c0_0 : Int} {a1_c0_0_c0_1 : List Bs} {a1_c0_0_c0_2 : List Q6} {a1_c0_0_c0_3 : List Q5} (hr0 : RdS (Fl.int .i64).rep R.heap A0 a0) (hn0 : a0.length = n0) (hc0 : n0 ≤ c0) (hr1_c0_0_c0_1 : RdS Fl.bs.rep R.heap A1_c0_0_c0_1 a1_c0_0_c0_1) (hn1_c0_0_c0_1 : a1_c0_0_c0_1.length = n1_c0_0_c0_1) (hc1_c0_0_c0_1 : n1_c0_0_c0_1 ≤ c1_c0_0_c0_1) (hr1_c0_0_c0_2 : RdS Q6.fl.rep R.heap A1_c0_0_c0_2 a1_c0_0_c0_2) (hn1_c0_0_c0_2 : a1_c0_0_c0_2.length = n1_c0_0_c0_2) (hc1_c0_0_c0_2 : n1_c0_0_c0_2 ≤ c1_c0_0_c0_2) (hr1_c0_0_c0_3 : RdS Q5.rep R.heap A1_c0_0_c0_3 a1_c0_0_c0_3) (hn1_c0_0_c0_3 : a1_c0_0_c0_3.length = n1_c0_0_c0_3) (hc1_c0_0_c0_3 : n1_c0_0_c0_3 ≤ c1_c0_0_c0_3) {r : Int} (j : Q75.f a0 a1_c0_0_c0_0 a1_c0_0_c0_1 a1_c0_0_c0_2 a1_c0_0_c0_3 = some r) :
 Spec Tryz.prog 129 [.slice A0 n0 c0, .func (.func 73) #[] #[bp b1_c0]] R (pc b1_c0 [.func (.func 68) #[] #[bp b1_c0_0_c0]] 50 :: pc b1_c0_0_c0 [i6 a1_c0_0_c0_0, .slice A1_c0_0_c0_1 n1_c0_0_c0_1 c1_c0_0_c0_1, .slice A1_c0_0_c0_2 n1_c0_0_c0_2 c1_c0_0_c0_2, .slice A1_c0_0_c0_3 n1_c0_0_c0_3 c1_c0_0_c0_3] 26 :: Fr) (fun v l' => v = i6 r ∧ pc b1_c0 [.func (.func 68) #[] #[bp b1_c0_0_c0]] 50 :: pc b1_c0_0_c0 [i6 a1_c0_0_c0_0, .slice A1_c0_0_c0_1 n1_c0_0_c0_1 c1_c0_0_c0_1, .slice A1_c0_0_c0_2 n1_c0_0_c0_2 c1_c0_0_c0_2, .slice A1_c0_0_c0_3 n1_c0_0_c0_3 c1_c0_0_c0_3] 26 :: Fr = l') := by
 subst hn0; subst hn1_c0_0_c0_1; subst hn1_c0_0_c0_2; subst hn1_c0_0_c0_3; refine Spec.of Tryz.func129 rfl rfl ?_; unfold Q75.f at j; have j := brun j; refine sR 1 rfl (nT (At.seq (At.seq (At.region ?_)))); refine At.run 3 rfl (nT ?_); refine At.block ?_; obtain ⟨L, M, N, j⟩ := bjoin j; obtain ⟨I, C, J⟩ := bsome j; clear j; unfold Q75.l0 at C; obtain ⟨D, u⟩ := Q14.1 C; clear C; let T2 : HProp := pc b1_c0 [.func (.func 68) #[] #[bp b1_c0_0_c0]] 50; let T3 : HProp := pc b1_c0_0_c0 [i6 a1_c0_0_c0_0, .slice A1_c0_0_c0_1 a1_c0_0_c0_1.length c1_c0_0_c0_1, .slice A1_c0_0_c0_2 a1_c0_0_c0_2.length c1_c0_0_c0_2, .slice A1_c0_0_c0_3 a1_c0_0_c0_3.length c1_c0_0_c0_3] 26; refine At.loopJ (X := Int) (Y := Unit) (e0 := 0) (fun p => [(0, .slice A0 a0.length c0), (1, .func (.func 73) #[] #[bp b1_c0]), (7, i6 (a0.length : Int)), (8, i6 p)]) (fun p => T2 :: T3 :: Fr) (fun m_ => fun p => iterN (fun t_ : Int => Q75.l0b a0 a1_c0_0_c0_0 a1_c0_0_c0_1 a1_c0_0_c0_2 a1_c0_0_c0_3 t_) m_ p = some I) D 0 u (fun _ => []) (fun _ => T2 :: T3 :: Fr) (fun _ => L (.inl ()) = some r) (fun a w e hs => ⟨e.sub ⟨rfl, rfl, rfl, rfl, trivial⟩, (by exact hs)⟩) ?_ (fun O => ?_)
 ·rintro _ j; have j := (M _).symm.trans j
  ·refine At.ibx ?_; refine At.thn (sR 1 rfl (nT (At.ret ?_))); cases bret j; exact At.res (.inl rfl) rfl rfl ⟨rfl, rfl⟩
 ·clear u D; rintro D p u; obtain ⟨U, f_, V, hf_, j⟩ := bit u; clear u; have j : (Q75.l0b a0 a1_c0_0_c0_0 a1_c0_0_c0_1 a1_c0_0_c0_2 a1_c0_0_c0_3 p).bind _ = some I := j; unfold Q75.l0b at j
  ·refine sR 1 rfl (nT (At.seq ?_)); rcases bite j with ⟨E, j⟩ | ⟨E, j⟩
   ··refine At.condT rfl (decide_eq_true E) ?_
     refine At.skip (At.thn (At.seq ?_)); refine At.block ?_; refine sR 2 rfl (nT (sR 3 rfl ?_)); obtain ⟨x, j⟩ := bnone j; refine At.y (Y.ixRd hr0 rfl rfl rfl rfl rfl rfl rfl x.1 x.2) rfl rfl rfl (At.y (Y.ldFl hr0 rfl (q := 0) rfl rfl x.1 x.2 rfl rfl rfl) rfl rfl rfl ?_); obtain ⟨a1, Z, j⟩ := bbind j; refine At.call rfl Q128.callee rfl rfl rfl (Q128.spec hr1_c0_0_c0_1 rfl hc1_c0_0_c0_1 hr1_c0_0_c0_2 rfl hc1_c0_0_c0_2 hr1_c0_0_c0_3 rfl hc1_c0_0_c0_3 Z) ?_; rintro _ _ ⟨rfl, rfl⟩; refine nT ?_; rcases bite j with ⟨G, j⟩ | ⟨G, j⟩
     ··refine At.condT rfl G ?_
       refine sR 2 rfl (nT (At.ret ?_)); refine At.ibr ?_; refine At.thr ?_; have j := bupL N J j; refine At.thr ?_; refine At.ibr ?_; refine At.thr ?_; cases bret j; exact At.res (.inl rfl) rfl rfl ⟨rfl, rfl⟩
     ··refine At.condF rfl (bn G) ?_
       refine At.skip ?_; refine At.ibn ?_; refine At.thn (At.region (At.run 2 rfl (At.nil ?_))); have j := bnx hf_ j; exact fun a w e hs => ⟨U, (IntKind.i64.wrap (p + 1)), V, j, e.sub ⟨rfl, rfl, rfl, rfl, trivial⟩, hs⟩
   ··refine At.condF rfl (decide_eq_false E) ?_
     refine At.exit ?_; refine At.the ?_; refine At.the ?_; exact fun a w e hs => O () (bdn j J) a w (e.sub trivial) hs

noncomputable def Q138.f (a0 : List Int) (a1_c0_0_c0_0 : Int) (a1_c0_0_c0_1 : List Bs) (a1_c0_0_c0_2 : List Q6) (a1_c0_0_c0_3 : List Q5) : Option Bool :=
 (Q75.f a0 a1_c0_0_c0_0 a1_c0_0_c0_1 a1_c0_0_c0_2 a1_c0_0_c0_3).bind fun p =>
 some (decide (0 ≤ p))
theorem Q138.callee : Callee Tryz.prog 72 := ⟨_, Tryz.func72, by kernel_rfl, by kernel_rfl⟩
theorem Q138.spec {a0 : List Int} {a1_c0_0_c0_0 : Int} {a1_c0_0_c0_1 : List Bs} {a1_c0_0_c0_2 : List Q6} {a1_c0_0_c0_3 : List Q5} (hr0 : RdS (Fl.int .i64).rep R.heap A0 a0) (hn0 : a0.length = n0) (hc0 : n0 ≤ c0) (hr1_c0_0_c0_1 : RdS Fl.bs.rep R.heap A1_c0_0_c0_1 a1_c0_0_c0_1) (hn1_c0_0_c0_1 : a1_c0_0_c0_1.length = n1_c0_0_c0_1) (hc1_c0_0_c0_1 : n1_c0_0_c0_1 ≤ c1_c0_0_c0_1) (hr1_c0_0_c0_2 : RdS Q6.fl.rep R.heap A1_c0_0_c0_2 a1_c0_0_c0_2) (hn1_c0_0_c0_2 : a1_c0_0_c0_2.length = n1_c0_0_c0_2) (hc1_c0_0_c0_2 : n1_c0_0_c0_2 ≤ c1_c0_0_c0_2) (hr1_c0_0_c0_3 : RdS Q5.rep R.heap A1_c0_0_c0_3 a1_c0_0_c0_3) (hn1_c0_0_c0_3 : a1_c0_0_c0_3.length = n1_c0_0_c0_3) (hc1_c0_0_c0_3 : n1_c0_0_c0_3 ≤ c1_c0_0_c0_3) {r : Bool} (j : Q138.f a0 a1_c0_0_c0_0 a1_c0_0_c0_1 a1_c0_0_c0_2 a1_c0_0_c0_3 = some r) :
 Spec Tryz.prog 72 [.slice A0 n0 c0, .func (.func 73) #[] #[bp b1_c0]] R (pc b1_c0 [.func (.func 68) #[] #[bp b1_c0_0_c0]] 50 :: pc b1_c0_0_c0 [i6 a1_c0_0_c0_0, .slice A1_c0_0_c0_1 n1_c0_0_c0_1 c1_c0_0_c0_1, .slice A1_c0_0_c0_2 n1_c0_0_c0_2 c1_c0_0_c0_2, .slice A1_c0_0_c0_3 n1_c0_0_c0_3 c1_c0_0_c0_3] 26 :: Fr) (fun v l' => v = .bool r ∧ pc b1_c0 [.func (.func 68) #[] #[bp b1_c0_0_c0]] 50 :: pc b1_c0_0_c0 [i6 a1_c0_0_c0_0, .slice A1_c0_0_c0_1 n1_c0_0_c0_1 c1_c0_0_c0_1, .slice A1_c0_0_c0_2 n1_c0_0_c0_2 c1_c0_0_c0_2, .slice A1_c0_0_c0_3 n1_c0_0_c0_3 c1_c0_0_c0_3] 26 :: Fr = l') := by
 subst hn0; subst hn1_c0_0_c0_1; subst hn1_c0_0_c0_2; subst hn1_c0_0_c0_3; refine Spec.of Tryz.func72 rfl rfl ?_; unfold Q138.f at j; have j := brun j; refine sR 1 rfl (nT (sR 2 rfl ?_)); obtain ⟨q, p, j⟩ := bbind j; refine At.call rfl Q75.callee rfl rfl rfl (Q75.spec hr0 rfl hc0 hr1_c0_0_c0_1 rfl hc1_c0_0_c0_1 hr1_c0_0_c0_2 rfl hc1_c0_0_c0_2 hr1_c0_0_c0_3 rfl hc1_c0_0_c0_3 p) ?_; rintro _ _ ⟨rfl, rfl⟩; refine At.run 2 rfl (nT (At.ret ?_)); cases bret j; exact At.res (.inl rfl) rfl rfl ⟨rfl, rfl⟩

noncomputable def Q150.f (a0 : Bs) : Option Bool :=
 (Q88.f a0).bind fun p =>
 some (!p)
theorem Q150.callee : Callee Tryz.prog 75 := ⟨_, Tryz.func75, by kernel_rfl, by kernel_rfl⟩
theorem Q150.spec {a0 : Bs} {r : Bool} (j : Q150.f a0 = some r) :
 Spec Tryz.prog 75 [.string ⟨(a0).toArray⟩] R (Fr) (fun v l' => v = .bool r ∧ Fr = l') := by
 refine Spec.of Tryz.func75 rfl rfl ?_; unfold Q150.f at j; have j := brun j; refine sR 1 rfl (nT (sR 1 rfl ?_)); obtain ⟨q, p, j⟩ := bbind j; refine At.call rfl Q88.callee rfl rfl rfl (Q88.spec p) ?_; rintro _ _ ⟨rfl, rfl⟩; refine At.run 2 rfl (nT (At.ret ?_)); cases bret j; exact At.res (.inl rfl) rfl rfl ⟨rfl, rfl⟩

noncomputable def Q77.l0b (a0 : List Bs) (p : Int) : Option ((Int) ⊕ ((Unit) ⊕ (Int))) :=
 if p < (a0.length : Int) then
 if (0 : Int) ≤ p ∧ p < (a0.length : Int) then
 (Q150.f (gt a0 p)).bind fun q =>
 if q = true then
 upL (some p)
 else
 nx (IntKind.i64.wrap (p + 1))
 else none
 else
 dn (.inl ())
noncomputable def Q77.l0 (a0 : List Bs) (p : Int) : Option ((Unit) ⊕ (Int)) := iter (fun t_ : Int => Q77.l0b a0 t_) p
noncomputable def Q77.f (a0 : List Bs) : Option Int :=
 jn (Q77.l0 a0 0) (fun (_ : Unit) =>
 some (-1))
theorem Q77.callee : Callee Tryz.prog 130 := ⟨_, Tryz.func130, by kernel_rfl, by kernel_rfl⟩
theorem Q77.spec {a0 : List Bs} (hr0 : RdS Fl.bs.rep R.heap A0 a0) (hn0 : a0.length = n0) (hc0 : n0 ≤ c0) {r : Int} (j : Q77.f a0 = some r) :
 Spec Tryz.prog 130 [.slice A0 n0 c0, .func (.func 75) #[] #[]] R (Fr) (fun v l' => v = i6 r ∧ Fr = l') := by
 subst hn0; refine Spec.of Tryz.func130 rfl rfl ?_; unfold Q77.f at j; have j := brun j; refine sR 1 rfl (nT (At.seq (At.seq (At.region ?_)))); refine At.run 3 rfl (nT ?_); refine At.block ?_; obtain ⟨L, M, N, j⟩ := bjoin j; obtain ⟨I, C, J⟩ := bsome j; clear j; unfold Q77.l0 at C; obtain ⟨D, u⟩ := Q14.1 C; clear C; refine At.loopJ (X := Int) (Y := Unit) (e0 := 0) (fun p => [(0, .slice A0 a0.length c0), (1, .func (.func 75) #[] #[]), (7, i6 (a0.length : Int)), (8, i6 p)]) (fun p => Fr) (fun m_ => fun p => iterN (fun t_ : Int => Q77.l0b a0 t_) m_ p = some I) D 0 u (fun _ => []) (fun _ => Fr) (fun _ => L (.inl ()) = some r) (fun a w e hs => ⟨e.sub ⟨rfl, rfl, rfl, rfl, trivial⟩, (by exact hs)⟩) ?_ (fun O => ?_)
 ·rintro _ j; have j := (M _).symm.trans j
  ·refine At.ibx ?_; refine At.thn (sR 1 rfl (nT (At.ret ?_))); cases bret j; exact At.res (.inl rfl) rfl rfl ⟨rfl, rfl⟩
 ·clear u D; rintro D p u; obtain ⟨U, f_, V, hf_, j⟩ := bit u; clear u; have j : (Q77.l0b a0 p).bind _ = some I := j; unfold Q77.l0b at j
  ·refine sR 1 rfl (nT (At.seq ?_)); rcases bite j with ⟨E, j⟩ | ⟨E, j⟩
   ··refine At.condT rfl (decide_eq_true E) ?_
     refine At.skip (At.thn (At.seq ?_)); refine At.block ?_; refine sR 2 rfl (nT (sR 3 rfl ?_)); obtain ⟨x, j⟩ := bnone j; refine At.y (Y.ixRd hr0 rfl rfl rfl rfl rfl rfl rfl x.1 x.2) rfl rfl rfl (At.y (Y.ldFl hr0 rfl (q := 0) rfl rfl x.1 x.2 rfl rfl rfl) rfl rfl rfl ?_); obtain ⟨a1, Z, j⟩ := bbind j; refine At.call rfl Q150.callee rfl rfl rfl (Q150.spec Z) ?_; rintro _ _ ⟨rfl, rfl⟩; refine nT ?_; rcases bite j with ⟨G, j⟩ | ⟨G, j⟩
     ··refine At.condT rfl G ?_
       refine sR 2 rfl (nT (At.ret ?_)); refine At.ibr ?_; refine At.thr ?_; have j := bupL N J j; refine At.thr ?_; refine At.ibr ?_; refine At.thr ?_; cases bret j; exact At.res (.inl rfl) rfl rfl ⟨rfl, rfl⟩
     ··refine At.condF rfl (bn G) ?_
       refine At.skip ?_; refine At.ibn ?_; refine At.thn (At.region (At.run 2 rfl (At.nil ?_))); have j := bnx hf_ j; exact fun a w e hs => ⟨U, (IntKind.i64.wrap (p + 1)), V, j, e.sub ⟨rfl, rfl, rfl, rfl, trivial⟩, hs⟩
   ··refine At.condF rfl (decide_eq_false E) ?_
     refine At.exit ?_; refine At.the ?_; refine At.the ?_; exact fun a w e hs => O () (bdn j J) a w (e.sub trivial) hs

noncomputable def Q140.f (a0 : List Bs) : Option Bool :=
 (Q77.f a0).bind fun p =>
 some (decide (0 ≤ p))
theorem Q140.callee : Callee Tryz.prog 74 := ⟨_, Tryz.func74, by kernel_rfl, by kernel_rfl⟩
theorem Q140.spec {a0 : List Bs} (hr0 : RdS Fl.bs.rep R.heap A0 a0) (hn0 : a0.length = n0) (hc0 : n0 ≤ c0) {r : Bool} (j : Q140.f a0 = some r) :
 Spec Tryz.prog 74 [.slice A0 n0 c0, .func (.func 75) #[] #[]] R (Fr) (fun v l' => v = .bool r ∧ Fr = l') := by
 subst hn0; refine Spec.of Tryz.func74 rfl rfl ?_; unfold Q140.f at j; have j := brun j; refine sR 1 rfl (nT (sR 2 rfl ?_)); obtain ⟨q, p, j⟩ := bbind j; refine At.call rfl Q77.callee rfl rfl rfl (Q77.spec hr0 rfl hc0 p) ?_; rintro _ _ ⟨rfl, rfl⟩; refine At.run 2 rfl (nT (At.ret ?_)); cases bret j; exact At.res (.inl rfl) rfl rfl ⟨rfl, rfl⟩

noncomputable def Q25.l0b (a0 : List Int) (p : Int) : Option ((Int) ⊕ ((Unit) ⊕ (Int))) :=
 if p < (a0.length : Int) then
 if (0 : Int) ≤ p ∧ p < (a0.length : Int) then
 if gt a0 p = 0 then
 nx (IntKind.i64.wrap (p + 1))
 else
 upL (some (gt a0 p))
 else none
 else
 dn (.inl ())
noncomputable def Q25.l0 (a0 : List Int) (p : Int) : Option ((Unit) ⊕ (Int)) := iter (fun t_ : Int => Q25.l0b a0 t_) p
noncomputable def Q25.f (a0 : List Int) : Option Int :=
 jn (Q25.l0 a0 0) (fun (_ : Unit) =>
 some 0)
theorem Q25.callee : Callee Tryz.prog 131 := ⟨_, Tryz.func131, by kernel_rfl, by kernel_rfl⟩
theorem Q25.spec {a0 : List Int} (hr0 : RdS (Fl.int .i64).rep R.heap A0 a0) (hn0 : a0.length = n0) (hc0 : n0 ≤ c0) {r : Int} (j : Q25.f a0 = some r) :
 Spec Tryz.prog 131 [.slice A0 n0 c0] R (Fr) (fun v l' => v = i6 r ∧ Fr = l') := by
 subst hn0; refine Spec.of Tryz.func131 rfl rfl ?_; unfold Q25.f at j; have j := brun j; refine sR 1 rfl (nT (sR 1 rfl ?_)); refine nT (At.seq (sR 3 rfl (nT ?_))); refine At.block ?_; obtain ⟨L, M, N, j⟩ := bjoin j; obtain ⟨I, C, J⟩ := bsome j; clear j; unfold Q25.l0 at C; obtain ⟨D, u⟩ := Q14.1 C; clear C; refine At.loopJ (X := Int) (Y := Unit) (e0 := 0) (fun p => [(3, i6 0), (6, .slice A0 a0.length c0), (7, i6 (a0.length : Int)), (8, i6 p)]) (fun p => Fr) (fun m_ => fun p => iterN (fun t_ : Int => Q25.l0b a0 t_) m_ p = some I) D 0 u (fun _ => [(3, i6 0)]) (fun _ => Fr) (fun _ => L (.inl ()) = some r) (fun a w e hs => ⟨e.sub ⟨rfl, rfl, rfl, rfl, trivial⟩, (by exact hs)⟩) ?_ (fun O => ?_)
 ·rintro _ j; have j := (M _).symm.trans j
  ·refine At.ibx ?_; refine At.thn (sR 2 rfl (nT (At.ret ?_))); cases bret j; exact At.res (.inl rfl) rfl rfl ⟨rfl, rfl⟩
 ·clear u D; rintro D p u; obtain ⟨U, f_, V, hf_, j⟩ := bit u; clear u; have j : (Q25.l0b a0 p).bind _ = some I := j; unfold Q25.l0b at j
  ·refine sR 1 rfl (nT (At.seq ?_)); rcases bite j with ⟨E, j⟩ | ⟨E, j⟩
   ··refine At.condT rfl (decide_eq_true E) ?_
     refine At.skip (At.thn (At.seq ?_)); refine At.block ?_; refine At.seq (At.region ?_); obtain ⟨x, j⟩ := bnone j; refine At.y (Y.ixRd hr0 rfl rfl rfl rfl rfl rfl rfl x.1 x.2) rfl rfl rfl (At.y (Y.ldFl hr0 rfl (q := 0) rfl rfl x.1 x.2 rfl rfl rfl) rfl rfl rfl (At.run 1 rfl (nT (sR 3 rfl ?_)))); refine nT ?_; rcases bite j with ⟨G, j⟩ | ⟨G, j⟩
     ··refine At.condF rfl (nf (decide_eq_true G)) ?_
       refine At.skip ?_; refine At.ibn ?_; refine At.thn (At.region (At.run 2 rfl (At.nil ?_))); have j := bnx hf_ j; exact fun a w e hs => ⟨U, (IntKind.i64.wrap (p + 1)), V, j, e.sub ⟨rfl, rfl, rfl, rfl, trivial⟩, hs⟩
     ··refine At.condT rfl (nt (decide_eq_false G)) ?_
       refine sR 2 rfl (nT (At.ret ?_)); refine At.ibr ?_; refine At.thr ?_; have j := bupL N J j; refine At.thr ?_; refine At.ibr ?_; refine At.thr ?_; cases bret j; exact At.res (.inl rfl) rfl rfl ⟨rfl, rfl⟩
   ··refine At.condF rfl (decide_eq_false E) ?_
     refine At.exit ?_; refine At.the ?_; refine At.the ?_; exact fun a w e hs => O () (bdn j J) a w (e.sub ⟨rfl, trivial⟩) hs

noncomputable def Q94.f (p q u x C D : Int) : Option Int :=
 (Q56.f p x).bind fun E =>
 (Q56.f q C).bind fun G =>
 (Q56.f u D).bind fun I =>
 (Q25.f ([E, G, I] : List Int)).bind fun J =>
 some J
theorem Q94.callee : Callee Tryz.prog 77 := ⟨_, Tryz.func77, by kernel_rfl, by kernel_rfl⟩
theorem Q94.spec {p q u x C D : Int} {r : Int} (j : Q94.f p q u x C D = some r) :
 Spec Tryz.prog 77 [.agg #[i6 p, i6 q, i6 u], .agg #[i6 x, i6 C, i6 D]] R (Fr) (fun v l' => v = i6 r ∧ Fr = l') := by
 refine Spec.of Tryz.func77 rfl rfl ?_; unfold Q94.f at j; have j := brun j; refine At.seq (At.region ?_); refine At.box rfl rfl (cs := [i6 p, i6 q, i6 u]) rfl rfl (fun E => ?_); refine At.box rfl rfl (cs := [i6 x, i6 C, i6 D]) rfl rfl (fun G => ?_); refine At.run 1 rfl (nT (At.seq ?_)); refine At.held [pc G [i6 x, i6 C, i6 D] 48, pc E [i6 p, i6 q, i6 u] 48] 18 rfl ?_; refine At.H.pw 0 rfl rfl rfl rfl rfl (.c .z (.c .z .n)) ?_; refine At.H.tw 1 rfl (Y.load rfl rfl (.s .z) rfl rfl rfl) rfl rfl rfl (.c .z (.c .z .n)) ?_; refine At.H.pw 2 rfl rfl rfl rfl rfl (.c .z (.c .z .n)) ?_; refine At.H.tw 3 rfl (Y.load rfl rfl .z rfl rfl rfl) rfl rfl rfl (.c .z (.c .z .n)) ?_; refine At.H.pw 5 rfl rfl rfl rfl rfl (.c .z (.c .z .n)) ?_; refine At.H.tw 6 rfl (Y.load rfl rfl (.s .z) rfl rfl rfl) rfl rfl rfl (.c .z (.c .z .n)) ?_; refine At.H.pw 7 rfl rfl rfl rfl rfl (.c .z (.c .z .n)) ?_; refine At.H.tw 8 rfl (Y.load rfl rfl .z rfl rfl rfl) rfl rfl rfl (.c .z (.c .z .n)) ?_; refine At.H.pw 10 rfl rfl rfl rfl rfl (.c .z (.c .z .n)) ?_; refine At.H.tw 11 rfl (Y.load rfl rfl (.s .z) rfl rfl rfl) rfl rfl rfl (.c .z (.c .z .n)) ?_; refine At.H.pw 12 rfl rfl rfl rfl rfl (.c .z (.c .z .n)) ?_; refine At.H.tw 13 rfl (Y.load rfl rfl .z rfl rfl rfl) rfl rfl rfl (.c .z (.c .z .n)) ?_; refine At.H.al [4] (Q7 ?_ Q8)
 ··refine At.HO.op rfl ?_
   obtain ⟨I, J, j⟩ := bbind j; refine At.call rfl Q56.callee rfl rfl rfl (Q56.spec J) ?_; rintro _ _ ⟨rfl, rfl⟩; refine At.HO.back (.c .z (.c .z .n)) ?_; refine At.H.al [9] (Q7 ?_ Q8)
   ··refine At.HO.op rfl ?_
     obtain ⟨L, M, j⟩ := bbind j; refine At.call rfl Q56.callee rfl rfl rfl (Q56.spec M) ?_; rintro _ _ ⟨rfl, rfl⟩; refine At.HO.back (.c .z (.c .z .n)) ?_; refine At.H.al [14] (Q7 ?_ Q8)
     ··refine At.HO.op rfl ?_
       obtain ⟨N, O, j⟩ := bbind j; refine At.call rfl Q56.callee rfl rfl rfl (Q56.spec O) ?_; rintro _ _ ⟨rfl, rfl⟩; refine At.HO.back (.c .z (.c .z .n)) ?_; refine At.H.al [15] (Q7 ?_ Q8)
       ··refine At.HO.op rfl ?_
         refine At.lit rfl (xo := [.tmp 9, .tmp 14, .tmp 19]) (ys := ([I, L, N] : List Int)) (Fl.int .i64) rfl rfl rfl rfl rfl rfl rfl rfl rfl rfl rfl (fun a1 a2 => ?_); refine At.HO.back (.c (.s .z) (.c (.s .z) .n)) ?_; refine At.H.al [16] (Q7 ?_ Q8)
         ··refine At.HO.op rfl ?_
           refine At.freeze .z fun a3 U V X a4 Z => ?_; obtain ⟨a5, a0, j⟩ := bbind j; refine At.call rfl Q25.callee rfl rfl rfl (Q25.spec U V X a0) ?_; rintro _ _ ⟨rfl, rfl⟩; refine At.thaw Z ?_; refine At.HO.back (.c (.s .z) (.c (.s .z) .n)) ?_; refine At.H.pw 17 rfl rfl rfl rfl rfl (.c (.s .z) (.c (.s .z) .n)) ?_; refine At.H.done (by kernel_rfl) ?_; refine At.thn (At.ret (At.drop .z (At.drop .z (At.drop .z ?_)))); cases bret j; exact At.res (.inl rfl) rfl rfl ⟨rfl, rfl⟩

noncomputable def Q62.l0b (a0 : List Q6) (p : Int) : Option ((Int) ⊕ ((Unit) ⊕ (Bool))) :=
 if p < (a0.length : Int) then
 if (0 : Int) ≤ IntKind.i64.wrap (p - 1) ∧ IntKind.i64.wrap (p - 1) < (a0.length : Int) then
 if (0 : Int) ≤ p ∧ p < (a0.length : Int) then
 (Q94.f ((gt a0 (IntKind.i64.wrap (p - 1))).From) ((gt a0 (IntKind.i64.wrap (p - 1))).Action) ((gt a0 (IntKind.i64.wrap (p - 1))).To) ((gt a0 p).From) ((gt a0 p).Action) ((gt a0 p).To)).bind fun q =>
 if 0 ≤ q then
 upL (some false)
 else
 nx (IntKind.i64.wrap (p + 1))
 else none
 else none
 else
 dn (.inl ())
noncomputable def Q62.l0 (a0 : List Q6) (p : Int) : Option ((Unit) ⊕ (Bool)) := iter (fun t_ : Int => Q62.l0b a0 t_) p
noncomputable def Q62.f (a0 : List Q6) : Option Bool :=
 jn (Q62.l0 a0 1) (fun (_ : Unit) =>
 some true)
theorem Q62.callee : Callee Tryz.prog 76 := ⟨_, Tryz.func76, by kernel_rfl, by kernel_rfl⟩
theorem Q62.spec {a0 : List Q6} (hr0 : RdS Q6.fl.rep R.heap A0 a0) (hn0 : a0.length = n0) (hc0 : n0 ≤ c0) {r : Bool} (j : Q62.f a0 = some r) :
 Spec Tryz.prog 76 [.slice A0 n0 c0, .func (.func 77) #[] #[]] R (Fr) (fun v l' => v = .bool r ∧ Fr = l') := by
 subst hn0; refine Spec.of Tryz.func76 rfl rfl ?_; unfold Q62.f at j; have j := brun j; refine sR 1 rfl (nT (At.seq (At.seq (At.region ?_)))); refine At.run 1 rfl (nT ?_); refine At.block ?_; obtain ⟨M, N, O, j⟩ := bjoin j; obtain ⟨J, D, L⟩ := bsome j; clear j; unfold Q62.l0 at D; obtain ⟨E, u⟩ := Q14.1 D; clear D; refine At.loopJ (X := Int) (Y := Unit) (e0 := 0) (fun p => [(0, .slice A0 a0.length c0), (1, .func (.func 77) #[] #[]), (5, i6 p)]) (fun p => Fr) (fun m_ => fun p => iterN (fun t_ : Int => Q62.l0b a0 t_) m_ p = some J) E 1 u (fun _ => []) (fun _ => Fr) (fun _ => M (.inl ()) = some r) (fun a w e hs => ⟨e.sub ⟨rfl, rfl, rfl, trivial⟩, (by exact hs)⟩) ?_ (fun U => ?_)
 ·rintro _ j; have j := (N _).symm.trans j
  ·refine At.ibx ?_; refine At.thn (sR 1 rfl (nT (At.ret ?_))); cases bret j; exact At.res (.inl rfl) rfl rfl ⟨rfl, rfl⟩
 ·clear u E; rintro E p u; obtain ⟨V, f_, Z, hf_, j⟩ := bit u; clear u; have j : (Q62.l0b a0 p).bind _ = some J := j; unfold Q62.l0b at j
  ·refine At.seq (sR 4 rfl (nT ?_)); rcases bite j with ⟨G, j⟩ | ⟨G, j⟩
   ··refine At.condT rfl (decide_eq_true G) ?_
     refine At.skip (At.thn (At.seq ?_)); refine At.block ?_; refine At.seq ?_; refine At.quiet (by kernel_rfl) ?_; refine At.Quiet.run 4 rfl ?_; obtain ⟨x, j⟩ := bnone j; refine At.Quiet.y (Y.ixRd hr0 rfl rfl rfl rfl rfl rfl rfl x.1 x.2) rfl rfl rfl ?_; refine At.Quiet.y (Y.ldFl hr0 rfl (q := 0) rfl rfl x.1 x.2 rfl rfl rfl) rfl rfl rfl ?_; refine At.Quiet.run 2 rfl ?_; obtain ⟨C, j⟩ := bnone j; refine At.Quiet.y (Y.ixRd hr0 rfl rfl rfl rfl rfl rfl rfl C.1 C.2) rfl rfl rfl ?_; refine At.Quiet.y (Y.ldFl hr0 rfl (q := 0) rfl rfl C.1 C.2 rfl rfl rfl) rfl rfl rfl ?_; obtain ⟨a2, a1, j⟩ := bbind j; refine At.Quiet.call rfl Q94.callee rfl rfl rfl (Q94.spec a1) (fun _ _ h_ => ⟨h_.1, fun _ hs => h_.2 ▸ hs⟩) ?_; refine At.Quiet.run 1 rfl (At.Quiet.nil (At.thn ?_)); rcases bite j with ⟨I, j⟩ | ⟨I, j⟩
     ··refine At.condT rfl (decide_eq_true I) ?_
       refine sR 1 rfl (nT (At.ret ?_)); refine At.ibr ?_; refine At.thr ?_; have j := bupL O L j; refine At.thr ?_; refine At.ibr ?_; refine At.thr ?_; cases bret j; exact At.res (.inl rfl) rfl rfl ⟨rfl, rfl⟩
     ··refine At.condF rfl (decide_eq_false I) ?_
       refine At.skip ?_; refine At.ibn ?_; refine At.thn (At.region (At.run 3 rfl (At.nil ?_))); have j := bnx hf_ j; exact fun a w e hs => ⟨V, (IntKind.i64.wrap (p + 1)), Z, j, e.sub ⟨rfl, rfl, rfl, trivial⟩, hs⟩
   ··refine At.condF rfl (decide_eq_false G) ?_
     refine At.exit ?_; refine At.the ?_; refine At.the ?_; exact fun a w e hs => U () (bdn j L) a w (e.sub trivial) hs

noncomputable def Q126.f (a0 a1 : Bs) : Option Int :=
 some (Lib.compareBytes a0 a1)
theorem Q126.callee : Callee Tryz.prog 132 := ⟨_, Tryz.func132, by kernel_rfl, by kernel_rfl⟩
theorem Q126.spec {a0 a1 : Bs} {r : Int} (j : Q126.f a0 a1 = some r) :
 Spec Tryz.prog 132 [.string ⟨(a0).toArray⟩, .string ⟨(a1).toArray⟩] R (Fr) (fun v l' => v = i6 r ∧ Fr = l') := by
 refine Spec.of Tryz.func132 rfl rfl ?_; unfold Q126.f at j; have j := brun j; refine sR 1 rfl (nT (sR 2 rfl ?_)); refine At.y (Y.ext bytealg_cmpstring.ext rfl rfl (fun w => Q253 _ _ w)) rfl rfl rfl ?_; refine At.run 1 rfl (nT (At.ret ?_)); cases bret j; exact At.res (.inl rfl) rfl rfl ⟨rfl, rfl⟩

noncomputable def Q106.f (a0 a1 : Bs) : Option Int :=
 (Q126.f a0 a1).bind fun p =>
 some p
theorem Q106.callee : Callee Tryz.prog 79 := ⟨_, Tryz.func79, by kernel_rfl, by kernel_rfl⟩
theorem Q106.spec {a0 a1 : Bs} {r : Int} (j : Q106.f a0 a1 = some r) :
 Spec Tryz.prog 79 [.string ⟨(a0).toArray⟩, .string ⟨(a1).toArray⟩] R (Fr) (fun v l' => v = i6 r ∧ Fr = l') := by
 refine Spec.of Tryz.func79 rfl rfl ?_; unfold Q106.f at j; have j := brun j; refine sR 1 rfl (nT (sR 2 rfl ?_)); obtain ⟨q, p, j⟩ := bbind j; refine At.call rfl Q126.callee rfl rfl rfl (Q126.spec p) ?_; rintro _ _ ⟨rfl, rfl⟩; refine At.run 1 rfl (nT (At.ret ?_)); cases bret j; exact At.res (.inl rfl) rfl rfl ⟨rfl, rfl⟩

noncomputable def Q72.l0b (a0 : List Bs) (p : Int) : Option ((Int) ⊕ ((Unit) ⊕ (Bool))) :=
 if p < (a0.length : Int) then
 if (0 : Int) ≤ IntKind.i64.wrap (p - 1) ∧ IntKind.i64.wrap (p - 1) < (a0.length : Int) then
 if (0 : Int) ≤ p ∧ p < (a0.length : Int) then
 (Q106.f (gt a0 (IntKind.i64.wrap (p - 1))) (gt a0 p)).bind fun q =>
 if 0 ≤ q then
 upL (some false)
 else
 nx (IntKind.i64.wrap (p + 1))
 else none
 else none
 else
 dn (.inl ())
noncomputable def Q72.l0 (a0 : List Bs) (p : Int) : Option ((Unit) ⊕ (Bool)) := iter (fun t_ : Int => Q72.l0b a0 t_) p
noncomputable def Q72.f (a0 : List Bs) : Option Bool :=
 jn (Q72.l0 a0 1) (fun (_ : Unit) =>
 some true)
theorem Q72.callee : Callee Tryz.prog 78 := ⟨_, Tryz.func78, by kernel_rfl, by kernel_rfl⟩
theorem Q72.spec {a0 : List Bs} (hr0 : RdS Fl.bs.rep R.heap A0 a0) (hn0 : a0.length = n0) (hc0 : n0 ≤ c0) {r : Bool} (j : Q72.f a0 = some r) :
 Spec Tryz.prog 78 [.slice A0 n0 c0, .func (.func 79) #[] #[]] R (Fr) (fun v l' => v = .bool r ∧ Fr = l') := by
 subst hn0; refine Spec.of Tryz.func78 rfl rfl ?_; unfold Q72.f at j; have j := brun j; refine sR 1 rfl (nT (At.seq (At.seq (At.region ?_)))); refine At.run 1 rfl (nT ?_); refine At.block ?_; obtain ⟨M, N, O, j⟩ := bjoin j; obtain ⟨J, D, L⟩ := bsome j; clear j; unfold Q72.l0 at D; obtain ⟨E, u⟩ := Q14.1 D; clear D; refine At.loopJ (X := Int) (Y := Unit) (e0 := 0) (fun p => [(0, .slice A0 a0.length c0), (1, .func (.func 79) #[] #[]), (5, i6 p)]) (fun p => Fr) (fun m_ => fun p => iterN (fun t_ : Int => Q72.l0b a0 t_) m_ p = some J) E 1 u (fun _ => []) (fun _ => Fr) (fun _ => M (.inl ()) = some r) (fun a w e hs => ⟨e.sub ⟨rfl, rfl, rfl, trivial⟩, (by exact hs)⟩) ?_ (fun U => ?_)
 ·rintro _ j; have j := (N _).symm.trans j
  ·refine At.ibx ?_; refine At.thn (sR 1 rfl (nT (At.ret ?_))); cases bret j; exact At.res (.inl rfl) rfl rfl ⟨rfl, rfl⟩
 ·clear u E; rintro E p u; obtain ⟨V, f_, Z, hf_, j⟩ := bit u; clear u; have j : (Q72.l0b a0 p).bind _ = some J := j; unfold Q72.l0b at j
  ·refine At.seq (sR 4 rfl (nT ?_)); rcases bite j with ⟨G, j⟩ | ⟨G, j⟩
   ··refine At.condT rfl (decide_eq_true G) ?_
     refine At.skip (At.thn (At.seq ?_)); refine At.block ?_; refine At.seq ?_; refine At.quiet (by kernel_rfl) ?_; refine At.Quiet.run 4 rfl ?_; obtain ⟨x, j⟩ := bnone j; refine At.Quiet.y (Y.ixRd hr0 rfl rfl rfl rfl rfl rfl rfl x.1 x.2) rfl rfl rfl ?_; refine At.Quiet.y (Y.ldFl hr0 rfl (q := 0) rfl rfl x.1 x.2 rfl rfl rfl) rfl rfl rfl ?_; refine At.Quiet.run 2 rfl ?_; obtain ⟨C, j⟩ := bnone j; refine At.Quiet.y (Y.ixRd hr0 rfl rfl rfl rfl rfl rfl rfl C.1 C.2) rfl rfl rfl ?_; refine At.Quiet.y (Y.ldFl hr0 rfl (q := 0) rfl rfl C.1 C.2 rfl rfl rfl) rfl rfl rfl ?_; obtain ⟨a2, a1, j⟩ := bbind j; refine At.Quiet.call rfl Q106.callee rfl rfl rfl (Q106.spec a1) (fun _ _ h_ => ⟨h_.1, fun _ hs => h_.2 ▸ hs⟩) ?_; refine At.Quiet.run 1 rfl (At.Quiet.nil (At.thn ?_)); rcases bite j with ⟨I, j⟩ | ⟨I, j⟩
     ··refine At.condT rfl (decide_eq_true I) ?_
       refine sR 1 rfl (nT (At.ret ?_)); refine At.ibr ?_; refine At.thr ?_; have j := bupL O L j; refine At.thr ?_; refine At.ibr ?_; refine At.thr ?_; cases bret j; exact At.res (.inl rfl) rfl rfl ⟨rfl, rfl⟩
     ··refine At.condF rfl (decide_eq_false I) ?_
       refine At.skip ?_; refine At.ibn ?_; refine At.thn (At.region (At.run 3 rfl (At.nil ?_))); have j := bnx hf_ j; exact fun a w e hs => ⟨V, (IntKind.i64.wrap (p + 1)), Z, j, e.sub ⟨rfl, rfl, rfl, trivial⟩, hs⟩
   ··refine At.condF rfl (decide_eq_false G) ?_
     refine At.exit ?_; refine At.the ?_; refine At.the ?_; exact fun a w e hs => U () (bdn j L) a w (e.sub trivial) hs

noncomputable def Q115.f (p : Bs) (x : List Int) (q : Bs) (C : List Int) : Option Int :=
 (Q106.f p q).bind fun u =>
 some u
theorem Q115.callee : Callee Tryz.prog 81 := ⟨_, Tryz.func81, by kernel_rfl, by kernel_rfl⟩
theorem Q115.spec {u x : Bs} {p q : List Int} (hr0_1 : RdS (Fl.int .i64).rep R.heap A0_1 p) (hn0_1 : p.length = n0_1) (hc0_1 : n0_1 ≤ c0_1) (hr1_1 : RdS (Fl.int .i64).rep R.heap A1_1 q) (hn1_1 : q.length = n1_1) (hc1_1 : n1_1 ≤ c1_1) {r : Int} (j : Q115.f u p x q = some r) :
 Spec Tryz.prog 81 [.agg #[.string ⟨(u).toArray⟩, .slice A0_1 n0_1 c0_1], .agg #[.string ⟨(x).toArray⟩, .slice A1_1 n1_1 c1_1]] R (Fr) (fun v l' => v = i6 r ∧ Fr = l') := by
 subst hn0_1; subst hn1_1; refine Spec.of Tryz.func81 rfl rfl ?_; unfold Q115.f at j; have j := brun j; refine At.seq (At.region ?_); refine At.box rfl rfl (cs := [.string ⟨(u).toArray⟩, .slice A0_1 p.length c0_1]) rfl rfl (fun D => ?_); refine At.box rfl rfl (cs := [.string ⟨(x).toArray⟩, .slice A1_1 q.length c1_1]) rfl rfl (fun E => ?_); refine At.run 1 rfl (nT (sR 1 rfl (At.y (Y.load rfl rfl (.s .z) rfl rfl rfl) rfl rfl rfl (At.run 1 rfl ?_)))); refine At.y (Y.load rfl rfl .z rfl rfl rfl) rfl rfl rfl ?_; obtain ⟨G, C, j⟩ := bbind j; refine At.call rfl Q106.callee rfl rfl rfl (Q106.spec C) ?_; rintro _ _ ⟨rfl, rfl⟩; refine At.run 1 rfl (nT (At.ret (At.drop .z (At.drop .z ?_)))); cases bret j; exact At.res (.inl rfl) rfl rfl ⟨rfl, rfl⟩

noncomputable def Q81.l0b (a0 : List Q5) (p : Int) : Option ((Int) ⊕ ((Unit) ⊕ (Bool))) :=
 if p < (a0.length : Int) then
 if (0 : Int) ≤ IntKind.i64.wrap (p - 1) ∧ IntKind.i64.wrap (p - 1) < (a0.length : Int) then
 if (0 : Int) ≤ p ∧ p < (a0.length : Int) then
 (Q115.f ((gt a0 (IntKind.i64.wrap (p - 1))).Name) ((gt a0 (IntKind.i64.wrap (p - 1))).States) ((gt a0 p).Name) ((gt a0 p).States)).bind fun q =>
 if 0 ≤ q then
 upL (some false)
 else
 nx (IntKind.i64.wrap (p + 1))
 else none
 else none
 else
 dn (.inl ())
noncomputable def Q81.l0 (a0 : List Q5) (p : Int) : Option ((Unit) ⊕ (Bool)) := iter (fun t_ : Int => Q81.l0b a0 t_) p
noncomputable def Q81.f (a0 : List Q5) : Option Bool :=
 jn (Q81.l0 a0 1) (fun (_ : Unit) =>
 some true)
theorem Q81.callee : Callee Tryz.prog 80 := ⟨_, Tryz.func80, by kernel_rfl, by kernel_rfl⟩
theorem Q81.spec {a0 : List Q5} (hr0 : RdS Q5.rep R.heap A0 a0) (hn0 : a0.length = n0) (hc0 : n0 ≤ c0) {r : Bool} (j : Q81.f a0 = some r) :
 Spec Tryz.prog 80 [.slice A0 n0 c0, .func (.func 81) #[] #[]] R (Fr) (fun v l' => v = .bool r ∧ Fr = l') := by
 subst hn0; refine Spec.of Tryz.func80 rfl rfl ?_; unfold Q81.f at j; have j := brun j; refine sR 1 rfl (nT (At.seq (At.seq (At.region ?_)))); refine At.run 1 rfl (nT ?_); refine At.block ?_; obtain ⟨L, M, N, j⟩ := bjoin j; obtain ⟨I, C, J⟩ := bsome j; clear j; unfold Q81.l0 at C; obtain ⟨D, q⟩ := Q14.1 C; clear C; refine At.loopJ (X := Int) (Y := Unit) (e0 := 0) (fun p => [(0, .slice A0 a0.length c0), (1, .func (.func 81) #[] #[]), (5, i6 p)]) (fun p => Fr) (fun m_ => fun p => iterN (fun t_ : Int => Q81.l0b a0 t_) m_ p = some I) D 1 q (fun _ => []) (fun _ => Fr) (fun _ => L (.inl ()) = some r) (fun a w e hs => ⟨e.sub ⟨rfl, rfl, rfl, trivial⟩, (by exact hs)⟩) ?_ (fun O => ?_)
 ·rintro _ j; have j := (M _).symm.trans j
  ·refine At.ibx ?_; refine At.thn (sR 1 rfl (nT (At.ret ?_))); cases bret j; exact At.res (.inl rfl) rfl rfl ⟨rfl, rfl⟩
 ·clear q D; rintro D p q; obtain ⟨U, f_, V, hf_, j⟩ := bit q; clear q; have j : (Q81.l0b a0 p).bind _ = some I := j; unfold Q81.l0b at j
  ·refine At.seq (sR 4 rfl (nT ?_)); rcases bite j with ⟨E, j⟩ | ⟨E, j⟩
   ··refine At.condT rfl (decide_eq_true E) ?_
     refine At.skip (At.thn (At.seq ?_)); refine At.block ?_; refine At.seq ?_; refine At.quiet (by kernel_rfl) ?_; refine At.Quiet.run 4 rfl ?_; obtain ⟨u, j⟩ := bnone j; refine At.Quiet.y (Y.ixRd hr0 rfl rfl rfl rfl rfl rfl rfl u.1 u.2) rfl rfl rfl ?_; obtain ⟨a9, Z, a1⟩ := RdS.whole (P := Tryz.prog) hr0 (Sub.refl _) rfl u.1 u.2; obtain ⟨_, _, rfl, rfl, ⟨b2, b3, rfl, a2, a3⟩⟩ := Z; refine At.Quiet.y (a1 rfl rfl rfl rfl) rfl rfl rfl ?_; refine At.Quiet.run 2 rfl ?_; obtain ⟨x, j⟩ := bnone j; refine At.Quiet.y (Y.ixRd hr0 rfl rfl rfl rfl rfl rfl rfl x.1 x.2) rfl rfl rfl ?_; obtain ⟨b4, a4, a5⟩ := RdS.whole (P := Tryz.prog) hr0 (Sub.refl _) rfl x.1 x.2; obtain ⟨_, _, rfl, rfl, ⟨b5, b6, rfl, a6, a7⟩⟩ := a4; refine At.Quiet.y (a5 rfl rfl rfl rfl) rfl rfl rfl ?_; obtain ⟨b7, a8, j⟩ := bbind j; refine At.Quiet.call rfl Q115.callee rfl rfl rfl (Q115.spec a3 rfl a2 a7 rfl a6 a8) (fun _ _ h_ => ⟨h_.1, fun _ hs => h_.2 ▸ hs⟩) ?_; refine At.Quiet.run 1 rfl (At.Quiet.nil (At.thn ?_)); rcases bite j with ⟨G, j⟩ | ⟨G, j⟩
     ··refine At.condT rfl (decide_eq_true G) ?_
       refine sR 1 rfl (nT (At.ret ?_)); refine At.ibr ?_; refine At.thr ?_; have j := bupL N J j; refine At.thr ?_; refine At.ibr ?_; refine At.thr ?_; cases bret j; exact At.res (.inl rfl) rfl rfl ⟨rfl, rfl⟩
     ··refine At.condF rfl (decide_eq_false G) ?_
       refine At.skip ?_; refine At.ibn ?_; refine At.thn (At.region (At.run 3 rfl (At.nil ?_))); have j := bnx hf_ j; exact fun a w e hs => ⟨U, (IntKind.i64.wrap (p + 1)), V, j, e.sub ⟨rfl, rfl, rfl, trivial⟩, hs⟩
   ··refine At.condF rfl (decide_eq_false E) ?_
     refine At.exit ?_; refine At.the ?_; refine At.the ?_; exact fun a w e hs => O () (bdn j J) a w (e.sub trivial) hs

noncomputable def Q38.l1b (u : Int) (x : List Bs) (C : List Q6) (q : List Q5) (p : Int) : Option ((Int) ⊕ ((Unit) ⊕ (Bool))) :=
 if p < (q.length : Int) then
 if (0 : Int) ≤ p ∧ p < (q.length : Int) then
 (Q88.f ((gt q p).Name)).bind fun D =>
 jn (
 if D = true then
 (Q78.f ((gt q p).States)).bind fun E =>
 some (.inl (!E))
 else
 some (.inl true)) (fun (G : Bool) =>
 jn (
 if G = true then
 some (.inl true)
 else
 (Q138.f ((gt q p).States) u x C q).bind fun I =>
 some (.inl I)) (fun (J : Bool) =>
 if J = true then
 upL (some false)
 else
 nx (IntKind.i64.wrap (p + 1))))
 else none
 else
 dn (.inl ())
noncomputable def Q38.l1 (p : Int) (q : List Bs) (u : List Q6) (x : List Q5) (C : Int) : Option ((Unit) ⊕ (Bool)) := iter (fun t_ : Int => Q38.l1b p q u x t_) C
noncomputable def Q38.l0b (x : Int) (u : List Bs) (p : List Q6) (C : List Q5) (D q : Int) : Option ((Int × Int) ⊕ ((Int) ⊕ (Bool))) :=
 if q < (p.length : Int) then
 if (0 : Int) ≤ q ∧ q < (p.length : Int) then
 (Q89.f ((gt p q).From) x u p C).bind fun E =>
 jn (
 if E = true then
 (Q89.f ((gt p q).To) x u p C).bind fun G =>
 some (.inl (!G))
 else
 some (.inl true)) (fun (I : Bool) =>
 jn (
 if I = true then
 some (.inl true)
 else
 some (.inl (decide ((gt p q).Action < 0)))) (fun (J : Bool) =>
 jn (
 if J = true then
 some (.inl true)
 else
 some (.inl (decide ((u.length : Int) ≤ (gt p q).Action)))) (fun (L : Bool) =>
 if L = true then
 upL (some false)
 else
 if (0 : Int) ≤ (gt p q).Action then
 nx (bor .u8 D (Bw.shl .u8 1 ((gt p q).Action)), IntKind.i64.wrap (q + 1))
 else none)))
 else none
 else
 dn (.inl D)
noncomputable def Q38.l0 (p : Int) (q : List Bs) (u : List Q6) (x : List Q5) (C D : Int) : Option ((Int) ⊕ (Bool)) := iter (fun t_ : Int × Int => Q38.l0b p q u x t_.1 t_.2) (C, D)
noncomputable def Q38.f (q : Int) (p : List Bs) (u : List Q6) (x : List Q5) : Option Bool :=
 jn (
 if q < 1 then
 some (.inl true)
 else
 some (.inl (decide (24 < q)))) (fun (C : Bool) =>
 jn (
 if C = true then
 some (.inl true)
 else
 some (.inl (decide (8 < (p.length : Int))))) (fun (D : Bool) =>
 jn (
 if D = true then
 some (.inl true)
 else
 some (.inl (decide (8 < (x.length : Int))))) (fun (E : Bool) =>
 jn (
 if E = true then
 some (.inl true)
 else
 some (.inl (decide (200 < (u.length : Int))))) (fun (G : Bool) =>
 if G = true then
 some false
 else
 jn (Q38.l0 q p u x 0 0) (fun (I : Int) =>
 jn (Q38.l1 q p u x 0) (fun (_ : Unit) =>
 (Q140.f p).bind fun J =>
 jn (
 if J = true then
 some (.inl true)
 else
 if (0 : Int) ≤ (p.length : Int) then
 some (.inl (!(decide (I = IntKind.u8.wrap ((Bw.shl .u8 1 (p.length : Int)) - 1)))))
 else none) (fun (L : Bool) =>
 if L = true then
 some false
 else
 (Q62.f u).bind fun M =>
 jn (
 if M = true then
 (Q72.f p).bind fun N =>
 some (.inl N)
 else
 some (.inl false)) (fun (O : Bool) =>
 jn (
 if O = true then
 (Q81.f x).bind fun U =>
 some (.inl U)
 else
 some (.inl false)) (fun (V : Bool) =>
 some V)))))))))
theorem Q38.callee : Callee Tryz.prog 32 := ⟨_, Tryz.func32, by kernel_rfl, by kernel_rfl⟩
theorem Q38.spec {I : Int} {C : List Bs} {p : List Q6} {u : List Q5} (hr0_1 : RdS Fl.bs.rep R.heap A0_1 C) (hn0_1 : C.length = n0_1) (hc0_1 : n0_1 ≤ c0_1) (hr0_2 : RdS Q6.fl.rep R.heap A0_2 p) (hn0_2 : p.length = n0_2) (hc0_2 : n0_2 ≤ c0_2) (hr0_3 : RdS Q5.rep R.heap A0_3 u) (hn0_3 : u.length = n0_3) (hc0_3 : n0_3 ≤ c0_3) {r : Bool} (j : Q38.f I C p u = some r) :
 Spec Tryz.prog 32 [.agg #[i6 I, .slice A0_1 n0_1 c0_1, .slice A0_2 n0_2 c0_2, .slice A0_3 n0_3 c0_3]] R (Fr) (fun v l' => v = .bool r ∧ Fr = l') := by
 subst hn0_1; subst hn0_2; subst hn0_3; refine Spec.of Tryz.func32 rfl rfl ?_; unfold Q38.f at j; have j := brun j; refine At.seq (At.region ?_); refine At.box rfl rfl (cs := [i6 I, .slice A0_1 C.length c0_1, .slice A0_2 p.length c0_2, .slice A0_3 u.length c0_3]) rfl rfl (fun x => ?_); refine At.run 1 rfl (nT (At.seq (sR 1 rfl (At.y (Y.load rfl rfl .z rfl rfl rfl) rfl rfl rfl ?_)))); refine At.run 2 rfl ?_; obtain ⟨g1, g2, p1, j⟩ := bjoin j; let T4 : HProp := pc x [i6 I, .slice A0_1 C.length c0_1, .slice A0_2 p.length c0_2, .slice A0_3 u.length c0_3] 26; refine At.joinO 4 (X := Bool) (fun M => [(1, bp x), (16, .bool M)]) (fun M => T4 :: Fr) (fun M => g1 (.inl M) = some r) ?_ (fun e2 => ?_)
 ·rintro M j; have j := (g2 _).symm.trans j
  ·refine At.run 1 rfl ?_; obtain ⟨g3, g4, p2, j⟩ := bjoin j; refine At.joinO 5 (X := Bool) (fun N => [(1, bp x), (22, .bool N)]) (fun N => T4 :: Fr) (fun N => g3 (.inl N) = some r) ?_ (fun e3 => ?_)
   ·rintro N j; have j := (g4 _).symm.trans j
    ·refine At.run 1 rfl ?_; obtain ⟨g5, g6, p3, j⟩ := bjoin j; refine At.joinO 5 (X := Bool) (fun O => [(1, bp x), (28, .bool O)]) (fun O => T4 :: Fr) (fun O => g5 (.inl O) = some r) ?_ (fun e4 => ?_)
     ·rintro O j; have j := (g6 _).symm.trans j
      ·refine At.run 1 rfl ?_; obtain ⟨g7, g8, p4, j⟩ := bjoin j; refine At.joinO 5 (X := Bool) (fun U => [(1, bp x), (34, .bool U)]) (fun U => T4 :: Fr) (fun U => g7 (.inl U) = some r) ?_ (fun e5 => ?_)
       ·rintro U j; have j := (g8 _).symm.trans j
        ·refine nT ?_; rcases bite j with ⟨b5, j⟩ | ⟨b5, j⟩
         ··refine At.condT rfl b5 ?_
           refine sR 1 rfl (nT (At.ret (At.thr (At.drop .z ?_)))); cases bret j; exact At.res (.inl rfl) rfl rfl ⟨rfl, rfl⟩
         ··refine At.condF rfl (bn b5) ?_
           refine At.skip (At.thn (sR 1 rfl ?_)); refine At.alloc rfl rfl rfl (fun J => ?_); refine At.store rfl rfl rfl rfl .z rfl rfl rfl (.c .n) ?_; refine nT (sR 1 rfl (nT (At.seq ?_))); refine sR 1 rfl (At.y (Y.load rfl rfl (.s .z) rfl rfl rfl) rfl rfl rfl (At.run 2 rfl (nT ?_))); refine At.block ?_; obtain ⟨g9, h0, h1, j⟩ := bjoin j; obtain ⟨V, b6, e6⟩ := bsome j; clear j; unfold Q38.l0 at b6; obtain ⟨b7, Z⟩ := Q14.1 b6; clear b6; let T5 : HProp := pc J [.func (.func 68) #[] #[bp x]] 50; refine At.loopJ (X := Int × Int) (Y := Int) (e0 := 0) (fun s_ => [(1, bp x), (3, bp J), (4, .int .u8 s_.1), (37, .slice A0_2 p.length c0_2), (38, i6 (p.length : Int)), (39, i6 s_.2)]) (fun s_ => T5 :: T4 :: Fr) (fun m_ => fun s_ => iterN (fun t_ : Int × Int => Q38.l0b I C p u t_.1 t_.2) m_ (s_.1, s_.2) = some V) b7 (0, 0) Z (fun G => [(1, bp x), (3, bp J), (4, .int .u8 G)]) (fun G => T5 :: T4 :: Fr) (fun G => g9 (.inl G) = some r) (fun a w e hs => ⟨e.sub ⟨rfl, rfl, rfl, rfl, rfl, rfl, trivial⟩, (by exact hs)⟩) ?_ (fun h2 => ?_)
           ·rintro G j; have j := (h0 _).symm.trans j
            ·refine At.ibx ?_; refine At.thn (At.seq (sR 1 rfl (At.y (Y.load rfl rfl (.s .z) rfl rfl rfl) rfl rfl rfl (At.run 2 rfl (At.nil ?_))))); refine At.thn ?_; refine At.block ?_; obtain ⟨h3, h4, h5, j⟩ := bjoin j; obtain ⟨a9, b8, e7⟩ := bsome j; clear j; unfold Q38.l1 at b8; obtain ⟨b9, a0⟩ := Q14.1 b8; clear b8; refine At.loopJ (X := Int) (Y := Unit) (e0 := 2) (fun D => [(1, bp x), (3, bp J), (4, .int .u8 G), (75, .slice A0_3 u.length c0_3), (76, i6 (u.length : Int)), (77, i6 D)]) (fun D => T5 :: T4 :: Fr) (fun m_ => fun D => iterN (fun t_ : Int => Q38.l1b I C p u t_) m_ D = some a9) b9 0 a0 (fun _ => [(1, bp x), (4, .int .u8 G)]) (fun _ => T5 :: T4 :: Fr) (fun _ => h3 (.inl ()) = some r) (fun a w e hs => ⟨e.sub ⟨rfl, rfl, rfl, rfl, rfl, rfl, trivial⟩, (by exact hs)⟩) ?_ (fun h6 => ?_)
             ·rintro _ j; have j := (h4 _).symm.trans j
              ·refine At.ibx ?_; refine At.thn (At.seq (sR 1 rfl (At.y (Y.load rfl rfl (.s .z) rfl rfl rfl) rfl rfl rfl ?_))); obtain ⟨p5, h7, j⟩ := bbind j; refine At.call rfl Q140.callee rfl rfl rfl (Q140.spec hr0_1 rfl hc0_1 h7) ?_; rintro _ _ ⟨rfl, rfl⟩; refine At.run 1 rfl ?_; obtain ⟨h8, h9, p6, j⟩ := bjoin j; refine At.joinO 8 (X := Bool) (fun a1 => [(1, bp x), (109, .bool a1)]) (fun a1 => T5 :: T4 :: Fr) (fun a1 => h8 (.inl a1) = some r) ?_ (fun e8 => ?_)
               ·rintro a1 j; have j := (h9 _).symm.trans j
                ·refine nT ?_; rcases bite j with ⟨c4, j⟩ | ⟨c4, j⟩
                 ··refine At.condT rfl c4 ?_
                   refine sR 1 rfl (nT (At.ret (At.thr (At.drop .z ?_)))); refine At.drop .z ?_; cases bret j; exact At.res (.inl rfl) rfl rfl ⟨rfl, rfl⟩
                 ··refine At.condF rfl (bn c4) ?_
                   refine At.skip (At.thn (sR 1 rfl (At.y (Y.load rfl rfl (.s .z) rfl rfl rfl) rfl rfl rfl ?_))); obtain ⟨p7, k0, j⟩ := bbind j; refine At.call rfl Q62.callee rfl rfl rfl (Q62.spec hr0_2 rfl hc0_2 k0) ?_; rintro _ _ ⟨rfl, rfl⟩; refine At.run 1 rfl ?_; obtain ⟨k1, k2, p8, j⟩ := bjoin j; refine At.joinO 4 (X := Bool) (fun a2 => [(1, bp x), (117, .bool a2)]) (fun a2 => T5 :: T4 :: Fr) (fun a2 => k1 (.inl a2) = some r) ?_ (fun e9 => ?_)
                   ·rintro a2 j; have j := (k2 _).symm.trans j
                    ·refine At.run 1 rfl ?_; obtain ⟨k3, k4, p9, j⟩ := bjoin j; refine At.joinO 4 (X := Bool) (fun a3 => [(122, .bool a3)]) (fun a3 => T5 :: T4 :: Fr) (fun a3 => k3 (.inl a3) = some r) ?_ (fun f0 => ?_)
                     ·rintro a3 j; have j := (k4 _).symm.trans j
                      ·refine At.run 1 rfl (nT (At.ret (At.drop .z (At.drop .z ?_)))); cases bret j; exact At.res (.inl rfl) rfl rfl ⟨rfl, rfl⟩
                     ··rcases bite j with ⟨c5, j⟩ | ⟨c5, j⟩
                       ··refine At.know (t := 118) rfl c5 ?_
                         refine At.run 1 rfl (At.y (Y.load rfl rfl (.s .z) rfl rfl rfl) rfl rfl rfl ?_); obtain ⟨k5, k6, j⟩ := bbind j; refine At.call rfl Q81.callee rfl rfl rfl (Q81.spec hr0_3 rfl hc0_3 k6) ?_; rintro _ _ ⟨rfl, rfl⟩; refine At.run 1 rfl ?_; exact At.of (f0 k5 j) ⟨rfl, trivial⟩
                       ··refine At.know (t := 118) rfl (bn c5) ?_
                         refine At.run 4 rfl ?_; exact At.of (f0 false j) ⟨rfl, trivial⟩
                   ··rcases bite j with ⟨c6, j⟩ | ⟨c6, j⟩
                     ··refine At.know (t := 113) rfl c6 ?_
                       refine At.run 1 rfl (At.y (Y.load rfl rfl (.s .z) rfl rfl rfl) rfl rfl rfl ?_); obtain ⟨k7, k8, j⟩ := bbind j; refine At.call rfl Q72.callee rfl rfl rfl (Q72.spec hr0_1 rfl hc0_1 k8) ?_; rintro _ _ ⟨rfl, rfl⟩; refine At.run 1 rfl ?_; exact At.of (e9 k7 j) ⟨rfl, rfl, trivial⟩
                     ··refine At.know (t := 113) rfl (bn c6) ?_
                       refine At.run 4 rfl ?_; exact At.of (e9 false j) ⟨rfl, rfl, trivial⟩
               ··rcases bite j with ⟨c7, j⟩ | ⟨c7, j⟩
                 ··refine At.know (t := 101) rfl c7 ?_
                   refine At.run 8 rfl ?_; exact At.of (e8 true j) ⟨rfl, rfl, trivial⟩
                 ··refine At.know (t := 101) rfl (bn c7) ?_
                   refine At.run 2 rfl (At.y (Y.load rfl rfl (.s .z) rfl rfl rfl) rfl rfl rfl (At.run 1 rfl ?_)); obtain ⟨k9, j⟩ := bnone j; refine At.y (Y.shl rfl rfl k9) rfl rfl rfl (At.run 3 rfl ?_); exact At.of (e8 (!(decide (G = IntKind.u8.wrap ((Bw.shl .u8 1 (C.length : Int)) - 1)))) j) ⟨rfl, rfl, trivial⟩
             ·clear a0 b9; rintro b9 D a0; obtain ⟨l5, f_, l6, hf_, j⟩ := bit a0; clear a0; have j : (Q38.l1b I C p u D).bind _ = some a9 := j; unfold Q38.l1b at j
              ·refine sR 1 rfl (nT (At.seq ?_)); rcases bite j with ⟨c8, j⟩ | ⟨c8, j⟩
               ··refine At.condT rfl (decide_eq_true c8) ?_
                 refine At.skip (At.thn (At.seq ?_)); refine At.block ?_; refine At.seq (At.region ?_); obtain ⟨b2, j⟩ := bnone j; refine At.y (Y.ixRd hr0_3 rfl rfl rfl rfl rfl rfl rfl b2.1 b2.2) rfl rfl rfl ?_; obtain ⟨q0, l7, l8⟩ := RdS.whole (P := Tryz.prog) hr0_3 (Sub.refl _) rfl b2.1 b2.2; obtain ⟨_, _, rfl, rfl, ⟨l9, m0, rfl, f3, f4⟩⟩ := l7; refine At.y (l8 rfl rfl rfl rfl) rfl rfl rfl ?_; refine At.alloc rfl rfl rfl (fun f5 => ?_); refine At.store rfl rfl rfl rfl .z rfl rfl rfl (.c (.c .n)) ?_; refine nT (sR 1 rfl (At.y (Y.load rfl rfl .z rfl rfl rfl) rfl rfl rfl ?_)); obtain ⟨q1, m1, j⟩ := bbind j; refine At.call rfl Q88.callee rfl rfl rfl (Q88.spec m1) ?_; rintro _ _ ⟨rfl, rfl⟩; refine At.run 2 rfl ?_; obtain ⟨m2, m3, q2, j⟩ := bjoin j; let T6 : HProp := pc f5 [.string ⟨((gt u D).Name).toArray⟩, .slice l9 ((gt u D).States.length) m0] 41; refine At.joinO 5 (X := Bool) (fun a4 => [(1, bp x), (3, bp J), (4, .int .u8 G), (8, bp f5), (75, .slice A0_3 u.length c0_3), (76, i6 (u.length : Int)), (77, i6 D), (90, .bool a4)]) (fun a4 => T6 :: T5 :: T4 :: Fr) (fun a4 => m2 (.inl a4) = some a9) ?_ (fun f6 => ?_)
                 ·rintro a4 j; have j := (m3 _).symm.trans j
                  ·refine At.run 1 rfl ?_; obtain ⟨m4, m5, q3, j⟩ := bjoin j; refine At.joinO 5 (X := Bool) (fun a5 => [(1, bp x), (3, bp J), (4, .int .u8 G), (75, .slice A0_3 u.length c0_3), (76, i6 (u.length : Int)), (77, i6 D), (96, .bool a5)]) (fun a5 => T6 :: T5 :: T4 :: Fr) (fun a5 => m4 (.inl a5) = some a9) ?_ (fun f7 => ?_)
                   ·rintro a5 j; have j := (m5 _).symm.trans j
                    ·refine nT ?_; rcases bite j with ⟨c9, j⟩ | ⟨c9, j⟩
                     ··refine At.condT rfl c9 ?_
                       refine sR 1 rfl (nT (At.ret ?_)); refine At.ibr ?_; refine At.thr ?_; have j := bupL h5 e7 j; refine At.thr ?_; refine At.ibr ?_; refine At.thr (At.drop .z (At.drop .z (At.drop .z ?_))); cases bret j; exact At.res (.inl rfl) rfl rfl ⟨rfl, rfl⟩
                     ··refine At.condF rfl (bn c9) ?_
                       refine At.skip ?_; refine At.ibn ?_; refine At.thn (At.region (At.run 2 rfl (At.nil (At.drop .z ?_)))); have j := bnx hf_ j; exact fun a w e hs => ⟨l5, (IntKind.i64.wrap (D + 1)), l6, j, e.sub ⟨rfl, rfl, rfl, rfl, rfl, rfl, trivial⟩, hs⟩
                   ··rcases bite j with ⟨d0, j⟩ | ⟨d0, j⟩
                     ··refine At.know (t := 91) rfl d0 ?_
                       refine At.run 5 rfl ?_; exact At.of (f7 true j) ⟨rfl, rfl, rfl, rfl, rfl, rfl, rfl, trivial⟩
                     ··refine At.know (t := 91) rfl (bn d0) ?_
                       refine At.run 1 rfl (At.y (Y.load rfl rfl .z rfl rfl rfl) rfl rfl rfl (At.run 1 rfl (At.f2 (At.f2 ?_)))); obtain ⟨m6, m7, j⟩ := bbind j; refine At.call rfl Q138.callee rfl rfl rfl (Q138.spec f4 rfl f3 hr0_1 rfl hc0_1 hr0_2 rfl hc0_2 hr0_3 rfl hc0_3 m7) ?_; rintro _ _ ⟨rfl, rfl⟩; refine At.run 1 rfl (At.f1 (At.f1 (At.f2 ?_))); exact At.of (f7 m6 j) ⟨rfl, rfl, rfl, rfl, rfl, rfl, rfl, trivial⟩
                 ··rcases bite j with ⟨d1, j⟩ | ⟨d1, j⟩
                   ··refine At.know (t := 85) rfl (nf d1) ?_
                     refine At.run 1 rfl (At.y (Y.load rfl rfl .z rfl rfl rfl) rfl rfl rfl ?_); obtain ⟨m8, m9, j⟩ := bbind j; refine At.call rfl Q78.callee rfl rfl rfl (Q78.spec f4 rfl f3 m9) ?_; rintro _ _ ⟨rfl, rfl⟩; refine At.run 2 rfl ?_; exact At.of (f6 (!m8) j) ⟨rfl, rfl, rfl, rfl, rfl, rfl, rfl, rfl, trivial⟩
                   ··refine At.know (t := 85) rfl (nt (bn d1)) ?_
                     refine At.run 5 rfl ?_; exact At.of (f6 true j) ⟨rfl, rfl, rfl, rfl, rfl, rfl, rfl, rfl, trivial⟩
               ··refine At.condF rfl (decide_eq_false c8) ?_
                 refine At.exit ?_; refine At.the ?_; refine At.the ?_; exact fun a w e hs => h6 () (bdn j e7) a w (e.sub ⟨rfl, rfl, trivial⟩) hs
           ·clear Z b7; rintro b7 ⟨L, E⟩ Z; obtain ⟨n2, f_, n4, hf_, j⟩ := bit Z; clear Z; have j : (Q38.l0b I C p u L E).bind _ = some V := j; unfold Q38.l0b at j
            ·refine sR 1 rfl (nT (At.seq ?_)); rcases bite j with ⟨d2, j⟩ | ⟨d2, j⟩
             ··refine At.condT rfl (decide_eq_true d2) ?_
               refine At.skip (At.thn (At.seq ?_)); refine At.block ?_; refine At.seq (At.region ?_); obtain ⟨b3, j⟩ := bnone j; refine At.y (Y.ixRd hr0_2 rfl rfl rfl rfl rfl rfl rfl b3.1 b3.2) rfl rfl rfl (At.y (Y.ldFl hr0_2 rfl (q := 0) rfl rfl b3.1 b3.2 rfl rfl rfl) rfl rfl rfl ?_); refine At.alloc rfl rfl rfl (fun b4 => ?_); refine At.store rfl rfl rfl rfl .z rfl rfl rfl (.c (.c (.c .n))) ?_; refine nT (At.seq (At.seq (At.region (At.y (Y.load rfl rfl (.s .z) rfl rfl rfl) rfl rfl rfl (At.run 1 rfl (At.y (Y.load rfl rfl .z rfl rfl rfl) rfl rfl rfl ?_)))))); refine At.f2 ?_; obtain ⟨q4, n5, j⟩ := bbind j; refine At.call rfl Q89.callee rfl rfl rfl (Q89.spec hr0_1 rfl hc0_1 hr0_2 rfl hc0_2 hr0_3 rfl hc0_3 n5) ?_; rintro _ _ ⟨rfl, rfl⟩; refine At.run 2 rfl ?_; obtain ⟨n6, n7, q5, j⟩ := bjoin j; let T7 : HProp := pc b4 [i6 ((gt p E).From), i6 ((gt p E).Action), i6 ((gt p E).To)] 48; refine At.joinO 6 (X := Bool) (fun a6 => [(1, bp x), (3, bp J), (4, .int .u8 L), (6, bp b4), (37, .slice A0_2 p.length c0_2), (38, i6 (p.length : Int)), (39, i6 E), (54, .bool a6)]) (fun a6 => T4 :: T7 :: T5 :: Fr) (fun a6 => n6 (.inl a6) = some V) ?_ (fun f8 => ?_)
               ·rintro a6 j; have j := (n7 _).symm.trans j
                ·refine At.run 1 rfl ?_; obtain ⟨n8, n9, q6, j⟩ := bjoin j; refine At.joinO 4 (X := Bool) (fun a7 => [(1, bp x), (3, bp J), (4, .int .u8 L), (6, bp b4), (37, .slice A0_2 p.length c0_2), (38, i6 (p.length : Int)), (39, i6 E), (59, .bool a7)]) (fun a7 => T4 :: T7 :: T5 :: Fr) (fun a7 => n8 (.inl a7) = some V) ?_ (fun f9 => ?_)
                 ·rintro a7 j; have j := (n9 _).symm.trans j
                  ·refine At.run 1 rfl ?_; obtain ⟨o0, o7, q7, j⟩ := bjoin j; refine At.joinO 7 (X := Bool) (fun a8 => [(1, bp x), (3, bp J), (4, .int .u8 L), (6, bp b4), (37, .slice A0_2 p.length c0_2), (38, i6 (p.length : Int)), (39, i6 E), (67, .bool a8)]) (fun a8 => T4 :: T7 :: T5 :: Fr) (fun a8 => o0 (.inl a8) = some V) ?_ (fun g0 => ?_)
                   ·rintro a8 j; have j := (o7 _).symm.trans j
                    ·refine nT ?_; rcases bite j with ⟨d3, j⟩ | ⟨d3, j⟩
                     ··refine At.condT rfl d3 ?_
                       refine sR 1 rfl (nT (At.ret (At.thr ?_))); refine At.ibr ?_; refine At.thr ?_; have j := bupL h1 e6 j; refine At.thr ?_; refine At.ibr ?_; refine At.thr (At.drop .z (At.drop .z (At.drop .z ?_))); cases bret j; exact At.res (.inl rfl) rfl rfl ⟨rfl, rfl⟩
                     ··refine At.condF rfl (bn d3) ?_
                       refine At.skip (At.thn (At.region (At.run 2 rfl (At.y (Y.load rfl rfl (.s .z) rfl rfl rfl) rfl rfl rfl ?_)))); obtain ⟨o8, j⟩ := bnone j; refine At.y (Y.shl rfl rfl o8) rfl rfl rfl (At.run 2 rfl (At.nil ?_)); refine At.ibn ?_; refine At.thn (At.region (At.run 2 rfl (At.nil (At.drop (.s .z) (At.f1 ?_))))); have j := bnx hf_ j; exact fun a w e hs => ⟨n2, (bor .u8 L (Bw.shl .u8 1 ((gt p E).Action)), IntKind.i64.wrap (E + 1)), n4, j, e.sub ⟨rfl, rfl, rfl, rfl, rfl, rfl, trivial⟩, hs⟩
                   ··rcases bite j with ⟨d4, j⟩ | ⟨d4, j⟩
                     ··refine At.know (t := 60) rfl d4 ?_
                       refine At.run 7 rfl ?_; exact At.of (g0 true j) ⟨rfl, rfl, rfl, rfl, rfl, rfl, rfl, rfl, trivial⟩
                     ··refine At.know (t := 60) rfl (bn d4) ?_
                       refine At.run 1 rfl (At.y (Y.load rfl rfl (.s .z) rfl rfl rfl) rfl rfl rfl (At.run 1 rfl (At.y (Y.load rfl rfl .z rfl rfl rfl) rfl rfl rfl (At.run 3 rfl ?_)))); exact At.of (g0 (decide ((C.length : Int) ≤ (gt p E).Action)) j) ⟨rfl, rfl, rfl, rfl, rfl, rfl, rfl, rfl, trivial⟩
                 ··rcases bite j with ⟨d5, j⟩ | ⟨d5, j⟩
                   ··refine At.know (t := 55) rfl d5 ?_
                     refine At.run 4 rfl ?_; exact At.of (f9 true j) ⟨rfl, rfl, rfl, rfl, rfl, rfl, rfl, rfl, trivial⟩
                   ··refine At.know (t := 55) rfl (bn d5) ?_
                     refine At.run 1 rfl (At.y (Y.load rfl rfl (.s .z) rfl rfl rfl) rfl rfl rfl (At.run 2 rfl ?_)); exact At.of (f9 (decide ((gt p E).Action < 0)) j) ⟨rfl, rfl, rfl, rfl, rfl, rfl, rfl, rfl, trivial⟩
               ··rcases bite j with ⟨d6, j⟩ | ⟨d6, j⟩
                 ··refine At.know (t := 48) rfl (nf d6) ?_
                   refine At.y (Y.load rfl rfl (.s (.s .z)) rfl rfl rfl) rfl rfl rfl (At.run 1 rfl (At.y (Y.load rfl rfl (.s .z) rfl rfl rfl) rfl rfl rfl ?_)); obtain ⟨o9, p0, j⟩ := bbind j; refine At.call rfl Q89.callee rfl rfl rfl (Q89.spec hr0_1 rfl hc0_1 hr0_2 rfl hc0_2 hr0_3 rfl hc0_3 p0) ?_; rintro _ _ ⟨rfl, rfl⟩; refine At.run 2 rfl ?_; exact At.of (f8 (!o9) j) ⟨rfl, rfl, rfl, rfl, rfl, rfl, rfl, rfl, trivial⟩
                 ··refine At.know (t := 48) rfl (nt (bn d6)) ?_
                   refine At.run 6 rfl ?_; exact At.of (f8 true j) ⟨rfl, rfl, rfl, rfl, rfl, rfl, rfl, rfl, trivial⟩
             ··refine At.condF rfl (decide_eq_false d2) ?_
               refine At.exit ?_; refine At.the ?_; refine At.the ?_; exact fun a w e hs => h2 L (bdn j e6) a w (e.sub ⟨rfl, rfl, rfl, trivial⟩) hs
       ··rcases bite j with ⟨d7, j⟩ | ⟨d7, j⟩
         ··refine At.know (t := 29) rfl d7 ?_
           refine At.run 5 rfl ?_; exact At.of (e5 true j) ⟨rfl, rfl, trivial⟩
         ··refine At.know (t := 29) rfl (bn d7) ?_
           refine At.run 1 rfl (At.y (Y.load rfl rfl .z rfl rfl rfl) rfl rfl rfl (At.run 3 rfl ?_)); exact At.of (e5 (decide (200 < (p.length : Int))) j) ⟨rfl, rfl, trivial⟩
     ··rcases bite j with ⟨d8, j⟩ | ⟨d8, j⟩
       ··refine At.know (t := 23) rfl d8 ?_
         refine At.run 5 rfl ?_; exact At.of (e4 true j) ⟨rfl, rfl, trivial⟩
       ··refine At.know (t := 23) rfl (bn d8) ?_
         refine At.run 1 rfl (At.y (Y.load rfl rfl .z rfl rfl rfl) rfl rfl rfl (At.run 3 rfl ?_)); exact At.of (e4 (decide (8 < (u.length : Int))) j) ⟨rfl, rfl, trivial⟩
   ··rcases bite j with ⟨d9, j⟩ | ⟨d9, j⟩
     ··refine At.know (t := 17) rfl d9 ?_
       refine At.run 5 rfl ?_; exact At.of (e3 true j) ⟨rfl, rfl, trivial⟩
     ··refine At.know (t := 17) rfl (bn d9) ?_
       refine At.run 1 rfl (At.y (Y.load rfl rfl .z rfl rfl rfl) rfl rfl rfl (At.run 3 rfl ?_)); exact At.of (e3 (decide (8 < (C.length : Int))) j) ⟨rfl, rfl, trivial⟩
 ··rcases bite j with ⟨e1, j⟩ | ⟨e1, j⟩
   ··refine At.know (t := 12) rfl (decide_eq_true e1) ?_
     refine At.run 4 rfl ?_; exact At.of (e2 true j) ⟨rfl, rfl, trivial⟩
   ··refine At.know (t := 12) rfl (decide_eq_false e1) ?_
     refine At.run 1 rfl (At.y (Y.load rfl rfl .z rfl rfl rfl) rfl rfl rfl (At.run 2 rfl ?_)); exact At.of (e2 (decide (24 < I)) j) ⟨rfl, rfl, trivial⟩






end Go.Bw
namespace Go.Bw
open Go Go.RowKit

theorem TypeOk.map {P : Program} {t : Nat} {i : TI} (h : TypeOk P t i) {k e : Nat} (hk : i.k = .map k e) : P.underlying t = some (.map k e) := by
 obtain ⟨d, hd, hk'⟩ := h.under; rw [hk] at hk'; cases d <;> simp [tk] at hk'; rw [hk'.1, hk'.2] at hd; exact hd
def Fl.ov {α : Type} (F : Fl α) (x : α) : Value := (F.enc x).headD .nilFunc
def Fl.av {α : Type} (F : Fl α) (x : α) : Value := .agg (F.enc x).toArray
section
variable {κ ν : Type}
def mget [DecidableEq κ] : List (κ × ν) → κ → Option ν
 | [], _ => none
 | p :: r, k => if p.1 = k then some p.2 else mget r k
def mset [DecidableEq κ] : List (κ × ν) → κ → ν → List (κ × ν)
 | [], k, v => [(k, v)]
 | p :: r, k, v => if p.1 = k then (k, v) :: r else p :: mset r k v
structure KeyOk (P : Program) (t : Nat) (kv : κ → Value) [DecidableEq κ] : Prop where
 chk : ∀ k w em, (Instr.checkKey em 10000 t (kv k)).run P w = .ok () w
 find : ∀ (es : List MapEntry) (ks : List κ) k w, es.map (·.key) = ks.map kv → (Instr.findKey t (kv k) es).run P w = .ok ((ks.findIdx? (fun a => decide (a = k))).bind fun i => es[i]?.map fun e => (i, e.val)) w
 same : ∀ k, Instr.sameBits 10000 (kv k) (kv k) = true
def mapo (kv : κ → Value) (vv : ν → Value) (b : Nat) (kvs : List (κ × ν)) : HProp := fun h =>
 ∃ (es : List MapEntry) (clock : Nat), h b = some (.map es.toArray clock) ∧ es.map (fun e => (e.key, e.val)) = kvs.map (fun p => (kv p.1, vv p.2)) ∧ es.Pairwise (fun x y => x.born < y.born) ∧ ∀ e ∈ es, e.born < clock
theorem Q227 (s : Bs) : ∀ (es : List MapEntry) (ks : List Bs) (i : Nat), es.map (·.key) = ks.map (fun x => Value.string ⟨x.toArray⟩) →
 Instr.findNow .string (.string ⟨s.toArray⟩) es i = some ((ks.findIdx? (fun a => decide (a = s))).bind fun j => es[j]?.map fun e => (i + j, e.val))
 | [], [], _, _ => rfl
 | [], _ :: _, _, h => by simp at h
 | _ :: _, [], _, h => by simp at h
 | e :: es, k :: ks, i, h => by
  simp only [List.map_cons, List.cons.injEq] at h
  unfold Instr.findNow
  have hb : ((ByteArray.mk s.toArray) == (ByteArray.mk k.toArray)) = decide (k = s) := by
   rw [Q171]
   by_cases hks : k = s
   ·subst hks; rw [decide_eq_true rfl]; exact Q158.2 rfl
   ·rw [decide_eq_false hks]
    exact Bool.eq_false_iff.2 fun hc => hks (Q158.1 hc).symm
  rw [h.1]
  simp only [Instr.sameNow, hb]
  rw [List.findIdx?_cons]
  by_cases hks : k = s
  ·rw [decide_eq_true hks]
   simp
  ·rw [decide_eq_false hks]
   simp only [Bool.false_eq_true, if_false]
   rw [Q227 s es ks (i + 1) h.2]
   cases hf : ks.findIdx? (fun a => decide (a = s)) with
   | none => rfl
   | some j =>
    simp
    congr 1
    funext e
    congr 1
    omega
theorem KeyOk.str {P : Program} [Tys P] {t : Nat} {i : TI} (hi : ti P t = some i) (hk : i.k = .string) : KeyOk P t Fl.bs.ov := by
 have hu := (Q12 hi).string hk
 refine ⟨fun k w em => ?_, fun es ks k w h => ?_, fun k => ?_⟩
 ·exact MapKept.run_checkKey (k := .string ⟨k.toArray⟩) hu (by simp [MapKept.IsKey]) em 9999
 ·have := Q227 k es ks 0 h
  simp only [Nat.zero_add] at this
  exact MapKept.run_findKey (k := .string ⟨k.toArray⟩) hu this
 ·show Instr.sameBits (9999 + 1) (.string ⟨k.toArray⟩) (.string ⟨k.toArray⟩) = true
  simp only [Instr.sameBits]
  rw [Q171]
  exact Q158.2 rfl
theorem Q234 [DecidableEq κ] {kv : κ → Value} {vv : ν → Value} : ∀ {es : List MapEntry} {kvs : List (κ × ν)} {k : κ}, es.map (fun e => (e.key, e.val)) = kvs.map (fun p => (kv p.1, vv p.2)) →
 (((kvs.map (·.1)).findIdx? (fun a => decide (a = k))).bind fun i => es[i]?.map fun e => (i, e.val)).map (·.2) = (mget kvs k).map vv
 | [], [], _, _ => rfl
 | [], _ :: _, _, h => by simp at h
 | _ :: _, [], _, h => by simp at h
 | e :: es, p :: kvs, k, h => by
  simp only [List.map_cons, List.cons.injEq, Prod.mk.injEq] at h
  rw [List.map_cons, List.findIdx?_cons]
  unfold mget
  by_cases hk : p.1 = k
  ·rw [if_pos hk, decide_eq_true hk]
   simp [h.1.2]
  ·rw [if_neg hk, decide_eq_false hk]
   simp only [Bool.false_eq_true, if_false]
   rw [← Q234 (k := k) h.2]
   cases (kvs.map (·.1)).findIdx? (fun a => decide (a = k)) with
   | none => rfl
   | some j => simp; rfl
theorem Q175 {kv : κ → Value} {vv : ν → Value} {es : List MapEntry} {kvs : List (κ × ν)} (h : es.map (fun e => (e.key, e.val)) = kvs.map (fun p => (kv p.1, vv p.2))) : es.map (·.key) = (kvs.map (·.1)).map kv := by
 have := congrArg (List.map (·.1)) h
 simpa [List.map_map, Function.comp_def] using this
end
section
variable {P : Program} [Tys P] {os : List Oper} {Q : Exit → Act → World → Prop} {rest : List Oper} {n : Nat} {ds : List Deferred} {R : Res} {env : List (Nat × Value)} {l l' : List HProp}
variable {d ty : Nat} {pos : String} {af : Array Edge} {g : Option (Nat × Bool)} {κ ν : Type} [DecidableEq κ] {kv : κ → Value} {vv : ν → Value} {kvs : List (κ × ν)} {b t kt et : Nat} {K : Act → World → Prop} {dd : Option Nat}
theorem Q170 {w : World} (hs : sat R (mapo kv vv b kvs :: l) w) : ∃ (es : List MapEntry) (clock : Nat), w.heap[b]? = some (.map es.toArray clock) ∧ es.map (fun e => (e.key, e.val)) = kvs.map (fun p => (kv p.1, vv p.2)) ∧ es.Pairwise (fun x y => x.born < y.born) ∧ ∀ e ∈ es, e.born < clock := by
 obtain ⟨h1, ⟨es, clock, a, r⟩, s⟩ := hs.head
 exact ⟨es, clock, s _ _ a, r⟩
theorem At.makeMap (kv : κ → Value) (vv : ν → Value) (hg : grd os env g = some true) (hd : Nat.blt d n = true)
 (h : ∀ b, At n ds R ((d, .map (some b)) :: env) (mapo kv vv b [] :: l) (wpList P os.toArray Q rest)) :
 At n ds R env l (wpList P os.toArray Q (⟨some d, .makeMap t none, ty, pos, af, g⟩ :: rest)) := Q79 hg rfl hd fun a w e hs => by
 refine ⟨_, _, _, ?_, (hs.alloc (.map #[] 0)).imp fun h p => ⟨[], 0, p, rfl, List.Pairwise.nil, fun e he => by cases he⟩, h _⟩
 simp [execOp, Instr.makeMap]
theorem Q225 {w : World} {ii : TI} {z : ν} (hi : ti P t = some ii) (hk : ii.k = .map kt et) (ko : KeyOk P kt kv) (hz : ((P.info? et).bind fun x => x.zero) = some (vv z)) (hs : sat R (mapo kv vv b kvs :: l) w) (k : κ) (ok : Bool) :
 (Instr.lookup t (.map (some b)) (kv k) ok).run P w = .ok (if ok then .tuple #[vv ((mget kvs k).getD z), .bool (mget kvs k).isSome] else vv ((mget kvs k).getD z)) w := by
 obtain ⟨es, clock, hb, hm, _⟩ := Q170 hs
 have hu := (Q12 hi).map hk
 have hf := ko.find es (kvs.map (·.1)) k w (Q175 hm)
 have hg := Q234 (k := k) hm
 have hgo : (getObj b).run P w = .ok (.map es.toArray clock) w := MapKept.run_getObj_map hb
 simp only [Instr.lookup, Sem.run_bind, run_underlying hu, Result.andThen, hgo, Sem.run_pure, ko.chk, hf]
 cases hr : ((kvs.map (·.1)).findIdx? (fun a => decide (a = k))).bind fun i => es[i]?.map fun e => (i, e.val) with
 | none =>
  rw [hr] at hg
  have hgn : mget kvs k = none := by cases hq : mget kvs k with | none => rfl | some v => rw [hq] at hg; cases hg
  obtain ⟨x, hx, hx2⟩ := Option.bind_eq_some_iff.1 hz
  rw [hgn]
  cases ok <;> simp [zeroValue, typeInfo, hx, hx2]
 | some p =>
  obtain ⟨i, v⟩ := p
  rw [hr] at hg
  cases hq : mget kvs k with
  | none => rw [hq] at hg; cases hg
  | some v' =>
   rw [hq] at hg
   have hv : v = vv v' := by simpa using hg
   subst hv
   cases ok <;> simp
theorem Y.lookup {x y : Operand} {k : κ} {v : Value} {ii : TI} {z : ν} (f : Frt l (mapo kv vv b kvs) l') (hi : ti P t = some ii) (hk : ii.k = .map kt et) (ko : KeyOk P kt kv) (hz : ((P.info? et).bind fun x => x.zero) = some (vv z))
 (hx : ev env x = some (.map (some b))) (hy : ev env y = some v) (hv : v = kv k) :
 Y P n ds R env l ⟨dd, .lookup t x y false, ty, pos, af, g⟩ (vv ((mget kvs k).getD z)) := fun a w e hs => by
 subst hv
 have := Q225 hi hk ko hz (hs.frt f) k false
 simp only [execOp, e.ev hx, e.ev hy, Sem.run_bind, this, Result.andThen, Sem.run_pure]
 rfl
theorem Y.lookupOk {x y : Operand} {k : κ} {v : Value} {ii : TI} {z : ν} (f : Frt l (mapo kv vv b kvs) l') (hi : ti P t = some ii) (hk : ii.k = .map kt et) (ko : KeyOk P kt kv) (hz : ((P.info? et).bind fun x => x.zero) = some (vv z))
 (hx : ev env x = some (.map (some b))) (hy : ev env y = some v) (hv : v = kv k) :
 Y P n ds R env l ⟨dd, .lookup t x y true, ty, pos, af, g⟩ (.tuple #[vv ((mget kvs k).getD z), .bool (mget kvs k).isSome]) := fun a w e hs => by
 subst hv
 have := Q225 hi hk ko hz (hs.frt f) k true
 simp only [execOp, e.ev hx, e.ev hy, Sem.run_bind, this, Result.andThen, Sem.run_pure]
 rfl
theorem Q174 {es : List MapEntry} (h : es.map (fun e => (e.key, e.val)) = kvs.map (fun p => (kv p.1, vv p.2))) : es.length = kvs.length := by
 have := congrArg List.length h
 simpa using this
theorem Y.lenMap {x : Operand} {ii : TI} (f : Frt l (mapo kv vv b kvs) l') (hi : ti P t = some ii) (hk : ii.k = .map kt et) (hx : ev env x = some (.map (some b))) :
 Y P n ds R env l ⟨dd, .call ⟨.builtin .len, #[x], #[t]⟩, ty, pos, af, g⟩ (.int .i64 (kvs.length : Int)) := fun a w e hs => by
 obtain ⟨es, clock, hb, hm, _⟩ := Q170 (hs.frt f)
 have hu := (Q12 hi).map hk
 have hgo : (getObj b).run P w = .ok (.map es.toArray clock) w := MapKept.run_getObj_map hb
 simp [execOp, resolve, invoke, builtin, Builtin.len_, e.ev hx, run_underlying hu, hgo, Result.andThen, goInt, Q174 hm]
theorem set_mset {es : List MapEntry} {kvs : List (κ × ν)} {k : κ} {v : ν} (h : es.map (fun e => (e.key, e.val)) = kvs.map (fun p => (kv p.1, vv p.2))) :
 (match ((kvs.map (·.1)).findIdx? (fun a => decide (a = k))).bind fun i => es[i]?.map fun e => (i, e.val) with
  | some (i, _) => (es.modify i fun e => { e with key := kv k, val := vv v }).map (fun e => (e.key, e.val))
  | none => es.map (fun e => (e.key, e.val)) ++ [(kv k, vv v)]) = (mset kvs k v).map (fun p => (kv p.1, vv p.2)) := by
 induction kvs generalizing es with
 | nil =>
  cases es with
  | nil => rfl
  | cons e es => simp at h
 | cons p kvs ih =>
  cases es with
  | nil => simp at h
  | cons e es =>
   simp only [List.map_cons, List.cons.injEq, Prod.mk.injEq] at h
   rw [List.map_cons, List.findIdx?_cons]
   unfold mset
   by_cases hk : p.1 = k
   ·rw [if_pos hk, decide_eq_true hk]
    simp [h.2]
   ·rw [if_neg hk, decide_eq_false hk]
    simp only [Bool.false_eq_true, if_false]
    have := ih h.2
    cases hf : (kvs.map (·.1)).findIdx? (fun a => decide (a = k)) with
    | none =>
     rw [hf] at this
     simp at this ⊢
     exact ⟨h.1, this⟩
    | some j =>
     rw [hf] at this
     simp at this ⊢
     have hj : j < es.length := by
      have := (List.findIdx?_eq_some_iff_getElem.1 hf).1
      simp at this
      have h3 := Q174 h.2
      omega
     rw [List.getElem?_eq_getElem hj] at this ⊢
     simp at this ⊢
     exact ⟨h.1, this⟩
theorem Q220 {es : List MapEntry} {i : Nat} {f : MapEntry → MapEntry} (hf : ∀ e, (f e).born = e.born) : (es.modify i f).map (·.born) = es.map (·.born) := by
 apply List.ext_getElem?
 intro j
 rw [List.getElem?_map, List.getElem?_map, List.getElem?_modify]
 cases es[j]? with
 | none => rfl
 | some e => by_cases h : i = j <;> simp [h, hf]
theorem At.mapUpdate {x y z : Operand} {k : κ} {v : ν} {u u' : Value} {ii : TI} (hg : grd os env g = some true) (f : Frt l (mapo kv vv b kvs) l') (hi : ti P t = some ii) (hk : ii.k = .map kt et) (ko : KeyOk P kt kv)
 (hx : ev env x = some (.map (some b))) (hy : ev env y = some u) (hu : u = kv k) (hz : ev env z = some u') (hu' : u' = vv v)
 (h : At n ds R env (mapo kv vv b (mset kvs k v) :: l') (wpList P os.toArray Q rest)) :
 At n ds R env l (wpList P os.toArray Q (⟨none, .mapUpdate t x y z, ty, pos, af, g⟩ :: rest)) := op_sk hg rfl fun a w e hs => by
 subst hu hu'
 have hs1 := hs.frt f
 obtain ⟨es, clock, hb, hm, hbn, hcl⟩ := Q170 hs1
 have hun := (Q12 hi).map hk
 have hf := ko.find es (kvs.map (·.1)) k w (Q175 hm)
 have hset := set_mset (k := k) (v := v) hm
 have hgo : (getObj b).run P w = .ok (.map es.toArray clock) w := MapKept.run_getObj_map hb
 have hso : ∀ o, (setObj b o).run P w = .ok () { w with heap := w.heap.setIfInBounds b o } := fun o => MapKept.run_setObj_map o hb
 have hlt : b < w.heap.size := (Array.getElem?_eq_some_iff.1 hb).1
 have fin : ∀ (es' : List MapEntry) (clock' : Nat), es'.map (fun e => (e.key, e.val)) = (mset kvs k v).map (fun p => (kv p.1, vv p.2)) → es'.Pairwise (fun x y => x.born < y.born) → (∀ e ∈ es', e.born < clock') →
  sat R (mapo kv vv b (mset kvs k v) :: l') { w with heap := w.heap.setIfInBounds b (.map es'.toArray clock') } := fun es' clock' h1 h2 h3 => by
  obtain ⟨hh, ⟨_, _, hp, _⟩, s, kk⟩ := hs1.upd
  refine kk _ (single b (.map es'.toArray clock')) _ ⟨es', clock', Q189 _ _, h1, h2, h3⟩ rfl rfl rfl (Nat.le_refl _) (fun x o hx hn => ?_) (fun x o hx => ?_) (fun x o hx => ?_)
  ·have hne : b ≠ x := fun hxb => by subst hxb; rw [hp] at hn; cases hn
   show (w.heap.setIfInBounds b _)[x]? = _
   rw [Array.getElem?_setIfInBounds_ne hne]; exact hx
  ·obtain ⟨rfl, rfl⟩ := Q104 hx
   show (w.heap.setIfInBounds x _)[x]? = _
   simp [hlt]
  ·obtain ⟨rfl, rfl⟩ := Q104 hx; exact .inl ⟨_, hp⟩
 cases hr : ((kvs.map (·.1)).findIdx? (fun a => decide (a = k))).bind fun i => es[i]?.map fun e => (i, e.val) with
 | none =>
  rw [hr] at hset hf
  refine ⟨_, _, ?_, fin (es ++ [{ key := kv k, val := vv v, born := clock }]) (clock + 1) (by simpa using hset) ?_ ?_, h⟩
  ·simp [execOp, e.ev hx, e.ev hy, e.ev hz, Instr.mapUpdate, run_underlying hun, Result.andThen, hgo, ko.chk, hf, hso]
  ·rw [List.pairwise_append]
   exact ⟨hbn, by simp, fun x hx y hy => by simp at hy; subst hy; exact hcl x hx⟩
  ·intro e he
   rcases List.mem_append.1 he with he | he
   ·have := hcl e he; omega
   ·simp at he; subst he; exact Nat.lt_succ_self _
 | some p =>
  obtain ⟨i, v0⟩ := p
  rw [hr] at hset hf
  obtain ⟨j, hj, hj2⟩ := Option.bind_eq_some_iff.1 hr
  obtain ⟨e1, he1, he2⟩ := Option.map_eq_some_iff.1 hj2
  simp only [Prod.mk.injEq] at he2
  obtain ⟨rfl, rfl⟩ := he2
  have hkey : e1.key = kv k := by
   have hq := congrArg (fun l => l[j]?) (Q175 hm)
   simp only [List.getElem?_map, he1, Option.map_some] at hq
   obtain ⟨hl, hd, _⟩ := List.findIdx?_eq_some_iff_getElem.1 hj
   rw [← List.getElem?_map, List.getElem?_eq_getElem hl] at hq
   have hd' := of_decide_eq_true hd
   rw [hd'] at hq
   simpa using hq
  have hst : (Instr.keyThatStays (kv k) (kv k)).run P w = .ok (kv k) w := by simp [Instr.keyThatStays, ko.same]
  refine ⟨_, _, ?_, fin (es.modify j fun e => { e with key := kv k, val := vv v }) clock hset ?_ ?_, h⟩
  ·simp only [execOp, e.ev hx, e.ev hy, e.ev hz, Instr.mapUpdate, Sem.run_bind, run_underlying hun, Result.andThen, hgo, ko.chk, hf, List.getElem?_toArray, he1, Option.map_some, hkey, Option.getD_some, hst, hso, Sem.run_pure]
   simp
  ·have := Q220 (es := es) (i := j) (f := fun e => { e with key := kv k, val := vv v }) (fun _ => rfl)
   refine (List.pairwise_map (f := fun e : MapEntry => e.born) (R := fun x y : Nat => x < y)).1 ?_
   rw [this]
   exact List.pairwise_map.2 hbn
  ·intro e he
   have hmem : e.born ∈ (es.modify j fun e => { e with key := kv k, val := vv v }).map (·.born) := List.mem_map_of_mem he
   rw [Q220 (es := es) (i := j) (f := fun e => { e with key := kv k, val := vv v }) (fun _ => rfl)] at hmem
   obtain ⟨e', he', hb'⟩ := List.mem_map.1 hmem
   rw [← hb']
   exact hcl e' he'
theorem mapo_up {h h' : PHeap} (o : mapo kv vv b kvs h) (s : Sub h h') : mapo kv vv b kvs h' := let ⟨es, c, a, r⟩ := o; ⟨es, c, s _ _ a, r⟩
def Ow.mp (kv : κ → Value) (vv : ν → Value) : Ow (List (κ × ν)) := ⟨1, fun kvs cs h => ∃ b, cs = [.map (some b)] ∧ mapo kv vv b kvs h, fun ⟨_, h, _⟩ => by rw [h]; rfl, fun ⟨_, h, _⟩ u hu => by rw [h] at hu; simp at hu; subst hu; rfl, by decide,
 ⟨1, fun H kvs cs => ∃ b, cs = [.map (some b)] ∧ mapo kv vv b kvs H, fun ⟨_, h, _⟩ => by rw [h]; rfl, fun s ⟨b, h, o⟩ => ⟨b, h, let ⟨es, c, a, r⟩ := o; ⟨es, c, s _ _ a, r⟩⟩, by decide⟩, rfl, fun ⟨b, h, o⟩ s => ⟨b, h, let ⟨es, c, a, r⟩ := o; ⟨es, c, s _ _ a, r⟩⟩⟩
theorem Ent.mp : Ent [mapo kv vv b kvs] ((Ow.mp kv vv).own kvs [.map (some b)]) := fun h ⟨h1, _, a, _, _, s, _⟩ => ⟨b, rfl, mapo_up a s⟩
theorem At.ownMp {cs : List Value} (f : Frt l ((Ow.mp kv vv).own kvs cs) l') (h : ∀ b, cs = [.map (some b)] → At n ds R env (mapo kv vv b kvs :: l') K) : At n ds R env l K := fun a w e0 hs => by
 obtain ⟨ok, k, ⟨h1, h2, ⟨b, e1, r⟩, s⟩, dR⟩ := hs.frt f
 exact h b e1 a w e0 ⟨ok, k, ⟨h1, h2, r, s⟩, dR⟩
end
end Go.Bw
namespace Go.Bw
open Go Go.RowKit

theorem Q221 (s : Bs) : ((ByteArray.mk s.toArray) == (ByteArray.mk s.toArray)) = true := by rw [Q171]; exact Q158.2 rfl
section
variable {P : Program} [Tys P] {κ : Type} [DecidableEq κ] {w : World} {t : Nat}
theorem Q164 {xs : List Value} (em : Bool) : ∀ {fl : List Field} {fs : List (Nat × Nat)} {r : Bool}, fl.map (fun f => (f.type, f.offset)) = fs → eqcs P fs xs xs = some r →
 (do for f in fl do if f.name ≠ "_" then Instr.checkKey em 9999 f.type (← part f.type xs.toArray f.offset) : Sem Unit).run P w = .ok () w
 | [], _, r, rfl, h => by simp
 | f :: fl, _, r, rfl, h => by
  simp only [List.map_cons, eqcs] at h
  split at h
  ·rename_i j hj
   split at h
   ·rename_i hk hx hy
    split at h
    ·obtain ⟨q, hq, rfl⟩ := Option.map_eq_some_iff.1 h
     have hu := (Q12 hj).int hk
     have ih := Q164 em (fl := fl) rfl hq
     have hc : ∀ k a, (Instr.checkKey em 9999 f.type (.int k a)).run P w = .ok () w := fun k a => by
      show (Instr.checkKey em (9998 + 1) f.type _).run P w = _
      rw [Instr.checkKey]
      simp [run_underlying hu, Result.andThen]
     by_cases hn : f.name = "_"
     ·simpa [hn, Result.andThen] using ih
     ·simpa [hn, Q98 hx, hc, Result.andThen] using ih
    ·cases h
   ·rename_i hk hx hy
    obtain ⟨q, hq, rfl⟩ := Option.map_eq_some_iff.1 h
    have hu := (Q12 hj).bool hk
    have ih := Q164 em (fl := fl) rfl hq
    have hc : ∀ a, (Instr.checkKey em 9999 f.type (.bool a)).run P w = .ok () w := fun a => by
     show (Instr.checkKey em (9998 + 1) f.type _).run P w = _
     rw [Instr.checkKey]
     simp [run_underlying hu, Result.andThen]
    by_cases hn : f.name = "_"
    ·simpa [hn, Result.andThen] using ih
    ·simpa [hn, Q98 hx, hc, Result.andThen] using ih
   ·rename_i hk hx hy
    obtain ⟨q, hq, rfl⟩ := Option.map_eq_some_iff.1 h
    have hu := (Q12 hj).string hk
    have ih := Q164 em (fl := fl) rfl hq
    have hc : ∀ a, (Instr.checkKey em 9999 f.type (.string a)).run P w = .ok () w := fun a => by
     show (Instr.checkKey em (9998 + 1) f.type _).run P w = _
     rw [Instr.checkKey]
     simp [run_underlying hu, Result.andThen]
    by_cases hn : f.name = "_"
    ·simpa [hn, Result.andThen] using ih
    ·simpa [hn, Q98 hx, hc, Result.andThen] using ih
   ·cases h
  ·cases h
theorem Q204 {kv : κ → Value} (k : κ) (he : ∀ a, (Op.equal t (kv k) (kv a)).run P w = .ok (decide (a = k)) w) : ∀ (es : List MapEntry) (ks : List κ) (i : Nat), es.map (·.key) = ks.map kv →
 (Instr.findAsking t (kv k) es i).run P w = .ok ((ks.findIdx? (fun a => decide (a = k))).bind fun j => es[j]?.map fun e => (i + j, e.val)) w
 | [], [], i, _ => by simp [Instr.findAsking]
 | [], _ :: _, _, h => by simp at h
 | _ :: _, [], _, h => by simp at h
 | e :: es, a :: ks, i, h => by
  simp only [List.map_cons, List.cons.injEq] at h
  rw [Instr.findAsking, h.1]
  simp only [Sem.run_bind, he, Result.andThen]
  rw [List.findIdx?_cons]
  by_cases hk : a = k
  ·simp [hk]
  ·simp only [hk, decide_false, Bool.false_eq_true, if_false]
   rw [Q204 k he es ks (i + 1) h.2]
   cases hf : ks.findIdx? (fun a => decide (a = k)) with
   | none => rfl
   | some j =>
    simp
    congr 1
    funext e
    congr 1
    omega
theorem Q251 {kv : κ → Value} {fl : Array Field} (hu : P.underlying t = some (.struct fl)) (k : κ) (he : ∀ a, (Op.equal t (kv k) (kv a)).run P w = .ok (decide (a = k)) w) (es : List MapEntry) (ks : List κ) (h : es.map (·.key) = ks.map kv) :
 (Instr.findKey t (kv k) es).run P w = .ok ((ks.findIdx? (fun a => decide (a = k))).bind fun j => es[j]?.map fun e => (j, e.val)) w := by
 unfold Instr.findKey
 simp only [Sem.run_bind, run_underlying hu, Result.andThen]
 cases es with
 | nil =>
  cases ks with
  | nil => simp [Instr.findNow]
  | cons a ks => simp at h
 | cons e es =>
  have : Instr.findNow (.struct fl) (kv k) (e :: es) 0 = none := by simp [Instr.findNow, Instr.sameNow]
  rw [this]
  have := Q204 (P := P) (w := w) (t := t) k he (e :: es) ks 0 h
  simpa using this
theorem KeyOk.st {F : Fl κ} {fs : List (Nat × Nat)} {ii : TI} (hi : ti P t = some ii) (hk : ii.k = .struct fs) (hn : named P t = true) (hp : P.stoodInHeld t = false)
 (he : ∀ x y : κ, eqcs P fs (F.enc x) (F.enc y) = some (decide (x = y))) (hs : ∀ x : κ, ((F.enc x).zip (F.enc x)).all (fun p => Instr.sameBits 9999 p.1 p.2) = true) : KeyOk P t F.av := by
 obtain ⟨fl, hu, hm⟩ := (Q12 hi).struct hk
 refine ⟨fun k w em => ?_, fun es ks k w h => ?_, fun k => ?_⟩
 ·show (Instr.checkKey em (9999 + 1) t (.agg (F.enc k).toArray)).run P w = _
  rw [Instr.checkKey]
  have := Q164 (P := P) (w := w) em hm (he k k)
  simp only [Sem.run_bind, run_underlying hu, Result.andThen]
  rw [← Array.forIn_toList]
  simp [Result.andThen] at this ⊢
  rw [this]
 ·refine Q251 hu k (fun a => ?_) es ks h
  rw [show decide (a = k) = decide (k = a) from decide_eq_decide.2 eq_comm]
  exact Q213 hi hk hn hp (he k a)
 ·show Instr.sameBits (9999 + 1) (.agg (F.enc k).toArray) (.agg (F.enc k).toArray) = true
  simp only [Instr.sameBits]
  simpa using hs k
end
end Go.Bw
namespace Go.Bw
open Go Go.RowKit Go.Proofs
variable {R : Res} {Fr : List HProp} {A0 A0_1 A0_2 A0_3 : Option Addr} {n0 c0 n0_1 c0_1 n0_2 c0_2 n0_3 c0_3 : Nat}
structure Q4 where
 c0 : Int
 c1 : Int
 c2 : Int
 c3 : Int
deriving Inhabited, DecidableEq
def Q4.fl : Fl Q4 := ⟨4, fun x => [.int .u64 x.c0, .int .u64 x.c1, .int .u64 x.c2, .int .u64 x.c3], fun _ => rfl, fun x u hu => by simp at hu; rcases hu with rfl | rfl | rfl | rfl <;> rfl, by decide⟩
structure Q10 where
 from_ : Int
 action : Bs
deriving Inhabited, DecidableEq
def Q10.fl : Fl Q10 := ⟨2, fun x => [i6 x.from_, .string ⟨(x.action).toArray⟩], fun _ => rfl, fun x u hu => by simp at hu; rcases hu with rfl | rfl <;> rfl, by decide⟩
structure Q44 where
 states : Int
 holds : List (Bs × Q4)
 next : List (Q10 × Q4)
deriving Inhabited
def Q44.ow : Ow Q44 := ((Ow.fl (Fl.int .i64)).pair ((Ow.mp Fl.bs.ov Q4.fl.av).pair (Ow.mp Q10.fl.av Q4.fl.av))).iso (fun x => (x.states, x.holds, x.next))
theorem Q44.ent {x0 : Int} {b1 : Nat} {x1 : List (Bs × Q4)} {b2 : Nat} {x2 : List (Q10 × Q4)} : Ent [mapo Fl.bs.ov Q4.fl.av b1 x1, mapo Q10.fl.av Q4.fl.av b2 x2] (Q44.ow.own ⟨x0, x1, x2⟩ [i6 x0, .map (some b1), .map (some b2)]) := (Ent.pair (c1 := [i6 x0]) (c2 := [.map (some b1), .map (some b2)]) (Ent.fl (Fl.int .i64) rfl) (Ent.pair (c1 := [.map (some b1)]) (c2 := [.map (some b2)]) Ent.mp Ent.mp))
theorem Q10.keyok : KeyOk Tryz.prog 85 Q10.fl.av := KeyOk.st rfl rfl (by kernel_rfl) (by kernel_rfl) (fun x y => by
 refine (show _ = some (decide (x.from_ = y.from_) && (bseq x.action y.action && true)) from rfl).trans (congrArg some ?_)
 cases x
 cases y
 rw [Bool.eq_iff_iff]
 simp [Q158]) (fun x => by simp [Q10.fl, Instr.sameBits, Q221])

noncomputable def Q108.f (p q u x a1 : Int) : Option (Int × Int × Int × Int) :=
 jn (
 if 0 ≤ a1 then
 some (.inl (decide (a1 < 256)))
 else
 some (.inl false)) (fun (C : Bool) =>
 if C = true then
 if (0 : Int) ≤ (Bw.shr .i64 a1 6) ∧ (Bw.shr .i64 a1 6) < (4 : Int) then
 if (Bw.shr .i64 a1 6) = 0 then
 if (0 : Int) ≤ IntKind.u64.wrap (band .i64 a1 63) then
 some (bor .u64 p (Bw.shl .u64 1 (IntKind.u64.wrap (band .i64 a1 63))), q, u, x)
 else none
 else
 if (Bw.shr .i64 a1 6) = 1 then
 if (0 : Int) ≤ IntKind.u64.wrap (band .i64 a1 63) then
 some (p, bor .u64 q (Bw.shl .u64 1 (IntKind.u64.wrap (band .i64 a1 63))), u, x)
 else none
 else
 if (Bw.shr .i64 a1 6) = 2 then
 if (0 : Int) ≤ IntKind.u64.wrap (band .i64 a1 63) then
 some (p, q, bor .u64 u (Bw.shl .u64 1 (IntKind.u64.wrap (band .i64 a1 63))), x)
 else none
 else
 if (0 : Int) ≤ IntKind.u64.wrap (band .i64 a1 63) then
 some (p, q, u, bor .u64 x (Bw.shl .u64 1 (IntKind.u64.wrap (band .i64 a1 63))))
 else none
 else none
 else
 some (p, q, u, x))
theorem Q108.callee : Callee Tryz.prog 20 := ⟨_, Tryz.func20, by kernel_rfl, by kernel_rfl⟩
theorem Q108.spec {x C D E a1 : Int} {r : Int × Int × Int × Int} (j : Q108.f x C D E a1 = some r) :
 Spec Tryz.prog 20 [.agg #[.int .u64 x, .int .u64 C, .int .u64 D, .int .u64 E], i6 a1] R (Fr) (fun v l' => v = .agg #[.int .u64 r.1, .int .u64 r.2.1, .int .u64 r.2.2.1, .int .u64 r.2.2.2] ∧ Fr = l') := by
 refine Spec.of Tryz.func20 rfl rfl ?_; unfold Q108.f at j; have j := brun j; refine At.seq (At.region ?_); refine At.box rfl rfl (cs := [.int .u64 x, .int .u64 C, .int .u64 D, .int .u64 E]) rfl rfl (fun N => ?_); refine At.alloc rfl rfl rfl (fun O => ?_); refine nT (At.seq (sR 3 rfl ?_)); obtain ⟨Z, a0, a6, j⟩ := bjoin j; let T1 : HProp := pt O (.cells ([.int .u64 0, .int .u64 0, .int .u64 0, .int .u64 0] : List Value).toArray 35); let T2 : HProp := pc N [.int .u64 x, .int .u64 C, .int .u64 D, .int .u64 E] 35; refine At.joinO 3 (X := Bool) (fun u => [(1, i6 a1), (2, bp N), (4, bp O), (10, .bool u)]) (fun u => T1 :: T2 :: Fr) (fun u => Z (.inl u) = some r) ?_ (fun U => ?_)
 ·rintro u j; have j := (a0 _).symm.trans j
  ·refine nT ?_; rcases bite j with ⟨G, j⟩ | ⟨G, j⟩
   ··refine At.condT rfl G ?_
     refine At.region (At.run 1 rfl (At.y (Y.shr rfl rfl (by decide)) rfl rfl rfl ?_)); obtain ⟨p, j⟩ := bnone j; rcases bite j with ⟨I, j⟩ | ⟨I, j⟩
     ··refine At.y (Y.ixArrK rfl rfl rfl rfl rfl p.1 p.2 (q := 0) (off := 0) I rfl) rfl rfl rfl ?_
       refine At.y (Y.load rfl rfl (.s .z) rfl rfl rfl) rfl rfl rfl (At.run 3 rfl ?_); obtain ⟨a2, j⟩ := bnone j; refine At.y (Y.shl rfl rfl a2) rfl rfl rfl (At.run 1 rfl (At.y (Y.ixArrK rfl rfl rfl rfl rfl p.1 p.2 (q := 0) (off := 0) I rfl) rfl rfl rfl ?_)); refine At.store rfl rfl rfl rfl (.s .z) rfl rfl rfl (.c .n) ?_; refine nT (At.seq (At.region (At.y (Y.load rfl rfl .z rfl rfl rfl) rfl rfl rfl ?_))); refine At.store rfl rfl rfl rfl (.s .z) rfl rfl rfl (.c (.c (.c (.c .n)))) ?_; refine nT (At.ret ?_); refine At.resM (.inl rfl) rfl (RV.cell rfl rfl .z rfl rfl rfl RV.nil) ?_; refine At.drop .z (At.drop .z ?_); cases bret j; exact fun a w e hs => ⟨_, ⟨rfl, rfl⟩, hs⟩
     ··rcases bite j with ⟨J, j⟩ | ⟨J, j⟩
       ··refine At.y (Y.ixArrK rfl rfl rfl rfl rfl p.1 p.2 (q := 1) (off := 1) J rfl) rfl rfl rfl ?_
         refine At.y (Y.load rfl rfl (.s .z) rfl rfl rfl) rfl rfl rfl (At.run 3 rfl ?_); obtain ⟨a3, j⟩ := bnone j; refine At.y (Y.shl rfl rfl a3) rfl rfl rfl (At.run 1 rfl (At.y (Y.ixArrK rfl rfl rfl rfl rfl p.1 p.2 (q := 1) (off := 1) J rfl) rfl rfl rfl ?_)); refine At.store rfl rfl rfl rfl (.s .z) rfl rfl rfl (.s (.c .n)) ?_; refine nT (At.seq (At.region (At.y (Y.load rfl rfl .z rfl rfl rfl) rfl rfl rfl ?_))); refine At.store rfl rfl rfl rfl (.s .z) rfl rfl rfl (.c (.c (.c (.c .n)))) ?_; refine nT (At.ret ?_); refine At.resM (.inl rfl) rfl (RV.cell rfl rfl .z rfl rfl rfl RV.nil) ?_; refine At.drop .z (At.drop .z ?_); cases bret j; exact fun a w e hs => ⟨_, ⟨rfl, rfl⟩, hs⟩
       ··rcases bite j with ⟨L, j⟩ | ⟨L, j⟩
         ··refine At.y (Y.ixArrK rfl rfl rfl rfl rfl p.1 p.2 (q := 2) (off := 2) L rfl) rfl rfl rfl ?_
           refine At.y (Y.load rfl rfl (.s .z) rfl rfl rfl) rfl rfl rfl (At.run 3 rfl ?_); obtain ⟨a4, j⟩ := bnone j; refine At.y (Y.shl rfl rfl a4) rfl rfl rfl (At.run 1 rfl (At.y (Y.ixArrK rfl rfl rfl rfl rfl p.1 p.2 (q := 2) (off := 2) L rfl) rfl rfl rfl ?_)); refine At.store rfl rfl rfl rfl (.s .z) rfl rfl rfl (.s (.s (.c .n))) ?_; refine nT (At.seq (At.region (At.y (Y.load rfl rfl .z rfl rfl rfl) rfl rfl rfl ?_))); refine At.store rfl rfl rfl rfl (.s .z) rfl rfl rfl (.c (.c (.c (.c .n)))) ?_; refine nT (At.ret ?_); refine At.resM (.inl rfl) rfl (RV.cell rfl rfl .z rfl rfl rfl RV.nil) ?_; refine At.drop .z (At.drop .z ?_); cases bret j; exact fun a w e hs => ⟨_, ⟨rfl, rfl⟩, hs⟩
         ··have V : (Bw.shr .i64 a1 6) = 3 := by have h1_ := p; omega
           refine At.y (Y.ixArrK rfl rfl rfl rfl rfl p.1 p.2 (q := 3) (off := 3) V rfl) rfl rfl rfl (At.y (Y.load rfl rfl (.s .z) rfl rfl rfl) rfl rfl rfl (At.run 3 rfl ?_)); obtain ⟨a5, j⟩ := bnone j; refine At.y (Y.shl rfl rfl a5) rfl rfl rfl (At.run 1 rfl (At.y (Y.ixArrK rfl rfl rfl rfl rfl p.1 p.2 (q := 3) (off := 3) V rfl) rfl rfl rfl ?_)); refine At.store rfl rfl rfl rfl (.s .z) rfl rfl rfl (.s (.s (.s (.c .n)))) ?_; refine nT (At.seq (At.region (At.y (Y.load rfl rfl .z rfl rfl rfl) rfl rfl rfl ?_))); refine At.store rfl rfl rfl rfl (.s .z) rfl rfl rfl (.c (.c (.c (.c .n)))) ?_; refine nT (At.ret ?_); refine At.resM (.inl rfl) rfl (RV.cell rfl rfl .z rfl rfl rfl RV.nil) ?_; refine At.drop .z (At.drop .z ?_); cases bret j; exact fun a w e hs => ⟨_, ⟨rfl, rfl⟩, hs⟩
   ··refine At.condF rfl (bn G) ?_
     refine At.skip (At.thn (At.seq (At.region (At.y (Y.load rfl rfl (.s .z) rfl rfl rfl) rfl rfl rfl ?_)))); refine At.store rfl rfl rfl rfl .z rfl rfl rfl (.c (.c (.c (.c .n)))) ?_; refine nT (At.ret ?_); refine At.resM (.inl rfl) rfl (RV.cell rfl rfl .z rfl rfl rfl RV.nil) ?_; refine At.drop .z (At.drop .z ?_); cases bret j; exact fun a w e hs => ⟨_, ⟨rfl, rfl⟩, hs⟩
 ··rcases bite j with ⟨M, j⟩ | ⟨M, j⟩
   ··refine At.know (t := 7) rfl (decide_eq_true M) ?_
     refine At.run 3 rfl ?_; exact At.of (U (decide (a1 < 256)) j) ⟨rfl, rfl, rfl, rfl, trivial⟩
   ··refine At.know (t := 7) rfl (decide_eq_false M) ?_
     refine At.run 3 rfl ?_; exact At.of (U false j) ⟨rfl, rfl, rfl, rfl, trivial⟩

noncomputable def Q60.l0b (a0 : List Int) (u x C D p : Int) : Option ((Int × Int × Int × Int × Int) ⊕ ((Int × Int × Int × Int) ⊕ (Int × Int × Int × Int))) :=
 if p < (a0.length : Int) then
 if (0 : Int) ≤ p ∧ p < (a0.length : Int) then
 (Q108.f u x C D (gt a0 p)).bind fun q =>
 nx (q.1, q.2.1, q.2.2.1, q.2.2.2, IntKind.i64.wrap (p + 1))
 else none
 else
 dn (.inl (u, x, C, D))
noncomputable def Q60.l0 (a0 : List Int) (p q u x C : Int) : Option ((Int × Int × Int × Int) ⊕ (Int × Int × Int × Int)) := iter (fun t_ : Int × Int × Int × Int × Int => Q60.l0b a0 t_.1 t_.2.1 t_.2.2.1 t_.2.2.2.1 t_.2.2.2.2) (p, q, u, x, C)
noncomputable def Q60.f (a0 : List Int) : Option (Int × Int × Int × Int) :=
 jn (Q60.l0 a0 0 0 0 0 0) (fun (s_ : Int × Int × Int × Int) =>
 some (s_.1, s_.2.1, s_.2.2.1, s_.2.2.2))
theorem Q60.callee : Callee Tryz.prog 33 := ⟨_, Tryz.func33, by kernel_rfl, by kernel_rfl⟩
theorem Q60.spec {a0 : List Int} (hr0 : RdS (Fl.int .i64).rep R.heap A0 a0) (hn0 : a0.length = n0) (hc0 : n0 ≤ c0) {r : Int × Int × Int × Int} (j : Q60.f a0 = some r) :
 Spec Tryz.prog 33 [.slice A0 n0 c0] R (Fr) (fun v l' => v = .agg #[.int .u64 r.1, .int .u64 r.2.1, .int .u64 r.2.2.1, .int .u64 r.2.2.2] ∧ Fr = l') := by
 subst hn0; refine Spec.of Tryz.func33 rfl rfl ?_; unfold Q60.f at j; have j := brun j; refine At.seq (At.region ?_); refine At.alloc rfl rfl rfl (fun D => ?_); refine nT (At.seq (At.region ?_)); refine At.alloc rfl rfl rfl (fun u => ?_); refine nT (At.seq (sR 3 rfl (nT ?_))); refine At.block ?_; obtain ⟨V, Z, a6, j⟩ := bjoin j; obtain ⟨J, E, a1⟩ := bsome j; clear j; unfold Q60.l0 at E; obtain ⟨G, p⟩ := Q14.1 E; clear E; let T3 : HProp := pt D (.cells ([.int .u64 0, .int .u64 0, .int .u64 0, .int .u64 0] : List Value).toArray 35); refine At.loopJ (X := Int × Int × Int × Int × Int) (Y := Int × Int × Int × Int) (e0 := 0) (fun s_ => [(2, bp D), (3, bp u), (6, .slice A0 a0.length c0), (7, i6 (a0.length : Int)), (8, i6 s_.2.2.2.2)]) (fun s_ => pc u [.int .u64 s_.1, .int .u64 s_.2.1, .int .u64 s_.2.2.1, .int .u64 s_.2.2.2.1] 35 :: T3 :: Fr) (fun m_ => fun s_ => iterN (fun t_ : Int × Int × Int × Int × Int => Q60.l0b a0 t_.1 t_.2.1 t_.2.2.1 t_.2.2.2.1 t_.2.2.2.2) m_ (s_.1, s_.2.1, s_.2.2.1, s_.2.2.2.1, s_.2.2.2.2) = some J) G (0, 0, 0, 0, 0) p (fun s_ => [(2, bp D), (3, bp u)]) (fun s_ => pc u [.int .u64 s_.1, .int .u64 s_.2.1, .int .u64 s_.2.2.1, .int .u64 s_.2.2.2] 35 :: T3 :: Fr) (fun s_ => V (.inl (s_.1, s_.2.1, s_.2.2.1, s_.2.2.2)) = some r) (fun a w e hs => ⟨e.sub ⟨rfl, rfl, rfl, rfl, rfl, trivial⟩, (by exact hs)⟩) ?_ (fun a2 => ?_)
 ·rintro ⟨a7, a8, a9, b2⟩ j; have j := (Z _).symm.trans j
  ·refine At.ibx ?_; refine At.thn (At.seq (At.region (At.y (Y.load rfl rfl .z rfl rfl rfl) rfl rfl rfl ?_))); refine At.store rfl rfl rfl rfl (.s .z) rfl rfl rfl (.c (.c (.c (.c .n)))) ?_; refine nT (At.ret ?_); refine At.resM (.inl rfl) rfl (RV.cell rfl rfl .z rfl rfl rfl RV.nil) ?_; refine At.drop .z (At.drop .z ?_); cases bret j; exact fun a w e hs => ⟨_, ⟨rfl, rfl⟩, hs⟩
 ·clear p G; rintro G ⟨L, M, N, O, U⟩ p; obtain ⟨a3, f_, a4, hf_, j⟩ := bit p; clear p; have j : (Q60.l0b a0 L M N O U).bind _ = some J := j; unfold Q60.l0b at j
  ·refine sR 1 rfl (nT (At.seq ?_)); rcases bite j with ⟨I, j⟩ | ⟨I, j⟩
   ··refine At.condT rfl (decide_eq_true I) ?_
     refine At.skip (At.thn (At.seq ?_)); refine At.block ?_; refine At.seq (At.region ?_); obtain ⟨x, j⟩ := bnone j; refine At.y (Y.ixRd hr0 rfl rfl rfl rfl rfl rfl rfl x.1 x.2) rfl rfl rfl (At.y (Y.ldFl hr0 rfl (q := 0) rfl rfl x.1 x.2 rfl rfl rfl) rfl rfl rfl (At.run 1 rfl (nT (At.region (At.y (Y.load rfl rfl .z rfl rfl rfl) rfl rfl rfl (At.run 1 rfl ?_)))))); obtain ⟨C, a5, j⟩ := bbind j; refine At.call rfl Q108.callee rfl rfl rfl (Q108.spec a5) ?_; rintro _ _ ⟨rfl, rfl⟩; refine At.store rfl rfl rfl rfl .z rfl rfl rfl (.c (.c (.c (.c .n)))) ?_; refine At.nil ?_; refine At.ibn ?_; refine At.thn (At.region (At.run 2 rfl (At.nil ?_))); have j := bnx hf_ j; exact fun a w e hs => ⟨a3, (C.1, C.2.1, C.2.2.1, C.2.2.2, IntKind.i64.wrap (U + 1)), a4, j, e.sub ⟨rfl, rfl, rfl, rfl, rfl, trivial⟩, hs⟩
   ··refine At.condF rfl (decide_eq_false I) ?_
     refine At.exit ?_; refine At.the ?_; refine At.the ?_; exact fun a w e hs => a2 (L, M, N, O) (bdn j a1) a w (e.sub ⟨rfl, rfl, trivial⟩) hs

noncomputable def Q23.l2b (x : List Bs) (p : List Q6) (q : Int) (C : List (Q10 × Q4)) (u : Int) : Option (((List (Q10 × Q4)) × Int) ⊕ (((List (Q10 × Q4))) ⊕ (((List (Q10 × Q4)) × Int) ⊕ (((List (Q10 × Q4))) ⊕ ((Option Q44)))))) :=
 if u < (([(gt x ((gt p q).Action)), ([45] : Bs)] : List Bs).length : Int) then
 if (0 : Int) ≤ u ∧ u < (([(gt x ((gt p q).Action)), ([45] : Bs)] : List Bs).length : Int) then
 (Q108.f (((mget C (⟨(gt p q).From, gt ([(gt x ((gt p q).Action)), ([45] : Bs)] : List Bs) u⟩ : Q10)).getD (⟨(0 : Int), (0 : Int), (0 : Int), (0 : Int)⟩ : Q4)).c0) (((mget C (⟨(gt p q).From, gt ([(gt x ((gt p q).Action)), ([45] : Bs)] : List Bs) u⟩ : Q10)).getD (⟨(0 : Int), (0 : Int), (0 : Int), (0 : Int)⟩ : Q4)).c1) (((mget C (⟨(gt p q).From, gt ([(gt x ((gt p q).Action)), ([45] : Bs)] : List Bs) u⟩ : Q10)).getD (⟨(0 : Int), (0 : Int), (0 : Int), (0 : Int)⟩ : Q4)).c2) (((mget C (⟨(gt p q).From, gt ([(gt x ((gt p q).Action)), ([45] : Bs)] : List Bs) u⟩ : Q10)).getD (⟨(0 : Int), (0 : Int), (0 : Int), (0 : Int)⟩ : Q4)).c3) ((gt p q).To)).bind fun D =>
 nx ((mset C (⟨(gt p q).From, gt ([(gt x ((gt p q).Action)), ([45] : Bs)] : List Bs) u⟩ : Q10) (⟨D.1, D.2.1, D.2.2.1, D.2.2.2⟩ : Q4)), IntKind.i64.wrap (u + 1))
 else none
 else
 dn (.inl C)
noncomputable def Q23.l2 (p : List Bs) (q : List Q6) (u : Int) (x : List (Q10 × Q4)) (C : Int) : Option (((List (Q10 × Q4))) ⊕ (((List (Q10 × Q4)) × Int) ⊕ (((List (Q10 × Q4))) ⊕ ((Option Q44))))) := iter (fun t_ : (List (Q10 × Q4)) × Int => Q23.l2b p q u t_.1 t_.2) (x, C)
noncomputable def Q23.l1b (u : List Bs) (q : List Q6) (x : List (Q10 × Q4)) (p : Int) : Option (((List (Q10 × Q4)) × Int) ⊕ (((List (Q10 × Q4))) ⊕ ((Option Q44)))) :=
 if p < (q.length : Int) then
 if (0 : Int) ≤ p ∧ p < (q.length : Int) then
 if (0 : Int) ≤ (gt q p).Action ∧ (gt q p).Action < (u.length : Int) then
 jn (Q23.l2 u q p x 0) (fun (C : List (Q10 × Q4)) =>
 nx (C, IntKind.i64.wrap (p + 1)))
 else none
 else none
 else
 dn (.inl x)
noncomputable def Q23.l1 (p : List Bs) (q : List Q6) (u : List (Q10 × Q4)) (x : Int) : Option (((List (Q10 × Q4))) ⊕ ((Option Q44))) := iter (fun t_ : (List (Q10 × Q4)) × Int => Q23.l1b p q t_.1 t_.2) (u, x)
noncomputable def Q23.l0b (q : List Q5) (x : List (Bs × Q4)) (p : Int) : Option (((List (Bs × Q4)) × Int) ⊕ (((List (Bs × Q4))) ⊕ ((Option Q44)))) :=
 if p < (q.length : Int) then
 if (0 : Int) ≤ p ∧ p < (q.length : Int) then
 (Q60.f ((gt q p).States)).bind fun u =>
 nx ((mset x ((gt q p).Name) (⟨u.1, u.2.1, u.2.2.1, u.2.2.2⟩ : Q4)), IntKind.i64.wrap (p + 1))
 else none
 else
 dn (.inl x)
noncomputable def Q23.l0 (p : List Q5) (q : List (Bs × Q4)) (u : Int) : Option (((List (Bs × Q4))) ⊕ ((Option Q44))) := iter (fun t_ : (List (Bs × Q4)) × Int => Q23.l0b p t_.1 t_.2) (q, u)
noncomputable def Q23.f (p : Int) (q : List Bs) (u : List Q6) (x : List Q5) : Option (Option Q44) :=
 (Q38.f p q u x).bind fun C =>
 if C = true then
 jn (Q23.l0 x ([] : List (Bs × Q4)) 0) (fun (D : List (Bs × Q4)) =>
 jn (Q23.l1 q u ([] : List (Q10 × Q4)) 0) (fun (E : List (Q10 × Q4)) =>
 some (some (⟨p, D, E⟩ : Q44))))
 else
 some none
theorem Q23.callee : Callee Tryz.prog 11 := ⟨_, Tryz.func11, by kernel_rfl, by kernel_rfl⟩
theorem Q23.spec {E : Int} {C : List Bs} {p : List Q6} {D : List Q5} (hr0_1 : RdS Fl.bs.rep R.heap A0_1 C) (hn0_1 : C.length = n0_1) (hc0_1 : n0_1 ≤ c0_1) (hr0_2 : RdS Q6.fl.rep R.heap A0_2 p) (hn0_2 : p.length = n0_2) (hc0_2 : n0_2 ≤ c0_2) (hr0_3 : RdS Q5.rep R.heap A0_3 D) (hn0_3 : D.length = n0_3) (hc0_3 : n0_3 ≤ c0_3) {r : (Option Q44)} (j : Q23.f E C p D = some r) :
 Spec Tryz.prog 11 [.agg #[i6 E, .slice A0_1 n0_1 c0_1, .slice A0_2 n0_2 c0_2, .slice A0_3 n0_3 c0_3]] R (Fr) (fun v l' => ∃ (c8 : Option Nat), v = optp c8 ∧ optb Q44.ow 82 c8 r :: Fr = l') := by
 subst hn0_1; subst hn0_2; subst hn0_3; refine Spec.of Tryz.func11 rfl rfl ?_; unfold Q23.f at j; have j := brun j; refine At.seq (At.region ?_); refine At.box rfl rfl (cs := [i6 E, .slice A0_1 C.length c0_1, .slice A0_2 p.length c0_2, .slice A0_3 D.length c0_3]) rfl rfl (fun U => ?_); refine At.run 1 rfl (nT (At.seq (At.seq (At.region (At.y (Y.load rfl rfl .z rfl rfl rfl) rfl rfl rfl ?_))))); obtain ⟨g8, d4, j⟩ := bbind j; refine At.call rfl Q38.callee rfl rfl rfl (Q38.spec hr0_1 rfl hc0_1 hr0_2 rfl hc0_2 hr0_3 rfl hc0_3 d4) ?_; rintro _ _ ⟨rfl, rfl⟩; refine At.run 1 rfl (nT ?_); rcases bite j with ⟨a8, j⟩ | ⟨a8, j⟩
 ··refine At.condF rfl (nf a8) ?_
   refine At.skip (At.thn (sR 1 rfl (At.y (Y.load rfl rfl .z rfl rfl rfl) rfl rfl rfl ?_))); refine At.makeMap Fl.bs.ov Q4.fl.av rfl rfl (fun N => ?_); refine At.makeMap Q10.fl.av Q4.fl.av rfl rfl (fun G => ?_); refine At.y (Y.build (is := [0, 1, 2]) (xo := [.tmp 15, .tmp 16, .tmp 17]) (vs := [i6 E, .map (some N), .map (some G)]) (cs := [i6 E, .map (some N), .map (some G)]) rfl rfl rfl rfl rfl rfl) rfl rfl rfl ?_; refine At.box rfl rfl (cs := [i6 E, .map (some N), .map (some G)]) rfl rfl (fun I => ?_); refine At.run 1 rfl (nT (At.seq (sR 1 rfl (At.y (Y.load rfl rfl (.s (.s (.s .z))) rfl rfl rfl) rfl rfl rfl ?_)))); refine At.run 2 rfl (nT ?_); refine At.block ?_; obtain ⟨d5, d6, g9, j⟩ := bjoin j; obtain ⟨c9, a9, d7⟩ := bsome j; clear j; unfold Q23.l0 at a9; obtain ⟨b2, a1⟩ := Q14.1 a9; clear a9; let T4 : HProp := pc I [i6 E, .map (some N), .map (some G)] 82; let T5 : HProp := mapo Q10.fl.av Q4.fl.av G ([] : List (Q10 × Q4)); let T6 : HProp := pc U [i6 E, .slice A0_1 C.length c0_1, .slice A0_2 p.length c0_2, .slice A0_3 D.length c0_3] 26; refine At.loopJ (X := (List (Bs × Q4)) × Int) (Y := (List (Bs × Q4))) (e0 := 0) (fun s_ => [(1, bp U), (3, bp I), (21, .slice A0_3 D.length c0_3), (22, i6 (D.length : Int)), (23, i6 s_.2)]) (fun s_ => T4 :: T5 :: mapo Fl.bs.ov Q4.fl.av N s_.1 :: T6 :: Fr) (fun m_ => fun s_ => iterN (fun t_ : (List (Bs × Q4)) × Int => Q23.l0b D t_.1 t_.2) m_ (s_.1, s_.2) = some c9) b2 (([] : List (Bs × Q4)), 0) a1 (fun O => [(1, bp U), (3, bp I)]) (fun O => T4 :: T5 :: mapo Fl.bs.ov Q4.fl.av N O :: T6 :: Fr) (fun O => d5 (.inl O) = some r) (fun a w e hs => ⟨e.sub ⟨rfl, rfl, rfl, rfl, rfl, trivial⟩, (by exact hs)⟩) ?_ (fun d8 => ?_)
   ·rintro O j; have j := (d6 _).symm.trans j
    ·refine At.ibx ?_; refine At.thn (At.seq (sR 1 rfl (At.y (Y.load rfl rfl (.s (.s (.s .z))) rfl rfl rfl) rfl rfl rfl (At.run 2 rfl (At.nil ?_))))); refine At.thn ?_; refine At.block ?_; obtain ⟨d9, e1, h0, j⟩ := bjoin j; obtain ⟨b3, b4, e2⟩ := bsome j; clear j; unfold Q23.l1 at b4; obtain ⟨b5, a2⟩ := Q14.1 b4; clear b4; let T7 : HProp := mapo Fl.bs.ov Q4.fl.av N O; refine At.loopJ (X := (List (Q10 × Q4)) × Int) (Y := (List (Q10 × Q4))) (e0 := 2) (fun s_ => [(1, bp U), (3, bp I), (38, .slice A0_2 p.length c0_2), (39, i6 (p.length : Int)), (40, i6 s_.2)]) (fun s_ => T4 :: mapo Q10.fl.av Q4.fl.av G s_.1 :: T7 :: T6 :: Fr) (fun m_ => fun s_ => iterN (fun t_ : (List (Q10 × Q4)) × Int => Q23.l1b C p t_.1 t_.2) m_ (s_.1, s_.2) = some b3) b5 (([] : List (Q10 × Q4)), 0) a2 (fun V => [(3, bp I)]) (fun V => T4 :: mapo Q10.fl.av Q4.fl.av G V :: T7 :: T6 :: Fr) (fun V => d9 (.inl V) = some r) (fun a w e hs => ⟨e.sub ⟨rfl, rfl, rfl, rfl, rfl, trivial⟩, (by exact hs)⟩) ?_ (fun e3 => ?_)
     ·rintro V j; have j := (e1 _).symm.trans j
      ·refine At.ibx ?_; refine At.thn (sR 2 rfl (nT (At.ret (At.f1 ?_)))); refine At.f2 (At.f2 ?_); refine At.optSome (x := (⟨E, O, V⟩ : Q44)) Q44.ent ?_; refine At.drop (.s .z) ?_; cases bret j; exact At.res (.inl rfl) rfl rfl ⟨(some I), rfl, rfl⟩
     ·clear a2 b5; rintro b5 ⟨b6, u⟩ a2; obtain ⟨e4, f_, e5, hf_, j⟩ := bit a2; clear a2; have j : (Q23.l1b C p b6 u).bind _ = some b3 := j; unfold Q23.l1b at j
      ·refine sR 1 rfl (nT (At.seq ?_)); rcases bite j with ⟨b7, j⟩ | ⟨b7, j⟩
       ··refine At.condT rfl (decide_eq_true b7) ?_
         refine At.skip (At.thn (At.seq ?_)); refine At.block ?_; refine At.seq (At.region ?_); obtain ⟨a4, j⟩ := bnone j; refine At.y (Y.ixRd hr0_2 rfl rfl rfl rfl rfl rfl rfl a4.1 a4.2) rfl rfl rfl (At.y (Y.ldFl hr0_2 rfl (q := 0) rfl rfl a4.1 a4.2 rfl rfl rfl) rfl rfl rfl ?_); refine At.alloc rfl rfl rfl (fun d0 => ?_); refine At.store rfl rfl rfl rfl .z rfl rfl rfl (.c (.c (.c .n))) ?_; refine nT (sR 1 rfl ?_); refine At.y (Y.load rfl rfl (.s (.s (.s (.s .z)))) rfl rfl rfl) rfl rfl rfl ?_; refine At.run 1 rfl (At.y (Y.load rfl rfl .z rfl rfl rfl) rfl rfl rfl ?_); obtain ⟨a5, j⟩ := bnone j; refine At.y (Y.ixRd hr0_1 rfl rfl rfl rfl rfl rfl rfl a5.1 a5.2) rfl rfl rfl (At.y (Y.ldFl hr0_1 rfl (q := 0) rfl rfl a5.1 a5.2 rfl rfl rfl) rfl rfl rfl ?_); refine At.lit rfl (xo := [.tmp 49, .const (.string ⟨#[45]⟩)]) (ys := ([(gt C ((gt p u).Action)), ([45] : Bs)] : List Bs)) Fl.bs rfl rfl rfl rfl rfl rfl rfl rfl rfl rfl rfl (fun d1 d2 => ?_); refine At.run 2 rfl (nT ?_); refine At.block ?_; obtain ⟨e6, e7, h1, j⟩ := bjoin j; obtain ⟨d3, b8, e8⟩ := bsome j; clear j; unfold Q23.l2 at b8; obtain ⟨b9, a3⟩ := Q14.1 b8; clear b8; let T8 : HProp := row Fl.bs 9 d1 (([(gt C ((gt p u).Action)), ([45] : Bs)] : List Bs).length) d2 ([(gt C ((gt p u).Action)), ([45] : Bs)] : List Bs); let T9 : HProp := pc d0 [i6 ((gt p u).From), i6 ((gt p u).Action), i6 ((gt p u).To)] 48; refine At.loopJ (X := (List (Q10 × Q4)) × Int) (Y := (List (Q10 × Q4))) (e0 := 4) (fun s_ => [(1, bp U), (3, bp I), (7, bp d0), (38, .slice A0_2 p.length c0_2), (39, i6 (p.length : Int)), (40, i6 u), (50, .slice d1 (([(gt C ((gt p u).Action)), ([45] : Bs)] : List Bs).length) d2), (51, i6 (([(gt C ((gt p u).Action)), ([45] : Bs)] : List Bs).length : Int)), (52, i6 s_.2)]) (fun s_ => T8 :: T9 :: T4 :: mapo Q10.fl.av Q4.fl.av G s_.1 :: T7 :: T6 :: Fr) (fun m_ => fun s_ => iterN (fun t_ : (List (Q10 × Q4)) × Int => Q23.l2b C p u t_.1 t_.2) m_ (s_.1, s_.2) = some d3) b9 (b6, 0) a3 (fun Z => [(1, bp U), (3, bp I), (38, .slice A0_2 p.length c0_2), (39, i6 (p.length : Int)), (40, i6 u)]) (fun Z => T8 :: T9 :: T4 :: mapo Q10.fl.av Q4.fl.av G Z :: T7 :: T6 :: Fr) (fun Z => e6 (.inl Z) = some b3) (fun a w e hs => ⟨e.sub ⟨rfl, rfl, rfl, rfl, rfl, rfl, rfl, rfl, rfl, trivial⟩, (by exact hs)⟩) ?_ (fun e9 => ?_)
         ·rintro Z j; have j := (e7 _).symm.trans j
          ·refine At.ibx ?_; refine At.ibn ?_; refine At.thn (At.region (At.run 2 rfl (At.nil (At.drop .z (At.drop .z ?_))))); have j := bnx hf_ j; exact fun a w e hs => ⟨e4, (Z, IntKind.i64.wrap (u + 1)), e5, j, e.sub ⟨rfl, rfl, rfl, rfl, rfl, trivial⟩, hs⟩
         ·clear a3 b9; rintro b9 ⟨c4, J⟩ a3; obtain ⟨f0, f_, f4, hf_, j⟩ := bit a3; clear a3; have j : (Q23.l2b C p u c4 J).bind _ = some d3 := j; unfold Q23.l2b at j
          ·refine sR 1 rfl (nT (At.seq ?_)); rcases bite j with ⟨c5, j⟩ | ⟨c5, j⟩
           ··refine At.condT rfl (decide_eq_true c5) ?_
             refine At.skip (At.thn (At.seq ?_)); refine At.block ?_; refine At.seq (At.region ?_); obtain ⟨a6, j⟩ := bnone j; refine At.y (Y.ix .z rfl rfl rfl rfl rfl rfl a6.1 a6.2) rfl rfl rfl (At.y (Y.ld .z (q := 0) rfl rfl a6.1 a6.2 rfl rfl rfl) rfl rfl rfl (At.run 1 rfl (nT (sR 1 rfl ?_)))); refine At.y (Y.load rfl rfl (.s .z) rfl rfl rfl) rfl rfl rfl (At.run 1 rfl ?_); refine At.y (Y.build (is := [0, 1]) (xo := [.tmp 57, .tmp 58]) (vs := [i6 ((gt p u).From), .string ⟨(gt ([(gt C ((gt p u).Action)), ([45] : Bs)] : List Bs) J).toArray⟩]) (cs := [i6 ((gt p u).From), .string ⟨(gt ([(gt C ((gt p u).Action)), ([45] : Bs)] : List Bs) J).toArray⟩]) rfl rfl rfl rfl rfl rfl) rfl rfl rfl ?_; refine At.alloc rfl rfl rfl (fun f6 => ?_); refine At.store rfl rfl rfl rfl .z rfl rfl rfl (.c (.c .n)) ?_; refine nT ?_; refine At.held [pc f6 [i6 ((gt p u).From), .string ⟨(gt ([(gt C ((gt p u).Action)), ([45] : Bs)] : List Bs) J).toArray⟩] 85, T8, T9, T4, T7, T6] 15 rfl ?_; refine At.H.pw 0 rfl rfl rfl rfl rfl (.c .z (.c .z (.c .z (.c .z (.c (.s .z) (.c (.s .z) .n)))))) ?_; refine At.H.pw 1 rfl rfl rfl rfl rfl (.c .z (.c .z (.c .z (.c .z (.c (.s .z) (.c (.s .z) .n)))))) ?_; refine At.H.pw 2 rfl rfl rfl rfl rfl (.c .z (.c .z (.c .z (.c .z (.c (.s .z) (.c (.s .z) .n)))))) ?_; refine At.H.tw 3 rfl (Y.load rfl rfl (.s (.s (.s .z))) rfl rfl rfl) rfl rfl rfl (.c .z (.c .z (.c .z (.c .z (.c (.s .z) (.c (.s .z) .n)))))) ?_; refine At.H.tw 4 rfl (Y.load rfl rfl .z rfl rfl rfl) rfl rfl rfl (.c .z (.c .z (.c .z (.c .z (.c (.s .z) (.c (.s .z) .n)))))) ?_; refine At.H.pw 5 rfl rfl rfl rfl rfl (.c .z (.c .z (.c .z (.c .z (.c (.s .z) (.c (.s .z) .n)))))) ?_; refine At.H.pw 6 rfl rfl rfl rfl rfl (.c .z (.c .z (.c .z (.c .z (.c (.s .z) (.c (.s .z) .n)))))) ?_; refine At.H.pw 7 rfl rfl rfl rfl rfl (.c .z (.c .z (.c .z (.c .z (.c (.s .z) (.c (.s .z) .n)))))) ?_; refine At.H.tw 8 rfl (Y.load rfl rfl (.s (.s (.s .z))) rfl rfl rfl) rfl rfl rfl (.c .z (.c .z (.c .z (.c .z (.c (.s .z) (.c (.s .z) .n)))))) ?_; refine At.H.tw 9 rfl (Y.load rfl rfl .z rfl rfl rfl) rfl rfl rfl (.c .z (.c .z (.c .z (.c .z (.c (.s .z) (.c (.s .z) .n)))))) ?_; refine At.H.pw 11 rfl rfl rfl rfl rfl (.c .z (.c .z (.c .z (.c .z (.c (.s .z) (.c (.s .z) .n)))))) ?_; refine At.H.tw 12 rfl (Y.load rfl rfl (.s (.s .z)) rfl rfl rfl) rfl rfl rfl (.c .z (.c .z (.c .z (.c .z (.c (.s .z) (.c (.s .z) .n)))))) ?_; refine At.H.al [10] (Q7 ?_ Q8)
             ··refine At.HO.op rfl ?_
               refine At.y (Y.lookup (k := (⟨(gt p u).From, gt ([(gt C ((gt p u).Action)), ([45] : Bs)] : List Bs) J⟩ : Q10)) (z := (⟨(0 : Int), (0 : Int), (0 : Int), (0 : Int)⟩ : Q4)) (.s (.s (.s (.s .z)))) rfl rfl Q10.keyok (by kernel_rfl) rfl rfl rfl) rfl rfl rfl ?_; refine At.HO.back (.c .z (.c .z (.c .z (.c .z (.c (.s .z) (.c (.s .z) .n)))))) ?_; refine At.H.al [13] (Q7 ?_ Q8)
               ··refine At.HO.op rfl ?_
                 obtain ⟨L, f7, j⟩ := bbind j; refine At.call rfl Q108.callee rfl rfl rfl (Q108.spec f7) ?_; rintro _ _ ⟨rfl, rfl⟩; refine At.HO.back (.c .z (.c .z (.c .z (.c .z (.c (.s .z) (.c (.s .z) .n)))))) ?_; refine At.H.al [14] (Q7 ?_ Q8)
                 ··refine At.HO.op rfl ?_
                   refine At.mapUpdate (k := (⟨(gt p u).From, gt ([(gt C ((gt p u).Action)), ([45] : Bs)] : List Bs) J⟩ : Q10)) (v := (⟨L.1, L.2.1, L.2.2.1, L.2.2.2⟩ : Q4)) rfl (.s (.s (.s (.s .z)))) rfl rfl Q10.keyok rfl rfl rfl rfl rfl ?_; refine At.HO.back (.c (.s .z) (.c (.s .z) (.c (.s .z) (.c (.s .z) (.c (.s .z) (.c (.s .z) .n)))))) ?_; refine At.H.done (by kernel_rfl) ?_; refine At.ibn ?_; refine At.thn (At.region (At.run 2 rfl (At.nil (At.drop (.s .z) (At.f5 (At.f5 (At.f2 ?_))))))); refine At.f5 (At.f5 (At.f5 ?_)); have j := bnx hf_ j; exact fun a w e hs => ⟨f0, ((mset c4 (⟨(gt p u).From, gt ([(gt C ((gt p u).Action)), ([45] : Bs)] : List Bs) J⟩ : Q10) (⟨L.1, L.2.1, L.2.2.1, L.2.2.2⟩ : Q4)), IntKind.i64.wrap (J + 1)), f4, j, e.sub ⟨rfl, rfl, rfl, rfl, rfl, rfl, rfl, rfl, rfl, trivial⟩, hs⟩
           ··refine At.condF rfl (decide_eq_false c5) ?_
             refine At.exit ?_; refine At.the ?_; refine At.the ?_; exact fun a w e hs => e9 c4 (bdn j e8) a w (e.sub ⟨rfl, rfl, rfl, rfl, rfl, trivial⟩) hs
       ··refine At.condF rfl (decide_eq_false b7) ?_
         refine At.exit ?_; refine At.the ?_; refine At.the ?_; exact fun a w e hs => e3 b6 (bdn j e2) a w (e.sub ⟨rfl, trivial⟩) hs
   ·clear a1 b2; rintro b2 ⟨c6, a0⟩ a1; obtain ⟨f8, f_, f9, hf_, j⟩ := bit a1; clear a1; have j : (Q23.l0b D c6 a0).bind _ = some c9 := j; unfold Q23.l0b at j
    ·refine sR 1 rfl (nT (At.seq ?_)); rcases bite j with ⟨c7, j⟩ | ⟨c7, j⟩
     ··refine At.condT rfl (decide_eq_true c7) ?_
       refine At.skip (At.thn (At.seq ?_)); refine At.block ?_; refine At.seq (At.region ?_); obtain ⟨a7, j⟩ := bnone j; refine At.y (Y.ixRd hr0_3 rfl rfl rfl rfl rfl rfl rfl a7.1 a7.2) rfl rfl rfl ?_; obtain ⟨h2, g0, g1⟩ := RdS.whole (P := Tryz.prog) hr0_3 (Sub.refl _) rfl a7.1 a7.2; obtain ⟨_, _, rfl, rfl, ⟨g2, g3, rfl, g4, g5⟩⟩ := g0; refine At.y (g1 rfl rfl rfl rfl) rfl rfl rfl ?_; refine At.alloc rfl rfl rfl (fun g6 => ?_); refine At.store rfl rfl rfl rfl .z rfl rfl rfl (.c (.c .n)) ?_; refine nT ?_; refine At.held [pc g6 [.string ⟨((gt D a0).Name).toArray⟩, .slice g2 ((gt D a0).States.length) g3] 41, T4, T5, T6] 10 rfl ?_; refine At.H.pw 0 rfl rfl rfl rfl rfl (.c .z (.c .z (.c .z (.c (.s .z) .n)))) ?_; refine At.H.pw 1 rfl rfl rfl rfl rfl (.c .z (.c .z (.c .z (.c (.s .z) .n)))) ?_; refine At.H.pw 2 rfl rfl rfl rfl rfl (.c .z (.c .z (.c .z (.c (.s .z) .n)))) ?_; refine At.H.tw 3 rfl (Y.load rfl rfl (.s .z) rfl rfl rfl) rfl rfl rfl (.c .z (.c .z (.c .z (.c (.s .z) .n)))) ?_; refine At.H.pw 4 rfl rfl rfl rfl rfl (.c .z (.c .z (.c .z (.c (.s .z) .n)))) ?_; refine At.H.tw 5 rfl (Y.load rfl rfl .z rfl rfl rfl) rfl rfl rfl (.c .z (.c .z (.c .z (.c (.s .z) .n)))) ?_; refine At.H.pw 6 rfl rfl rfl rfl rfl (.c .z (.c .z (.c .z (.c (.s .z) .n)))) ?_; refine At.H.tw 7 rfl (Y.load rfl rfl .z rfl rfl rfl) rfl rfl rfl (.c .z (.c .z (.c .z (.c (.s .z) .n)))) ?_; refine At.H.al [8] (Q7 ?_ Q8)
       ··refine At.HO.op rfl ?_
         obtain ⟨M, g7, j⟩ := bbind j; refine At.call rfl Q60.callee rfl rfl rfl (Q60.spec g5 rfl g4 g7) ?_; rintro _ _ ⟨rfl, rfl⟩; refine At.HO.back (.c .z (.c .z (.c .z (.c (.s .z) .n)))) ?_; refine At.H.al [9] (Q7 ?_ Q8)
         ··refine At.HO.op rfl ?_
           refine At.mapUpdate (k := ((gt D a0).Name)) (v := (⟨M.1, M.2.1, M.2.2.1, M.2.2.2⟩ : Q4)) rfl (.s (.s (.s .z))) rfl rfl (KeyOk.str rfl rfl) rfl rfl rfl rfl rfl ?_; refine At.HO.back (.c (.s .z) (.c (.s .z) (.c (.s .z) (.c (.s .z) .n)))) ?_; refine At.H.done (by kernel_rfl) ?_; refine At.ibn ?_; refine At.thn (At.region (At.run 2 rfl (At.nil (At.drop (.s .z) (At.f3 (At.f1 (At.f3 ?_))))))); refine At.f3 ?_; have j := bnx hf_ j; exact fun a w e hs => ⟨f8, ((mset c6 ((gt D a0).Name) (⟨M.1, M.2.1, M.2.2.1, M.2.2.2⟩ : Q4)), IntKind.i64.wrap (a0 + 1)), f9, j, e.sub ⟨rfl, rfl, rfl, rfl, rfl, trivial⟩, hs⟩
     ··refine At.condF rfl (decide_eq_false c7) ?_
       refine At.exit ?_; refine At.the ?_; refine At.the ?_; exact fun a w e hs => d8 c6 (bdn j d7) a w (e.sub ⟨rfl, rfl, trivial⟩) hs
 ··refine At.condT rfl (nt (bn a8)) ?_
   refine sR 1 rfl (nT (At.ret (At.thr ?_))); refine At.optNone Q44.ow 82 ?_; refine At.drop (.s .z) ?_; cases bret j; exact At.res (.inl rfl) rfl rfl ⟨none, rfl, rfl⟩

end Go.Bw
