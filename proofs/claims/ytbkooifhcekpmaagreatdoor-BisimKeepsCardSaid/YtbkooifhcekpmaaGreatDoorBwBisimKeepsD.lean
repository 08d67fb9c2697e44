/- BisimKeeps, part 4: walks and plain laws. Conditions: none. -/
import Derived.Test.YtbkooifhcekpmaaGreatDoorProg
import Derived.Deep.QuietTactic
import Derived.Maps.RangeRun
import Derived.Test.YtbkooifhcekpmaaGreatDoorBwBisimKeepsC
set_option linter.unusedVariables false
set_option linter.unusedSimpArgs false
set_option linter.unusedSectionVars false
set_option maxRecDepth 100000
set_option maxHeartbeats 2000000
namespace Go.Bw
open Go Go.RowKit Go.Proofs
variable {R : Res} {Fr : List HProp} {b0 n0_0 c0_0 n0_3 c0_3 n0_4 c0_4 n0_5 c0_5 n0_6 c0_6 b0_7 n0 c0 n0_1 c0_1 b1 b1_c0 : Nat} {A0_0 A0_3 A0_4 A0_5 A0_6 A0 A0_1 : Option Addr}
structure Q8 where
 Kind : Int
 At : Int
 Text : Bs
 Number : Int
deriving Inhabited, DecidableEq
def Q8.fl : Fl Q8 := ⟨4, fun x => [i6 x.Kind, i6 x.At, .string ⟨(x.Text).toArray⟩, i6 x.Number], fun _ => rfl, fun x u hu => by simp at hu; rcases hu with rfl | rfl | rfl | rfl <;> rfl, by decide⟩
structure Q5 where
 At : Int
 Err : Int
deriving Inhabited, DecidableEq
def Q5.fl : Fl Q5 := ⟨2, fun x => [i6 x.At, i6 x.Err], fun _ => rfl, fun x u hu => by simp at hu; rcases hu with rfl | rfl <;> rfl, by decide⟩
structure Q10 where
 from_ : Int
 action : Bs
 to : Int
deriving Inhabited, DecidableEq
def Q10.fl : Fl Q10 := ⟨3, fun x => [i6 x.from_, .string ⟨(x.action).toArray⟩, i6 x.to], fun _ => rfl, fun x u hu => by simp at hu; rcases hu with rfl | rfl | rfl <;> rfl, by decide⟩
theorem bytealg_IndexByteString.ext : ExtOk Tryz.prog 168 Extern.BytealgIndexByte.indexByte := ⟨_, Tryz.func168, by kernel_rfl, by kernel_rfl, by kernel_rfl, by kernel_rfl⟩

noncomputable def Q150.f (a0 : Bs) (a1 : Int) : Option Int :=
 some (Lib.indexByte a0 a1.toNat.toUInt8)
theorem Q150.callee : Callee Tryz.prog 140 := ⟨_, Tryz.func140, by kernel_rfl, by kernel_rfl⟩
theorem Q150.spec {a0 : Bs} {a1 : Int} {r : Int} (j : Q150.f a0 a1 = some r) :
 Spec Tryz.prog 140 [.string ⟨(a0).toArray⟩, .int .u8 a1] R (Fr) (fun v l' => v = i6 r ∧ Fr = l') := by
 refine Spec.of Tryz.func140 rfl rfl ?_; unfold Q150.f at j; have j := brun j; refine sR 1 rfl (nT (sR 2 rfl ?_)); refine At.y (Y.ext bytealg_IndexByteString.ext rfl rfl (fun w => Q349 _ _ w)) rfl rfl rfl ?_; refine At.run 1 rfl (nT (At.ret ?_)); cases bret j; exact At.res (.inl rfl) rfl rfl ⟨rfl, rfl⟩

noncomputable def Q151.f (a0 : Bs) (a1 : Int) : Option Int :=
 (Q150.f a0 a1).bind fun p =>
 some p
theorem Q151.callee : Callee Tryz.prog 94 := ⟨_, Tryz.func94, by kernel_rfl, by kernel_rfl⟩
theorem Q151.spec {a0 : Bs} {a1 : Int} {r : Int} (j : Q151.f a0 a1 = some r) :
 Spec Tryz.prog 94 [.string ⟨(a0).toArray⟩, .int .u8 a1] R (Fr) (fun v l' => v = i6 r ∧ Fr = l') := by
 refine Spec.of Tryz.func94 rfl rfl ?_; unfold Q151.f at j; have j := brun j; refine sR 1 rfl (nT (sR 2 rfl ?_)); obtain ⟨q, p, j⟩ := bbind j; refine At.call rfl Q150.callee rfl rfl rfl (Q150.spec p) ?_; rintro _ _ ⟨rfl, rfl⟩; refine At.run 1 rfl (nT (At.ret ?_)); cases bret j; exact At.res (.inl rfl) rfl rfl ⟨rfl, rfl⟩

noncomputable def Q146.f (a0 : Int) : Option Int :=
 if a0 = 10 then
 some 1
 else
 jn (
 if 97 ≤ a0 then
 some (.inl (decide (a0 ≤ 122)))
 else
 some (.inl false)) (fun (p : Bool) =>
 if p = true then
 some 2
 else
 jn (
 if 65 ≤ a0 then
 some (.inl (decide (a0 ≤ 90)))
 else
 some (.inl false)) (fun (q : Bool) =>
 if q = true then
 some 3
 else
 jn (
 if 48 ≤ a0 then
 some (.inl (decide (a0 ≤ 57)))
 else
 some (.inl false)) (fun (u : Bool) =>
 if u = true then
 some 4
 else
 jn (
 if 32 < a0 then
 some (.inl (decide (a0 < 127)))
 else
 some (.inl false)) (fun (D : Bool) =>
 jn (
 if D = true then
 some (.inl (!(decide (a0 = 95))))
 else
 some (.inl false)) (fun (G : Bool) =>
 if G = true then
 some 5
 else
 some 0)))))
theorem Q146.callee : Callee Tryz.prog 141 := ⟨_, Tryz.func141, by kernel_rfl, by kernel_rfl⟩
theorem Q146.spec {a0 : Int} {r : Int} (j : Q146.f a0 = some r) :
 Spec Tryz.prog 141 [.int .u8 a0] R (Fr) (fun v l' => v = i6 r ∧ Fr = l') := by
 refine Spec.of Tryz.func141 rfl rfl ?_; unfold Q146.f at j; have j := brun j; refine sR 1 rfl (nT (At.seq ?_)); refine At.block ?_; refine sR 3 rfl (nT ?_); rcases bite j with ⟨I, j⟩ | ⟨I, j⟩
 ··refine At.condT rfl (decide_eq_true I) ?_
   refine sR 1 rfl (nT (At.ret ?_)); refine At.ibr ?_; refine At.thr ?_; cases bret j; exact At.res (.inl rfl) rfl rfl ⟨rfl, rfl⟩
 ··refine At.condF rfl (decide_eq_false I) ?_
   refine sR 3 rfl ?_; obtain ⟨a9, b4, d1, j⟩ := bjoin j; refine At.joinO 3 (X := Bool) (fun p => [(0, .int .u8 a0), (12, .bool p)]) (fun p => Fr) (fun p => a9 (.inl p) = some r) ?_ (fun a4 => ?_)
   ·rintro p j; have j := (b4 _).symm.trans j
    ·refine At.run 1 rfl (nT ?_); rcases bite j with ⟨J, j⟩ | ⟨J, j⟩
     ··refine At.condT rfl J ?_
       refine sR 1 rfl (nT (At.ret ?_)); refine At.ibr ?_; refine At.thr ?_; cases bret j; exact At.res (.inl rfl) rfl rfl ⟨rfl, rfl⟩
     ··refine At.condF rfl (bn J) ?_
       refine sR 3 rfl ?_; obtain ⟨b5, b6, d2, j⟩ := bjoin j; refine At.joinO 3 (X := Bool) (fun q => [(0, .int .u8 a0), (19, .bool q)]) (fun q => Fr) (fun q => b5 (.inl q) = some r) ?_ (fun a5 => ?_)
       ·rintro q j; have j := (b6 _).symm.trans j
        ·refine At.run 1 rfl (nT ?_); rcases bite j with ⟨L, j⟩ | ⟨L, j⟩
         ··refine At.condT rfl L ?_
           refine sR 1 rfl (nT (At.ret ?_)); refine At.ibr ?_; refine At.thr ?_; cases bret j; exact At.res (.inl rfl) rfl rfl ⟨rfl, rfl⟩
         ··refine At.condF rfl (bn L) ?_
           refine sR 3 rfl ?_; obtain ⟨b7, b8, d3, j⟩ := bjoin j; refine At.joinO 3 (X := Bool) (fun u => [(0, .int .u8 a0), (26, .bool u)]) (fun u => Fr) (fun u => b7 (.inl u) = some r) ?_ (fun a6 => ?_)
           ·rintro u j; have j := (b8 _).symm.trans j
            ·refine At.run 1 rfl (nT ?_); rcases bite j with ⟨O, j⟩ | ⟨O, j⟩
             ··refine At.condT rfl O ?_
               refine sR 1 rfl (nT (At.ret ?_)); refine At.ibr ?_; refine At.thr ?_; cases bret j; exact At.res (.inl rfl) rfl rfl ⟨rfl, rfl⟩
             ··refine At.condF rfl (bn O) ?_
               refine sR 3 rfl ?_; obtain ⟨b9, c8, d4, j⟩ := bjoin j; refine At.joinO 3 (X := Bool) (fun D => [(0, .int .u8 a0), (33, .bool D)]) (fun D => Fr) (fun D => b9 (.inl D) = some r) ?_ (fun a7 => ?_)
               ·rintro D j; have j := (c8 _).symm.trans j
                ·refine At.run 1 rfl ?_; obtain ⟨c9, d0, d5, j⟩ := bjoin j; refine At.joinO 3 (X := Bool) (fun G => [(37, .bool G)]) (fun G => Fr) (fun G => c9 (.inl G) = some r) ?_ (fun a8 => ?_)
                 ·rintro G j; have j := (d0 _).symm.trans j
                  ·refine At.run 1 rfl (nT ?_); rcases bite j with ⟨U, j⟩ | ⟨U, j⟩
                   ··refine At.condT rfl U ?_
                     refine sR 1 rfl (nT (At.ret ?_)); refine At.ibr ?_; refine At.thr ?_; cases bret j; exact At.res (.inl rfl) rfl rfl ⟨rfl, rfl⟩
                   ··refine At.condF rfl (bn U) ?_
                     refine At.skip ?_; refine At.ibn ?_; refine At.thn (sR 1 rfl (nT (At.ret ?_))); cases bret j; exact At.res (.inl rfl) rfl rfl ⟨rfl, rfl⟩
                 ··rcases bite j with ⟨V, j⟩ | ⟨V, j⟩
                   ··refine At.know (t := 34) rfl V ?_
                     refine At.run 3 rfl ?_; exact At.of (a8 (!(decide (a0 = 95))) j) ⟨rfl, trivial⟩
                   ··refine At.know (t := 34) rfl (bn V) ?_
                     refine At.run 3 rfl ?_; exact At.of (a8 false j) ⟨rfl, trivial⟩
               ··rcases bite j with ⟨Z, j⟩ | ⟨Z, j⟩
                 ··refine At.know (t := 30) rfl (decide_eq_true Z) ?_
                   refine At.run 3 rfl ?_; exact At.of (a7 (decide (a0 < 127)) j) ⟨rfl, rfl, trivial⟩
                 ··refine At.know (t := 30) rfl (decide_eq_false Z) ?_
                   refine At.run 3 rfl ?_; exact At.of (a7 false j) ⟨rfl, rfl, trivial⟩
           ··rcases bite j with ⟨a1, j⟩ | ⟨a1, j⟩
             ··refine At.know (t := 23) rfl (decide_eq_true a1) ?_
               refine At.run 3 rfl ?_; exact At.of (a6 (decide (a0 ≤ 57)) j) ⟨rfl, rfl, trivial⟩
             ··refine At.know (t := 23) rfl (decide_eq_false a1) ?_
               refine At.run 3 rfl ?_; exact At.of (a6 false j) ⟨rfl, rfl, trivial⟩
       ··rcases bite j with ⟨a2, j⟩ | ⟨a2, j⟩
         ··refine At.know (t := 16) rfl (decide_eq_true a2) ?_
           refine At.run 3 rfl ?_; exact At.of (a5 (decide (a0 ≤ 90)) j) ⟨rfl, rfl, trivial⟩
         ··refine At.know (t := 16) rfl (decide_eq_false a2) ?_
           refine At.run 3 rfl ?_; exact At.of (a5 false j) ⟨rfl, rfl, trivial⟩
   ··rcases bite j with ⟨a3, j⟩ | ⟨a3, j⟩
     ··refine At.know (t := 9) rfl (decide_eq_true a3) ?_
       refine At.run 3 rfl ?_; exact At.of (a4 (decide (a0 ≤ 122)) j) ⟨rfl, rfl, trivial⟩
     ··refine At.know (t := 9) rfl (decide_eq_false a3) ?_
       refine At.run 3 rfl ?_; exact At.of (a4 false j) ⟨rfl, rfl, trivial⟩

noncomputable def Q38.l0b (a1 : Bs) (p : Int) : Option ((Int) ⊕ ((Int) ⊕ ((Int) ⊕ (Int)))) :=
 jn (
 if p < (a1.length : Int) then
 if (0 : Int) ≤ p ∧ p < (a1.length : Int) then
 some (.inl (decide (48 ≤ bat a1 p)))
 else none
 else
 some (.inl false)) (fun (q : Bool) =>
 jn (
 if q = true then
 if (0 : Int) ≤ p ∧ p < (a1.length : Int) then
 some (.inl (decide (bat a1 p ≤ 57)))
 else none
 else
 some (.inl false)) (fun (u : Bool) =>
 if u = true then
 nx (IntKind.i64.wrap (p + 1))
 else
 dn (.inl p)))
noncomputable def Q38.l0 (a1 : Bs) (p : Int) : Option ((Int) ⊕ ((Int) ⊕ (Int))) := iter (fun t_ : Int => Q38.l0b a1 t_) p
noncomputable def Q38.l1b (a1 : Bs) (p : Int) : Option ((Int) ⊕ ((Int) ⊕ ((Int) ⊕ (Int)))) :=
 jn (
 if p < (a1.length : Int) then
 if (0 : Int) ≤ p ∧ p < (a1.length : Int) then
 jn (
 if bat a1 p = 95 then
 some (.inl (true, true))
 else
 jn (
 if 97 ≤ bat a1 p then
 some (.inl (true, decide (bat a1 p ≤ 122)))
 else
 some (.inl (false, false))) (fun (s_ : Bool × Bool) =>
 some (.inl (false, s_.2)))) (fun (s_ : Bool × Bool) =>
 jn (
 if s_.2 = true then
 some (.inl (true, true))
 else
 jn (
 if 65 ≤ bat a1 p then
 some (.inl (true, decide (bat a1 p ≤ 90)))
 else
 some (.inl (false, false))) (fun (s_ : Bool × Bool) =>
 some (.inl (false, s_.2)))) (fun (s_ : Bool × Bool) =>
 jn (
 if s_.2 = true then
 some (.inl (true, true))
 else
 jn (
 if 48 ≤ bat a1 p then
 some (.inl (true, decide (bat a1 p ≤ 57)))
 else
 some (.inl (false, false))) (fun (s_ : Bool × Bool) =>
 some (.inl (false, s_.2)))) (fun (s_ : Bool × Bool) =>
 some (.inl s_.2))))
 else none
 else
 some (.inl false)) (fun (q : Bool) =>
 if q = true then
 nx (IntKind.i64.wrap (p + 1))
 else
 dn (.inl p))
noncomputable def Q38.l1 (a1 : Bs) (p : Int) : Option ((Int) ⊕ ((Int) ⊕ (Int))) := iter (fun t_ : Int => Q38.l1b a1 t_) p
noncomputable def Q38.f (a0 : Int) (a1 : Bs) : Option Int :=
 jn (
 if a0 = 4 then
 jn (Q38.l0 a1 1) (fun (p : Int) =>
 some (.inl p))
 else
 jn (
 if a0 = 2 then
 some (.inl (decide (a0 = 2)))
 else
 some (.inl (decide (a0 = 3)))) (fun (q : Bool) =>
 if q = true then
 jn (Q38.l1 a1 1) (fun (u : Int) =>
 some (.inl u))
 else
 some (.inl 1))) (fun (D : Int) =>
 some D)
theorem Q38.callee : Callee Tryz.prog 142 := ⟨_, Tryz.func142, by kernel_rfl, by kernel_rfl⟩
theorem Q38.spec {a0 : Int} {a1 : Bs} {r : Int} (j : Q38.f a0 a1 = some r) :
 Spec Tryz.prog 142 [i6 a0, .string ⟨(a1).toArray⟩] R (Fr) (fun v l' => v = i6 r ∧ Fr = l') := by
 refine Spec.of Tryz.func142 rfl rfl ?_; unfold Q38.f at j; have j := brun j; refine sR 1 rfl (nT (sR 1 rfl ?_)); refine nT (At.seq (sR 1 rfl (nT ?_))); obtain ⟨f2, f3, l7, j⟩ := bjoin j; refine At.join (X := Int) (fun J => [(5, i6 J)]) (fun J => Fr) (fun J => f2 (.inl J) = some r) ?_ (fun a6 => ?_)
 ·rintro J j; have j := (f3 _).symm.trans j
  ·refine sR 2 rfl (nT (At.ret ?_)); cases bret j; exact At.res (.inl rfl) rfl rfl ⟨rfl, rfl⟩
 ··refine At.block ?_
   refine sR 2 rfl (nT ?_); rcases bite j with ⟨a7, j⟩ | ⟨a7, j⟩
   ··refine At.condT rfl (decide_eq_true a7) ?_
     refine At.block ?_; obtain ⟨f4, f5, l8, j⟩ := bjoin j; obtain ⟨a3, a8, f6⟩ := bsome j; clear j; unfold Q38.l0 at a8; obtain ⟨a9, L⟩ := Q16.1 a8; clear a8; refine At.loopJ (X := Int) (Y := Int) (e0 := 1) (fun u => [(1, .string ⟨(a1).toArray⟩), (5, i6 u)]) (fun u => Fr) (fun m_ => fun u => iterN (fun t_ : Int => Q38.l0b a1 t_) m_ u = some a3) a9 1 L (fun G => [(5, i6 G)]) (fun G => Fr) (fun G => f4 (.inl G) = some r) (fun a w e hs => ⟨e.sub ⟨rfl, rfl, trivial⟩, (by exact hs)⟩) ?_ (fun f7 => ?_)
     ·rintro G j; have j := (f5 _).symm.trans j
      ·refine At.ibx ?_; refine At.ibn ?_; refine At.thn ?_; exact fun a w e hs => a6 G j a w (e.sub ⟨rfl, trivial⟩) hs
     ·clear L a9; rintro a9 u L; obtain ⟨f8, f_, f9, hf_, j⟩ := bit L; clear L; have j : (Q38.l0b a1 u).bind _ = some a3 := j; unfold Q38.l0b at j
      ·refine At.seq (sR 5 rfl ?_); obtain ⟨g0, g1, l9, j⟩ := bjoin j; refine At.joinO 5 (X := Bool) (fun O => [(1, .string ⟨(a1).toArray⟩), (5, i6 u), (18, .bool O)]) (fun O => Fr) (fun O => g0 (.inl O) = some a3) ?_ (fun d7 => ?_)
       ·rintro O j; have j := (g1 _).symm.trans j
        ·refine At.run 1 rfl ?_; obtain ⟨g2, g3, m0, j⟩ := bjoin j; refine At.joinO 5 (X := Bool) (fun U => [(1, .string ⟨(a1).toArray⟩), (5, i6 u), (24, .bool U)]) (fun U => Fr) (fun U => g2 (.inl U) = some a3) ?_ (fun d8 => ?_)
         ·rintro U j; have j := (g3 _).symm.trans j
          ·refine nT ?_; rcases bite j with ⟨b4, j⟩ | ⟨b4, j⟩
           ··refine At.condT rfl b4 ?_
             refine At.skip (At.thn ?_); refine At.block ?_; refine At.region (At.run 3 rfl (At.nil ?_)); refine At.ibn ?_; have j := bnx hf_ j; exact fun a w e hs => ⟨f8, (IntKind.i64.wrap (u + 1)), f9, j, e.sub ⟨rfl, rfl, trivial⟩, hs⟩
           ··refine At.condF rfl (bn b4) ?_
             refine At.exit ?_; refine At.the ?_; refine At.the ?_; exact fun a w e hs => f7 u (bdn j f6) a w (e.sub ⟨rfl, trivial⟩) hs
         ··rcases bite j with ⟨b5, j⟩ | ⟨b5, j⟩
           ··refine At.know (t := 19) rfl b5 ?_
             refine At.run 2 rfl ?_; obtain ⟨d9, j⟩ := bnone j; refine At.y (Y.ixStr rfl rfl rfl rfl d9.1 d9.2) rfl rfl rfl (At.run 2 rfl ?_); exact At.of (d8 (decide (bat a1 u ≤ 57)) j) ⟨rfl, rfl, rfl, trivial⟩
           ··refine At.know (t := 19) rfl (bn b5) ?_
             refine At.run 5 rfl ?_; exact At.of (d8 false j) ⟨rfl, rfl, rfl, trivial⟩
       ··rcases bite j with ⟨b6, j⟩ | ⟨b6, j⟩
         ··refine At.know (t := 13) rfl (decide_eq_true b6) ?_
           refine At.run 2 rfl ?_; obtain ⟨e1, j⟩ := bnone j; refine At.y (Y.ixStr rfl rfl rfl rfl e1.1 e1.2) rfl rfl rfl (At.run 2 rfl ?_); exact At.of (d7 (decide (48 ≤ bat a1 u)) j) ⟨rfl, rfl, rfl, trivial⟩
         ··refine At.know (t := 13) rfl (decide_eq_false b6) ?_
           refine At.run 5 rfl ?_; exact At.of (d7 false j) ⟨rfl, rfl, rfl, trivial⟩
   ··refine At.condF rfl (decide_eq_false a7) ?_
     refine At.seq (sR 2 rfl (nT ?_)); obtain ⟨g4, g5, m1, j⟩ := bjoin j; refine At.join (X := Bool) (fun V => [(1, .string ⟨(a1).toArray⟩), (5, i6 1), (27, .bool V)]) (fun V => Fr) (fun V => g4 (.inl V) = some r) ?_ (fun e2 => ?_)
     ·rintro V j; have j := (g5 _).symm.trans j
      ·rcases bite j with ⟨b7, j⟩ | ⟨b7, j⟩
       ··refine At.condT rfl b7 ?_
         refine At.block ?_; obtain ⟨g6, g7, m2, j⟩ := bjoin j; obtain ⟨D, b8, g8⟩ := bsome j; clear j; unfold Q38.l1 at b8; obtain ⟨b9, Z⟩ := Q16.1 b8; clear b8; refine At.loopJ (X := Int) (Y := Int) (e0 := 3) (fun p => [(1, .string ⟨(a1).toArray⟩), (5, i6 p)]) (fun p => Fr) (fun m_ => fun p => iterN (fun t_ : Int => Q38.l1b a1 t_) m_ p = some D) b9 1 Z (fun I => [(5, i6 I)]) (fun I => Fr) (fun I => g6 (.inl I) = some r) (fun a w e hs => ⟨e.sub ⟨rfl, rfl, trivial⟩, (by exact hs)⟩) ?_ (fun g9 => ?_)
         ·rintro I j; have j := (g7 _).symm.trans j
          ·refine At.ibx ?_; refine At.ibn ?_; refine At.thn ?_; exact fun a w e hs => a6 I j a w (e.sub ⟨rfl, trivial⟩) hs
         ·clear Z b9; rintro b9 p Z; obtain ⟨h0, f_, h1, hf_, j⟩ := bit Z; clear Z; have j : (Q38.l1b a1 p).bind _ = some D := j; unfold Q38.l1b at j
          ·refine At.seq (sR 5 rfl ?_); obtain ⟨h2, h3, m3, j⟩ := bjoin j; refine At.joinO 41 (X := Bool) (fun a2 => [(1, .string ⟨(a1).toArray⟩), (5, i6 p), (75, .bool a2)]) (fun a2 => Fr) (fun a2 => h2 (.inl a2) = some D) ?_ (fun e3 => ?_)
           ·rintro a2 j; have j := (h3 _).symm.trans j
            ·refine nT ?_; rcases bite j with ⟨c8, j⟩ | ⟨c8, j⟩
             ··refine At.condT rfl c8 ?_
               refine At.skip (At.thn ?_); refine At.block ?_; refine At.region (At.run 3 rfl (At.nil ?_)); refine At.ibn ?_; have j := bnx hf_ j; exact fun a w e hs => ⟨h0, (IntKind.i64.wrap (p + 1)), h1, j, e.sub ⟨rfl, rfl, trivial⟩, hs⟩
             ··refine At.condF rfl (bn c8) ?_
               refine At.exit ?_; refine At.the ?_; refine At.the ?_; exact fun a w e hs => g9 p (bdn j g8) a w (e.sub ⟨rfl, trivial⟩) hs
           ··rcases bite j with ⟨c9, j⟩ | ⟨c9, j⟩
             ··refine At.know (t := 34) rfl (decide_eq_true c9) ?_
               refine At.run 2 rfl ?_; obtain ⟨q, j⟩ := bnone j; refine At.y (Y.ixStr rfl rfl rfl rfl q.1 q.2) rfl rfl rfl (At.run 2 rfl ?_); obtain ⟨h4, h5, m4, j⟩ := bjoin j; refine At.joinO 11 (X := Bool × Bool) (fun s_ => [(1, .string ⟨(a1).toArray⟩), (5, i6 p), (34, .bool true), (35, .string ⟨(a1).toArray⟩), (36, i6 p), (37, .int .u8 (bat a1 p)), (38, .bool (decide (bat a1 p = 95))), (39, .bool s_.1), (50, .bool s_.2)]) (fun s_ => Fr) (fun s_ => h4 (.inl (s_.1, s_.2)) = some D) ?_ (fun e4 => ?_)
               ·rintro ⟨a4, a5⟩ j; have j := (h5 _).symm.trans j
                ·refine At.run 1 rfl ?_; obtain ⟨h6, h7, m5, j⟩ := bjoin j; refine At.joinO 11 (X := Bool × Bool) (fun s_ => [(1, .string ⟨(a1).toArray⟩), (5, i6 p), (34, .bool true), (35, .string ⟨(a1).toArray⟩), (36, i6 p), (37, .int .u8 (bat a1 p)), (38, .bool (decide (bat a1 p = 95))), (39, .bool a4), (50, .bool a5), (51, .bool s_.1), (62, .bool s_.2)]) (fun s_ => Fr) (fun s_ => h6 (.inl (s_.1, s_.2)) = some D) ?_ (fun e5 => ?_)
                 ·rintro ⟨e6, e7⟩ j; have j := (h7 _).symm.trans j
                  ·refine At.run 1 rfl ?_; obtain ⟨h8, h9, m6, j⟩ := bjoin j; refine At.joinO 11 (X := Bool × Bool) (fun s_ => [(1, .string ⟨(a1).toArray⟩), (5, i6 p), (34, .bool true), (35, .string ⟨(a1).toArray⟩), (36, i6 p), (37, .int .u8 (bat a1 p)), (38, .bool (decide (bat a1 p = 95))), (39, .bool a4), (50, .bool a5), (51, .bool e6), (62, .bool e7), (63, .bool s_.1), (74, .bool s_.2)]) (fun s_ => Fr) (fun s_ => h8 (.inl (s_.1, s_.2)) = some D) ?_ (fun e8 => ?_)
                   ·rintro ⟨m7, k0⟩ j; have j := (h9 _).symm.trans j
                    ·refine At.run 1 rfl ?_; exact At.of (e3 k0 j) ⟨rfl, rfl, rfl, trivial⟩
                   ··rcases bite j with ⟨d0, j⟩ | ⟨d0, j⟩
                     ··refine At.know (t := 63) rfl d0 ?_
                       refine At.run 11 rfl ?_; exact At.of (e8 (true, true) j) ⟨rfl, rfl, rfl, rfl, rfl, rfl, rfl, rfl, rfl, rfl, rfl, rfl, rfl, trivial⟩
                     ··refine At.know (t := 63) rfl (bn d0) ?_
                       refine At.run 2 rfl (At.y (Y.ixStr rfl rfl rfl rfl q.1 q.2) rfl rfl rfl (At.run 2 rfl ?_)); obtain ⟨k1, k2, m8, j⟩ := bjoin j; refine At.joinO 5 (X := Bool × Bool) (fun s_ => [(1, .string ⟨(a1).toArray⟩), (5, i6 p), (34, .bool true), (35, .string ⟨(a1).toArray⟩), (36, i6 p), (37, .int .u8 (bat a1 p)), (38, .bool (decide (bat a1 p = 95))), (39, .bool a4), (50, .bool a5), (51, .bool e6), (62, .bool e7), (63, .bool false), (64, .string ⟨(a1).toArray⟩), (65, i6 p), (66, .int .u8 (bat a1 p)), (67, .bool (decide (48 ≤ bat a1 p))), (68, .bool s_.1), (73, .bool s_.2)]) (fun s_ => Fr) (fun s_ => k1 (.inl (s_.1, s_.2)) = some D) ?_ (fun e9 => ?_)
                       ·rintro ⟨m9, k3⟩ j; have j := (k2 _).symm.trans j
                        ·refine At.run 1 rfl ?_; exact At.of (e8 (false, k3) j) ⟨rfl, rfl, rfl, rfl, rfl, rfl, rfl, rfl, rfl, rfl, rfl, rfl, rfl, trivial⟩
                       ··rcases bite j with ⟨d1, j⟩ | ⟨d1, j⟩
                         ··refine At.know (t := 68) rfl (decide_eq_true d1) ?_
                           refine At.run 2 rfl (At.y (Y.ixStr rfl rfl rfl rfl q.1 q.2) rfl rfl rfl (At.run 2 rfl ?_)); exact At.of (e9 (true, decide (bat a1 p ≤ 57)) j) ⟨rfl, rfl, rfl, rfl, rfl, rfl, rfl, rfl, rfl, rfl, rfl, rfl, rfl, rfl, rfl, rfl, rfl, rfl, trivial⟩
                         ··refine At.know (t := 68) rfl (decide_eq_false d1) ?_
                           refine At.run 5 rfl ?_; exact At.of (e9 (false, false) j) ⟨rfl, rfl, rfl, rfl, rfl, rfl, rfl, rfl, rfl, rfl, rfl, rfl, rfl, rfl, rfl, rfl, rfl, rfl, trivial⟩
                 ··rcases bite j with ⟨d2, j⟩ | ⟨d2, j⟩
                   ··refine At.know (t := 51) rfl d2 ?_
                     refine At.run 11 rfl ?_; exact At.of (e5 (true, true) j) ⟨rfl, rfl, rfl, rfl, rfl, rfl, rfl, rfl, rfl, rfl, rfl, trivial⟩
                   ··refine At.know (t := 51) rfl (bn d2) ?_
                     refine At.run 2 rfl (At.y (Y.ixStr rfl rfl rfl rfl q.1 q.2) rfl rfl rfl (At.run 2 rfl ?_)); obtain ⟨k4, k5, n2, j⟩ := bjoin j; refine At.joinO 5 (X := Bool × Bool) (fun s_ => [(1, .string ⟨(a1).toArray⟩), (5, i6 p), (34, .bool true), (35, .string ⟨(a1).toArray⟩), (36, i6 p), (37, .int .u8 (bat a1 p)), (38, .bool (decide (bat a1 p = 95))), (39, .bool a4), (50, .bool a5), (51, .bool false), (52, .string ⟨(a1).toArray⟩), (53, i6 p), (54, .int .u8 (bat a1 p)), (55, .bool (decide (65 ≤ bat a1 p))), (56, .bool s_.1), (61, .bool s_.2)]) (fun s_ => Fr) (fun s_ => k4 (.inl (s_.1, s_.2)) = some D) ?_ (fun f0 => ?_)
                     ·rintro ⟨n3, k6⟩ j; have j := (k5 _).symm.trans j
                      ·refine At.run 1 rfl ?_; exact At.of (e5 (false, k6) j) ⟨rfl, rfl, rfl, rfl, rfl, rfl, rfl, rfl, rfl, rfl, rfl, trivial⟩
                     ··rcases bite j with ⟨d3, j⟩ | ⟨d3, j⟩
                       ··refine At.know (t := 56) rfl (decide_eq_true d3) ?_
                         refine At.run 2 rfl (At.y (Y.ixStr rfl rfl rfl rfl q.1 q.2) rfl rfl rfl (At.run 2 rfl ?_)); exact At.of (f0 (true, decide (bat a1 p ≤ 90)) j) ⟨rfl, rfl, rfl, rfl, rfl, rfl, rfl, rfl, rfl, rfl, rfl, rfl, rfl, rfl, rfl, rfl, trivial⟩
                       ··refine At.know (t := 56) rfl (decide_eq_false d3) ?_
                         refine At.run 5 rfl ?_; exact At.of (f0 (false, false) j) ⟨rfl, rfl, rfl, rfl, rfl, rfl, rfl, rfl, rfl, rfl, rfl, rfl, rfl, rfl, rfl, rfl, trivial⟩
               ··rcases bite j with ⟨d4, j⟩ | ⟨d4, j⟩
                 ··refine At.know (t := 39) rfl (decide_eq_true d4) ?_
                   refine At.run 11 rfl ?_; exact At.of (e4 (true, true) j) ⟨rfl, rfl, rfl, rfl, rfl, rfl, rfl, rfl, rfl, trivial⟩
                 ··refine At.know (t := 39) rfl (decide_eq_false d4) ?_
                   refine At.run 2 rfl (At.y (Y.ixStr rfl rfl rfl rfl q.1 q.2) rfl rfl rfl (At.run 2 rfl ?_)); obtain ⟨k7, k8, n4, j⟩ := bjoin j; refine At.joinO 5 (X := Bool × Bool) (fun s_ => [(1, .string ⟨(a1).toArray⟩), (5, i6 p), (34, .bool true), (35, .string ⟨(a1).toArray⟩), (36, i6 p), (37, .int .u8 (bat a1 p)), (38, .bool (decide (bat a1 p = 95))), (39, .bool false), (40, .string ⟨(a1).toArray⟩), (41, i6 p), (42, .int .u8 (bat a1 p)), (43, .bool (decide (97 ≤ bat a1 p))), (44, .bool s_.1), (49, .bool s_.2)]) (fun s_ => Fr) (fun s_ => k7 (.inl (s_.1, s_.2)) = some D) ?_ (fun f1 => ?_)
                   ·rintro ⟨n5, k9⟩ j; have j := (k8 _).symm.trans j
                    ·refine At.run 1 rfl ?_; exact At.of (e4 (false, k9) j) ⟨rfl, rfl, rfl, rfl, rfl, rfl, rfl, rfl, rfl, trivial⟩
                   ··rcases bite j with ⟨d5, j⟩ | ⟨d5, j⟩
                     ··refine At.know (t := 44) rfl (decide_eq_true d5) ?_
                       refine At.run 2 rfl (At.y (Y.ixStr rfl rfl rfl rfl q.1 q.2) rfl rfl rfl (At.run 2 rfl ?_)); exact At.of (f1 (true, decide (bat a1 p ≤ 122)) j) ⟨rfl, rfl, rfl, rfl, rfl, rfl, rfl, rfl, rfl, rfl, rfl, rfl, rfl, rfl, trivial⟩
                     ··refine At.know (t := 44) rfl (decide_eq_false d5) ?_
                       refine At.run 5 rfl ?_; exact At.of (f1 (false, false) j) ⟨rfl, rfl, rfl, rfl, rfl, rfl, rfl, rfl, rfl, rfl, rfl, rfl, rfl, rfl, trivial⟩
             ··refine At.know (t := 34) rfl (decide_eq_false c9) ?_
               refine At.run 41 rfl ?_; exact At.of (e3 false j) ⟨rfl, rfl, rfl, trivial⟩
       ··refine At.condF rfl (bn b7) ?_
         refine At.skip ?_; refine At.ibn ?_; refine At.thn ?_; exact fun a w e hs => a6 1 j a w (e.sub ⟨rfl, trivial⟩) hs
     ··rcases bite j with ⟨d6, j⟩ | ⟨d6, j⟩
       ··refine At.condT rfl (decide_eq_true d6) ?_
         refine At.skip (At.thn ?_); exact fun a w e hs => e2 (decide (a0 = 2)) j a w (e.sub ⟨rfl, rfl, rfl, trivial⟩) hs
       ··refine At.condF rfl (decide_eq_false d6) ?_
         refine At.region (At.run 2 rfl (nT ?_)); exact fun a w e hs => e2 (decide (a0 = 3)) j a w (e.sub ⟨rfl, rfl, rfl, trivial⟩) hs

noncomputable def Q84.l0b (a0 : Bs) (q p : Int) : Option ((Int × Int) ⊕ ((Int) ⊕ (Bool × Int))) :=
 if p < (a0.length : Int) then
 if (0 : Int) ≤ p ∧ p < (a0.length : Int) then
 nx (IntKind.i64.wrap (IntKind.i64.wrap (10 * q) + (IntKind.i64.wrap (IntKind.u8.wrap (bat a0 p - 48)))), IntKind.i64.wrap (p + 1))
 else none
 else
 dn (.inl q)
noncomputable def Q84.l0 (a0 : Bs) (p q : Int) : Option ((Int) ⊕ (Bool × Int)) := iter (fun t_ : Int × Int => Q84.l0b a0 t_.1 t_.2) (p, q)
noncomputable def Q84.f (a0 : Bs) : Option (Bool × Int) :=
 jn (
 if 4 < (a0.length : Int) then
 some (.inl true)
 else
 jn (
 if 1 < (a0.length : Int) then
 if (0 : Int) ≤ 0 ∧ 0 < (a0.length : Int) then
 some (.inl (decide (bat a0 0 = 48)))
 else none
 else
 some (.inl false)) (fun (q : Bool) =>
 some (.inl q))) (fun (u : Bool) =>
 if u = true then
 some (false, 0)
 else
 jn (Q84.l0 a0 0 0) (fun (p : Int) =>
 some (decide (p ≤ 9999), p)))
theorem Q84.callee : Callee Tryz.prog 143 := ⟨_, Tryz.func143, by kernel_rfl, by kernel_rfl⟩
theorem Q84.spec {a0 : Bs} {r : Bool × Int} (j : Q84.f a0 = some r) :
 Spec Tryz.prog 143 [.string ⟨(a0).toArray⟩] R (Fr) (fun v l' => v = .tuple #[i6 r.2, .bool r.1] ∧ Fr = l') := by
 refine Spec.of Tryz.func143 rfl rfl ?_; unfold Q84.f at j; have j := brun j; refine sR 2 rfl (nT (At.seq (At.seq (At.region ?_)))); refine At.run 4 rfl ?_; obtain ⟨a6, a7, c8, j⟩ := bjoin j; refine At.joinO 9 (X := Bool) (fun q => [(0, .string ⟨(a0).toArray⟩), (18, .bool q)]) (fun q => Fr) (fun q => a6 (.inl q) = some r) ?_ (fun a1 => ?_)
 ·rintro q j; have j := (a7 _).symm.trans j
  ·refine nT ?_; rcases bite j with ⟨G, j⟩ | ⟨G, j⟩
   ··refine At.condT rfl G ?_
     refine sR 2 rfl (nT (At.ret (At.thr ?_))); cases bret j; exact At.res (.inl rfl) rfl rfl ⟨rfl, rfl⟩
   ··refine At.condF rfl (bn G) ?_
     refine At.skip (At.thn (sR 1 rfl (nT (At.seq ?_)))); refine sR 3 rfl (nT ?_); refine At.block ?_; obtain ⟨a8, a9, c9, j⟩ := bjoin j; obtain ⟨a2, I, b4⟩ := bsome j; clear j; unfold Q84.l0 at I; obtain ⟨J, u⟩ := Q16.1 I; clear I; refine At.loopJ (X := Int × Int) (Y := Int) (e0 := 0) (fun s_ => [(0, .string ⟨(a0).toArray⟩), (4, i6 s_.1), (20, i6 (a0.length : Int)), (21, i6 s_.2)]) (fun s_ => Fr) (fun m_ => fun s_ => iterN (fun t_ : Int × Int => Q84.l0b a0 t_.1 t_.2) m_ (s_.1, s_.2) = some a2) J (0, 0) u (fun D => [(4, i6 D)]) (fun D => Fr) (fun D => a8 (.inl D) = some r) (fun a w e hs => ⟨e.sub ⟨rfl, rfl, rfl, rfl, trivial⟩, (by exact hs)⟩) ?_ (fun b5 => ?_)
     ·rintro D j; have j := (a9 _).symm.trans j
      ·refine At.ibx ?_; refine At.thn (sR 5 rfl (nT (At.ret ?_))); cases bret j; exact At.res (.inl rfl) rfl rfl ⟨rfl, rfl⟩
     ·clear u J; rintro J ⟨L, O⟩ u; obtain ⟨b6, f_, b7, hf_, j⟩ := bit u; clear u; have j : (Q84.l0b a0 L O).bind _ = some a2 := j; unfold Q84.l0b at j
      ·refine sR 1 rfl (nT (At.seq ?_)); rcases bite j with ⟨U, j⟩ | ⟨U, j⟩
       ··refine At.condT rfl (decide_eq_true U) ?_
         refine At.skip (At.thn (At.seq ?_)); refine At.block ?_; refine sR 2 rfl (nT (At.region (At.run 4 rfl ?_))); obtain ⟨a3, j⟩ := bnone j; refine At.y (Y.ixStr rfl rfl rfl rfl a3.1 a3.2) rfl rfl rfl (At.run 4 rfl (At.nil ?_)); refine At.ibn ?_; refine At.thn (At.region (At.run 2 rfl (At.nil ?_))); have j := bnx hf_ j; exact fun a w e hs => ⟨b6, (IntKind.i64.wrap (IntKind.i64.wrap (10 * L) + (IntKind.i64.wrap (IntKind.u8.wrap (bat a0 O - 48)))), IntKind.i64.wrap (O + 1)), b7, j, e.sub ⟨rfl, rfl, rfl, rfl, trivial⟩, hs⟩
       ··refine At.condF rfl (decide_eq_false U) ?_
         refine At.exit ?_; refine At.the ?_; refine At.the ?_; exact fun a w e hs => b5 L (bdn j b4) a w (e.sub ⟨rfl, trivial⟩) hs
 ··rcases bite j with ⟨V, j⟩ | ⟨V, j⟩
   ··refine At.know (t := 9) rfl (decide_eq_true V) ?_
     refine At.run 9 rfl ?_; exact At.of (a1 true j) ⟨rfl, rfl, trivial⟩
   ··refine At.know (t := 9) rfl (decide_eq_false V) ?_
     refine At.run 4 rfl ?_; obtain ⟨b8, b9, d0, j⟩ := bjoin j; refine At.joinO 4 (X := Bool) (fun p => [(0, .string ⟨(a0).toArray⟩), (9, .bool false), (17, .bool p)]) (fun p => Fr) (fun p => b8 (.inl p) = some r) ?_ (fun a4 => ?_)
     ·rintro p j; have j := (b9 _).symm.trans j
      ·refine At.run 1 rfl ?_; exact At.of (a1 p j) ⟨rfl, rfl, trivial⟩
     ··rcases bite j with ⟨Z, j⟩ | ⟨Z, j⟩
       ··refine At.know (t := 13) rfl (decide_eq_true Z) ?_
         refine At.run 1 rfl ?_; obtain ⟨a5, j⟩ := bnone j; refine At.y (Y.ixStr rfl rfl rfl rfl a5.1 a5.2) rfl rfl rfl (At.run 2 rfl ?_); exact At.of (a4 (decide (bat a0 0 = 48)) j) ⟨rfl, rfl, rfl, trivial⟩
       ··refine At.know (t := 13) rfl (decide_eq_false Z) ?_
         refine At.run 4 rfl ?_; exact At.of (a4 false j) ⟨rfl, rfl, rfl, trivial⟩

noncomputable def Q147.f (a0 : Bs) (a1 : Int) : Option (Int × Int × Int × Bs × Int) :=
 if (0 : Int) ≤ a1 ∧ a1 < (a0.length : Int) then
 (Q146.f (bat a0 a1)).bind fun p =>
 if (0 : Int) ≤ a1 ∧ a1 ≤ (a0.length : Int) then
 (Q38.f p (a0.drop a1.toNat)).bind fun q =>
 if (0 : Int) ≤ a1 ∧ a1 ≤ IntKind.i64.wrap (a1 + q) ∧ IntKind.i64.wrap (a1 + q) ≤ (a0.length : Int) then
 jn (
 if p = 0 then
 up (some (3, p, a1, (bsl a0 a1 (IntKind.i64.wrap (a1 + q))), 0))
 else
 jn (
 if p = 2 then
 some (.inl (decide (p = 2)))
 else
 some (.inl (decide (p = 3)))) (fun (D : Bool) =>
 if D = true then
 if 8 < ((bsl a0 a1 (IntKind.i64.wrap (a1 + q))).length : Int) then
 up (some (5, p, a1, (bsl a0 a1 (IntKind.i64.wrap (a1 + q))), 0))
 else
 some (.inl 0)
 else
 if p = 4 then
 (Q84.f (bsl a0 a1 (IntKind.i64.wrap (a1 + q)))).bind fun u =>
 if u.1 = true then
 some (.inl u.2)
 else
 up (some (4, p, a1, (bsl a0 a1 (IntKind.i64.wrap (a1 + q))), 0))
 else
 some (.inl 0))) (fun (G : Int) =>
 some (0, p, a1, (bsl a0 a1 (IntKind.i64.wrap (a1 + q))), G))
 else none
 else none
 else none
theorem Q147.callee : Callee Tryz.prog 95 := ⟨_, Tryz.func95, by kernel_rfl, by kernel_rfl⟩
theorem Q147.spec {a0 : Bs} {a1 : Int} {r : Int × Int × Int × Bs × Int} (j : Q147.f a0 a1 = some r) :
 Spec Tryz.prog 95 [.string ⟨(a0).toArray⟩, i6 a1] R (Fr) (fun v l' => v = .tuple #[.agg #[i6 r.2.1, i6 r.2.2.1, .string ⟨(r.2.2.2.1).toArray⟩, i6 r.2.2.2.2], i6 r.1] ∧ Fr = l') := by
 refine Spec.of Tryz.func95 rfl rfl ?_; unfold Q147.f at j; have j := brun j; refine At.seq (At.region ?_); refine At.alloc rfl rfl rfl (fun D => ?_); refine At.run 1 rfl (nT (sR 2 rfl ?_)); obtain ⟨a4, j⟩ := bnone j; refine At.y (Y.ixStr rfl rfl rfl rfl a4.1 a4.2) rfl rfl rfl ?_; obtain ⟨p, a8, j⟩ := bbind j; refine At.call rfl Q146.callee rfl rfl rfl (Q146.spec a8) ?_; rintro _ _ ⟨rfl, rfl⟩; refine At.run 1 rfl ?_; refine At.y (Y.build (is := [0, 1]) (xo := [.tmp 12, .tmp 13]) (vs := [i6 p, i6 a1]) (cs := [i6 p, i6 a1, .string ⟨(([] : Bs)).toArray⟩, i6 0]) rfl rfl rfl rfl rfl rfl) rfl rfl rfl ?_; refine At.alloc rfl rfl rfl (fun G => ?_); refine At.store rfl rfl rfl rfl .z rfl rfl rfl (.c (.c (.c (.c .n)))) ?_; refine nT (At.seq ?_); refine At.held [pc D [i6 0, i6 0, .string ⟨(([] : Bs)).toArray⟩, i6 0] 116] 13 rfl ?_; refine At.H.pw 0 rfl rfl rfl rfl rfl (.c (.s .z) .n) ?_; refine At.H.pw 1 rfl rfl rfl rfl rfl (.c (.s .z) .n) ?_; refine At.H.pw 2 rfl rfl rfl rfl rfl (.c (.s .z) .n) ?_; refine At.H.pw 3 rfl rfl rfl rfl rfl (.c (.s .z) .n) ?_; refine At.H.pw 5 rfl rfl rfl rfl rfl (.c (.s .z) .n) ?_; refine At.H.pw 6 rfl rfl rfl rfl rfl (.c (.s .z) .n) ?_; obtain ⟨a5, j⟩ := bnone j; refine At.H.tw 7 rfl (Y.slStrL rfl rfl rfl rfl a5.1 a5.2) rfl rfl rfl (.c (.s .z) .n) ?_; refine At.H.al [4] (Q4 ?_ Q6)
 ··refine At.HO.op rfl ?_
   refine At.y (Y.load rfl rfl .z rfl rfl rfl) rfl rfl rfl ?_; refine At.HO.back (.c (.s .z) .n) ?_; refine At.H.al [8] (Q4 ?_ Q6)
   ··refine At.HO.op rfl ?_
     obtain ⟨a6, a9, j⟩ := bbind j; refine At.call rfl Q38.callee rfl rfl rfl (Q38.spec a9) ?_; rintro _ _ ⟨rfl, rfl⟩; refine At.HO.back (.c (.s .z) .n) ?_; refine At.H.pw 9 rfl rfl rfl rfl rfl (.c (.s .z) .n) ?_; obtain ⟨I, j⟩ := bnone j; refine At.H.tw 10 rfl (Y.slStrLH rfl rfl rfl rfl rfl I.1 I.2.1 I.2.2) rfl rfl rfl (.c (.s .z) .n) ?_; refine At.H.pw 11 rfl rfl rfl rfl rfl (.c (.s .z) .n) ?_; refine At.H.al [12] (Q4 ?_ Q6)
     ··refine At.HO.op rfl ?_
       refine At.store rfl rfl rfl rfl .z rfl rfl rfl (.s (.s (.c .n))) ?_; refine At.HO.back (.c (.s .z) .n) ?_; refine At.H.done (by kernel_rfl) ?_; refine At.thn (At.seq (sR 1 rfl (At.y (Y.load rfl rfl .z rfl rfl rfl) rfl rfl rfl (nT ?_)))); obtain ⟨b4, b5, J, j⟩ := bjoin j; let T1 : HProp := pc D [i6 0, i6 0, .string ⟨(([] : Bs)).toArray⟩, i6 0] 116; refine At.join (X := Int) (fun q => [(4, bp D), (6, bp G)]) (fun q => pc G [i6 p, i6 a1, .string ⟨((bsl a0 a1 (IntKind.i64.wrap (a1 + a6)))).toArray⟩, i6 q] 116 :: T1 :: Fr) (fun q => b4 (.inl q) = some r) ?_ (fun L => ?_)
       ·rintro q j; have j := (b5 _).symm.trans j
        ·refine At.seq (At.region (At.y (Y.load rfl rfl .z rfl rfl rfl) rfl rfl rfl ?_)); refine At.store rfl rfl rfl rfl (.s .z) rfl rfl rfl (.c (.c (.c (.c .n)))) ?_; refine At.run 1 rfl (nT (At.ret ?_)); refine At.resM (.inl rfl) rfl (RV.cell rfl rfl .z rfl rfl rfl (RV.tmp rfl RV.nil)) ?_; refine At.drop .z (At.drop .z ?_); cases bret j; exact fun a w e hs => ⟨_, ⟨rfl, rfl⟩, hs⟩
       ··refine At.block ?_
         refine sR 2 rfl (nT ?_); rcases bite j with ⟨O, j⟩ | ⟨O, j⟩
         ··refine At.condT rfl (decide_eq_true O) ?_
           refine At.seq (At.region (At.y (Y.load rfl rfl .z rfl rfl rfl) rfl rfl rfl ?_)); refine At.store rfl rfl rfl rfl (.s .z) rfl rfl rfl (.c (.c (.c (.c .n)))) ?_; refine At.run 1 rfl (nT (At.ret ?_)); refine At.ibr ?_; have j := bup J j; refine At.thr ?_; refine At.resM (.inl rfl) rfl (RV.cell rfl rfl .z rfl rfl rfl (RV.tmp rfl RV.nil)) ?_; refine At.drop .z (At.drop .z ?_); cases bret j; exact fun a w e hs => ⟨_, ⟨rfl, rfl⟩, hs⟩
         ··refine At.condF rfl (decide_eq_false O) ?_
           refine At.seq (sR 2 rfl (nT ?_)); obtain ⟨b6, b7, c8, j⟩ := bjoin j; let T2 : HProp := pc G [i6 p, i6 a1, .string ⟨((bsl a0 a1 (IntKind.i64.wrap (a1 + a6)))).toArray⟩, i6 0] 116; refine At.join (X := Bool) (fun u => [(4, bp D), (6, bp G), (28, i6 p), (32, .bool u)]) (fun u => T2 :: T1 :: Fr) (fun u => b6 (.inl u) = some r) ?_ (fun a7 => ?_)
           ·rintro u j; have j := (b7 _).symm.trans j
            ·rcases bite j with ⟨U, j⟩ | ⟨U, j⟩
             ··refine At.condT rfl U ?_
               refine sR 1 rfl (At.y (Y.load rfl rfl .z rfl rfl rfl) rfl rfl rfl (At.run 2 rfl (nT ?_))); rcases bite j with ⟨V, j⟩ | ⟨V, j⟩
               ··refine At.condT rfl (decide_eq_true V) ?_
                 refine At.seq (At.region (At.y (Y.load rfl rfl .z rfl rfl rfl) rfl rfl rfl ?_)); refine At.store rfl rfl rfl rfl (.s .z) rfl rfl rfl (.c (.c (.c (.c .n)))) ?_; refine At.run 1 rfl (nT (At.ret ?_)); refine At.ibr ?_; have j := bup J j; refine At.thr ?_; refine At.resM (.inl rfl) rfl (RV.cell rfl rfl .z rfl rfl rfl (RV.tmp rfl RV.nil)) ?_; refine At.drop .z (At.drop .z ?_); cases bret j; exact fun a w e hs => ⟨_, ⟨rfl, rfl⟩, hs⟩
               ··refine At.condF rfl (decide_eq_false V) ?_
                 refine At.skip ?_; refine At.ibn ?_; refine At.thn ?_; exact fun a w e hs => L 0 j a w (e.sub ⟨rfl, rfl, trivial⟩) hs
             ··refine At.condF rfl (bn U) ?_
               refine sR 2 rfl (nT ?_); rcases bite j with ⟨Z, j⟩ | ⟨Z, j⟩
               ··refine At.condT rfl (decide_eq_true Z) ?_
                 refine sR 1 rfl (At.y (Y.load rfl rfl .z rfl rfl rfl) rfl rfl rfl ?_); obtain ⟨b8, b9, j⟩ := bbind j; refine At.call rfl Q84.callee rfl rfl rfl (Q84.spec b9) ?_; rintro _ _ ⟨rfl, rfl⟩; refine At.run 5 rfl (nT (At.seq (sR 2 rfl (At.nil ?_)))); refine At.thn ?_; rcases bite j with ⟨a2, j⟩ | ⟨a2, j⟩
                 ··refine At.condF rfl (nf a2) ?_
                   refine At.skip (At.thn (At.region (At.run 2 rfl ?_))); refine At.store rfl rfl rfl rfl .z rfl rfl rfl (.s (.s (.s (.c .n)))) ?_; refine At.nil ?_; refine At.ibn ?_; refine At.thn ?_; exact fun a w e hs => L b8.2 j a w (e.sub ⟨rfl, rfl, trivial⟩) hs
                 ··refine At.condT rfl (nt (bn a2)) ?_
                   refine At.seq (At.region (At.y (Y.load rfl rfl .z rfl rfl rfl) rfl rfl rfl ?_)); refine At.store rfl rfl rfl rfl (.s .z) rfl rfl rfl (.c (.c (.c (.c .n)))) ?_; refine At.run 1 rfl (nT (At.ret (At.thr ?_))); refine At.ibr ?_; have j := bup J j; refine At.thr ?_; refine At.resM (.inl rfl) rfl (RV.cell rfl rfl .z rfl rfl rfl (RV.tmp rfl RV.nil)) ?_; refine At.drop .z (At.drop .z ?_); cases bret j; exact fun a w e hs => ⟨_, ⟨rfl, rfl⟩, hs⟩
               ··refine At.condF rfl (decide_eq_false Z) ?_
                 refine At.skip ?_; refine At.ibn ?_; refine At.thn ?_; exact fun a w e hs => L 0 j a w (e.sub ⟨rfl, rfl, trivial⟩) hs
           ··rcases bite j with ⟨a3, j⟩ | ⟨a3, j⟩
             ··refine At.condT rfl (decide_eq_true a3) ?_
               refine At.skip (At.thn ?_); exact fun a w e hs => a7 (decide (p = 2)) j a w (e.sub ⟨rfl, rfl, rfl, rfl, trivial⟩) hs
             ··refine At.condF rfl (decide_eq_false a3) ?_
               refine At.region (At.run 2 rfl (nT ?_)); exact fun a w e hs => a7 (decide (p = 3)) j a w (e.sub ⟨rfl, rfl, rfl, rfl, trivial⟩) hs

noncomputable def Q75.l0b (a0 : Bs) (u : List Q8) (p : Int) : Option (((List Q8) × Int) ⊕ (((List Q8)) ⊕ ((Option Q5) × (List Q8)))) :=
 if p < (a0.length : Int) then
 if (0 : Int) ≤ p ∧ p < (a0.length : Int) then
 jn (
 if bat a0 p = 32 then
 some (.inl true)
 else
 some (.inl (decide (bat a0 p = 9)))) (fun (G : Bool) =>
 if G = true then
 nx (u, IntKind.i64.wrap (p + 1))
 else
 if bat a0 p = 35 then
 if (0 : Int) ≤ p ∧ p ≤ (a0.length : Int) then
 (Q151.f (a0.drop p.toNat) 10).bind fun D =>
 jn (
 if D < 0 then
 some (.inl (IntKind.i64.wrap ((a0.length : Int) - p)))
 else
 some (.inl D)) (fun (I : Int) =>
 nx (u, IntKind.i64.wrap (p + I)))
 else none
 else
 (Q147.f a0 p).bind fun q =>
 if q.1 = 0 then
 if (u.length + ([(⟨q.2.1, q.2.2.1, q.2.2.2.1, q.2.2.2.2⟩ : Q8)] : List Q8).length) * 40 ≤ 140737488355328 then
 nx ((u ++ ([(⟨q.2.1, q.2.2.1, q.2.2.2.1, q.2.2.2.2⟩ : Q8)] : List Q8)), IntKind.i64.wrap (p + (q.2.2.2.1.length : Int)))
 else none
 else
 upL (some ((some (⟨p, q.1⟩ : Q5)), ([] : List Q8))))
 else none
 else
 dn (.inl u)
noncomputable def Q75.l0 (a0 : Bs) (p : List Q8) (q : Int) : Option (((List Q8)) ⊕ ((Option Q5) × (List Q8))) := iter (fun t_ : (List Q8) × Int => Q75.l0b a0 t_.1 t_.2) (p, q)
noncomputable def Q75.f (a0 : Bs) : Option ((Option Q5) × (List Q8)) :=
 if 262144 < (a0.length : Int) then
 some ((some (⟨262144, 2⟩ : Q5)), ([] : List Q8))
 else
 jn (Q75.l0 a0 ([] : List Q8) 0) (fun (p : List Q8) =>
 if (p.length + ([(⟨0, (a0.length : Int), ([] : Bs), 0⟩ : Q8)] : List Q8).length) * 40 ≤ 140737488355328 then
 some (none, (p ++ ([(⟨0, (a0.length : Int), ([] : Bs), 0⟩ : Q8)] : List Q8)))
 else none)
theorem Q75.callee : Callee Tryz.prog 69 := ⟨_, Tryz.func69, by kernel_rfl, by kernel_rfl⟩
theorem Q75.spec {a0 : Bs} {r : (Option Q5) × (List Q8)} (j : Q75.f a0 = some r) :
 Spec Tryz.prog 69 [.string ⟨(a0).toArray⟩] R (Fr) (fun v l' => ∃ (b4 : Option Nat) (U : Nat) (b5 : Option Addr) (b6 : Nat), v = .tuple #[.slice b5 U b6, opti 111 b4] ∧ row Q8.fl 116 b5 U b6 r.2 :: optb (Ow.fl Q5.fl) 58 b4 r.1 :: Fr = l' ∧ r.2.length = U) := by
 refine Spec.of Tryz.func69 rfl rfl ?_; unfold Q75.f at j; have j := brun j; refine sR 2 rfl (nT (At.seq (At.seq (At.region ?_)))); refine At.run 3 rfl (nT ?_); rcases bite j with ⟨V, j⟩ | ⟨V, j⟩
 ··refine At.condT rfl (decide_eq_true V) ?_
   refine At.seq (At.region ?_); refine At.y (Y.build (is := [0, 1]) (xo := [.const (i6 262144), .const (i6 2)]) (vs := [i6 262144, i6 2]) (cs := [i6 262144, i6 2]) rfl rfl rfl rfl rfl rfl) rfl rfl rfl ?_; refine At.box rfl rfl (cs := [i6 262144, i6 2]) rfl rfl (fun d1 => ?_); refine At.run 3 rfl (nT (At.ret (At.thr ?_))); refine At.nilRow Q8.fl 116 ?_; refine At.f1 ?_; refine At.optSome (x := (⟨262144, 2⟩ : Q5)) (Ent.fl Q5.fl (x := (⟨262144, 2⟩ : Q5)) rfl) ?_; refine At.f1 ?_; cases bret j; exact At.res (.inl rfl) rfl rfl ⟨(some d1), 0, none, 0, rfl, rfl, rfl⟩
 ··refine At.condF rfl (decide_eq_false V) ?_
   refine At.skip (At.thn (sR 1 rfl (nT (At.seq ?_)))); refine sR 1 rfl (nT ?_); refine At.block ?_; obtain ⟨d2, d3, d4, j⟩ := bjoin j; obtain ⟨O, Z, b7⟩ := bsome j; clear j; unfold Q75.l0 at Z; obtain ⟨a1, J⟩ := Q16.1 Z; clear Z; refine At.nilRow Q8.fl 116 ?_; refine At.loopJ (X := (List Q8) × Int × Nat × (Option Addr) × Nat) (Y := (List Q8) × Nat × (Option Addr) × Nat) (e0 := 0) (fun s_ => [(0, .string ⟨(a0).toArray⟩), (4, .slice s_.2.2.2.1 s_.2.2.1 s_.2.2.2.2), (5, i6 s_.2.1)]) (fun s_ => row Q8.fl 116 s_.2.2.2.1 s_.2.2.1 s_.2.2.2.2 s_.1 :: Fr) (fun m_ => fun s_ => iterN (fun t_ : (List Q8) × Int => Q75.l0b a0 t_.1 t_.2) m_ (s_.1, s_.2.1) = some O ∧ s_.1.length = s_.2.2.1) a1 (([] : List Q8), 0, 0, none, 0) ⟨J, rfl⟩ (fun s_ => [(0, .string ⟨(a0).toArray⟩), (4, .slice s_.2.2.1 s_.2.1 s_.2.2.2)]) (fun s_ => row Q8.fl 116 s_.2.2.1 s_.2.1 s_.2.2.2 s_.1 :: Fr) (fun s_ => d2 (.inl s_.1) = some r ∧ s_.1.length = s_.2.1) (fun a w e hs => ⟨e.sub ⟨rfl, rfl, rfl, trivial⟩, (by exact hs)⟩) ?_ (fun d5 => ?_)
   ·rintro ⟨b8, d6, f6, f7⟩ ⟨j, d7⟩; obtain rfl : b8.length = d6 := d7; have j := (d3 _).symm.trans j
    ·refine At.ibx ?_; refine At.thn (sR 3 rfl ?_); refine At.y (Y.build (is := [0, 1]) (xo := [.const (i6 0), .tmp 72]) (vs := [i6 0, i6 (a0.length : Int)]) (cs := [i6 0, i6 (a0.length : Int), .string ⟨(([] : Bs)).toArray⟩, i6 0]) rfl rfl rfl rfl rfl rfl) rfl rfl rfl ?_; refine At.lit rfl (xo := [.tmp 73]) (ys := ([(⟨0, (a0.length : Int), ([] : Bs), 0⟩ : Q8)] : List Q8)) Q8.fl rfl rfl rfl rfl rfl rfl rfl rfl rfl rfl rfl (fun f8 f9 => ?_); obtain ⟨d8, j⟩ := bnone j; refine At.append rfl (.s .z) (Src.own .z (by simp)) rfl rfl rfl rfl rfl rfl rfl rfl d8 (by decide) rfl (fun d9 e1 => ?_); refine At.drop (.s .z) (At.run 2 rfl (nT (At.ret ?_))); refine At.optNone (Ow.fl Q5.fl) 58 ?_; refine At.f1 ?_; cases bret j; exact At.res (.inl rfl) rfl rfl ⟨none, (b8 ++ ([(⟨0, (a0.length : Int), ([] : Bs), 0⟩ : Q8)] : List Q8)).length, d9, e1, rfl, rfl, rfl⟩
   ·clear J a1; rintro a1 ⟨q, u, e2, D, G⟩ ⟨J, e3⟩; obtain rfl : q.length = e2 := e3; obtain ⟨a2, f_, a3, hf_, j⟩ := bit J; clear J; have j : (Q75.l0b a0 q u).bind _ = some O := j; unfold Q75.l0b at j
    ·refine At.seq (sR 4 rfl (nT ?_)); rcases bite j with ⟨a4, j⟩ | ⟨a4, j⟩
     ··refine At.condT rfl (decide_eq_true a4) ?_
       refine At.skip (At.thn ?_); refine At.block ?_; refine sR 2 rfl ?_; obtain ⟨b9, j⟩ := bnone j; refine At.y (Y.ixStr rfl rfl rfl rfl b9.1 b9.2) rfl rfl rfl (At.run 1 rfl (nT ?_)); refine At.block ?_; refine sR 3 rfl ?_; obtain ⟨e4, e5, g0, j⟩ := bjoin j; refine At.joinO 3 (X := Bool) (fun L => [(0, .string ⟨(a0).toArray⟩), (4, .slice D q.length G), (5, i6 u), (6, .int .u8 (bat a0 u)), (51, .bool L)]) (fun L => row Q8.fl 116 D q.length G q :: Fr) (fun L => e4 (.inl L) = some O) ?_ (fun c8 => ?_)
       ·rintro L j; have j := (e5 _).symm.trans j
        ·refine At.run 1 rfl (nT ?_); rcases bite j with ⟨a5, j⟩ | ⟨a5, j⟩
         ··refine At.condT rfl a5 ?_
           refine At.region (At.run 3 rfl (At.nil ?_)); refine At.ibn ?_; refine At.ibn ?_; have j := bnx hf_ j; exact fun a w e hs => ⟨a2, (q, IntKind.i64.wrap (u + 1), q.length, D, G), a3, ⟨j, rfl⟩, e.sub ⟨rfl, rfl, rfl, trivial⟩, hs⟩
         ··refine At.condF rfl (bn a5) ?_
           refine sR 3 rfl (nT ?_); rcases bite j with ⟨a6, j⟩ | ⟨a6, j⟩
           ··refine At.condT rfl (decide_eq_true a6) ?_
             refine sR 2 rfl ?_; obtain ⟨c9, j⟩ := bnone j; refine At.y (Y.slStrL rfl rfl rfl rfl c9.1 c9.2) rfl rfl rfl ?_; obtain ⟨e6, e7, j⟩ := bbind j; refine At.call rfl Q151.callee rfl rfl rfl (Q151.spec e7) ?_; rintro _ _ ⟨rfl, rfl⟩; refine At.run 1 rfl (nT (At.seq (sR 2 rfl (At.nil ?_)))); refine At.thn ?_; obtain ⟨e8, e9, g1, j⟩ := bjoin j; refine At.join (X := Int) (fun I => [(0, .string ⟨(a0).toArray⟩), (4, .slice D q.length G), (5, i6 u), (7, i6 I)]) (fun I => row Q8.fl 116 D q.length G q :: Fr) (fun I => e8 (.inl I) = some O) ?_ (fun d0 => ?_)
             ·rintro I j; have j := (e9 _).symm.trans j
              ·refine At.region (At.run 4 rfl (At.nil ?_)); refine At.ibn ?_; refine At.ibn ?_; have j := bnx hf_ j; exact fun a w e hs => ⟨a2, (q, IntKind.i64.wrap (u + I), q.length, D, G), a3, ⟨j, rfl⟩, e.sub ⟨rfl, rfl, rfl, trivial⟩, hs⟩
             ··rcases bite j with ⟨a7, j⟩ | ⟨a7, j⟩
               ··refine At.condT rfl (decide_eq_true a7) ?_
                 refine At.region (At.run 5 rfl (nT ?_)); exact fun a w e hs => d0 (IntKind.i64.wrap ((a0.length : Int) - u)) j a w (e.sub ⟨rfl, rfl, rfl, rfl, trivial⟩) hs
               ··refine At.condF rfl (decide_eq_false a7) ?_
                 refine At.skip (At.thn ?_); exact fun a w e hs => d0 e6 j a w (e.sub ⟨rfl, rfl, rfl, rfl, trivial⟩) hs
           ··refine At.condF rfl (decide_eq_false a6) ?_
             refine sR 2 rfl ?_; obtain ⟨p, f0, j⟩ := bbind j; refine At.call rfl Q147.callee rfl rfl rfl (Q147.spec f0) ?_; rintro _ _ ⟨rfl, rfl⟩; refine At.run 3 rfl ?_; refine At.alloc rfl rfl rfl (fun g2 => ?_); refine At.store rfl rfl rfl rfl .z rfl rfl rfl (.c (.c (.c (.c .n)))) ?_; refine At.run 1 rfl (nT (At.seq (sR 2 rfl (At.nil ?_)))); refine At.thn ?_; rcases bite j with ⟨a8, j⟩ | ⟨a8, j⟩
             ··refine At.condF rfl (nf (decide_eq_true a8)) ?_
               refine At.skip (At.thn (sR 1 rfl (At.y (Y.load rfl rfl .z rfl rfl rfl) rfl rfl rfl ?_))); refine At.lit rfl (xo := [.tmp 37]) (ys := ([(⟨p.2.1, p.2.2.1, p.2.2.2.1, p.2.2.2.2⟩ : Q8)] : List Q8)) Q8.fl rfl rfl rfl rfl rfl rfl rfl rfl rfl rfl rfl (fun g3 g4 => ?_); obtain ⟨f2, j⟩ := bnone j; refine At.append rfl (.s (.s .z)) (Src.own .z (by simp)) rfl rfl rfl rfl rfl rfl rfl rfl f2 (by decide) rfl (fun f3 f4 => ?_); refine At.drop (.s .z) (At.run 1 rfl (nT (At.region (At.run 2 rfl (At.y (Y.load rfl rfl (.s .z) rfl rfl rfl) rfl rfl rfl (At.run 3 rfl ?_)))))); refine At.nil ?_; refine At.ibn ?_; refine At.ibn ?_; refine At.drop (.s .z) ?_; have j := bnx hf_ j; exact fun a w e hs => ⟨a2, ((q ++ ([(⟨p.2.1, p.2.2.1, p.2.2.2.1, p.2.2.2.2⟩ : Q8)] : List Q8)), IntKind.i64.wrap (u + (p.2.2.2.1.length : Int)), (q ++ ([(⟨p.2.1, p.2.2.1, p.2.2.2.1, p.2.2.2.2⟩ : Q8)] : List Q8)).length, f3, f4), a3, ⟨j, rfl⟩, e.sub ⟨rfl, rfl, rfl, trivial⟩, hs⟩
             ··refine At.condT rfl (nt (decide_eq_false a8)) ?_
               refine sR 2 rfl ?_; refine At.y (Y.build (is := [0, 1]) (xo := [.tmp 31, .tmp 32]) (vs := [i6 u, i6 p.1]) (cs := [i6 u, i6 p.1]) rfl rfl rfl rfl rfl rfl) rfl rfl rfl ?_; refine At.box rfl rfl (cs := [i6 u, i6 p.1]) rfl rfl (fun f5 => ?_); refine At.run 3 rfl (nT (At.ret (At.thr ?_))); refine At.ibr ?_; refine At.ibr ?_; have j := bupL d4 b7 j; refine At.thr ?_; refine At.ibr ?_; refine At.thr ?_; refine At.nilRow Q8.fl 116 ?_; refine At.f1 ?_; refine At.optSome (x := (⟨u, p.1⟩ : Q5)) (Ent.fl Q5.fl (x := (⟨u, p.1⟩ : Q5)) rfl) ?_; refine At.drop (.s (.s .z)) (At.drop (.s (.s .z)) (At.f1 ?_)); cases bret j; exact At.res (.inl rfl) rfl rfl ⟨(some f5), 0, none, 0, rfl, rfl, rfl⟩
       ··rcases bite j with ⟨a9, j⟩ | ⟨a9, j⟩
         ··refine At.know (t := 48) rfl (decide_eq_true a9) ?_
           refine At.run 3 rfl ?_; exact At.of (c8 true j) ⟨rfl, rfl, rfl, rfl, rfl, trivial⟩
         ··refine At.know (t := 48) rfl (decide_eq_false a9) ?_
           refine At.run 3 rfl ?_; exact At.of (c8 (decide (bat a0 u = 9)) j) ⟨rfl, rfl, rfl, rfl, rfl, trivial⟩
     ··refine At.condF rfl (decide_eq_false a4) ?_
       refine At.exit ?_; refine At.the ?_; refine At.the ?_; exact fun a w e hs => d5 (q, q.length, D, G) ⟨(bdn j b7), rfl⟩ a w (e.sub ⟨rfl, rfl, trivial⟩) hs

noncomputable def Q62.l0b  (p : List Q8) : Option (((List Q8)) ⊕ (((List Q8)) ⊕ ((List Q8)))) :=
 if (0 : Int) ≤ 0 ∧ 0 < (p.length : Int) then
 if (gt p 0).Kind = 1 then
 if (0 : Int) ≤ 1 ∧ 1 ≤ (p.length : Int) then
 nx (p.drop (1 : Int).toNat)
 else none
 else
 dn (.inl p)
 else none
noncomputable def Q62.l0  (p : List Q8) : Option (((List Q8)) ⊕ ((List Q8))) := iter (fun t_ : (List Q8) => Q62.l0b  t_) p
noncomputable def Q62.f (p : List Q8) (u : Option Q5) (D : Int) (G : List Bs) (I : List Q1) (J : List Q2) (L : List Q10) (O : List (Bs × Bool)) : Option (List Q8) :=
 jn (Q62.l0  p) (fun (q : List Q8) =>
 some q)
theorem Q62.callee : Callee Tryz.prog 71 := ⟨_, Tryz.func71, by kernel_rfl, by kernel_rfl⟩
theorem Q62.spec {O : List Q8} {a0 : Option Q5} {U : Int} {p : List Bs} {u : List Q1} {D : List Q2} {G : List Q10} {a1 : List (Bs × Bool)} (I : Option Nat) (hr0_0 : RdS Q8.fl.rep R.heap A0_0 O) (hn0_0 : O.length = n0_0) (hc0_0 : n0_0 ≤ c0_0) (hn0_3 : p.length = n0_3) (hn0_4 : u.length = n0_4) (hn0_5 : D.length = n0_5) (hn0_6 : G.length = n0_6) {r : (List Q8)} (j : Q62.f O a0 U p u D G a1 = some r) :
 Spec Tryz.prog 71 [bp b0] R (pc b0 [.slice A0_0 n0_0 c0_0, optp I, i6 U, .slice A0_3 n0_3 c0_3, .slice A0_4 n0_4 c0_4, .slice A0_5 n0_5 c0_5, .slice A0_6 n0_6 c0_6, .map (some b0_7)] 114 :: optb (Ow.fl Q5.fl) 58 I a0 :: row Fl.bs 9 A0_3 n0_3 c0_3 p :: row Q1.fl 35 A0_4 n0_4 c0_4 u :: grow Q2.ow 37 A0_5 n0_5 c0_5 D :: row Q10.fl 148 A0_6 n0_6 c0_6 G :: mapo Fl.bs.ov Fl.bool.ov b0_7 a1 :: Fr) (fun v l' => ∃ (a6 : Option Addr) (a2 : Nat) (a7 : Nat), v = .tuple #[] ∧ pc b0 [.slice a6 a2 a7, optp I, i6 U, .slice A0_3 n0_3 c0_3, .slice A0_4 n0_4 c0_4, .slice A0_5 n0_5 c0_5, .slice A0_6 n0_6 c0_6, .map (some b0_7)] 114 :: optb (Ow.fl Q5.fl) 58 I a0 :: row Fl.bs 9 A0_3 n0_3 c0_3 p :: row Q1.fl 35 A0_4 n0_4 c0_4 u :: grow Q2.ow 37 A0_5 n0_5 c0_5 D :: row Q10.fl 148 A0_6 n0_6 c0_6 G :: mapo Fl.bs.ov Fl.bool.ov b0_7 a1 :: Fr = l' ∧ RdS Q8.fl.rep R.heap a6 r ∧ r.length = a2 ∧ a2 ≤ a7) := by
 subst hn0_0; subst hn0_3; subst hn0_4; subst hn0_5; subst hn0_6; refine Spec.of Tryz.func71 rfl rfl ?_; unfold Q62.f at j; have j := brun j; refine At.block ?_; obtain ⟨b7, b8, e5, j⟩ := bjoin j; obtain ⟨a8, a3, b9⟩ := bsome j; clear j; unfold Q62.l0 at a3; obtain ⟨a4, V⟩ := Q16.1 a3; clear a3; let T3 : HProp := optb (Ow.fl Q5.fl) 58 I a0; let T4 : HProp := row Fl.bs 9 A0_3 p.length c0_3 p; let T5 : HProp := row Q1.fl 35 A0_4 u.length c0_4 u; let T6 : HProp := grow Q2.ow 37 A0_5 D.length c0_5 D; let T7 : HProp := row Q10.fl 148 A0_6 G.length c0_6 G; let T8 : HProp := mapo Fl.bs.ov Fl.bool.ov b0_7 a1; refine At.loopJ (X := (List Q8) × (Option Addr) × Nat × Nat) (Y := (List Q8) × (Option Addr) × Nat × Nat) (e0 := 0) (fun s_ => [(0, bp b0)]) (fun s_ => pc b0 [.slice s_.2.1 s_.2.2.1 s_.2.2.2, optp I, i6 U, .slice A0_3 p.length c0_3, .slice A0_4 u.length c0_4, .slice A0_5 D.length c0_5, .slice A0_6 G.length c0_6, .map (some b0_7)] 114 :: T3 :: T4 :: T5 :: T6 :: T7 :: T8 :: Fr) (fun m_ => fun s_ => iterN (fun t_ : (List Q8) => Q62.l0b  t_) m_ s_.1 = some a8 ∧ RdS Q8.fl.rep R.heap s_.2.1 s_.1 ∧ s_.1.length = s_.2.2.1 ∧ s_.2.2.1 ≤ s_.2.2.2) a4 (O, A0_0, O.length, c0_0) ⟨V, hr0_0, rfl, hc0_0⟩ (fun s_ => []) (fun s_ => pc b0 [.slice s_.2.1 s_.2.2.1 s_.2.2.2, optp I, i6 U, .slice A0_3 p.length c0_3, .slice A0_4 u.length c0_4, .slice A0_5 D.length c0_5, .slice A0_6 G.length c0_6, .map (some b0_7)] 114 :: T3 :: T4 :: T5 :: T6 :: T7 :: T8 :: Fr) (fun s_ => b7 (.inl s_.1) = some r ∧ RdS Q8.fl.rep R.heap s_.2.1 s_.1 ∧ s_.1.length = s_.2.2.1 ∧ s_.2.2.1 ≤ s_.2.2.2) (fun a w e hs => ⟨e.sub ⟨rfl, trivial⟩, (by exact hs)⟩) ?_ (fun c8 => ?_)
 ·rintro ⟨a9, c9, d0, d1⟩ ⟨j, d2, d3, d4⟩; obtain rfl : a9.length = d0 := d3; have j := (b8 _).symm.trans j
  ·refine At.ibx ?_; cases bret j; exact At.res (.inr rfl) rfl rfl ⟨c9, a9.length, d1, rfl, rfl, d2, rfl, d4⟩
 ·clear V a4; rintro a4 ⟨J, d5, d6, b4⟩ ⟨V, Z, d7, b5⟩; obtain rfl : J.length = d6 := d7; obtain ⟨d8, f_, d9, hf_, j⟩ := bit V; clear V; have j : (Q62.l0b  J).bind _ = some a8 := j; unfold Q62.l0b at j
  ·refine At.seq (sR 3 rfl (At.y (Y.load rfl rfl .z rfl rfl rfl) rfl rfl rfl ?_)); obtain ⟨L, j⟩ := bnone j; refine At.y (Y.ixRd Z rfl rfl rfl rfl rfl rfl rfl L.1 L.2) rfl rfl rfl ?_; refine At.y (Y.fa (RdS.some_ Z rfl L.1 L.2) rfl rfl rfl rfl rfl rfl) rfl rfl rfl ?_; refine At.y (Y.ldFl Z rfl (q := 0) rfl rfl L.1 L.2 rfl rfl rfl) rfl rfl rfl (At.run 1 rfl (nT ?_)); rcases bite j with ⟨a5, j⟩ | ⟨a5, j⟩
   ··refine At.condT rfl (decide_eq_true a5) ?_
     refine At.skip (At.thn ?_); refine At.block ?_; refine At.region (At.run 4 rfl (At.y (Y.load rfl rfl .z rfl rfl rfl) rfl rfl rfl ?_)); obtain ⟨b6, j⟩ := bnone j; obtain ⟨e1, e2, e3, e4⟩ := Y.slFromAt (P := Tryz.prog) (R := R) rfl Z b5 b6.1 b6.2; refine At.y (e4 rfl rfl rfl rfl rfl rfl) rfl rfl rfl ?_; refine At.run 2 rfl ?_; refine At.store rfl rfl rfl rfl .z rfl rfl rfl (.c .n) ?_; refine At.nil ?_; refine At.ibn ?_; have j := bnx hf_ j; exact fun a w e hs => ⟨d8, ((J.drop (1 : Int).toNat), e1, (J.drop (1 : Int).toNat).length, (b4 - (1 : Int).toNat)), d9, ⟨j, e2, rfl, e3⟩, e.sub ⟨rfl, trivial⟩, hs⟩
   ··refine At.condF rfl (decide_eq_false a5) ?_
     refine At.exit ?_; refine At.the ?_; refine At.the ?_; exact fun a w e hs => c8 (J, d5, J.length, b4) ⟨(bdn j b9), Z, rfl, b5⟩ a w (e.sub trivial) hs

noncomputable def Q20.f (u : List Q8) (p : Option Q5) (D : Int) (G : List Bs) (I : List Q1) (J : List Q2) (L : List Q10) (O : List (Bs × Bool)) (U : Int) (q : Int) (V : Bs) (X : Int) (a2 : Int) : Option (Option Q5) :=
 if p.isNone = true then
 some (some (⟨q, a2⟩ : Q5))
 else
 some p
theorem Q20.callee : Callee Tryz.prog 75 := ⟨_, Tryz.func75, by kernel_rfl, by kernel_rfl⟩
theorem Q20.spec {I : List Q8} {a0 : Option Q5} {J L p O a2 : Int} {q : List Bs} {u : List Q1} {D : List Q2} {G : List Q10} {U : List (Bs × Bool)} {V : Bs} (X : Option Nat) (hr0_0 : RdS Q8.fl.rep R.heap A0_0 I) (hn0_0 : I.length = n0_0) (hc0_0 : n0_0 ≤ c0_0) (hn0_3 : q.length = n0_3) (hn0_4 : u.length = n0_4) (hn0_5 : D.length = n0_5) (hn0_6 : G.length = n0_6) {r : (Option Q5)} (j : Q20.f I a0 J q u D G U L p V O a2 = some r) :
 Spec Tryz.prog 75 [bp b0, .agg #[i6 L, i6 p, .string ⟨(V).toArray⟩, i6 O], i6 a2] R (pc b0 [.slice A0_0 n0_0 c0_0, optp X, i6 J, .slice A0_3 n0_3 c0_3, .slice A0_4 n0_4 c0_4, .slice A0_5 n0_5 c0_5, .slice A0_6 n0_6 c0_6, .map (some b0_7)] 114 :: optb (Ow.fl Q5.fl) 58 X a0 :: row Fl.bs 9 A0_3 n0_3 c0_3 q :: row Q1.fl 35 A0_4 n0_4 c0_4 u :: grow Q2.ow 37 A0_5 n0_5 c0_5 D :: row Q10.fl 148 A0_6 n0_6 c0_6 G :: mapo Fl.bs.ov Fl.bool.ov b0_7 U :: Fr) (fun v l' => ∃ (a1 : Option Nat), v = .tuple #[] ∧ optb (Ow.fl Q5.fl) 58 a1 r :: pc b0 [.slice A0_0 n0_0 c0_0, optp a1, i6 J, .slice A0_3 n0_3 c0_3, .slice A0_4 n0_4 c0_4, .slice A0_5 n0_5 c0_5, .slice A0_6 n0_6 c0_6, .map (some b0_7)] 114 :: row Fl.bs 9 A0_3 n0_3 c0_3 q :: row Q1.fl 35 A0_4 n0_4 c0_4 u :: grow Q2.ow 37 A0_5 n0_5 c0_5 D :: row Q10.fl 148 A0_6 n0_6 c0_6 G :: mapo Fl.bs.ov Fl.bool.ov b0_7 U :: Fr = l') := by
 subst hn0_0; subst hn0_3; subst hn0_4; subst hn0_5; subst hn0_6; refine Spec.of Tryz.func75 rfl rfl ?_; unfold Q20.f at j; have j := brun j; refine At.seq (At.region ?_); refine At.box rfl rfl (cs := [i6 L, i6 p, .string ⟨(V).toArray⟩, i6 O]) rfl rfl (fun a4 => ?_); refine nT (sR 3 rfl (At.y (Y.load rfl rfl (.s .z) rfl rfl rfl) rfl rfl rfl ?_)); refine At.y (Y.eqOpt (.s (.s .z)) rfl rfl rfl rfl) rfl rfl rfl ?_; refine nT ?_; rcases bite j with ⟨Z, j⟩ | ⟨Z, j⟩
 ··refine At.condT rfl Z ?_
   refine At.region (At.run 2 rfl (At.y (Y.load rfl rfl .z rfl rfl rfl) rfl rfl rfl (At.run 1 rfl ?_))); refine At.y (Y.build (is := [0, 1]) (xo := [.tmp 13, .tmp 14]) (vs := [i6 p, i6 a2]) (cs := [i6 p, i6 a2]) rfl rfl rfl rfl rfl rfl) rfl rfl rfl ?_; refine At.box rfl rfl (cs := [i6 p, i6 a2]) rfl rfl (fun a3 => ?_); refine At.run 2 rfl ?_; refine At.store rfl rfl rfl rfl (.s (.s .z)) rfl rfl rfl (.s (.c .n)) ?_; refine At.nil (At.f1 ?_); refine At.optSome (x := (⟨p, a2⟩ : Q5)) (Ent.fl Q5.fl (x := (⟨p, a2⟩ : Q5)) rfl) ?_; refine At.drop (.s (.s .z)) (At.drop (.s (.s .z)) ?_); cases bret j; exact At.res (.inr rfl) rfl rfl ⟨(some a3), rfl, rfl⟩
 ··refine At.condF rfl (bn Z) ?_
   refine At.skip (At.drop .z (At.f6 (At.f6 (At.f6 (At.f6 (At.f6 (At.f5 ?_))))))); refine At.f6 ?_; cases bret j; exact At.res (.inr rfl) rfl rfl ⟨X, rfl, rfl⟩

noncomputable def Q49.f (p : List Q8) (q : Option Q5) (u : Int) (D : List Bs) (G : List Q1) (I : List Q2) (J : List Q10) (L : List (Bs × Bool)) (a1 : Int) : Option ((Option Q5) × (List Q8) × Int × Int × Bs × Int) :=
 if q.isNone = true then
 if (0 : Int) ≤ 0 ∧ 0 < (p.length : Int) then
 jn (
 if (gt p 0).Kind = a1 then
 if (0 : Int) ≤ 1 ∧ 1 ≤ (p.length : Int) then
 up (some (q, (p.drop (1 : Int).toNat), (gt p 0).Kind, (gt p 0).At, (gt p 0).Text, (gt p 0).Number))
 else none
 else
 if (gt p 0).Kind = 0 then
 (Q20.f p q u D G I J L ((gt p 0).Kind) ((gt p 0).At) ((gt p 0).Text) ((gt p 0).Number) 6).bind fun O =>
 some (.inl O)
 else
 (Q20.f p q u D G I J L ((gt p 0).Kind) ((gt p 0).At) ((gt p 0).Text) ((gt p 0).Number) 7).bind fun U =>
 some (.inl U)) (fun (V : Option Q5) =>
 some (V, p, 0, 0, ([] : Bs), 0))
 else none
 else
 some (q, p, 0, 0, ([] : Bs), 0)
theorem Q49.callee : Callee Tryz.prog 72 := ⟨_, Tryz.func72, by kernel_rfl, by kernel_rfl⟩
theorem Q49.spec {p : List Q8} {a3 : Option Q5} {L a1 : Int} {u : List Bs} {D : List Q1} {G : List Q2} {I : List Q10} {O : List (Bs × Bool)} (J : Option Nat) (hr0_0 : RdS Q8.fl.rep R.heap A0_0 p) (hn0_0 : p.length = n0_0) (hc0_0 : n0_0 ≤ c0_0) (hn0_3 : u.length = n0_3) (hn0_4 : D.length = n0_4) (hn0_5 : G.length = n0_5) (hn0_6 : I.length = n0_6) {r : (Option Q5) × (List Q8) × Int × Int × Bs × Int} (j : Q49.f p a3 L u D G I O a1 = some r) :
 Spec Tryz.prog 72 [bp b0, i6 a1] R (pc b0 [.slice A0_0 n0_0 c0_0, optp J, i6 L, .slice A0_3 n0_3 c0_3, .slice A0_4 n0_4 c0_4, .slice A0_5 n0_5 c0_5, .slice A0_6 n0_6 c0_6, .map (some b0_7)] 114 :: optb (Ow.fl Q5.fl) 58 J a3 :: row Fl.bs 9 A0_3 n0_3 c0_3 u :: row Q1.fl 35 A0_4 n0_4 c0_4 D :: grow Q2.ow 37 A0_5 n0_5 c0_5 G :: row Q10.fl 148 A0_6 n0_6 c0_6 I :: mapo Fl.bs.ov Fl.bool.ov b0_7 O :: Fr) (fun v l' => ∃ (a4 : Option Nat) (a5 : Option Addr) (V : Nat) (a6 : Nat), v = .agg #[i6 r.2.2.1, i6 r.2.2.2.1, .string ⟨(r.2.2.2.2.1).toArray⟩, i6 r.2.2.2.2.2] ∧ optb (Ow.fl Q5.fl) 58 a4 r.1 :: pc b0 [.slice a5 V a6, optp a4, i6 L, .slice A0_3 n0_3 c0_3, .slice A0_4 n0_4 c0_4, .slice A0_5 n0_5 c0_5, .slice A0_6 n0_6 c0_6, .map (some b0_7)] 114 :: row Fl.bs 9 A0_3 n0_3 c0_3 u :: row Q1.fl 35 A0_4 n0_4 c0_4 D :: grow Q2.ow 37 A0_5 n0_5 c0_5 G :: row Q10.fl 148 A0_6 n0_6 c0_6 I :: mapo Fl.bs.ov Fl.bool.ov b0_7 O :: Fr = l' ∧ RdS Q8.fl.rep R.heap a5 r.2.1 ∧ r.2.1.length = V ∧ V ≤ a6) := by
 subst hn0_0; subst hn0_3; subst hn0_4; subst hn0_5; subst hn0_6; refine Spec.of Tryz.func72 rfl rfl ?_; unfold Q49.f at j; have j := brun j; refine At.seq (At.region ?_); refine At.alloc rfl rfl rfl (fun a7 => ?_); refine nT (At.seq (sR 3 rfl (At.y (Y.load rfl rfl (.s .z) rfl rfl rfl) rfl rfl rfl ?_))); refine At.y (Y.neOpt (.s (.s .z)) rfl rfl rfl rfl) rfl rfl rfl ?_; refine nT ?_; rcases bite j with ⟨Z, j⟩ | ⟨Z, j⟩
 ··refine At.condF rfl (nf Z) ?_
   refine At.skip (At.thn (sR 3 rfl (At.y (Y.load rfl rfl (.s .z) rfl rfl rfl) rfl rfl rfl ?_))); obtain ⟨U, j⟩ := bnone j; refine At.y (Y.ixRd hr0_0 rfl rfl rfl rfl rfl rfl rfl U.1 U.2) rfl rfl rfl (At.y (Y.ldFl hr0_0 rfl (q := 0) rfl rfl U.1 U.2 rfl rfl rfl) rfl rfl rfl ?_); refine At.store rfl rfl rfl rfl .z rfl rfl rfl (.c (.c (.c (.c .n)))) ?_; refine nT (At.seq ?_); obtain ⟨b4, b5, b6, j⟩ := bjoin j; let T9 : HProp := pc a7 [i6 ((gt p 0).Kind), i6 ((gt p 0).At), .string ⟨((gt p 0).Text).toArray⟩, i6 ((gt p 0).Number)] 116; refine At.join (X := (Option Q5) × (Option Nat)) (fun s_ => [(4, bp a7)]) (fun s_ => optb (Ow.fl Q5.fl) 58 s_.2 s_.1 :: pc b0 [.slice A0_0 p.length c0_0, optp s_.2, i6 L, .slice A0_3 u.length c0_3, .slice A0_4 D.length c0_4, .slice A0_5 G.length c0_5, .slice A0_6 I.length c0_6, .map (some b0_7)] 114 :: row Fl.bs 9 A0_3 u.length c0_3 u :: row Q1.fl 35 A0_4 D.length c0_4 D :: grow Q2.ow 37 A0_5 G.length c0_5 G :: row Q10.fl 148 A0_6 I.length c0_6 I :: mapo Fl.bs.ov Fl.bool.ov b0_7 O :: T9 :: Fr) (fun s_ => b4 (.inl s_.1) = some r) ?_ (fun a8 => ?_)
   ·rintro ⟨d6, b7⟩ j; have j := (b5 _).symm.trans j
    ·refine At.seq (At.region ?_); refine At.y (Y.build (is := []) (xo := []) (vs := []) (cs := [i6 0, i6 0, .string ⟨(([] : Bs)).toArray⟩, i6 0]) rfl rfl rfl rfl rfl rfl) rfl rfl rfl ?_; refine At.store rfl rfl rfl rfl (.s (.s (.s (.s (.s (.s (.s .z))))))) rfl rfl rfl (.c (.c (.c (.c .n)))) ?_; refine nT (At.ret ?_); refine At.resM (.inl rfl) rfl (RV.cell rfl rfl .z rfl rfl rfl RV.nil) ?_; refine At.drop .z ?_; cases bret j; exact fun a w e hs => ⟨_, ⟨b7, A0_0, p.length, c0_0, rfl, rfl, hr0_0, rfl, hc0_0⟩, hs⟩
   ··refine At.block ?_
     refine sR 1 rfl (At.y (Y.load rfl rfl .z rfl rfl rfl) rfl rfl rfl (At.run 3 rfl (nT ?_))); rcases bite j with ⟨a0, j⟩ | ⟨a0, j⟩
     ··refine At.condT rfl (decide_eq_true a0) ?_
       refine sR 4 rfl (At.y (Y.load rfl rfl (.s .z) rfl rfl rfl) rfl rfl rfl ?_); obtain ⟨a9, j⟩ := bnone j; obtain ⟨b8, b9, c8, c9⟩ := Y.slFromAt (P := Tryz.prog) (R := R) rfl hr0_0 hc0_0 a9.1 a9.2; refine At.y (c9 rfl rfl rfl rfl rfl rfl) rfl rfl rfl ?_; refine At.run 2 rfl ?_; refine At.store rfl rfl rfl rfl (.s .z) rfl rfl rfl (.c .n) ?_; refine nT (At.seq (At.region (At.y (Y.load rfl rfl (.s .z) rfl rfl rfl) rfl rfl rfl ?_))); refine At.store rfl rfl rfl rfl (.s .z) rfl rfl rfl (.c (.c (.c (.c .n)))) ?_; refine nT (At.ret ?_); refine At.ibr ?_; have j := bup b6 j; refine At.thr ?_; refine At.resM (.inl rfl) rfl (RV.cell rfl rfl .z rfl rfl rfl RV.nil) ?_; refine At.drop .z (At.f6 (At.f6 (At.f6 (At.f6 (At.f6 (At.f5 (At.f6 ?_))))))); cases bret j; exact fun a w e hs => ⟨_, ⟨J, b8, (p.drop (1 : Int).toNat).length, (c0_0 - (1 : Int).toNat), rfl, rfl, b9, rfl, c8⟩, hs⟩
     ··refine At.condF rfl (decide_eq_false a0) ?_
       refine sR 1 rfl (At.y (Y.load rfl rfl .z rfl rfl rfl) rfl rfl rfl (At.run 2 rfl (nT ?_))); rcases bite j with ⟨a2, j⟩ | ⟨a2, j⟩
       ··refine At.condT rfl (decide_eq_true a2) ?_
         refine At.region (At.run 1 rfl (At.y (Y.load rfl rfl .z rfl rfl rfl) rfl rfl rfl (At.f7 (At.f7 (At.f7 (At.f7 (At.f7 ?_))))))); refine At.f7 (At.f7 ?_); obtain ⟨d0, d1, j⟩ := bbind j; refine At.call rfl Q20.callee rfl rfl rfl (Q20.spec J hr0_0 rfl hc0_0 rfl rfl rfl rfl d1) ?_; rintro _ _ ⟨d2, rfl, rfl⟩; refine At.nil ?_; refine At.ibn ?_; refine At.thn ?_; exact fun a w e hs => a8 (d0, d2) j a w (e.sub ⟨rfl, trivial⟩) hs
       ··refine At.condF rfl (decide_eq_false a2) ?_
         refine At.region (At.run 1 rfl (At.y (Y.load rfl rfl .z rfl rfl rfl) rfl rfl rfl (At.f7 (At.f7 (At.f7 (At.f7 (At.f7 ?_))))))); refine At.f7 (At.f7 ?_); obtain ⟨d3, d4, j⟩ := bbind j; refine At.call rfl Q20.callee rfl rfl rfl (Q20.spec J hr0_0 rfl hc0_0 rfl rfl rfl rfl d4) ?_; rintro _ _ ⟨d5, rfl, rfl⟩; refine At.nil ?_; refine At.ibn ?_; refine At.thn ?_; exact fun a w e hs => a8 (d3, d5) j a w (e.sub ⟨rfl, trivial⟩) hs
 ··refine At.condT rfl (nt (bn Z)) ?_
   refine At.seq (At.region (At.y (Y.load rfl rfl .z rfl rfl rfl) rfl rfl rfl ?_)); refine At.store rfl rfl rfl rfl .z rfl rfl rfl (.c (.c (.c (.c .n)))) ?_; refine nT (At.ret (At.thr ?_)); refine At.resM (.inl rfl) rfl (RV.cell rfl rfl .z rfl rfl rfl RV.nil) ?_; refine At.drop .z (At.f6 (At.f6 (At.f6 (At.f6 (At.f6 (At.f5 (At.f6 ?_))))))); cases bret j; exact fun a w e hs => ⟨_, ⟨J, A0_0, p.length, c0_0, rfl, rfl, hr0_0, rfl, hc0_0⟩, hs⟩

noncomputable def Q110.f (p : List Q8) (u : Option Q5) (D : Int) (G : List Bs) (I : List Q1) (J : List Q2) (L : List Q10) (O : List (Bs × Bool)) : Option Bool :=
 if (0 : Int) ≤ 0 ∧ 0 < (p.length : Int) then
 jn (
 if (gt p 0).Kind = 0 then
 some (.inl true)
 else
 some (.inl (decide ((gt p 0).Kind = 1)))) (fun (q : Bool) =>
 some q)
 else none
theorem Q110.callee : Callee Tryz.prog 102 := ⟨_, Tryz.func102, by kernel_rfl, by kernel_rfl⟩
theorem Q110.spec {L : List Q8} {U : Option Q5} {V : Int} {u : List Bs} {D : List Q1} {G : List Q2} {I : List Q10} {Z : List (Bs × Bool)} (J : Option Nat) (hr0_0 : RdS Q8.fl.rep R.heap A0_0 L) (hn0_0 : L.length = n0_0) (hc0_0 : n0_0 ≤ c0_0) (hn0_3 : u.length = n0_3) (hn0_4 : D.length = n0_4) (hn0_5 : G.length = n0_5) (hn0_6 : I.length = n0_6) {r : Bool} (j : Q110.f L U V u D G I Z = some r) :
 Spec Tryz.prog 102 [bp b0] R (pc b0 [.slice A0_0 n0_0 c0_0, optp J, i6 V, .slice A0_3 n0_3 c0_3, .slice A0_4 n0_4 c0_4, .slice A0_5 n0_5 c0_5, .slice A0_6 n0_6 c0_6, .map (some b0_7)] 114 :: optb (Ow.fl Q5.fl) 58 J U :: row Fl.bs 9 A0_3 n0_3 c0_3 u :: row Q1.fl 35 A0_4 n0_4 c0_4 D :: grow Q2.ow 37 A0_5 n0_5 c0_5 G :: row Q10.fl 148 A0_6 n0_6 c0_6 I :: mapo Fl.bs.ov Fl.bool.ov b0_7 Z :: Fr) (fun v l' => v = .bool r ∧ pc b0 [.slice A0_0 n0_0 c0_0, optp J, i6 V, .slice A0_3 n0_3 c0_3, .slice A0_4 n0_4 c0_4, .slice A0_5 n0_5 c0_5, .slice A0_6 n0_6 c0_6, .map (some b0_7)] 114 :: optb (Ow.fl Q5.fl) 58 J U :: row Fl.bs 9 A0_3 n0_3 c0_3 u :: row Q1.fl 35 A0_4 n0_4 c0_4 D :: grow Q2.ow 37 A0_5 n0_5 c0_5 G :: row Q10.fl 148 A0_6 n0_6 c0_6 I :: mapo Fl.bs.ov Fl.bool.ov b0_7 Z :: Fr = l') := by
 subst hn0_0; subst hn0_3; subst hn0_4; subst hn0_5; subst hn0_6; refine Spec.of Tryz.func102 rfl rfl ?_; unfold Q110.f at j; have j := brun j; refine sR 1 rfl (nT (sR 3 rfl ?_)); refine At.y (Y.load rfl rfl .z rfl rfl rfl) rfl rfl rfl ?_; obtain ⟨p, j⟩ := bnone j; refine At.y (Y.ixRd hr0_0 rfl rfl rfl rfl rfl rfl rfl p.1 p.2) rfl rfl rfl ?_; refine At.y (Y.fa (RdS.some_ hr0_0 rfl p.1 p.2) rfl rfl rfl rfl rfl rfl) rfl rfl rfl ?_; refine At.y (Y.ldFl hr0_0 rfl (q := 0) rfl rfl p.1 p.2 rfl rfl rfl) rfl rfl rfl (At.run 2 rfl ?_); obtain ⟨a2, a3, a5, j⟩ := bjoin j; let a4 : HProp := pc b0 [.slice A0_0 L.length c0_0, optp J, i6 V, .slice A0_3 u.length c0_3, .slice A0_4 D.length c0_4, .slice A0_5 G.length c0_5, .slice A0_6 I.length c0_6, .map (some b0_7)] 114; refine At.joinO 9 (X := Bool) (fun O => [(20, .bool O)]) (fun O => a4 :: optb (Ow.fl Q5.fl) 58 J U :: row Fl.bs 9 A0_3 u.length c0_3 u :: row Q1.fl 35 A0_4 D.length c0_4 D :: grow Q2.ow 37 A0_5 G.length c0_5 G :: row Q10.fl 148 A0_6 I.length c0_6 I :: mapo Fl.bs.ov Fl.bool.ov b0_7 Z :: Fr) (fun O => a2 (.inl O) = some r) ?_ (fun a1 => ?_)
 ·rintro O j; have j := (a3 _).symm.trans j
  ·refine At.run 1 rfl (nT (At.ret ?_)); cases bret j; exact At.res (.inl rfl) rfl rfl ⟨rfl, rfl⟩
 ··rcases bite j with ⟨a0, j⟩ | ⟨a0, j⟩
   ··refine At.know (t := 11) rfl (decide_eq_true a0) ?_
     refine At.run 9 rfl ?_; exact At.of (a1 true j) ⟨rfl, trivial⟩
   ··refine At.know (t := 11) rfl (decide_eq_false a0) ?_
     refine At.run 3 rfl (At.y (Y.load rfl rfl .z rfl rfl rfl) rfl rfl rfl (At.y (Y.ixRd hr0_0 rfl rfl rfl rfl rfl rfl rfl p.1 p.2) rfl rfl rfl ?_)); refine At.y (Y.fa (RdS.some_ hr0_0 rfl p.1 p.2) rfl rfl rfl rfl rfl rfl) rfl rfl rfl ?_; refine At.y (Y.ldFl hr0_0 rfl (q := 0) rfl rfl p.1 p.2 rfl rfl rfl) rfl rfl rfl (At.run 2 rfl ?_); exact At.of (a1 (decide ((gt L 0).Kind = 1)) j) ⟨rfl, trivial⟩

noncomputable def Q109.f (p : List Q8) (q : Option Q5) (u : Int) (D : List Bs) (G : List Q1) (I : List Q2) (J : List Q10) (L : List (Bs × Bool)) : Option (Option Q5) :=
 (Q110.f p q u D G I J L).bind fun O =>
 if O = true then
 some q
 else
 if (0 : Int) ≤ 0 ∧ 0 < (p.length : Int) then
 (Q20.f p q u D G I J L ((gt p 0).Kind) ((gt p 0).At) ((gt p 0).Text) ((gt p 0).Number) 7).bind fun U =>
 some U
 else none
theorem Q109.callee : Callee Tryz.prog 96 := ⟨_, Tryz.func96, by kernel_rfl, by kernel_rfl⟩
theorem Q109.spec {L : List Q8} {X : Option Q5} {O : Int} {u : List Bs} {D : List Q1} {G : List Q2} {I : List Q10} {U : List (Bs × Bool)} (p : Option Nat) (hr0_0 : RdS Q8.fl.rep R.heap A0_0 L) (hn0_0 : L.length = n0_0) (hc0_0 : n0_0 ≤ c0_0) (hn0_3 : u.length = n0_3) (hn0_4 : D.length = n0_4) (hn0_5 : G.length = n0_5) (hn0_6 : I.length = n0_6) {r : (Option Q5)} (j : Q109.f L X O u D G I U = some r) :
 Spec Tryz.prog 96 [bp b0] R (pc b0 [.slice A0_0 n0_0 c0_0, optp p, i6 O, .slice A0_3 n0_3 c0_3, .slice A0_4 n0_4 c0_4, .slice A0_5 n0_5 c0_5, .slice A0_6 n0_6 c0_6, .map (some b0_7)] 114 :: optb (Ow.fl Q5.fl) 58 p X :: row Fl.bs 9 A0_3 n0_3 c0_3 u :: row Q1.fl 35 A0_4 n0_4 c0_4 D :: grow Q2.ow 37 A0_5 n0_5 c0_5 G :: row Q10.fl 148 A0_6 n0_6 c0_6 I :: mapo Fl.bs.ov Fl.bool.ov b0_7 U :: Fr) (fun v l' => ∃ (Z : Option Nat), v = .tuple #[] ∧ pc b0 [.slice A0_0 n0_0 c0_0, optp Z, i6 O, .slice A0_3 n0_3 c0_3, .slice A0_4 n0_4 c0_4, .slice A0_5 n0_5 c0_5, .slice A0_6 n0_6 c0_6, .map (some b0_7)] 114 :: optb (Ow.fl Q5.fl) 58 Z r :: row Fl.bs 9 A0_3 n0_3 c0_3 u :: row Q1.fl 35 A0_4 n0_4 c0_4 D :: grow Q2.ow 37 A0_5 n0_5 c0_5 G :: row Q10.fl 148 A0_6 n0_6 c0_6 I :: mapo Fl.bs.ov Fl.bool.ov b0_7 U :: Fr = l') := by
 subst hn0_0; subst hn0_3; subst hn0_4; subst hn0_5; subst hn0_6; refine Spec.of Tryz.func96 rfl rfl ?_; unfold Q109.f at j; have j := brun j; refine sR 1 rfl ?_; obtain ⟨a3, a0, j⟩ := bbind j; refine At.call rfl Q110.callee rfl rfl rfl (Q110.spec p hr0_0 rfl hc0_0 rfl rfl rfl rfl a0) ?_; rintro _ _ ⟨rfl, rfl⟩; refine At.run 1 rfl (nT ?_); rcases bite j with ⟨V, j⟩ | ⟨V, j⟩
 ··refine At.condF rfl (nf V) ?_
   refine At.skip ?_; cases bret j; exact At.res (.inr rfl) rfl rfl ⟨p, rfl, rfl⟩
 ··refine At.condT rfl (nt (bn V)) ?_
   refine At.region (At.run 4 rfl (At.y (Y.load rfl rfl .z rfl rfl rfl) rfl rfl rfl ?_)); obtain ⟨J, j⟩ := bnone j; refine At.y (Y.ixRd hr0_0 rfl rfl rfl rfl rfl rfl rfl J.1 J.2) rfl rfl rfl (At.y (Y.ldFl hr0_0 rfl (q := 0) rfl rfl J.1 J.2 rfl rfl rfl) rfl rfl rfl ?_); obtain ⟨a4, a1, j⟩ := bbind j; refine At.call rfl Q20.callee rfl rfl rfl (Q20.spec p hr0_0 rfl hc0_0 rfl rfl rfl rfl a1) ?_; rintro _ _ ⟨a2, rfl, rfl⟩; refine At.nil (At.f6 (At.f6 (At.f6 (At.f6 (At.f6 (At.f5 (At.f6 ?_))))))); cases bret j; exact At.res (.inr rfl) rfl rfl ⟨a2, rfl, rfl⟩

noncomputable def Q136.f (U : List Q8) (O : Option Q5) (L : Int) (u : List Bs) (D : List Q1) (G : List Q2) (I : List Q10) (J : List (Bs × Bool)) : Option ((Option Q5) × (List Q8) × Int) :=
 (Q62.f U O L u D G I J).bind fun V =>
 (Q49.f V O L u D G I J 2).bind fun q =>
 jn (
 if q.1.isNone = true then
 some (.inl (!(bseq q.2.2.2.2.1 ([115, 116, 97, 116, 101, 115] : Bs))))
 else
 some (.inl false)) (fun (X : Bool) =>
 jn (
 if X = true then
 (Q20.f q.2.1 q.1 L u D G I J q.2.2.1 q.2.2.2.1 q.2.2.2.2.1 q.2.2.2.2.2 7).bind fun Z =>
 some (.inl Z)
 else
 some (.inl q.1)) (fun (a0 : Option Q5) =>
 (Q49.f q.2.1 a0 L u D G I J 4).bind fun p =>
 jn (
 if p.1.isNone = true then
 jn (
 if p.2.2.2.2.2 < 1 then
 some (.inl true)
 else
 some (.inl (decide (24 < p.2.2.2.2.2)))) (fun (a1 : Bool) =>
 some (.inl a1))
 else
 some (.inl false)) (fun (a2 : Bool) =>
 jn (
 if a2 = true then
 (Q20.f p.2.1 p.1 p.2.2.2.2.2 u D G I J p.2.2.1 p.2.2.2.1 p.2.2.2.2.1 p.2.2.2.2.2 8).bind fun a3 =>
 some (.inl a3)
 else
 some (.inl p.1)) (fun (a4 : Option Q5) =>
 (Q109.f p.2.1 a4 p.2.2.2.2.2 u D G I J).bind fun a5 =>
 some (a5, p.2.1, p.2.2.2.2.2)))))
theorem Q136.callee : Callee Tryz.prog 70 := ⟨_, Tryz.func70, by kernel_rfl, by kernel_rfl⟩
theorem Q136.spec {a3 : List Q8} {c8 : Option Q5} {a0 : Int} {p : List Bs} {q : List Q1} {u : List Q2} {D : List Q10} {J : List (Bs × Bool)} (a1 : Option Nat) (hr0_0 : RdS Q8.fl.rep R.heap A0_0 a3) (hn0_0 : a3.length = n0_0) (hc0_0 : n0_0 ≤ c0_0) (hn0_3 : p.length = n0_3) (hn0_4 : q.length = n0_4) (hn0_5 : u.length = n0_5) (hn0_6 : D.length = n0_6) {r : (Option Q5) × (List Q8) × Int} (j : Q136.f a3 c8 a0 p q u D J = some r) :
 Spec Tryz.prog 70 [bp b0] R (pc b0 [.slice A0_0 n0_0 c0_0, optp a1, i6 a0, .slice A0_3 n0_3 c0_3, .slice A0_4 n0_4 c0_4, .slice A0_5 n0_5 c0_5, .slice A0_6 n0_6 c0_6, .map (some b0_7)] 114 :: optb (Ow.fl Q5.fl) 58 a1 c8 :: row Fl.bs 9 A0_3 n0_3 c0_3 p :: row Q1.fl 35 A0_4 n0_4 c0_4 q :: grow Q2.ow 37 A0_5 n0_5 c0_5 u :: row Q10.fl 148 A0_6 n0_6 c0_6 D :: mapo Fl.bs.ov Fl.bool.ov b0_7 J :: Fr) (fun v l' => ∃ (c9 : Option Nat) (d0 : Option Addr) (a4 : Nat) (d1 : Nat), v = .tuple #[] ∧ optb (Ow.fl Q5.fl) 58 c9 r.1 :: pc b0 [.slice d0 a4 d1, optp c9, i6 r.2.2, .slice A0_3 n0_3 c0_3, .slice A0_4 n0_4 c0_4, .slice A0_5 n0_5 c0_5, .slice A0_6 n0_6 c0_6, .map (some b0_7)] 114 :: row Fl.bs 9 A0_3 n0_3 c0_3 p :: row Q1.fl 35 A0_4 n0_4 c0_4 q :: grow Q2.ow 37 A0_5 n0_5 c0_5 u :: row Q10.fl 148 A0_6 n0_6 c0_6 D :: mapo Fl.bs.ov Fl.bool.ov b0_7 J :: Fr = l' ∧ RdS Q8.fl.rep R.heap d0 r.2.1 ∧ r.2.1.length = a4 ∧ a4 ≤ d1) := by
 subst hn0_0; subst hn0_3; subst hn0_4; subst hn0_5; subst hn0_6; refine Spec.of Tryz.func70 rfl rfl ?_; unfold Q136.f at j; have j := brun j; refine sR 1 rfl ?_; obtain ⟨h4, e3, j⟩ := bbind j; refine At.call rfl Q62.callee rfl rfl rfl (Q62.spec a1 hr0_0 rfl hc0_0 rfl rfl rfl rfl e3) ?_; rintro _ _ ⟨h5, h6, h7, rfl, rfl, e4, rfl, e5⟩; refine nT (At.seq (sR 1 rfl ?_)); obtain ⟨I, e6, j⟩ := bbind j; refine At.call rfl Q49.callee rfl rfl rfl (Q49.spec a1 e4 rfl e5 rfl rfl rfl rfl e6) ?_; rintro _ _ ⟨a2, d2, h8, d3, rfl, rfl, d4, rfl, d5⟩; refine At.alloc rfl rfl rfl (fun d6 => ?_); refine At.store rfl rfl rfl rfl .z rfl rfl rfl (.c (.c (.c (.c .n)))) ?_; refine nT (sR 3 rfl (At.y (Y.load rfl rfl (.s (.s .z)) rfl rfl rfl) rfl rfl rfl ?_)); refine At.y (Y.eqOpt (.s .z) rfl rfl rfl rfl) rfl rfl rfl ?_; refine At.run 1 rfl ?_; obtain ⟨e7, e8, h9, j⟩ := bjoin j; let O : HProp := pc d6 [i6 I.2.2.1, i6 I.2.2.2.1, .string ⟨(I.2.2.2.2.1).toArray⟩, i6 I.2.2.2.2.2] 116; let e9 : HProp := pc b0 [.slice d2 I.2.1.length d3, optp a2, i6 a0, .slice A0_3 p.length c0_3, .slice A0_4 q.length c0_4, .slice A0_5 u.length c0_5, .slice A0_6 D.length c0_6, .map (some b0_7)] 114; refine At.joinO 4 (X := Bool) (fun U => [(0, bp b0), (2, bp d6), (17, .bool U)]) (fun U => O :: optb (Ow.fl Q5.fl) 58 a2 I.1 :: e9 :: row Fl.bs 9 A0_3 p.length c0_3 p :: row Q1.fl 35 A0_4 q.length c0_4 q :: grow Q2.ow 37 A0_5 u.length c0_5 u :: row Q10.fl 148 A0_6 D.length c0_6 D :: mapo Fl.bs.ov Fl.bool.ov b0_7 J :: Fr) (fun U => e7 (.inl U) = some r) ?_ (fun d7 => ?_)
 ·rintro U j; have j := (e8 _).symm.trans j
  ·refine nT ?_; obtain ⟨f0, f1, k0, j⟩ := bjoin j; refine At.join (X := (Option Q5) × (Option Nat)) (fun s_ => [(0, bp b0)]) (fun s_ => optb (Ow.fl Q5.fl) 58 s_.2 s_.1 :: pc b0 [.slice d2 I.2.1.length d3, optp s_.2, i6 a0, .slice A0_3 p.length c0_3, .slice A0_4 q.length c0_4, .slice A0_5 u.length c0_5, .slice A0_6 D.length c0_6, .map (some b0_7)] 114 :: row Fl.bs 9 A0_3 p.length c0_3 p :: row Q1.fl 35 A0_4 q.length c0_4 q :: grow Q2.ow 37 A0_5 u.length c0_5 u :: row Q10.fl 148 A0_6 D.length c0_6 D :: mapo Fl.bs.ov Fl.bool.ov b0_7 J :: O :: Fr) (fun s_ => f0 (.inl s_.1) = some r) ?_ (fun d8 => ?_)
   ·rintro ⟨k1, f3⟩ j; have j := (f1 _).symm.trans j
    ·refine sR 1 rfl (At.f6 (At.f6 (At.f6 (At.f6 (At.f6 ?_))))); refine At.f5 (At.f6 ?_); obtain ⟨G, f4, j⟩ := bbind j; refine At.call rfl Q49.callee rfl rfl rfl (Q49.spec f3 d4 rfl d5 rfl rfl rfl rfl f4) ?_; rintro _ _ ⟨V, a5, k2, a6, rfl, rfl, a7, rfl, a8⟩; refine At.alloc rfl rfl rfl (fun a9 => ?_); refine At.store rfl rfl rfl rfl .z rfl rfl rfl (.c (.c (.c (.c .n)))) ?_; refine nT (sR 2 rfl (At.y (Y.load rfl rfl .z rfl rfl rfl) rfl rfl rfl (At.run 3 rfl ?_))); refine At.store rfl rfl rfl rfl (.s (.s .z)) rfl rfl rfl (.s (.s (.c .n))) ?_; refine nT (At.seq (sR 3 rfl (At.y (Y.load rfl rfl .z rfl rfl rfl) rfl rfl rfl ?_))); refine At.y (Y.eqOpt (.s (.s .z)) rfl rfl rfl rfl) rfl rfl rfl ?_; refine At.run 1 rfl ?_; obtain ⟨f9, g0, k3, j⟩ := bjoin j; let d9 : HProp := pc b0 [.slice a5 G.2.1.length a6, optp V, i6 G.2.2.2.2.2, .slice A0_3 p.length c0_3, .slice A0_4 q.length c0_4, .slice A0_5 u.length c0_5, .slice A0_6 D.length c0_6, .map (some b0_7)] 114; let b4 : HProp := pc a9 [i6 G.2.2.1, i6 G.2.2.2.1, .string ⟨(G.2.2.2.2.1).toArray⟩, i6 G.2.2.2.2.2] 116; refine At.joinO 9 (X := Bool) (fun Z => [(0, bp b0), (3, bp a9), (43, .bool Z)]) (fun Z => d9 :: b4 :: optb (Ow.fl Q5.fl) 58 V G.1 :: row Fl.bs 9 A0_3 p.length c0_3 p :: row Q1.fl 35 A0_4 q.length c0_4 q :: grow Q2.ow 37 A0_5 u.length c0_5 u :: row Q10.fl 148 A0_6 D.length c0_6 D :: mapo Fl.bs.ov Fl.bool.ov b0_7 J :: O :: Fr) (fun Z => f9 (.inl Z) = some r) ?_ (fun e0 => ?_)
     ·rintro Z j; have j := (g0 _).symm.trans j
      ·refine nT ?_; obtain ⟨g1, g2, k4, j⟩ := bjoin j; refine At.join (X := (Option Q5) × (Option Nat)) (fun s_ => [(0, bp b0)]) (fun s_ => optb (Ow.fl Q5.fl) 58 s_.2 s_.1 :: pc b0 [.slice a5 G.2.1.length a6, optp s_.2, i6 G.2.2.2.2.2, .slice A0_3 p.length c0_3, .slice A0_4 q.length c0_4, .slice A0_5 u.length c0_5, .slice A0_6 D.length c0_6, .map (some b0_7)] 114 :: row Fl.bs 9 A0_3 p.length c0_3 p :: row Q1.fl 35 A0_4 q.length c0_4 q :: grow Q2.ow 37 A0_5 u.length c0_5 u :: row Q10.fl 148 A0_6 D.length c0_6 D :: mapo Fl.bs.ov Fl.bool.ov b0_7 J :: b4 :: O :: Fr) (fun s_ => g1 (.inl s_.1) = some r) ?_ (fun e1 => ?_)
       ·rintro ⟨k5, g3⟩ j; have j := (g2 _).symm.trans j
        ·refine At.region (At.run 1 rfl (At.f6 (At.f6 (At.f6 (At.f6 (At.f6 (At.f5 ?_))))))); refine At.f6 ?_; obtain ⟨k6, g4, j⟩ := bbind j; refine At.call rfl Q109.callee rfl rfl rfl (Q109.spec g3 a7 rfl a8 rfl rfl rfl rfl g4) ?_; rintro _ _ ⟨g5, rfl, rfl⟩; refine At.nil (At.drop (.s (.s (.s (.s (.s (.s (.s .z))))))) (At.drop (.s (.s (.s (.s (.s (.s (.s .z))))))) (At.f6 (At.f6 (At.f6 (At.f6 (At.f6 ?_))))))); refine At.f5 (At.f6 ?_); cases bret j; exact At.res (.inr rfl) rfl rfl ⟨g5, a5, G.2.1.length, a6, rfl, rfl, a7, rfl, a8⟩
       ··rcases bite j with ⟨b5, j⟩ | ⟨b5, j⟩
         ··refine At.condT rfl b5 ?_
           refine At.region (At.run 1 rfl (At.y (Y.load rfl rfl (.s .z) rfl rfl rfl) rfl rfl rfl (At.f7 (At.f7 (At.f7 (At.f7 (At.f7 ?_))))))); refine At.f7 (At.f6 ?_); obtain ⟨g6, g7, j⟩ := bbind j; refine At.call rfl Q20.callee rfl rfl rfl (Q20.spec V a7 rfl a8 rfl rfl rfl rfl g7) ?_; rintro _ _ ⟨g8, rfl, rfl⟩; refine nT ?_; exact fun a w e hs => e1 (g6, g8) j a w (e.sub ⟨rfl, trivial⟩) hs
         ··refine At.condF rfl (bn b5) ?_
           refine At.skip (At.thn (At.f8 (At.f2 (At.f8 (At.f8 (At.f8 (At.f8 ?_))))))); refine At.f8 (At.f7 (At.f8 ?_)); exact fun a w e hs => e1 (G.1, V) j a w (e.sub ⟨rfl, trivial⟩) hs
     ··rcases bite j with ⟨b6, j⟩ | ⟨b6, j⟩
       ··refine At.know (t := 34) rfl b6 ?_
         refine At.run 1 rfl (At.y (Y.load rfl rfl (.s .z) rfl rfl rfl) rfl rfl rfl (At.run 2 rfl ?_)); obtain ⟨g9, h0, k7, j⟩ := bjoin j; refine At.joinO 4 (X := Bool) (fun L => [(0, bp b0), (3, bp a9), (34, .bool true), (42, .bool L)]) (fun L => d9 :: b4 :: optb (Ow.fl Q5.fl) 58 V G.1 :: row Fl.bs 9 A0_3 p.length c0_3 p :: row Q1.fl 35 A0_4 q.length c0_4 q :: grow Q2.ow 37 A0_5 u.length c0_5 u :: row Q10.fl 148 A0_6 D.length c0_6 D :: mapo Fl.bs.ov Fl.bool.ov b0_7 J :: O :: Fr) (fun L => g9 (.inl L) = some r) ?_ (fun e2 => ?_)
         ·rintro L j; have j := (h0 _).symm.trans j
          ·refine At.run 1 rfl ?_; exact At.of (e0 L j) ⟨rfl, rfl, rfl, trivial⟩
         ··rcases bite j with ⟨b7, j⟩ | ⟨b7, j⟩
           ··refine At.know (t := 38) rfl (decide_eq_true b7) ?_
             refine At.run 4 rfl ?_; exact At.of (e2 true j) ⟨rfl, rfl, rfl, rfl, trivial⟩
           ··refine At.know (t := 38) rfl (decide_eq_false b7) ?_
             refine At.run 1 rfl (At.y (Y.load rfl rfl (.s .z) rfl rfl rfl) rfl rfl rfl (At.run 2 rfl ?_)); exact At.of (e2 (decide (24 < G.2.2.2.2.2)) j) ⟨rfl, rfl, rfl, rfl, trivial⟩
       ··refine At.know (t := 34) rfl (bn b6) ?_
         refine At.run 9 rfl ?_; exact At.of (e0 false j) ⟨rfl, rfl, rfl, trivial⟩
   ··rcases bite j with ⟨b8, j⟩ | ⟨b8, j⟩
     ··refine At.condT rfl b8 ?_
       refine At.region (At.run 1 rfl (At.y (Y.load rfl rfl .z rfl rfl rfl) rfl rfl rfl (At.f7 (At.f7 (At.f7 (At.f7 (At.f7 ?_))))))); refine At.f6 (At.f7 ?_); obtain ⟨h1, h2, j⟩ := bbind j; refine At.call rfl Q20.callee rfl rfl rfl (Q20.spec a2 d4 rfl d5 rfl rfl rfl rfl h2) ?_; rintro _ _ ⟨h3, rfl, rfl⟩; refine nT ?_; exact fun a w e hs => d8 (h1, h3) j a w (e.sub ⟨rfl, trivial⟩) hs
     ··refine At.condF rfl (bn b8) ?_
       refine At.skip (At.thn (At.f7 (At.f7 (At.f7 (At.f7 (At.f7 (At.f7 ?_))))))); refine At.f7 ?_; exact fun a w e hs => d8 (I.1, a2) j a w (e.sub ⟨rfl, trivial⟩) hs
 ··rcases bite j with ⟨b9, j⟩ | ⟨b9, j⟩
   ··refine At.know (t := 13) rfl b9 ?_
     refine At.run 1 rfl (At.y (Y.load rfl rfl .z rfl rfl rfl) rfl rfl rfl (At.run 2 rfl ?_)); exact At.of (d7 (!(bseq I.2.2.2.2.1 ([115, 116, 97, 116, 101, 115] : Bs))) j) ⟨rfl, rfl, rfl, trivial⟩
   ··refine At.know (t := 13) rfl (bn b9) ?_
     refine At.run 4 rfl ?_; exact At.of (d7 false j) ⟨rfl, rfl, rfl, trivial⟩

noncomputable def Q93.f (L : List Q8) (O : Option Q5) (q : Int) (u : List Bs) (D : List Q1) (G : List Q2) (I : List Q10) (J : List (Bs × Bool)) : Option ((Option Q5) × (List Q8) × Int × Int × Int × Bs × Int) :=
 (Q49.f L O q u D G I J 4).bind fun p =>
 jn (
 if p.1.isNone = true then
 some (.inl (decide (q ≤ p.2.2.2.2.2)))
 else
 some (.inl false)) (fun (U : Bool) =>
 jn (
 if U = true then
 (Q20.f p.2.1 p.1 q u D G I J p.2.2.1 p.2.2.2.1 p.2.2.2.2.1 p.2.2.2.2.2 8).bind fun V =>
 some (.inl V)
 else
 some (.inl p.1)) (fun (X : Option Q5) =>
 some (X, p.2.1, p.2.2.2.2.2, p.2.2.1, p.2.2.2.1, p.2.2.2.2.1, p.2.2.2.2.2)))
theorem Q93.callee : Callee Tryz.prog 97 := ⟨_, Tryz.func97, by kernel_rfl, by kernel_rfl⟩
theorem Q93.spec {Z : List Q8} {a8 : Option Q5} {I : Int} {p : List Bs} {q : List Q1} {u : List Q2} {D : List Q10} {J : List (Bs × Bool)} (a0 : Option Nat) (hr0_0 : RdS Q8.fl.rep R.heap A0_0 Z) (hn0_0 : Z.length = n0_0) (hc0_0 : n0_0 ≤ c0_0) (hn0_3 : p.length = n0_3) (hn0_4 : q.length = n0_4) (hn0_5 : u.length = n0_5) (hn0_6 : D.length = n0_6) {r : (Option Q5) × (List Q8) × Int × Int × Int × Bs × Int} (j : Q93.f Z a8 I p q u D J = some r) :
 Spec Tryz.prog 97 [bp b0] R (pc b0 [.slice A0_0 n0_0 c0_0, optp a0, i6 I, .slice A0_3 n0_3 c0_3, .slice A0_4 n0_4 c0_4, .slice A0_5 n0_5 c0_5, .slice A0_6 n0_6 c0_6, .map (some b0_7)] 114 :: optb (Ow.fl Q5.fl) 58 a0 a8 :: row Fl.bs 9 A0_3 n0_3 c0_3 p :: row Q1.fl 35 A0_4 n0_4 c0_4 q :: grow Q2.ow 37 A0_5 n0_5 c0_5 u :: row Q10.fl 148 A0_6 n0_6 c0_6 D :: mapo Fl.bs.ov Fl.bool.ov b0_7 J :: Fr) (fun v l' => ∃ (a9 : Option Nat) (b4 : Option Addr) (a1 : Nat) (b5 : Nat), v = .tuple #[.agg #[i6 r.2.2.2.1, i6 r.2.2.2.2.1, .string ⟨(r.2.2.2.2.2.1).toArray⟩, i6 r.2.2.2.2.2.2], i6 r.2.2.1] ∧ optb (Ow.fl Q5.fl) 58 a9 r.1 :: pc b0 [.slice b4 a1 b5, optp a9, i6 I, .slice A0_3 n0_3 c0_3, .slice A0_4 n0_4 c0_4, .slice A0_5 n0_5 c0_5, .slice A0_6 n0_6 c0_6, .map (some b0_7)] 114 :: row Fl.bs 9 A0_3 n0_3 c0_3 p :: row Q1.fl 35 A0_4 n0_4 c0_4 q :: grow Q2.ow 37 A0_5 n0_5 c0_5 u :: row Q10.fl 148 A0_6 n0_6 c0_6 D :: mapo Fl.bs.ov Fl.bool.ov b0_7 J :: Fr = l' ∧ RdS Q8.fl.rep R.heap b4 r.2.1 ∧ r.2.1.length = a1 ∧ a1 ≤ b5) := by
 subst hn0_0; subst hn0_3; subst hn0_4; subst hn0_5; subst hn0_6; refine Spec.of Tryz.func97 rfl rfl ?_; unfold Q93.f at j; have j := brun j; refine At.seq (At.region ?_); refine At.alloc rfl rfl rfl (fun a2 => ?_); refine At.run 1 rfl (nT (sR 1 rfl (At.f7 (At.f7 ?_)))); refine At.f7 (At.f7 (At.f7 (At.f7 (At.f7 ?_)))); obtain ⟨G, c9, j⟩ := bbind j; refine At.call rfl Q49.callee rfl rfl rfl (Q49.spec a0 hr0_0 rfl hc0_0 rfl rfl rfl rfl c9) ?_; rintro _ _ ⟨O, U, d9, V, rfl, rfl, b6, rfl, b7⟩; refine At.alloc rfl rfl rfl (fun a3 => ?_); refine At.store rfl rfl rfl rfl .z rfl rfl rfl (.c (.c (.c (.c .n)))) ?_; refine nT (At.seq (At.seq ?_)); refine At.quiet (by kernel_rfl) ?_; refine At.Quiet.run 3 rfl ?_; refine At.Quiet.y (Y.load rfl rfl (.s (.s .z)) rfl rfl rfl) rfl rfl rfl ?_; refine At.Quiet.y (Y.eqOpt (.s .z) rfl rfl rfl rfl) rfl rfl rfl ?_; refine At.Quiet.run 1 rfl ?_; obtain ⟨d0, d1, e0, j⟩ := bjoin j; let a4 : HProp := pc a3 [i6 G.2.2.1, i6 G.2.2.2.1, .string ⟨(G.2.2.2.2.1).toArray⟩, i6 G.2.2.2.2.2] 116; let d2 : HProp := pc b0 [.slice U G.2.1.length V, optp O, i6 I, .slice A0_3 p.length c0_3, .slice A0_4 q.length c0_4, .slice A0_5 u.length c0_5, .slice A0_6 D.length c0_6, .map (some b0_7)] 114; let b8 : HProp := pc a2 [i6 0, i6 0, .string ⟨(([] : Bs)).toArray⟩, i6 0] 116; refine At.Quiet.joinO 9 (X := Bool) (fun L => [(0, bp b0), (2, bp a2), (4, bp a3), (21, .bool L)]) (fun L => a4 :: optb (Ow.fl Q5.fl) 58 O G.1 :: d2 :: row Fl.bs 9 A0_3 p.length c0_3 p :: row Q1.fl 35 A0_4 q.length c0_4 q :: grow Q2.ow 37 A0_5 u.length c0_5 u :: row Q10.fl 148 A0_6 D.length c0_6 D :: mapo Fl.bs.ov Fl.bool.ov b0_7 J :: b8 :: Fr) (fun L => d0 (.inl L) = some r) ?_ (fun b9 => ?_)
 ·rintro L j; have j := (d1 _).symm.trans j
  ·refine At.Quiet.nil (At.thn ?_); obtain ⟨d3, d4, e1, j⟩ := bjoin j; refine At.join (X := (Option Q5) × (Option Nat)) (fun s_ => [(2, bp a2), (4, bp a3)]) (fun s_ => optb (Ow.fl Q5.fl) 58 s_.2 s_.1 :: pc b0 [.slice U G.2.1.length V, optp s_.2, i6 I, .slice A0_3 p.length c0_3, .slice A0_4 q.length c0_4, .slice A0_5 u.length c0_5, .slice A0_6 D.length c0_6, .map (some b0_7)] 114 :: row Fl.bs 9 A0_3 p.length c0_3 p :: row Q1.fl 35 A0_4 q.length c0_4 q :: grow Q2.ow 37 A0_5 u.length c0_5 u :: row Q10.fl 148 A0_6 D.length c0_6 D :: mapo Fl.bs.ov Fl.bool.ov b0_7 J :: a4 :: b8 :: Fr) (fun s_ => d3 (.inl s_.1) = some r) ?_ (fun c8 => ?_)
   ·rintro ⟨d5, a5⟩ j; have j := (d4 _).symm.trans j
    ·refine At.seq ?_; refine At.held [optb (Ow.fl Q5.fl) 58 a5 d5, pc b0 [.slice U G.2.1.length V, optp a5, i6 I, .slice A0_3 p.length c0_3, .slice A0_4 q.length c0_4, .slice A0_5 u.length c0_5, .slice A0_6 D.length c0_6, .map (some b0_7)] 114, row Fl.bs 9 A0_3 p.length c0_3 p, row Q1.fl 35 A0_4 q.length c0_4 q, grow Q2.ow 37 A0_5 u.length c0_5 u, row Q10.fl 148 A0_6 D.length c0_6 D, mapo Fl.bs.ov Fl.bool.ov b0_7 J, a4] 5 rfl ?_; refine At.H.tw 0 rfl (Y.load rfl rfl (.s (.s (.s (.s (.s (.s (.s .z))))))) rfl rfl rfl) rfl rfl rfl (.c .z (.c .z (.c .z (.c .z (.c .z (.c .z (.c .z (.c .z .n)))))))) ?_; refine At.H.pw 1 rfl rfl rfl rfl rfl (.c .z (.c .z (.c .z (.c .z (.c .z (.c .z (.c .z (.c .z .n)))))))) ?_; refine At.H.tw 2 rfl (Y.load rfl rfl (.s (.s (.s (.s (.s (.s (.s .z))))))) rfl rfl rfl) rfl rfl rfl (.c .z (.c .z (.c .z (.c .z (.c .z (.c .z (.c .z (.c .z .n)))))))) ?_; refine At.H.al [3] (Q4 ?_ Q6)
     ··refine At.HO.op rfl ?_
       refine At.store rfl rfl rfl rfl (.s (.s (.s (.s (.s (.s (.s (.s .z)))))))) rfl rfl rfl (.c (.c (.c (.c .n)))) ?_; refine At.HO.back (.c (.s .z) (.c (.s .z) (.c (.s .z) (.c (.s .z) (.c (.s .z) (.c (.s .z) (.c (.s .z) (.c (.s .z) .n)))))))) ?_; refine At.H.pw 4 rfl rfl rfl rfl rfl (.c (.s .z) (.c (.s .z) (.c (.s .z) (.c (.s .z) (.c (.s .z) (.c (.s .z) (.c (.s .z) (.c (.s .z) .n)))))))) ?_; refine At.H.done (by kernel_rfl) ?_; refine At.thn (At.ret ?_); refine At.resM (.inl rfl) rfl (RV.cell rfl rfl .z rfl rfl rfl (RV.tmp rfl RV.nil)) ?_; refine At.drop .z (At.drop (.s (.s (.s (.s (.s (.s (.s .z))))))) ?_); cases bret j; exact fun a w e hs => ⟨_, ⟨a5, U, G.2.1.length, V, rfl, rfl, b6, rfl, b7⟩, hs⟩
   ··rcases bite j with ⟨a6, j⟩ | ⟨a6, j⟩
     ··refine At.condT rfl a6 ?_
       refine At.region (At.run 1 rfl (At.y (Y.load rfl rfl .z rfl rfl rfl) rfl rfl rfl (At.f7 (At.f7 (At.f7 (At.f7 (At.f7 ?_))))))); refine At.f6 (At.f7 ?_); obtain ⟨d6, d7, j⟩ := bbind j; refine At.call rfl Q20.callee rfl rfl rfl (Q20.spec O b6 rfl b7 rfl rfl rfl rfl d7) ?_; rintro _ _ ⟨d8, rfl, rfl⟩; refine nT ?_; exact fun a w e hs => c8 (d6, d8) j a w (e.sub ⟨rfl, rfl, trivial⟩) hs
     ··refine At.condF rfl (bn a6) ?_
       refine At.skip (At.thn (At.f8 (At.f1 (At.f8 (At.f8 (At.f8 (At.f8 ?_))))))); refine At.f8 (At.f8 (At.f8 ?_)); exact fun a w e hs => c8 (G.1, O) j a w (e.sub ⟨rfl, rfl, trivial⟩) hs
 ··rcases bite j with ⟨a7, j⟩ | ⟨a7, j⟩
   ··refine At.Quiet.know (t := 12) rfl a7 ?_
     refine At.Quiet.run 1 rfl ?_; refine At.Quiet.y (Y.load rfl rfl .z rfl rfl rfl) rfl rfl rfl ?_; refine At.Quiet.run 4 rfl ?_; refine At.Quiet.y (Y.load rfl rfl (.s (.s .z)) rfl rfl rfl) rfl rfl rfl ?_; refine At.Quiet.run 2 rfl ?_; exact At.Quiet.of (b9 (decide (I ≤ G.2.2.2.2.2)) j) ⟨rfl, rfl, rfl, rfl, trivial⟩
   ··refine At.Quiet.know (t := 12) rfl (bn a7) ?_
     refine At.Quiet.run 9 rfl ?_; exact At.Quiet.of (b9 false j) ⟨rfl, rfl, rfl, rfl, trivial⟩

noncomputable def Q102.f (L : List Q8) (O : Option Q5) (q : Int) (u : List Bs) (D : List Q1) (G : List Q2) (I : List Q10) (J : List (Bs × Bool)) : Option ((Option Q5) × (List Q8) × Int × Int × Bs × Int) :=
 (Q49.f L O q u D G I J 2).bind fun p =>
 jn (
 if p.1.isNone = true then
 (Q79.f p.2.2.2.2.1).bind fun U =>
 some (.inl (!U))
 else
 some (.inl false)) (fun (V : Bool) =>
 jn (
 if V = true then
 (Q20.f p.2.1 p.1 q u D G I J p.2.2.1 p.2.2.2.1 p.2.2.2.2.1 p.2.2.2.2.2 7).bind fun X =>
 some (.inl X)
 else
 some (.inl p.1)) (fun (Z : Option Q5) =>
 some (Z, p.2.1, p.2.2.1, p.2.2.2.1, p.2.2.2.2.1, p.2.2.2.2.2)))
theorem Q102.callee : Callee Tryz.prog 98 := ⟨_, Tryz.func98, by kernel_rfl, by kernel_rfl⟩
theorem Q102.spec {U : List Q8} {a6 : Option Q5} {I : Int} {p : List Bs} {q : List Q1} {u : List Q2} {D : List Q10} {J : List (Bs × Bool)} (V : Option Nat) (hr0_0 : RdS Q8.fl.rep R.heap A0_0 U) (hn0_0 : U.length = n0_0) (hc0_0 : n0_0 ≤ c0_0) (hn0_3 : p.length = n0_3) (hn0_4 : q.length = n0_4) (hn0_5 : u.length = n0_5) (hn0_6 : D.length = n0_6) {r : (Option Q5) × (List Q8) × Int × Int × Bs × Int} (j : Q102.f U a6 I p q u D J = some r) :
 Spec Tryz.prog 98 [bp b0] R (pc b0 [.slice A0_0 n0_0 c0_0, optp V, i6 I, .slice A0_3 n0_3 c0_3, .slice A0_4 n0_4 c0_4, .slice A0_5 n0_5 c0_5, .slice A0_6 n0_6 c0_6, .map (some b0_7)] 114 :: optb (Ow.fl Q5.fl) 58 V a6 :: row Fl.bs 9 A0_3 n0_3 c0_3 p :: row Q1.fl 35 A0_4 n0_4 c0_4 q :: grow Q2.ow 37 A0_5 n0_5 c0_5 u :: row Q10.fl 148 A0_6 n0_6 c0_6 D :: mapo Fl.bs.ov Fl.bool.ov b0_7 J :: Fr) (fun v l' => ∃ (a7 : Option Nat) (a8 : Option Addr) (Z : Nat) (a9 : Nat), v = .agg #[i6 r.2.2.1, i6 r.2.2.2.1, .string ⟨(r.2.2.2.2.1).toArray⟩, i6 r.2.2.2.2.2] ∧ optb (Ow.fl Q5.fl) 58 a7 r.1 :: pc b0 [.slice a8 Z a9, optp a7, i6 I, .slice A0_3 n0_3 c0_3, .slice A0_4 n0_4 c0_4, .slice A0_5 n0_5 c0_5, .slice A0_6 n0_6 c0_6, .map (some b0_7)] 114 :: row Fl.bs 9 A0_3 n0_3 c0_3 p :: row Q1.fl 35 A0_4 n0_4 c0_4 q :: grow Q2.ow 37 A0_5 n0_5 c0_5 u :: row Q10.fl 148 A0_6 n0_6 c0_6 D :: mapo Fl.bs.ov Fl.bool.ov b0_7 J :: Fr = l' ∧ RdS Q8.fl.rep R.heap a8 r.2.1 ∧ r.2.1.length = Z ∧ Z ≤ a9) := by
 subst hn0_0; subst hn0_3; subst hn0_4; subst hn0_5; subst hn0_6; refine Spec.of Tryz.func98 rfl rfl ?_; unfold Q102.f at j; have j := brun j; refine At.seq (At.region ?_); refine At.alloc rfl rfl rfl (fun a0 => ?_); refine nT (sR 1 rfl (At.f7 (At.f7 (At.f7 ?_)))); refine At.f7 (At.f7 (At.f7 (At.f7 ?_))); obtain ⟨G, c8, j⟩ := bbind j; refine At.call rfl Q49.callee rfl rfl rfl (Q49.spec V hr0_0 rfl hc0_0 rfl rfl rfl rfl c8) ?_; rintro _ _ ⟨O, a1, e0, a2, rfl, rfl, b4, rfl, b5⟩; refine At.alloc rfl rfl rfl (fun a3 => ?_); refine At.store rfl rfl rfl rfl .z rfl rfl rfl (.c (.c (.c (.c .n)))) ?_; refine nT (At.seq (sR 3 rfl (At.y (Y.load rfl rfl (.s (.s .z)) rfl rfl rfl) rfl rfl rfl ?_))); refine At.y (Y.eqOpt (.s .z) rfl rfl rfl rfl) rfl rfl rfl ?_; refine At.run 1 rfl ?_; obtain ⟨c9, d0, e1, j⟩ := bjoin j; let b6 : HProp := pc a3 [i6 G.2.2.1, i6 G.2.2.2.1, .string ⟨(G.2.2.2.2.1).toArray⟩, i6 G.2.2.2.2.2] 116; let d1 : HProp := pc b0 [.slice a1 G.2.1.length a2, optp O, i6 I, .slice A0_3 p.length c0_3, .slice A0_4 q.length c0_4, .slice A0_5 u.length c0_5, .slice A0_6 D.length c0_6, .map (some b0_7)] 114; let b7 : HProp := pc a0 [i6 0, i6 0, .string ⟨(([] : Bs)).toArray⟩, i6 0] 116; refine At.joinO 5 (X := Bool) (fun L => [(0, bp b0), (2, bp a0), (3, bp a3), (16, .bool L)]) (fun L => b6 :: optb (Ow.fl Q5.fl) 58 O G.1 :: d1 :: row Fl.bs 9 A0_3 p.length c0_3 p :: row Q1.fl 35 A0_4 q.length c0_4 q :: grow Q2.ow 37 A0_5 u.length c0_5 u :: row Q10.fl 148 A0_6 D.length c0_6 D :: mapo Fl.bs.ov Fl.bool.ov b0_7 J :: b7 :: Fr) (fun L => c9 (.inl L) = some r) ?_ (fun b8 => ?_)
 ·rintro L j; have j := (d0 _).symm.trans j
  ·refine nT ?_; obtain ⟨d2, d3, e2, j⟩ := bjoin j; refine At.join (X := (Option Q5) × (Option Nat)) (fun s_ => [(2, bp a0), (3, bp a3)]) (fun s_ => optb (Ow.fl Q5.fl) 58 s_.2 s_.1 :: pc b0 [.slice a1 G.2.1.length a2, optp s_.2, i6 I, .slice A0_3 p.length c0_3, .slice A0_4 q.length c0_4, .slice A0_5 u.length c0_5, .slice A0_6 D.length c0_6, .map (some b0_7)] 114 :: row Fl.bs 9 A0_3 p.length c0_3 p :: row Q1.fl 35 A0_4 q.length c0_4 q :: grow Q2.ow 37 A0_5 u.length c0_5 u :: row Q10.fl 148 A0_6 D.length c0_6 D :: mapo Fl.bs.ov Fl.bool.ov b0_7 J :: b6 :: b7 :: Fr) (fun s_ => d2 (.inl s_.1) = some r) ?_ (fun b9 => ?_)
   ·rintro ⟨e3, d4⟩ j; have j := (d3 _).symm.trans j
    ·refine At.seq (At.region ?_); refine At.y (Y.load rfl rfl (.s (.s (.s (.s (.s (.s (.s .z))))))) rfl rfl rfl) rfl rfl rfl ?_; refine At.store rfl rfl rfl rfl (.s (.s (.s (.s (.s (.s (.s (.s .z)))))))) rfl rfl rfl (.c (.c (.c (.c .n)))) ?_; refine nT (At.ret ?_); refine At.resM (.inl rfl) rfl (RV.cell rfl rfl .z rfl rfl rfl RV.nil) ?_; refine At.drop .z (At.drop (.s (.s (.s (.s (.s (.s (.s .z))))))) ?_); cases bret j; exact fun a w e hs => ⟨_, ⟨d4, a1, G.2.1.length, a2, rfl, rfl, b4, rfl, b5⟩, hs⟩
   ··rcases bite j with ⟨a4, j⟩ | ⟨a4, j⟩
     ··refine At.condT rfl a4 ?_
       refine At.region (At.run 1 rfl (At.y (Y.load rfl rfl .z rfl rfl rfl) rfl rfl rfl (At.f7 (At.f7 (At.f7 (At.f7 (At.f7 ?_))))))); refine At.f6 (At.f7 ?_); obtain ⟨d5, d6, j⟩ := bbind j; refine At.call rfl Q20.callee rfl rfl rfl (Q20.spec O b4 rfl b5 rfl rfl rfl rfl d6) ?_; rintro _ _ ⟨d7, rfl, rfl⟩; refine nT ?_; exact fun a w e hs => b9 (d5, d7) j a w (e.sub ⟨rfl, rfl, trivial⟩) hs
     ··refine At.condF rfl (bn a4) ?_
       refine At.skip (At.thn (At.f8 (At.f1 (At.f8 (At.f8 (At.f8 (At.f8 ?_))))))); refine At.f8 (At.f8 (At.f8 ?_)); exact fun a w e hs => b9 (G.1, O) j a w (e.sub ⟨rfl, rfl, trivial⟩) hs
 ··rcases bite j with ⟨a5, j⟩ | ⟨a5, j⟩
   ··refine At.know (t := 11) rfl a5 ?_
     refine At.run 1 rfl (At.y (Y.load rfl rfl .z rfl rfl rfl) rfl rfl rfl ?_); obtain ⟨d8, d9, j⟩ := bbind j; refine At.call rfl Q79.callee rfl rfl rfl (Q79.spec d9) ?_; rintro _ _ ⟨rfl, rfl⟩; refine At.run 2 rfl ?_; exact At.of (b8 (!d8) j) ⟨rfl, rfl, rfl, rfl, trivial⟩
   ··refine At.know (t := 11) rfl (bn a5) ?_
     refine At.run 5 rfl ?_; exact At.of (b8 false j) ⟨rfl, rfl, rfl, rfl, trivial⟩

noncomputable def Q77.l0b (a0 : List Q10) (q : Int) (u : Bs) (D p : Int) : Option ((Int) ⊕ ((Unit) ⊕ (Int))) :=
 if p < (a0.length : Int) then
 if (0 : Int) ≤ p ∧ p < (a0.length : Int) then
 if (decide (q = (gt a0 p).from_) && (bseq u ((gt a0 p).action) && (decide (D = (gt a0 p).to) && true))) = true then
 upL (some p)
 else
 nx (IntKind.i64.wrap (p + 1))
 else none
 else
 dn (.inl ())
noncomputable def Q77.l0 (a0 : List Q10) (p : Int) (q : Bs) (u D : Int) : Option ((Unit) ⊕ (Int)) := iter (fun t_ : Int => Q77.l0b a0 p q u t_) D
noncomputable def Q77.f (a0 : List Q10) (p : Int) (q : Bs) (u : Int) : Option Int :=
 jn (Q77.l0 a0 p q u 0) (fun (_ : Unit) =>
 some (-1))
theorem Q77.callee : Callee Tryz.prog 144 := ⟨_, Tryz.func144, by kernel_rfl, by kernel_rfl⟩
theorem Q77.spec {a0 : List Q10} {u D : Int} {G : Bs} (hr0 : RdS Q10.fl.rep R.heap A0 a0) (hn0 : a0.length = n0) (hc0 : n0 ≤ c0) {r : Int} (j : Q77.f a0 u G D = some r) :
 Spec Tryz.prog 144 [.slice A0 n0 c0, .agg #[i6 u, .string ⟨(G).toArray⟩, i6 D]] R (Fr) (fun v l' => v = i6 r ∧ Fr = l') := by
 subst hn0; refine Spec.of Tryz.func144 rfl rfl ?_; unfold Q77.f at j; have j := brun j; refine At.seq (At.region ?_); refine At.box rfl rfl (cs := [i6 u, .string ⟨(G).toArray⟩, i6 D]) rfl rfl (fun Z => ?_); refine At.run 1 rfl (nT (At.seq (sR 3 rfl (At.nil ?_)))); refine At.thn ?_; refine At.block ?_; obtain ⟨a4, a5, a6, j⟩ := bjoin j; obtain ⟨a1, L, a2⟩ := bsome j; clear j; unfold Q77.l0 at L; obtain ⟨O, I⟩ := Q16.1 L; clear L; let a3 : HProp := pc Z [i6 u, .string ⟨(G).toArray⟩, i6 D] 148; refine At.loopJ (X := Int) (Y := Unit) (e0 := 0) (fun p => [(0, .slice A0 a0.length c0), (3, bp Z), (7, i6 (a0.length : Int)), (8, i6 p)]) (fun p => a3 :: Fr) (fun m_ => fun p => iterN (fun t_ : Int => Q77.l0b a0 u G D t_) m_ p = some a1) O 0 I (fun _ => []) (fun _ => a3 :: Fr) (fun _ => a4 (.inl ()) = some r) (fun a w e hs => ⟨e.sub ⟨rfl, rfl, rfl, rfl, trivial⟩, (by exact hs)⟩) ?_ (fun a7 => ?_)
 ·rintro _ j; have j := (a5 _).symm.trans j
  ·refine At.ibx ?_; refine At.thn (sR 1 rfl (nT (At.ret (At.drop .z ?_)))); cases bret j; exact At.res (.inl rfl) rfl rfl ⟨rfl, rfl⟩
 ·clear I O; rintro O p I; obtain ⟨a8, f_, a9, hf_, j⟩ := bit I; clear I; have j : (Q77.l0b a0 u G D p).bind _ = some a1 := j; unfold Q77.l0b at j
  ·refine sR 1 rfl (nT (At.seq ?_)); rcases bite j with ⟨U, j⟩ | ⟨U, j⟩
   ··refine At.condT rfl (decide_eq_true U) ?_
     refine At.skip (At.thn (At.seq ?_)); refine At.block ?_; refine sR 2 rfl (nT (At.seq ?_)); refine At.quiet (by kernel_rfl) ?_; refine At.Quiet.y (Y.load rfl rfl .z rfl rfl rfl) rfl rfl rfl ?_; refine At.Quiet.run 2 rfl ?_; obtain ⟨J, j⟩ := bnone j; refine At.Quiet.y (Y.ixRd hr0 rfl rfl rfl rfl rfl rfl rfl J.1 J.2) rfl rfl rfl ?_; refine At.Quiet.y (Y.ldFl hr0 rfl (q := 0) rfl rfl J.1 J.2 rfl rfl rfl) rfl rfl rfl ?_; refine At.Quiet.y (Y.eqSt (xs := [i6 u, .string ⟨(G).toArray⟩, i6 D]) (ys := [i6 ((gt a0 p).from_), .string ⟨((gt a0 p).action).toArray⟩, i6 ((gt a0 p).to)]) rfl rfl rfl rfl (by kernel_rfl) (by kernel_rfl) (by kernel_rfl) rfl) rfl rfl rfl ?_; refine At.Quiet.nil (At.thn ?_); rcases bite j with ⟨V, j⟩ | ⟨V, j⟩
     ··refine At.condT rfl V ?_
       refine sR 2 rfl (nT (At.ret ?_)); refine At.ibr ?_; refine At.thr ?_; have j := bupL a6 a2 j; refine At.thr ?_; refine At.ibr ?_; refine At.thr (At.drop .z ?_); cases bret j; exact At.res (.inl rfl) rfl rfl ⟨rfl, rfl⟩
     ··refine At.condF rfl (bn V) ?_
       refine At.skip ?_; refine At.ibn ?_; refine At.thn (At.region (At.run 2 rfl (At.nil ?_))); have j := bnx hf_ j; exact fun a w e hs => ⟨a8, (IntKind.i64.wrap (p + 1)), a9, j, e.sub ⟨rfl, rfl, rfl, rfl, trivial⟩, hs⟩
   ··refine At.condF rfl (decide_eq_false U) ?_
     refine At.exit ?_; refine At.the ?_; refine At.the ?_; exact fun a w e hs => a7 () (bdn j a2) a w (e.sub trivial) hs

noncomputable def Q149.f (a0 : List Q10) (p : Int) (q : Bs) (u : Int) : Option Bool :=
 (Q77.f a0 p q u).bind fun D =>
 some (decide (0 ≤ D))
theorem Q149.callee : Callee Tryz.prog 99 := ⟨_, Tryz.func99, by kernel_rfl, by kernel_rfl⟩
theorem Q149.spec {a0 : List Q10} {p q : Int} {u : Bs} (hr0 : RdS Q10.fl.rep R.heap A0 a0) (hn0 : a0.length = n0) (hc0 : n0 ≤ c0) {r : Bool} (j : Q149.f a0 p u q = some r) :
 Spec Tryz.prog 99 [.slice A0 n0 c0, .agg #[i6 p, .string ⟨(u).toArray⟩, i6 q]] R (Fr) (fun v l' => v = .bool r ∧ Fr = l') := by
 subst hn0; refine Spec.of Tryz.func99 rfl rfl ?_; unfold Q149.f at j; have j := brun j; refine At.seq (At.region ?_); refine At.box rfl rfl (cs := [i6 p, .string ⟨(u).toArray⟩, i6 q]) rfl rfl (fun G => ?_); refine At.run 1 rfl (nT (sR 1 rfl (At.y (Y.load rfl rfl .z rfl rfl rfl) rfl rfl rfl ?_))); obtain ⟨I, D, j⟩ := bbind j; refine At.call rfl Q77.callee rfl rfl rfl (Q77.spec hr0 rfl hc0 D) ?_; rintro _ _ ⟨rfl, rfl⟩; refine At.run 2 rfl (nT (At.ret (At.drop .z ?_))); cases bret j; exact At.res (.inl rfl) rfl rfl ⟨rfl, rfl⟩

noncomputable def Q140.f (U : List Q8) (V : Option Q5) (G : Int) (I : List Bs) (J : List Q1) (L : List Q2) (u : List Q10) (D : List (Bs × Bool)) (X : Int) (Z : Int) (a0 : Bs) (a1 : Int) : Option ((List Q10) × (List (Bs × Bool)) × (Option Q5) × (List Q8)) :=
 jn (
 if 200 ≤ (u.length : Int) then
 (Q20.f U V G I J L u D X Z a0 a1 10).bind fun a2 =>
 some (.inl a2)
 else
 some (.inl V)) (fun (a3 : Option Q5) =>
 (Q93.f U a3 G I J L u D).bind fun O =>
 (Q102.f O.2.1 O.1 G I J L u D).bind fun p =>
 jn (
 if ((mget D p.2.2.2.2.1).getD false) = true then
 some (.inl false)
 else
 some (.inl (decide (8 ≤ (D.length : Int))))) (fun (a4 : Bool) =>
 jn (
 if a4 = true then
 (Q20.f p.2.1 p.1 G I J L u D p.2.2.1 p.2.2.2.1 p.2.2.2.2.1 p.2.2.2.2.2 10).bind fun a5 =>
 some (.inl a5)
 else
 some (.inl p.1)) (fun (a6 : Option Q5) =>
 (Q93.f p.2.1 a6 G I J L u D).bind fun q =>
 jn (
 if q.1.isNone = true then
 (Q149.f u O.2.2.1 p.2.2.2.2.1 q.2.2.1).bind fun a7 =>
 some (.inl a7)
 else
 some (.inl false)) (fun (a8 : Bool) =>
 jn (
 if a8 = true then
 (Q20.f q.2.1 q.1 G I J L u D q.2.2.2.1 q.2.2.2.2.1 q.2.2.2.2.2.1 q.2.2.2.2.2.2 9).bind fun a9 =>
 some (.inl a9)
 else
 some (.inl q.1)) (fun (b4 : Option Q5) =>
 (Q109.f q.2.1 b4 G I J L u D).bind fun b5 =>
 if (u.length + ([(⟨O.2.2.1, p.2.2.2.2.1, q.2.2.1⟩ : Q10)] : List Q10).length) * 32 ≤ 140737488355328 then
 some ((u ++ ([(⟨O.2.2.1, p.2.2.2.2.1, q.2.2.1⟩ : Q10)] : List Q10)), (mset D p.2.2.2.2.1 true), b5, q.2.1)
 else none)))))
theorem Q140.callee : Callee Tryz.prog 73 := ⟨_, Tryz.func73, by kernel_rfl, by kernel_rfl⟩
theorem Q140.spec {a3 : List Q8} {c8 : Option Q5} {O a4 a5 a6 : Int} {p : List Bs} {q : List Q1} {u : List Q2} {G : List Q10} {L : List (Bs × Bool)} {a7 : Bs} (a8 : Option Nat) (hr0_0 : RdS Q8.fl.rep R.heap A0_0 a3) (hn0_0 : a3.length = n0_0) (hc0_0 : n0_0 ≤ c0_0) (hn0_3 : p.length = n0_3) (hn0_4 : q.length = n0_4) (hn0_5 : u.length = n0_5) (hn0_6 : G.length = n0_6) {r : (List Q10) × (List (Bs × Bool)) × (Option Q5) × (List Q8)} (j : Q140.f a3 c8 O p q u G L a4 a5 a7 a6 = some r) :
 Spec Tryz.prog 73 [bp b0, .agg #[i6 a4, i6 a5, .string ⟨(a7).toArray⟩, i6 a6]] R (pc b0 [.slice A0_0 n0_0 c0_0, optp a8, i6 O, .slice A0_3 n0_3 c0_3, .slice A0_4 n0_4 c0_4, .slice A0_5 n0_5 c0_5, .slice A0_6 n0_6 c0_6, .map (some b0_7)] 114 :: optb (Ow.fl Q5.fl) 58 a8 c8 :: row Fl.bs 9 A0_3 n0_3 c0_3 p :: row Q1.fl 35 A0_4 n0_4 c0_4 q :: grow Q2.ow 37 A0_5 n0_5 c0_5 u :: row Q10.fl 148 A0_6 n0_6 c0_6 G :: mapo Fl.bs.ov Fl.bool.ov b0_7 L :: Fr) (fun v l' => ∃ (c9 : Nat) (d9 : Option Addr) (e0 : Nat) (e1 : Option Nat) (e2 : Option Addr) (d0 : Nat) (e3 : Nat), v = .tuple #[] ∧ optb (Ow.fl Q5.fl) 58 e1 r.2.2.1 :: pc b0 [.slice e2 d0 e3, optp e1, i6 O, .slice A0_3 n0_3 c0_3, .slice A0_4 n0_4 c0_4, .slice A0_5 n0_5 c0_5, .slice d9 c9 e0, .map (some b0_7)] 114 :: row Fl.bs 9 A0_3 n0_3 c0_3 p :: row Q1.fl 35 A0_4 n0_4 c0_4 q :: grow Q2.ow 37 A0_5 n0_5 c0_5 u :: row Q10.fl 148 d9 c9 e0 r.1 :: mapo Fl.bs.ov Fl.bool.ov b0_7 r.2.1 :: Fr = l' ∧ r.1.length = c9 ∧ RdS Q8.fl.rep R.heap e2 r.2.2.2 ∧ r.2.2.2.length = d0 ∧ d0 ≤ e3) := by
 subst hn0_0; subst hn0_3; subst hn0_4; subst hn0_5; subst hn0_6; refine Spec.of Tryz.func73 rfl rfl ?_; unfold Q140.f at j; have j := brun j; refine At.seq (At.region ?_); refine At.box rfl rfl (cs := [i6 a4, i6 a5, .string ⟨(a7).toArray⟩, i6 a6]) rfl rfl (fun g4 => ?_); refine nT (At.seq (sR 3 rfl (At.y (Y.load rfl rfl (.s .z) rfl rfl rfl) rfl rfl rfl (At.run 2 rfl ?_)))); refine nT ?_; obtain ⟨g5, g6, n9, j⟩ := bjoin j; let U : HProp := pc g4 [i6 a4, i6 a5, .string ⟨(a7).toArray⟩, i6 a6] 116; refine At.join (X := (Option Q5) × (Option Nat)) (fun s_ => [(0, bp b0)]) (fun s_ => optb (Ow.fl Q5.fl) 58 s_.2 s_.1 :: pc b0 [.slice A0_0 a3.length c0_0, optp s_.2, i6 O, .slice A0_3 p.length c0_3, .slice A0_4 q.length c0_4, .slice A0_5 u.length c0_5, .slice A0_6 G.length c0_6, .map (some b0_7)] 114 :: row Fl.bs 9 A0_3 p.length c0_3 p :: row Q1.fl 35 A0_4 q.length c0_4 q :: grow Q2.ow 37 A0_5 u.length c0_5 u :: row Q10.fl 148 A0_6 G.length c0_6 G :: mapo Fl.bs.ov Fl.bool.ov b0_7 L :: U :: Fr) (fun s_ => g5 (.inl s_.1) = some r) ?_ (fun e4 => ?_)
 ·rintro ⟨o0, g7⟩ j; have j := (g6 _).symm.trans j
  ·refine sR 1 rfl (At.f6 (At.f6 (At.f6 (At.f6 (At.f6 ?_))))); refine At.f5 (At.f6 ?_); obtain ⟨J, g8, j⟩ := bbind j; refine At.call rfl Q93.callee rfl rfl rfl (Q93.spec g7 hr0_0 rfl hc0_0 rfl rfl rfl rfl g8) ?_; rintro _ _ ⟨g9, o7, o8, o9, rfl, rfl, h0, rfl, h1⟩; refine At.run 3 rfl ?_; refine At.alloc rfl rfl rfl (fun h2 => ?_); refine At.store rfl rfl rfl rfl .z rfl rfl rfl (.c (.c (.c (.c .n)))) ?_; refine At.run 1 rfl (nT (sR 1 rfl (At.f7 (At.f7 ?_)))); refine At.f7 (At.f7 (At.f7 (At.f6 (At.f7 ?_)))); obtain ⟨D, h3, j⟩ := bbind j; refine At.call rfl Q102.callee rfl rfl rfl (Q102.spec g9 h0 rfl h1 rfl rfl rfl rfl h3) ?_; rintro _ _ ⟨a9, e5, p0, e6, rfl, rfl, e7, rfl, e8⟩; refine At.alloc rfl rfl rfl (fun a0 => ?_); refine At.store rfl rfl rfl rfl .z rfl rfl rfl (.c (.c (.c (.c .n)))) ?_; refine nT (At.seq (At.seq ?_)); refine At.quiet (by kernel_rfl) ?_; refine At.Quiet.run 3 rfl ?_; refine At.Quiet.y (Y.load rfl rfl (.s (.s .z)) rfl rfl rfl) rfl rfl rfl ?_; refine At.Quiet.run 1 rfl ?_; refine At.Quiet.y (Y.load rfl rfl .z rfl rfl rfl) rfl rfl rfl ?_; refine At.Quiet.y (Y.lookup (k := D.2.2.2.2.1) (z := false) (.s (.s (.s (.s (.s (.s (.s .z))))))) rfl rfl (KeyOk.str rfl rfl) (by kernel_rfl) rfl rfl rfl) rfl rfl rfl ?_; refine At.Quiet.run 2 rfl ?_; obtain ⟨h4, h5, p1, j⟩ := bjoin j; let V : HProp := pc a0 [i6 D.2.2.1, i6 D.2.2.2.1, .string ⟨(D.2.2.2.2.1).toArray⟩, i6 D.2.2.2.2.2] 116; let h6 : HProp := pc b0 [.slice e5 D.2.1.length e6, optp a9, i6 O, .slice A0_3 p.length c0_3, .slice A0_4 q.length c0_4, .slice A0_5 u.length c0_5, .slice A0_6 G.length c0_6, .map (some b0_7)] 114; let Z : HProp := pc h2 [i6 J.2.2.2.1, i6 J.2.2.2.2.1, .string ⟨(J.2.2.2.2.2.1).toArray⟩, i6 J.2.2.2.2.2.2] 116; refine At.Quiet.joinO 7 (X := Bool) (fun a1 => [(0, bp b0), (5, i6 J.2.2.1), (6, bp a0), (41, .bool a1)]) (fun a1 => V :: optb (Ow.fl Q5.fl) 58 a9 D.1 :: h6 :: row Fl.bs 9 A0_3 p.length c0_3 p :: row Q1.fl 35 A0_4 q.length c0_4 q :: grow Q2.ow 37 A0_5 u.length c0_5 u :: row Q10.fl 148 A0_6 G.length c0_6 G :: mapo Fl.bs.ov Fl.bool.ov b0_7 L :: Z :: U :: Fr) (fun a1 => h4 (.inl a1) = some r) ?_ (fun e9 => ?_)
   ·rintro a1 j; have j := (h5 _).symm.trans j
    ·refine At.Quiet.nil (At.thn ?_); obtain ⟨h7, h8, p2, j⟩ := bjoin j; refine At.join (X := (Option Q5) × (Option Nat)) (fun s_ => [(0, bp b0), (5, i6 J.2.2.1), (6, bp a0)]) (fun s_ => optb (Ow.fl Q5.fl) 58 s_.2 s_.1 :: pc b0 [.slice e5 D.2.1.length e6, optp s_.2, i6 O, .slice A0_3 p.length c0_3, .slice A0_4 q.length c0_4, .slice A0_5 u.length c0_5, .slice A0_6 G.length c0_6, .map (some b0_7)] 114 :: row Fl.bs 9 A0_3 p.length c0_3 p :: row Q1.fl 35 A0_4 q.length c0_4 q :: grow Q2.ow 37 A0_5 u.length c0_5 u :: row Q10.fl 148 A0_6 G.length c0_6 G :: mapo Fl.bs.ov Fl.bool.ov b0_7 L :: V :: Z :: U :: Fr) (fun s_ => h7 (.inl s_.1) = some r) ?_ (fun f0 => ?_)
     ·rintro ⟨p3, h9⟩ j; have j := (h8 _).symm.trans j
      ·refine sR 1 rfl (At.f6 (At.f6 (At.f6 (At.f6 (At.f6 ?_))))); refine At.f5 (At.f6 ?_); obtain ⟨I, k0, j⟩ := bbind j; refine At.call rfl Q93.callee rfl rfl rfl (Q93.spec h9 e7 rfl e8 rfl rfl rfl rfl k0) ?_; rintro _ _ ⟨b4, b5, p4, b6, rfl, rfl, d1, rfl, d2⟩; refine At.run 3 rfl ?_; refine At.alloc rfl rfl rfl (fun f3 => ?_); refine At.store rfl rfl rfl rfl .z rfl rfl rfl (.c (.c (.c (.c .n)))) ?_; refine At.run 1 rfl (nT (sR 2 rfl ?_)); refine At.y (Y.load rfl rfl (.s (.s (.s (.s (.s (.s (.s (.s .z)))))))) rfl rfl rfl) rfl rfl rfl ?_; refine At.run 1 rfl ?_; refine At.y (Y.build (is := [0, 1, 2]) (xo := [.tmp 50, .tmp 52, .tmp 53]) (vs := [i6 J.2.2.1, .string ⟨(D.2.2.2.2.1).toArray⟩, i6 I.2.2.1]) (cs := [i6 J.2.2.1, .string ⟨(D.2.2.2.2.1).toArray⟩, i6 I.2.2.1]) rfl rfl rfl rfl rfl rfl) rfl rfl rfl ?_; refine At.alloc rfl rfl rfl (fun d3 => ?_); refine At.store rfl rfl rfl rfl .z rfl rfl rfl (.c (.c (.c .n))) ?_; refine nT (At.seq (At.seq ?_)); refine At.freeze (.s (.s (.s (.s (.s (.s (.s .z))))))) fun p5 k1 k2 k3 p6 k4 => ?_; refine At.quiet (by kernel_rfl) ?_; refine At.Quiet.run 3 rfl ?_; refine At.Quiet.y (Y.load rfl rfl (.s (.s (.s .z))) rfl rfl rfl) rfl rfl rfl ?_; refine At.Quiet.y (Y.eqOpt (.s (.s .z)) rfl rfl rfl rfl) rfl rfl rfl ?_; refine At.Quiet.run 1 rfl ?_; obtain ⟨k5, k6, p7, j⟩ := bjoin j; let b7 : HProp := pc d3 [i6 J.2.2.1, .string ⟨(D.2.2.2.2.1).toArray⟩, i6 I.2.2.1] 148; let b8 : HProp := pc f3 [i6 I.2.2.2.1, i6 I.2.2.2.2.1, .string ⟨(I.2.2.2.2.2.1).toArray⟩, i6 I.2.2.2.2.2.2] 116; let k7 : HProp := pc b0 [.slice b5 I.2.1.length b6, optp b4, i6 O, .slice A0_3 p.length c0_3, .slice A0_4 q.length c0_4, .slice A0_5 u.length c0_5, .slice A0_6 G.length c0_6, .map (some b0_7)] 114; refine At.Quiet.joinO 7 (X := Bool) (fun a2 => [(0, bp b0), (6, bp a0), (7, bp f3), (9, bp d3), (67, .bool a2)]) (fun a2 => b7 :: b8 :: optb (Ow.fl Q5.fl) 58 b4 I.1 :: k7 :: row Fl.bs 9 A0_3 p.length c0_3 p :: row Q1.fl 35 A0_4 q.length c0_4 q :: grow Q2.ow 37 A0_5 u.length c0_5 u :: mapo Fl.bs.ov Fl.bool.ov b0_7 L :: V :: Z :: U :: Fr) (fun a2 => k5 (.inl a2) = some r) ?_ (fun f4 => ?_)
       ·rintro a2 j; have j := (k6 _).symm.trans j
        ·refine At.Quiet.nil (At.thn ?_); refine At.thaw k4 ?_; obtain ⟨k8, k9, p8, j⟩ := bjoin j; refine At.join (X := (Option Q5) × (Option Nat)) (fun s_ => [(0, bp b0), (6, bp a0), (9, bp d3)]) (fun s_ => optb (Ow.fl Q5.fl) 58 s_.2 s_.1 :: pc b0 [.slice b5 I.2.1.length b6, optp s_.2, i6 O, .slice A0_3 p.length c0_3, .slice A0_4 q.length c0_4, .slice A0_5 u.length c0_5, .slice A0_6 G.length c0_6, .map (some b0_7)] 114 :: row Fl.bs 9 A0_3 p.length c0_3 p :: row Q1.fl 35 A0_4 q.length c0_4 q :: grow Q2.ow 37 A0_5 u.length c0_5 u :: row Q10.fl 148 A0_6 G.length c0_6 G :: mapo Fl.bs.ov Fl.bool.ov b0_7 L :: b7 :: b8 :: V :: Z :: U :: Fr) (fun s_ => k8 (.inl s_.1) = some r) ?_ (fun g0 => ?_)
         ·rintro ⟨p9, l7⟩ j; have j := (k9 _).symm.trans j
          ·refine sR 1 rfl (At.f6 (At.f6 (At.f6 (At.f6 (At.f6 ?_))))); refine At.f5 (At.f6 ?_); obtain ⟨g1, l8, j⟩ := bbind j; refine At.call rfl Q109.callee rfl rfl rfl (Q109.spec l7 d1 rfl d2 rfl rfl rfl rfl l8) ?_; rintro _ _ ⟨b9, rfl, rfl⟩; refine nT (At.seq ?_); refine At.still 6 (by kernel_rfl) ?_; refine At.Still.run 3 rfl ?_; refine At.Still.y (Y.load rfl rfl .z rfl rfl rfl) rfl rfl rfl ?_; refine At.Still.run 1 rfl ?_; refine At.Still.y (Y.load rfl rfl (.s (.s (.s (.s (.s (.s (.s (.s (.s .z))))))))) rfl rfl rfl) rfl rfl rfl ?_; refine At.Still.nil ?_; refine At.mapUpdate (k := D.2.2.2.2.1) (v := true) rfl (.s (.s (.s (.s (.s (.s .z)))))) rfl rfl (KeyOk.str rfl rfl) rfl rfl rfl rfl rfl ?_; refine nT ?_; refine At.held [mapo Fl.bs.ov Fl.bool.ov b0_7 (mset L D.2.2.2.2.1 true), optb (Ow.fl Q5.fl) 58 b9 g1, row Fl.bs 9 A0_3 p.length c0_3 p, row Q1.fl 35 A0_4 q.length c0_4 q, grow Q2.ow 37 A0_5 u.length c0_5 u, b7, b8, V, Z, U] 11 rfl ?_; refine At.H.pw 0 rfl rfl rfl rfl rfl (.c .z (.c (.s .z) (.c (.s .z) (.c (.s .z) (.c (.s .z) (.c (.s (.s .z)) (.c (.s (.s .z)) (.c (.s (.s .z)) (.c (.s (.s .z)) (.c (.s (.s .z)) .n)))))))))) ?_; refine At.H.pw 1 rfl rfl rfl rfl rfl (.c .z (.c (.s .z) (.c (.s .z) (.c (.s .z) (.c (.s .z) (.c (.s (.s .z)) (.c (.s (.s .z)) (.c (.s (.s .z)) (.c (.s (.s .z)) (.c (.s (.s .z)) .n)))))))))) ?_; refine At.H.pw 2 rfl rfl rfl rfl rfl (.c .z (.c (.s .z) (.c (.s .z) (.c (.s .z) (.c (.s .z) (.c (.s (.s .z)) (.c (.s (.s .z)) (.c (.s (.s .z)) (.c (.s (.s .z)) (.c (.s (.s .z)) .n)))))))))) ?_; refine At.H.pw 3 rfl rfl rfl rfl rfl (.c .z (.c (.s .z) (.c (.s .z) (.c (.s .z) (.c (.s .z) (.c (.s (.s .z)) (.c (.s (.s .z)) (.c (.s (.s .z)) (.c (.s (.s .z)) (.c (.s (.s .z)) .n)))))))))) ?_; refine At.H.tw 5 rfl (Y.load rfl rfl (.s (.s (.s (.s (.s .z))))) rfl rfl rfl) rfl rfl rfl (.c .z (.c (.s .z) (.c (.s .z) (.c (.s .z) (.c (.s .z) (.c (.s (.s .z)) (.c (.s (.s .z)) (.c (.s (.s .z)) (.c (.s (.s .z)) (.c (.s (.s .z)) .n)))))))))) ?_; obtain ⟨g2, j⟩ := bnone j; let l9 : HProp := mapo Fl.bs.ov Fl.bool.ov b0_7 (mset L D.2.2.2.2.1 true); refine At.H.joinK (X := (Option Addr) × Nat) (fun s_ => []) (fun s_ => pc b0 [.slice b5 I.2.1.length b6, optp b9, i6 O, .slice A0_3 p.length c0_3, .slice A0_4 q.length c0_4, .slice A0_5 u.length c0_5, .slice s_.1 ((G ++ ([(⟨J.2.2.1, D.2.2.2.2.1, I.2.2.1⟩ : Q10)] : List Q10)).length) s_.2, .map (some b0_7)] 114 :: row Q10.fl 148 s_.1 ((G ++ ([(⟨J.2.2.1, D.2.2.2.2.1, I.2.2.1⟩ : Q10)] : List Q10)).length) s_.2 (G ++ ([(⟨J.2.2.1, D.2.2.2.2.1, I.2.2.1⟩ : Q10)] : List Q10)) :: l9 :: optb (Ow.fl Q5.fl) 58 b9 g1 :: row Fl.bs 9 A0_3 p.length c0_3 p :: row Q1.fl 35 A0_4 q.length c0_4 q :: grow Q2.ow 37 A0_5 u.length c0_5 u :: b7 :: b8 :: V :: Z :: U :: Fr) (fun s_ => True) ?_ (fun g3 => ?_)
           ·rintro ⟨m0, m1⟩ -
            ·refine At.drop (.s (.s (.s (.s (.s (.s (.s .z))))))) (At.drop (.s (.s (.s (.s (.s (.s (.s .z))))))) (At.drop (.s (.s (.s (.s (.s (.s (.s .z))))))) (At.drop (.s (.s (.s (.s (.s (.s (.s .z))))))) (At.drop (.s (.s (.s (.s (.s (.s (.s .z))))))) (At.f2 (At.f2 (At.f6 ?_))))))); refine At.f6 (At.f6 (At.f5 (At.f6 ?_))); cases bret j; exact At.res (.inr rfl) rfl rfl ⟨(G ++ ([(⟨J.2.2.1, D.2.2.2.2.1, I.2.2.1⟩ : Q10)] : List Q10)).length, m0, m1, b9, b5, I.2.1.length, b6, rfl, rfl, rfl, d1, rfl, d2⟩
           ·refine At.H.al [4, 6] (Q4 ?_ (Q4 ?_ Q6))
            ··refine At.HO.op rfl ?_
              refine At.y (Y.load rfl rfl (.s .z) rfl rfl rfl) rfl rfl rfl ?_; refine At.HO.back (.c .z (.c (.s .z) (.c (.s .z) (.c (.s .z) (.c (.s .z) (.c (.s (.s .z)) (.c (.s (.s .z)) (.c (.s (.s .z)) (.c (.s (.s .z)) (.c (.s (.s .z)) .n)))))))))) ?_; refine At.H.al [6] (Q4 ?_ Q6)
              ··refine At.HO.op rfl ?_
                refine At.lit rfl (xo := [.tmp 84]) (ys := ([(⟨J.2.2.1, D.2.2.2.2.1, I.2.2.1⟩ : Q10)] : List Q10)) Q10.fl rfl rfl rfl rfl rfl rfl rfl rfl rfl rfl rfl (fun q0 q1 => ?_); refine At.HO.back (.c (.s .z) (.c (.s (.s .z)) (.c (.s (.s .z)) (.c (.s (.s .z)) (.c (.s (.s .z)) (.c (.s (.s (.s .z))) (.c (.s (.s (.s .z))) (.c (.s (.s (.s .z))) (.c (.s (.s (.s .z))) (.c (.s (.s (.s .z))) .n)))))))))) ?_; refine At.H.al [7] (Q4 ?_ Q6)
                ··refine At.HO.op rfl ?_
                  refine At.append rfl (.s (.s (.s (.s (.s (.s (.s .z))))))) (Src.own .z (by simp)) rfl rfl rfl rfl rfl rfl rfl rfl g2 (by decide) rfl (fun m2 m3 => ?_); refine At.drop (.s .z) ?_; refine At.HO.back (.c (.s .z) (.c (.s (.s .z)) (.c (.s (.s .z)) (.c (.s (.s .z)) (.c (.s (.s .z)) (.c (.s (.s .z)) (.c (.s (.s .z)) (.c (.s (.s .z)) (.c (.s (.s .z)) (.c (.s (.s .z)) .n)))))))))) ?_; refine At.H.pw 8 rfl rfl rfl rfl rfl (.c (.s .z) (.c (.s (.s .z)) (.c (.s (.s .z)) (.c (.s (.s .z)) (.c (.s (.s .z)) (.c (.s (.s .z)) (.c (.s (.s .z)) (.c (.s (.s .z)) (.c (.s (.s .z)) (.c (.s (.s .z)) .n)))))))))) ?_; refine At.H.pw 9 rfl rfl rfl rfl rfl (.c (.s .z) (.c (.s (.s .z)) (.c (.s (.s .z)) (.c (.s (.s .z)) (.c (.s (.s .z)) (.c (.s (.s .z)) (.c (.s (.s .z)) (.c (.s (.s .z)) (.c (.s (.s .z)) (.c (.s (.s .z)) .n)))))))))) ?_; refine At.H.al [10] (Q4 ?_ Q6)
                  ··refine At.HO.op rfl ?_
                    refine At.store rfl rfl rfl rfl (.s (.s .z)) rfl rfl rfl (.s (.s (.s (.s (.s (.s (.c .n))))))) ?_; refine At.HO.back (.c (.s (.s .z)) (.c (.s (.s .z)) (.c (.s (.s .z)) (.c (.s (.s .z)) (.c (.s (.s .z)) (.c (.s (.s .z)) (.c (.s (.s .z)) (.c (.s (.s .z)) (.c (.s (.s .z)) (.c (.s (.s .z)) .n)))))))))) ?_; refine At.H.done (by kernel_rfl) ?_; exact At.of (g3 (m2, m3) trivial) trivial
            ··refine At.HO.op rfl ?_
              refine At.lit rfl (xo := [.tmp 84]) (ys := ([(⟨J.2.2.1, D.2.2.2.2.1, I.2.2.1⟩ : Q10)] : List Q10)) Q10.fl rfl rfl rfl rfl rfl rfl rfl rfl rfl rfl rfl (fun q2 q3 => ?_); refine At.HO.back (.c (.s .z) (.c (.s (.s .z)) (.c (.s (.s .z)) (.c (.s (.s .z)) (.c (.s (.s .z)) (.c (.s (.s (.s .z))) (.c (.s (.s (.s .z))) (.c (.s (.s (.s .z))) (.c (.s (.s (.s .z))) (.c (.s (.s (.s .z))) .n)))))))))) ?_; refine At.H.al [4] (Q4 ?_ Q6)
              ··refine At.HO.op rfl ?_
                refine At.y (Y.load rfl rfl (.s (.s .z)) rfl rfl rfl) rfl rfl rfl ?_; refine At.HO.back (.c (.s .z) (.c (.s (.s .z)) (.c (.s (.s .z)) (.c (.s (.s .z)) (.c (.s (.s .z)) (.c (.s (.s (.s .z))) (.c (.s (.s (.s .z))) (.c (.s (.s (.s .z))) (.c (.s (.s (.s .z))) (.c (.s (.s (.s .z))) .n)))))))))) ?_; refine At.H.al [7] (Q4 ?_ Q6)
                ··refine At.HO.op rfl ?_
                  refine At.append rfl (.s (.s (.s (.s (.s (.s (.s .z))))))) (Src.own .z (by simp)) rfl rfl rfl rfl rfl rfl rfl rfl g2 (by decide) rfl (fun m4 m5 => ?_); refine At.drop (.s .z) ?_; refine At.HO.back (.c (.s .z) (.c (.s (.s .z)) (.c (.s (.s .z)) (.c (.s (.s .z)) (.c (.s (.s .z)) (.c (.s (.s .z)) (.c (.s (.s .z)) (.c (.s (.s .z)) (.c (.s (.s .z)) (.c (.s (.s .z)) .n)))))))))) ?_; refine At.H.pw 8 rfl rfl rfl rfl rfl (.c (.s .z) (.c (.s (.s .z)) (.c (.s (.s .z)) (.c (.s (.s .z)) (.c (.s (.s .z)) (.c (.s (.s .z)) (.c (.s (.s .z)) (.c (.s (.s .z)) (.c (.s (.s .z)) (.c (.s (.s .z)) .n)))))))))) ?_; refine At.H.pw 9 rfl rfl rfl rfl rfl (.c (.s .z) (.c (.s (.s .z)) (.c (.s (.s .z)) (.c (.s (.s .z)) (.c (.s (.s .z)) (.c (.s (.s .z)) (.c (.s (.s .z)) (.c (.s (.s .z)) (.c (.s (.s .z)) (.c (.s (.s .z)) .n)))))))))) ?_; refine At.H.al [10] (Q4 ?_ Q6)
                  ··refine At.HO.op rfl ?_
                    refine At.store rfl rfl rfl rfl (.s (.s .z)) rfl rfl rfl (.s (.s (.s (.s (.s (.s (.c .n))))))) ?_; refine At.HO.back (.c (.s (.s .z)) (.c (.s (.s .z)) (.c (.s (.s .z)) (.c (.s (.s .z)) (.c (.s (.s .z)) (.c (.s (.s .z)) (.c (.s (.s .z)) (.c (.s (.s .z)) (.c (.s (.s .z)) (.c (.s (.s .z)) .n)))))))))) ?_; refine At.H.done (by kernel_rfl) ?_; exact At.of (g3 (m4, m5) trivial) trivial
         ··rcases bite j with ⟨d4, j⟩ | ⟨d4, j⟩
           ··refine At.condT rfl d4 ?_
             refine At.region (At.run 1 rfl (At.y (Y.load rfl rfl (.s (.s .z)) rfl rfl rfl) rfl rfl rfl (At.f8 (At.f1 (At.f8 (At.f8 (At.f8 ?_))))))); refine At.f7 (At.f8 ?_); obtain ⟨m6, m7, j⟩ := bbind j; refine At.call rfl Q20.callee rfl rfl rfl (Q20.spec b4 d1 rfl d2 rfl rfl rfl rfl m7) ?_; rintro _ _ ⟨m8, rfl, rfl⟩; refine nT ?_; exact fun a w e hs => g0 (m6, m8) j a w (e.sub ⟨rfl, rfl, rfl, trivial⟩) hs
           ··refine At.condF rfl (bn d4) ?_
             refine At.skip (At.thn (At.f11 (At.f11 (At.f11 (At.f5 (At.f5 (At.f11 ?_))))))); refine At.f6 (At.f11 (At.f11 (At.f11 (At.f11 (At.f11 ?_))))); exact fun a w e hs => g0 (I.1, b4) j a w (e.sub ⟨rfl, rfl, rfl, trivial⟩) hs
       ··rcases bite j with ⟨d5, j⟩ | ⟨d5, j⟩
         ··refine At.Quiet.know (t := 60) rfl d5 ?_
           refine At.Quiet.run 3 rfl ?_; refine At.Quiet.y (Y.load rfl rfl (.s (.s (.s .z))) rfl rfl rfl) rfl rfl rfl ?_; refine At.Quiet.y (Y.load rfl rfl .z rfl rfl rfl) rfl rfl rfl ?_; obtain ⟨m9, n2, j⟩ := bbind j; refine At.Quiet.call rfl Q149.callee rfl rfl rfl (Q149.spec k1 k2 k3 n2) (fun _ _ h_ => ⟨h_.1, fun _ hs => h_.2 ▸ hs⟩) ?_; refine At.Quiet.run 1 rfl ?_; exact At.Quiet.of (f4 m9 j) ⟨rfl, rfl, rfl, rfl, rfl, trivial⟩
         ··refine At.Quiet.know (t := 60) rfl (bn d5) ?_
           refine At.Quiet.run 7 rfl ?_; exact At.Quiet.of (f4 false j) ⟨rfl, rfl, rfl, rfl, rfl, trivial⟩
     ··rcases bite j with ⟨d6, j⟩ | ⟨d6, j⟩
       ··refine At.condT rfl d6 ?_
         refine At.region (At.run 1 rfl (At.y (Y.load rfl rfl .z rfl rfl rfl) rfl rfl rfl (At.f7 (At.f7 (At.f7 (At.f7 (At.f7 ?_))))))); refine At.f6 (At.f7 ?_); obtain ⟨n3, n4, j⟩ := bbind j; refine At.call rfl Q20.callee rfl rfl rfl (Q20.spec a9 e7 rfl e8 rfl rfl rfl rfl n4) ?_; rintro _ _ ⟨n5, rfl, rfl⟩; refine nT ?_; exact fun a w e hs => f0 (n3, n5) j a w (e.sub ⟨rfl, rfl, rfl, trivial⟩) hs
       ··refine At.condF rfl (bn d6) ?_
         refine At.skip (At.thn (At.f9 (At.f9 (At.f2 (At.f9 (At.f9 (At.f9 ?_))))))); refine At.f9 (At.f9 (At.f9 (At.f9 ?_))); exact fun a w e hs => f0 (D.1, a9) j a w (e.sub ⟨rfl, rfl, rfl, trivial⟩) hs
   ··rcases bite j with ⟨d7, j⟩ | ⟨d7, j⟩
     ··refine At.Quiet.know (t := 34) rfl (nf d7) ?_
       refine At.Quiet.run 7 rfl ?_; exact At.Quiet.of (e9 false j) ⟨rfl, rfl, rfl, rfl, trivial⟩
     ··refine At.Quiet.know (t := 34) rfl (nt (bn d7)) ?_
       refine At.Quiet.run 3 rfl ?_; refine At.Quiet.y (Y.load rfl rfl (.s (.s .z)) rfl rfl rfl) rfl rfl rfl ?_; refine At.Quiet.y (Y.lenMap (.s (.s (.s (.s (.s (.s (.s .z))))))) rfl rfl rfl) rfl rfl rfl ?_; refine At.Quiet.run 2 rfl ?_; exact At.Quiet.of (e9 (decide (8 ≤ (L.length : Int))) j) ⟨rfl, rfl, rfl, rfl, trivial⟩
 ··rcases bite j with ⟨d8, j⟩ | ⟨d8, j⟩
   ··refine At.condT rfl (decide_eq_true d8) ?_
     refine At.region (At.run 1 rfl (At.y (Y.load rfl rfl .z rfl rfl rfl) rfl rfl rfl (At.f7 (At.f7 (At.f7 (At.f7 (At.f7 ?_))))))); refine At.f7 (At.f7 ?_); obtain ⟨n6, n7, j⟩ := bbind j; refine At.call rfl Q20.callee rfl rfl rfl (Q20.spec a8 hr0_0 rfl hc0_0 rfl rfl rfl rfl n7) ?_; rintro _ _ ⟨n8, rfl, rfl⟩; refine nT ?_; exact fun a w e hs => e4 (n6, n8) j a w (e.sub ⟨rfl, trivial⟩) hs
   ··refine At.condF rfl (decide_eq_false d8) ?_
     refine At.skip (At.thn (At.f7 (At.f7 (At.f7 (At.f7 (At.f7 (At.f6 ?_))))))); refine At.f7 ?_; exact fun a w e hs => e4 (c8, a8) j a w (e.sub ⟨rfl, trivial⟩) hs

noncomputable def Q143.f (p : Bs) (u : List Int) (D G : Int) (q : Bs) (I : Int) : Option Bool :=
 some (bseq p q)
theorem Q143.callee : Callee Tryz.prog 101 := ⟨_, Tryz.func101, by kernel_rfl, by kernel_rfl⟩
theorem Q143.spec {q u : Bs} {p : List Int} {D G I : Int} (hr0_1 : RdS (Fl.int .i64).rep R.heap A0_1 p) (hn0_1 : p.length = n0_1) (hc0_1 : n0_1 ≤ c0_1) {r : Bool} (j : Q143.f q p D G u I = some r) :
 Spec Tryz.prog 101 [.agg #[.string ⟨(q).toArray⟩, .slice A0_1 n0_1 c0_1], bp b1] R (pc b1 [i6 D, i6 G, .string ⟨(u).toArray⟩, i6 I] 116 :: Fr) (fun v l' => v = .bool r ∧ pc b1 [i6 D, i6 G, .string ⟨(u).toArray⟩, i6 I] 116 :: Fr = l') := by
 subst hn0_1; refine Spec.of Tryz.func101 rfl rfl ?_; unfold Q143.f at j; have j := brun j; refine At.seq (At.region ?_); refine At.box rfl rfl (cs := [.string ⟨(q).toArray⟩, .slice A0_1 p.length c0_1]) rfl rfl (fun J => ?_); refine At.run 1 rfl (nT (sR 1 rfl (At.y (Y.load rfl rfl .z rfl rfl rfl) rfl rfl rfl (At.run 1 rfl ?_)))); refine At.y (Y.load rfl rfl (.s .z) rfl rfl rfl) rfl rfl rfl (At.run 2 rfl (nT (At.ret (At.drop .z ?_)))); cases bret j; exact At.res (.inl rfl) rfl rfl ⟨rfl, rfl⟩

noncomputable def Q80.l0b (a0 : List Q2) (a1_c0_0 a1_c0_1 : Int) (a1_c0_2 : Bs) (a1_c0_3 p : Int) : Option ((Int) ⊕ ((Unit) ⊕ (Int))) :=
 if p < (a0.length : Int) then
 if (0 : Int) ≤ p ∧ p < (a0.length : Int) then
 (Q143.f ((gt a0 p).Name) ((gt a0 p).States) a1_c0_0 a1_c0_1 a1_c0_2 a1_c0_3).bind fun q =>
 if q = true then
 upL (some p)
 else
 nx (IntKind.i64.wrap (p + 1))
 else none
 else
 dn (.inl ())
noncomputable def Q80.l0 (a0 : List Q2) (a1_c0_0 a1_c0_1 : Int) (a1_c0_2 : Bs) (a1_c0_3 p : Int) : Option ((Unit) ⊕ (Int)) := iter (fun t_ : Int => Q80.l0b a0 a1_c0_0 a1_c0_1 a1_c0_2 a1_c0_3 t_) p
noncomputable def Q80.f (a0 : List Q2) (a1_c0_0 a1_c0_1 : Int) (a1_c0_2 : Bs) (a1_c0_3 : Int) : Option Int :=
 jn (Q80.l0 a0 a1_c0_0 a1_c0_1 a1_c0_2 a1_c0_3 0) (fun (_ : Unit) =>
 some (-1))
theorem Q80.callee : Callee Tryz.prog 145 := ⟨_, Tryz.func145, by kernel_rfl, by kernel_rfl⟩
theorem Q80.spec {a0 : List Q2} {a1_c0_0 a1_c0_1 a1_c0_3 : Int} {a1_c0_2 : Bs} (hr0 : RdS Q2.rep R.heap A0 a0) (hn0 : a0.length = n0) (hc0 : n0 ≤ c0) {r : Int} (j : Q80.f a0 a1_c0_0 a1_c0_1 a1_c0_2 a1_c0_3 = some r) :
 Spec Tryz.prog 145 [.slice A0 n0 c0, .func (.func 101) #[] #[bp b1_c0]] R (pc b1_c0 [i6 a1_c0_0, i6 a1_c0_1, .string ⟨(a1_c0_2).toArray⟩, i6 a1_c0_3] 116 :: Fr) (fun v l' => v = i6 r ∧ pc b1_c0 [i6 a1_c0_0, i6 a1_c0_1, .string ⟨(a1_c0_2).toArray⟩, i6 a1_c0_3] 116 :: Fr = l') := by
 subst hn0; refine Spec.of Tryz.func145 rfl rfl ?_; unfold Q80.f at j; have j := brun j; refine sR 1 rfl (nT (At.seq (At.seq (At.region ?_)))); refine At.run 3 rfl (nT ?_); refine At.block ?_; obtain ⟨V, Z, a1, j⟩ := bjoin j; obtain ⟨L, D, O⟩ := bsome j; clear j; unfold Q80.l0 at D; obtain ⟨G, q⟩ := Q16.1 D; clear D; let U : HProp := pc b1_c0 [i6 a1_c0_0, i6 a1_c0_1, .string ⟨(a1_c0_2).toArray⟩, i6 a1_c0_3] 116; refine At.loopJ (X := Int) (Y := Unit) (e0 := 0) (fun p => [(0, .slice A0 a0.length c0), (1, .func (.func 101) #[] #[bp b1_c0]), (7, i6 (a0.length : Int)), (8, i6 p)]) (fun p => U :: Fr) (fun m_ => fun p => iterN (fun t_ : Int => Q80.l0b a0 a1_c0_0 a1_c0_1 a1_c0_2 a1_c0_3 t_) m_ p = some L) G 0 q (fun _ => []) (fun _ => U :: Fr) (fun _ => V (.inl ()) = some r) (fun a w e hs => ⟨e.sub ⟨rfl, rfl, rfl, rfl, trivial⟩, (by exact hs)⟩) ?_ (fun a2 => ?_)
 ·rintro _ j; have j := (Z _).symm.trans j
  ·refine At.ibx ?_; refine At.thn (sR 1 rfl (nT (At.ret ?_))); cases bret j; exact At.res (.inl rfl) rfl rfl ⟨rfl, rfl⟩
 ·clear q G; rintro G p q; obtain ⟨a3, f_, a4, hf_, j⟩ := bit q; clear q; have j : (Q80.l0b a0 a1_c0_0 a1_c0_1 a1_c0_2 a1_c0_3 p).bind _ = some L := j; unfold Q80.l0b at j
  ·refine sR 1 rfl (nT (At.seq ?_)); rcases bite j with ⟨I, j⟩ | ⟨I, j⟩
   ··refine At.condT rfl (decide_eq_true I) ?_
     refine At.skip (At.thn (At.seq ?_)); refine At.block ?_; refine sR 2 rfl (nT (sR 3 rfl ?_)); obtain ⟨u, j⟩ := bnone j; refine At.y (Y.ixRd hr0 rfl rfl rfl rfl rfl rfl rfl u.1 u.2) rfl rfl rfl ?_; obtain ⟨b4, a5, a6⟩ := RdS.whole (P := Tryz.prog) hr0 (Sub.refl _) rfl u.1 u.2; obtain ⟨_, _, rfl, rfl, ⟨b5, b6, rfl, a7, a8⟩⟩ := a5; refine At.y (a6 rfl rfl rfl rfl) rfl rfl rfl ?_; obtain ⟨b7, a9, j⟩ := bbind j; refine At.call rfl Q143.callee rfl rfl rfl (Q143.spec a8 rfl a7 a9) ?_; rintro _ _ ⟨rfl, rfl⟩; refine nT ?_; rcases bite j with ⟨J, j⟩ | ⟨J, j⟩
     ··refine At.condT rfl J ?_
       refine sR 2 rfl (nT (At.ret ?_)); refine At.ibr ?_; refine At.thr ?_; have j := bupL a1 O j; refine At.thr ?_; refine At.ibr ?_; refine At.thr ?_; cases bret j; exact At.res (.inl rfl) rfl rfl ⟨rfl, rfl⟩
     ··refine At.condF rfl (bn J) ?_
       refine At.skip ?_; refine At.ibn ?_; refine At.thn (At.region (At.run 2 rfl (At.nil ?_))); have j := bnx hf_ j; exact fun a w e hs => ⟨a3, (IntKind.i64.wrap (p + 1)), a4, j, e.sub ⟨rfl, rfl, rfl, rfl, trivial⟩, hs⟩
   ··refine At.condF rfl (decide_eq_false I) ?_
     refine At.exit ?_; refine At.the ?_; refine At.the ?_; exact fun a w e hs => a2 () (bdn j O) a w (e.sub trivial) hs

noncomputable def Q138.f (a0 : List Q2) (a1_c0_0 a1_c0_1 : Int) (a1_c0_2 : Bs) (a1_c0_3 : Int) : Option Bool :=
 (Q80.f a0 a1_c0_0 a1_c0_1 a1_c0_2 a1_c0_3).bind fun p =>
 some (decide (0 ≤ p))
theorem Q138.callee : Callee Tryz.prog 100 := ⟨_, Tryz.func100, by kernel_rfl, by kernel_rfl⟩
theorem Q138.spec {a0 : List Q2} {a1_c0_0 a1_c0_1 a1_c0_3 : Int} {a1_c0_2 : Bs} (hr0 : RdS Q2.rep R.heap A0 a0) (hn0 : a0.length = n0) (hc0 : n0 ≤ c0) {r : Bool} (j : Q138.f a0 a1_c0_0 a1_c0_1 a1_c0_2 a1_c0_3 = some r) :
 Spec Tryz.prog 100 [.slice A0 n0 c0, .func (.func 101) #[] #[bp b1_c0]] R (pc b1_c0 [i6 a1_c0_0, i6 a1_c0_1, .string ⟨(a1_c0_2).toArray⟩, i6 a1_c0_3] 116 :: Fr) (fun v l' => v = .bool r ∧ pc b1_c0 [i6 a1_c0_0, i6 a1_c0_1, .string ⟨(a1_c0_2).toArray⟩, i6 a1_c0_3] 116 :: Fr = l') := by
 subst hn0; refine Spec.of Tryz.func100 rfl rfl ?_; unfold Q138.f at j; have j := brun j; refine sR 1 rfl (nT (sR 2 rfl ?_)); obtain ⟨q, p, j⟩ := bbind j; refine At.call rfl Q80.callee rfl rfl rfl (Q80.spec hr0 rfl hc0 p) ?_; rintro _ _ ⟨rfl, rfl⟩; refine At.run 2 rfl (nT (At.ret ?_)); cases bret j; exact At.res (.inl rfl) rfl rfl ⟨rfl, rfl⟩

noncomputable def Q83.l0b (a0 : List Int) (a1 p : Int) : Option ((Int) ⊕ ((Unit) ⊕ (Int))) :=
 if p < (a0.length : Int) then
 if (0 : Int) ≤ p ∧ p < (a0.length : Int) then
 if a1 = gt a0 p then
 upL (some p)
 else
 nx (IntKind.i64.wrap (p + 1))
 else none
 else
 dn (.inl ())
noncomputable def Q83.l0 (a0 : List Int) (a1 p : Int) : Option ((Unit) ⊕ (Int)) := iter (fun t_ : Int => Q83.l0b a0 a1 t_) p
noncomputable def Q83.f (a0 : List Int) (a1 : Int) : Option Int :=
 jn (Q83.l0 a0 a1 0) (fun (_ : Unit) =>
 some (-1))
theorem Q83.callee : Callee Tryz.prog 146 := ⟨_, Tryz.func146, by kernel_rfl, by kernel_rfl⟩
theorem Q83.spec {a0 : List Int} {a1 : Int} (hr0 : RdS (Fl.int .i64).rep R.heap A0 a0) (hn0 : a0.length = n0) (hc0 : n0 ≤ c0) {r : Int} (j : Q83.f a0 a1 = some r) :
 Spec Tryz.prog 146 [.slice A0 n0 c0, i6 a1] R (Fr) (fun v l' => v = i6 r ∧ Fr = l') := by
 subst hn0; refine Spec.of Tryz.func146 rfl rfl ?_; unfold Q83.f at j; have j := brun j; refine sR 1 rfl (nT (At.seq (At.seq (At.region ?_)))); refine At.run 3 rfl (nT ?_); refine At.block ?_; obtain ⟨V, Z, a2, j⟩ := bjoin j; obtain ⟨O, G, U⟩ := bsome j; clear j; unfold Q83.l0 at G; obtain ⟨I, u⟩ := Q16.1 G; clear G; refine At.loopJ (X := Int) (Y := Unit) (e0 := 0) (fun p => [(0, .slice A0 a0.length c0), (1, i6 a1), (7, i6 (a0.length : Int)), (8, i6 p)]) (fun p => Fr) (fun m_ => fun p => iterN (fun t_ : Int => Q83.l0b a0 a1 t_) m_ p = some O) I 0 u (fun _ => []) (fun _ => Fr) (fun _ => V (.inl ()) = some r) (fun a w e hs => ⟨e.sub ⟨rfl, rfl, rfl, rfl, trivial⟩, (by exact hs)⟩) ?_ (fun a3 => ?_)
 ·rintro _ j; have j := (Z _).symm.trans j
  ·refine At.ibx ?_; refine At.thn (sR 1 rfl (nT (At.ret ?_))); cases bret j; exact At.res (.inl rfl) rfl rfl ⟨rfl, rfl⟩
 ·clear u I; rintro I p u; obtain ⟨a4, f_, a5, hf_, j⟩ := bit u; clear u; have j : (Q83.l0b a0 a1 p).bind _ = some O := j; unfold Q83.l0b at j
  ·refine sR 1 rfl (nT (At.seq ?_)); rcases bite j with ⟨J, j⟩ | ⟨J, j⟩
   ··refine At.condT rfl (decide_eq_true J) ?_
     refine At.skip (At.thn (At.seq ?_)); refine At.block ?_; refine sR 2 rfl (nT (sR 3 rfl ?_)); obtain ⟨D, j⟩ := bnone j; refine At.y (Y.ixRd hr0 rfl rfl rfl rfl rfl rfl rfl D.1 D.2) rfl rfl rfl (At.y (Y.ldFl hr0 rfl (q := 0) rfl rfl D.1 D.2 rfl rfl rfl) rfl rfl rfl (At.run 1 rfl (nT ?_))); rcases bite j with ⟨L, j⟩ | ⟨L, j⟩
     ··refine At.condT rfl (decide_eq_true L) ?_
       refine sR 2 rfl (nT (At.ret ?_)); refine At.ibr ?_; refine At.thr ?_; have j := bupL a2 U j; refine At.thr ?_; refine At.ibr ?_; refine At.thr ?_; cases bret j; exact At.res (.inl rfl) rfl rfl ⟨rfl, rfl⟩
     ··refine At.condF rfl (decide_eq_false L) ?_
       refine At.skip ?_; refine At.ibn ?_; refine At.thn (At.region (At.run 2 rfl (At.nil ?_))); have j := bnx hf_ j; exact fun a w e hs => ⟨a4, (IntKind.i64.wrap (p + 1)), a5, j, e.sub ⟨rfl, rfl, rfl, rfl, trivial⟩, hs⟩
   ··refine At.condF rfl (decide_eq_false J) ?_
     refine At.exit ?_; refine At.the ?_; refine At.the ?_; exact fun a w e hs => a3 () (bdn j U) a w (e.sub trivial) hs

noncomputable def Q142.f (a0 : List Int) (a1 : Int) : Option Bool :=
 (Q83.f a0 a1).bind fun p =>
 some (decide (0 ≤ p))
theorem Q142.callee : Callee Tryz.prog 103 := ⟨_, Tryz.func103, by kernel_rfl, by kernel_rfl⟩
theorem Q142.spec {a0 : List Int} {a1 : Int} (hr0 : RdS (Fl.int .i64).rep R.heap A0 a0) (hn0 : a0.length = n0) (hc0 : n0 ≤ c0) {r : Bool} (j : Q142.f a0 a1 = some r) :
 Spec Tryz.prog 103 [.slice A0 n0 c0, i6 a1] R (Fr) (fun v l' => v = .bool r ∧ Fr = l') := by
 subst hn0; refine Spec.of Tryz.func103 rfl rfl ?_; unfold Q142.f at j; have j := brun j; refine sR 1 rfl (nT (sR 2 rfl ?_)); obtain ⟨q, p, j⟩ := bbind j; refine At.call rfl Q83.callee rfl rfl rfl (Q83.spec hr0 rfl hc0 p) ?_; rintro _ _ ⟨rfl, rfl⟩; refine At.run 2 rfl (nT (At.ret ?_)); cases bret j; exact At.res (.inl rfl) rfl rfl ⟨rfl, rfl⟩

noncomputable def Q88.f (a0 : List Int) : Option (List Int) := if a0.length < 4611686018427387904 then some (a0.mergeSort fun x y => decide (x ≤ y)) else none
theorem Q88.callee : Callee Tryz.prog 104 := ⟨_, Tryz.func104, by kernel_rfl, by kernel_rfl⟩
theorem Q88.spec {a0 : List Int} (hn0 : a0.length = n0) {r : List Int} (j : Q88.f a0 = some r) :
 Spec Tryz.prog 104 [.slice A0 n0 c0] R (row (Fl.int .i64) 3 A0 n0 c0 a0 :: Fr) (fun v l' => v = .tuple #[] ∧ row (Fl.int .i64) 3 A0 n0 c0 r :: Fr = l') := by
 unfold Q88.f at j; split at j
 ·rename_i hb; cases j; exact Q338 Tryz.sort104 R Fr hb
 ·cases j

noncomputable def Q37.l0b (D : Int) (G : List Bs) (I : List Q1) (J : List Q2) (L : List Q10) (O : List (Bs × Bool)) (q : List Int) (u : Option Q5) (U : List Q8) : Option (((List Int) × (Option Q5) × (List Q8)) ⊕ (((Option Q5) × (List Int) × (List Q8)) ⊕ ((List Q2) × (Option Q5) × (List Q8)))) :=
 jn (
 if u.isNone = true then
 (Q110.f U u D G I J L O).bind fun V =>
 some (.inl (!V))
 else
 some (.inl false)) (fun (X : Bool) =>
 if X = true then
 (Q93.f U u D G I J L O).bind fun p =>
 jn (
 if p.1.isNone = true then
 (Q142.f q p.2.2.1).bind fun Z =>
 some (.inl Z)
 else
 some (.inl false)) (fun (a0 : Bool) =>
 jn (
 if a0 = true then
 (Q20.f p.2.1 p.1 D G I J L O p.2.2.2.1 p.2.2.2.2.1 p.2.2.2.2.2.1 p.2.2.2.2.2.2 9).bind fun a1 =>
 some (.inl a1)
 else
 some (.inl p.1)) (fun (a2 : Option Q5) =>
 if (q.length + ([p.2.2.1] : List Int).length) * 8 ≤ 140737488355328 then
 nx ((q ++ ([p.2.2.1] : List Int)), a2, p.2.1)
 else none))
 else
 dn (.inl (u, q, U)))
noncomputable def Q37.l0 (p : Int) (q : List Bs) (u : List Q1) (D : List Q2) (G : List Q10) (I : List (Bs × Bool)) (J : List Int) (L : Option Q5) (O : List Q8) : Option (((Option Q5) × (List Int) × (List Q8)) ⊕ ((List Q2) × (Option Q5) × (List Q8))) := iter (fun t_ : (List Int) × (Option Q5) × (List Q8) => Q37.l0b p q u D G I t_.1 t_.2.1 t_.2.2) (J, L, O)
noncomputable def Q37.f (L : List Q8) (O : Option Q5) (u : Int) (D : List Bs) (G : List Q1) (q : List Q2) (I : List Q10) (J : List (Bs × Bool)) : Option ((List Q2) × (Option Q5) × (List Q8)) :=
 (Q102.f L O u D G q I J).bind fun p =>
 jn (
 if p.1.isNone = true then
 if 8 ≤ (q.length : Int) then
 (Q20.f p.2.1 p.1 u D G q I J p.2.2.1 p.2.2.2.1 p.2.2.2.2.1 p.2.2.2.2.2 10).bind fun U =>
 some (.inl U)
 else
 (Q138.f q p.2.2.1 p.2.2.2.1 p.2.2.2.2.1 p.2.2.2.2.2).bind fun V =>
 if V = true then
 (Q20.f p.2.1 p.1 u D G q I J p.2.2.1 p.2.2.2.1 p.2.2.2.2.1 p.2.2.2.2.2 9).bind fun X =>
 some (.inl X)
 else
 some (.inl p.1)
 else
 up (some (q, p.1, p.2.1))) (fun (Z : Option Q5) =>
 jn (Q37.l0 u D G q I J ([] : List Int) Z p.2.1) (fun (s_ : (Option Q5) × (List Int) × (List Q8)) =>
 (Q88.f s_.2.1).bind fun a0 =>
 if (q.length + 1) * 40 ≤ 140737488355328 then
 some ((q ++ [(⟨p.2.2.2.2.1, a0⟩ : Q2)]), s_.1, s_.2.2)
 else none))
theorem Q37.callee : Callee Tryz.prog 74 := ⟨_, Tryz.func74, by kernel_rfl, by kernel_rfl⟩
theorem Q37.spec {d1 : List Q8} {g3 : Option Q5} {L : Int} {q : List Bs} {u : List Q1} {p : List Q2} {D : List Q10} {U : List (Bs × Bool)} (d2 : Option Nat) (hr0_0 : RdS Q8.fl.rep R.heap A0_0 d1) (hn0_0 : d1.length = n0_0) (hc0_0 : n0_0 ≤ c0_0) (hn0_3 : q.length = n0_3) (hn0_4 : u.length = n0_4) (hn0_5 : p.length = n0_5) (hn0_6 : D.length = n0_6) {r : (List Q2) × (Option Q5) × (List Q8)} (j : Q37.f d1 g3 L q u p D U = some r) :
 Spec Tryz.prog 74 [bp b0] R (pc b0 [.slice A0_0 n0_0 c0_0, optp d2, i6 L, .slice A0_3 n0_3 c0_3, .slice A0_4 n0_4 c0_4, .slice A0_5 n0_5 c0_5, .slice A0_6 n0_6 c0_6, .map (some b0_7)] 114 :: optb (Ow.fl Q5.fl) 58 d2 g3 :: row Fl.bs 9 A0_3 n0_3 c0_3 q :: row Q1.fl 35 A0_4 n0_4 c0_4 u :: grow Q2.ow 37 A0_5 n0_5 c0_5 p :: row Q10.fl 148 A0_6 n0_6 c0_6 D :: mapo Fl.bs.ov Fl.bool.ov b0_7 U :: Fr) (fun v l' => ∃ (d3 : Nat) (g4 : Option Addr) (g5 : Nat) (g6 : Option Nat) (g7 : Option Addr) (d4 : Nat) (g8 : Nat), v = .tuple #[] ∧ optb (Ow.fl Q5.fl) 58 g6 r.2.1 :: pc b0 [.slice g7 d4 g8, optp g6, i6 L, .slice A0_3 n0_3 c0_3, .slice A0_4 n0_4 c0_4, .slice g4 d3 g5, .slice A0_6 n0_6 c0_6, .map (some b0_7)] 114 :: row Fl.bs 9 A0_3 n0_3 c0_3 q :: row Q1.fl 35 A0_4 n0_4 c0_4 u :: grow Q2.ow 37 g4 d3 g5 r.1 :: row Q10.fl 148 A0_6 n0_6 c0_6 D :: mapo Fl.bs.ov Fl.bool.ov b0_7 U :: Fr = l' ∧ r.1.length = d3 ∧ RdS Q8.fl.rep R.heap g7 r.2.2 ∧ r.2.2.length = d4 ∧ d4 ≤ g8) := by
 subst hn0_0; subst hn0_3; subst hn0_4; subst hn0_5; subst hn0_6; refine Spec.of Tryz.func74 rfl rfl ?_; unfold Q37.f at j; have j := brun j; refine sR 1 rfl ?_; obtain ⟨G, k4, j⟩ := bbind j; refine At.call rfl Q102.callee rfl rfl rfl (Q102.spec d2 hr0_0 rfl hc0_0 rfl rfl rfl rfl k4) ?_; rintro _ _ ⟨b5, d5, s3, d6, rfl, rfl, b6, rfl, b7⟩; refine At.alloc rfl rfl rfl (fun V => ?_); refine At.store rfl rfl rfl rfl .z rfl rfl rfl (.c (.c (.c (.c .n)))) ?_; refine nT (At.seq ?_); obtain ⟨k5, k6, k7, j⟩ := bjoin j; let O : HProp := pc V [i6 G.2.2.1, i6 G.2.2.2.1, .string ⟨(G.2.2.2.2.1).toArray⟩, i6 G.2.2.2.2.2] 116; refine At.join (X := (Option Q5) × (Option Nat)) (fun s_ => [(0, bp b0), (2, bp V)]) (fun s_ => optb (Ow.fl Q5.fl) 58 s_.2 s_.1 :: pc b0 [.slice d5 G.2.1.length d6, optp s_.2, i6 L, .slice A0_3 q.length c0_3, .slice A0_4 u.length c0_4, .slice A0_5 p.length c0_5, .slice A0_6 D.length c0_6, .map (some b0_7)] 114 :: row Fl.bs 9 A0_3 q.length c0_3 q :: row Q1.fl 35 A0_4 u.length c0_4 u :: grow Q2.ow 37 A0_5 p.length c0_5 p :: row Q10.fl 148 A0_6 D.length c0_6 D :: mapo Fl.bs.ov Fl.bool.ov b0_7 U :: O :: Fr) (fun s_ => k5 (.inl s_.1) = some r) ?_ (fun d7 => ?_)
 ·rintro ⟨k8, k9⟩ j; have j := (k6 _).symm.trans j
  ·refine sR 1 rfl (nT (At.seq ?_)); refine At.block ?_; obtain ⟨l7, l8, s4, j⟩ := bjoin j; obtain ⟨a3, d9, l9⟩ := bsome j; clear j; unfold Q37.l0 at d9; obtain ⟨e1, a4⟩ := Q16.1 d9; clear d9; refine At.nilRow (Fl.int .i64) 3 ?_; let T32 : HProp := row Fl.bs 9 A0_3 q.length c0_3 q; let T33 : HProp := row Q1.fl 35 A0_4 u.length c0_4 u; let a5 : HProp := grow Q2.ow 37 A0_5 p.length c0_5 p; let Z : HProp := row Q10.fl 148 A0_6 D.length c0_6 D; let a0 : HProp := mapo Fl.bs.ov Fl.bool.ov b0_7 U; refine At.loopJ (X := (List Int) × (Option Q5) × (List Q8) × Nat × (Option Addr) × Nat × (Option Nat) × (Option Addr) × Nat × Nat) (Y := (Option Q5) × (List Int) × (List Q8) × (Option Nat) × Nat × (Option Addr) × Nat × (Option Addr) × Nat × Nat) (e0 := 1) (fun s_ => [(0, bp b0), (2, bp V), (3, .slice s_.2.2.2.2.1 s_.2.2.2.1 s_.2.2.2.2.2.1)]) (fun s_ => row (Fl.int .i64) 3 s_.2.2.2.2.1 s_.2.2.2.1 s_.2.2.2.2.2.1 s_.1 :: optb (Ow.fl Q5.fl) 58 s_.2.2.2.2.2.2.1 s_.2.1 :: pc b0 [.slice s_.2.2.2.2.2.2.2.1 (d8 s_).1 (d8 s_).2, optp s_.2.2.2.2.2.2.1, i6 L, .slice A0_3 q.length c0_3, .slice A0_4 u.length c0_4, .slice A0_5 p.length c0_5, .slice A0_6 D.length c0_6, .map (some b0_7)] 114 :: T32 :: T33 :: a5 :: Z :: a0 :: O :: Fr) (fun m_ => fun s_ => iterN (fun t_ : (List Int) × (Option Q5) × (List Q8) => Q37.l0b L q u p D U t_.1 t_.2.1 t_.2.2) m_ (s_.1, s_.2.1, s_.2.2.1) = some a3 ∧ s_.1.length = s_.2.2.2.1 ∧ RdS Q8.fl.rep R.heap s_.2.2.2.2.2.2.2.1 s_.2.2.1 ∧ s_.2.2.1.length = (d8 s_).1 ∧ (d8 s_).1 ≤ (d8 s_).2) e1 (([] : List Int), k8, G.2.1, 0, none, 0, k9, d5, G.2.1.length, d6) ⟨a4, rfl, b6, rfl, b7⟩ (fun s_ => [(0, bp b0), (2, bp V), (3, .slice s_.2.2.2.2.2.1 s_.2.2.2.2.1 s_.2.2.2.2.2.2.1)]) (fun s_ => pc b0 [.slice s_.2.2.2.2.2.2.2.1 (d8 s_).1 (d8 s_).2, optp s_.2.2.2.1, i6 L, .slice A0_3 q.length c0_3, .slice A0_4 u.length c0_4, .slice A0_5 p.length c0_5, .slice A0_6 D.length c0_6, .map (some b0_7)] 114 :: optb (Ow.fl Q5.fl) 58 s_.2.2.2.1 s_.1 :: T32 :: T33 :: a5 :: Z :: a0 :: row (Fl.int .i64) 3 s_.2.2.2.2.2.1 s_.2.2.2.2.1 s_.2.2.2.2.2.2.1 s_.2.1 :: O :: Fr) (fun s_ => l7 (.inl (s_.1, s_.2.1, s_.2.2.1)) = some r ∧ s_.2.1.length = s_.2.2.2.2.1 ∧ RdS Q8.fl.rep R.heap s_.2.2.2.2.2.2.2.1 s_.2.2.1 ∧ s_.2.2.1.length = (d8 s_).1 ∧ (d8 s_).1 ≤ (d8 s_).2) (fun a w e hs => ⟨e.sub ⟨rfl, rfl, rfl, trivial⟩, (by exact hs)⟩) ?_ (fun m0 => ?_)
   ·rintro ⟨g9, a6, e2, b8, m1, b9, c8, h0, m2, h1⟩ ⟨j, m3, m4, m5, m6⟩; obtain rfl : a6.length = m1 := m3; obtain rfl : e2.length = m2 := m5; have j := (l8 _).symm.trans j
    ·refine At.ibx ?_; refine At.thn (sR 1 rfl (At.f7 ?_)); obtain ⟨c9, m7, j⟩ := bbind j; refine At.call rfl Q88.callee rfl rfl rfl (Q88.spec rfl m7) ?_; rintro _ _ ⟨rfl, rfl⟩; refine nT ?_; refine At.held [optb (Ow.fl Q5.fl) 58 b8 g9, T32, T33, Z, a0, O] 16 rfl ?_; refine At.H.pw 0 rfl rfl rfl rfl rfl (.c (.s (.s .z)) (.c (.s (.s .z)) (.c (.s (.s .z)) (.c (.s (.s (.s .z))) (.c (.s (.s (.s .z))) (.c (.s (.s (.s .z))) .n)))))) ?_; refine At.H.pw 1 rfl rfl rfl rfl rfl (.c (.s (.s .z)) (.c (.s (.s .z)) (.c (.s (.s .z)) (.c (.s (.s (.s .z))) (.c (.s (.s (.s .z))) (.c (.s (.s (.s .z))) .n)))))) ?_; refine At.H.pw 2 rfl rfl rfl rfl rfl (.c (.s (.s .z)) (.c (.s (.s .z)) (.c (.s (.s .z)) (.c (.s (.s (.s .z))) (.c (.s (.s (.s .z))) (.c (.s (.s (.s .z))) .n)))))) ?_; refine At.H.pw 3 rfl rfl rfl rfl rfl (.c (.s (.s .z)) (.c (.s (.s .z)) (.c (.s (.s .z)) (.c (.s (.s (.s .z))) (.c (.s (.s (.s .z))) (.c (.s (.s (.s .z))) .n)))))) ?_; refine At.H.pw 4 rfl rfl rfl rfl rfl (.c (.s (.s .z)) (.c (.s (.s .z)) (.c (.s (.s .z)) (.c (.s (.s (.s .z))) (.c (.s (.s (.s .z))) (.c (.s (.s (.s .z))) .n)))))) ?_; refine At.H.pw 6 rfl rfl rfl rfl rfl (.c (.s (.s .z)) (.c (.s (.s .z)) (.c (.s (.s .z)) (.c (.s (.s (.s .z))) (.c (.s (.s (.s .z))) (.c (.s (.s (.s .z))) .n)))))) ?_; refine At.H.tw 7 rfl (Y.load rfl rfl (.s (.s (.s (.s (.s .z))))) rfl rfl rfl) rfl rfl rfl (.c (.s (.s .z)) (.c (.s (.s .z)) (.c (.s (.s .z)) (.c (.s (.s (.s .z))) (.c (.s (.s (.s .z))) (.c (.s (.s (.s .z))) .n)))))) ?_; refine At.H.pw 8 rfl rfl rfl rfl rfl (.c (.s (.s .z)) (.c (.s (.s .z)) (.c (.s (.s .z)) (.c (.s (.s (.s .z))) (.c (.s (.s (.s .z))) (.c (.s (.s (.s .z))) .n)))))) ?_; refine At.H.tw 9 rfl (Y.build (is := [0, 1]) (xo := [.tmp 77, .tmp 78]) (vs := [.string ⟨(G.2.2.2.2.1).toArray⟩, .slice b9 a6.length c8]) (cs := [.string ⟨(G.2.2.2.2.1).toArray⟩, .slice b9 a6.length c8]) rfl rfl rfl rfl rfl rfl) rfl rfl rfl (.c (.s (.s .z)) (.c (.s (.s .z)) (.c (.s (.s .z)) (.c (.s (.s (.s .z))) (.c (.s (.s (.s .z))) (.c (.s (.s (.s .z))) .n)))))) ?_; obtain ⟨h2, j⟩ := bnone j; refine At.H.joinK (X := (Option Addr) × Nat) (fun s_ => []) (fun s_ => pc b0 [.slice h0 e2.length h1, optp b8, i6 L, .slice A0_3 q.length c0_3, .slice A0_4 u.length c0_4, .slice s_.1 ((p ++ [(⟨G.2.2.2.2.1, c9⟩ : Q2)]).length) s_.2, .slice A0_6 D.length c0_6, .map (some b0_7)] 114 :: grow Q2.ow 37 s_.1 ((p ++ [(⟨G.2.2.2.2.1, c9⟩ : Q2)]).length) s_.2 (p ++ [(⟨G.2.2.2.2.1, c9⟩ : Q2)]) :: optb (Ow.fl Q5.fl) 58 b8 g9 :: T32 :: T33 :: Z :: a0 :: O :: Fr) (fun s_ => True) ?_ (fun h3 => ?_)
     ·rintro ⟨m8, m9⟩ -
      ·refine At.drop (.s (.s (.s (.s (.s (.s (.s .z))))))) (At.f6 (At.f6 (At.f3 (At.f6 (At.f6 (At.f5 (At.f6 ?_))))))); cases bret j; exact At.res (.inr rfl) rfl rfl ⟨(p ++ [(⟨G.2.2.2.2.1, c9⟩ : Q2)]).length, m8, m9, b8, h0, e2.length, h1, rfl, rfl, rfl, m4, rfl, m6⟩
     ·refine At.H.al [5, 10] (Q4 ?_ (Q4 ?_ Q6))
      ··refine At.HO.op rfl ?_
        refine At.y (Y.load rfl rfl (.s .z) rfl rfl rfl) rfl rfl rfl ?_; refine At.HO.back (.c (.s (.s .z)) (.c (.s (.s .z)) (.c (.s (.s .z)) (.c (.s (.s (.s .z))) (.c (.s (.s (.s .z))) (.c (.s (.s (.s .z))) .n)))))) ?_; refine At.H.al [10] (Q4 ?_ Q6)
        ··refine At.HO.op rfl ?_
          refine At.lit rfl (xo := [.tmp 79]) (ys := ([rawOf (Q2.ow).sz [.string ⟨(G.2.2.2.2.1).toArray⟩, .slice b9 a6.length c8] rfl rfl] : List (Raw (Q2.ow).sz))) (Fl.raw (Q2.ow).sz (Q2.ow).pos) rfl rfl rfl rfl rfl rfl rfl rfl rfl rfl rfl (fun s5 s6 => ?_); refine At.HO.back (.c (.s (.s (.s .z))) (.c (.s (.s (.s .z))) (.c (.s (.s (.s .z))) (.c (.s (.s (.s (.s .z)))) (.c (.s (.s (.s (.s .z)))) (.c (.s (.s (.s (.s .z)))) .n)))))) ?_; refine At.H.al [11] (Q4 ?_ Q6)
          ··refine At.HO.op rfl ?_
            refine At.f1 (At.f1 (At.f6 ?_)); refine At.appendGrow (T := Q2.ow) rfl rfl Q2.ent rfl rfl rfl rfl rfl rfl rfl rfl rfl h2 (by decide) rfl (fun n2 n3 => ?_); refine At.HO.back (.c (.s (.s .z)) (.c (.s (.s .z)) (.c (.s (.s .z)) (.c (.s (.s .z)) (.c (.s (.s .z)) (.c (.s (.s .z)) .n)))))) ?_; refine At.H.pw 12 rfl rfl rfl rfl rfl (.c (.s (.s .z)) (.c (.s (.s .z)) (.c (.s (.s .z)) (.c (.s (.s .z)) (.c (.s (.s .z)) (.c (.s (.s .z)) .n)))))) ?_; refine At.H.pw 13 rfl rfl rfl rfl rfl (.c (.s (.s .z)) (.c (.s (.s .z)) (.c (.s (.s .z)) (.c (.s (.s .z)) (.c (.s (.s .z)) (.c (.s (.s .z)) .n)))))) ?_; refine At.H.pw 14 rfl rfl rfl rfl rfl (.c (.s (.s .z)) (.c (.s (.s .z)) (.c (.s (.s .z)) (.c (.s (.s .z)) (.c (.s (.s .z)) (.c (.s (.s .z)) .n)))))) ?_; refine At.H.al [15] (Q4 ?_ Q6)
            ··refine At.HO.op rfl ?_
              refine At.store rfl rfl rfl rfl (.s .z) rfl rfl rfl (.s (.s (.s (.s (.s (.c .n)))))) ?_; refine At.HO.back (.c (.s (.s .z)) (.c (.s (.s .z)) (.c (.s (.s .z)) (.c (.s (.s .z)) (.c (.s (.s .z)) (.c (.s (.s .z)) .n)))))) ?_; refine At.H.done (by kernel_rfl) ?_; exact At.of (h3 (n2, n3) trivial) trivial
      ··refine At.HO.op rfl ?_
        refine At.lit rfl (xo := [.tmp 79]) (ys := ([rawOf (Q2.ow).sz [.string ⟨(G.2.2.2.2.1).toArray⟩, .slice b9 a6.length c8] rfl rfl] : List (Raw (Q2.ow).sz))) (Fl.raw (Q2.ow).sz (Q2.ow).pos) rfl rfl rfl rfl rfl rfl rfl rfl rfl rfl rfl (fun s7 s8 => ?_); refine At.HO.back (.c (.s (.s (.s .z))) (.c (.s (.s (.s .z))) (.c (.s (.s (.s .z))) (.c (.s (.s (.s (.s .z)))) (.c (.s (.s (.s (.s .z)))) (.c (.s (.s (.s (.s .z)))) .n)))))) ?_; refine At.H.al [5] (Q4 ?_ Q6)
        ··refine At.HO.op rfl ?_
          refine At.y (Y.load rfl rfl (.s (.s .z)) rfl rfl rfl) rfl rfl rfl ?_; refine At.HO.back (.c (.s (.s (.s .z))) (.c (.s (.s (.s .z))) (.c (.s (.s (.s .z))) (.c (.s (.s (.s (.s .z)))) (.c (.s (.s (.s (.s .z)))) (.c (.s (.s (.s (.s .z)))) .n)))))) ?_; refine At.H.al [11] (Q4 ?_ Q6)
          ··refine At.HO.op rfl ?_
            refine At.f1 (At.f1 (At.f6 ?_)); refine At.appendGrow (T := Q2.ow) rfl rfl Q2.ent rfl rfl rfl rfl rfl rfl rfl rfl rfl h2 (by decide) rfl (fun n4 n5 => ?_); refine At.HO.back (.c (.s (.s .z)) (.c (.s (.s .z)) (.c (.s (.s .z)) (.c (.s (.s .z)) (.c (.s (.s .z)) (.c (.s (.s .z)) .n)))))) ?_; refine At.H.pw 12 rfl rfl rfl rfl rfl (.c (.s (.s .z)) (.c (.s (.s .z)) (.c (.s (.s .z)) (.c (.s (.s .z)) (.c (.s (.s .z)) (.c (.s (.s .z)) .n)))))) ?_; refine At.H.pw 13 rfl rfl rfl rfl rfl (.c (.s (.s .z)) (.c (.s (.s .z)) (.c (.s (.s .z)) (.c (.s (.s .z)) (.c (.s (.s .z)) (.c (.s (.s .z)) .n)))))) ?_; refine At.H.pw 14 rfl rfl rfl rfl rfl (.c (.s (.s .z)) (.c (.s (.s .z)) (.c (.s (.s .z)) (.c (.s (.s .z)) (.c (.s (.s .z)) (.c (.s (.s .z)) .n)))))) ?_; refine At.H.al [15] (Q4 ?_ Q6)
            ··refine At.HO.op rfl ?_
              refine At.store rfl rfl rfl rfl (.s .z) rfl rfl rfl (.s (.s (.s (.s (.s (.c .n)))))) ?_; refine At.HO.back (.c (.s (.s .z)) (.c (.s (.s .z)) (.c (.s (.s .z)) (.c (.s (.s .z)) (.c (.s (.s .z)) (.c (.s (.s .z)) .n)))))) ?_; refine At.H.done (by kernel_rfl) ?_; exact At.of (h3 (n4, n5) trivial) trivial
   ·clear a4 e1; rintro e1 ⟨I, e3, a7, n6, a1, a2, a8, h4, n7, h5⟩ ⟨a4, n8, e4, n9, e5⟩; obtain rfl : I.length = n6 := n8; obtain rfl : a7.length = n7 := n9; obtain ⟨o0, f_, o7, hf_, j⟩ := bit a4; clear a4; have j : (Q37.l0b L q u p D U I e3 a7).bind _ = some a3 := j; unfold Q37.l0b at j
    ·refine At.seq (sR 3 rfl (At.y (Y.load rfl rfl (.s (.s .z)) rfl rfl rfl) rfl rfl rfl ?_)); refine At.y (Y.eqOpt (.s .z) rfl rfl rfl rfl) rfl rfl rfl ?_; refine At.run 1 rfl ?_; obtain ⟨o8, o9, s9, j⟩ := bjoin j; let p0 : HProp := pc b0 [.slice h4 a7.length h5, optp a8, i6 L, .slice A0_3 q.length c0_3, .slice A0_4 u.length c0_4, .slice A0_5 p.length c0_5, .slice A0_6 D.length c0_6, .map (some b0_7)] 114; refine At.joinO 4 (X := Bool) (fun a9 => [(0, bp b0), (2, bp V), (3, .slice a1 I.length a2), (45, .bool a9)]) (fun a9 => p0 :: optb (Ow.fl Q5.fl) 58 a8 e3 :: T32 :: T33 :: a5 :: Z :: a0 :: row (Fl.int .i64) 3 a1 I.length a2 I :: O :: Fr) (fun a9 => o8 (.inl a9) = some a3) ?_ (fun h6 => ?_)
     ·rintro a9 j; have j := (o9 _).symm.trans j
      ·refine nT ?_; rcases bite j with ⟨e6, j⟩ | ⟨e6, j⟩
       ··refine At.condT rfl e6 ?_
         refine At.skip (At.thn ?_); refine At.block ?_; refine sR 1 rfl ?_; obtain ⟨J, p1, j⟩ := bbind j; refine At.call rfl Q93.callee rfl rfl rfl (Q93.spec a8 e4 rfl e5 rfl rfl rfl rfl p1) ?_; rintro _ _ ⟨d0, e7, t0, e8, rfl, rfl, h7, rfl, h8⟩; refine At.run 3 rfl ?_; refine At.alloc rfl rfl rfl (fun h9 => ?_); refine At.store rfl rfl rfl rfl .z rfl rfl rfl (.c (.c (.c (.c .n)))) ?_; refine At.run 1 rfl (nT (At.seq (sR 3 rfl (At.y (Y.load rfl rfl (.s (.s .z)) rfl rfl rfl) rfl rfl rfl ?_)))); refine At.y (Y.eqOpt (.s .z) rfl rfl rfl rfl) rfl rfl rfl ?_; refine At.run 1 rfl ?_; obtain ⟨p2, p3, t1, j⟩ := bjoin j; let k0 : HProp := pc h9 [i6 J.2.2.2.1, i6 J.2.2.2.2.1, .string ⟨(J.2.2.2.2.2.1).toArray⟩, i6 J.2.2.2.2.2.2] 116; let p4 : HProp := pc b0 [.slice e7 J.2.1.length e8, optp d0, i6 L, .slice A0_3 q.length c0_3, .slice A0_4 u.length c0_4, .slice A0_5 p.length c0_5, .slice A0_6 D.length c0_6, .map (some b0_7)] 114; refine At.joinO 4 (X := Bool) (fun b4 => [(0, bp b0), (2, bp V), (3, .slice a1 I.length a2), (4, bp h9), (5, i6 J.2.2.1), (60, .bool b4)]) (fun b4 => row (Fl.int .i64) 3 a1 I.length a2 I :: k0 :: optb (Ow.fl Q5.fl) 58 d0 J.1 :: p4 :: T32 :: T33 :: a5 :: Z :: a0 :: O :: Fr) (fun b4 => p2 (.inl b4) = some a3) ?_ (fun k1 => ?_)
         ·rintro b4 j; have j := (p3 _).symm.trans j
          ·refine nT ?_; obtain ⟨p5, p6, t3, j⟩ := bjoin j; refine At.join (X := (Option Q5) × (Option Nat)) (fun s_ => [(0, bp b0), (2, bp V), (3, .slice a1 I.length a2), (5, i6 J.2.2.1)]) (fun s_ => optb (Ow.fl Q5.fl) 58 s_.2 s_.1 :: pc b0 [.slice e7 J.2.1.length e8, optp s_.2, i6 L, .slice A0_3 q.length c0_3, .slice A0_4 u.length c0_4, .slice A0_5 p.length c0_5, .slice A0_6 D.length c0_6, .map (some b0_7)] 114 :: T32 :: T33 :: a5 :: Z :: a0 :: row (Fl.int .i64) 3 a1 I.length a2 I :: k0 :: O :: Fr) (fun s_ => p5 (.inl s_.1) = some a3) ?_ (fun k2 => ?_)
           ·rintro ⟨p7, p8⟩ j; have j := (p6 _).symm.trans j
            ·refine At.region (At.run 2 rfl ?_); refine At.lit rfl (xo := [.tmp 65]) (ys := ([J.2.2.1] : List Int)) (Fl.int .i64) rfl rfl rfl rfl rfl rfl rfl rfl rfl rfl rfl (fun t4 t5 => ?_); obtain ⟨p9, j⟩ := bnone j; refine At.append rfl (.s (.s (.s (.s (.s (.s (.s (.s .z)))))))) (Src.own .z (by simp)) rfl rfl rfl rfl rfl rfl rfl rfl p9 (by decide) rfl (fun q0 q1 => ?_); refine At.drop (.s .z) (At.run 1 rfl (At.nil ?_)); refine At.ibn ?_; refine At.drop (.s (.s (.s (.s (.s (.s (.s (.s .z)))))))) ?_; have j := bnx hf_ j; exact fun a w e hs => ⟨o0, ((I ++ ([J.2.2.1] : List Int)), p7, J.2.1, (I ++ ([J.2.2.1] : List Int)).length, q0, q1, p8, e7, J.2.1.length, e8), o7, ⟨j, rfl, h7, rfl, h8⟩, e.sub ⟨rfl, rfl, rfl, trivial⟩, hs⟩
           ··rcases bite j with ⟨e9, j⟩ | ⟨e9, j⟩
             ··refine At.condT rfl e9 ?_
               refine At.region (At.run 1 rfl (At.y (Y.load rfl rfl (.s .z) rfl rfl rfl) rfl rfl rfl (At.f8 (At.f8 (At.f8 (At.f8 (At.f8 ?_))))))); refine At.f7 (At.f8 ?_); obtain ⟨q2, q3, j⟩ := bbind j; refine At.call rfl Q20.callee rfl rfl rfl (Q20.spec d0 h7 rfl h8 rfl rfl rfl rfl q3) ?_; rintro _ _ ⟨q4, rfl, rfl⟩; refine nT ?_; exact fun a w e hs => k2 (q2, q4) j a w (e.sub ⟨rfl, rfl, rfl, rfl, trivial⟩) hs
             ··refine At.condF rfl (bn e9) ?_
               refine At.skip (At.thn (At.f9 (At.f2 (At.f2 (At.f9 (At.f9 (At.f9 ?_))))))); refine At.f9 (At.f9 (At.f9 (At.f9 ?_))); exact fun a w e hs => k2 (J.1, d0) j a w (e.sub ⟨rfl, rfl, rfl, rfl, trivial⟩) hs
         ··rcases bite j with ⟨f0, j⟩ | ⟨f0, j⟩
           ··refine At.know (t := 56) rfl f0 ?_
             refine At.run 2 rfl ?_; refine At.freeze (.s (.s (.s (.s (.s (.s (.s (.s .z)))))))) fun t6 q5 q6 q7 t7 q8 => ?_; obtain ⟨q9, r0, j⟩ := bbind j; refine At.call rfl Q142.callee rfl rfl rfl (Q142.spec q5 q6 q7 r0) ?_; rintro _ _ ⟨rfl, rfl⟩; refine At.run 1 rfl ?_; refine At.thaw q8 ?_; exact At.of (k1 q9 j) ⟨rfl, rfl, rfl, rfl, rfl, rfl, trivial⟩
           ··refine At.know (t := 56) rfl (bn f0) ?_
             refine At.run 4 rfl (At.f9 (At.f8 (At.f8 (At.f8 (At.f8 (At.f8 (At.f8 ?_))))))); refine At.f8 (At.f8 (At.f9 ?_)); exact At.of (k1 false j) ⟨rfl, rfl, rfl, rfl, rfl, rfl, trivial⟩
       ··refine At.condF rfl (bn e6) ?_
         refine At.exit ?_; refine At.the ?_; refine At.the ?_; exact fun a w e hs => m0 (e3, I, a7, a8, I.length, a1, a2, h4, a7.length, h5) ⟨(bdn j l9), rfl, e4, rfl, e5⟩ a w (e.sub ⟨rfl, rfl, rfl, trivial⟩) hs
     ··rcases bite j with ⟨f4, j⟩ | ⟨f4, j⟩
       ··refine At.know (t := 41) rfl f4 ?_
         refine At.run 1 rfl (At.f7 (At.f7 (At.f7 (At.f7 (At.f7 (At.f6 (At.f7 ?_))))))); obtain ⟨r1, r2, j⟩ := bbind j; refine At.call rfl Q110.callee rfl rfl rfl (Q110.spec a8 e4 rfl e5 rfl rfl rfl rfl r2) ?_; rintro _ _ ⟨rfl, rfl⟩; refine At.run 2 rfl ?_; exact At.of (h6 (!r1) j) ⟨rfl, rfl, rfl, rfl, trivial⟩
       ··refine At.know (t := 41) rfl (bn f4) ?_
         refine At.run 4 rfl (At.f8 (At.f1 (At.f8 (At.f8 (At.f8 (At.f8 (At.f8 ?_))))))); refine At.f7 (At.f8 ?_); exact At.of (h6 false j) ⟨rfl, rfl, rfl, rfl, trivial⟩
 ··refine At.block ?_
   refine sR 3 rfl (At.y (Y.load rfl rfl (.s (.s .z)) rfl rfl rfl) rfl rfl rfl ?_); refine At.y (Y.neOpt (.s .z) rfl rfl rfl rfl) rfl rfl rfl ?_; refine At.run 1 rfl (nT ?_); rcases bite j with ⟨g0, j⟩ | ⟨g0, j⟩
   ··refine At.condF rfl (nf g0) ?_
     refine sR 4 rfl (At.y (Y.load rfl rfl (.s (.s .z)) rfl rfl rfl) rfl rfl rfl (At.run 3 rfl (nT ?_))); rcases bite j with ⟨g1, j⟩ | ⟨g1, j⟩
     ··refine At.condT rfl (decide_eq_true g1) ?_
       refine At.region (At.run 1 rfl (At.y (Y.load rfl rfl .z rfl rfl rfl) rfl rfl rfl (At.f7 (At.f7 (At.f7 (At.f7 (At.f7 ?_))))))); refine At.f6 (At.f7 ?_); obtain ⟨r3, r4, j⟩ := bbind j; refine At.call rfl Q20.callee rfl rfl rfl (Q20.spec b5 b6 rfl b7 rfl rfl rfl rfl r4) ?_; rintro _ _ ⟨r5, rfl, rfl⟩; refine At.nil ?_; refine At.ibn ?_; refine At.thn ?_; exact fun a w e hs => d7 (r3, r5) j a w (e.sub ⟨rfl, rfl, trivial⟩) hs
     ··refine At.condF rfl (decide_eq_false g1) ?_
       refine sR 4 rfl (At.y (Y.load rfl rfl (.s (.s .z)) rfl rfl rfl) rfl rfl rfl (At.run 1 rfl ?_)); refine At.freezeGrow (.s (.s (.s (.s (.s .z))))) fun t8 r6 r7 r8 t9 k3 => ?_; obtain ⟨u0, r9, j⟩ := bbind j; refine At.call rfl Q138.callee rfl rfl rfl (Q138.spec r6 r7 r8 r9) ?_; rintro _ _ ⟨rfl, rfl⟩; refine At.run 1 rfl (nT ?_); rcases bite j with ⟨g2, j⟩ | ⟨g2, j⟩
       ··refine At.condT rfl g2 ?_
         refine At.region (At.run 1 rfl (At.y (Y.load rfl rfl .z rfl rfl rfl) rfl rfl rfl ?_)); refine At.thaw k3 ?_; refine At.f7 (At.f7 (At.f2 (At.f7 (At.f7 (At.f6 (At.f7 ?_)))))); obtain ⟨s0, s1, j⟩ := bbind j; refine At.call rfl Q20.callee rfl rfl rfl (Q20.spec b5 b6 rfl b7 rfl rfl rfl rfl s1) ?_; rintro _ _ ⟨s2, rfl, rfl⟩; refine At.nil ?_; refine At.ibn ?_; refine At.thn ?_; exact fun a w e hs => d7 (s0, s2) j a w (e.sub ⟨rfl, rfl, trivial⟩) hs
       ··refine At.condF rfl (bn g2) ?_
         refine At.skip ?_; refine At.ibn ?_; refine At.thn ?_; refine At.thaw k3 ?_; refine At.f1 (At.f7 (At.f7 (At.f3 (At.f7 (At.f7 (At.f7 (At.f7 ?_))))))); exact fun a w e hs => d7 (G.1, b5) j a w (e.sub ⟨rfl, rfl, trivial⟩) hs
   ··refine At.condT rfl (nt (bn g0)) ?_
     refine At.ret ?_; refine At.ibr ?_; have j := bup k7 j; refine At.thr (At.drop .z ?_); cases bret j; exact At.res (.inl rfl) rfl rfl ⟨p.length, A0_5, c0_5, b5, d5, G.2.1.length, d6, rfl, rfl, rfl, b6, rfl, b7⟩

noncomputable def Q90.f (a0 : List Bs) : Option (List Bs) := if a0.length < 4611686018427387904 then some (a0.mergeSort fun x y => decide (x ≤ y)) else none
theorem Q90.callee : Callee Tryz.prog 105 := ⟨_, Tryz.func105, by kernel_rfl, by kernel_rfl⟩
theorem Q90.spec {a0 : List Bs} (hn0 : a0.length = n0) {r : List Bs} (j : Q90.f a0 = some r) :
 Spec Tryz.prog 105 [.slice A0 n0 c0] R (row Fl.bs 9 A0 n0 c0 a0 :: Fr) (fun v l' => v = .tuple #[] ∧ row Fl.bs 9 A0 n0 c0 r :: Fr = l') := by
 unfold Q90.f at j; split at j
 ·rename_i hb; cases j; exact Q316 Tryz.sort105 R Fr hb
 ·cases j

noncomputable def Q59.l0b (a0 : List Bs) (a1 : Bs) (p : Int) : Option ((Int) ⊕ ((Unit) ⊕ (Int))) :=
 if p < (a0.length : Int) then
 if (0 : Int) ≤ p ∧ p < (a0.length : Int) then
 if bseq a1 (gt a0 p) = true then
 upL (some p)
 else
 nx (IntKind.i64.wrap (p + 1))
 else none
 else
 dn (.inl ())
noncomputable def Q59.l0 (a0 : List Bs) (a1 : Bs) (p : Int) : Option ((Unit) ⊕ (Int)) := iter (fun t_ : Int => Q59.l0b a0 a1 t_) p
noncomputable def Q59.f (a0 : List Bs) (a1 : Bs) : Option Int :=
 jn (Q59.l0 a0 a1 0) (fun (_ : Unit) =>
 some (-1))
theorem Q59.callee : Callee Tryz.prog 106 := ⟨_, Tryz.func106, by kernel_rfl, by kernel_rfl⟩
theorem Q59.spec {a0 : List Bs} {a1 : Bs} (hr0 : RdS Fl.bs.rep R.heap A0 a0) (hn0 : a0.length = n0) (hc0 : n0 ≤ c0) {r : Int} (j : Q59.f a0 a1 = some r) :
 Spec Tryz.prog 106 [.slice A0 n0 c0, .string ⟨(a1).toArray⟩] R (Fr) (fun v l' => v = i6 r ∧ Fr = l') := by
 subst hn0; refine Spec.of Tryz.func106 rfl rfl ?_; unfold Q59.f at j; have j := brun j; refine sR 1 rfl (nT (At.seq (At.seq (At.region ?_)))); refine At.run 3 rfl (nT ?_); refine At.block ?_; obtain ⟨V, Z, a2, j⟩ := bjoin j; obtain ⟨O, G, U⟩ := bsome j; clear j; unfold Q59.l0 at G; obtain ⟨I, u⟩ := Q16.1 G; clear G; refine At.loopJ (X := Int) (Y := Unit) (e0 := 0) (fun p => [(0, .slice A0 a0.length c0), (1, .string ⟨(a1).toArray⟩), (7, i6 (a0.length : Int)), (8, i6 p)]) (fun p => Fr) (fun m_ => fun p => iterN (fun t_ : Int => Q59.l0b a0 a1 t_) m_ p = some O) I 0 u (fun _ => []) (fun _ => Fr) (fun _ => V (.inl ()) = some r) (fun a w e hs => ⟨e.sub ⟨rfl, rfl, rfl, rfl, trivial⟩, (by exact hs)⟩) ?_ (fun a3 => ?_)
 ·rintro _ j; have j := (Z _).symm.trans j
  ·refine At.ibx ?_; refine At.thn (sR 1 rfl (nT (At.ret ?_))); cases bret j; exact At.res (.inl rfl) rfl rfl ⟨rfl, rfl⟩
 ·clear u I; rintro I p u; obtain ⟨a4, f_, a5, hf_, j⟩ := bit u; clear u; have j : (Q59.l0b a0 a1 p).bind _ = some O := j; unfold Q59.l0b at j
  ·refine sR 1 rfl (nT (At.seq ?_)); rcases bite j with ⟨J, j⟩ | ⟨J, j⟩
   ··refine At.condT rfl (decide_eq_true J) ?_
     refine At.skip (At.thn (At.seq ?_)); refine At.block ?_; refine sR 2 rfl (nT (sR 3 rfl ?_)); obtain ⟨D, j⟩ := bnone j; refine At.y (Y.ixRd hr0 rfl rfl rfl rfl rfl rfl rfl D.1 D.2) rfl rfl rfl (At.y (Y.ldFl hr0 rfl (q := 0) rfl rfl D.1 D.2 rfl rfl rfl) rfl rfl rfl (At.run 1 rfl (nT ?_))); rcases bite j with ⟨L, j⟩ | ⟨L, j⟩
     ··refine At.condT rfl L ?_
       refine sR 2 rfl (nT (At.ret ?_)); refine At.ibr ?_; refine At.thr ?_; have j := bupL a2 U j; refine At.thr ?_; refine At.ibr ?_; refine At.thr ?_; cases bret j; exact At.res (.inl rfl) rfl rfl ⟨rfl, rfl⟩
     ··refine At.condF rfl (bn L) ?_
       refine At.skip ?_; refine At.ibn ?_; refine At.thn (At.region (At.run 2 rfl (At.nil ?_))); have j := bnx hf_ j; exact fun a w e hs => ⟨a4, (IntKind.i64.wrap (p + 1)), a5, j, e.sub ⟨rfl, rfl, rfl, rfl, trivial⟩, hs⟩
   ··refine At.condF rfl (decide_eq_false J) ?_
     refine At.exit ?_; refine At.the ?_; refine At.the ?_; exact fun a w e hs => a3 () (bdn j U) a w (e.sub trivial) hs

noncomputable def Q34.cmp (x y : Q1) : Option Int := Q99.f x.From x.Action x.To y.From y.Action y.To
open Classical in
noncomputable def Q34.f (a0 : List Q1) : Option (List Q1) := if a0.length < 4611686018427387904 ∧ CmpTot Q34.cmp then some (byCmp Q34.cmp a0) else none
theorem Q34.callee : Callee Tryz.prog 42 := ⟨_, Tryz.func42, by kernel_rfl, by kernel_rfl⟩
theorem Q34.spec {a0 : List Q1} (hn0 : a0.length = n0) {r : List Q1} (j : Q34.f a0 = some r) :
 Spec Tryz.prog 42 [.slice A0 n0 c0, .func (.func 55) #[] #[]] R (row Q1.fl 35 A0 n0 c0 a0 :: Fr) (fun v l' => v = .tuple #[] ∧ row Q1.fl 35 A0 n0 c0 r :: Fr = l') := by
 unfold Q34.f at j; split at j
 ·rename_i hb; cases j; refine Q298 Tryz.sort42 Q1.fl (fun w => (Q11 (P := Tryz.prog) (t := 35) (i := Tryz.ti35) rfl).run_isAgg w) (fun w => (Q11 (P := Tryz.prog) (t := 35) (i := Tryz.ti35) rfl).run_sizeOf w) (gcf Q34.cmp) hb.2.1.2 hb.2.2 55 (enters_of Tryz.func55 (by kernel_rfl) rfl) (fun R x y => Q99.spec (gcf_eq hb.2.1 x y)) R Fr hb.1
 ·cases j

noncomputable def Q43.cmp (x y : Q2) : Option Int := Q107.f x.Name x.States y.Name y.States
open Classical in
noncomputable def Q43.f (a0 : List Q2) : Option (List Q2) := if a0.length < 4611686018427387904 ∧ CmpSwo Q43.cmp ∧ CmpParts Q43.cmp a0 then some (byCmp Q43.cmp a0) else none
theorem Q43.callee : Callee Tryz.prog 107 := ⟨_, Tryz.func107, by kernel_rfl, by kernel_rfl⟩
theorem Q43.spec {a0 : List Q2} (hn0 : a0.length = n0) {r : List Q2} (j : Q43.f a0 = some r) :
 Spec Tryz.prog 107 [.slice A0 n0 c0, .func (.func 59) #[] #[]] R (grow Q2.ow 37 A0 n0 c0 a0 :: Fr) (fun v l' => v = .tuple #[] ∧ grow Q2.ow 37 A0 n0 c0 r :: Fr = l') := by
 unfold Q43.f at j; split at j
 ·rename_i hb; cases j; refine Q331 Tryz.sort107 Q2.ow (fun w => (Q11 (P := Tryz.prog) (t := 37) (i := Tryz.ti37) rfl).run_isAgg w) (fun w => (Q11 (P := Tryz.prog) (t := 37) (i := Tryz.ti37) rfl).run_sizeOf w) (gcf Q43.cmp) hb.2.1.2 59 (enters_of Tryz.func59 (by kernel_rfl) rfl) ?_ R Fr hb.1 hb.2.2; rintro R x y cs cs' ⟨_, _, rfl, rfl, ⟨_, _, rfl, hc0_1, hr0_1⟩⟩ ⟨_, _, rfl, rfl, ⟨_, _, rfl, hc1_1, hr1_1⟩⟩; exact Q107.spec hr0_1 rfl hc0_1 hr1_1 rfl hc1_1 (gcf_eq hb.2.1 x y)
 ·cases j

end Go.Bw
namespace Go.Bw
open Go Go.RowKit

noncomputable def anyOrder {α β : Type} (xs : List α) (F : List α → Option β) : Option β :=
 open Classical in if h : ∃ r, ∀ ys, ys.Perm xs → F ys = some r then some h.choose else none
theorem Q251 {α β : Type} {xs : List α} {F : List α → Option β} {r : β} : anyOrder xs F = some r ↔ ∀ ys, ys.Perm xs → F ys = some r := by
 unfold anyOrder
 constructor
 ·intro h
  split at h
  ·rename_i hx
   have := Option.some.inj h
   intro ys hy
   rw [← this]
   exact hx.choose_spec ys hy
  ·cases h
 ·intro h
  have hx : ∃ r, ∀ ys, ys.Perm xs → F ys = some r := ⟨r, h⟩
  rw [dif_pos hx]
  have h1 := hx.choose_spec xs (List.Perm.refl _)
  rw [h xs (List.Perm.refl _)] at h1
  exact h1.symm
theorem banyOrder {α β ω : Type} {xs : List α} {F : List α → Option β} {G : β → Option ω} {r : ω} (h : (anyOrder xs F).bind G = some r) : ∀ ys, ys.Perm xs → (F ys).bind G = some r := by
 obtain ⟨t, h1, h2⟩ := bsome h
 intro ys hy
 rw [Q251.1 h1 ys hy]
 exact h2
def foldO {σ α : Type} (step : σ → α → Option σ) : σ → List α → Option σ
 | s, [] => some s
 | s, x :: xs => (step s x).bind fun t => foldO step t xs
theorem Q223 {σ α : Type} {step : σ → α → Option σ} : ∀ {xs ys : List α} {s : σ}, foldO step s (xs ++ ys) = (foldO step s xs).bind fun t => foldO step t ys
 | [], _, _ => rfl
 | x :: xs, ys, s => by
  show (step s x).bind _ = ((step s x).bind _).bind _
  cases step s x with
  | none => rfl
  | some t => exact Q223 (xs := xs)
theorem foldO_go {σ α ω : Type} {step : σ → α → Option σ} {kvs : List α} {done rest : List α} {x : α} {s0 s : σ} {G : σ → Option ω} {r : ω} (h : ∀ ys, ys.Perm kvs → (foldO step s0 ys).bind G = some r) (hs : foldO step s0 done = some s) (hp : (done ++ x :: rest).Perm kvs) :
 ∃ t, step s x = some t ∧ foldO step s0 (done ++ [x]) = some t := by
 have := h _ hp
 rw [Q223, hs] at this
 obtain ⟨u, h1, _⟩ := bsome this
 obtain ⟨t, h2, _⟩ := bsome (show (step s x).bind (fun t => foldO step t rest) = some u from h1)
 refine ⟨t, h2, ?_⟩
 rw [Q223, hs]
 show (step s x).bind (fun t => foldO step t []) = _
 rw [h2]
 rfl
theorem foldO_end {σ α ω : Type} {step : σ → α → Option σ} {kvs : List α} {done : List α} {s0 s : σ} {G : σ → Option ω} {r : ω} (h : ∀ ys, ys.Perm kvs → (foldO step s0 ys).bind G = some r) (hs : foldO step s0 done = some s) (hp : done.Perm kvs) : G s = some r := by
 have := h _ hp
 rw [hs] at this
 exact this
noncomputable def ordered {σ τ α β : Type} (kvs : List α) (step : σ → α → Option σ) (s0 : σ) (out : σ → τ) (f : τ → Option β) : Option β := anyOrder kvs fun ys => (foldO step s0 ys).bind fun s => f (out s)
theorem bordered {σ τ α β ω : Type} {kvs : List α} {step : σ → α → Option σ} {s0 : σ} {out : σ → τ} {f : τ → Option β} {G0 : β → Option ω} {r : ω} (h : (ordered kvs step s0 out f).bind G0 = some r) :
 ∃ G : τ → Option ω, (∀ y, G y = (f y).bind G0) ∧ ∀ ys, ys.Perm kvs → (foldO step s0 ys).bind (fun s => G (out s)) = some r :=
 ⟨fun y => (f y).bind G0, fun _ => rfl, fun ys hy => by
  have := banyOrder h ys hy
  rwa [Option.bind_assoc] at this⟩
theorem rng_lt {α : Type} {kvs done tl : List α} {z : α} {m : Nat} (hp : (done ++ z :: tl).Perm kvs) (hm : m + done.length = kvs.length) : tl.length < m ∧ tl.length + (done ++ [z]).length = kvs.length := by
 have := hp.length_eq
 simp at this ⊢
 omega
theorem Q256 {α : Type} (xs : List α) : (List.range xs.length).filterMap (fun i => xs[i]?) = xs := by
 induction xs with
 | nil => rfl
 | cons x xs ih =>
  rw [List.length_cons, List.range_succ_eq_map, List.filterMap_cons, List.filterMap_map]
  simp only [List.getElem?_cons_zero, Function.comp_def, List.getElem?_cons_succ]
  rw [ih]
theorem Q239 {α : Type} {xs done : List α} {is : List Nat} (hd : done.map some = is.map fun i => xs[i]?) : done = is.filterMap fun i => xs[i]? := by
 induction is generalizing done with
 | nil => cases done <;> simp at hd ⊢
 | cons i is ih =>
  cases done with
  | nil => simp at hd
  | cons x done =>
   simp only [List.map_cons, List.cons.injEq] at hd
   rw [List.filterMap_cons, ← hd.1, ← ih hd.2]
theorem idx_perm {α : Type} {xs done : List α} {is : List Nat} (hn : is.Nodup) (hl : ∀ i ∈ is, i < xs.length) (hd : done.map some = is.map fun i => xs[i]?) : ∃ rest, (done ++ rest).Perm xs := by
 refine ⟨((List.range xs.length).filter fun i => !is.contains i).filterMap fun i => xs[i]?, ?_⟩
 rw [Q239 hd, ← List.filterMap_append]
 have hp : (is ++ (List.range xs.length).filter fun i => !is.contains i).Perm (List.range xs.length) := by
  refine (List.perm_ext_iff_of_nodup ?_ List.nodup_range).2 fun a => ?_
  ·rw [List.nodup_append]
   refine ⟨hn, List.nodup_range.filter _, fun a ha b hb hab => ?_⟩
   subst hab
   simp at hb
   exact hb.2 ha
  ·simp only [List.mem_append, List.mem_filter, List.mem_range]
   constructor
   ·rintro (h | h)
    ·exact hl a h
    ·exact h.1
   ·intro h
    by_cases ha : a ∈ is
    ·exact .inl ha
    ·exact .inr ⟨h, by simpa using ha⟩
 have := hp.filterMap fun i => xs[i]?
 rwa [Q256] at this
theorem idx_full {α : Type} {xs done : List α} {is : List Nat} (hn : is.Nodup) (hl : ∀ i ∈ is, i < xs.length) (hf : ∀ i < xs.length, i ∈ is) (hd : done.map some = is.map fun i => xs[i]?) : done.Perm xs := by
 rw [Q239 hd]
 have hp : is.Perm (List.range xs.length) := (List.perm_ext_iff_of_nodup hn List.nodup_range).2 fun a => by
  rw [List.mem_range]
  exact ⟨hl a, hf a⟩
 have := hp.filterMap fun i => xs[i]?
 rwa [Q256] at this
section
variable {κ ν : Type}
def rngo (kv : κ → Value) (vv : ν → Value) (b r : Nat) (kvs done : List (κ × ν)) : HProp := fun h =>
 ∃ (es : List MapEntry) (clock since stp : Nat) (seen : Array Nat) (is : List Nat), h b = some (.map es.toArray clock) ∧ h r = some (.mapIter (some b) since seen stp) ∧ b ≠ r ∧
  es.map (fun e => (e.key, e.val)) = kvs.map (fun p => (kv p.1, vv p.2)) ∧ es.Pairwise (fun x y => x.born < y.born) ∧ (∀ e ∈ es, e.born < clock) ∧ since = clock ∧ stp = clock ∧
  is.Nodup ∧ (∀ i ∈ is, i < kvs.length) ∧ (done.map some = is.map fun i => kvs[i]?) ∧ seen.toList.map some = is.map fun i => es[i]?.map (·.born)
end
section
variable {P : Program} [Tys P] {os : List Oper} {Q : Exit → Act → World → Prop} {rest : List Oper} {n : Nat} {ds : List Deferred} {R : Res} {env : List (Nat × Value)} {l l' : List HProp}
variable {d ty t : Nat} {pos : String} {af : Array Edge} {g : Option (Nat × Bool)} {κ ν : Type} [DecidableEq κ] {kv : κ → Value} {vv : ν → Value} {kvs done : List (κ × ν)} {b r kt et : Nat} {K : Act → World → Prop}
theorem At.rangeMap {x : Operand} {ii : TI} (f : Frt l (mapo kv vv b kvs) l') (hg : grd os env g = some true) (hi : ti P t = some ii) (hk : ii.k = .map kt et) (hx : ev env x = some (.map (some b))) (hd : Nat.blt d n = true)
 (h : ∀ r, At n ds R ((d, .pointer (some ⟨r, 0, none⟩)) :: env) (rngo kv vv b r kvs [] :: l') (wpList P os.toArray Q rest)) :
 At n ds R env l (wpList P os.toArray Q (⟨some d, .range t x, ty, pos, af, g⟩ :: rest)) := Q78 hg rfl hd fun a w e hs => by
 have hs1 := hs.frt f
 obtain ⟨es, clock, hb, _⟩ := Q205 hs1
 have hgo : (getObj b).run P w = .ok (.map es.toArray clock) w := MapKept.run_getObj_map hb
 have h1 := hs1.alloc (.mapIter (some b) clock #[] clock)
 refine ⟨_, w.alloc (.mapIter (some b) clock #[] clock), rngo kv vv b w.heap.size kvs [] :: l', ?_, ?_, h w.heap.size⟩
 ·simp [execOp, Instr.range, e.ev hx, run_underlying ((Q11 hi).map hk), hgo, Result.andThen]
 ·obtain ⟨ok, h0, ⟨k1, k2, p1, ⟨k3, k4, m1, st, d2, s3, s4⟩, d1, s1, s2⟩, dR, ss⟩ := h1
  have d13 : Disj k1 k3 := d1.sub (Sub.refl _) s3
  refine ⟨ok, h0, ⟨uni k1 k3, k4, ?_, st, Disj.uni_l (d1.sub (Sub.refl _) s4) d2, Q106 s1 (s3.trans s2), s4.trans s2⟩, dR, ss⟩
  obtain ⟨es', clock', hb', hm, hp, hc⟩ := m1
  have hne : b ≠ w.heap.size := fun e => by subst e; exact d13 _ _ _ p1 hb'
  have hbb : w.heap[b]? = some (.map es.toArray clock) := hb
  have heq : Obj.map es'.toArray clock' = .map es.toArray clock := by
   have h5 : (w.alloc (.mapIter (some b) clock #[] clock)).heap[b]? = some (.map es'.toArray clock') := ss _ _ (s2 _ _ (s3 _ _ hb'))
   rw [Below.heap_alloc _ _ _ (Array.getElem?_eq_some_iff.1 hb).1, hbb] at h5
   exact (Option.some.inj h5).symm
  cases heq
  exact ⟨es, clock, clock, clock, #[], [], Q91 d13 _ _ hb', Q92 k1 k3 _ _ p1, hne, hm, hp, hc, rfl, rfl, List.nodup_nil, by simp, by simp, by simp⟩
theorem sat_rng {w : World} (hs : sat R (rngo kv vv b r kvs done :: l) w) : ∃ (es : List MapEntry) (clock : Nat) (seen : Array Nat) (is : List Nat), w.heap[b]? = some (.map es.toArray clock) ∧ w.heap[r]? = some (.mapIter (some b) clock seen clock) ∧ b ≠ r ∧
 es.map (fun e => (e.key, e.val)) = kvs.map (fun p => (kv p.1, vv p.2)) ∧ es.Pairwise (fun x y => x.born < y.born) ∧ (∀ e ∈ es, e.born < clock) ∧
 is.Nodup ∧ (∀ i ∈ is, i < kvs.length) ∧ (done.map some = is.map fun i => kvs[i]?) ∧ seen.toList.map some = is.map fun i => es[i]?.map (·.born) := by
 obtain ⟨h1, ⟨es, clock, since, stp, seen, is, a1, a2, a3, a4, a5, a6, rfl, rfl, a7⟩, s⟩ := hs.head
 exact ⟨es, _, seen, is, s _ _ a1, s _ _ a2, a3, a4, a5, a6, a7⟩
theorem At.nextMap {x : Operand} (hg : grd os env g = some true) (hx : ev env x = some (.pointer (some ⟨r, 0, none⟩))) (f : Frt l (rngo kv vv b r kvs done) l') (hd : Nat.blt d n = true)
 (hF : done.Perm kvs → At n ds R ((d, .tuple #[.bool false]) :: env) (rngo kv vv b r kvs done :: l') (wpList P os.toArray Q rest))
 (hT : ∀ (z : κ × ν) tl, (done ++ z :: tl).Perm kvs → At n ds R ((d, .tuple #[.bool true, kv z.1, vv z.2]) :: env) (rngo kv vv b r kvs (done ++ [z]) :: l') (wpList P os.toArray Q rest)) :
 At n ds R env l (wpList P os.toArray Q (⟨some d, .next x false, ty, pos, af, g⟩ :: rest)) := Q78 hg rfl hd fun a w e hs => by
 have hs1 := hs.frt f
 obtain ⟨es, clock, seen, is, hb, hr, hne, hm, hbn, hcl, hn, hl, hdn, hsn⟩ := sat_rng hs1
 have hlen : es.length = kvs.length := Q199 hm
 have hinj : ∀ i j, i < es.length → j < es.length → es[i]?.map (·.born) = es[j]?.map (·.born) → i = j := fun i j hi hj he => by
  rw [List.getElem?_eq_getElem hi, List.getElem?_eq_getElem hj] at he
  simp at he
  have hp := List.pairwise_iff_getElem.1 hbn
  rcases Nat.lt_trichotomy i j with h3 | h3 | h3
  ·have := hp i j hi hj h3; omega
  ·exact h3
  ·have := hp j i hj hi h3; omega
 have hseen : ∀ i, i < es.length → (seen.contains (es[i]?.map (·.born)).get! = true ↔ i ∈ is) := fun i hi => by
  rw [List.getElem?_eq_getElem hi]
  simp only [Option.map_some, Option.get!_some]
  rw [Array.contains_iff_mem, ← Array.mem_toList_iff]
  constructor
  ·intro h
   have : some es[i].born ∈ seen.toList.map some := List.mem_map_of_mem h
   rw [hsn] at this
   obtain ⟨j, hj, hje⟩ := List.mem_map.1 this
   have := hinj j i (by rw [hlen]; exact hl j hj) hi (by rw [hje, List.getElem?_eq_getElem hi]; rfl)
   subst this; exact hj
  ·intro h
   have : es[i]?.map (·.born) ∈ seen.toList.map some := by rw [hsn]; exact List.mem_map_of_mem (f := fun i => es[i]?.map (·.born)) h
   obtain ⟨q, hq, hqe⟩ := List.mem_map.1 this
   rw [List.getElem?_eq_getElem hi] at hqe
   simp at hqe
   rw [← hqe]; exact hq
 rcases run_next_at (P := P) w ty r b clock clock seen es.toArray clock hr hb (fun x hx => hcl x (by simpa using hx)) (Nat.le_refl _) with ⟨h0, hrun⟩ | ⟨e1, he, w1, hal, hrun⟩
 ·refine ⟨.tuple #[.bool false], w, rngo kv vv b r kvs done :: l', ?_, hs1, hF ?_⟩
  ·simp only [execOp, e.ev hx, Sem.run_bind, hrun, Result.andThen, Sem.run_pure]
  ·refine idx_full hn hl (fun i hi => ?_) hdn
   have hi' : i < es.length := by omega
   have := all_seen es.toArray seen h0 es[i] (by simp)
   refine (hseen i hi').1 ?_
   rw [List.getElem?_eq_getElem hi']
   simpa using this
 ·obtain ⟨hem, hes⟩ := mem_left he
  have hem' : e1 ∈ es := by simpa using hem
  obtain ⟨i, hi, hie⟩ := List.getElem_of_mem hem'
  have hi' : i < kvs.length := by omega
  have hnot : i ∉ is := fun h => by
   have := (hseen i hi).2 h
   rw [List.getElem?_eq_getElem hi, hie] at this
   simp at this hes
   exact hes this
  have hkv : (e1.key, e1.val) = (kv kvs[i].1, vv kvs[i].2) := by
   have := congrArg (fun l => l[i]?) hm
   simp only [List.getElem?_map, List.getElem?_eq_getElem hi, List.getElem?_eq_getElem hi', Option.map_some, hie] at this
   exact Option.some.inj this
  obtain ⟨hk1, hk2⟩ := Prod.mk.inj hkv
  have hn' : (is ++ [i]).Nodup := by
   rw [List.nodup_append]
   exact ⟨hn, by simp, fun a ha c hc hac => by simp at hc; subst hc hac; exact hnot ha⟩
  have hl' : ∀ j ∈ is ++ [i], j < kvs.length := fun j hj => by
   rcases List.mem_append.1 hj with h | h
   ·exact hl j h
   ·simp at h; subst h; exact hi'
  have hdn' : (done ++ [kvs[i]]).map some = (is ++ [i]).map fun j => kvs[j]? := by
   rw [List.map_append, List.map_append, hdn]
   simp [hi']
  obtain ⟨tl, htl⟩ := idx_perm hn' hl' hdn'
  refine ⟨.tuple #[.bool true, kv kvs[i].1, vv kvs[i].2], ChangeMaps.setBlock w1 r (.mapIter (some b) clock (seen.push e1.born) clock), rngo kv vv b r kvs (done ++ [kvs[i]]) :: l', ?_, ?_, hT kvs[i] tl (by simpa using htl)⟩
  ·simp only [execOp, e.ev hx, Sem.run_bind, hrun, Result.andThen, Sem.run_pure, hk1, hk2]
  ·have hs2 : sat R (rngo kv vv b r kvs done :: l') w1 := by rcases hal with rfl | rfl <;> first | exact hs1 | exact hs1.drew
   have hb1 : w1.heap[b]? = some (.map es.toArray clock) := by rcases hal with rfl | rfl <;> exact hb
   have hr1 : w1.heap[r]? = some (.mapIter (some b) clock seen clock) := by rcases hal with rfl | rfl <;> exact hr
   obtain ⟨h1, ⟨es2, c2, s2, q2, seen2, is2, a1, a2, _⟩, s, kk⟩ := hs2.upd
   have hset := MapKept.heap_set (o' := .mapIter (some b) clock (seen.push e1.born) clock) hr1
   refine kk _ (fun x => if x = r then some (.mapIter (some b) clock (seen.push e1.born) clock) else h1 x) _ ⟨es, clock, clock, clock, seen.push e1.born, is ++ [i], ?_, if_pos rfl, hne, hm, hbn, hcl, rfl, rfl, hn', hl', hdn', ?_⟩ rfl rfl rfl (Nat.le_refl _) (fun x o hx hnn => ?_) (fun x o hx => ?_) (fun x o hx => ?_)
   ·show (if b = r then _ else h1 b) = _
    rw [if_neg hne]
    have := s _ _ a1
    simp only [wh] at this
    rw [hb1] at this
    rw [a1]; exact this.symm
   ·rw [Array.toList_push, List.map_append, hsn, List.map_append]
    simp [hi, hie]
   ·have hxr : x ≠ r := fun h => by subst h; rw [a2] at hnn; cases hnn
    show (w1.heap.setIfInBounds r _)[x]? = _
    rw [hset.2 x hxr]; exact hx
   ·by_cases hxr : x = r
    ·subst hxr
     have hx : (if x = x then some (Obj.mapIter (some b) clock (seen.push e1.born) clock) else h1 x) = some o := hx
     rw [if_pos rfl] at hx
     cases hx
     exact hset.1
    ·have hx : (if x = r then some (Obj.mapIter (some b) clock (seen.push e1.born) clock) else h1 x) = some o := hx
     rw [if_neg hxr] at hx
     show (w1.heap.setIfInBounds r _)[x]? = _
     rw [hset.2 x hxr]
     exact s x o hx
   ·by_cases hxr : x = r
    ·subst hxr; exact .inl ⟨_, a2⟩
    ·have hx : (if x = r then some (Obj.mapIter (some b) clock (seen.push e1.born) clock) else h1 x) = some o := hx
     rw [if_neg hxr] at hx; exact .inl ⟨o, hx⟩
theorem Y.entry {x : Operand} {z : κ × ν} {dd : Option Nat} (f : Frt l (rngo kv vv b r kvs (done ++ [z])) l') (hx : ev env x = some (.pointer (some ⟨r, 0, none⟩))) : Y P n ds R env l ⟨dd, .entry x, ty, pos, af, g⟩ (.tuple #[kv z.1, vv z.2]) := fun a w e hs => by
 have hs1 := hs.frt f
 obtain ⟨es, clock, seen, is, hb, hr, hne, hm, hbn, hcl, hn, hl, hdn, hsn⟩ := sat_rng hs1
 have hlen : es.length = kvs.length := Q199 hm
 rcases List.eq_nil_or_concat is with rfl | ⟨is0, i, rfl⟩
 ·simp at hdn
 ·rw [List.concat_eq_append] at *
  simp only [List.map_append, List.map_cons, List.map_nil] at hdn hsn
  have hi : i < kvs.length := hl i (by simp)
  have hie : i < es.length := by omega
  have hz : some z = kvs[i]? := by
   have := List.append_inj_right' hdn rfl
   simpa using this
  rw [List.getElem?_eq_getElem hi] at hz
  have hz' := Option.some.inj hz
  have hkv : (es[i].key, es[i].val) = (kv z.1, vv z.2) := by
   have := congrArg (fun l => l[i]?) hm
   simp only [List.getElem?_map, List.getElem?_eq_getElem hie, List.getElem?_eq_getElem hi, Option.map_some] at this
   rw [hz']
   exact Option.some.inj this
  obtain ⟨hk1, hk2⟩ := Prod.mk.inj hkv
  have hsz : seen.toList ≠ [] := fun h => by rw [h] at hsn; simp at hsn
  have hseen : ∃ s0 : Array Nat, seen = s0.push es[i].born := by
   refine ⟨⟨seen.toList.dropLast⟩, ?_⟩
   apply Array.ext'
   rw [Array.toList_push]
   show seen.toList = seen.toList.dropLast ++ [es[i].born]
   have h1 := List.dropLast_concat_getLast hsz
   have h2 : seen.toList.getLast hsz = es[i].born := by
    have h3 : (seen.toList.map some).getLast? = some (some es[i].born) := by rw [hsn]; simp [hie]
    rw [List.getLast?_map, List.getLast?_eq_some_getLast hsz] at h3
    simpa using h3
   rw [← h2]; exact h1.symm
  obtain ⟨s0, hs0⟩ := hseen
  rw [hs0] at hr
  have := run_entry_at (P := P) w r b clock s0 es.toArray clock es[i] hr hb (by simp) (by
   show (es.map (·.born)).Nodup
   exact List.pairwise_map.2 (hbn.imp fun h => Nat.ne_of_lt h))
  simp only [execOp, e.ev hx, this, Sem.run_bind, Result.andThen, Sem.run_pure, hk1, hk2]
theorem At.rngEnd (f : Frt l (rngo kv vv b r kvs done) l') (h : At n ds R env (mapo kv vv b kvs :: l') K) : At n ds R env l K := fun a w e hs => h a w e ((hs.frt f).imp fun h ⟨es, clock, _, _, _, _, a1, _, _, a4, a5, a6, _⟩ => ⟨es, clock, a1, a4, a5, a6⟩)
end
end Go.Bw
namespace Go.Bw
open Go Go.RowKit Go.Proofs
variable {R : Res} {Fr : List HProp} {b0 n0_0 c0_0 n0_3 c0_3 n0_4 c0_4 n0_5 c0_5 n0_6 c0_6 b0_7 : Nat} {A0_0 A0_3 A0_4 A0_5 A0_6 : Option Addr}
noncomputable def Q31.l1b (q : List Q10) (G : List Bs) (u : List Q1) (p : Int) : Option (((List Q1) × Int) ⊕ (((List Q1)) ⊕ ((List Q2) × (List Q1) × (List Bs) × Int))) :=
 if p < (q.length : Int) then
 if (0 : Int) ≤ p ∧ p < (q.length : Int) then
 (Q59.f G ((gt q p).action)).bind fun D =>
 if (u.length + ([(⟨(gt q p).from_, D, (gt q p).to⟩ : Q1)] : List Q1).length) * 24 ≤ 140737488355328 then
 nx ((u ++ ([(⟨(gt q p).from_, D, (gt q p).to⟩ : Q1)] : List Q1)), IntKind.i64.wrap (p + 1))
 else none
 else none
 else
 dn (.inl u)
noncomputable def Q31.l1 (p : List Q10) (q : List Bs) (u : List Q1) (D : Int) : Option (((List Q1)) ⊕ ((List Q2) × (List Q1) × (List Bs) × Int)) := iter (fun t_ : (List Q1) × Int => Q31.l1b p q t_.1 t_.2) (u, D)
noncomputable def Q31.l0b  (p : Bs × Bool) (q : List Bs) : Option ((List Bs)) :=
 if (q.length + ([p.1] : List Bs).length) * 16 ≤ 140737488355328 then
 some (q ++ ([p.1] : List Bs))
 else none
noncomputable def Q31.f (Z : List Q8) (a0 : Option Q5) (q : Int) (u : List Bs) (D : List Q1) (G : List Q2) (I : List Q10) (J : List (Bs × Bool)) : Option ((List Q2) × (List Q1) × (List Bs) × Int) :=
 ordered J (fun (t_ : (List Bs)) (z_ : Bs × Bool) => Q31.l0b  z_ t_) u (fun L => L) (fun (O : List Bs) =>
 (Q90.f O).bind fun p =>
 jn (Q31.l1 I p D 0) (fun (U : List Q1) =>
 (Q34.f U).bind fun V =>
 (Q43.f G).bind fun X =>
 some (X, V, p, q)))
theorem Q31.callee : Callee Tryz.prog 76 := ⟨_, Tryz.func76, by kernel_rfl, by kernel_rfl⟩
theorem Q31.spec {U : List Q8} {b4 : Option Q5} {I : Int} {a0 : List Bs} {J : List Q1} {D : List Q2} {p : List Q10} {Z : List (Bs × Bool)} (L : Option Nat) (hr0_0 : RdS Q8.fl.rep R.heap A0_0 U) (hn0_0 : U.length = n0_0) (hc0_0 : n0_0 ≤ c0_0) (hn0_3 : a0.length = n0_3) (hn0_4 : J.length = n0_4) (hn0_5 : D.length = n0_5) (hn0_6 : p.length = n0_6) {r : (List Q2) × (List Q1) × (List Bs) × Int} (j : Q31.f U b4 I a0 J D p Z = some r) :
 Spec Tryz.prog 76 [bp b0] R (pc b0 [.slice A0_0 n0_0 c0_0, optp L, i6 I, .slice A0_3 n0_3 c0_3, .slice A0_4 n0_4 c0_4, .slice A0_5 n0_5 c0_5, .slice A0_6 n0_6 c0_6, .map (some b0_7)] 114 :: optb (Ow.fl Q5.fl) 58 L b4 :: row Fl.bs 9 A0_3 n0_3 c0_3 a0 :: row Q1.fl 35 A0_4 n0_4 c0_4 J :: grow Q2.ow 37 A0_5 n0_5 c0_5 D :: row Q10.fl 148 A0_6 n0_6 c0_6 p :: mapo Fl.bs.ov Fl.bool.ov b0_7 Z :: Fr) (fun v l' => ∃ (b9 : Nat) (d7 : Option Addr) (d8 : Nat) (c8 : Nat) (d9 : Option Addr) (e1 : Nat) (e9 : Value) (f0 : Value), v = .agg #[i6 r.2.2.2, .slice d9 c8 e1, .slice d7 b9 d8, .slice A0_5 n0_5 c0_5] ∧ pc b0 [.slice A0_0 n0_0 c0_0, optp L, i6 I, e9, f0, .slice A0_5 n0_5 c0_5, .slice A0_6 n0_6 c0_6, .map (some b0_7)] 114 :: optb (Ow.fl Q5.fl) 58 L b4 :: row Fl.bs 9 d9 c8 e1 r.2.2.1 :: row Q1.fl 35 d7 b9 d8 r.2.1 :: grow Q2.ow 37 A0_5 n0_5 c0_5 r.1 :: row Q10.fl 148 A0_6 n0_6 c0_6 p :: mapo Fl.bs.ov Fl.bool.ov b0_7 Z :: Fr = l' ∧ r.2.1.length = b9 ∧ r.2.2.1.length = c8) := by
 subst hn0_0; subst hn0_3; subst hn0_4; subst hn0_5; subst hn0_6; refine Spec.of Tryz.func76 rfl rfl ?_; unfold Q31.f at j; have j := brun j; refine At.seq (At.region ?_); refine At.alloc rfl rfl rfl (fun a1 => ?_); refine nT (sR 3 rfl (At.y (Y.load rfl rfl (.s .z) rfl rfl rfl) rfl rfl rfl ?_)); refine At.alloc rfl rfl rfl (fun O => ?_); refine At.store rfl rfl rfl rfl .z rfl rfl rfl (.c (.c (.c (.c .n)))) ?_; refine nT (At.seq (sR 3 rfl (At.y (Y.load rfl rfl (.s (.s .z)) rfl rfl rfl) rfl rfl rfl ?_))); refine At.rangeMap (.s (.s (.s (.s (.s (.s (.s (.s .z)))))))) rfl rfl rfl rfl rfl (fun e2 => ?_); refine nT ?_; refine At.block ?_; obtain ⟨f1, f9, hall1092⟩ := bordered j; clear j; let T1 : HProp := pc a1 [i6 0, .slice none 0 0, .slice none 0 0, .slice none 0 0] 26; let T2 : HProp := optb (Ow.fl Q5.fl) 58 L b4; let T3 : HProp := row Q1.fl 35 A0_4 J.length c0_4 J; let T4 : HProp := grow Q2.ow 37 A0_5 D.length c0_5 D; let T5 : HProp := row Q10.fl 148 A0_6 p.length c0_6 p; refine At.loopJ (X := (List Bs) × (List (Bs × Bool)) × Nat × (Option Addr) × Nat × Value) (Y := (List Bs) × Nat × (Option Addr) × Nat × Value) (e0 := 0) (fun s_ => [(0, bp b0), (2, bp a1), (3, bp O), (15, bp e2)]) (fun s_ => rngo Fl.bs.ov Fl.bool.ov b0_7 e2 Z s_.2.1 :: pc O [i6 I, .slice s_.2.2.2.1 s_.2.2.1 s_.2.2.2.2.1, .slice A0_4 J.length c0_4, .slice A0_5 D.length c0_5] 26 :: T1 :: pc b0 [.slice A0_0 U.length c0_0, optp L, i6 I, s_.2.2.2.2.2, .slice A0_4 J.length c0_4, .slice A0_5 D.length c0_5, .slice A0_6 p.length c0_6, .map (some b0_7)] 114 :: T2 :: row Fl.bs 9 s_.2.2.2.1 s_.2.2.1 s_.2.2.2.2.1 s_.1 :: T3 :: T4 :: T5 :: Fr) (fun m_ => fun s_ => (foldO (fun (t_ : (List Bs)) (z_ : Bs × Bool) => Q31.l0b  z_ t_) a0 s_.2.1 = some s_.1 ∧ m_ + (s_.2.1).length = (Z).length) ∧ s_.1.length = s_.2.2.1) (Z).length (a0, [], a0.length, A0_3, c0_3, .slice A0_3 a0.length c0_3) ⟨⟨rfl, rfl⟩, rfl⟩ (fun s_ => [(0, bp b0), (2, bp a1), (3, bp O)]) (fun s_ => mapo Fl.bs.ov Fl.bool.ov b0_7 Z :: pc O [i6 I, .slice s_.2.2.1 s_.2.1 s_.2.2.2.1, .slice A0_4 J.length c0_4, .slice A0_5 D.length c0_5] 26 :: T1 :: pc b0 [.slice A0_0 U.length c0_0, optp L, i6 I, s_.2.2.2.2, .slice A0_4 J.length c0_4, .slice A0_5 D.length c0_5, .slice A0_6 p.length c0_6, .map (some b0_7)] 114 :: T2 :: row Fl.bs 9 s_.2.2.1 s_.2.1 s_.2.2.2.1 s_.1 :: T3 :: T4 :: T5 :: Fr) (fun s_ => f1 s_.1 = some r ∧ s_.1.length = s_.2.1) (fun a w e hs => ⟨e.sub ⟨rfl, rfl, rfl, rfl, trivial⟩, hs⟩) ?_ (fun g0 => ?_)
 ·rintro ⟨a2, g1, a4, a5, a6⟩ ⟨j, g2⟩; obtain rfl : a2.length = g1 := g2; have j := (f9 _).symm.trans j
  ·refine At.ibx ?_; refine At.thn (sR 1 rfl (At.y (Y.load rfl rfl (.s .z) rfl rfl rfl) rfl rfl rfl (At.f5 ?_))); obtain ⟨c9, g3, j⟩ := bbind j; refine At.call rfl Q90.callee rfl rfl rfl (Q90.spec rfl g3) ?_; rintro _ _ ⟨rfl, rfl⟩; refine nT (At.seq (sR 3 rfl ?_)); refine At.y (Y.load rfl rfl (.s (.s (.s (.s .z)))) rfl rfl rfl) rfl rfl rfl ?_; refine At.run 2 rfl (nT ?_); refine At.block ?_; obtain ⟨g4, g5, n5, j⟩ := bjoin j; obtain ⟨e3, d0, g6⟩ := bsome j; clear j; unfold Q31.l1 at d0; obtain ⟨d1, a7⟩ := Q16.1 d0; clear d0; let T6 : HProp := row Fl.bs 9 a4 a2.length a5 c9; let T7 : HProp := mapo Fl.bs.ov Fl.bool.ov b0_7 Z; refine At.loopJ (X := (List Q1) × Int × Nat × (Option Addr) × Nat × Value) (Y := (List Q1) × Nat × (Option Addr) × Nat × Value) (e0 := 2) (fun s_ => [(2, bp a1), (3, bp O), (32, .slice A0_6 p.length c0_6), (33, i6 (p.length : Int)), (34, i6 s_.2.1)]) (fun s_ => T6 :: T7 :: pc O [i6 I, .slice a4 a2.length a5, .slice s_.2.2.2.1 s_.2.2.1 s_.2.2.2.2.1, .slice A0_5 D.length c0_5] 26 :: T1 :: pc b0 [.slice A0_0 U.length c0_0, optp L, i6 I, a6, s_.2.2.2.2.2, .slice A0_5 D.length c0_5, .slice A0_6 p.length c0_6, .map (some b0_7)] 114 :: T2 :: row Q1.fl 35 s_.2.2.2.1 s_.2.2.1 s_.2.2.2.2.1 s_.1 :: T4 :: T5 :: Fr) (fun m_ => fun s_ => iterN (fun t_ : (List Q1) × Int => Q31.l1b p c9 t_.1 t_.2) m_ (s_.1, s_.2.1) = some e3 ∧ s_.1.length = s_.2.2.1) d1 (J, 0, J.length, A0_4, c0_4, .slice A0_4 J.length c0_4) ⟨a7, rfl⟩ (fun s_ => [(2, bp a1), (3, bp O)]) (fun s_ => T6 :: T7 :: pc O [i6 I, .slice a4 a2.length a5, .slice s_.2.2.1 s_.2.1 s_.2.2.2.1, .slice A0_5 D.length c0_5] 26 :: T1 :: pc b0 [.slice A0_0 U.length c0_0, optp L, i6 I, a6, s_.2.2.2.2, .slice A0_5 D.length c0_5, .slice A0_6 p.length c0_6, .map (some b0_7)] 114 :: T2 :: row Q1.fl 35 s_.2.2.1 s_.2.1 s_.2.2.2.1 s_.1 :: T4 :: T5 :: Fr) (fun s_ => g4 (.inl s_.1) = some r ∧ s_.1.length = s_.2.1) (fun a w e hs => ⟨e.sub ⟨rfl, rfl, rfl, rfl, rfl, trivial⟩, (by exact hs)⟩) ?_ (fun g7 => ?_)
   ·rintro ⟨e4, g8, g9, h0, h1⟩ ⟨j, h2⟩; obtain rfl : e4.length = g8 := h2; have j := (g5 _).symm.trans j
    ·refine At.ibx ?_; refine At.thn (sR 1 rfl (At.y (Y.load rfl rfl (.s (.s .z)) rfl rfl rfl) rfl rfl rfl (At.f6 ?_))); obtain ⟨n6, h3, j⟩ := bbind j; refine At.call rfl Q34.callee rfl rfl rfl (Q34.spec rfl h3) ?_; rintro _ _ ⟨rfl, rfl⟩; refine nT (sR 1 rfl (At.y (Y.load rfl rfl (.s (.s (.s .z))) rfl rfl rfl) rfl rfl rfl (At.f7 ?_))); obtain ⟨n7, h4, j⟩ := bbind j; refine At.call rfl Q43.callee rfl rfl rfl (Q43.spec rfl h4) ?_; rintro _ _ ⟨rfl, rfl⟩; refine nT (At.seq (At.region ?_)); refine At.y (Y.load rfl rfl (.s (.s (.s (.s .z)))) rfl rfl rfl) rfl rfl rfl ?_; refine At.store rfl rfl rfl rfl (.s (.s (.s (.s (.s .z))))) rfl rfl rfl (.c (.c (.c (.c .n)))) ?_; refine nT (At.ret ?_); refine At.rowLen (.s (.s .z)) fun h5 => ?_; refine At.rowLen (.s (.s (.s .z))) fun h6 => ?_; refine At.resM (.inl rfl) rfl (RV.cell rfl rfl .z rfl rfl rfl RV.nil) ?_; refine At.drop .z (At.drop (.s (.s (.s (.s .z)))) (At.f3 (At.f6 (At.f2 (At.f3 (At.f4 (At.f6 ?_))))))); refine At.f6 ?_; cases bret j; exact fun a w e hs => ⟨_, ⟨e4.length, g9, h0, a2.length, a4, a5, a6, h1, rfl, rfl, h5, h6⟩, hs⟩
   ·clear a7 d1; rintro d1 ⟨V, u, h7, h8, h9, b5⟩ ⟨a7, k0⟩; obtain rfl : V.length = h7 := k0; obtain ⟨k1, f_, k2, hf_, j⟩ := bit a7; clear a7; have j : (Q31.l1b p c9 V u).bind _ = some e3 := j; unfold Q31.l1b at j
    ·refine sR 1 rfl (nT (At.seq ?_)); rcases bite j with ⟨d2, j⟩ | ⟨d2, j⟩
     ··refine At.condT rfl (decide_eq_true d2) ?_
       refine At.skip (At.thn (At.seq ?_)); refine At.block ?_; refine At.seq (At.region ?_); obtain ⟨b6, j⟩ := bnone j; refine At.y (Y.ix (.s (.s (.s (.s (.s (.s (.s (.s .z)))))))) rfl rfl rfl rfl rfl rfl b6.1 b6.2) rfl rfl rfl ?_; refine At.y (Y.ld (.s (.s (.s (.s (.s (.s (.s (.s .z)))))))) (q := 0) rfl rfl b6.1 b6.2 rfl rfl rfl) rfl rfl rfl ?_; refine At.alloc rfl rfl rfl (fun e5 => ?_); refine At.store rfl rfl rfl rfl .z rfl rfl rfl (.c (.c (.c .n))) ?_; refine nT ?_; refine At.freeze (.s .z) fun n8 d3 d4 d5 n9 k3 => ?_; refine At.held [pc e5 [i6 ((gt p u).from_), .string ⟨((gt p u).action).toArray⟩, i6 ((gt p u).to)] 148, T7, T1, pc b0 [.slice A0_0 U.length c0_0, optp L, i6 I, a6, b5, .slice A0_5 D.length c0_5, .slice A0_6 p.length c0_6, .map (some b0_7)] 114, T2, T4, T5] 16 rfl ?_; refine At.H.pw 0 rfl rfl rfl rfl rfl (.c .z (.c .z (.c (.s .z) (.c (.s .z) (.c (.s .z) (.c (.s (.s .z)) (.c (.s (.s .z)) .n))))))) ?_; refine At.H.pw 2 rfl rfl rfl rfl rfl (.c .z (.c .z (.c (.s .z) (.c (.s .z) (.c (.s .z) (.c (.s (.s .z)) (.c (.s (.s .z)) .n))))))) ?_; refine At.H.tw 3 rfl (Y.load rfl rfl .z rfl rfl rfl) rfl rfl rfl (.c .z (.c .z (.c (.s .z) (.c (.s .z) (.c (.s .z) (.c (.s (.s .z)) (.c (.s (.s .z)) .n))))))) ?_; refine At.H.pw 4 rfl rfl rfl rfl rfl (.c .z (.c .z (.c (.s .z) (.c (.s .z) (.c (.s .z) (.c (.s (.s .z)) (.c (.s (.s .z)) .n))))))) ?_; refine At.H.pw 6 rfl rfl rfl rfl rfl (.c .z (.c .z (.c (.s .z) (.c (.s .z) (.c (.s .z) (.c (.s (.s .z)) (.c (.s (.s .z)) .n))))))) ?_; refine At.H.tw 7 rfl (Y.load rfl rfl .z rfl rfl rfl) rfl rfl rfl (.c .z (.c .z (.c (.s .z) (.c (.s .z) (.c (.s .z) (.c (.s (.s .z)) (.c (.s (.s .z)) .n))))))) ?_; refine At.H.pw 9 rfl rfl rfl rfl rfl (.c .z (.c .z (.c (.s .z) (.c (.s .z) (.c (.s .z) (.c (.s (.s .z)) (.c (.s (.s .z)) .n))))))) ?_; refine At.H.tw 10 rfl (Y.load rfl rfl .z rfl rfl rfl) rfl rfl rfl (.c .z (.c .z (.c (.s .z) (.c (.s .z) (.c (.s .z) (.c (.s (.s .z)) (.c (.s (.s .z)) .n))))))) ?_; obtain ⟨G, d6, j⟩ := bbind j; obtain ⟨b7, j⟩ := bnone j; let T8 : HProp := pc e5 [i6 ((gt p u).from_), .string ⟨((gt p u).action).toArray⟩, i6 ((gt p u).to)] 148; let T9 : HProp := pc b0 [.slice A0_0 U.length c0_0, optp L, i6 I, a6, b5, .slice A0_5 D.length c0_5, .slice A0_6 p.length c0_6, .map (some b0_7)] 114; refine At.H.joinK (X := (Option Addr) × Nat) (fun s_ => [(2, bp a1), (3, bp O), (32, .slice A0_6 p.length c0_6), (33, i6 (p.length : Int)), (34, i6 u)]) (fun s_ => pc O [i6 I, .slice a4 a2.length a5, .slice s_.1 ((V ++ ([(⟨(gt p u).from_, G, (gt p u).to⟩ : Q1)] : List Q1)).length) s_.2, .slice A0_5 D.length c0_5] 26 :: row Q1.fl 35 s_.1 ((V ++ ([(⟨(gt p u).from_, G, (gt p u).to⟩ : Q1)] : List Q1)).length) s_.2 (V ++ ([(⟨(gt p u).from_, G, (gt p u).to⟩ : Q1)] : List Q1)) :: T8 :: T7 :: T1 :: T9 :: T2 :: T4 :: T5 :: Fr) (fun s_ => True) ?_ (fun b8 => ?_)
       ·rintro ⟨k4, k5⟩ -
        ·refine At.ibn ?_; refine At.thn (At.region (At.run 2 rfl (At.nil ?_))); refine At.thaw k3 ?_; refine At.drop (.s (.s (.s .z))) (At.f8 (At.f8 (At.f4 (At.f8 (At.f8 (At.f8 (At.f7 ?_))))))); refine At.f8 (At.f8 ?_); have j := bnx hf_ j; exact fun a w e hs => ⟨k1, ((V ++ ([(⟨(gt p u).from_, G, (gt p u).to⟩ : Q1)] : List Q1)), IntKind.i64.wrap (u + 1), (V ++ ([(⟨(gt p u).from_, G, (gt p u).to⟩ : Q1)] : List Q1)).length, k4, k5, b5), k2, ⟨j, rfl⟩, e.sub ⟨rfl, rfl, rfl, rfl, rfl, trivial⟩, hs⟩
       ·refine At.H.al [1, 5] (Q4 ?_ (Q4 ?_ Q6))
        ··refine At.HO.op rfl ?_
          refine At.y (Y.load rfl rfl (.s (.s .z)) rfl rfl rfl) rfl rfl rfl ?_; refine At.HO.back (.c .z (.c .z (.c (.s .z) (.c (.s .z) (.c (.s .z) (.c (.s (.s .z)) (.c (.s (.s .z)) .n))))))) ?_; refine At.H.al [5] (Q4 ?_ Q6)
          ··refine At.HO.op rfl ?_
            refine At.y (Y.load rfl rfl (.s (.s .z)) rfl rfl rfl) rfl rfl rfl ?_; refine At.HO.back (.c .z (.c .z (.c (.s .z) (.c (.s .z) (.c (.s .z) (.c (.s (.s .z)) (.c (.s (.s .z)) .n))))))) ?_; refine At.H.al [8] (Q4 ?_ Q6)
            ··refine At.HO.op rfl ?_
              refine At.call rfl Q59.callee rfl rfl rfl (Q59.spec d3 d4 d5 d6) ?_; rintro _ _ ⟨rfl, rfl⟩; refine At.HO.back (.c .z (.c .z (.c (.s .z) (.c (.s .z) (.c (.s .z) (.c (.s (.s .z)) (.c (.s (.s .z)) .n))))))) ?_; refine At.H.tw 11 rfl (Y.build (is := [0, 1, 2]) (xo := [.tmp 41, .tmp 46, .tmp 48]) (vs := [i6 ((gt p u).from_), i6 G, i6 ((gt p u).to)]) (cs := [i6 ((gt p u).from_), i6 G, i6 ((gt p u).to)]) rfl rfl rfl rfl rfl rfl) rfl rfl rfl (.c .z (.c .z (.c (.s .z) (.c (.s .z) (.c (.s .z) (.c (.s (.s .z)) (.c (.s (.s .z)) .n))))))) ?_; refine At.H.al [12] (Q4 ?_ Q6)
              ··refine At.HO.op rfl ?_
                refine At.lit rfl (xo := [.tmp 49]) (ys := ([(⟨(gt p u).from_, G, (gt p u).to⟩ : Q1)] : List Q1)) Q1.fl rfl rfl rfl rfl rfl rfl rfl rfl rfl rfl rfl (fun o0 o7 => ?_); refine At.HO.back (.c (.s .z) (.c (.s .z) (.c (.s (.s .z)) (.c (.s (.s .z)) (.c (.s (.s .z)) (.c (.s (.s (.s .z))) (.c (.s (.s (.s .z))) .n))))))) ?_; refine At.H.al [13] (Q4 ?_ Q6)
                ··refine At.HO.op rfl ?_
                  refine At.append rfl (.s (.s (.s (.s (.s (.s (.s .z))))))) (Src.own .z (by simp)) rfl rfl rfl rfl rfl rfl rfl rfl b7 (by decide) rfl (fun k6 k7 => ?_); refine At.drop (.s .z) ?_; refine At.HO.back (.c (.s .z) (.c (.s .z) (.c (.s (.s .z)) (.c (.s (.s .z)) (.c (.s (.s .z)) (.c (.s (.s .z)) (.c (.s (.s .z)) .n))))))) ?_; refine At.H.pw 14 rfl rfl rfl rfl rfl (.c (.s .z) (.c (.s .z) (.c (.s (.s .z)) (.c (.s (.s .z)) (.c (.s (.s .z)) (.c (.s (.s .z)) (.c (.s (.s .z)) .n))))))) ?_; refine At.H.al [15] (Q4 ?_ Q6)
                  ··refine At.HO.op rfl ?_
                    refine At.store rfl rfl rfl rfl (.s (.s (.s .z))) rfl rfl rfl (.s (.s (.c .n))) ?_; refine At.HO.back (.c (.s (.s .z)) (.c (.s (.s .z)) (.c (.s (.s .z)) (.c (.s (.s .z)) (.c (.s (.s .z)) (.c (.s (.s .z)) (.c (.s (.s .z)) .n))))))) ?_; refine At.H.done (by kernel_rfl) ?_; exact At.of (b8 (k6, k7) trivial) ⟨rfl, rfl, rfl, rfl, rfl, trivial⟩
        ··refine At.HO.op rfl ?_
          refine At.y (Y.load rfl rfl (.s (.s .z)) rfl rfl rfl) rfl rfl rfl ?_; refine At.HO.back (.c .z (.c .z (.c (.s .z) (.c (.s .z) (.c (.s .z) (.c (.s (.s .z)) (.c (.s (.s .z)) .n))))))) ?_; refine At.H.al [1, 8] (Q4 ?_ (Q4 ?_ Q6))
          ··refine At.HO.op rfl ?_
            refine At.y (Y.load rfl rfl (.s (.s .z)) rfl rfl rfl) rfl rfl rfl ?_; refine At.HO.back (.c .z (.c .z (.c (.s .z) (.c (.s .z) (.c (.s .z) (.c (.s (.s .z)) (.c (.s (.s .z)) .n))))))) ?_; refine At.H.al [8] (Q4 ?_ Q6)
            ··refine At.HO.op rfl ?_
              refine At.call rfl Q59.callee rfl rfl rfl (Q59.spec d3 d4 d5 d6) ?_; rintro _ _ ⟨rfl, rfl⟩; refine At.HO.back (.c .z (.c .z (.c (.s .z) (.c (.s .z) (.c (.s .z) (.c (.s (.s .z)) (.c (.s (.s .z)) .n))))))) ?_; refine At.H.tw 11 rfl (Y.build (is := [0, 1, 2]) (xo := [.tmp 41, .tmp 46, .tmp 48]) (vs := [i6 ((gt p u).from_), i6 G, i6 ((gt p u).to)]) (cs := [i6 ((gt p u).from_), i6 G, i6 ((gt p u).to)]) rfl rfl rfl rfl rfl rfl) rfl rfl rfl (.c .z (.c .z (.c (.s .z) (.c (.s .z) (.c (.s .z) (.c (.s (.s .z)) (.c (.s (.s .z)) .n))))))) ?_; refine At.H.al [12] (Q4 ?_ Q6)
              ··refine At.HO.op rfl ?_
                refine At.lit rfl (xo := [.tmp 49]) (ys := ([(⟨(gt p u).from_, G, (gt p u).to⟩ : Q1)] : List Q1)) Q1.fl rfl rfl rfl rfl rfl rfl rfl rfl rfl rfl rfl (fun o8 o9 => ?_); refine At.HO.back (.c (.s .z) (.c (.s .z) (.c (.s (.s .z)) (.c (.s (.s .z)) (.c (.s (.s .z)) (.c (.s (.s (.s .z))) (.c (.s (.s (.s .z))) .n))))))) ?_; refine At.H.al [13] (Q4 ?_ Q6)
                ··refine At.HO.op rfl ?_
                  refine At.append rfl (.s (.s (.s (.s (.s (.s (.s .z))))))) (Src.own .z (by simp)) rfl rfl rfl rfl rfl rfl rfl rfl b7 (by decide) rfl (fun k8 k9 => ?_); refine At.drop (.s .z) ?_; refine At.HO.back (.c (.s .z) (.c (.s .z) (.c (.s (.s .z)) (.c (.s (.s .z)) (.c (.s (.s .z)) (.c (.s (.s .z)) (.c (.s (.s .z)) .n))))))) ?_; refine At.H.pw 14 rfl rfl rfl rfl rfl (.c (.s .z) (.c (.s .z) (.c (.s (.s .z)) (.c (.s (.s .z)) (.c (.s (.s .z)) (.c (.s (.s .z)) (.c (.s (.s .z)) .n))))))) ?_; refine At.H.al [15] (Q4 ?_ Q6)
                  ··refine At.HO.op rfl ?_
                    refine At.store rfl rfl rfl rfl (.s (.s (.s .z))) rfl rfl rfl (.s (.s (.c .n))) ?_; refine At.HO.back (.c (.s (.s .z)) (.c (.s (.s .z)) (.c (.s (.s .z)) (.c (.s (.s .z)) (.c (.s (.s .z)) (.c (.s (.s .z)) (.c (.s (.s .z)) .n))))))) ?_; refine At.H.done (by kernel_rfl) ?_; exact At.of (b8 (k8, k9) trivial) ⟨rfl, rfl, rfl, rfl, rfl, trivial⟩
          ··refine At.HO.op rfl ?_
            refine At.call rfl Q59.callee rfl rfl rfl (Q59.spec d3 d4 d5 d6) ?_; rintro _ _ ⟨rfl, rfl⟩; refine At.HO.back (.c .z (.c .z (.c (.s .z) (.c (.s .z) (.c (.s .z) (.c (.s (.s .z)) (.c (.s (.s .z)) .n))))))) ?_; refine At.H.tw 11 rfl (Y.build (is := [0, 1, 2]) (xo := [.tmp 41, .tmp 46, .tmp 48]) (vs := [i6 ((gt p u).from_), i6 G, i6 ((gt p u).to)]) (cs := [i6 ((gt p u).from_), i6 G, i6 ((gt p u).to)]) rfl rfl rfl rfl rfl rfl) rfl rfl rfl (.c .z (.c .z (.c (.s .z) (.c (.s .z) (.c (.s .z) (.c (.s (.s .z)) (.c (.s (.s .z)) .n))))))) ?_; refine At.H.al [1, 12] (Q4 ?_ (Q4 ?_ Q6))
            ··refine At.HO.op rfl ?_
              refine At.y (Y.load rfl rfl (.s (.s .z)) rfl rfl rfl) rfl rfl rfl ?_; refine At.HO.back (.c .z (.c .z (.c (.s .z) (.c (.s .z) (.c (.s .z) (.c (.s (.s .z)) (.c (.s (.s .z)) .n))))))) ?_; refine At.H.al [12] (Q4 ?_ Q6)
              ··refine At.HO.op rfl ?_
                refine At.lit rfl (xo := [.tmp 49]) (ys := ([(⟨(gt p u).from_, G, (gt p u).to⟩ : Q1)] : List Q1)) Q1.fl rfl rfl rfl rfl rfl rfl rfl rfl rfl rfl rfl (fun p0 p1 => ?_); refine At.HO.back (.c (.s .z) (.c (.s .z) (.c (.s (.s .z)) (.c (.s (.s .z)) (.c (.s (.s .z)) (.c (.s (.s (.s .z))) (.c (.s (.s (.s .z))) .n))))))) ?_; refine At.H.al [13] (Q4 ?_ Q6)
                ··refine At.HO.op rfl ?_
                  refine At.append rfl (.s (.s (.s (.s (.s (.s (.s .z))))))) (Src.own .z (by simp)) rfl rfl rfl rfl rfl rfl rfl rfl b7 (by decide) rfl (fun l7 l8 => ?_); refine At.drop (.s .z) ?_; refine At.HO.back (.c (.s .z) (.c (.s .z) (.c (.s (.s .z)) (.c (.s (.s .z)) (.c (.s (.s .z)) (.c (.s (.s .z)) (.c (.s (.s .z)) .n))))))) ?_; refine At.H.pw 14 rfl rfl rfl rfl rfl (.c (.s .z) (.c (.s .z) (.c (.s (.s .z)) (.c (.s (.s .z)) (.c (.s (.s .z)) (.c (.s (.s .z)) (.c (.s (.s .z)) .n))))))) ?_; refine At.H.al [15] (Q4 ?_ Q6)
                  ··refine At.HO.op rfl ?_
                    refine At.store rfl rfl rfl rfl (.s (.s (.s .z))) rfl rfl rfl (.s (.s (.c .n))) ?_; refine At.HO.back (.c (.s (.s .z)) (.c (.s (.s .z)) (.c (.s (.s .z)) (.c (.s (.s .z)) (.c (.s (.s .z)) (.c (.s (.s .z)) (.c (.s (.s .z)) .n))))))) ?_; refine At.H.done (by kernel_rfl) ?_; exact At.of (b8 (l7, l8) trivial) ⟨rfl, rfl, rfl, rfl, rfl, trivial⟩
            ··refine At.HO.op rfl ?_
              refine At.lit rfl (xo := [.tmp 49]) (ys := ([(⟨(gt p u).from_, G, (gt p u).to⟩ : Q1)] : List Q1)) Q1.fl rfl rfl rfl rfl rfl rfl rfl rfl rfl rfl rfl (fun p2 p3 => ?_); refine At.HO.back (.c (.s .z) (.c (.s .z) (.c (.s (.s .z)) (.c (.s (.s .z)) (.c (.s (.s .z)) (.c (.s (.s (.s .z))) (.c (.s (.s (.s .z))) .n))))))) ?_; refine At.H.al [1] (Q4 ?_ Q6)
              ··refine At.HO.op rfl ?_
                refine At.y (Y.load rfl rfl (.s (.s (.s .z))) rfl rfl rfl) rfl rfl rfl ?_; refine At.HO.back (.c (.s .z) (.c (.s .z) (.c (.s (.s .z)) (.c (.s (.s .z)) (.c (.s (.s .z)) (.c (.s (.s (.s .z))) (.c (.s (.s (.s .z))) .n))))))) ?_; refine At.H.al [13] (Q4 ?_ Q6)
                ··refine At.HO.op rfl ?_
                  refine At.append rfl (.s (.s (.s (.s (.s (.s (.s .z))))))) (Src.own .z (by simp)) rfl rfl rfl rfl rfl rfl rfl rfl b7 (by decide) rfl (fun l9 m0 => ?_); refine At.drop (.s .z) ?_; refine At.HO.back (.c (.s .z) (.c (.s .z) (.c (.s (.s .z)) (.c (.s (.s .z)) (.c (.s (.s .z)) (.c (.s (.s .z)) (.c (.s (.s .z)) .n))))))) ?_; refine At.H.pw 14 rfl rfl rfl rfl rfl (.c (.s .z) (.c (.s .z) (.c (.s (.s .z)) (.c (.s (.s .z)) (.c (.s (.s .z)) (.c (.s (.s .z)) (.c (.s (.s .z)) .n))))))) ?_; refine At.H.al [15] (Q4 ?_ Q6)
                  ··refine At.HO.op rfl ?_
                    refine At.store rfl rfl rfl rfl (.s (.s (.s .z))) rfl rfl rfl (.s (.s (.c .n))) ?_; refine At.HO.back (.c (.s (.s .z)) (.c (.s (.s .z)) (.c (.s (.s .z)) (.c (.s (.s .z)) (.c (.s (.s .z)) (.c (.s (.s .z)) (.c (.s (.s .z)) .n))))))) ?_; refine At.H.done (by kernel_rfl) ?_; exact At.of (b8 (l9, m0) trivial) ⟨rfl, rfl, rfl, rfl, rfl, trivial⟩
     ··refine At.condF rfl (decide_eq_false d2) ?_
       refine At.exit ?_; refine At.the ?_; refine At.the ?_; exact fun a w e hs => g7 (V, V.length, h8, h9, b5) ⟨(bdn j g6), rfl⟩ a w (e.sub ⟨rfl, rfl, trivial⟩) hs
 ·rintro p4 ⟨a3, m1, m2, m3, m4, e6⟩ ⟨⟨e7, e8⟩, m5⟩; obtain rfl : a3.length = m2 := m5
  ·refine At.seq (At.region ?_); refine At.nextMap rfl rfl .z rfl (fun a8 => ?_) (fun a9 m6 a8 => ?_)
   ·have j := foldO_end hall1092 e7 a8; refine At.run 1 rfl (nT (At.seq ?_)); refine At.condF rfl rfl ?_; refine At.exit ?_; refine At.the ?_; refine At.the ?_; refine At.rngEnd .z ?_; exact fun a w e hs => g0 (a3, a3.length, m3, m4, e6) ⟨j, rfl⟩ a w (e.sub ⟨rfl, rfl, rfl, trivial⟩) hs
   ·obtain ⟨m7, m8, m9⟩ := foldO_go hall1092 e7 a8; have j := brun (show Q31.l0b  a9 a3 = some m7 from m8); unfold Q31.l0b at j; refine At.run 1 rfl (nT (At.seq ?_)); refine At.condT rfl rfl ?_; refine At.skip (At.thn ?_); refine At.block ?_; refine At.seq (At.region ?_); refine At.y (Y.entry .z rfl) rfl rfl rfl ?_; refine At.run 2 rfl (nT (At.region (At.run 1 rfl (At.y (Y.load rfl rfl (.s .z) rfl rfl rfl) rfl rfl rfl (At.run 1 rfl ?_))))); refine At.lit rfl (xo := [.tmp 22]) (ys := ([a9.1] : List Bs)) Fl.bs rfl rfl rfl rfl rfl rfl rfl rfl rfl rfl rfl (fun p5 p6 => ?_); obtain ⟨n2, j⟩ := bnone j; refine At.append rfl (.s (.s (.s (.s (.s (.s .z)))))) (Src.own .z (by simp)) rfl rfl rfl rfl rfl rfl rfl rfl n2 (by decide) rfl (fun n3 n4 => ?_); refine At.drop (.s .z) (At.run 1 rfl ?_); refine At.store rfl rfl rfl rfl (.s (.s .z)) rfl rfl rfl (.s (.c .n)) ?_; refine At.nil ?_; refine At.ibn ?_; refine At.f8 (At.f8 (At.f8 (At.f4 (At.f8 (At.f8 (At.f8 (At.f7 ?_))))))); refine At.f8 ?_; obtain rfl := bret j; exact fun a w e hs => ⟨m6.length, ((a3 ++ ([a9.1] : List Bs)), (m1 ++ [a9]), (a3 ++ ([a9.1] : List Bs)).length, n3, n4, e6), (rng_lt a8 e8).1, ⟨⟨m9, (rng_lt a8 e8).2⟩, rfl⟩, e.sub ⟨rfl, rfl, rfl, rfl, trivial⟩, hs⟩

noncomputable def Q26.l0b (G : (Option Q5) × (List Q8) × Int) (I : Option Q5) (q : List Q2) (u : List Q10) (D : List (Bs × Bool)) (U : List Q8) : Option (((Option Q5) × (List Q2) × (List Q10) × (List (Bs × Bool)) × (List Q8)) ⊕ (((Option Q5) × (List Q2) × (List Q10) × (List (Bs × Bool)) × (List Q8)) ⊕ ((Option Q5) × (List Bs) × (List Q1) × (List Q2) × Int))) :=
 if I.isNone = true then
 (Q62.f U I G.2.2 ([] : List Bs) ([] : List Q1) q u D).bind fun J =>
 if (0 : Int) ≤ 0 ∧ 0 < (J.length : Int) then
 if (gt J 0).Kind = 0 then
 dn (.inl (I, q, u, D, J))
 else
 (Q49.f J I G.2.2 ([] : List Bs) ([] : List Q1) q u D 2).bind fun p =>
 if p.1.isNone = true then
 if bseq p.2.2.2.2.1 ([101, 100, 103, 101] : Bs) = true then
 (Q140.f p.2.1 p.1 G.2.2 ([] : List Bs) ([] : List Q1) q u D p.2.2.1 p.2.2.2.1 p.2.2.2.2.1 p.2.2.2.2.2).bind fun L =>
 nx (L.2.2.1, q, L.1, L.2.1, L.2.2.2)
 else
 if bseq p.2.2.2.2.1 ([109, 97, 114, 107] : Bs) = true then
 (Q37.f p.2.1 p.1 G.2.2 ([] : List Bs) ([] : List Q1) q u D).bind fun O =>
 nx (O.2.1, O.1, u, D, O.2.2)
 else
 (Q20.f p.2.1 p.1 G.2.2 ([] : List Bs) ([] : List Q1) q u D p.2.2.1 p.2.2.2.1 p.2.2.2.2.1 p.2.2.2.2.2 7).bind fun V =>
 nx (V, q, u, D, p.2.1)
 else
 nx (p.1, q, u, D, p.2.1)
 else none
 else
 dn (.inl (I, q, u, D, U))
noncomputable def Q26.l0 (p : (Option Q5) × (List Q8) × Int) (q : Option Q5) (u : List Q2) (D : List Q10) (G : List (Bs × Bool)) (I : List Q8) : Option (((Option Q5) × (List Q2) × (List Q10) × (List (Bs × Bool)) × (List Q8)) ⊕ ((Option Q5) × (List Bs) × (List Q1) × (List Q2) × Int)) := iter (fun t_ : (Option Q5) × (List Q2) × (List Q10) × (List (Bs × Bool)) × (List Q8) => Q26.l0b p t_.1 t_.2.1 t_.2.2.1 t_.2.2.2.1 t_.2.2.2.2) (q, u, D, G, I)
noncomputable def Q26.f (a0 : Bs) : Option ((Option Q5) × (List Bs) × (List Q1) × (List Q2) × Int) :=
 (Q75.f a0).bind fun u =>
 if u.1.isNone = true then
 (Q136.f u.2 (none : Option Q5) 0 ([] : List Bs) ([] : List Q1) ([] : List Q2) ([] : List Q10) ([] : List (Bs × Bool))).bind fun p =>
 jn (Q26.l0 p p.1 ([] : List Q2) ([] : List Q10) ([] : List (Bs × Bool)) p.2.1) (fun (s_ : (Option Q5) × (List Q2) × (List Q10) × (List (Bs × Bool)) × (List Q8)) =>
 if s_.1.isNone = true then
 (Q31.f s_.2.2.2.2 s_.1 p.2.2 ([] : List Bs) ([] : List Q1) s_.2.1 s_.2.2.1 s_.2.2.2.1).bind fun q =>
 some (none, q.2.2.1, q.2.1, q.1, q.2.2.2)
 else
 some ((some (⟨(s_.1.getD default).At, (s_.1.getD default).Err⟩ : Q5)), ([] : List Bs), ([] : List Q1), ([] : List Q2), 0))
 else
 some (u.1, ([] : List Bs), ([] : List Q1), ([] : List Q2), 0)
theorem Q26.callee : Callee Tryz.prog 30 := ⟨_, Tryz.func30, by kernel_rfl, by kernel_rfl⟩
theorem Q26.spec {a0 : Bs} {r : (Option Q5) × (List Bs) × (List Q1) × (List Q2) × Int} (j : Q26.f a0 = some r) :
 Spec Tryz.prog 30 [.string ⟨(a0).toArray⟩] R (Fr) (fun v l' => ∃ (g2 : Option Nat) (d0 : Nat) (g3 : Option Addr) (g4 : Nat) (d1 : Nat) (g5 : Option Addr) (g6 : Nat) (d2 : Nat) (g7 : Option Addr) (g8 : Nat), v = .tuple #[.agg #[i6 r.2.2.2.2, .slice g3 d0 g4, .slice g5 d1 g6, .slice g7 d2 g8], opti 111 g2] ∧ row Fl.bs 9 g3 d0 g4 r.2.1 :: row Q1.fl 35 g5 d1 g6 r.2.2.1 :: grow Q2.ow 37 g7 d2 g8 r.2.2.2.1 :: optb (Ow.fl Q5.fl) 58 g2 r.1 :: Fr = l' ∧ r.2.1.length = d0 ∧ r.2.2.1.length = d1 ∧ r.2.2.2.1.length = d2) := by
 refine Spec.of Tryz.func30 rfl rfl ?_; unfold Q26.f at j; have j := brun j; refine At.seq (At.region ?_); refine At.alloc rfl rfl rfl (fun d3 => ?_); refine At.run 1 rfl (nT (sR 1 rfl ?_)); obtain ⟨b4, k5, j⟩ := bbind j; refine At.call rfl Q75.callee rfl rfl rfl (Q75.spec k5) ?_; rintro _ _ ⟨g9, s3, d4, d5, rfl, rfl, rfl⟩; refine At.run 5 rfl (nT (At.seq (sR 1 rfl ?_))); refine At.y (Y.neOptI (.s .z) rfl rfl rfl) rfl rfl rfl ?_; refine nT ?_; rcases bite j with ⟨d6, j⟩ | ⟨d6, j⟩
 ··refine At.condF rfl (nf d6) ?_
   refine At.skip (At.thn (sR 1 rfl ?_)); refine At.makeMap Fl.bs.ov Fl.bool.ov rfl rfl (fun D => ?_); refine At.y (Y.build (is := [0, 4]) (xo := [.tmp 17, .tmp 18]) (vs := [.slice d4 b4.2.length d5, .map (some D)]) (cs := [.slice d4 b4.2.length d5, .pointer none, i6 0, .slice none 0 0, .slice none 0 0, .slice none 0 0, .slice none 0 0, .map (some D)]) rfl rfl rfl rfl rfl rfl) rfl rfl rfl ?_; refine At.box rfl rfl (cs := [.slice d4 b4.2.length d5, .pointer none, i6 0, .slice none 0 0, .slice none 0 0, .slice none 0 0, .slice none 0 0, .map (some D)]) rfl rfl (fun U => ?_); refine At.run 1 rfl (nT (sR 1 rfl ?_)); refine At.optNone (Ow.fl Q5.fl) 58 ?_; refine At.nilRow Fl.bs 9 ?_; refine At.nilRow Q1.fl 35 ?_; refine At.nilGrow Q2.ow 37 ?_; refine At.nilRow Q10.fl 148 ?_; refine At.freeze (.s (.s (.s (.s (.s (.s (.s .z))))))) fun h0 k6 k7 k8 s4 h1 => ?_; refine At.f6 (At.f1 (At.f2 (At.f3 (At.f4 (At.f5 (At.f6 ?_)))))); obtain ⟨G, k9, j⟩ := bbind j; refine At.call rfl Q136.callee rfl rfl rfl (Q136.spec none k6 k7 k8 rfl rfl rfl rfl k9) ?_; rintro _ _ ⟨l7, l8, s5, l9, rfl, rfl, m0, rfl, m1⟩; refine nT (At.seq ?_); refine At.block ?_; obtain ⟨m2, m3, s6, j⟩ := bjoin j; obtain ⟨h2, d7, h3⟩ := bsome j; clear j; unfold Q26.l0 at d7; obtain ⟨d9, V⟩ := Q16.1 d7; clear d7; let e1 : HProp := row Fl.bs 9 none 0 0 ([] : List Bs); let e2 : HProp := row Q1.fl 35 none 0 0 ([] : List Q1); let e3 : HProp := optb (Ow.fl Q5.fl) 58 g9 b4.1; let e4 : HProp := pc d3 [i6 0, .slice none 0 0, .slice none 0 0, .slice none 0 0] 26; refine At.loopJ (X := (Option Q5) × (List Q2) × (List Q10) × (List (Bs × Bool)) × (List Q8) × (Option Nat) × Nat × (Option Addr) × Nat × Nat × (Option Addr) × Nat × (Option Addr) × Nat × Nat) (Y := (Option Q5) × (List Q2) × (List Q10) × (List (Bs × Bool)) × (List Q8) × (Option Nat) × Nat × (Option Addr) × Nat × Nat × (Option Addr) × Nat × (Option Addr) × Nat × Nat) (e0 := 0) (fun s_ => [(2, bp d3), (6, bp U)]) (fun s_ => optb (Ow.fl Q5.fl) 58 s_.2.2.2.2.2.1 s_.1 :: pc U [.slice (d8 s_).2.2.2.2.1 (d8 s_).2.2.2.2.2.1 (d8 s_).2.2.2.2.2.2, optp s_.2.2.2.2.2.1, i6 G.2.2, .slice none 0 0, .slice none 0 0, .slice s_.2.2.2.2.2.2.2.1 s_.2.2.2.2.2.2.1 (d8 s_).1, .slice (d8 s_).2.2.1 (d8 s_).2.1 (d8 s_).2.2.2.1, .map (some D)] 114 :: e1 :: e2 :: grow Q2.ow 37 s_.2.2.2.2.2.2.2.1 s_.2.2.2.2.2.2.1 (d8 s_).1 s_.2.1 :: row Q10.fl 148 (d8 s_).2.2.1 (d8 s_).2.1 (d8 s_).2.2.2.1 s_.2.2.1 :: mapo Fl.bs.ov Fl.bool.ov D s_.2.2.2.1 :: e3 :: e4 :: Fr) (fun m_ => fun s_ => iterN (fun t_ : (Option Q5) × (List Q2) × (List Q10) × (List (Bs × Bool)) × (List Q8) => Q26.l0b G t_.1 t_.2.1 t_.2.2.1 t_.2.2.2.1 t_.2.2.2.2) m_ (s_.1, s_.2.1, s_.2.2.1, s_.2.2.2.1, s_.2.2.2.2.1) = some h2 ∧ s_.2.1.length = s_.2.2.2.2.2.2.1 ∧ s_.2.2.1.length = (d8 s_).2.1 ∧ RdS Q8.fl.rep h0.heap (d8 s_).2.2.2.2.1 s_.2.2.2.2.1 ∧ s_.2.2.2.2.1.length = (d8 s_).2.2.2.2.2.1 ∧ (d8 s_).2.2.2.2.2.1 ≤ (d8 s_).2.2.2.2.2.2) d9 (G.1, ([] : List Q2), ([] : List Q10), ([] : List (Bs × Bool)), G.2.1, l7, 0, none, 0, 0, none, 0, l8, G.2.1.length, l9) ⟨V, rfl, rfl, m0, rfl, m1⟩ (fun s_ => [(2, bp d3), (6, bp U)]) (fun s_ => pc U [.slice (d8 s_).2.2.2.2.1 (d8 s_).2.2.2.2.2.1 (d8 s_).2.2.2.2.2.2, optp s_.2.2.2.2.2.1, i6 G.2.2, .slice none 0 0, .slice none 0 0, .slice s_.2.2.2.2.2.2.2.1 s_.2.2.2.2.2.2.1 (d8 s_).1, .slice (d8 s_).2.2.1 (d8 s_).2.1 (d8 s_).2.2.2.1, .map (some D)] 114 :: optb (Ow.fl Q5.fl) 58 s_.2.2.2.2.2.1 s_.1 :: e1 :: e2 :: grow Q2.ow 37 s_.2.2.2.2.2.2.2.1 s_.2.2.2.2.2.2.1 (d8 s_).1 s_.2.1 :: row Q10.fl 148 (d8 s_).2.2.1 (d8 s_).2.1 (d8 s_).2.2.2.1 s_.2.2.1 :: mapo Fl.bs.ov Fl.bool.ov D s_.2.2.2.1 :: e3 :: e4 :: Fr) (fun s_ => m2 (.inl (s_.1, s_.2.1, s_.2.2.1, s_.2.2.2.1, s_.2.2.2.2.1)) = some r ∧ s_.2.1.length = s_.2.2.2.2.2.2.1 ∧ s_.2.2.1.length = (d8 s_).2.1 ∧ RdS Q8.fl.rep h0.heap (d8 s_).2.2.2.2.1 s_.2.2.2.2.1 ∧ s_.2.2.2.2.1.length = (d8 s_).2.2.2.2.2.1 ∧ (d8 s_).2.2.2.2.2.1 ≤ (d8 s_).2.2.2.2.2.2) (fun a w e hs => ⟨e.sub ⟨rfl, rfl, trivial⟩, (by exact hs)⟩) ?_ (fun h4 => ?_)
   ·rintro ⟨I, Z, b5, m4, h5, m5, m6, e5, e6, m7, h6, h7, m8, m9, n2⟩ ⟨j, n3, n4, n5, n6, n7⟩; obtain rfl : Z.length = m6 := n3; obtain rfl : b5.length = m7 := n4; obtain rfl : h5.length = m9 := n6; have j := (m3 _).symm.trans j
    ·refine At.ibx ?_; refine At.thn (At.seq (sR 3 rfl (At.y (Y.load rfl rfl .z rfl rfl rfl) rfl rfl rfl ?_))); refine At.y (Y.neOpt (.s .z) rfl rfl rfl rfl) rfl rfl rfl ?_; refine nT ?_; rcases bite j with ⟨b6, j⟩ | ⟨b6, j⟩
     ··refine At.condF rfl (nf b6) ?_
       refine At.skip (At.thn (sR 1 rfl ?_)); obtain ⟨h8, n8, j⟩ := bbind j; refine At.call rfl Q31.callee rfl rfl rfl (Q31.spec m5 n5 rfl n7 rfl rfl rfl rfl n8) ?_; rintro _ _ ⟨s7, n9, o0, s8, o7, o8, s9, t0, rfl, rfl, rfl, rfl⟩; refine At.store rfl rfl rfl rfl (.s (.s (.s (.s (.s (.s (.s (.s .z)))))))) rfl rfl rfl (.c (.c (.c (.c .n)))) ?_; refine At.run 1 rfl (nT (At.ret ?_)); refine At.thaw h1 ?_; refine At.optNone (Ow.fl Q5.fl) 58 ?_; refine At.growLen (.s (.s (.s (.s (.s (.s (.s .z))))))) fun o9 _ => ?_; refine At.resM (.inl rfl) rfl (RV.cell rfl rfl (.s (.s .z)) rfl rfl rfl (RV.tmp rfl RV.nil)) ?_; refine At.drop (.s .z) (At.drop (.s .z) (At.drop (.s .z) (At.drop (.s .z) (At.drop (.s (.s (.s (.s .z)))) (At.drop (.s (.s (.s (.s .z)))) (At.drop (.s (.s (.s (.s .z)))) (At.f3 ?_))))))); refine At.f3 (At.f3 ?_); cases bret j; exact fun a w e hs => ⟨_, ⟨none, h8.2.2.1.length, o7, o8, h8.2.1.length, n9, o0, Z.length, e5, e6, rfl, rfl, rfl, rfl, o9⟩, hs⟩
     ··refine At.condT rfl (nt (bn b6)) ?_
       refine At.seq ?_; refine At.optOpen (.s .z) (bn b6) (fun e7 p0 t1 => ?_); have p1 := j; subst p0; have j := p1; refine At.ownFl (.s .z) ?_; rintro rfl; refine At.held [pc e7 [i6 ((I.getD default).At), i6 ((I.getD default).Err)] 58, pc U [.slice m8 h5.length n2, bp e7, i6 G.2.2, .slice none 0 0, .slice none 0 0, .slice e5 Z.length e6, .slice h6 b5.length h7, .map (some D)] 114, e1, e2, grow Q2.ow 37 e5 Z.length e6 Z, row Q10.fl 148 h6 b5.length h7 b5, mapo Fl.bs.ov Fl.bool.ov D m4, e3, e4] 8 rfl ?_; refine At.H.tw 0 rfl (Y.build (is := []) (xo := []) (vs := []) (cs := [i6 0, .slice none 0 0, .slice none 0 0, .slice none 0 0]) rfl rfl rfl rfl rfl rfl) rfl rfl rfl (.c .z (.c .z (.c .z (.c .z (.c .z (.c .z (.c .z (.c .z (.c .z .n))))))))) ?_; refine At.H.pw 1 rfl rfl rfl rfl rfl (.c .z (.c .z (.c .z (.c .z (.c .z (.c .z (.c .z (.c .z (.c .z .n))))))))) ?_; refine At.H.pw 2 rfl rfl rfl rfl rfl (.c .z (.c .z (.c .z (.c .z (.c .z (.c .z (.c .z (.c .z (.c .z .n))))))))) ?_; refine At.H.pw 3 rfl rfl rfl rfl rfl (.c .z (.c .z (.c .z (.c .z (.c .z (.c .z (.c .z (.c .z (.c .z .n))))))))) ?_; refine At.H.tw 4 rfl (Y.load rfl rfl (.s .z) rfl rfl rfl) rfl rfl rfl (.c .z (.c .z (.c .z (.c .z (.c .z (.c .z (.c .z (.c .z (.c .z .n))))))))) ?_; refine At.H.pw 5 rfl rfl rfl rfl rfl (.c .z (.c .z (.c .z (.c .z (.c .z (.c .z (.c .z (.c .z (.c .z .n))))))))) ?_; refine At.H.al [6] (Q4 ?_ Q6)
       ··refine At.HO.op rfl ?_
         refine At.store rfl rfl rfl rfl (.s (.s (.s (.s (.s (.s (.s (.s .z)))))))) rfl rfl rfl (.c (.c (.c (.c .n)))) ?_; refine At.HO.back (.c (.s .z) (.c (.s .z) (.c (.s .z) (.c (.s .z) (.c (.s .z) (.c (.s .z) (.c (.s .z) (.c (.s .z) (.c .z .n))))))))) ?_; refine At.H.pw 7 rfl rfl rfl rfl rfl (.c (.s .z) (.c (.s .z) (.c (.s .z) (.c (.s .z) (.c (.s .z) (.c (.s .z) (.c (.s .z) (.c (.s .z) (.c .z .n))))))))) ?_; refine At.H.done (by kernel_rfl) ?_; refine At.thn (At.ret (At.thr ?_)); refine At.thaw h1 ?_; refine At.f2 ?_; refine At.optSome (x := (⟨(I.getD default).At, (I.getD default).Err⟩ : Q5)) (Ent.fl Q5.fl (x := (⟨(I.getD default).At, (I.getD default).Err⟩ : Q5)) rfl) ?_; refine At.nilRow Fl.bs 9 ?_; refine At.nilRow Q1.fl 35 ?_; refine At.nilGrow Q2.ow 37 ?_; refine At.resM (.inl rfl) rfl (RV.cell rfl rfl (.s (.s (.s (.s (.s .z))))) rfl rfl rfl (RV.tmp rfl RV.nil)) ?_; refine At.drop (.s (.s (.s (.s .z)))) (At.drop (.s (.s (.s (.s .z)))) (At.drop (.s (.s (.s (.s .z)))) (At.drop (.s (.s (.s (.s .z)))) (At.drop (.s (.s (.s (.s .z)))) (At.drop (.s (.s (.s (.s .z)))) (At.drop (.s (.s (.s (.s .z)))) (At.drop (.s (.s (.s (.s .z)))) ?_))))))); refine At.drop (.s (.s (.s (.s .z)))) (At.f3 (At.f1 (At.f2 (At.f3 ?_)))); cases bret j; exact fun a w e hs => ⟨_, ⟨(some e7), 0, none, 0, 0, none, 0, 0, none, 0, rfl, rfl, rfl, rfl, rfl⟩, hs⟩
   ·clear V d9; rintro d9 ⟨e8, p, u, J, b7, b8, p2, a1, a2, p3, a3, a4, p4, p5, p6⟩ ⟨V, p7, p8, h9, p9, k0⟩; obtain rfl : p.length = p2 := p7; obtain rfl : u.length = p3 := p8; obtain rfl : b7.length = p5 := p9; obtain ⟨b9, f_, c8, hf_, j⟩ := bit V; clear V; have j : (Q26.l0b G e8 p u J b7).bind _ = some h2 := j; unfold Q26.l0b at j
    ·refine At.seq (sR 3 rfl (At.y (Y.load rfl rfl (.s .z) rfl rfl rfl) rfl rfl rfl ?_)); refine At.y (Y.eqOpt .z rfl rfl rfl rfl) rfl rfl rfl ?_; refine nT ?_; rcases bite j with ⟨e9, j⟩ | ⟨e9, j⟩
     ··refine At.condT rfl e9 ?_
       refine At.skip (At.thn ?_); refine At.block ?_; refine sR 1 rfl (At.f6 (At.f6 (At.f6 (At.f6 (At.f6 ?_))))); refine At.f5 (At.f6 ?_); obtain ⟨k1, q0, j⟩ := bbind j; refine At.call rfl Q62.callee rfl rfl rfl (Q62.spec b8 h9 rfl k0 rfl rfl rfl rfl q0) ?_; rintro _ _ ⟨q1, t3, q2, rfl, rfl, a5, rfl, k2⟩; refine nT (At.seq (sR 3 rfl (At.y (Y.load rfl rfl .z rfl rfl rfl) rfl rfl rfl ?_))); obtain ⟨L, j⟩ := bnone j; refine At.y (Y.ixRd a5 rfl rfl rfl rfl rfl rfl rfl L.1 L.2) rfl rfl rfl ?_; refine At.y (Y.fa (RdS.some_ a5 rfl L.1 L.2) rfl rfl rfl rfl rfl rfl) rfl rfl rfl ?_; refine At.y (Y.ldFl a5 rfl (q := 0) rfl rfl L.1 L.2 rfl rfl rfl) rfl rfl rfl (At.run 1 rfl (nT ?_)); rcases bite j with ⟨f0, j⟩ | ⟨f0, j⟩
       ··refine At.condT rfl (decide_eq_true f0) ?_
         refine At.exit ?_; refine At.the ?_; refine At.ibo rfl ?_; refine At.the ?_; exact fun a w e hs => h4 (e8, p, u, J, k1, b8, p.length, a1, a2, u.length, a3, a4, q1, k1.length, q2) ⟨(bdn j h3), rfl, rfl, a5, rfl, k2⟩ a w (e.sub ⟨rfl, rfl, trivial⟩) hs
       ··refine At.condF rfl (decide_eq_false f0) ?_
         refine At.skip (At.thn (sR 1 rfl ?_)); obtain ⟨a6, q3, j⟩ := bbind j; refine At.call rfl Q49.callee rfl rfl rfl (Q49.spec b8 a5 rfl k2 rfl rfl rfl rfl q3) ?_; rintro _ _ ⟨c9, k3, t4, k4, rfl, rfl, a7, rfl, a8⟩; refine At.alloc rfl rfl rfl (fun t5 => ?_); refine At.store rfl rfl rfl rfl .z rfl rfl rfl (.c (.c (.c (.c .n)))) ?_; refine nT ?_; refine At.block ?_; refine sR 3 rfl (At.y (Y.load rfl rfl (.s (.s .z)) rfl rfl rfl) rfl rfl rfl ?_); refine At.y (Y.neOpt (.s .z) rfl rfl rfl rfl) rfl rfl rfl ?_; refine At.run 1 rfl (nT ?_); rcases bite j with ⟨f9, j⟩ | ⟨f9, j⟩
         ··refine At.condF rfl (nf f9) ?_
           refine sR 1 rfl (At.y (Y.load rfl rfl .z rfl rfl rfl) rfl rfl rfl (At.run 2 rfl (nT ?_))); rcases bite j with ⟨g0, j⟩ | ⟨g0, j⟩
           ··refine At.condT rfl g0 ?_
             refine At.region (At.run 1 rfl (At.y (Y.load rfl rfl .z rfl rfl rfl) rfl rfl rfl (At.f7 (At.f7 (At.f7 (At.f7 (At.f7 ?_))))))); refine At.f6 (At.f7 ?_); obtain ⟨O, q4, j⟩ := bbind j; refine At.call rfl Q140.callee rfl rfl rfl (Q140.spec c9 a7 rfl a8 rfl rfl rfl rfl q4) ?_; rintro _ _ ⟨t6, q5, q6, q7, q8, t7, q9, rfl, rfl, rfl, r0, rfl, r1⟩; refine At.nil ?_; refine At.ibn ?_; refine At.ibn ?_; refine At.drop (.s (.s (.s (.s (.s (.s (.s .z))))))) ?_; have j := bnx hf_ j; exact fun a w e hs => ⟨b9, (O.2.2.1, p, O.1, O.2.1, O.2.2.2, q7, p.length, a1, a2, O.1.length, q5, q6, q8, O.2.2.2.length, q9), c8, ⟨j, rfl, rfl, r0, rfl, r1⟩, e.sub ⟨rfl, rfl, trivial⟩, hs⟩
           ··refine At.condF rfl (bn g0) ?_
             refine sR 1 rfl (At.y (Y.load rfl rfl .z rfl rfl rfl) rfl rfl rfl (At.run 2 rfl (nT ?_))); rcases bite j with ⟨g1, j⟩ | ⟨g1, j⟩
             ··refine At.condT rfl g1 ?_
               refine At.region (At.run 1 rfl (At.f7 (At.f7 (At.f7 (At.f7 (At.f7 (At.f6 ?_))))))); refine At.f7 ?_; obtain ⟨a9, r2, j⟩ := bbind j; refine At.call rfl Q37.callee rfl rfl rfl (Q37.spec c9 a7 rfl a8 rfl rfl rfl rfl r2) ?_; rintro _ _ ⟨t8, r3, r4, r5, r6, t9, r7, rfl, rfl, rfl, r8, rfl, r9⟩; refine At.nil ?_; refine At.ibn ?_; refine At.ibn ?_; refine At.drop (.s (.s (.s (.s (.s (.s (.s .z))))))) ?_; have j := bnx hf_ j; exact fun a w e hs => ⟨b9, (a9.2.1, a9.1, u, J, a9.2.2, r5, a9.1.length, r3, r4, u.length, a3, a4, r6, a9.2.2.length, r7), c8, ⟨j, rfl, rfl, r8, rfl, r9⟩, e.sub ⟨rfl, rfl, trivial⟩, hs⟩
             ··refine At.condF rfl (bn g1) ?_
               refine At.region (At.run 1 rfl (At.y (Y.load rfl rfl .z rfl rfl rfl) rfl rfl rfl (At.f7 (At.f7 (At.f7 (At.f7 (At.f7 ?_))))))); refine At.f6 (At.f7 ?_); obtain ⟨s0, s1, j⟩ := bbind j; refine At.call rfl Q20.callee rfl rfl rfl (Q20.spec c9 a7 rfl a8 rfl rfl rfl rfl s1) ?_; rintro _ _ ⟨s2, rfl, rfl⟩; refine At.nil ?_; refine At.ibn ?_; refine At.ibn ?_; refine At.drop (.s (.s (.s (.s (.s (.s (.s .z))))))) ?_; have j := bnx hf_ j; exact fun a w e hs => ⟨b9, (s0, p, u, J, a6.2.1, s2, p.length, a1, a2, u.length, a3, a4, k3, a6.2.1.length, k4), c8, ⟨j, rfl, rfl, a7, rfl, a8⟩, e.sub ⟨rfl, rfl, trivial⟩, hs⟩
         ··refine At.condT rfl (nt (bn f9)) ?_
           refine At.skip ?_; refine At.ibn ?_; refine At.ibn ?_; refine At.drop .z ?_; have j := bnx hf_ j; exact fun a w e hs => ⟨b9, (a6.1, p, u, J, a6.2.1, c9, p.length, a1, a2, u.length, a3, a4, k3, a6.2.1.length, k4), c8, ⟨j, rfl, rfl, a7, rfl, a8⟩, e.sub ⟨rfl, rfl, trivial⟩, hs⟩
     ··refine At.condF rfl (bn e9) ?_
       refine At.exit ?_; refine At.the ?_; refine At.the ?_; refine At.f8 (At.f8 (At.f8 (At.f8 (At.f8 (At.f8 (At.f8 (At.f7 ?_))))))); refine At.f8 ?_; exact fun a w e hs => h4 (e8, p, u, J, b7, b8, p.length, a1, a2, u.length, a3, a4, p4, b7.length, p6) ⟨(bdn j h3), rfl, rfl, h9, rfl, k0⟩ a w (e.sub ⟨rfl, rfl, trivial⟩) hs
 ··refine At.condT rfl (nt (bn d6)) ?_
   refine At.seq (At.region ?_); refine At.y (Y.build (is := []) (xo := []) (vs := []) (cs := [i6 0, .slice none 0 0, .slice none 0 0, .slice none 0 0]) rfl rfl rfl rfl rfl rfl) rfl rfl rfl ?_; refine At.run 1 rfl ?_; refine At.store rfl rfl rfl rfl (.s (.s .z)) rfl rfl rfl (.c (.c (.c (.c .n)))) ?_; refine At.run 1 rfl (nT (At.ret (At.thr ?_))); refine At.nilRow Fl.bs 9 ?_; refine At.nilRow Q1.fl 35 ?_; refine At.nilGrow Q2.ow 37 ?_; refine At.resM (.inl rfl) rfl (RV.cell rfl rfl (.s (.s (.s .z))) rfl rfl rfl (RV.tmp rfl RV.nil)) ?_; refine At.drop (.s (.s (.s .z))) (At.drop (.s (.s (.s .z))) (At.f3 (At.f1 (At.f2 (At.f3 ?_))))); cases bret j; exact fun a w e hs => ⟨_, ⟨g9, 0, none, 0, 0, none, 0, 0, none, 0, rfl, rfl, rfl, rfl, rfl⟩, hs⟩

end Go.Bw
namespace Go.Bw
open Go Go.RowKit Go.Proofs
variable {R : Res} {Fr : List HProp} {b0 b0_1 b0_2 : Nat}
noncomputable def Q98.f (p : Int) (q : List (Bs × Q0)) (u : List (Q7 × Q0)) : Option Int :=
 some p
theorem Q98.callee : Callee Tryz.prog 63 := ⟨_, Tryz.func63, by kernel_rfl, by kernel_rfl⟩
theorem Q98.spec {p : Int} {q : List (Bs × Q0)} {u : List (Q7 × Q0)} {r : Int} (j : Q98.f p q u = some r) :
 Spec Tryz.prog 63 [bp b0] R (pc b0 [i6 p, .map (some b0_1), .map (some b0_2)] 91 :: mapo Fl.bs.ov Q0.fl.av b0_1 q :: mapo Q7.fl.av Q0.fl.av b0_2 u :: Fr) (fun v l' => v = i6 r ∧ pc b0 [i6 p, .map (some b0_1), .map (some b0_2)] 91 :: mapo Fl.bs.ov Q0.fl.av b0_1 q :: mapo Q7.fl.av Q0.fl.av b0_2 u :: Fr = l') := by
 refine Spec.of Tryz.func63 rfl rfl ?_; unfold Q98.f at j; have j := brun j; refine sR 1 rfl (nT (sR 3 rfl ?_)); refine At.y (Y.load rfl rfl .z rfl rfl rfl) rfl rfl rfl (At.run 1 rfl (nT (At.ret ?_))); cases bret j; exact At.res (.inl rfl) rfl rfl ⟨rfl, rfl⟩


end Go.Bw
namespace Go.Bw
open Go Go.RowKit

section
variable {α : Type} {P : Program} [Tys P] {os : List Oper} {Q : Exit → Act → World → Prop} {rest : List Oper} {n : Nat} {ds : List Deferred} {R : Res} {env : List (Nat × Value)} {l l' : List HProp}
variable {d ty t e : Nat} {pos : String} {af : Array Edge} {g : Option (Nat × Bool)}
theorem At.makeW {F : Fl α} {x y : Operand} {m : Int} {k k' : IntKind} {bytes : Nat} {z : α} {ii j : TI} (hg : grd os env g = some true) (hi : ti P t = some ii) (hk : ii.k = .slice e) (hj : ti P e = some j) (hjs : j.size = F.sz) (hjb : j.bytes = bytes) (hz : j.zero = F.enc z)
 (hx : ev env x = some (.int k m)) (hy : ev env y = some (.int k' m)) (h0 : 0 ≤ m) (h1 : (bytes : Int) * m ≤ 281474976710656) (hb0 : 0 < bytes) (hd : Nat.blt d n = true)
 (h : ∀ A c, At n ds R ((d, .slice A (List.replicate m.toNat z).length c) :: env) (row F e A (List.replicate m.toNat z).length c (List.replicate m.toNat z) :: l) (wpList P os.toArray Q rest)) :
 At n ds R env l (wpList P os.toArray Q (⟨some d, .makeSlice t x y, ty, pos, af, g⟩ :: rest)) := Q78 hg rfl hd fun a w e0 hs => by
 obtain ⟨xi, zv, hxi, hsz, hby, hze, hzc⟩ := (Q11 hj).info
 have hm : m ≤ 9223372036854775807 := by
  have := Int.mul_le_mul_of_nonneg_right (show (1 : Int) ≤ (bytes : Int) by omega) h0
  omega
 have hr := run_make (P := P) w t e xi zv ((Q11 hi).slice hk) hxi hze k k' m m h0 (Int.le_refl _) (by rw [hby, hjb]; exact h1) hm
 refine ⟨.slice (some ⟨w.heap.size, 0, none⟩) m.toNat m.toNat, w.alloc (.cells (madeCells zv.cells (m.toNat * xi.size)) e), row F e (some ⟨w.heap.size, 0, none⟩) m.toNat m.toNat (List.replicate m.toNat z) :: l, ?_, ?_, by have := h (some ⟨w.heap.size, 0, none⟩) m.toNat; rwa [List.length_replicate] at this⟩
 ·simp only [execOp, e0.ev hx, e0.ev hy, Sem.run_bind, hr, Result.andThen, Sem.run_pure]
 ·refine (hs.alloc _).imp fun h' o => ?_
  have hl := F.len z
  have hp := F.pos
  have hcells : (madeCells zv.cells (m.toNat * xi.size)).toList = (List.replicate m.toNat z).flatMap F.enc := by
   rw [hsz, hjs, hzc, hz]
   unfold madeCells
   simp only [Array.toList_map, Array.toList_range]
   apply List.ext_getElem?
   intro q
   by_cases hq : q < m.toNat * F.sz
   ·have hd := Nat.div_lt_of_lt_mul (by rwa [Nat.mul_comm] at hq : q < F.sz * m.toNat)
    have := Q127 F (xs := List.replicate m.toNat z) (i := q / F.sz) (x := z) (j := q % F.sz) (by simp [hd]) (Nat.mod_lt _ hp)
    rw [Nat.div_add_mod'] at this
    rw [this]
    have hlt : q % F.sz < (F.enc z).length := by rw [hl]; exact Nat.mod_lt _ hp
    have hg := List.getElem?_eq_getElem hlt
    rw [hg]
    simp [hq, hl, hg]
   ·rw [List.getElem?_eq_none (by simp; omega), List.getElem?_eq_none (by rw [Q54, List.length_replicate]; omega)]
  refine ⟨by rw [Q54, List.length_replicate], .inr ⟨w.heap.size, _, rfl, o, by simp, by simp only [maxLen]; omega, ?_, ?_⟩⟩
  ·simp [madeCells, hsz, hjs]
  ·rw [hcells, List.take_of_length_le (by rw [Q54]; simp)]
end
end Go.Bw
