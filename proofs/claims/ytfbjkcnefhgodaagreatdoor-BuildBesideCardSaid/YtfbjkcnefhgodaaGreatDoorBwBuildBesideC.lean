/- BuildBeside, part 3: walks and plain laws. Conditions: none. -/
import Derived.Test.YtfbjkcnefhgodaaGreatDoorProg
import Derived.Deep.QuietTactic
import Derived.Maps.RangeRun
import Derived.Defers
import Derived.Recover
import Derived.Laws.CopyRow
import Derived.Test.YtfbjkcnefhgodaaGreatDoorBwBuildBesideB
set_option linter.unusedVariables false
set_option linter.unusedSimpArgs false
set_option linter.unusedSectionVars false
set_option maxRecDepth 100000
set_option maxHeartbeats 2000000
namespace Go.Bw
open Go Go.RowKit Go.Proofs
variable {R : Res} {Fr : List HProp} {b0 n0_0 c0_0 n0_3 c0_3 n0_4 c0_4 n0_5 c0_5 n0_6 c0_6 b0_7 n0 c0 n0_1 c0_1 b1 b1_c0 : Nat} {A0_0 A0_3 A0_4 A0_5 A0_6 A0 A0_1 : Option Addr}
structure Q1 where
 Kind : Int
 At : Int
 Text : Bs
 Number : Int
deriving Inhabited, DecidableEq
def Q1.fl : Fl Q1 := ⟨4, fun x => [i6 x.Kind, i6 x.At, .string ⟨(x.Text).toArray⟩, i6 x.Number], fun _ => rfl, fun x u hu => by simp at hu; rcases hu with rfl | rfl | rfl | rfl <;> rfl, by decide⟩
structure Q6 where
 At : Int
 Err : Int
deriving Inhabited, DecidableEq
def Q6.fl : Fl Q6 := ⟨2, fun x => [i6 x.At, i6 x.Err], fun _ => rfl, fun x u hu => by simp at hu; rcases hu with rfl | rfl <;> rfl, by decide⟩
structure Q10 where
 from_ : Int
 action : Bs
 to : Int
deriving Inhabited, DecidableEq
def Q10.fl : Fl Q10 := ⟨3, fun x => [i6 x.from_, .string ⟨(x.action).toArray⟩, i6 x.to], fun _ => rfl, fun x u hu => by simp at hu; rcases hu with rfl | rfl | rfl <;> rfl, by decide⟩
theorem bytealg_IndexByteString.ext : ExtOk Tryz.prog 168 Extern.BytealgIndexByte.indexByte := ⟨_, Tryz.func168, by kernel_rfl, by kernel_rfl, by kernel_rfl, by kernel_rfl⟩

noncomputable def Q163.f (a0 : Bs) (a1 : Int) : Option Int :=
 some (Lib.indexByte a0 a1.toNat.toUInt8)
theorem Q163.callee : Callee Tryz.prog 143 := ⟨_, Tryz.func143, by kernel_rfl, by kernel_rfl⟩
theorem Q163.spec {a0 : Bs} {a1 : Int} {r : Int} (j : Q163.f a0 a1 = some r) :
 Spec Tryz.prog 143 [.string ⟨(a0).toArray⟩, .int .u8 a1] R (Fr) (fun v l' => v = i6 r ∧ Fr = l') := by
 refine Spec.of Tryz.func143 rfl rfl ?_; unfold Q163.f at j; have j := brun j; refine sR 1 rfl (nT (sR 2 rfl ?_)); refine At.y (Y.ext bytealg_IndexByteString.ext rfl rfl (fun w => Q301 _ _ w)) rfl rfl rfl ?_; refine At.run 1 rfl (nT (At.ret ?_)); cases bret j; exact At.res (.inl rfl) rfl rfl ⟨rfl, rfl⟩

noncomputable def Q165.f (a0 : Bs) (a1 : Int) : Option Int :=
 (Q163.f a0 a1).bind fun p =>
 some p
theorem Q165.callee : Callee Tryz.prog 108 := ⟨_, Tryz.func108, by kernel_rfl, by kernel_rfl⟩
theorem Q165.spec {a0 : Bs} {a1 : Int} {r : Int} (j : Q165.f a0 a1 = some r) :
 Spec Tryz.prog 108 [.string ⟨(a0).toArray⟩, .int .u8 a1] R (Fr) (fun v l' => v = i6 r ∧ Fr = l') := by
 refine Spec.of Tryz.func108 rfl rfl ?_; unfold Q165.f at j; have j := brun j; refine sR 1 rfl (nT (sR 2 rfl ?_)); obtain ⟨q, p, j⟩ := bbind j; refine At.call rfl Q163.callee rfl rfl rfl (Q163.spec p) ?_; rintro _ _ ⟨rfl, rfl⟩; refine At.run 1 rfl (nT (At.ret ?_)); cases bret j; exact At.res (.inl rfl) rfl rfl ⟨rfl, rfl⟩

noncomputable def Q160.f (a0 : Int) : Option Int :=
 if a0 = 10 then
 some 1
 else
 jn (
 if 97 ≤ a0 then
 some (.inl (decide (a0 ≤ 122)))
 else
 some (.inl false)) (fun (p : Bool) =>
 if p = true then
 some 2
 else
 jn (
 if 65 ≤ a0 then
 some (.inl (decide (a0 ≤ 90)))
 else
 some (.inl false)) (fun (q : Bool) =>
 if q = true then
 some 3
 else
 jn (
 if 48 ≤ a0 then
 some (.inl (decide (a0 ≤ 57)))
 else
 some (.inl false)) (fun (u : Bool) =>
 if u = true then
 some 4
 else
 jn (
 if 32 < a0 then
 some (.inl (decide (a0 < 127)))
 else
 some (.inl false)) (fun (C : Bool) =>
 jn (
 if C = true then
 some (.inl (!(decide (a0 = 95))))
 else
 some (.inl false)) (fun (D : Bool) =>
 if D = true then
 some 5
 else
 some 0)))))
theorem Q160.callee : Callee Tryz.prog 144 := ⟨_, Tryz.func144, by kernel_rfl, by kernel_rfl⟩
theorem Q160.spec {a0 : Int} {r : Int} (j : Q160.f a0 = some r) :
 Spec Tryz.prog 144 [.int .u8 a0] R (Fr) (fun v l' => v = i6 r ∧ Fr = l') := by
 refine Spec.of Tryz.func144 rfl rfl ?_; unfold Q160.f at j; have j := brun j; refine sR 1 rfl (nT (At.seq ?_)); refine At.block ?_; refine sR 3 rfl (nT ?_); rcases bite j with ⟨E, j⟩ | ⟨E, j⟩
 ··refine At.condT rfl (decide_eq_true E) ?_
   refine sR 1 rfl (nT (At.ret ?_)); refine At.ibr ?_; refine At.thr ?_; cases bret j; exact At.res (.inl rfl) rfl rfl ⟨rfl, rfl⟩
 ··refine At.condF rfl (decide_eq_false E) ?_
   refine sR 3 rfl ?_; obtain ⟨a9, b2, c5, j⟩ := bjoin j; refine At.joinO 3 (X := Bool) (fun p => [(0, .int .u8 a0), (12, .bool p)]) (fun p => Fr) (fun p => a9 (.inl p) = some r) ?_ (fun a4 => ?_)
   ·rintro p j; have j := (b2 _).symm.trans j
    ·refine At.run 1 rfl (nT ?_); rcases bite j with ⟨G, j⟩ | ⟨G, j⟩
     ··refine At.condT rfl G ?_
       refine sR 1 rfl (nT (At.ret ?_)); refine At.ibr ?_; refine At.thr ?_; cases bret j; exact At.res (.inl rfl) rfl rfl ⟨rfl, rfl⟩
     ··refine At.condF rfl (bn G) ?_
       refine sR 3 rfl ?_; obtain ⟨b3, b4, c6, j⟩ := bjoin j; refine At.joinO 3 (X := Bool) (fun q => [(0, .int .u8 a0), (19, .bool q)]) (fun q => Fr) (fun q => b3 (.inl q) = some r) ?_ (fun a5 => ?_)
       ·rintro q j; have j := (b4 _).symm.trans j
        ·refine At.run 1 rfl (nT ?_); rcases bite j with ⟨I, j⟩ | ⟨I, j⟩
         ··refine At.condT rfl I ?_
           refine sR 1 rfl (nT (At.ret ?_)); refine At.ibr ?_; refine At.thr ?_; cases bret j; exact At.res (.inl rfl) rfl rfl ⟨rfl, rfl⟩
         ··refine At.condF rfl (bn I) ?_
           refine sR 3 rfl ?_; obtain ⟨b5, b6, c7, j⟩ := bjoin j; refine At.joinO 3 (X := Bool) (fun u => [(0, .int .u8 a0), (26, .bool u)]) (fun u => Fr) (fun u => b5 (.inl u) = some r) ?_ (fun a6 => ?_)
           ·rintro u j; have j := (b6 _).symm.trans j
            ·refine At.run 1 rfl (nT ?_); rcases bite j with ⟨J, j⟩ | ⟨J, j⟩
             ··refine At.condT rfl J ?_
               refine sR 1 rfl (nT (At.ret ?_)); refine At.ibr ?_; refine At.thr ?_; cases bret j; exact At.res (.inl rfl) rfl rfl ⟨rfl, rfl⟩
             ··refine At.condF rfl (bn J) ?_
               refine sR 3 rfl ?_; obtain ⟨b7, b8, c8, j⟩ := bjoin j; refine At.joinO 3 (X := Bool) (fun C => [(0, .int .u8 a0), (33, .bool C)]) (fun C => Fr) (fun C => b7 (.inl C) = some r) ?_ (fun a7 => ?_)
               ·rintro C j; have j := (b8 _).symm.trans j
                ·refine At.run 1 rfl ?_; obtain ⟨b9, c4, c9, j⟩ := bjoin j; refine At.joinO 3 (X := Bool) (fun D => [(37, .bool D)]) (fun D => Fr) (fun D => b9 (.inl D) = some r) ?_ (fun a8 => ?_)
                 ·rintro D j; have j := (c4 _).symm.trans j
                  ·refine At.run 1 rfl (nT ?_); rcases bite j with ⟨U, j⟩ | ⟨U, j⟩
                   ··refine At.condT rfl U ?_
                     refine sR 1 rfl (nT (At.ret ?_)); refine At.ibr ?_; refine At.thr ?_; cases bret j; exact At.res (.inl rfl) rfl rfl ⟨rfl, rfl⟩
                   ··refine At.condF rfl (bn U) ?_
                     refine At.skip ?_; refine At.ibn ?_; refine At.thn (sR 1 rfl (nT (At.ret ?_))); cases bret j; exact At.res (.inl rfl) rfl rfl ⟨rfl, rfl⟩
                 ··rcases bite j with ⟨V, j⟩ | ⟨V, j⟩
                   ··refine At.know (t := 34) rfl V ?_
                     refine At.run 3 rfl ?_; exact At.of (a8 (!(decide (a0 = 95))) j) ⟨rfl, trivial⟩
                   ··refine At.know (t := 34) rfl (bn V) ?_
                     refine At.run 3 rfl ?_; exact At.of (a8 false j) ⟨rfl, trivial⟩
               ··rcases bite j with ⟨Z, j⟩ | ⟨Z, j⟩
                 ··refine At.know (t := 30) rfl (decide_eq_true Z) ?_
                   refine At.run 3 rfl ?_; exact At.of (a7 (decide (a0 < 127)) j) ⟨rfl, rfl, trivial⟩
                 ··refine At.know (t := 30) rfl (decide_eq_false Z) ?_
                   refine At.run 3 rfl ?_; exact At.of (a7 false j) ⟨rfl, rfl, trivial⟩
           ··rcases bite j with ⟨a1, j⟩ | ⟨a1, j⟩
             ··refine At.know (t := 23) rfl (decide_eq_true a1) ?_
               refine At.run 3 rfl ?_; exact At.of (a6 (decide (a0 ≤ 57)) j) ⟨rfl, rfl, trivial⟩
             ··refine At.know (t := 23) rfl (decide_eq_false a1) ?_
               refine At.run 3 rfl ?_; exact At.of (a6 false j) ⟨rfl, rfl, trivial⟩
       ··rcases bite j with ⟨a2, j⟩ | ⟨a2, j⟩
         ··refine At.know (t := 16) rfl (decide_eq_true a2) ?_
           refine At.run 3 rfl ?_; exact At.of (a5 (decide (a0 ≤ 90)) j) ⟨rfl, rfl, trivial⟩
         ··refine At.know (t := 16) rfl (decide_eq_false a2) ?_
           refine At.run 3 rfl ?_; exact At.of (a5 false j) ⟨rfl, rfl, trivial⟩
   ··rcases bite j with ⟨a3, j⟩ | ⟨a3, j⟩
     ··refine At.know (t := 9) rfl (decide_eq_true a3) ?_
       refine At.run 3 rfl ?_; exact At.of (a4 (decide (a0 ≤ 122)) j) ⟨rfl, rfl, trivial⟩
     ··refine At.know (t := 9) rfl (decide_eq_false a3) ?_
       refine At.run 3 rfl ?_; exact At.of (a4 false j) ⟨rfl, rfl, trivial⟩

noncomputable def Q48.l0b (a1 : Bs) (p : Int) : Option ((Int) ⊕ ((Int) ⊕ ((Int) ⊕ (Int)))) :=
 jn (
 if p < (a1.length : Int) then
 if (0 : Int) ≤ p ∧ p < (a1.length : Int) then
 some (.inl (decide (48 ≤ bat a1 p)))
 else none
 else
 some (.inl false)) (fun (q : Bool) =>
 jn (
 if q = true then
 if (0 : Int) ≤ p ∧ p < (a1.length : Int) then
 some (.inl (decide (bat a1 p ≤ 57)))
 else none
 else
 some (.inl false)) (fun (u : Bool) =>
 if u = true then
 nx (IntKind.i64.wrap (p + 1))
 else
 dn (.inl p)))
noncomputable def Q48.l0 (a1 : Bs) (p : Int) : Option ((Int) ⊕ ((Int) ⊕ (Int))) := iter (fun t_ : Int => Q48.l0b a1 t_) p
noncomputable def Q48.l1b (a1 : Bs) (p : Int) : Option ((Int) ⊕ ((Int) ⊕ ((Int) ⊕ (Int)))) :=
 jn (
 if p < (a1.length : Int) then
 if (0 : Int) ≤ p ∧ p < (a1.length : Int) then
 jn (
 if bat a1 p = 95 then
 some (.inl (true, true))
 else
 jn (
 if 97 ≤ bat a1 p then
 some (.inl (true, decide (bat a1 p ≤ 122)))
 else
 some (.inl (false, false))) (fun (s_ : Bool × Bool) =>
 some (.inl (false, s_.2)))) (fun (s_ : Bool × Bool) =>
 jn (
 if s_.2 = true then
 some (.inl (true, true))
 else
 jn (
 if 65 ≤ bat a1 p then
 some (.inl (true, decide (bat a1 p ≤ 90)))
 else
 some (.inl (false, false))) (fun (s_ : Bool × Bool) =>
 some (.inl (false, s_.2)))) (fun (s_ : Bool × Bool) =>
 jn (
 if s_.2 = true then
 some (.inl (true, true))
 else
 jn (
 if 48 ≤ bat a1 p then
 some (.inl (true, decide (bat a1 p ≤ 57)))
 else
 some (.inl (false, false))) (fun (s_ : Bool × Bool) =>
 some (.inl (false, s_.2)))) (fun (s_ : Bool × Bool) =>
 some (.inl s_.2))))
 else none
 else
 some (.inl false)) (fun (q : Bool) =>
 if q = true then
 nx (IntKind.i64.wrap (p + 1))
 else
 dn (.inl p))
noncomputable def Q48.l1 (a1 : Bs) (p : Int) : Option ((Int) ⊕ ((Int) ⊕ (Int))) := iter (fun t_ : Int => Q48.l1b a1 t_) p
noncomputable def Q48.f (a0 : Int) (a1 : Bs) : Option Int :=
 jn (
 if a0 = 4 then
 jn (Q48.l0 a1 1) (fun (p : Int) =>
 some (.inl p))
 else
 jn (
 if a0 = 2 then
 some (.inl (decide (a0 = 2)))
 else
 some (.inl (decide (a0 = 3)))) (fun (q : Bool) =>
 if q = true then
 jn (Q48.l1 a1 1) (fun (u : Int) =>
 some (.inl u))
 else
 some (.inl 1))) (fun (C : Int) =>
 some C)
theorem Q48.callee : Callee Tryz.prog 145 := ⟨_, Tryz.func145, by kernel_rfl, by kernel_rfl⟩
theorem Q48.spec {a0 : Int} {a1 : Bs} {r : Int} (j : Q48.f a0 a1 = some r) :
 Spec Tryz.prog 145 [i6 a0, .string ⟨(a1).toArray⟩] R (Fr) (fun v l' => v = i6 r ∧ Fr = l') := by
 refine Spec.of Tryz.func145 rfl rfl ?_; unfold Q48.f at j; have j := brun j; refine sR 1 rfl (nT (sR 1 rfl ?_)); refine nT (At.seq (sR 1 rfl (nT ?_))); obtain ⟨e6, e7, k4, j⟩ := bjoin j; refine At.join (X := Int) (fun G => [(5, i6 G)]) (fun G => Fr) (fun G => e6 (.inl G) = some r) ?_ (fun a6 => ?_)
 ·rintro G j; have j := (e7 _).symm.trans j
  ·refine sR 2 rfl (nT (At.ret ?_)); cases bret j; exact At.res (.inl rfl) rfl rfl ⟨rfl, rfl⟩
 ··refine At.block ?_
   refine sR 2 rfl (nT ?_); rcases bite j with ⟨a7, j⟩ | ⟨a7, j⟩
   ··refine At.condT rfl (decide_eq_true a7) ?_
     refine At.block ?_; obtain ⟨e8, e9, k5, j⟩ := bjoin j; obtain ⟨a3, a8, f0⟩ := bsome j; clear j; unfold Q48.l0 at a8; obtain ⟨a9, I⟩ := Q15.1 a8; clear a8; refine At.loopJ (X := Int) (Y := Int) (e0 := 1) (fun u => [(1, .string ⟨(a1).toArray⟩), (5, i6 u)]) (fun u => Fr) (fun m_ => fun u => iterN (fun t_ : Int => Q48.l0b a1 t_) m_ u = some a3) a9 1 I (fun D => [(5, i6 D)]) (fun D => Fr) (fun D => e8 (.inl D) = some r) (fun a w e hs => ⟨e.sub ⟨rfl, rfl, trivial⟩, (by exact hs)⟩) ?_ (fun f1 => ?_)
     ·rintro D j; have j := (e9 _).symm.trans j
      ·refine At.ibx ?_; refine At.ibn ?_; refine At.thn ?_; exact fun a w e hs => a6 D j a w (e.sub ⟨rfl, trivial⟩) hs
     ·clear I a9; rintro a9 u I; obtain ⟨f2, f_, f3, hf_, j⟩ := bit I; clear I; have j : (Q48.l0b a1 u).bind _ = some a3 := j; unfold Q48.l0b at j
      ·refine At.seq (sR 5 rfl ?_); obtain ⟨f4, f5, k6, j⟩ := bjoin j; refine At.joinO 5 (X := Bool) (fun J => [(1, .string ⟨(a1).toArray⟩), (5, i6 u), (18, .bool J)]) (fun J => Fr) (fun J => f4 (.inl J) = some a3) ?_ (fun d1 => ?_)
       ·rintro J j; have j := (f5 _).symm.trans j
        ·refine At.run 1 rfl ?_; obtain ⟨f6, f7, k7, j⟩ := bjoin j; refine At.joinO 5 (X := Bool) (fun U => [(1, .string ⟨(a1).toArray⟩), (5, i6 u), (24, .bool U)]) (fun U => Fr) (fun U => f6 (.inl U) = some a3) ?_ (fun d2 => ?_)
         ·rintro U j; have j := (f7 _).symm.trans j
          ·refine nT ?_; rcases bite j with ⟨b2, j⟩ | ⟨b2, j⟩
           ··refine At.condT rfl b2 ?_
             refine At.skip (At.thn ?_); refine At.block ?_; refine At.region (At.run 3 rfl (At.nil ?_)); refine At.ibn ?_; have j := bnx hf_ j; exact fun a w e hs => ⟨f2, (IntKind.i64.wrap (u + 1)), f3, j, e.sub ⟨rfl, rfl, trivial⟩, hs⟩
           ··refine At.condF rfl (bn b2) ?_
             refine At.exit ?_; refine At.the ?_; refine At.the ?_; exact fun a w e hs => f1 u (bdn j f0) a w (e.sub ⟨rfl, trivial⟩) hs
         ··rcases bite j with ⟨b3, j⟩ | ⟨b3, j⟩
           ··refine At.know (t := 19) rfl b3 ?_
             refine At.run 2 rfl ?_; obtain ⟨d3, j⟩ := bnone j; refine At.y (Y.ixStr rfl rfl rfl rfl d3.1 d3.2) rfl rfl rfl (At.run 2 rfl ?_); exact At.of (d2 (decide (bat a1 u ≤ 57)) j) ⟨rfl, rfl, rfl, trivial⟩
           ··refine At.know (t := 19) rfl (bn b3) ?_
             refine At.run 5 rfl ?_; exact At.of (d2 false j) ⟨rfl, rfl, rfl, trivial⟩
       ··rcases bite j with ⟨b4, j⟩ | ⟨b4, j⟩
         ··refine At.know (t := 13) rfl (decide_eq_true b4) ?_
           refine At.run 2 rfl ?_; obtain ⟨d4, j⟩ := bnone j; refine At.y (Y.ixStr rfl rfl rfl rfl d4.1 d4.2) rfl rfl rfl (At.run 2 rfl ?_); exact At.of (d1 (decide (48 ≤ bat a1 u)) j) ⟨rfl, rfl, rfl, trivial⟩
         ··refine At.know (t := 13) rfl (decide_eq_false b4) ?_
           refine At.run 5 rfl ?_; exact At.of (d1 false j) ⟨rfl, rfl, rfl, trivial⟩
   ··refine At.condF rfl (decide_eq_false a7) ?_
     refine At.seq (sR 2 rfl (nT ?_)); obtain ⟨f8, f9, k8, j⟩ := bjoin j; refine At.join (X := Bool) (fun V => [(1, .string ⟨(a1).toArray⟩), (5, i6 1), (27, .bool V)]) (fun V => Fr) (fun V => f8 (.inl V) = some r) ?_ (fun d5 => ?_)
     ·rintro V j; have j := (f9 _).symm.trans j
      ·rcases bite j with ⟨b5, j⟩ | ⟨b5, j⟩
       ··refine At.condT rfl b5 ?_
         refine At.block ?_; obtain ⟨g0, g1, k9, j⟩ := bjoin j; obtain ⟨C, b6, g2⟩ := bsome j; clear j; unfold Q48.l1 at b6; obtain ⟨b7, Z⟩ := Q15.1 b6; clear b6; refine At.loopJ (X := Int) (Y := Int) (e0 := 3) (fun p => [(1, .string ⟨(a1).toArray⟩), (5, i6 p)]) (fun p => Fr) (fun m_ => fun p => iterN (fun t_ : Int => Q48.l1b a1 t_) m_ p = some C) b7 1 Z (fun E => [(5, i6 E)]) (fun E => Fr) (fun E => g0 (.inl E) = some r) (fun a w e hs => ⟨e.sub ⟨rfl, rfl, trivial⟩, (by exact hs)⟩) ?_ (fun g3 => ?_)
         ·rintro E j; have j := (g1 _).symm.trans j
          ·refine At.ibx ?_; refine At.ibn ?_; refine At.thn ?_; exact fun a w e hs => a6 E j a w (e.sub ⟨rfl, trivial⟩) hs
         ·clear Z b7; rintro b7 p Z; obtain ⟨g4, f_, g5, hf_, j⟩ := bit Z; clear Z; have j : (Q48.l1b a1 p).bind _ = some C := j; unfold Q48.l1b at j
          ·refine At.seq (sR 5 rfl ?_); obtain ⟨g6, g7, l6, j⟩ := bjoin j; refine At.joinO 41 (X := Bool) (fun a2 => [(1, .string ⟨(a1).toArray⟩), (5, i6 p), (75, .bool a2)]) (fun a2 => Fr) (fun a2 => g6 (.inl a2) = some C) ?_ (fun d6 => ?_)
           ·rintro a2 j; have j := (g7 _).symm.trans j
            ·refine nT ?_; rcases bite j with ⟨b8, j⟩ | ⟨b8, j⟩
             ··refine At.condT rfl b8 ?_
               refine At.skip (At.thn ?_); refine At.block ?_; refine At.region (At.run 3 rfl (At.nil ?_)); refine At.ibn ?_; have j := bnx hf_ j; exact fun a w e hs => ⟨g4, (IntKind.i64.wrap (p + 1)), g5, j, e.sub ⟨rfl, rfl, trivial⟩, hs⟩
             ··refine At.condF rfl (bn b8) ?_
               refine At.exit ?_; refine At.the ?_; refine At.the ?_; exact fun a w e hs => g3 p (bdn j g2) a w (e.sub ⟨rfl, trivial⟩) hs
           ··rcases bite j with ⟨b9, j⟩ | ⟨b9, j⟩
             ··refine At.know (t := 34) rfl (decide_eq_true b9) ?_
               refine At.run 2 rfl ?_; obtain ⟨q, j⟩ := bnone j; refine At.y (Y.ixStr rfl rfl rfl rfl q.1 q.2) rfl rfl rfl (At.run 2 rfl ?_); obtain ⟨g8, g9, l7, j⟩ := bjoin j; refine At.joinO 11 (X := Bool × Bool) (fun s_ => [(1, .string ⟨(a1).toArray⟩), (5, i6 p), (34, .bool true), (35, .string ⟨(a1).toArray⟩), (36, i6 p), (37, .int .u8 (bat a1 p)), (38, .bool (decide (bat a1 p = 95))), (39, .bool s_.1), (50, .bool s_.2)]) (fun s_ => Fr) (fun s_ => g8 (.inl (s_.1, s_.2)) = some C) ?_ (fun d7 => ?_)
               ·rintro ⟨a4, a5⟩ j; have j := (g9 _).symm.trans j
                ·refine At.run 1 rfl ?_; obtain ⟨h0, h1, l8, j⟩ := bjoin j; refine At.joinO 11 (X := Bool × Bool) (fun s_ => [(1, .string ⟨(a1).toArray⟩), (5, i6 p), (34, .bool true), (35, .string ⟨(a1).toArray⟩), (36, i6 p), (37, .int .u8 (bat a1 p)), (38, .bool (decide (bat a1 p = 95))), (39, .bool a4), (50, .bool a5), (51, .bool s_.1), (62, .bool s_.2)]) (fun s_ => Fr) (fun s_ => h0 (.inl (s_.1, s_.2)) = some C) ?_ (fun d8 => ?_)
                 ·rintro ⟨d9, e1⟩ j; have j := (h1 _).symm.trans j
                  ·refine At.run 1 rfl ?_; obtain ⟨h2, h3, l9, j⟩ := bjoin j; refine At.joinO 11 (X := Bool × Bool) (fun s_ => [(1, .string ⟨(a1).toArray⟩), (5, i6 p), (34, .bool true), (35, .string ⟨(a1).toArray⟩), (36, i6 p), (37, .int .u8 (bat a1 p)), (38, .bool (decide (bat a1 p = 95))), (39, .bool a4), (50, .bool a5), (51, .bool d9), (62, .bool e1), (63, .bool s_.1), (74, .bool s_.2)]) (fun s_ => Fr) (fun s_ => h2 (.inl (s_.1, s_.2)) = some C) ?_ (fun e2 => ?_)
                   ·rintro ⟨m0, h4⟩ j; have j := (h3 _).symm.trans j
                    ·refine At.run 1 rfl ?_; exact At.of (d6 h4 j) ⟨rfl, rfl, rfl, trivial⟩
                   ··rcases bite j with ⟨c4, j⟩ | ⟨c4, j⟩
                     ··refine At.know (t := 63) rfl c4 ?_
                       refine At.run 11 rfl ?_; exact At.of (e2 (true, true) j) ⟨rfl, rfl, rfl, rfl, rfl, rfl, rfl, rfl, rfl, rfl, rfl, rfl, rfl, trivial⟩
                     ··refine At.know (t := 63) rfl (bn c4) ?_
                       refine At.run 2 rfl (At.y (Y.ixStr rfl rfl rfl rfl q.1 q.2) rfl rfl rfl (At.run 2 rfl ?_)); obtain ⟨h5, h6, m1, j⟩ := bjoin j; refine At.joinO 5 (X := Bool × Bool) (fun s_ => [(1, .string ⟨(a1).toArray⟩), (5, i6 p), (34, .bool true), (35, .string ⟨(a1).toArray⟩), (36, i6 p), (37, .int .u8 (bat a1 p)), (38, .bool (decide (bat a1 p = 95))), (39, .bool a4), (50, .bool a5), (51, .bool d9), (62, .bool e1), (63, .bool false), (64, .string ⟨(a1).toArray⟩), (65, i6 p), (66, .int .u8 (bat a1 p)), (67, .bool (decide (48 ≤ bat a1 p))), (68, .bool s_.1), (73, .bool s_.2)]) (fun s_ => Fr) (fun s_ => h5 (.inl (s_.1, s_.2)) = some C) ?_ (fun e3 => ?_)
                       ·rintro ⟨m2, h7⟩ j; have j := (h6 _).symm.trans j
                        ·refine At.run 1 rfl ?_; exact At.of (e2 (false, h7) j) ⟨rfl, rfl, rfl, rfl, rfl, rfl, rfl, rfl, rfl, rfl, rfl, rfl, rfl, trivial⟩
                       ··rcases bite j with ⟨c5, j⟩ | ⟨c5, j⟩
                         ··refine At.know (t := 68) rfl (decide_eq_true c5) ?_
                           refine At.run 2 rfl (At.y (Y.ixStr rfl rfl rfl rfl q.1 q.2) rfl rfl rfl (At.run 2 rfl ?_)); exact At.of (e3 (true, decide (bat a1 p ≤ 57)) j) ⟨rfl, rfl, rfl, rfl, rfl, rfl, rfl, rfl, rfl, rfl, rfl, rfl, rfl, rfl, rfl, rfl, rfl, rfl, trivial⟩
                         ··refine At.know (t := 68) rfl (decide_eq_false c5) ?_
                           refine At.run 5 rfl ?_; exact At.of (e3 (false, false) j) ⟨rfl, rfl, rfl, rfl, rfl, rfl, rfl, rfl, rfl, rfl, rfl, rfl, rfl, rfl, rfl, rfl, rfl, rfl, trivial⟩
                 ··rcases bite j with ⟨c6, j⟩ | ⟨c6, j⟩
                   ··refine At.know (t := 51) rfl c6 ?_
                     refine At.run 11 rfl ?_; exact At.of (d8 (true, true) j) ⟨rfl, rfl, rfl, rfl, rfl, rfl, rfl, rfl, rfl, rfl, rfl, trivial⟩
                   ··refine At.know (t := 51) rfl (bn c6) ?_
                     refine At.run 2 rfl (At.y (Y.ixStr rfl rfl rfl rfl q.1 q.2) rfl rfl rfl (At.run 2 rfl ?_)); obtain ⟨h8, h9, m3, j⟩ := bjoin j; refine At.joinO 5 (X := Bool × Bool) (fun s_ => [(1, .string ⟨(a1).toArray⟩), (5, i6 p), (34, .bool true), (35, .string ⟨(a1).toArray⟩), (36, i6 p), (37, .int .u8 (bat a1 p)), (38, .bool (decide (bat a1 p = 95))), (39, .bool a4), (50, .bool a5), (51, .bool false), (52, .string ⟨(a1).toArray⟩), (53, i6 p), (54, .int .u8 (bat a1 p)), (55, .bool (decide (65 ≤ bat a1 p))), (56, .bool s_.1), (61, .bool s_.2)]) (fun s_ => Fr) (fun s_ => h8 (.inl (s_.1, s_.2)) = some C) ?_ (fun e4 => ?_)
                     ·rintro ⟨m4, k0⟩ j; have j := (h9 _).symm.trans j
                      ·refine At.run 1 rfl ?_; exact At.of (d8 (false, k0) j) ⟨rfl, rfl, rfl, rfl, rfl, rfl, rfl, rfl, rfl, rfl, rfl, trivial⟩
                     ··rcases bite j with ⟨c7, j⟩ | ⟨c7, j⟩
                       ··refine At.know (t := 56) rfl (decide_eq_true c7) ?_
                         refine At.run 2 rfl (At.y (Y.ixStr rfl rfl rfl rfl q.1 q.2) rfl rfl rfl (At.run 2 rfl ?_)); exact At.of (e4 (true, decide (bat a1 p ≤ 90)) j) ⟨rfl, rfl, rfl, rfl, rfl, rfl, rfl, rfl, rfl, rfl, rfl, rfl, rfl, rfl, rfl, rfl, trivial⟩
                       ··refine At.know (t := 56) rfl (decide_eq_false c7) ?_
                         refine At.run 5 rfl ?_; exact At.of (e4 (false, false) j) ⟨rfl, rfl, rfl, rfl, rfl, rfl, rfl, rfl, rfl, rfl, rfl, rfl, rfl, rfl, rfl, rfl, trivial⟩
               ··rcases bite j with ⟨c8, j⟩ | ⟨c8, j⟩
                 ··refine At.know (t := 39) rfl (decide_eq_true c8) ?_
                   refine At.run 11 rfl ?_; exact At.of (d7 (true, true) j) ⟨rfl, rfl, rfl, rfl, rfl, rfl, rfl, rfl, rfl, trivial⟩
                 ··refine At.know (t := 39) rfl (decide_eq_false c8) ?_
                   refine At.run 2 rfl (At.y (Y.ixStr rfl rfl rfl rfl q.1 q.2) rfl rfl rfl (At.run 2 rfl ?_)); obtain ⟨k1, k2, m5, j⟩ := bjoin j; refine At.joinO 5 (X := Bool × Bool) (fun s_ => [(1, .string ⟨(a1).toArray⟩), (5, i6 p), (34, .bool true), (35, .string ⟨(a1).toArray⟩), (36, i6 p), (37, .int .u8 (bat a1 p)), (38, .bool (decide (bat a1 p = 95))), (39, .bool false), (40, .string ⟨(a1).toArray⟩), (41, i6 p), (42, .int .u8 (bat a1 p)), (43, .bool (decide (97 ≤ bat a1 p))), (44, .bool s_.1), (49, .bool s_.2)]) (fun s_ => Fr) (fun s_ => k1 (.inl (s_.1, s_.2)) = some C) ?_ (fun e5 => ?_)
                   ·rintro ⟨m6, k3⟩ j; have j := (k2 _).symm.trans j
                    ·refine At.run 1 rfl ?_; exact At.of (d7 (false, k3) j) ⟨rfl, rfl, rfl, rfl, rfl, rfl, rfl, rfl, rfl, trivial⟩
                   ··rcases bite j with ⟨c9, j⟩ | ⟨c9, j⟩
                     ··refine At.know (t := 44) rfl (decide_eq_true c9) ?_
                       refine At.run 2 rfl (At.y (Y.ixStr rfl rfl rfl rfl q.1 q.2) rfl rfl rfl (At.run 2 rfl ?_)); exact At.of (e5 (true, decide (bat a1 p ≤ 122)) j) ⟨rfl, rfl, rfl, rfl, rfl, rfl, rfl, rfl, rfl, rfl, rfl, rfl, rfl, rfl, trivial⟩
                     ··refine At.know (t := 44) rfl (decide_eq_false c9) ?_
                       refine At.run 5 rfl ?_; exact At.of (e5 (false, false) j) ⟨rfl, rfl, rfl, rfl, rfl, rfl, rfl, rfl, rfl, rfl, rfl, rfl, rfl, rfl, trivial⟩
             ··refine At.know (t := 34) rfl (decide_eq_false b9) ?_
               refine At.run 41 rfl ?_; exact At.of (d6 false j) ⟨rfl, rfl, rfl, trivial⟩
       ··refine At.condF rfl (bn b5) ?_
         refine At.skip ?_; refine At.ibn ?_; refine At.thn ?_; exact fun a w e hs => a6 1 j a w (e.sub ⟨rfl, trivial⟩) hs
     ··rcases bite j with ⟨d0, j⟩ | ⟨d0, j⟩
       ··refine At.condT rfl (decide_eq_true d0) ?_
         refine At.skip (At.thn ?_); exact fun a w e hs => d5 (decide (a0 = 2)) j a w (e.sub ⟨rfl, rfl, rfl, trivial⟩) hs
       ··refine At.condF rfl (decide_eq_false d0) ?_
         refine At.region (At.run 2 rfl (nT ?_)); exact fun a w e hs => d5 (decide (a0 = 3)) j a w (e.sub ⟨rfl, rfl, rfl, trivial⟩) hs

noncomputable def Q87.l0b (a0 : Bs) (q p : Int) : Option ((Int × Int) ⊕ ((Int) ⊕ (Bool × Int))) :=
 if p < (a0.length : Int) then
 if (0 : Int) ≤ p ∧ p < (a0.length : Int) then
 nx (IntKind.i64.wrap (IntKind.i64.wrap (10 * q) + (IntKind.i64.wrap (IntKind.u8.wrap (bat a0 p - 48)))), IntKind.i64.wrap (p + 1))
 else none
 else
 dn (.inl q)
noncomputable def Q87.l0 (a0 : Bs) (p q : Int) : Option ((Int) ⊕ (Bool × Int)) := iter (fun t_ : Int × Int => Q87.l0b a0 t_.1 t_.2) (p, q)
noncomputable def Q87.f (a0 : Bs) : Option (Bool × Int) :=
 jn (
 if 4 < (a0.length : Int) then
 some (.inl true)
 else
 jn (
 if 1 < (a0.length : Int) then
 if (0 : Int) ≤ 0 ∧ 0 < (a0.length : Int) then
 some (.inl (decide (bat a0 0 = 48)))
 else none
 else
 some (.inl false)) (fun (q : Bool) =>
 some (.inl q))) (fun (u : Bool) =>
 if u = true then
 some (false, 0)
 else
 jn (Q87.l0 a0 0 0) (fun (p : Int) =>
 some (decide (p ≤ 9999), p)))
theorem Q87.callee : Callee Tryz.prog 146 := ⟨_, Tryz.func146, by kernel_rfl, by kernel_rfl⟩
theorem Q87.spec {a0 : Bs} {r : Bool × Int} (j : Q87.f a0 = some r) :
 Spec Tryz.prog 146 [.string ⟨(a0).toArray⟩] R (Fr) (fun v l' => v = .tuple #[i6 r.2, .bool r.1] ∧ Fr = l') := by
 refine Spec.of Tryz.func146 rfl rfl ?_; unfold Q87.f at j; have j := brun j; refine sR 2 rfl (nT (At.seq (At.seq (At.region ?_)))); refine At.run 4 rfl ?_; obtain ⟨a6, a7, b8, j⟩ := bjoin j; refine At.joinO 9 (X := Bool) (fun q => [(0, .string ⟨(a0).toArray⟩), (18, .bool q)]) (fun q => Fr) (fun q => a6 (.inl q) = some r) ?_ (fun a1 => ?_)
 ·rintro q j; have j := (a7 _).symm.trans j
  ·refine nT ?_; rcases bite j with ⟨D, j⟩ | ⟨D, j⟩
   ··refine At.condT rfl D ?_
     refine sR 2 rfl (nT (At.ret (At.thr ?_))); cases bret j; exact At.res (.inl rfl) rfl rfl ⟨rfl, rfl⟩
   ··refine At.condF rfl (bn D) ?_
     refine At.skip (At.thn (sR 1 rfl (nT (At.seq ?_)))); refine sR 3 rfl (nT ?_); refine At.block ?_; obtain ⟨a8, a9, b9, j⟩ := bjoin j; obtain ⟨a2, E, b2⟩ := bsome j; clear j; unfold Q87.l0 at E; obtain ⟨G, u⟩ := Q15.1 E; clear E; refine At.loopJ (X := Int × Int) (Y := Int) (e0 := 0) (fun s_ => [(0, .string ⟨(a0).toArray⟩), (4, i6 s_.1), (20, i6 (a0.length : Int)), (21, i6 s_.2)]) (fun s_ => Fr) (fun m_ => fun s_ => iterN (fun t_ : Int × Int => Q87.l0b a0 t_.1 t_.2) m_ (s_.1, s_.2) = some a2) G (0, 0) u (fun C => [(4, i6 C)]) (fun C => Fr) (fun C => a8 (.inl C) = some r) (fun a w e hs => ⟨e.sub ⟨rfl, rfl, rfl, rfl, trivial⟩, (by exact hs)⟩) ?_ (fun b3 => ?_)
     ·rintro C j; have j := (a9 _).symm.trans j
      ·refine At.ibx ?_; refine At.thn (sR 5 rfl (nT (At.ret ?_))); cases bret j; exact At.res (.inl rfl) rfl rfl ⟨rfl, rfl⟩
     ·clear u G; rintro G ⟨I, J⟩ u; obtain ⟨b4, f_, b5, hf_, j⟩ := bit u; clear u; have j : (Q87.l0b a0 I J).bind _ = some a2 := j; unfold Q87.l0b at j
      ·refine sR 1 rfl (nT (At.seq ?_)); rcases bite j with ⟨U, j⟩ | ⟨U, j⟩
       ··refine At.condT rfl (decide_eq_true U) ?_
         refine At.skip (At.thn (At.seq ?_)); refine At.block ?_; refine sR 2 rfl (nT (At.region (At.run 4 rfl ?_))); obtain ⟨a3, j⟩ := bnone j; refine At.y (Y.ixStr rfl rfl rfl rfl a3.1 a3.2) rfl rfl rfl (At.run 4 rfl (At.nil ?_)); refine At.ibn ?_; refine At.thn (At.region (At.run 2 rfl (At.nil ?_))); have j := bnx hf_ j; exact fun a w e hs => ⟨b4, (IntKind.i64.wrap (IntKind.i64.wrap (10 * I) + (IntKind.i64.wrap (IntKind.u8.wrap (bat a0 J - 48)))), IntKind.i64.wrap (J + 1)), b5, j, e.sub ⟨rfl, rfl, rfl, rfl, trivial⟩, hs⟩
       ··refine At.condF rfl (decide_eq_false U) ?_
         refine At.exit ?_; refine At.the ?_; refine At.the ?_; exact fun a w e hs => b3 I (bdn j b2) a w (e.sub ⟨rfl, trivial⟩) hs
 ··rcases bite j with ⟨V, j⟩ | ⟨V, j⟩
   ··refine At.know (t := 9) rfl (decide_eq_true V) ?_
     refine At.run 9 rfl ?_; exact At.of (a1 true j) ⟨rfl, rfl, trivial⟩
   ··refine At.know (t := 9) rfl (decide_eq_false V) ?_
     refine At.run 4 rfl ?_; obtain ⟨b6, b7, c4, j⟩ := bjoin j; refine At.joinO 4 (X := Bool) (fun p => [(0, .string ⟨(a0).toArray⟩), (9, .bool false), (17, .bool p)]) (fun p => Fr) (fun p => b6 (.inl p) = some r) ?_ (fun a4 => ?_)
     ·rintro p j; have j := (b7 _).symm.trans j
      ·refine At.run 1 rfl ?_; exact At.of (a1 p j) ⟨rfl, rfl, trivial⟩
     ··rcases bite j with ⟨Z, j⟩ | ⟨Z, j⟩
       ··refine At.know (t := 13) rfl (decide_eq_true Z) ?_
         refine At.run 1 rfl ?_; obtain ⟨a5, j⟩ := bnone j; refine At.y (Y.ixStr rfl rfl rfl rfl a5.1 a5.2) rfl rfl rfl (At.run 2 rfl ?_); exact At.of (a4 (decide (bat a0 0 = 48)) j) ⟨rfl, rfl, rfl, trivial⟩
       ··refine At.know (t := 13) rfl (decide_eq_false Z) ?_
         refine At.run 4 rfl ?_; exact At.of (a4 false j) ⟨rfl, rfl, rfl, trivial⟩

noncomputable def Q159.f (a0 : Bs) (a1 : Int) : Option (Int × Int × Int × Bs × Int) :=
 if (0 : Int) ≤ a1 ∧ a1 < (a0.length : Int) then
 (Q160.f (bat a0 a1)).bind fun p =>
 if (0 : Int) ≤ a1 ∧ a1 ≤ (a0.length : Int) then
 (Q48.f p (a0.drop a1.toNat)).bind fun q =>
 if (0 : Int) ≤ a1 ∧ a1 ≤ IntKind.i64.wrap (a1 + q) ∧ IntKind.i64.wrap (a1 + q) ≤ (a0.length : Int) then
 jn (
 if p = 0 then
 up (some (3, p, a1, (bsl a0 a1 (IntKind.i64.wrap (a1 + q))), 0))
 else
 jn (
 if p = 2 then
 some (.inl (decide (p = 2)))
 else
 some (.inl (decide (p = 3)))) (fun (C : Bool) =>
 if C = true then
 if 8 < ((bsl a0 a1 (IntKind.i64.wrap (a1 + q))).length : Int) then
 up (some (5, p, a1, (bsl a0 a1 (IntKind.i64.wrap (a1 + q))), 0))
 else
 some (.inl 0)
 else
 if p = 4 then
 (Q87.f (bsl a0 a1 (IntKind.i64.wrap (a1 + q)))).bind fun u =>
 if u.1 = true then
 some (.inl u.2)
 else
 up (some (4, p, a1, (bsl a0 a1 (IntKind.i64.wrap (a1 + q))), 0))
 else
 some (.inl 0))) (fun (D : Int) =>
 some (0, p, a1, (bsl a0 a1 (IntKind.i64.wrap (a1 + q))), D))
 else none
 else none
 else none
theorem Q159.callee : Callee Tryz.prog 109 := ⟨_, Tryz.func109, by kernel_rfl, by kernel_rfl⟩
theorem Q159.spec {a0 : Bs} {a1 : Int} {r : Int × Int × Int × Bs × Int} (j : Q159.f a0 a1 = some r) :
 Spec Tryz.prog 109 [.string ⟨(a0).toArray⟩, i6 a1] R (Fr) (fun v l' => v = .tuple #[.agg #[i6 r.2.1, i6 r.2.2.1, .string ⟨(r.2.2.2.1).toArray⟩, i6 r.2.2.2.2], i6 r.1] ∧ Fr = l') := by
 refine Spec.of Tryz.func109 rfl rfl ?_; unfold Q159.f at j; have j := brun j; refine At.seq (At.region ?_); refine At.alloc rfl rfl rfl (fun C => ?_); refine At.run 1 rfl (nT (sR 2 rfl ?_)); obtain ⟨a4, j⟩ := bnone j; refine At.y (Y.ixStr rfl rfl rfl rfl a4.1 a4.2) rfl rfl rfl ?_; obtain ⟨p, a8, j⟩ := bbind j; refine At.call rfl Q160.callee rfl rfl rfl (Q160.spec a8) ?_; rintro _ _ ⟨rfl, rfl⟩; refine At.run 1 rfl ?_; refine At.y (Y.build (is := [0, 1]) (xo := [.tmp 12, .tmp 13]) (vs := [i6 p, i6 a1]) (cs := [i6 p, i6 a1, .string ⟨(([] : Bs)).toArray⟩, i6 0]) rfl rfl rfl rfl rfl rfl) rfl rfl rfl ?_; refine At.alloc rfl rfl rfl (fun D => ?_); refine At.store rfl rfl rfl rfl .z rfl rfl rfl (.c (.c (.c (.c .n)))) ?_; refine nT (At.seq ?_); refine At.held [pc C [i6 0, i6 0, .string ⟨(([] : Bs)).toArray⟩, i6 0] 115] 13 rfl ?_; refine At.H.pw 0 rfl rfl rfl rfl rfl (.c (.s .z) .n) ?_; refine At.H.pw 1 rfl rfl rfl rfl rfl (.c (.s .z) .n) ?_; refine At.H.pw 2 rfl rfl rfl rfl rfl (.c (.s .z) .n) ?_; refine At.H.pw 3 rfl rfl rfl rfl rfl (.c (.s .z) .n) ?_; refine At.H.pw 5 rfl rfl rfl rfl rfl (.c (.s .z) .n) ?_; refine At.H.pw 6 rfl rfl rfl rfl rfl (.c (.s .z) .n) ?_; obtain ⟨a5, j⟩ := bnone j; refine At.H.tw 7 rfl (Y.slStrL rfl rfl rfl rfl a5.1 a5.2) rfl rfl rfl (.c (.s .z) .n) ?_; refine At.H.al [4] (Q7 ?_ Q8)
 ··refine At.HO.op rfl ?_
   refine At.y (Y.load rfl rfl .z rfl rfl rfl) rfl rfl rfl ?_; refine At.HO.back (.c (.s .z) .n) ?_; refine At.H.al [8] (Q7 ?_ Q8)
   ··refine At.HO.op rfl ?_
     obtain ⟨a6, a9, j⟩ := bbind j; refine At.call rfl Q48.callee rfl rfl rfl (Q48.spec a9) ?_; rintro _ _ ⟨rfl, rfl⟩; refine At.HO.back (.c (.s .z) .n) ?_; refine At.H.pw 9 rfl rfl rfl rfl rfl (.c (.s .z) .n) ?_; obtain ⟨E, j⟩ := bnone j; refine At.H.tw 10 rfl (Y.slStrLH rfl rfl rfl rfl rfl E.1 E.2.1 E.2.2) rfl rfl rfl (.c (.s .z) .n) ?_; refine At.H.pw 11 rfl rfl rfl rfl rfl (.c (.s .z) .n) ?_; refine At.H.al [12] (Q7 ?_ Q8)
     ··refine At.HO.op rfl ?_
       refine At.store rfl rfl rfl rfl .z rfl rfl rfl (.s (.s (.c .n))) ?_; refine At.HO.back (.c (.s .z) .n) ?_; refine At.H.done (by kernel_rfl) ?_; refine At.thn (At.seq (sR 1 rfl (At.y (Y.load rfl rfl .z rfl rfl rfl) rfl rfl rfl (nT ?_)))); obtain ⟨b2, b3, G, j⟩ := bjoin j; let T1 : HProp := pc C [i6 0, i6 0, .string ⟨(([] : Bs)).toArray⟩, i6 0] 115; refine At.join (X := Int) (fun q => [(4, bp C), (6, bp D)]) (fun q => pc D [i6 p, i6 a1, .string ⟨((bsl a0 a1 (IntKind.i64.wrap (a1 + a6)))).toArray⟩, i6 q] 115 :: T1 :: Fr) (fun q => b2 (.inl q) = some r) ?_ (fun I => ?_)
       ·rintro q j; have j := (b3 _).symm.trans j
        ·refine At.seq (At.region (At.y (Y.load rfl rfl .z rfl rfl rfl) rfl rfl rfl ?_)); refine At.store rfl rfl rfl rfl (.s .z) rfl rfl rfl (.c (.c (.c (.c .n)))) ?_; refine At.run 1 rfl (nT (At.ret ?_)); refine At.resM (.inl rfl) rfl (RV.cell rfl rfl .z rfl rfl rfl (RV.tmp rfl RV.nil)) ?_; refine At.drop .z (At.drop .z ?_); cases bret j; exact fun a w e hs => ⟨_, ⟨rfl, rfl⟩, hs⟩
       ··refine At.block ?_
         refine sR 2 rfl (nT ?_); rcases bite j with ⟨J, j⟩ | ⟨J, j⟩
         ··refine At.condT rfl (decide_eq_true J) ?_
           refine At.seq (At.region (At.y (Y.load rfl rfl .z rfl rfl rfl) rfl rfl rfl ?_)); refine At.store rfl rfl rfl rfl (.s .z) rfl rfl rfl (.c (.c (.c (.c .n)))) ?_; refine At.run 1 rfl (nT (At.ret ?_)); refine At.ibr ?_; have j := bup G j; refine At.thr ?_; refine At.resM (.inl rfl) rfl (RV.cell rfl rfl .z rfl rfl rfl (RV.tmp rfl RV.nil)) ?_; refine At.drop .z (At.drop .z ?_); cases bret j; exact fun a w e hs => ⟨_, ⟨rfl, rfl⟩, hs⟩
         ··refine At.condF rfl (decide_eq_false J) ?_
           refine At.seq (sR 2 rfl (nT ?_)); obtain ⟨b4, b5, b8, j⟩ := bjoin j; let T2 : HProp := pc D [i6 p, i6 a1, .string ⟨((bsl a0 a1 (IntKind.i64.wrap (a1 + a6)))).toArray⟩, i6 0] 115; refine At.join (X := Bool) (fun u => [(4, bp C), (6, bp D), (28, i6 p), (32, .bool u)]) (fun u => T2 :: T1 :: Fr) (fun u => b4 (.inl u) = some r) ?_ (fun a7 => ?_)
           ·rintro u j; have j := (b5 _).symm.trans j
            ·rcases bite j with ⟨U, j⟩ | ⟨U, j⟩
             ··refine At.condT rfl U ?_
               refine sR 1 rfl (At.y (Y.load rfl rfl .z rfl rfl rfl) rfl rfl rfl (At.run 2 rfl (nT ?_))); rcases bite j with ⟨V, j⟩ | ⟨V, j⟩
               ··refine At.condT rfl (decide_eq_true V) ?_
                 refine At.seq (At.region (At.y (Y.load rfl rfl .z rfl rfl rfl) rfl rfl rfl ?_)); refine At.store rfl rfl rfl rfl (.s .z) rfl rfl rfl (.c (.c (.c (.c .n)))) ?_; refine At.run 1 rfl (nT (At.ret ?_)); refine At.ibr ?_; have j := bup G j; refine At.thr ?_; refine At.resM (.inl rfl) rfl (RV.cell rfl rfl .z rfl rfl rfl (RV.tmp rfl RV.nil)) ?_; refine At.drop .z (At.drop .z ?_); cases bret j; exact fun a w e hs => ⟨_, ⟨rfl, rfl⟩, hs⟩
               ··refine At.condF rfl (decide_eq_false V) ?_
                 refine At.skip ?_; refine At.ibn ?_; refine At.thn ?_; exact fun a w e hs => I 0 j a w (e.sub ⟨rfl, rfl, trivial⟩) hs
             ··refine At.condF rfl (bn U) ?_
               refine sR 2 rfl (nT ?_); rcases bite j with ⟨Z, j⟩ | ⟨Z, j⟩
               ··refine At.condT rfl (decide_eq_true Z) ?_
                 refine sR 1 rfl (At.y (Y.load rfl rfl .z rfl rfl rfl) rfl rfl rfl ?_); obtain ⟨b6, b7, j⟩ := bbind j; refine At.call rfl Q87.callee rfl rfl rfl (Q87.spec b7) ?_; rintro _ _ ⟨rfl, rfl⟩; refine At.run 5 rfl (nT (At.seq (sR 2 rfl (At.nil ?_)))); refine At.thn ?_; rcases bite j with ⟨a2, j⟩ | ⟨a2, j⟩
                 ··refine At.condF rfl (nf a2) ?_
                   refine At.skip (At.thn (At.region (At.run 2 rfl ?_))); refine At.store rfl rfl rfl rfl .z rfl rfl rfl (.s (.s (.s (.c .n)))) ?_; refine At.nil ?_; refine At.ibn ?_; refine At.thn ?_; exact fun a w e hs => I b6.2 j a w (e.sub ⟨rfl, rfl, trivial⟩) hs
                 ··refine At.condT rfl (nt (bn a2)) ?_
                   refine At.seq (At.region (At.y (Y.load rfl rfl .z rfl rfl rfl) rfl rfl rfl ?_)); refine At.store rfl rfl rfl rfl (.s .z) rfl rfl rfl (.c (.c (.c (.c .n)))) ?_; refine At.run 1 rfl (nT (At.ret (At.thr ?_))); refine At.ibr ?_; have j := bup G j; refine At.thr ?_; refine At.resM (.inl rfl) rfl (RV.cell rfl rfl .z rfl rfl rfl (RV.tmp rfl RV.nil)) ?_; refine At.drop .z (At.drop .z ?_); cases bret j; exact fun a w e hs => ⟨_, ⟨rfl, rfl⟩, hs⟩
               ··refine At.condF rfl (decide_eq_false Z) ?_
                 refine At.skip ?_; refine At.ibn ?_; refine At.thn ?_; exact fun a w e hs => I 0 j a w (e.sub ⟨rfl, rfl, trivial⟩) hs
           ··rcases bite j with ⟨a3, j⟩ | ⟨a3, j⟩
             ··refine At.condT rfl (decide_eq_true a3) ?_
               refine At.skip (At.thn ?_); exact fun a w e hs => a7 (decide (p = 2)) j a w (e.sub ⟨rfl, rfl, rfl, rfl, trivial⟩) hs
             ··refine At.condF rfl (decide_eq_false a3) ?_
               refine At.region (At.run 2 rfl (nT ?_)); exact fun a w e hs => a7 (decide (p = 3)) j a w (e.sub ⟨rfl, rfl, rfl, rfl, trivial⟩) hs

noncomputable def Q61.l0b (a0 : Bs) (u : List Q1) (p : Int) : Option (((List Q1) × Int) ⊕ (((List Q1)) ⊕ ((Option Q6) × (List Q1)))) :=
 if p < (a0.length : Int) then
 if (0 : Int) ≤ p ∧ p < (a0.length : Int) then
 jn (
 if bat a0 p = 32 then
 some (.inl true)
 else
 some (.inl (decide (bat a0 p = 9)))) (fun (D : Bool) =>
 if D = true then
 nx (u, IntKind.i64.wrap (p + 1))
 else
 if bat a0 p = 35 then
 if (0 : Int) ≤ p ∧ p ≤ (a0.length : Int) then
 (Q165.f (a0.drop p.toNat) 10).bind fun C =>
 jn (
 if C < 0 then
 some (.inl (IntKind.i64.wrap ((a0.length : Int) - p)))
 else
 some (.inl C)) (fun (E : Int) =>
 nx (u, IntKind.i64.wrap (p + E)))
 else none
 else
 (Q159.f a0 p).bind fun q =>
 if q.1 = 0 then
 if (u.length + ([(⟨q.2.1, q.2.2.1, q.2.2.2.1, q.2.2.2.2⟩ : Q1)] : List Q1).length) * 40 ≤ 140737488355328 then
 nx ((u ++ ([(⟨q.2.1, q.2.2.1, q.2.2.2.1, q.2.2.2.2⟩ : Q1)] : List Q1)), IntKind.i64.wrap (p + (q.2.2.2.1.length : Int)))
 else none
 else
 upL (some ((some (⟨p, q.1⟩ : Q6)), ([] : List Q1))))
 else none
 else
 dn (.inl u)
noncomputable def Q61.l0 (a0 : Bs) (p : List Q1) (q : Int) : Option (((List Q1)) ⊕ ((Option Q6) × (List Q1))) := iter (fun t_ : (List Q1) × Int => Q61.l0b a0 t_.1 t_.2) (p, q)
noncomputable def Q61.f (a0 : Bs) : Option ((Option Q6) × (List Q1)) :=
 if 262144 < (a0.length : Int) then
 some ((some (⟨262144, 2⟩ : Q6)), ([] : List Q1))
 else
 jn (Q61.l0 a0 ([] : List Q1) 0) (fun (p : List Q1) =>
 if (p.length + ([(⟨0, (a0.length : Int), ([] : Bs), 0⟩ : Q1)] : List Q1).length) * 40 ≤ 140737488355328 then
 some (none, (p ++ ([(⟨0, (a0.length : Int), ([] : Bs), 0⟩ : Q1)] : List Q1)))
 else none)
theorem Q61.callee : Callee Tryz.prog 55 := ⟨_, Tryz.func55, by kernel_rfl, by kernel_rfl⟩
theorem Q61.spec {a0 : Bs} {r : (Option Q6) × (List Q1)} (j : Q61.f a0 = some r) :
 Spec Tryz.prog 55 [.string ⟨(a0).toArray⟩] R (Fr) (fun v l' => ∃ (b2 : Option Nat) (U : Nat) (b3 : Option Addr) (b4 : Nat), v = .tuple #[.slice b3 U b4, opti 110 b2] ∧ row Q1.fl 115 b3 U b4 r.2 :: optb (Ow.fl Q6.fl) 121 b2 r.1 :: Fr = l' ∧ r.2.length = U) := by
 refine Spec.of Tryz.func55 rfl rfl ?_; unfold Q61.f at j; have j := brun j; refine sR 2 rfl (nT (At.seq (At.seq (At.region ?_)))); refine At.run 3 rfl (nT ?_); rcases bite j with ⟨V, j⟩ | ⟨V, j⟩
 ··refine At.condT rfl (decide_eq_true V) ?_
   refine At.seq (At.region ?_); refine At.y (Y.build (is := [0, 1]) (xo := [.const (i6 262144), .const (i6 2)]) (vs := [i6 262144, i6 2]) (cs := [i6 262144, i6 2]) rfl rfl rfl rfl rfl rfl) rfl rfl rfl ?_; refine At.box rfl rfl (cs := [i6 262144, i6 2]) rfl rfl (fun c5 => ?_); refine At.run 3 rfl (nT (At.ret (At.thr ?_))); refine At.nilRow Q1.fl 115 ?_; refine At.f1 ?_; refine At.optSome (x := (⟨262144, 2⟩ : Q6)) (Ent.fl Q6.fl (x := (⟨262144, 2⟩ : Q6)) rfl) ?_; refine At.f1 ?_; cases bret j; exact At.res (.inl rfl) rfl rfl ⟨(some c5), 0, none, 0, rfl, rfl, rfl⟩
 ··refine At.condF rfl (decide_eq_false V) ?_
   refine At.skip (At.thn (sR 1 rfl (nT (At.seq ?_)))); refine sR 1 rfl (nT ?_); refine At.block ?_; obtain ⟨c6, c7, c8, j⟩ := bjoin j; obtain ⟨J, Z, b5⟩ := bsome j; clear j; unfold Q61.l0 at Z; obtain ⟨a1, G⟩ := Q15.1 Z; clear Z; refine At.nilRow Q1.fl 115 ?_; refine At.loopJ (X := (List Q1) × Int × Nat × (Option Addr) × Nat) (Y := (List Q1) × Nat × (Option Addr) × Nat) (e0 := 0) (fun s_ => [(0, .string ⟨(a0).toArray⟩), (4, .slice s_.2.2.2.1 s_.2.2.1 s_.2.2.2.2), (5, i6 s_.2.1)]) (fun s_ => row Q1.fl 115 s_.2.2.2.1 s_.2.2.1 s_.2.2.2.2 s_.1 :: Fr) (fun m_ => fun s_ => iterN (fun t_ : (List Q1) × Int => Q61.l0b a0 t_.1 t_.2) m_ (s_.1, s_.2.1) = some J ∧ s_.1.length = s_.2.2.1) a1 (([] : List Q1), 0, 0, none, 0) ⟨G, rfl⟩ (fun s_ => [(0, .string ⟨(a0).toArray⟩), (4, .slice s_.2.2.1 s_.2.1 s_.2.2.2)]) (fun s_ => row Q1.fl 115 s_.2.2.1 s_.2.1 s_.2.2.2 s_.1 :: Fr) (fun s_ => c6 (.inl s_.1) = some r ∧ s_.1.length = s_.2.1) (fun a w e hs => ⟨e.sub ⟨rfl, rfl, rfl, trivial⟩, (by exact hs)⟩) ?_ (fun c9 => ?_)
   ·rintro ⟨b6, d0, e9, f0⟩ ⟨j, d1⟩; obtain rfl : b6.length = d0 := d1; have j := (c7 _).symm.trans j
    ·refine At.ibx ?_; refine At.thn (sR 3 rfl ?_); refine At.y (Y.build (is := [0, 1]) (xo := [.const (i6 0), .tmp 72]) (vs := [i6 0, i6 (a0.length : Int)]) (cs := [i6 0, i6 (a0.length : Int), .string ⟨(([] : Bs)).toArray⟩, i6 0]) rfl rfl rfl rfl rfl rfl) rfl rfl rfl ?_; refine At.lit rfl (xo := [.tmp 73]) (ys := ([(⟨0, (a0.length : Int), ([] : Bs), 0⟩ : Q1)] : List Q1)) Q1.fl rfl rfl rfl rfl rfl rfl rfl rfl rfl rfl rfl (fun f2 f3 => ?_); obtain ⟨d2, j⟩ := bnone j; refine At.append rfl (.s .z) (Src.own .z (by simp)) rfl rfl rfl rfl rfl rfl rfl rfl d2 (by decide) rfl (fun d3 d4 => ?_); refine At.drop (.s .z) (At.run 2 rfl (nT (At.ret ?_))); refine At.optNone (Ow.fl Q6.fl) 121 ?_; refine At.f1 ?_; cases bret j; exact At.res (.inl rfl) rfl rfl ⟨none, (b6 ++ ([(⟨0, (a0.length : Int), ([] : Bs), 0⟩ : Q1)] : List Q1)).length, d3, d4, rfl, rfl, rfl⟩
   ·clear G a1; rintro a1 ⟨q, u, d5, C, D⟩ ⟨G, d6⟩; obtain rfl : q.length = d5 := d6; obtain ⟨a2, f_, a3, hf_, j⟩ := bit G; clear G; have j : (Q61.l0b a0 q u).bind _ = some J := j; unfold Q61.l0b at j
    ·refine At.seq (sR 4 rfl (nT ?_)); rcases bite j with ⟨a4, j⟩ | ⟨a4, j⟩
     ··refine At.condT rfl (decide_eq_true a4) ?_
       refine At.skip (At.thn ?_); refine At.block ?_; refine sR 2 rfl ?_; obtain ⟨b7, j⟩ := bnone j; refine At.y (Y.ixStr rfl rfl rfl rfl b7.1 b7.2) rfl rfl rfl (At.run 1 rfl (nT ?_)); refine At.block ?_; refine sR 3 rfl ?_; obtain ⟨d7, d8, f4, j⟩ := bjoin j; refine At.joinO 3 (X := Bool) (fun I => [(0, .string ⟨(a0).toArray⟩), (4, .slice C q.length D), (5, i6 u), (6, .int .u8 (bat a0 u)), (51, .bool I)]) (fun I => row Q1.fl 115 C q.length D q :: Fr) (fun I => d7 (.inl I) = some J) ?_ (fun b8 => ?_)
       ·rintro I j; have j := (d8 _).symm.trans j
        ·refine At.run 1 rfl (nT ?_); rcases bite j with ⟨a5, j⟩ | ⟨a5, j⟩
         ··refine At.condT rfl a5 ?_
           refine At.region (At.run 3 rfl (At.nil ?_)); refine At.ibn ?_; refine At.ibn ?_; have j := bnx hf_ j; exact fun a w e hs => ⟨a2, (q, IntKind.i64.wrap (u + 1), q.length, C, D), a3, ⟨j, rfl⟩, e.sub ⟨rfl, rfl, rfl, trivial⟩, hs⟩
         ··refine At.condF rfl (bn a5) ?_
           refine sR 3 rfl (nT ?_); rcases bite j with ⟨a6, j⟩ | ⟨a6, j⟩
           ··refine At.condT rfl (decide_eq_true a6) ?_
             refine sR 2 rfl ?_; obtain ⟨b9, j⟩ := bnone j; refine At.y (Y.slStrL rfl rfl rfl rfl b9.1 b9.2) rfl rfl rfl ?_; obtain ⟨d9, e1, j⟩ := bbind j; refine At.call rfl Q165.callee rfl rfl rfl (Q165.spec e1) ?_; rintro _ _ ⟨rfl, rfl⟩; refine At.run 1 rfl (nT (At.seq (sR 2 rfl (At.nil ?_)))); refine At.thn ?_; obtain ⟨e2, e3, f5, j⟩ := bjoin j; refine At.join (X := Int) (fun E => [(0, .string ⟨(a0).toArray⟩), (4, .slice C q.length D), (5, i6 u), (7, i6 E)]) (fun E => row Q1.fl 115 C q.length D q :: Fr) (fun E => e2 (.inl E) = some J) ?_ (fun c4 => ?_)
             ·rintro E j; have j := (e3 _).symm.trans j
              ·refine At.region (At.run 4 rfl (At.nil ?_)); refine At.ibn ?_; refine At.ibn ?_; have j := bnx hf_ j; exact fun a w e hs => ⟨a2, (q, IntKind.i64.wrap (u + E), q.length, C, D), a3, ⟨j, rfl⟩, e.sub ⟨rfl, rfl, rfl, trivial⟩, hs⟩
             ··rcases bite j with ⟨a7, j⟩ | ⟨a7, j⟩
               ··refine At.condT rfl (decide_eq_true a7) ?_
                 refine At.region (At.run 5 rfl (nT ?_)); exact fun a w e hs => c4 (IntKind.i64.wrap ((a0.length : Int) - u)) j a w (e.sub ⟨rfl, rfl, rfl, rfl, trivial⟩) hs
               ··refine At.condF rfl (decide_eq_false a7) ?_
                 refine At.skip (At.thn ?_); exact fun a w e hs => c4 d9 j a w (e.sub ⟨rfl, rfl, rfl, rfl, trivial⟩) hs
           ··refine At.condF rfl (decide_eq_false a6) ?_
             refine sR 2 rfl ?_; obtain ⟨p, e4, j⟩ := bbind j; refine At.call rfl Q159.callee rfl rfl rfl (Q159.spec e4) ?_; rintro _ _ ⟨rfl, rfl⟩; refine At.run 3 rfl ?_; refine At.alloc rfl rfl rfl (fun f6 => ?_); refine At.store rfl rfl rfl rfl .z rfl rfl rfl (.c (.c (.c (.c .n)))) ?_; refine At.run 1 rfl (nT (At.seq (sR 2 rfl (At.nil ?_)))); refine At.thn ?_; rcases bite j with ⟨a8, j⟩ | ⟨a8, j⟩
             ··refine At.condF rfl (nf (decide_eq_true a8)) ?_
               refine At.skip (At.thn (sR 1 rfl (At.y (Y.load rfl rfl .z rfl rfl rfl) rfl rfl rfl ?_))); refine At.lit rfl (xo := [.tmp 37]) (ys := ([(⟨p.2.1, p.2.2.1, p.2.2.2.1, p.2.2.2.2⟩ : Q1)] : List Q1)) Q1.fl rfl rfl rfl rfl rfl rfl rfl rfl rfl rfl rfl (fun f7 f8 => ?_); obtain ⟨e5, j⟩ := bnone j; refine At.append rfl (.s (.s .z)) (Src.own .z (by simp)) rfl rfl rfl rfl rfl rfl rfl rfl e5 (by decide) rfl (fun e6 e7 => ?_); refine At.drop (.s .z) (At.run 1 rfl (nT (At.region (At.run 2 rfl (At.y (Y.load rfl rfl (.s .z) rfl rfl rfl) rfl rfl rfl (At.run 3 rfl ?_)))))); refine At.nil ?_; refine At.ibn ?_; refine At.ibn ?_; refine At.drop (.s .z) ?_; have j := bnx hf_ j; exact fun a w e hs => ⟨a2, ((q ++ ([(⟨p.2.1, p.2.2.1, p.2.2.2.1, p.2.2.2.2⟩ : Q1)] : List Q1)), IntKind.i64.wrap (u + (p.2.2.2.1.length : Int)), (q ++ ([(⟨p.2.1, p.2.2.1, p.2.2.2.1, p.2.2.2.2⟩ : Q1)] : List Q1)).length, e6, e7), a3, ⟨j, rfl⟩, e.sub ⟨rfl, rfl, rfl, trivial⟩, hs⟩
             ··refine At.condT rfl (nt (decide_eq_false a8)) ?_
               refine sR 2 rfl ?_; refine At.y (Y.build (is := [0, 1]) (xo := [.tmp 31, .tmp 32]) (vs := [i6 u, i6 p.1]) (cs := [i6 u, i6 p.1]) rfl rfl rfl rfl rfl rfl) rfl rfl rfl ?_; refine At.box rfl rfl (cs := [i6 u, i6 p.1]) rfl rfl (fun e8 => ?_); refine At.run 3 rfl (nT (At.ret (At.thr ?_))); refine At.ibr ?_; refine At.ibr ?_; have j := bupL c8 b5 j; refine At.thr ?_; refine At.ibr ?_; refine At.thr ?_; refine At.nilRow Q1.fl 115 ?_; refine At.f1 ?_; refine At.optSome (x := (⟨u, p.1⟩ : Q6)) (Ent.fl Q6.fl (x := (⟨u, p.1⟩ : Q6)) rfl) ?_; refine At.drop (.s (.s .z)) (At.drop (.s (.s .z)) (At.f1 ?_)); cases bret j; exact At.res (.inl rfl) rfl rfl ⟨(some e8), 0, none, 0, rfl, rfl, rfl⟩
       ··rcases bite j with ⟨a9, j⟩ | ⟨a9, j⟩
         ··refine At.know (t := 48) rfl (decide_eq_true a9) ?_
           refine At.run 3 rfl ?_; exact At.of (b8 true j) ⟨rfl, rfl, rfl, rfl, rfl, trivial⟩
         ··refine At.know (t := 48) rfl (decide_eq_false a9) ?_
           refine At.run 3 rfl ?_; exact At.of (b8 (decide (bat a0 u = 9)) j) ⟨rfl, rfl, rfl, rfl, rfl, trivial⟩
     ··refine At.condF rfl (decide_eq_false a4) ?_
       refine At.exit ?_; refine At.the ?_; refine At.the ?_; exact fun a w e hs => c9 (q, q.length, C, D) ⟨(bdn j b5), rfl⟩ a w (e.sub ⟨rfl, rfl, trivial⟩) hs

noncomputable def Q65.l0b  (p : List Q1) : Option (((List Q1)) ⊕ (((List Q1)) ⊕ ((List Q1)))) :=
 if (0 : Int) ≤ 0 ∧ 0 < (p.length : Int) then
 if (gt p 0).Kind = 1 then
 if (0 : Int) ≤ 1 ∧ 1 ≤ (p.length : Int) then
 nx (p.drop (1 : Int).toNat)
 else none
 else
 dn (.inl p)
 else none
noncomputable def Q65.l0  (p : List Q1) : Option (((List Q1)) ⊕ ((List Q1))) := iter (fun t_ : (List Q1) => Q65.l0b  t_) p
noncomputable def Q65.f (p : List Q1) (u : Option Q6) (C : Int) (D : List Bs) (E : List Q3) (G : List Q5) (I : List Q10) (J : List (Bs × Bool)) : Option (List Q1) :=
 jn (Q65.l0  p) (fun (q : List Q1) =>
 some q)
theorem Q65.callee : Callee Tryz.prog 57 := ⟨_, Tryz.func57, by kernel_rfl, by kernel_rfl⟩
theorem Q65.spec {J : List Q1} {a0 : Option Q6} {U : Int} {p : List Bs} {u : List Q3} {C : List Q5} {D : List Q10} {a1 : List (Bs × Bool)} (E : Option Nat) (hr0_0 : RdS Q1.fl.rep R.heap A0_0 J) (hn0_0 : J.length = n0_0) (hc0_0 : n0_0 ≤ c0_0) (hn0_3 : p.length = n0_3) (hn0_4 : u.length = n0_4) (hn0_5 : C.length = n0_5) (hn0_6 : D.length = n0_6) {r : (List Q1)} (j : Q65.f J a0 U p u C D a1 = some r) :
 Spec Tryz.prog 57 [bp b0] R (pc b0 [.slice A0_0 n0_0 c0_0, optp E, i6 U, .slice A0_3 n0_3 c0_3, .slice A0_4 n0_4 c0_4, .slice A0_5 n0_5 c0_5, .slice A0_6 n0_6 c0_6, .map (some b0_7)] 113 :: optb (Ow.fl Q6.fl) 121 E a0 :: row Fl.bs 9 A0_3 n0_3 c0_3 p :: row Q3.fl 48 A0_4 n0_4 c0_4 u :: grow Q5.ow 41 A0_5 n0_5 c0_5 C :: row Q10.fl 169 A0_6 n0_6 c0_6 D :: mapo Fl.bs.ov Fl.bool.ov b0_7 a1 :: Fr) (fun v l' => ∃ (a6 : Option Addr) (a2 : Nat) (a7 : Nat), v = .tuple #[] ∧ pc b0 [.slice a6 a2 a7, optp E, i6 U, .slice A0_3 n0_3 c0_3, .slice A0_4 n0_4 c0_4, .slice A0_5 n0_5 c0_5, .slice A0_6 n0_6 c0_6, .map (some b0_7)] 113 :: optb (Ow.fl Q6.fl) 121 E a0 :: row Fl.bs 9 A0_3 n0_3 c0_3 p :: row Q3.fl 48 A0_4 n0_4 c0_4 u :: grow Q5.ow 41 A0_5 n0_5 c0_5 C :: row Q10.fl 169 A0_6 n0_6 c0_6 D :: mapo Fl.bs.ov Fl.bool.ov b0_7 a1 :: Fr = l' ∧ RdS Q1.fl.rep R.heap a6 r ∧ r.length = a2 ∧ a2 ≤ a7) := by
 subst hn0_0; subst hn0_3; subst hn0_4; subst hn0_5; subst hn0_6; refine Spec.of Tryz.func57 rfl rfl ?_; unfold Q65.f at j; have j := brun j; refine At.block ?_; obtain ⟨b5, b6, d8, j⟩ := bjoin j; obtain ⟨a8, a3, b7⟩ := bsome j; clear j; unfold Q65.l0 at a3; obtain ⟨a4, V⟩ := Q15.1 a3; clear a3; let T3 : HProp := optb (Ow.fl Q6.fl) 121 E a0; let T4 : HProp := row Fl.bs 9 A0_3 p.length c0_3 p; let T5 : HProp := row Q3.fl 48 A0_4 u.length c0_4 u; let T6 : HProp := grow Q5.ow 41 A0_5 C.length c0_5 C; let T7 : HProp := row Q10.fl 169 A0_6 D.length c0_6 D; let T8 : HProp := mapo Fl.bs.ov Fl.bool.ov b0_7 a1; refine At.loopJ (X := (List Q1) × (Option Addr) × Nat × Nat) (Y := (List Q1) × (Option Addr) × Nat × Nat) (e0 := 0) (fun s_ => [(0, bp b0)]) (fun s_ => pc b0 [.slice s_.2.1 s_.2.2.1 s_.2.2.2, optp E, i6 U, .slice A0_3 p.length c0_3, .slice A0_4 u.length c0_4, .slice A0_5 C.length c0_5, .slice A0_6 D.length c0_6, .map (some b0_7)] 113 :: T3 :: T4 :: T5 :: T6 :: T7 :: T8 :: Fr) (fun m_ => fun s_ => iterN (fun t_ : (List Q1) => Q65.l0b  t_) m_ s_.1 = some a8 ∧ RdS Q1.fl.rep R.heap s_.2.1 s_.1 ∧ s_.1.length = s_.2.2.1 ∧ s_.2.2.1 ≤ s_.2.2.2) a4 (J, A0_0, J.length, c0_0) ⟨V, hr0_0, rfl, hc0_0⟩ (fun s_ => []) (fun s_ => pc b0 [.slice s_.2.1 s_.2.2.1 s_.2.2.2, optp E, i6 U, .slice A0_3 p.length c0_3, .slice A0_4 u.length c0_4, .slice A0_5 C.length c0_5, .slice A0_6 D.length c0_6, .map (some b0_7)] 113 :: T3 :: T4 :: T5 :: T6 :: T7 :: T8 :: Fr) (fun s_ => b5 (.inl s_.1) = some r ∧ RdS Q1.fl.rep R.heap s_.2.1 s_.1 ∧ s_.1.length = s_.2.2.1 ∧ s_.2.2.1 ≤ s_.2.2.2) (fun a w e hs => ⟨e.sub ⟨rfl, trivial⟩, (by exact hs)⟩) ?_ (fun b8 => ?_)
 ·rintro ⟨a9, b9, c4, c5⟩ ⟨j, c6, c7, c8⟩; obtain rfl : a9.length = c4 := c7; have j := (b6 _).symm.trans j
  ·refine At.ibx ?_; cases bret j; exact At.res (.inr rfl) rfl rfl ⟨b9, a9.length, c5, rfl, rfl, c6, rfl, c8⟩
 ·clear V a4; rintro a4 ⟨G, c9, d0, b2⟩ ⟨V, Z, d1, b3⟩; obtain rfl : G.length = d0 := d1; obtain ⟨d2, f_, d3, hf_, j⟩ := bit V; clear V; have j : (Q65.l0b  G).bind _ = some a8 := j; unfold Q65.l0b at j
  ·refine At.seq (sR 3 rfl (At.y (Y.load rfl rfl .z rfl rfl rfl) rfl rfl rfl ?_)); obtain ⟨I, j⟩ := bnone j; refine At.y (Y.ixRd Z rfl rfl rfl rfl rfl rfl rfl I.1 I.2) rfl rfl rfl ?_; refine At.y (Y.fa (RdS.some_ Z rfl I.1 I.2) rfl rfl rfl rfl rfl rfl) rfl rfl rfl ?_; refine At.y (Y.ldFl Z rfl (q := 0) rfl rfl I.1 I.2 rfl rfl rfl) rfl rfl rfl (At.run 1 rfl (nT ?_)); rcases bite j with ⟨a5, j⟩ | ⟨a5, j⟩
   ··refine At.condT rfl (decide_eq_true a5) ?_
     refine At.skip (At.thn ?_); refine At.block ?_; refine At.region (At.run 4 rfl (At.y (Y.load rfl rfl .z rfl rfl rfl) rfl rfl rfl ?_)); obtain ⟨b4, j⟩ := bnone j; obtain ⟨d4, d5, d6, d7⟩ := Y.slFromAt (P := Tryz.prog) (R := R) rfl Z b3 b4.1 b4.2; refine At.y (d7 rfl rfl rfl rfl rfl rfl) rfl rfl rfl ?_; refine At.run 2 rfl ?_; refine At.store rfl rfl rfl rfl .z rfl rfl rfl (.c .n) ?_; refine At.nil ?_; refine At.ibn ?_; have j := bnx hf_ j; exact fun a w e hs => ⟨d2, ((G.drop (1 : Int).toNat), d4, (G.drop (1 : Int).toNat).length, (b2 - (1 : Int).toNat)), d3, ⟨j, d5, rfl, d6⟩, e.sub ⟨rfl, trivial⟩, hs⟩
   ··refine At.condF rfl (decide_eq_false a5) ?_
     refine At.exit ?_; refine At.the ?_; refine At.the ?_; exact fun a w e hs => b8 (G, c9, G.length, b2) ⟨(bdn j b7), Z, rfl, b3⟩ a w (e.sub trivial) hs

noncomputable def Q18.f (u : List Q1) (p : Option Q6) (C : Int) (D : List Bs) (E : List Q3) (G : List Q5) (I : List Q10) (J : List (Bs × Bool)) (U : Int) (q : Int) (V : Bs) (X : Int) (a2 : Int) : Option (Option Q6) :=
 if p.isNone = true then
 some (some (⟨q, a2⟩ : Q6))
 else
 some p
theorem Q18.callee : Callee Tryz.prog 61 := ⟨_, Tryz.func61, by kernel_rfl, by kernel_rfl⟩
theorem Q18.spec {E : List Q1} {a0 : Option Q6} {G I p J a2 : Int} {q : List Bs} {u : List Q3} {C : List Q5} {D : List Q10} {U : List (Bs × Bool)} {V : Bs} (X : Option Nat) (hr0_0 : RdS Q1.fl.rep R.heap A0_0 E) (hn0_0 : E.length = n0_0) (hc0_0 : n0_0 ≤ c0_0) (hn0_3 : q.length = n0_3) (hn0_4 : u.length = n0_4) (hn0_5 : C.length = n0_5) (hn0_6 : D.length = n0_6) {r : (Option Q6)} (j : Q18.f E a0 G q u C D U I p V J a2 = some r) :
 Spec Tryz.prog 61 [bp b0, .agg #[i6 I, i6 p, .string ⟨(V).toArray⟩, i6 J], i6 a2] R (pc b0 [.slice A0_0 n0_0 c0_0, optp X, i6 G, .slice A0_3 n0_3 c0_3, .slice A0_4 n0_4 c0_4, .slice A0_5 n0_5 c0_5, .slice A0_6 n0_6 c0_6, .map (some b0_7)] 113 :: optb (Ow.fl Q6.fl) 121 X a0 :: row Fl.bs 9 A0_3 n0_3 c0_3 q :: row Q3.fl 48 A0_4 n0_4 c0_4 u :: grow Q5.ow 41 A0_5 n0_5 c0_5 C :: row Q10.fl 169 A0_6 n0_6 c0_6 D :: mapo Fl.bs.ov Fl.bool.ov b0_7 U :: Fr) (fun v l' => ∃ (a1 : Option Nat), v = .tuple #[] ∧ optb (Ow.fl Q6.fl) 121 a1 r :: pc b0 [.slice A0_0 n0_0 c0_0, optp a1, i6 G, .slice A0_3 n0_3 c0_3, .slice A0_4 n0_4 c0_4, .slice A0_5 n0_5 c0_5, .slice A0_6 n0_6 c0_6, .map (some b0_7)] 113 :: row Fl.bs 9 A0_3 n0_3 c0_3 q :: row Q3.fl 48 A0_4 n0_4 c0_4 u :: grow Q5.ow 41 A0_5 n0_5 c0_5 C :: row Q10.fl 169 A0_6 n0_6 c0_6 D :: mapo Fl.bs.ov Fl.bool.ov b0_7 U :: Fr = l') := by
 subst hn0_0; subst hn0_3; subst hn0_4; subst hn0_5; subst hn0_6; refine Spec.of Tryz.func61 rfl rfl ?_; unfold Q18.f at j; have j := brun j; refine At.seq (At.region ?_); refine At.box rfl rfl (cs := [i6 I, i6 p, .string ⟨(V).toArray⟩, i6 J]) rfl rfl (fun a4 => ?_); refine nT (sR 3 rfl (At.y (Y.load rfl rfl (.s .z) rfl rfl rfl) rfl rfl rfl ?_)); refine At.y (Y.eqOpt (.s (.s .z)) rfl rfl rfl rfl) rfl rfl rfl ?_; refine nT ?_; rcases bite j with ⟨Z, j⟩ | ⟨Z, j⟩
 ··refine At.condT rfl Z ?_
   refine At.region (At.run 2 rfl (At.y (Y.load rfl rfl .z rfl rfl rfl) rfl rfl rfl (At.run 1 rfl ?_))); refine At.y (Y.build (is := [0, 1]) (xo := [.tmp 13, .tmp 14]) (vs := [i6 p, i6 a2]) (cs := [i6 p, i6 a2]) rfl rfl rfl rfl rfl rfl) rfl rfl rfl ?_; refine At.box rfl rfl (cs := [i6 p, i6 a2]) rfl rfl (fun a3 => ?_); refine At.run 2 rfl ?_; refine At.store rfl rfl rfl rfl (.s (.s .z)) rfl rfl rfl (.s (.c .n)) ?_; refine At.nil (At.f1 ?_); refine At.optSome (x := (⟨p, a2⟩ : Q6)) (Ent.fl Q6.fl (x := (⟨p, a2⟩ : Q6)) rfl) ?_; refine At.drop (.s (.s .z)) (At.drop (.s (.s .z)) ?_); cases bret j; exact At.res (.inr rfl) rfl rfl ⟨(some a3), rfl, rfl⟩
 ··refine At.condF rfl (bn Z) ?_
   refine At.skip (At.drop .z (At.f6 (At.f6 (At.f6 (At.f6 (At.f6 (At.f5 ?_))))))); refine At.f6 ?_; cases bret j; exact At.res (.inr rfl) rfl rfl ⟨X, rfl, rfl⟩

noncomputable def Q58.f (p : List Q1) (q : Option Q6) (u : Int) (C : List Bs) (D : List Q3) (E : List Q5) (G : List Q10) (I : List (Bs × Bool)) (a1 : Int) : Option ((Option Q6) × (List Q1) × Int × Int × Bs × Int) :=
 if q.isNone = true then
 if (0 : Int) ≤ 0 ∧ 0 < (p.length : Int) then
 jn (
 if (gt p 0).Kind = a1 then
 if (0 : Int) ≤ 1 ∧ 1 ≤ (p.length : Int) then
 up (some (q, (p.drop (1 : Int).toNat), (gt p 0).Kind, (gt p 0).At, (gt p 0).Text, (gt p 0).Number))
 else none
 else
 if (gt p 0).Kind = 0 then
 (Q18.f p q u C D E G I ((gt p 0).Kind) ((gt p 0).At) ((gt p 0).Text) ((gt p 0).Number) 6).bind fun J =>
 some (.inl J)
 else
 (Q18.f p q u C D E G I ((gt p 0).Kind) ((gt p 0).At) ((gt p 0).Text) ((gt p 0).Number) 7).bind fun U =>
 some (.inl U)) (fun (V : Option Q6) =>
 some (V, p, 0, 0, ([] : Bs), 0))
 else none
 else
 some (q, p, 0, 0, ([] : Bs), 0)
theorem Q58.callee : Callee Tryz.prog 58 := ⟨_, Tryz.func58, by kernel_rfl, by kernel_rfl⟩
theorem Q58.spec {p : List Q1} {a3 : Option Q6} {I a1 : Int} {u : List Bs} {C : List Q3} {D : List Q5} {E : List Q10} {J : List (Bs × Bool)} (G : Option Nat) (hr0_0 : RdS Q1.fl.rep R.heap A0_0 p) (hn0_0 : p.length = n0_0) (hc0_0 : n0_0 ≤ c0_0) (hn0_3 : u.length = n0_3) (hn0_4 : C.length = n0_4) (hn0_5 : D.length = n0_5) (hn0_6 : E.length = n0_6) {r : (Option Q6) × (List Q1) × Int × Int × Bs × Int} (j : Q58.f p a3 I u C D E J a1 = some r) :
 Spec Tryz.prog 58 [bp b0, i6 a1] R (pc b0 [.slice A0_0 n0_0 c0_0, optp G, i6 I, .slice A0_3 n0_3 c0_3, .slice A0_4 n0_4 c0_4, .slice A0_5 n0_5 c0_5, .slice A0_6 n0_6 c0_6, .map (some b0_7)] 113 :: optb (Ow.fl Q6.fl) 121 G a3 :: row Fl.bs 9 A0_3 n0_3 c0_3 u :: row Q3.fl 48 A0_4 n0_4 c0_4 C :: grow Q5.ow 41 A0_5 n0_5 c0_5 D :: row Q10.fl 169 A0_6 n0_6 c0_6 E :: mapo Fl.bs.ov Fl.bool.ov b0_7 J :: Fr) (fun v l' => ∃ (a4 : Option Nat) (a5 : Option Addr) (V : Nat) (a6 : Nat), v = .agg #[i6 r.2.2.1, i6 r.2.2.2.1, .string ⟨(r.2.2.2.2.1).toArray⟩, i6 r.2.2.2.2.2] ∧ optb (Ow.fl Q6.fl) 121 a4 r.1 :: pc b0 [.slice a5 V a6, optp a4, i6 I, .slice A0_3 n0_3 c0_3, .slice A0_4 n0_4 c0_4, .slice A0_5 n0_5 c0_5, .slice A0_6 n0_6 c0_6, .map (some b0_7)] 113 :: row Fl.bs 9 A0_3 n0_3 c0_3 u :: row Q3.fl 48 A0_4 n0_4 c0_4 C :: grow Q5.ow 41 A0_5 n0_5 c0_5 D :: row Q10.fl 169 A0_6 n0_6 c0_6 E :: mapo Fl.bs.ov Fl.bool.ov b0_7 J :: Fr = l' ∧ RdS Q1.fl.rep R.heap a5 r.2.1 ∧ r.2.1.length = V ∧ V ≤ a6) := by
 subst hn0_0; subst hn0_3; subst hn0_4; subst hn0_5; subst hn0_6; refine Spec.of Tryz.func58 rfl rfl ?_; unfold Q58.f at j; have j := brun j; refine At.seq (At.region ?_); refine At.alloc rfl rfl rfl (fun a7 => ?_); refine nT (At.seq (sR 3 rfl (At.y (Y.load rfl rfl (.s .z) rfl rfl rfl) rfl rfl rfl ?_))); refine At.y (Y.neOpt (.s (.s .z)) rfl rfl rfl rfl) rfl rfl rfl ?_; refine nT ?_; rcases bite j with ⟨Z, j⟩ | ⟨Z, j⟩
 ··refine At.condF rfl (nf Z) ?_
   refine At.skip (At.thn (sR 3 rfl (At.y (Y.load rfl rfl (.s .z) rfl rfl rfl) rfl rfl rfl ?_))); obtain ⟨U, j⟩ := bnone j; refine At.y (Y.ixRd hr0_0 rfl rfl rfl rfl rfl rfl rfl U.1 U.2) rfl rfl rfl (At.y (Y.ldFl hr0_0 rfl (q := 0) rfl rfl U.1 U.2 rfl rfl rfl) rfl rfl rfl ?_); refine At.store rfl rfl rfl rfl .z rfl rfl rfl (.c (.c (.c (.c .n)))) ?_; refine nT (At.seq ?_); obtain ⟨b2, b3, b4, j⟩ := bjoin j; let T9 : HProp := pc a7 [i6 ((gt p 0).Kind), i6 ((gt p 0).At), .string ⟨((gt p 0).Text).toArray⟩, i6 ((gt p 0).Number)] 115; refine At.join (X := (Option Q6) × (Option Nat)) (fun s_ => [(4, bp a7)]) (fun s_ => optb (Ow.fl Q6.fl) 121 s_.2 s_.1 :: pc b0 [.slice A0_0 p.length c0_0, optp s_.2, i6 I, .slice A0_3 u.length c0_3, .slice A0_4 C.length c0_4, .slice A0_5 D.length c0_5, .slice A0_6 E.length c0_6, .map (some b0_7)] 113 :: row Fl.bs 9 A0_3 u.length c0_3 u :: row Q3.fl 48 A0_4 C.length c0_4 C :: grow Q5.ow 41 A0_5 D.length c0_5 D :: row Q10.fl 169 A0_6 E.length c0_6 E :: mapo Fl.bs.ov Fl.bool.ov b0_7 J :: T9 :: Fr) (fun s_ => b2 (.inl s_.1) = some r) ?_ (fun a8 => ?_)
   ·rintro ⟨d0, b5⟩ j; have j := (b3 _).symm.trans j
    ·refine At.seq (At.region ?_); refine At.y (Y.build (is := []) (xo := []) (vs := []) (cs := [i6 0, i6 0, .string ⟨(([] : Bs)).toArray⟩, i6 0]) rfl rfl rfl rfl rfl rfl) rfl rfl rfl ?_; refine At.store rfl rfl rfl rfl (.s (.s (.s (.s (.s (.s (.s .z))))))) rfl rfl rfl (.c (.c (.c (.c .n)))) ?_; refine nT (At.ret ?_); refine At.resM (.inl rfl) rfl (RV.cell rfl rfl .z rfl rfl rfl RV.nil) ?_; refine At.drop .z ?_; cases bret j; exact fun a w e hs => ⟨_, ⟨b5, A0_0, p.length, c0_0, rfl, rfl, hr0_0, rfl, hc0_0⟩, hs⟩
   ··refine At.block ?_
     refine sR 1 rfl (At.y (Y.load rfl rfl .z rfl rfl rfl) rfl rfl rfl (At.run 3 rfl (nT ?_))); rcases bite j with ⟨a0, j⟩ | ⟨a0, j⟩
     ··refine At.condT rfl (decide_eq_true a0) ?_
       refine sR 4 rfl (At.y (Y.load rfl rfl (.s .z) rfl rfl rfl) rfl rfl rfl ?_); obtain ⟨a9, j⟩ := bnone j; obtain ⟨b6, b7, b8, b9⟩ := Y.slFromAt (P := Tryz.prog) (R := R) rfl hr0_0 hc0_0 a9.1 a9.2; refine At.y (b9 rfl rfl rfl rfl rfl rfl) rfl rfl rfl ?_; refine At.run 2 rfl ?_; refine At.store rfl rfl rfl rfl (.s .z) rfl rfl rfl (.c .n) ?_; refine nT (At.seq (At.region (At.y (Y.load rfl rfl (.s .z) rfl rfl rfl) rfl rfl rfl ?_))); refine At.store rfl rfl rfl rfl (.s .z) rfl rfl rfl (.c (.c (.c (.c .n)))) ?_; refine nT (At.ret ?_); refine At.ibr ?_; have j := bup b4 j; refine At.thr ?_; refine At.resM (.inl rfl) rfl (RV.cell rfl rfl .z rfl rfl rfl RV.nil) ?_; refine At.drop .z (At.f6 (At.f6 (At.f6 (At.f6 (At.f6 (At.f5 (At.f6 ?_))))))); cases bret j; exact fun a w e hs => ⟨_, ⟨G, b6, (p.drop (1 : Int).toNat).length, (c0_0 - (1 : Int).toNat), rfl, rfl, b7, rfl, b8⟩, hs⟩
     ··refine At.condF rfl (decide_eq_false a0) ?_
       refine sR 1 rfl (At.y (Y.load rfl rfl .z rfl rfl rfl) rfl rfl rfl (At.run 2 rfl (nT ?_))); rcases bite j with ⟨a2, j⟩ | ⟨a2, j⟩
       ··refine At.condT rfl (decide_eq_true a2) ?_
         refine At.region (At.run 1 rfl (At.y (Y.load rfl rfl .z rfl rfl rfl) rfl rfl rfl (At.f7 (At.f7 (At.f7 (At.f7 (At.f7 ?_))))))); refine At.f7 (At.f7 ?_); obtain ⟨c4, c5, j⟩ := bbind j; refine At.call rfl Q18.callee rfl rfl rfl (Q18.spec G hr0_0 rfl hc0_0 rfl rfl rfl rfl c5) ?_; rintro _ _ ⟨c6, rfl, rfl⟩; refine At.nil ?_; refine At.ibn ?_; refine At.thn ?_; exact fun a w e hs => a8 (c4, c6) j a w (e.sub ⟨rfl, trivial⟩) hs
       ··refine At.condF rfl (decide_eq_false a2) ?_
         refine At.region (At.run 1 rfl (At.y (Y.load rfl rfl .z rfl rfl rfl) rfl rfl rfl (At.f7 (At.f7 (At.f7 (At.f7 (At.f7 ?_))))))); refine At.f7 (At.f7 ?_); obtain ⟨c7, c8, j⟩ := bbind j; refine At.call rfl Q18.callee rfl rfl rfl (Q18.spec G hr0_0 rfl hc0_0 rfl rfl rfl rfl c8) ?_; rintro _ _ ⟨c9, rfl, rfl⟩; refine At.nil ?_; refine At.ibn ?_; refine At.thn ?_; exact fun a w e hs => a8 (c7, c9) j a w (e.sub ⟨rfl, trivial⟩) hs
 ··refine At.condT rfl (nt (bn Z)) ?_
   refine At.seq (At.region (At.y (Y.load rfl rfl .z rfl rfl rfl) rfl rfl rfl ?_)); refine At.store rfl rfl rfl rfl .z rfl rfl rfl (.c (.c (.c (.c .n)))) ?_; refine nT (At.ret (At.thr ?_)); refine At.resM (.inl rfl) rfl (RV.cell rfl rfl .z rfl rfl rfl RV.nil) ?_; refine At.drop .z (At.f6 (At.f6 (At.f6 (At.f6 (At.f6 (At.f5 (At.f6 ?_))))))); cases bret j; exact fun a w e hs => ⟨_, ⟨G, A0_0, p.length, c0_0, rfl, rfl, hr0_0, rfl, hc0_0⟩, hs⟩

noncomputable def Q121.f (p : List Q1) (u : Option Q6) (C : Int) (D : List Bs) (E : List Q3) (G : List Q5) (I : List Q10) (J : List (Bs × Bool)) : Option Bool :=
 if (0 : Int) ≤ 0 ∧ 0 < (p.length : Int) then
 jn (
 if (gt p 0).Kind = 0 then
 some (.inl true)
 else
 some (.inl (decide ((gt p 0).Kind = 1)))) (fun (q : Bool) =>
 some q)
 else none
theorem Q121.callee : Callee Tryz.prog 116 := ⟨_, Tryz.func116, by kernel_rfl, by kernel_rfl⟩
theorem Q121.spec {I : List Q1} {U : Option Q6} {V : Int} {u : List Bs} {C : List Q3} {D : List Q5} {E : List Q10} {Z : List (Bs × Bool)} (G : Option Nat) (hr0_0 : RdS Q1.fl.rep R.heap A0_0 I) (hn0_0 : I.length = n0_0) (hc0_0 : n0_0 ≤ c0_0) (hn0_3 : u.length = n0_3) (hn0_4 : C.length = n0_4) (hn0_5 : D.length = n0_5) (hn0_6 : E.length = n0_6) {r : Bool} (j : Q121.f I U V u C D E Z = some r) :
 Spec Tryz.prog 116 [bp b0] R (pc b0 [.slice A0_0 n0_0 c0_0, optp G, i6 V, .slice A0_3 n0_3 c0_3, .slice A0_4 n0_4 c0_4, .slice A0_5 n0_5 c0_5, .slice A0_6 n0_6 c0_6, .map (some b0_7)] 113 :: optb (Ow.fl Q6.fl) 121 G U :: row Fl.bs 9 A0_3 n0_3 c0_3 u :: row Q3.fl 48 A0_4 n0_4 c0_4 C :: grow Q5.ow 41 A0_5 n0_5 c0_5 D :: row Q10.fl 169 A0_6 n0_6 c0_6 E :: mapo Fl.bs.ov Fl.bool.ov b0_7 Z :: Fr) (fun v l' => v = .bool r ∧ pc b0 [.slice A0_0 n0_0 c0_0, optp G, i6 V, .slice A0_3 n0_3 c0_3, .slice A0_4 n0_4 c0_4, .slice A0_5 n0_5 c0_5, .slice A0_6 n0_6 c0_6, .map (some b0_7)] 113 :: optb (Ow.fl Q6.fl) 121 G U :: row Fl.bs 9 A0_3 n0_3 c0_3 u :: row Q3.fl 48 A0_4 n0_4 c0_4 C :: grow Q5.ow 41 A0_5 n0_5 c0_5 D :: row Q10.fl 169 A0_6 n0_6 c0_6 E :: mapo Fl.bs.ov Fl.bool.ov b0_7 Z :: Fr = l') := by
 subst hn0_0; subst hn0_3; subst hn0_4; subst hn0_5; subst hn0_6; refine Spec.of Tryz.func116 rfl rfl ?_; unfold Q121.f at j; have j := brun j; refine sR 1 rfl (nT (sR 3 rfl ?_)); refine At.y (Y.load rfl rfl .z rfl rfl rfl) rfl rfl rfl ?_; obtain ⟨p, j⟩ := bnone j; refine At.y (Y.ixRd hr0_0 rfl rfl rfl rfl rfl rfl rfl p.1 p.2) rfl rfl rfl ?_; refine At.y (Y.fa (RdS.some_ hr0_0 rfl p.1 p.2) rfl rfl rfl rfl rfl rfl) rfl rfl rfl ?_; refine At.y (Y.ldFl hr0_0 rfl (q := 0) rfl rfl p.1 p.2 rfl rfl rfl) rfl rfl rfl (At.run 2 rfl ?_); obtain ⟨a2, a3, a5, j⟩ := bjoin j; let a4 : HProp := pc b0 [.slice A0_0 I.length c0_0, optp G, i6 V, .slice A0_3 u.length c0_3, .slice A0_4 C.length c0_4, .slice A0_5 D.length c0_5, .slice A0_6 E.length c0_6, .map (some b0_7)] 113; refine At.joinO 9 (X := Bool) (fun J => [(20, .bool J)]) (fun J => a4 :: optb (Ow.fl Q6.fl) 121 G U :: row Fl.bs 9 A0_3 u.length c0_3 u :: row Q3.fl 48 A0_4 C.length c0_4 C :: grow Q5.ow 41 A0_5 D.length c0_5 D :: row Q10.fl 169 A0_6 E.length c0_6 E :: mapo Fl.bs.ov Fl.bool.ov b0_7 Z :: Fr) (fun J => a2 (.inl J) = some r) ?_ (fun a1 => ?_)
 ·rintro J j; have j := (a3 _).symm.trans j
  ·refine At.run 1 rfl (nT (At.ret ?_)); cases bret j; exact At.res (.inl rfl) rfl rfl ⟨rfl, rfl⟩
 ··rcases bite j with ⟨a0, j⟩ | ⟨a0, j⟩
   ··refine At.know (t := 11) rfl (decide_eq_true a0) ?_
     refine At.run 9 rfl ?_; exact At.of (a1 true j) ⟨rfl, trivial⟩
   ··refine At.know (t := 11) rfl (decide_eq_false a0) ?_
     refine At.run 3 rfl (At.y (Y.load rfl rfl .z rfl rfl rfl) rfl rfl rfl (At.y (Y.ixRd hr0_0 rfl rfl rfl rfl rfl rfl rfl p.1 p.2) rfl rfl rfl ?_)); refine At.y (Y.fa (RdS.some_ hr0_0 rfl p.1 p.2) rfl rfl rfl rfl rfl rfl) rfl rfl rfl ?_; refine At.y (Y.ldFl hr0_0 rfl (q := 0) rfl rfl p.1 p.2 rfl rfl rfl) rfl rfl rfl (At.run 2 rfl ?_); exact At.of (a1 (decide ((gt I 0).Kind = 1)) j) ⟨rfl, trivial⟩

noncomputable def Q124.f (p : List Q1) (q : Option Q6) (u : Int) (C : List Bs) (D : List Q3) (E : List Q5) (G : List Q10) (I : List (Bs × Bool)) : Option (Option Q6) :=
 (Q121.f p q u C D E G I).bind fun J =>
 if J = true then
 some q
 else
 if (0 : Int) ≤ 0 ∧ 0 < (p.length : Int) then
 (Q18.f p q u C D E G I ((gt p 0).Kind) ((gt p 0).At) ((gt p 0).Text) ((gt p 0).Number) 7).bind fun U =>
 some U
 else none
theorem Q124.callee : Callee Tryz.prog 110 := ⟨_, Tryz.func110, by kernel_rfl, by kernel_rfl⟩
theorem Q124.spec {I : List Q1} {X : Option Q6} {J : Int} {u : List Bs} {C : List Q3} {D : List Q5} {E : List Q10} {U : List (Bs × Bool)} (p : Option Nat) (hr0_0 : RdS Q1.fl.rep R.heap A0_0 I) (hn0_0 : I.length = n0_0) (hc0_0 : n0_0 ≤ c0_0) (hn0_3 : u.length = n0_3) (hn0_4 : C.length = n0_4) (hn0_5 : D.length = n0_5) (hn0_6 : E.length = n0_6) {r : (Option Q6)} (j : Q124.f I X J u C D E U = some r) :
 Spec Tryz.prog 110 [bp b0] R (pc b0 [.slice A0_0 n0_0 c0_0, optp p, i6 J, .slice A0_3 n0_3 c0_3, .slice A0_4 n0_4 c0_4, .slice A0_5 n0_5 c0_5, .slice A0_6 n0_6 c0_6, .map (some b0_7)] 113 :: optb (Ow.fl Q6.fl) 121 p X :: row Fl.bs 9 A0_3 n0_3 c0_3 u :: row Q3.fl 48 A0_4 n0_4 c0_4 C :: grow Q5.ow 41 A0_5 n0_5 c0_5 D :: row Q10.fl 169 A0_6 n0_6 c0_6 E :: mapo Fl.bs.ov Fl.bool.ov b0_7 U :: Fr) (fun v l' => ∃ (Z : Option Nat), v = .tuple #[] ∧ pc b0 [.slice A0_0 n0_0 c0_0, optp Z, i6 J, .slice A0_3 n0_3 c0_3, .slice A0_4 n0_4 c0_4, .slice A0_5 n0_5 c0_5, .slice A0_6 n0_6 c0_6, .map (some b0_7)] 113 :: optb (Ow.fl Q6.fl) 121 Z r :: row Fl.bs 9 A0_3 n0_3 c0_3 u :: row Q3.fl 48 A0_4 n0_4 c0_4 C :: grow Q5.ow 41 A0_5 n0_5 c0_5 D :: row Q10.fl 169 A0_6 n0_6 c0_6 E :: mapo Fl.bs.ov Fl.bool.ov b0_7 U :: Fr = l') := by
 subst hn0_0; subst hn0_3; subst hn0_4; subst hn0_5; subst hn0_6; refine Spec.of Tryz.func110 rfl rfl ?_; unfold Q124.f at j; have j := brun j; refine sR 1 rfl ?_; obtain ⟨a3, a0, j⟩ := bbind j; refine At.call rfl Q121.callee rfl rfl rfl (Q121.spec p hr0_0 rfl hc0_0 rfl rfl rfl rfl a0) ?_; rintro _ _ ⟨rfl, rfl⟩; refine At.run 1 rfl (nT ?_); rcases bite j with ⟨V, j⟩ | ⟨V, j⟩
 ··refine At.condF rfl (nf V) ?_
   refine At.skip ?_; cases bret j; exact At.res (.inr rfl) rfl rfl ⟨p, rfl, rfl⟩
 ··refine At.condT rfl (nt (bn V)) ?_
   refine At.region (At.run 4 rfl (At.y (Y.load rfl rfl .z rfl rfl rfl) rfl rfl rfl ?_)); obtain ⟨G, j⟩ := bnone j; refine At.y (Y.ixRd hr0_0 rfl rfl rfl rfl rfl rfl rfl G.1 G.2) rfl rfl rfl (At.y (Y.ldFl hr0_0 rfl (q := 0) rfl rfl G.1 G.2 rfl rfl rfl) rfl rfl rfl ?_); obtain ⟨a4, a1, j⟩ := bbind j; refine At.call rfl Q18.callee rfl rfl rfl (Q18.spec p hr0_0 rfl hc0_0 rfl rfl rfl rfl a1) ?_; rintro _ _ ⟨a2, rfl, rfl⟩; refine At.nil (At.f6 (At.f6 (At.f6 (At.f6 (At.f6 (At.f5 (At.f6 ?_))))))); cases bret j; exact At.res (.inr rfl) rfl rfl ⟨a2, rfl, rfl⟩

noncomputable def Q149.f (U : List Q1) (J : Option Q6) (I : Int) (u : List Bs) (C : List Q3) (D : List Q5) (E : List Q10) (G : List (Bs × Bool)) : Option ((Option Q6) × (List Q1) × Int) :=
 (Q65.f U J I u C D E G).bind fun V =>
 (Q58.f V J I u C D E G 2).bind fun q =>
 jn (
 if q.1.isNone = true then
 some (.inl (!(bseq q.2.2.2.2.1 ([115, 116, 97, 116, 101, 115] : Bs))))
 else
 some (.inl false)) (fun (X : Bool) =>
 jn (
 if X = true then
 (Q18.f q.2.1 q.1 I u C D E G q.2.2.1 q.2.2.2.1 q.2.2.2.2.1 q.2.2.2.2.2 7).bind fun Z =>
 some (.inl Z)
 else
 some (.inl q.1)) (fun (a0 : Option Q6) =>
 (Q58.f q.2.1 a0 I u C D E G 4).bind fun p =>
 jn (
 if p.1.isNone = true then
 jn (
 if p.2.2.2.2.2 < 1 then
 some (.inl true)
 else
 some (.inl (decide (24 < p.2.2.2.2.2)))) (fun (a1 : Bool) =>
 some (.inl a1))
 else
 some (.inl false)) (fun (a2 : Bool) =>
 jn (
 if a2 = true then
 (Q18.f p.2.1 p.1 p.2.2.2.2.2 u C D E G p.2.2.1 p.2.2.2.1 p.2.2.2.2.1 p.2.2.2.2.2 8).bind fun a3 =>
 some (.inl a3)
 else
 some (.inl p.1)) (fun (a4 : Option Q6) =>
 (Q124.f p.2.1 a4 p.2.2.2.2.2 u C D E G).bind fun a5 =>
 some (a5, p.2.1, p.2.2.2.2.2)))))
theorem Q149.callee : Callee Tryz.prog 56 := ⟨_, Tryz.func56, by kernel_rfl, by kernel_rfl⟩
theorem Q149.spec {a3 : List Q1} {b8 : Option Q6} {a0 : Int} {p : List Bs} {q : List Q3} {u : List Q5} {C : List Q10} {G : List (Bs × Bool)} (a1 : Option Nat) (hr0_0 : RdS Q1.fl.rep R.heap A0_0 a3) (hn0_0 : a3.length = n0_0) (hc0_0 : n0_0 ≤ c0_0) (hn0_3 : p.length = n0_3) (hn0_4 : q.length = n0_4) (hn0_5 : u.length = n0_5) (hn0_6 : C.length = n0_6) {r : (Option Q6) × (List Q1) × Int} (j : Q149.f a3 b8 a0 p q u C G = some r) :
 Spec Tryz.prog 56 [bp b0] R (pc b0 [.slice A0_0 n0_0 c0_0, optp a1, i6 a0, .slice A0_3 n0_3 c0_3, .slice A0_4 n0_4 c0_4, .slice A0_5 n0_5 c0_5, .slice A0_6 n0_6 c0_6, .map (some b0_7)] 113 :: optb (Ow.fl Q6.fl) 121 a1 b8 :: row Fl.bs 9 A0_3 n0_3 c0_3 p :: row Q3.fl 48 A0_4 n0_4 c0_4 q :: grow Q5.ow 41 A0_5 n0_5 c0_5 u :: row Q10.fl 169 A0_6 n0_6 c0_6 C :: mapo Fl.bs.ov Fl.bool.ov b0_7 G :: Fr) (fun v l' => ∃ (b9 : Option Nat) (c4 : Option Addr) (a4 : Nat) (c5 : Nat), v = .tuple #[] ∧ optb (Ow.fl Q6.fl) 121 b9 r.1 :: pc b0 [.slice c4 a4 c5, optp b9, i6 r.2.2, .slice A0_3 n0_3 c0_3, .slice A0_4 n0_4 c0_4, .slice A0_5 n0_5 c0_5, .slice A0_6 n0_6 c0_6, .map (some b0_7)] 113 :: row Fl.bs 9 A0_3 n0_3 c0_3 p :: row Q3.fl 48 A0_4 n0_4 c0_4 q :: grow Q5.ow 41 A0_5 n0_5 c0_5 u :: row Q10.fl 169 A0_6 n0_6 c0_6 C :: mapo Fl.bs.ov Fl.bool.ov b0_7 G :: Fr = l' ∧ RdS Q1.fl.rep R.heap c4 r.2.1 ∧ r.2.1.length = a4 ∧ a4 ≤ c5) := by
 subst hn0_0; subst hn0_3; subst hn0_4; subst hn0_5; subst hn0_6; refine Spec.of Tryz.func56 rfl rfl ?_; unfold Q149.f at j; have j := brun j; refine sR 1 rfl ?_; obtain ⟨g8, d7, j⟩ := bbind j; refine At.call rfl Q65.callee rfl rfl rfl (Q65.spec a1 hr0_0 rfl hc0_0 rfl rfl rfl rfl d7) ?_; rintro _ _ ⟨g9, h0, h1, rfl, rfl, d8, rfl, d9⟩; refine nT (At.seq (sR 1 rfl ?_)); obtain ⟨E, e0, j⟩ := bbind j; refine At.call rfl Q58.callee rfl rfl rfl (Q58.spec a1 d8 rfl d9 rfl rfl rfl rfl e0) ?_; rintro _ _ ⟨a2, c6, h2, c7, rfl, rfl, c8, rfl, c9⟩; refine At.alloc rfl rfl rfl (fun d0 => ?_); refine At.store rfl rfl rfl rfl .z rfl rfl rfl (.c (.c (.c (.c .n)))) ?_; refine nT (sR 3 rfl (At.y (Y.load rfl rfl (.s (.s .z)) rfl rfl rfl) rfl rfl rfl ?_)); refine At.y (Y.eqOpt (.s .z) rfl rfl rfl rfl) rfl rfl rfl ?_; refine At.run 1 rfl ?_; obtain ⟨e1, e2, h3, j⟩ := bjoin j; let J : HProp := pc d0 [i6 E.2.2.1, i6 E.2.2.2.1, .string ⟨(E.2.2.2.2.1).toArray⟩, i6 E.2.2.2.2.2] 115; let e3 : HProp := pc b0 [.slice c6 E.2.1.length c7, optp a2, i6 a0, .slice A0_3 p.length c0_3, .slice A0_4 q.length c0_4, .slice A0_5 u.length c0_5, .slice A0_6 C.length c0_6, .map (some b0_7)] 113; refine At.joinO 4 (X := Bool) (fun U => [(0, bp b0), (2, bp d0), (17, .bool U)]) (fun U => J :: optb (Ow.fl Q6.fl) 121 a2 E.1 :: e3 :: row Fl.bs 9 A0_3 p.length c0_3 p :: row Q3.fl 48 A0_4 q.length c0_4 q :: grow Q5.ow 41 A0_5 u.length c0_5 u :: row Q10.fl 169 A0_6 C.length c0_6 C :: mapo Fl.bs.ov Fl.bool.ov b0_7 G :: Fr) (fun U => e1 (.inl U) = some r) ?_ (fun d1 => ?_)
 ·rintro U j; have j := (e2 _).symm.trans j
  ·refine nT ?_; obtain ⟨e4, e5, h4, j⟩ := bjoin j; refine At.join (X := (Option Q6) × (Option Nat)) (fun s_ => [(0, bp b0)]) (fun s_ => optb (Ow.fl Q6.fl) 121 s_.2 s_.1 :: pc b0 [.slice c6 E.2.1.length c7, optp s_.2, i6 a0, .slice A0_3 p.length c0_3, .slice A0_4 q.length c0_4, .slice A0_5 u.length c0_5, .slice A0_6 C.length c0_6, .map (some b0_7)] 113 :: row Fl.bs 9 A0_3 p.length c0_3 p :: row Q3.fl 48 A0_4 q.length c0_4 q :: grow Q5.ow 41 A0_5 u.length c0_5 u :: row Q10.fl 169 A0_6 C.length c0_6 C :: mapo Fl.bs.ov Fl.bool.ov b0_7 G :: J :: Fr) (fun s_ => e4 (.inl s_.1) = some r) ?_ (fun d2 => ?_)
   ·rintro ⟨h5, e6⟩ j; have j := (e5 _).symm.trans j
    ·refine sR 1 rfl (At.f6 (At.f6 (At.f6 (At.f6 (At.f6 ?_))))); refine At.f5 (At.f6 ?_); obtain ⟨D, e7, j⟩ := bbind j; refine At.call rfl Q58.callee rfl rfl rfl (Q58.spec e6 c8 rfl c9 rfl rfl rfl rfl e7) ?_; rintro _ _ ⟨V, a5, h6, a6, rfl, rfl, a7, rfl, a8⟩; refine At.alloc rfl rfl rfl (fun a9 => ?_); refine At.store rfl rfl rfl rfl .z rfl rfl rfl (.c (.c (.c (.c .n)))) ?_; refine nT (sR 2 rfl (At.y (Y.load rfl rfl .z rfl rfl rfl) rfl rfl rfl (At.run 3 rfl ?_))); refine At.store rfl rfl rfl rfl (.s (.s .z)) rfl rfl rfl (.s (.s (.c .n))) ?_; refine nT (At.seq (sR 3 rfl (At.y (Y.load rfl rfl .z rfl rfl rfl) rfl rfl rfl ?_))); refine At.y (Y.eqOpt (.s (.s .z)) rfl rfl rfl rfl) rfl rfl rfl ?_; refine At.run 1 rfl ?_; obtain ⟨e8, e9, h7, j⟩ := bjoin j; let d3 : HProp := pc b0 [.slice a5 D.2.1.length a6, optp V, i6 D.2.2.2.2.2, .slice A0_3 p.length c0_3, .slice A0_4 q.length c0_4, .slice A0_5 u.length c0_5, .slice A0_6 C.length c0_6, .map (some b0_7)] 113; let b2 : HProp := pc a9 [i6 D.2.2.1, i6 D.2.2.2.1, .string ⟨(D.2.2.2.2.1).toArray⟩, i6 D.2.2.2.2.2] 115; refine At.joinO 9 (X := Bool) (fun Z => [(0, bp b0), (3, bp a9), (43, .bool Z)]) (fun Z => d3 :: b2 :: optb (Ow.fl Q6.fl) 121 V D.1 :: row Fl.bs 9 A0_3 p.length c0_3 p :: row Q3.fl 48 A0_4 q.length c0_4 q :: grow Q5.ow 41 A0_5 u.length c0_5 u :: row Q10.fl 169 A0_6 C.length c0_6 C :: mapo Fl.bs.ov Fl.bool.ov b0_7 G :: J :: Fr) (fun Z => e8 (.inl Z) = some r) ?_ (fun d4 => ?_)
     ·rintro Z j; have j := (e9 _).symm.trans j
      ·refine nT ?_; obtain ⟨f0, f1, h8, j⟩ := bjoin j; refine At.join (X := (Option Q6) × (Option Nat)) (fun s_ => [(0, bp b0)]) (fun s_ => optb (Ow.fl Q6.fl) 121 s_.2 s_.1 :: pc b0 [.slice a5 D.2.1.length a6, optp s_.2, i6 D.2.2.2.2.2, .slice A0_3 p.length c0_3, .slice A0_4 q.length c0_4, .slice A0_5 u.length c0_5, .slice A0_6 C.length c0_6, .map (some b0_7)] 113 :: row Fl.bs 9 A0_3 p.length c0_3 p :: row Q3.fl 48 A0_4 q.length c0_4 q :: grow Q5.ow 41 A0_5 u.length c0_5 u :: row Q10.fl 169 A0_6 C.length c0_6 C :: mapo Fl.bs.ov Fl.bool.ov b0_7 G :: b2 :: J :: Fr) (fun s_ => f0 (.inl s_.1) = some r) ?_ (fun d5 => ?_)
       ·rintro ⟨h9, f3⟩ j; have j := (f1 _).symm.trans j
        ·refine At.region (At.run 1 rfl (At.f6 (At.f6 (At.f6 (At.f6 (At.f6 (At.f5 ?_))))))); refine At.f6 ?_; obtain ⟨k0, f4, j⟩ := bbind j; refine At.call rfl Q124.callee rfl rfl rfl (Q124.spec f3 a7 rfl a8 rfl rfl rfl rfl f4) ?_; rintro _ _ ⟨f9, rfl, rfl⟩; refine At.nil (At.drop (.s (.s (.s (.s (.s (.s (.s .z))))))) (At.drop (.s (.s (.s (.s (.s (.s (.s .z))))))) (At.f6 (At.f6 (At.f6 (At.f6 (At.f6 ?_))))))); refine At.f5 (At.f6 ?_); cases bret j; exact At.res (.inr rfl) rfl rfl ⟨f9, a5, D.2.1.length, a6, rfl, rfl, a7, rfl, a8⟩
       ··rcases bite j with ⟨b3, j⟩ | ⟨b3, j⟩
         ··refine At.condT rfl b3 ?_
           refine At.region (At.run 1 rfl (At.y (Y.load rfl rfl (.s .z) rfl rfl rfl) rfl rfl rfl (At.f7 (At.f7 (At.f7 (At.f7 (At.f7 ?_))))))); refine At.f7 (At.f6 ?_); obtain ⟨g0, g1, j⟩ := bbind j; refine At.call rfl Q18.callee rfl rfl rfl (Q18.spec V a7 rfl a8 rfl rfl rfl rfl g1) ?_; rintro _ _ ⟨g2, rfl, rfl⟩; refine nT ?_; exact fun a w e hs => d5 (g0, g2) j a w (e.sub ⟨rfl, trivial⟩) hs
         ··refine At.condF rfl (bn b3) ?_
           refine At.skip (At.thn (At.f8 (At.f2 (At.f8 (At.f8 (At.f8 (At.f8 ?_))))))); refine At.f8 (At.f7 (At.f8 ?_)); exact fun a w e hs => d5 (D.1, V) j a w (e.sub ⟨rfl, trivial⟩) hs
     ··rcases bite j with ⟨b4, j⟩ | ⟨b4, j⟩
       ··refine At.know (t := 34) rfl b4 ?_
         refine At.run 1 rfl (At.y (Y.load rfl rfl (.s .z) rfl rfl rfl) rfl rfl rfl (At.run 2 rfl ?_)); obtain ⟨g3, g4, k1, j⟩ := bjoin j; refine At.joinO 4 (X := Bool) (fun I => [(0, bp b0), (3, bp a9), (34, .bool true), (42, .bool I)]) (fun I => d3 :: b2 :: optb (Ow.fl Q6.fl) 121 V D.1 :: row Fl.bs 9 A0_3 p.length c0_3 p :: row Q3.fl 48 A0_4 q.length c0_4 q :: grow Q5.ow 41 A0_5 u.length c0_5 u :: row Q10.fl 169 A0_6 C.length c0_6 C :: mapo Fl.bs.ov Fl.bool.ov b0_7 G :: J :: Fr) (fun I => g3 (.inl I) = some r) ?_ (fun d6 => ?_)
         ·rintro I j; have j := (g4 _).symm.trans j
          ·refine At.run 1 rfl ?_; exact At.of (d4 I j) ⟨rfl, rfl, rfl, trivial⟩
         ··rcases bite j with ⟨b5, j⟩ | ⟨b5, j⟩
           ··refine At.know (t := 38) rfl (decide_eq_true b5) ?_
             refine At.run 4 rfl ?_; exact At.of (d6 true j) ⟨rfl, rfl, rfl, rfl, trivial⟩
           ··refine At.know (t := 38) rfl (decide_eq_false b5) ?_
             refine At.run 1 rfl (At.y (Y.load rfl rfl (.s .z) rfl rfl rfl) rfl rfl rfl (At.run 2 rfl ?_)); exact At.of (d6 (decide (24 < D.2.2.2.2.2)) j) ⟨rfl, rfl, rfl, rfl, trivial⟩
       ··refine At.know (t := 34) rfl (bn b4) ?_
         refine At.run 9 rfl ?_; exact At.of (d4 false j) ⟨rfl, rfl, rfl, trivial⟩
   ··rcases bite j with ⟨b6, j⟩ | ⟨b6, j⟩
     ··refine At.condT rfl b6 ?_
       refine At.region (At.run 1 rfl (At.y (Y.load rfl rfl .z rfl rfl rfl) rfl rfl rfl (At.f7 (At.f7 (At.f7 (At.f7 (At.f7 ?_))))))); refine At.f6 (At.f7 ?_); obtain ⟨g5, g6, j⟩ := bbind j; refine At.call rfl Q18.callee rfl rfl rfl (Q18.spec a2 c8 rfl c9 rfl rfl rfl rfl g6) ?_; rintro _ _ ⟨g7, rfl, rfl⟩; refine nT ?_; exact fun a w e hs => d2 (g5, g7) j a w (e.sub ⟨rfl, trivial⟩) hs
     ··refine At.condF rfl (bn b6) ?_
       refine At.skip (At.thn (At.f7 (At.f7 (At.f7 (At.f7 (At.f7 (At.f7 ?_))))))); refine At.f7 ?_; exact fun a w e hs => d2 (E.1, a2) j a w (e.sub ⟨rfl, trivial⟩) hs
 ··rcases bite j with ⟨b7, j⟩ | ⟨b7, j⟩
   ··refine At.know (t := 13) rfl b7 ?_
     refine At.run 1 rfl (At.y (Y.load rfl rfl .z rfl rfl rfl) rfl rfl rfl (At.run 2 rfl ?_)); exact At.of (d1 (!(bseq E.2.2.2.2.1 ([115, 116, 97, 116, 101, 115] : Bs))) j) ⟨rfl, rfl, rfl, trivial⟩
   ··refine At.know (t := 13) rfl (bn b7) ?_
     refine At.run 4 rfl ?_; exact At.of (d1 false j) ⟨rfl, rfl, rfl, trivial⟩

noncomputable def Q101.f (I : List Q1) (J : Option Q6) (q : Int) (u : List Bs) (C : List Q3) (D : List Q5) (E : List Q10) (G : List (Bs × Bool)) : Option ((Option Q6) × (List Q1) × Int × Int × Int × Bs × Int) :=
 (Q58.f I J q u C D E G 4).bind fun p =>
 jn (
 if p.1.isNone = true then
 some (.inl (decide (q ≤ p.2.2.2.2.2)))
 else
 some (.inl false)) (fun (U : Bool) =>
 jn (
 if U = true then
 (Q18.f p.2.1 p.1 q u C D E G p.2.2.1 p.2.2.2.1 p.2.2.2.2.1 p.2.2.2.2.2 8).bind fun V =>
 some (.inl V)
 else
 some (.inl p.1)) (fun (X : Option Q6) =>
 some (X, p.2.1, p.2.2.2.2.2, p.2.2.1, p.2.2.2.1, p.2.2.2.2.1, p.2.2.2.2.2)))
theorem Q101.callee : Callee Tryz.prog 111 := ⟨_, Tryz.func111, by kernel_rfl, by kernel_rfl⟩
theorem Q101.spec {Z : List Q1} {a8 : Option Q6} {E : Int} {p : List Bs} {q : List Q3} {u : List Q5} {C : List Q10} {G : List (Bs × Bool)} (a0 : Option Nat) (hr0_0 : RdS Q1.fl.rep R.heap A0_0 Z) (hn0_0 : Z.length = n0_0) (hc0_0 : n0_0 ≤ c0_0) (hn0_3 : p.length = n0_3) (hn0_4 : q.length = n0_4) (hn0_5 : u.length = n0_5) (hn0_6 : C.length = n0_6) {r : (Option Q6) × (List Q1) × Int × Int × Int × Bs × Int} (j : Q101.f Z a8 E p q u C G = some r) :
 Spec Tryz.prog 111 [bp b0] R (pc b0 [.slice A0_0 n0_0 c0_0, optp a0, i6 E, .slice A0_3 n0_3 c0_3, .slice A0_4 n0_4 c0_4, .slice A0_5 n0_5 c0_5, .slice A0_6 n0_6 c0_6, .map (some b0_7)] 113 :: optb (Ow.fl Q6.fl) 121 a0 a8 :: row Fl.bs 9 A0_3 n0_3 c0_3 p :: row Q3.fl 48 A0_4 n0_4 c0_4 q :: grow Q5.ow 41 A0_5 n0_5 c0_5 u :: row Q10.fl 169 A0_6 n0_6 c0_6 C :: mapo Fl.bs.ov Fl.bool.ov b0_7 G :: Fr) (fun v l' => ∃ (a9 : Option Nat) (b2 : Option Addr) (a1 : Nat) (b3 : Nat), v = .tuple #[.agg #[i6 r.2.2.2.1, i6 r.2.2.2.2.1, .string ⟨(r.2.2.2.2.2.1).toArray⟩, i6 r.2.2.2.2.2.2], i6 r.2.2.1] ∧ optb (Ow.fl Q6.fl) 121 a9 r.1 :: pc b0 [.slice b2 a1 b3, optp a9, i6 E, .slice A0_3 n0_3 c0_3, .slice A0_4 n0_4 c0_4, .slice A0_5 n0_5 c0_5, .slice A0_6 n0_6 c0_6, .map (some b0_7)] 113 :: row Fl.bs 9 A0_3 n0_3 c0_3 p :: row Q3.fl 48 A0_4 n0_4 c0_4 q :: grow Q5.ow 41 A0_5 n0_5 c0_5 u :: row Q10.fl 169 A0_6 n0_6 c0_6 C :: mapo Fl.bs.ov Fl.bool.ov b0_7 G :: Fr = l' ∧ RdS Q1.fl.rep R.heap b2 r.2.1 ∧ r.2.1.length = a1 ∧ a1 ≤ b3) := by
 subst hn0_0; subst hn0_3; subst hn0_4; subst hn0_5; subst hn0_6; refine Spec.of Tryz.func111 rfl rfl ?_; unfold Q101.f at j; have j := brun j; refine At.seq (At.region ?_); refine At.alloc rfl rfl rfl (fun a2 => ?_); refine At.run 1 rfl (nT (sR 1 rfl (At.f7 (At.f7 ?_)))); refine At.f7 (At.f7 (At.f7 (At.f7 (At.f7 ?_)))); obtain ⟨D, b9, j⟩ := bbind j; refine At.call rfl Q58.callee rfl rfl rfl (Q58.spec a0 hr0_0 rfl hc0_0 rfl rfl rfl rfl b9) ?_; rintro _ _ ⟨J, U, d3, V, rfl, rfl, b4, rfl, b5⟩; refine At.alloc rfl rfl rfl (fun a3 => ?_); refine At.store rfl rfl rfl rfl .z rfl rfl rfl (.c (.c (.c (.c .n)))) ?_; refine nT (At.seq (At.seq ?_)); refine At.quiet (by kernel_rfl) ?_; refine At.Quiet.run 3 rfl ?_; refine At.Quiet.y (Y.load rfl rfl (.s (.s .z)) rfl rfl rfl) rfl rfl rfl ?_; refine At.Quiet.y (Y.eqOpt (.s .z) rfl rfl rfl rfl) rfl rfl rfl ?_; refine At.Quiet.run 1 rfl ?_; obtain ⟨c4, c5, d4, j⟩ := bjoin j; let a4 : HProp := pc a3 [i6 D.2.2.1, i6 D.2.2.2.1, .string ⟨(D.2.2.2.2.1).toArray⟩, i6 D.2.2.2.2.2] 115; let c6 : HProp := pc b0 [.slice U D.2.1.length V, optp J, i6 E, .slice A0_3 p.length c0_3, .slice A0_4 q.length c0_4, .slice A0_5 u.length c0_5, .slice A0_6 C.length c0_6, .map (some b0_7)] 113; let b6 : HProp := pc a2 [i6 0, i6 0, .string ⟨(([] : Bs)).toArray⟩, i6 0] 115; refine At.Quiet.joinO 9 (X := Bool) (fun I => [(0, bp b0), (2, bp a2), (4, bp a3), (21, .bool I)]) (fun I => a4 :: optb (Ow.fl Q6.fl) 121 J D.1 :: c6 :: row Fl.bs 9 A0_3 p.length c0_3 p :: row Q3.fl 48 A0_4 q.length c0_4 q :: grow Q5.ow 41 A0_5 u.length c0_5 u :: row Q10.fl 169 A0_6 C.length c0_6 C :: mapo Fl.bs.ov Fl.bool.ov b0_7 G :: b6 :: Fr) (fun I => c4 (.inl I) = some r) ?_ (fun b7 => ?_)
 ·rintro I j; have j := (c5 _).symm.trans j
  ·refine At.Quiet.nil (At.thn ?_); obtain ⟨c7, c8, d5, j⟩ := bjoin j; refine At.join (X := (Option Q6) × (Option Nat)) (fun s_ => [(2, bp a2), (4, bp a3)]) (fun s_ => optb (Ow.fl Q6.fl) 121 s_.2 s_.1 :: pc b0 [.slice U D.2.1.length V, optp s_.2, i6 E, .slice A0_3 p.length c0_3, .slice A0_4 q.length c0_4, .slice A0_5 u.length c0_5, .slice A0_6 C.length c0_6, .map (some b0_7)] 113 :: row Fl.bs 9 A0_3 p.length c0_3 p :: row Q3.fl 48 A0_4 q.length c0_4 q :: grow Q5.ow 41 A0_5 u.length c0_5 u :: row Q10.fl 169 A0_6 C.length c0_6 C :: mapo Fl.bs.ov Fl.bool.ov b0_7 G :: a4 :: b6 :: Fr) (fun s_ => c7 (.inl s_.1) = some r) ?_ (fun b8 => ?_)
   ·rintro ⟨c9, a5⟩ j; have j := (c8 _).symm.trans j
    ·refine At.seq ?_; refine At.held [optb (Ow.fl Q6.fl) 121 a5 c9, pc b0 [.slice U D.2.1.length V, optp a5, i6 E, .slice A0_3 p.length c0_3, .slice A0_4 q.length c0_4, .slice A0_5 u.length c0_5, .slice A0_6 C.length c0_6, .map (some b0_7)] 113, row Fl.bs 9 A0_3 p.length c0_3 p, row Q3.fl 48 A0_4 q.length c0_4 q, grow Q5.ow 41 A0_5 u.length c0_5 u, row Q10.fl 169 A0_6 C.length c0_6 C, mapo Fl.bs.ov Fl.bool.ov b0_7 G, a4] 5 rfl ?_; refine At.H.tw 0 rfl (Y.load rfl rfl (.s (.s (.s (.s (.s (.s (.s .z))))))) rfl rfl rfl) rfl rfl rfl (.c .z (.c .z (.c .z (.c .z (.c .z (.c .z (.c .z (.c .z .n)))))))) ?_; refine At.H.pw 1 rfl rfl rfl rfl rfl (.c .z (.c .z (.c .z (.c .z (.c .z (.c .z (.c .z (.c .z .n)))))))) ?_; refine At.H.tw 2 rfl (Y.load rfl rfl (.s (.s (.s (.s (.s (.s (.s .z))))))) rfl rfl rfl) rfl rfl rfl (.c .z (.c .z (.c .z (.c .z (.c .z (.c .z (.c .z (.c .z .n)))))))) ?_; refine At.H.al [3] (Q7 ?_ Q8)
     ··refine At.HO.op rfl ?_
       refine At.store rfl rfl rfl rfl (.s (.s (.s (.s (.s (.s (.s (.s .z)))))))) rfl rfl rfl (.c (.c (.c (.c .n)))) ?_; refine At.HO.back (.c (.s .z) (.c (.s .z) (.c (.s .z) (.c (.s .z) (.c (.s .z) (.c (.s .z) (.c (.s .z) (.c (.s .z) .n)))))))) ?_; refine At.H.pw 4 rfl rfl rfl rfl rfl (.c (.s .z) (.c (.s .z) (.c (.s .z) (.c (.s .z) (.c (.s .z) (.c (.s .z) (.c (.s .z) (.c (.s .z) .n)))))))) ?_; refine At.H.done (by kernel_rfl) ?_; refine At.thn (At.ret ?_); refine At.resM (.inl rfl) rfl (RV.cell rfl rfl .z rfl rfl rfl (RV.tmp rfl RV.nil)) ?_; refine At.drop .z (At.drop (.s (.s (.s (.s (.s (.s (.s .z))))))) ?_); cases bret j; exact fun a w e hs => ⟨_, ⟨a5, U, D.2.1.length, V, rfl, rfl, b4, rfl, b5⟩, hs⟩
   ··rcases bite j with ⟨a6, j⟩ | ⟨a6, j⟩
     ··refine At.condT rfl a6 ?_
       refine At.region (At.run 1 rfl (At.y (Y.load rfl rfl .z rfl rfl rfl) rfl rfl rfl (At.f7 (At.f7 (At.f7 (At.f7 (At.f7 ?_))))))); refine At.f6 (At.f7 ?_); obtain ⟨d0, d1, j⟩ := bbind j; refine At.call rfl Q18.callee rfl rfl rfl (Q18.spec J b4 rfl b5 rfl rfl rfl rfl d1) ?_; rintro _ _ ⟨d2, rfl, rfl⟩; refine nT ?_; exact fun a w e hs => b8 (d0, d2) j a w (e.sub ⟨rfl, rfl, trivial⟩) hs
     ··refine At.condF rfl (bn a6) ?_
       refine At.skip (At.thn (At.f8 (At.f1 (At.f8 (At.f8 (At.f8 (At.f8 ?_))))))); refine At.f8 (At.f8 (At.f8 ?_)); exact fun a w e hs => b8 (D.1, J) j a w (e.sub ⟨rfl, rfl, trivial⟩) hs
 ··rcases bite j with ⟨a7, j⟩ | ⟨a7, j⟩
   ··refine At.Quiet.know (t := 12) rfl a7 ?_
     refine At.Quiet.run 1 rfl ?_; refine At.Quiet.y (Y.load rfl rfl .z rfl rfl rfl) rfl rfl rfl ?_; refine At.Quiet.run 4 rfl ?_; refine At.Quiet.y (Y.load rfl rfl (.s (.s .z)) rfl rfl rfl) rfl rfl rfl ?_; refine At.Quiet.run 2 rfl ?_; exact At.Quiet.of (b7 (decide (E ≤ D.2.2.2.2.2)) j) ⟨rfl, rfl, rfl, rfl, trivial⟩
   ··refine At.Quiet.know (t := 12) rfl (bn a7) ?_
     refine At.Quiet.run 9 rfl ?_; exact At.Quiet.of (b7 false j) ⟨rfl, rfl, rfl, rfl, trivial⟩

noncomputable def Q115.f (I : List Q1) (J : Option Q6) (q : Int) (u : List Bs) (C : List Q3) (D : List Q5) (E : List Q10) (G : List (Bs × Bool)) : Option ((Option Q6) × (List Q1) × Int × Int × Bs × Int) :=
 (Q58.f I J q u C D E G 2).bind fun p =>
 jn (
 if p.1.isNone = true then
 (Q82.f p.2.2.2.2.1).bind fun U =>
 some (.inl (!U))
 else
 some (.inl false)) (fun (V : Bool) =>
 jn (
 if V = true then
 (Q18.f p.2.1 p.1 q u C D E G p.2.2.1 p.2.2.2.1 p.2.2.2.2.1 p.2.2.2.2.2 7).bind fun X =>
 some (.inl X)
 else
 some (.inl p.1)) (fun (Z : Option Q6) =>
 some (Z, p.2.1, p.2.2.1, p.2.2.2.1, p.2.2.2.2.1, p.2.2.2.2.2)))
theorem Q115.callee : Callee Tryz.prog 112 := ⟨_, Tryz.func112, by kernel_rfl, by kernel_rfl⟩
theorem Q115.spec {U : List Q1} {a6 : Option Q6} {E : Int} {p : List Bs} {q : List Q3} {u : List Q5} {C : List Q10} {G : List (Bs × Bool)} (V : Option Nat) (hr0_0 : RdS Q1.fl.rep R.heap A0_0 U) (hn0_0 : U.length = n0_0) (hc0_0 : n0_0 ≤ c0_0) (hn0_3 : p.length = n0_3) (hn0_4 : q.length = n0_4) (hn0_5 : u.length = n0_5) (hn0_6 : C.length = n0_6) {r : (Option Q6) × (List Q1) × Int × Int × Bs × Int} (j : Q115.f U a6 E p q u C G = some r) :
 Spec Tryz.prog 112 [bp b0] R (pc b0 [.slice A0_0 n0_0 c0_0, optp V, i6 E, .slice A0_3 n0_3 c0_3, .slice A0_4 n0_4 c0_4, .slice A0_5 n0_5 c0_5, .slice A0_6 n0_6 c0_6, .map (some b0_7)] 113 :: optb (Ow.fl Q6.fl) 121 V a6 :: row Fl.bs 9 A0_3 n0_3 c0_3 p :: row Q3.fl 48 A0_4 n0_4 c0_4 q :: grow Q5.ow 41 A0_5 n0_5 c0_5 u :: row Q10.fl 169 A0_6 n0_6 c0_6 C :: mapo Fl.bs.ov Fl.bool.ov b0_7 G :: Fr) (fun v l' => ∃ (a7 : Option Nat) (a8 : Option Addr) (Z : Nat) (a9 : Nat), v = .agg #[i6 r.2.2.1, i6 r.2.2.2.1, .string ⟨(r.2.2.2.2.1).toArray⟩, i6 r.2.2.2.2.2] ∧ optb (Ow.fl Q6.fl) 121 a7 r.1 :: pc b0 [.slice a8 Z a9, optp a7, i6 E, .slice A0_3 n0_3 c0_3, .slice A0_4 n0_4 c0_4, .slice A0_5 n0_5 c0_5, .slice A0_6 n0_6 c0_6, .map (some b0_7)] 113 :: row Fl.bs 9 A0_3 n0_3 c0_3 p :: row Q3.fl 48 A0_4 n0_4 c0_4 q :: grow Q5.ow 41 A0_5 n0_5 c0_5 u :: row Q10.fl 169 A0_6 n0_6 c0_6 C :: mapo Fl.bs.ov Fl.bool.ov b0_7 G :: Fr = l' ∧ RdS Q1.fl.rep R.heap a8 r.2.1 ∧ r.2.1.length = Z ∧ Z ≤ a9) := by
 subst hn0_0; subst hn0_3; subst hn0_4; subst hn0_5; subst hn0_6; refine Spec.of Tryz.func112 rfl rfl ?_; unfold Q115.f at j; have j := brun j; refine At.seq (At.region ?_); refine At.alloc rfl rfl rfl (fun a0 => ?_); refine nT (sR 1 rfl (At.f7 (At.f7 (At.f7 ?_)))); refine At.f7 (At.f7 (At.f7 (At.f7 ?_))); obtain ⟨D, b8, j⟩ := bbind j; refine At.call rfl Q58.callee rfl rfl rfl (Q58.spec V hr0_0 rfl hc0_0 rfl rfl rfl rfl b8) ?_; rintro _ _ ⟨J, a1, d4, a2, rfl, rfl, b2, rfl, b3⟩; refine At.alloc rfl rfl rfl (fun a3 => ?_); refine At.store rfl rfl rfl rfl .z rfl rfl rfl (.c (.c (.c (.c .n)))) ?_; refine nT (At.seq (sR 3 rfl (At.y (Y.load rfl rfl (.s (.s .z)) rfl rfl rfl) rfl rfl rfl ?_))); refine At.y (Y.eqOpt (.s .z) rfl rfl rfl rfl) rfl rfl rfl ?_; refine At.run 1 rfl ?_; obtain ⟨b9, c4, d5, j⟩ := bjoin j; let b4 : HProp := pc a3 [i6 D.2.2.1, i6 D.2.2.2.1, .string ⟨(D.2.2.2.2.1).toArray⟩, i6 D.2.2.2.2.2] 115; let c5 : HProp := pc b0 [.slice a1 D.2.1.length a2, optp J, i6 E, .slice A0_3 p.length c0_3, .slice A0_4 q.length c0_4, .slice A0_5 u.length c0_5, .slice A0_6 C.length c0_6, .map (some b0_7)] 113; let b5 : HProp := pc a0 [i6 0, i6 0, .string ⟨(([] : Bs)).toArray⟩, i6 0] 115; refine At.joinO 5 (X := Bool) (fun I => [(0, bp b0), (2, bp a0), (3, bp a3), (16, .bool I)]) (fun I => b4 :: optb (Ow.fl Q6.fl) 121 J D.1 :: c5 :: row Fl.bs 9 A0_3 p.length c0_3 p :: row Q3.fl 48 A0_4 q.length c0_4 q :: grow Q5.ow 41 A0_5 u.length c0_5 u :: row Q10.fl 169 A0_6 C.length c0_6 C :: mapo Fl.bs.ov Fl.bool.ov b0_7 G :: b5 :: Fr) (fun I => b9 (.inl I) = some r) ?_ (fun b6 => ?_)
 ·rintro I j; have j := (c4 _).symm.trans j
  ·refine nT ?_; obtain ⟨c6, c7, d6, j⟩ := bjoin j; refine At.join (X := (Option Q6) × (Option Nat)) (fun s_ => [(2, bp a0), (3, bp a3)]) (fun s_ => optb (Ow.fl Q6.fl) 121 s_.2 s_.1 :: pc b0 [.slice a1 D.2.1.length a2, optp s_.2, i6 E, .slice A0_3 p.length c0_3, .slice A0_4 q.length c0_4, .slice A0_5 u.length c0_5, .slice A0_6 C.length c0_6, .map (some b0_7)] 113 :: row Fl.bs 9 A0_3 p.length c0_3 p :: row Q3.fl 48 A0_4 q.length c0_4 q :: grow Q5.ow 41 A0_5 u.length c0_5 u :: row Q10.fl 169 A0_6 C.length c0_6 C :: mapo Fl.bs.ov Fl.bool.ov b0_7 G :: b4 :: b5 :: Fr) (fun s_ => c6 (.inl s_.1) = some r) ?_ (fun b7 => ?_)
   ·rintro ⟨d7, c8⟩ j; have j := (c7 _).symm.trans j
    ·refine At.seq (At.region ?_); refine At.y (Y.load rfl rfl (.s (.s (.s (.s (.s (.s (.s .z))))))) rfl rfl rfl) rfl rfl rfl ?_; refine At.store rfl rfl rfl rfl (.s (.s (.s (.s (.s (.s (.s (.s .z)))))))) rfl rfl rfl (.c (.c (.c (.c .n)))) ?_; refine nT (At.ret ?_); refine At.resM (.inl rfl) rfl (RV.cell rfl rfl .z rfl rfl rfl RV.nil) ?_; refine At.drop .z (At.drop (.s (.s (.s (.s (.s (.s (.s .z))))))) ?_); cases bret j; exact fun a w e hs => ⟨_, ⟨c8, a1, D.2.1.length, a2, rfl, rfl, b2, rfl, b3⟩, hs⟩
   ··rcases bite j with ⟨a4, j⟩ | ⟨a4, j⟩
     ··refine At.condT rfl a4 ?_
       refine At.region (At.run 1 rfl (At.y (Y.load rfl rfl .z rfl rfl rfl) rfl rfl rfl (At.f7 (At.f7 (At.f7 (At.f7 (At.f7 ?_))))))); refine At.f6 (At.f7 ?_); obtain ⟨c9, d0, j⟩ := bbind j; refine At.call rfl Q18.callee rfl rfl rfl (Q18.spec J b2 rfl b3 rfl rfl rfl rfl d0) ?_; rintro _ _ ⟨d1, rfl, rfl⟩; refine nT ?_; exact fun a w e hs => b7 (c9, d1) j a w (e.sub ⟨rfl, rfl, trivial⟩) hs
     ··refine At.condF rfl (bn a4) ?_
       refine At.skip (At.thn (At.f8 (At.f1 (At.f8 (At.f8 (At.f8 (At.f8 ?_))))))); refine At.f8 (At.f8 (At.f8 ?_)); exact fun a w e hs => b7 (D.1, J) j a w (e.sub ⟨rfl, rfl, trivial⟩) hs
 ··rcases bite j with ⟨a5, j⟩ | ⟨a5, j⟩
   ··refine At.know (t := 11) rfl a5 ?_
     refine At.run 1 rfl (At.y (Y.load rfl rfl .z rfl rfl rfl) rfl rfl rfl ?_); obtain ⟨d2, d3, j⟩ := bbind j; refine At.call rfl Q82.callee rfl rfl rfl (Q82.spec d3) ?_; rintro _ _ ⟨rfl, rfl⟩; refine At.run 2 rfl ?_; exact At.of (b6 (!d2) j) ⟨rfl, rfl, rfl, rfl, trivial⟩
   ··refine At.know (t := 11) rfl (bn a5) ?_
     refine At.run 5 rfl ?_; exact At.of (b6 false j) ⟨rfl, rfl, rfl, rfl, trivial⟩

noncomputable def Q84.l0b (a0 : List Q10) (q : Int) (u : Bs) (C p : Int) : Option ((Int) ⊕ ((Unit) ⊕ (Int))) :=
 if p < (a0.length : Int) then
 if (0 : Int) ≤ p ∧ p < (a0.length : Int) then
 if (decide (q = (gt a0 p).from_) && (bseq u ((gt a0 p).action) && (decide (C = (gt a0 p).to) && true))) = true then
 upL (some p)
 else
 nx (IntKind.i64.wrap (p + 1))
 else none
 else
 dn (.inl ())
noncomputable def Q84.l0 (a0 : List Q10) (p : Int) (q : Bs) (u C : Int) : Option ((Unit) ⊕ (Int)) := iter (fun t_ : Int => Q84.l0b a0 p q u t_) C
noncomputable def Q84.f (a0 : List Q10) (p : Int) (q : Bs) (u : Int) : Option Int :=
 jn (Q84.l0 a0 p q u 0) (fun (_ : Unit) =>
 some (-1))
theorem Q84.callee : Callee Tryz.prog 147 := ⟨_, Tryz.func147, by kernel_rfl, by kernel_rfl⟩
theorem Q84.spec {a0 : List Q10} {u C : Int} {D : Bs} (hr0 : RdS Q10.fl.rep R.heap A0 a0) (hn0 : a0.length = n0) (hc0 : n0 ≤ c0) {r : Int} (j : Q84.f a0 u D C = some r) :
 Spec Tryz.prog 147 [.slice A0 n0 c0, .agg #[i6 u, .string ⟨(D).toArray⟩, i6 C]] R (Fr) (fun v l' => v = i6 r ∧ Fr = l') := by
 subst hn0; refine Spec.of Tryz.func147 rfl rfl ?_; unfold Q84.f at j; have j := brun j; refine At.seq (At.region ?_); refine At.box rfl rfl (cs := [i6 u, .string ⟨(D).toArray⟩, i6 C]) rfl rfl (fun Z => ?_); refine At.run 1 rfl (nT (At.seq (sR 3 rfl (At.nil ?_)))); refine At.thn ?_; refine At.block ?_; obtain ⟨a4, a5, a6, j⟩ := bjoin j; obtain ⟨a1, I, a2⟩ := bsome j; clear j; unfold Q84.l0 at I; obtain ⟨J, E⟩ := Q15.1 I; clear I; let a3 : HProp := pc Z [i6 u, .string ⟨(D).toArray⟩, i6 C] 169; refine At.loopJ (X := Int) (Y := Unit) (e0 := 0) (fun p => [(0, .slice A0 a0.length c0), (3, bp Z), (7, i6 (a0.length : Int)), (8, i6 p)]) (fun p => a3 :: Fr) (fun m_ => fun p => iterN (fun t_ : Int => Q84.l0b a0 u D C t_) m_ p = some a1) J 0 E (fun _ => []) (fun _ => a3 :: Fr) (fun _ => a4 (.inl ()) = some r) (fun a w e hs => ⟨e.sub ⟨rfl, rfl, rfl, rfl, trivial⟩, (by exact hs)⟩) ?_ (fun a7 => ?_)
 ·rintro _ j; have j := (a5 _).symm.trans j
  ·refine At.ibx ?_; refine At.thn (sR 1 rfl (nT (At.ret (At.drop .z ?_)))); cases bret j; exact At.res (.inl rfl) rfl rfl ⟨rfl, rfl⟩
 ·clear E J; rintro J p E; obtain ⟨a8, f_, a9, hf_, j⟩ := bit E; clear E; have j : (Q84.l0b a0 u D C p).bind _ = some a1 := j; unfold Q84.l0b at j
  ·refine sR 1 rfl (nT (At.seq ?_)); rcases bite j with ⟨U, j⟩ | ⟨U, j⟩
   ··refine At.condT rfl (decide_eq_true U) ?_
     refine At.skip (At.thn (At.seq ?_)); refine At.block ?_; refine sR 2 rfl (nT (At.seq ?_)); refine At.quiet (by kernel_rfl) ?_; refine At.Quiet.y (Y.load rfl rfl .z rfl rfl rfl) rfl rfl rfl ?_; refine At.Quiet.run 2 rfl ?_; obtain ⟨G, j⟩ := bnone j; refine At.Quiet.y (Y.ixRd hr0 rfl rfl rfl rfl rfl rfl rfl G.1 G.2) rfl rfl rfl ?_; refine At.Quiet.y (Y.ldFl hr0 rfl (q := 0) rfl rfl G.1 G.2 rfl rfl rfl) rfl rfl rfl ?_; refine At.Quiet.y (Y.eqSt (xs := [i6 u, .string ⟨(D).toArray⟩, i6 C]) (ys := [i6 ((gt a0 p).from_), .string ⟨((gt a0 p).action).toArray⟩, i6 ((gt a0 p).to)]) rfl rfl rfl rfl (by kernel_rfl) (by kernel_rfl) (by kernel_rfl) rfl) rfl rfl rfl ?_; refine At.Quiet.nil (At.thn ?_); rcases bite j with ⟨V, j⟩ | ⟨V, j⟩
     ··refine At.condT rfl V ?_
       refine sR 2 rfl (nT (At.ret ?_)); refine At.ibr ?_; refine At.thr ?_; have j := bupL a6 a2 j; refine At.thr ?_; refine At.ibr ?_; refine At.thr (At.drop .z ?_); cases bret j; exact At.res (.inl rfl) rfl rfl ⟨rfl, rfl⟩
     ··refine At.condF rfl (bn V) ?_
       refine At.skip ?_; refine At.ibn ?_; refine At.thn (At.region (At.run 2 rfl (At.nil ?_))); have j := bnx hf_ j; exact fun a w e hs => ⟨a8, (IntKind.i64.wrap (p + 1)), a9, j, e.sub ⟨rfl, rfl, rfl, rfl, trivial⟩, hs⟩
   ··refine At.condF rfl (decide_eq_false U) ?_
     refine At.exit ?_; refine At.the ?_; refine At.the ?_; exact fun a w e hs => a7 () (bdn j a2) a w (e.sub trivial) hs

noncomputable def Q162.f (a0 : List Q10) (p : Int) (q : Bs) (u : Int) : Option Bool :=
 (Q84.f a0 p q u).bind fun C =>
 some (decide (0 ≤ C))
theorem Q162.callee : Callee Tryz.prog 113 := ⟨_, Tryz.func113, by kernel_rfl, by kernel_rfl⟩
theorem Q162.spec {a0 : List Q10} {p q : Int} {u : Bs} (hr0 : RdS Q10.fl.rep R.heap A0 a0) (hn0 : a0.length = n0) (hc0 : n0 ≤ c0) {r : Bool} (j : Q162.f a0 p u q = some r) :
 Spec Tryz.prog 113 [.slice A0 n0 c0, .agg #[i6 p, .string ⟨(u).toArray⟩, i6 q]] R (Fr) (fun v l' => v = .bool r ∧ Fr = l') := by
 subst hn0; refine Spec.of Tryz.func113 rfl rfl ?_; unfold Q162.f at j; have j := brun j; refine At.seq (At.region ?_); refine At.box rfl rfl (cs := [i6 p, .string ⟨(u).toArray⟩, i6 q]) rfl rfl (fun D => ?_); refine At.run 1 rfl (nT (sR 1 rfl (At.y (Y.load rfl rfl .z rfl rfl rfl) rfl rfl rfl ?_))); obtain ⟨E, C, j⟩ := bbind j; refine At.call rfl Q84.callee rfl rfl rfl (Q84.spec hr0 rfl hc0 C) ?_; rintro _ _ ⟨rfl, rfl⟩; refine At.run 2 rfl (nT (At.ret (At.drop .z ?_))); cases bret j; exact At.res (.inl rfl) rfl rfl ⟨rfl, rfl⟩

noncomputable def Q148.f (U : List Q1) (V : Option Q6) (D : Int) (E : List Bs) (G : List Q3) (I : List Q5) (u : List Q10) (C : List (Bs × Bool)) (X : Int) (Z : Int) (a0 : Bs) (a1 : Int) : Option ((List Q10) × (List (Bs × Bool)) × (Option Q6) × (List Q1)) :=
 jn (
 if 200 ≤ (u.length : Int) then
 (Q18.f U V D E G I u C X Z a0 a1 10).bind fun a2 =>
 some (.inl a2)
 else
 some (.inl V)) (fun (a3 : Option Q6) =>
 (Q101.f U a3 D E G I u C).bind fun J =>
 (Q115.f J.2.1 J.1 D E G I u C).bind fun p =>
 jn (
 if ((mget C p.2.2.2.2.1).getD false) = true then
 some (.inl false)
 else
 some (.inl (decide (8 ≤ (C.length : Int))))) (fun (a4 : Bool) =>
 jn (
 if a4 = true then
 (Q18.f p.2.1 p.1 D E G I u C p.2.2.1 p.2.2.2.1 p.2.2.2.2.1 p.2.2.2.2.2 10).bind fun a5 =>
 some (.inl a5)
 else
 some (.inl p.1)) (fun (a6 : Option Q6) =>
 (Q101.f p.2.1 a6 D E G I u C).bind fun q =>
 jn (
 if q.1.isNone = true then
 (Q162.f u J.2.2.1 p.2.2.2.2.1 q.2.2.1).bind fun a7 =>
 some (.inl a7)
 else
 some (.inl false)) (fun (a8 : Bool) =>
 jn (
 if a8 = true then
 (Q18.f q.2.1 q.1 D E G I u C q.2.2.2.1 q.2.2.2.2.1 q.2.2.2.2.2.1 q.2.2.2.2.2.2 9).bind fun a9 =>
 some (.inl a9)
 else
 some (.inl q.1)) (fun (b2 : Option Q6) =>
 (Q124.f q.2.1 b2 D E G I u C).bind fun b3 =>
 if (u.length + ([(⟨J.2.2.1, p.2.2.2.2.1, q.2.2.1⟩ : Q10)] : List Q10).length) * 32 ≤ 140737488355328 then
 some ((u ++ ([(⟨J.2.2.1, p.2.2.2.2.1, q.2.2.1⟩ : Q10)] : List Q10)), (mset C p.2.2.2.2.1 true), b3, q.2.1)
 else none)))))
theorem Q148.callee : Callee Tryz.prog 59 := ⟨_, Tryz.func59, by kernel_rfl, by kernel_rfl⟩
theorem Q148.spec {a3 : List Q1} {b8 : Option Q6} {J a4 a5 a6 : Int} {p : List Bs} {q : List Q3} {u : List Q5} {D : List Q10} {I : List (Bs × Bool)} {a7 : Bs} (a8 : Option Nat) (hr0_0 : RdS Q1.fl.rep R.heap A0_0 a3) (hn0_0 : a3.length = n0_0) (hc0_0 : n0_0 ≤ c0_0) (hn0_3 : p.length = n0_3) (hn0_4 : q.length = n0_4) (hn0_5 : u.length = n0_5) (hn0_6 : D.length = n0_6) {r : (List Q10) × (List (Bs × Bool)) × (Option Q6) × (List Q1)} (j : Q148.f a3 b8 J p q u D I a4 a5 a7 a6 = some r) :
 Spec Tryz.prog 59 [bp b0, .agg #[i6 a4, i6 a5, .string ⟨(a7).toArray⟩, i6 a6]] R (pc b0 [.slice A0_0 n0_0 c0_0, optp a8, i6 J, .slice A0_3 n0_3 c0_3, .slice A0_4 n0_4 c0_4, .slice A0_5 n0_5 c0_5, .slice A0_6 n0_6 c0_6, .map (some b0_7)] 113 :: optb (Ow.fl Q6.fl) 121 a8 b8 :: row Fl.bs 9 A0_3 n0_3 c0_3 p :: row Q3.fl 48 A0_4 n0_4 c0_4 q :: grow Q5.ow 41 A0_5 n0_5 c0_5 u :: row Q10.fl 169 A0_6 n0_6 c0_6 D :: mapo Fl.bs.ov Fl.bool.ov b0_7 I :: Fr) (fun v l' => ∃ (b9 : Nat) (d3 : Option Addr) (d4 : Nat) (d5 : Option Nat) (d6 : Option Addr) (c4 : Nat) (d7 : Nat), v = .tuple #[] ∧ optb (Ow.fl Q6.fl) 121 d5 r.2.2.1 :: pc b0 [.slice d6 c4 d7, optp d5, i6 J, .slice A0_3 n0_3 c0_3, .slice A0_4 n0_4 c0_4, .slice A0_5 n0_5 c0_5, .slice d3 b9 d4, .map (some b0_7)] 113 :: row Fl.bs 9 A0_3 n0_3 c0_3 p :: row Q3.fl 48 A0_4 n0_4 c0_4 q :: grow Q5.ow 41 A0_5 n0_5 c0_5 u :: row Q10.fl 169 d3 b9 d4 r.1 :: mapo Fl.bs.ov Fl.bool.ov b0_7 r.2.1 :: Fr = l' ∧ r.1.length = b9 ∧ RdS Q1.fl.rep R.heap d6 r.2.2.2 ∧ r.2.2.2.length = c4 ∧ c4 ≤ d7) := by
 subst hn0_0; subst hn0_3; subst hn0_4; subst hn0_5; subst hn0_6; refine Spec.of Tryz.func59 rfl rfl ?_; unfold Q148.f at j; have j := brun j; refine At.seq (At.region ?_); refine At.box rfl rfl (cs := [i6 a4, i6 a5, .string ⟨(a7).toArray⟩, i6 a6]) rfl rfl (fun f3 => ?_); refine nT (At.seq (sR 3 rfl (At.y (Y.load rfl rfl (.s .z) rfl rfl rfl) rfl rfl rfl (At.run 2 rfl ?_)))); refine nT ?_; obtain ⟨f4, g0, n2, j⟩ := bjoin j; let U : HProp := pc f3 [i6 a4, i6 a5, .string ⟨(a7).toArray⟩, i6 a6] 115; refine At.join (X := (Option Q6) × (Option Nat)) (fun s_ => [(0, bp b0)]) (fun s_ => optb (Ow.fl Q6.fl) 121 s_.2 s_.1 :: pc b0 [.slice A0_0 a3.length c0_0, optp s_.2, i6 J, .slice A0_3 p.length c0_3, .slice A0_4 q.length c0_4, .slice A0_5 u.length c0_5, .slice A0_6 D.length c0_6, .map (some b0_7)] 113 :: row Fl.bs 9 A0_3 p.length c0_3 p :: row Q3.fl 48 A0_4 q.length c0_4 q :: grow Q5.ow 41 A0_5 u.length c0_5 u :: row Q10.fl 169 A0_6 D.length c0_6 D :: mapo Fl.bs.ov Fl.bool.ov b0_7 I :: U :: Fr) (fun s_ => f4 (.inl s_.1) = some r) ?_ (fun d8 => ?_)
 ·rintro ⟨n4, g1⟩ j; have j := (g0 _).symm.trans j
  ·refine sR 1 rfl (At.f6 (At.f6 (At.f6 (At.f6 (At.f6 ?_))))); refine At.f5 (At.f6 ?_); obtain ⟨G, g2, j⟩ := bbind j; refine At.call rfl Q101.callee rfl rfl rfl (Q101.spec g1 hr0_0 rfl hc0_0 rfl rfl rfl rfl g2) ?_; rintro _ _ ⟨g3, n5, n6, n7, rfl, rfl, g4, rfl, g5⟩; refine At.run 3 rfl ?_; refine At.alloc rfl rfl rfl (fun g6 => ?_); refine At.store rfl rfl rfl rfl .z rfl rfl rfl (.c (.c (.c (.c .n)))) ?_; refine At.run 1 rfl (nT (sR 1 rfl (At.f7 (At.f7 ?_)))); refine At.f7 (At.f7 (At.f7 (At.f6 (At.f7 ?_)))); obtain ⟨C, g7, j⟩ := bbind j; refine At.call rfl Q115.callee rfl rfl rfl (Q115.spec g3 g4 rfl g5 rfl rfl rfl rfl g7) ?_; rintro _ _ ⟨a9, d9, n8, e0, rfl, rfl, e1, rfl, e2⟩; refine At.alloc rfl rfl rfl (fun a0 => ?_); refine At.store rfl rfl rfl rfl .z rfl rfl rfl (.c (.c (.c (.c .n)))) ?_; refine nT (At.seq (At.seq ?_)); refine At.quiet (by kernel_rfl) ?_; refine At.Quiet.run 3 rfl ?_; refine At.Quiet.y (Y.load rfl rfl (.s (.s .z)) rfl rfl rfl) rfl rfl rfl ?_; refine At.Quiet.run 1 rfl ?_; refine At.Quiet.y (Y.load rfl rfl .z rfl rfl rfl) rfl rfl rfl ?_; refine At.Quiet.y (Y.lookup (k := C.2.2.2.2.1) (z := false) (.s (.s (.s (.s (.s (.s (.s .z))))))) rfl rfl (KeyOk.str rfl rfl) (by kernel_rfl) rfl rfl rfl) rfl rfl rfl ?_; refine At.Quiet.run 2 rfl ?_; obtain ⟨g8, g9, n9, j⟩ := bjoin j; let V : HProp := pc a0 [i6 C.2.2.1, i6 C.2.2.2.1, .string ⟨(C.2.2.2.2.1).toArray⟩, i6 C.2.2.2.2.2] 115; let h0 : HProp := pc b0 [.slice d9 C.2.1.length e0, optp a9, i6 J, .slice A0_3 p.length c0_3, .slice A0_4 q.length c0_4, .slice A0_5 u.length c0_5, .slice A0_6 D.length c0_6, .map (some b0_7)] 113; let Z : HProp := pc g6 [i6 G.2.2.2.1, i6 G.2.2.2.2.1, .string ⟨(G.2.2.2.2.2.1).toArray⟩, i6 G.2.2.2.2.2.2] 115; refine At.Quiet.joinO 7 (X := Bool) (fun a1 => [(0, bp b0), (5, i6 G.2.2.1), (6, bp a0), (41, .bool a1)]) (fun a1 => V :: optb (Ow.fl Q6.fl) 121 a9 C.1 :: h0 :: row Fl.bs 9 A0_3 p.length c0_3 p :: row Q3.fl 48 A0_4 q.length c0_4 q :: grow Q5.ow 41 A0_5 u.length c0_5 u :: row Q10.fl 169 A0_6 D.length c0_6 D :: mapo Fl.bs.ov Fl.bool.ov b0_7 I :: Z :: U :: Fr) (fun a1 => g8 (.inl a1) = some r) ?_ (fun e3 => ?_)
   ·rintro a1 j; have j := (g9 _).symm.trans j
    ·refine At.Quiet.nil (At.thn ?_); obtain ⟨h1, h2, o0, j⟩ := bjoin j; refine At.join (X := (Option Q6) × (Option Nat)) (fun s_ => [(0, bp b0), (5, i6 G.2.2.1), (6, bp a0)]) (fun s_ => optb (Ow.fl Q6.fl) 121 s_.2 s_.1 :: pc b0 [.slice d9 C.2.1.length e0, optp s_.2, i6 J, .slice A0_3 p.length c0_3, .slice A0_4 q.length c0_4, .slice A0_5 u.length c0_5, .slice A0_6 D.length c0_6, .map (some b0_7)] 113 :: row Fl.bs 9 A0_3 p.length c0_3 p :: row Q3.fl 48 A0_4 q.length c0_4 q :: grow Q5.ow 41 A0_5 u.length c0_5 u :: row Q10.fl 169 A0_6 D.length c0_6 D :: mapo Fl.bs.ov Fl.bool.ov b0_7 I :: V :: Z :: U :: Fr) (fun s_ => h1 (.inl s_.1) = some r) ?_ (fun e4 => ?_)
     ·rintro ⟨o7, h3⟩ j; have j := (h2 _).symm.trans j
      ·refine sR 1 rfl (At.f6 (At.f6 (At.f6 (At.f6 (At.f6 ?_))))); refine At.f5 (At.f6 ?_); obtain ⟨E, h4, j⟩ := bbind j; refine At.call rfl Q101.callee rfl rfl rfl (Q101.spec h3 e1 rfl e2 rfl rfl rfl rfl h4) ?_; rintro _ _ ⟨b2, b3, o8, b4, rfl, rfl, c5, rfl, c6⟩; refine At.run 3 rfl ?_; refine At.alloc rfl rfl rfl (fun e5 => ?_); refine At.store rfl rfl rfl rfl .z rfl rfl rfl (.c (.c (.c (.c .n)))) ?_; refine At.run 1 rfl (nT (sR 2 rfl ?_)); refine At.y (Y.load rfl rfl (.s (.s (.s (.s (.s (.s (.s (.s .z)))))))) rfl rfl rfl) rfl rfl rfl ?_; refine At.run 1 rfl ?_; refine At.y (Y.build (is := [0, 1, 2]) (xo := [.tmp 50, .tmp 52, .tmp 53]) (vs := [i6 G.2.2.1, .string ⟨(C.2.2.2.2.1).toArray⟩, i6 E.2.2.1]) (cs := [i6 G.2.2.1, .string ⟨(C.2.2.2.2.1).toArray⟩, i6 E.2.2.1]) rfl rfl rfl rfl rfl rfl) rfl rfl rfl ?_; refine At.alloc rfl rfl rfl (fun c7 => ?_); refine At.store rfl rfl rfl rfl .z rfl rfl rfl (.c (.c (.c .n))) ?_; refine nT (At.seq (At.seq ?_)); refine At.freeze (.s (.s (.s (.s (.s (.s (.s .z))))))) fun o9 h5 h6 h7 p0 h8 => ?_; refine At.quiet (by kernel_rfl) ?_; refine At.Quiet.run 3 rfl ?_; refine At.Quiet.y (Y.load rfl rfl (.s (.s (.s .z))) rfl rfl rfl) rfl rfl rfl ?_; refine At.Quiet.y (Y.eqOpt (.s (.s .z)) rfl rfl rfl rfl) rfl rfl rfl ?_; refine At.Quiet.run 1 rfl ?_; obtain ⟨h9, k0, p1, j⟩ := bjoin j; let b5 : HProp := pc c7 [i6 G.2.2.1, .string ⟨(C.2.2.2.2.1).toArray⟩, i6 E.2.2.1] 169; let b6 : HProp := pc e5 [i6 E.2.2.2.1, i6 E.2.2.2.2.1, .string ⟨(E.2.2.2.2.2.1).toArray⟩, i6 E.2.2.2.2.2.2] 115; let k1 : HProp := pc b0 [.slice b3 E.2.1.length b4, optp b2, i6 J, .slice A0_3 p.length c0_3, .slice A0_4 q.length c0_4, .slice A0_5 u.length c0_5, .slice A0_6 D.length c0_6, .map (some b0_7)] 113; refine At.Quiet.joinO 7 (X := Bool) (fun a2 => [(0, bp b0), (6, bp a0), (7, bp e5), (9, bp c7), (67, .bool a2)]) (fun a2 => b5 :: b6 :: optb (Ow.fl Q6.fl) 121 b2 E.1 :: k1 :: row Fl.bs 9 A0_3 p.length c0_3 p :: row Q3.fl 48 A0_4 q.length c0_4 q :: grow Q5.ow 41 A0_5 u.length c0_5 u :: mapo Fl.bs.ov Fl.bool.ov b0_7 I :: V :: Z :: U :: Fr) (fun a2 => h9 (.inl a2) = some r) ?_ (fun e6 => ?_)
       ·rintro a2 j; have j := (k0 _).symm.trans j
        ·refine At.Quiet.nil (At.thn ?_); refine At.thaw h8 ?_; obtain ⟨k2, k3, p2, j⟩ := bjoin j; refine At.join (X := (Option Q6) × (Option Nat)) (fun s_ => [(0, bp b0), (6, bp a0), (9, bp c7)]) (fun s_ => optb (Ow.fl Q6.fl) 121 s_.2 s_.1 :: pc b0 [.slice b3 E.2.1.length b4, optp s_.2, i6 J, .slice A0_3 p.length c0_3, .slice A0_4 q.length c0_4, .slice A0_5 u.length c0_5, .slice A0_6 D.length c0_6, .map (some b0_7)] 113 :: row Fl.bs 9 A0_3 p.length c0_3 p :: row Q3.fl 48 A0_4 q.length c0_4 q :: grow Q5.ow 41 A0_5 u.length c0_5 u :: row Q10.fl 169 A0_6 D.length c0_6 D :: mapo Fl.bs.ov Fl.bool.ov b0_7 I :: b5 :: b6 :: V :: Z :: U :: Fr) (fun s_ => k2 (.inl s_.1) = some r) ?_ (fun e7 => ?_)
         ·rintro ⟨p3, k4⟩ j; have j := (k3 _).symm.trans j
          ·refine sR 1 rfl (At.f6 (At.f6 (At.f6 (At.f6 (At.f6 ?_))))); refine At.f5 (At.f6 ?_); obtain ⟨e8, k5, j⟩ := bbind j; refine At.call rfl Q124.callee rfl rfl rfl (Q124.spec k4 c5 rfl c6 rfl rfl rfl rfl k5) ?_; rintro _ _ ⟨b7, rfl, rfl⟩; refine nT (At.seq ?_); refine At.still 6 (by kernel_rfl) ?_; refine At.Still.run 3 rfl ?_; refine At.Still.y (Y.load rfl rfl .z rfl rfl rfl) rfl rfl rfl ?_; refine At.Still.run 1 rfl ?_; refine At.Still.y (Y.load rfl rfl (.s (.s (.s (.s (.s (.s (.s (.s (.s .z))))))))) rfl rfl rfl) rfl rfl rfl ?_; refine At.Still.nil ?_; refine At.mapUpdate (k := C.2.2.2.2.1) (v := true) rfl (.s (.s (.s (.s (.s (.s .z)))))) rfl rfl (KeyOk.str rfl rfl) rfl rfl rfl rfl rfl ?_; refine nT ?_; refine At.held [mapo Fl.bs.ov Fl.bool.ov b0_7 (mset I C.2.2.2.2.1 true), optb (Ow.fl Q6.fl) 121 b7 e8, row Fl.bs 9 A0_3 p.length c0_3 p, row Q3.fl 48 A0_4 q.length c0_4 q, grow Q5.ow 41 A0_5 u.length c0_5 u, b5, b6, V, Z, U] 11 rfl ?_; refine At.H.pw 0 rfl rfl rfl rfl rfl (.c .z (.c (.s .z) (.c (.s .z) (.c (.s .z) (.c (.s .z) (.c (.s (.s .z)) (.c (.s (.s .z)) (.c (.s (.s .z)) (.c (.s (.s .z)) (.c (.s (.s .z)) .n)))))))))) ?_; refine At.H.pw 1 rfl rfl rfl rfl rfl (.c .z (.c (.s .z) (.c (.s .z) (.c (.s .z) (.c (.s .z) (.c (.s (.s .z)) (.c (.s (.s .z)) (.c (.s (.s .z)) (.c (.s (.s .z)) (.c (.s (.s .z)) .n)))))))))) ?_; refine At.H.pw 2 rfl rfl rfl rfl rfl (.c .z (.c (.s .z) (.c (.s .z) (.c (.s .z) (.c (.s .z) (.c (.s (.s .z)) (.c (.s (.s .z)) (.c (.s (.s .z)) (.c (.s (.s .z)) (.c (.s (.s .z)) .n)))))))))) ?_; refine At.H.pw 3 rfl rfl rfl rfl rfl (.c .z (.c (.s .z) (.c (.s .z) (.c (.s .z) (.c (.s .z) (.c (.s (.s .z)) (.c (.s (.s .z)) (.c (.s (.s .z)) (.c (.s (.s .z)) (.c (.s (.s .z)) .n)))))))))) ?_; refine At.H.tw 5 rfl (Y.load rfl rfl (.s (.s (.s (.s (.s .z))))) rfl rfl rfl) rfl rfl rfl (.c .z (.c (.s .z) (.c (.s .z) (.c (.s .z) (.c (.s .z) (.c (.s (.s .z)) (.c (.s (.s .z)) (.c (.s (.s .z)) (.c (.s (.s .z)) (.c (.s (.s .z)) .n)))))))))) ?_; obtain ⟨e9, j⟩ := bnone j; let k6 : HProp := mapo Fl.bs.ov Fl.bool.ov b0_7 (mset I C.2.2.2.2.1 true); refine At.H.joinK (X := (Option Addr) × Nat) (fun s_ => []) (fun s_ => pc b0 [.slice b3 E.2.1.length b4, optp b7, i6 J, .slice A0_3 p.length c0_3, .slice A0_4 q.length c0_4, .slice A0_5 u.length c0_5, .slice s_.1 ((D ++ ([(⟨G.2.2.1, C.2.2.2.2.1, E.2.2.1⟩ : Q10)] : List Q10)).length) s_.2, .map (some b0_7)] 113 :: row Q10.fl 169 s_.1 ((D ++ ([(⟨G.2.2.1, C.2.2.2.2.1, E.2.2.1⟩ : Q10)] : List Q10)).length) s_.2 (D ++ ([(⟨G.2.2.1, C.2.2.2.2.1, E.2.2.1⟩ : Q10)] : List Q10)) :: k6 :: optb (Ow.fl Q6.fl) 121 b7 e8 :: row Fl.bs 9 A0_3 p.length c0_3 p :: row Q3.fl 48 A0_4 q.length c0_4 q :: grow Q5.ow 41 A0_5 u.length c0_5 u :: b5 :: b6 :: V :: Z :: U :: Fr) (fun s_ => True) ?_ (fun f0 => ?_)
           ·rintro ⟨k7, k8⟩ -
            ·refine At.drop (.s (.s (.s (.s (.s (.s (.s .z))))))) (At.drop (.s (.s (.s (.s (.s (.s (.s .z))))))) (At.drop (.s (.s (.s (.s (.s (.s (.s .z))))))) (At.drop (.s (.s (.s (.s (.s (.s (.s .z))))))) (At.drop (.s (.s (.s (.s (.s (.s (.s .z))))))) (At.f2 (At.f2 (At.f6 ?_))))))); refine At.f6 (At.f6 (At.f5 (At.f6 ?_))); cases bret j; exact At.res (.inr rfl) rfl rfl ⟨(D ++ ([(⟨G.2.2.1, C.2.2.2.2.1, E.2.2.1⟩ : Q10)] : List Q10)).length, k7, k8, b7, b3, E.2.1.length, b4, rfl, rfl, rfl, c5, rfl, c6⟩
           ·refine At.H.al [4, 6] (Q7 ?_ (Q7 ?_ Q8))
            ··refine At.HO.op rfl ?_
              refine At.y (Y.load rfl rfl (.s .z) rfl rfl rfl) rfl rfl rfl ?_; refine At.HO.back (.c .z (.c (.s .z) (.c (.s .z) (.c (.s .z) (.c (.s .z) (.c (.s (.s .z)) (.c (.s (.s .z)) (.c (.s (.s .z)) (.c (.s (.s .z)) (.c (.s (.s .z)) .n)))))))))) ?_; refine At.H.al [6] (Q7 ?_ Q8)
              ··refine At.HO.op rfl ?_
                refine At.lit rfl (xo := [.tmp 84]) (ys := ([(⟨G.2.2.1, C.2.2.2.2.1, E.2.2.1⟩ : Q10)] : List Q10)) Q10.fl rfl rfl rfl rfl rfl rfl rfl rfl rfl rfl rfl (fun p4 p5 => ?_); refine At.HO.back (.c (.s .z) (.c (.s (.s .z)) (.c (.s (.s .z)) (.c (.s (.s .z)) (.c (.s (.s .z)) (.c (.s (.s (.s .z))) (.c (.s (.s (.s .z))) (.c (.s (.s (.s .z))) (.c (.s (.s (.s .z))) (.c (.s (.s (.s .z))) .n)))))))))) ?_; refine At.H.al [7] (Q7 ?_ Q8)
                ··refine At.HO.op rfl ?_
                  refine At.append rfl (.s (.s (.s (.s (.s (.s (.s .z))))))) (Src.own .z (by simp)) rfl rfl rfl rfl rfl rfl rfl rfl e9 (by decide) rfl (fun k9 l6 => ?_); refine At.drop (.s .z) ?_; refine At.HO.back (.c (.s .z) (.c (.s (.s .z)) (.c (.s (.s .z)) (.c (.s (.s .z)) (.c (.s (.s .z)) (.c (.s (.s .z)) (.c (.s (.s .z)) (.c (.s (.s .z)) (.c (.s (.s .z)) (.c (.s (.s .z)) .n)))))))))) ?_; refine At.H.pw 8 rfl rfl rfl rfl rfl (.c (.s .z) (.c (.s (.s .z)) (.c (.s (.s .z)) (.c (.s (.s .z)) (.c (.s (.s .z)) (.c (.s (.s .z)) (.c (.s (.s .z)) (.c (.s (.s .z)) (.c (.s (.s .z)) (.c (.s (.s .z)) .n)))))))))) ?_; refine At.H.pw 9 rfl rfl rfl rfl rfl (.c (.s .z) (.c (.s (.s .z)) (.c (.s (.s .z)) (.c (.s (.s .z)) (.c (.s (.s .z)) (.c (.s (.s .z)) (.c (.s (.s .z)) (.c (.s (.s .z)) (.c (.s (.s .z)) (.c (.s (.s .z)) .n)))))))))) ?_; refine At.H.al [10] (Q7 ?_ Q8)
                  ··refine At.HO.op rfl ?_
                    refine At.store rfl rfl rfl rfl (.s (.s .z)) rfl rfl rfl (.s (.s (.s (.s (.s (.s (.c .n))))))) ?_; refine At.HO.back (.c (.s (.s .z)) (.c (.s (.s .z)) (.c (.s (.s .z)) (.c (.s (.s .z)) (.c (.s (.s .z)) (.c (.s (.s .z)) (.c (.s (.s .z)) (.c (.s (.s .z)) (.c (.s (.s .z)) (.c (.s (.s .z)) .n)))))))))) ?_; refine At.H.done (by kernel_rfl) ?_; exact At.of (f0 (k9, l6) trivial) trivial
            ··refine At.HO.op rfl ?_
              refine At.lit rfl (xo := [.tmp 84]) (ys := ([(⟨G.2.2.1, C.2.2.2.2.1, E.2.2.1⟩ : Q10)] : List Q10)) Q10.fl rfl rfl rfl rfl rfl rfl rfl rfl rfl rfl rfl (fun p6 p7 => ?_); refine At.HO.back (.c (.s .z) (.c (.s (.s .z)) (.c (.s (.s .z)) (.c (.s (.s .z)) (.c (.s (.s .z)) (.c (.s (.s (.s .z))) (.c (.s (.s (.s .z))) (.c (.s (.s (.s .z))) (.c (.s (.s (.s .z))) (.c (.s (.s (.s .z))) .n)))))))))) ?_; refine At.H.al [4] (Q7 ?_ Q8)
              ··refine At.HO.op rfl ?_
                refine At.y (Y.load rfl rfl (.s (.s .z)) rfl rfl rfl) rfl rfl rfl ?_; refine At.HO.back (.c (.s .z) (.c (.s (.s .z)) (.c (.s (.s .z)) (.c (.s (.s .z)) (.c (.s (.s .z)) (.c (.s (.s (.s .z))) (.c (.s (.s (.s .z))) (.c (.s (.s (.s .z))) (.c (.s (.s (.s .z))) (.c (.s (.s (.s .z))) .n)))))))))) ?_; refine At.H.al [7] (Q7 ?_ Q8)
                ··refine At.HO.op rfl ?_
                  refine At.append rfl (.s (.s (.s (.s (.s (.s (.s .z))))))) (Src.own .z (by simp)) rfl rfl rfl rfl rfl rfl rfl rfl e9 (by decide) rfl (fun l7 l8 => ?_); refine At.drop (.s .z) ?_; refine At.HO.back (.c (.s .z) (.c (.s (.s .z)) (.c (.s (.s .z)) (.c (.s (.s .z)) (.c (.s (.s .z)) (.c (.s (.s .z)) (.c (.s (.s .z)) (.c (.s (.s .z)) (.c (.s (.s .z)) (.c (.s (.s .z)) .n)))))))))) ?_; refine At.H.pw 8 rfl rfl rfl rfl rfl (.c (.s .z) (.c (.s (.s .z)) (.c (.s (.s .z)) (.c (.s (.s .z)) (.c (.s (.s .z)) (.c (.s (.s .z)) (.c (.s (.s .z)) (.c (.s (.s .z)) (.c (.s (.s .z)) (.c (.s (.s .z)) .n)))))))))) ?_; refine At.H.pw 9 rfl rfl rfl rfl rfl (.c (.s .z) (.c (.s (.s .z)) (.c (.s (.s .z)) (.c (.s (.s .z)) (.c (.s (.s .z)) (.c (.s (.s .z)) (.c (.s (.s .z)) (.c (.s (.s .z)) (.c (.s (.s .z)) (.c (.s (.s .z)) .n)))))))))) ?_; refine At.H.al [10] (Q7 ?_ Q8)
                  ··refine At.HO.op rfl ?_
                    refine At.store rfl rfl rfl rfl (.s (.s .z)) rfl rfl rfl (.s (.s (.s (.s (.s (.s (.c .n))))))) ?_; refine At.HO.back (.c (.s (.s .z)) (.c (.s (.s .z)) (.c (.s (.s .z)) (.c (.s (.s .z)) (.c (.s (.s .z)) (.c (.s (.s .z)) (.c (.s (.s .z)) (.c (.s (.s .z)) (.c (.s (.s .z)) (.c (.s (.s .z)) .n)))))))))) ?_; refine At.H.done (by kernel_rfl) ?_; exact At.of (f0 (l7, l8) trivial) trivial
         ··rcases bite j with ⟨c8, j⟩ | ⟨c8, j⟩
           ··refine At.condT rfl c8 ?_
             refine At.region (At.run 1 rfl (At.y (Y.load rfl rfl (.s (.s .z)) rfl rfl rfl) rfl rfl rfl (At.f8 (At.f1 (At.f8 (At.f8 (At.f8 ?_))))))); refine At.f7 (At.f8 ?_); obtain ⟨l9, m0, j⟩ := bbind j; refine At.call rfl Q18.callee rfl rfl rfl (Q18.spec b2 c5 rfl c6 rfl rfl rfl rfl m0) ?_; rintro _ _ ⟨m1, rfl, rfl⟩; refine nT ?_; exact fun a w e hs => e7 (l9, m1) j a w (e.sub ⟨rfl, rfl, rfl, trivial⟩) hs
           ··refine At.condF rfl (bn c8) ?_
             refine At.skip (At.thn (At.f11 (At.f11 (At.f11 (At.f5 (At.f5 (At.f11 ?_))))))); refine At.f6 (At.f11 (At.f11 (At.f11 (At.f11 (At.f11 ?_))))); exact fun a w e hs => e7 (E.1, b2) j a w (e.sub ⟨rfl, rfl, rfl, trivial⟩) hs
       ··rcases bite j with ⟨c9, j⟩ | ⟨c9, j⟩
         ··refine At.Quiet.know (t := 60) rfl c9 ?_
           refine At.Quiet.run 3 rfl ?_; refine At.Quiet.y (Y.load rfl rfl (.s (.s (.s .z))) rfl rfl rfl) rfl rfl rfl ?_; refine At.Quiet.y (Y.load rfl rfl .z rfl rfl rfl) rfl rfl rfl ?_; obtain ⟨m2, m3, j⟩ := bbind j; refine At.Quiet.call rfl Q162.callee rfl rfl rfl (Q162.spec h5 h6 h7 m3) (fun _ _ h_ => ⟨h_.1, fun _ hs => h_.2 ▸ hs⟩) ?_; refine At.Quiet.run 1 rfl ?_; exact At.Quiet.of (e6 m2 j) ⟨rfl, rfl, rfl, rfl, rfl, trivial⟩
         ··refine At.Quiet.know (t := 60) rfl (bn c9) ?_
           refine At.Quiet.run 7 rfl ?_; exact At.Quiet.of (e6 false j) ⟨rfl, rfl, rfl, rfl, rfl, trivial⟩
     ··rcases bite j with ⟨d0, j⟩ | ⟨d0, j⟩
       ··refine At.condT rfl d0 ?_
         refine At.region (At.run 1 rfl (At.y (Y.load rfl rfl .z rfl rfl rfl) rfl rfl rfl (At.f7 (At.f7 (At.f7 (At.f7 (At.f7 ?_))))))); refine At.f6 (At.f7 ?_); obtain ⟨m4, m5, j⟩ := bbind j; refine At.call rfl Q18.callee rfl rfl rfl (Q18.spec a9 e1 rfl e2 rfl rfl rfl rfl m5) ?_; rintro _ _ ⟨m6, rfl, rfl⟩; refine nT ?_; exact fun a w e hs => e4 (m4, m6) j a w (e.sub ⟨rfl, rfl, rfl, trivial⟩) hs
       ··refine At.condF rfl (bn d0) ?_
         refine At.skip (At.thn (At.f9 (At.f9 (At.f2 (At.f9 (At.f9 (At.f9 ?_))))))); refine At.f9 (At.f9 (At.f9 (At.f9 ?_))); exact fun a w e hs => e4 (C.1, a9) j a w (e.sub ⟨rfl, rfl, rfl, trivial⟩) hs
   ··rcases bite j with ⟨d1, j⟩ | ⟨d1, j⟩
     ··refine At.Quiet.know (t := 34) rfl (nf d1) ?_
       refine At.Quiet.run 7 rfl ?_; exact At.Quiet.of (e3 false j) ⟨rfl, rfl, rfl, rfl, trivial⟩
     ··refine At.Quiet.know (t := 34) rfl (nt (bn d1)) ?_
       refine At.Quiet.run 3 rfl ?_; refine At.Quiet.y (Y.load rfl rfl (.s (.s .z)) rfl rfl rfl) rfl rfl rfl ?_; refine At.Quiet.y (Y.lenMap (.s (.s (.s (.s (.s (.s (.s .z))))))) rfl rfl rfl) rfl rfl rfl ?_; refine At.Quiet.run 2 rfl ?_; exact At.Quiet.of (e3 (decide (8 ≤ (I.length : Int))) j) ⟨rfl, rfl, rfl, rfl, trivial⟩
 ··rcases bite j with ⟨d2, j⟩ | ⟨d2, j⟩
   ··refine At.condT rfl (decide_eq_true d2) ?_
     refine At.region (At.run 1 rfl (At.y (Y.load rfl rfl .z rfl rfl rfl) rfl rfl rfl (At.f7 (At.f7 (At.f7 (At.f7 (At.f7 ?_))))))); refine At.f7 (At.f7 ?_); obtain ⟨m7, m8, j⟩ := bbind j; refine At.call rfl Q18.callee rfl rfl rfl (Q18.spec a8 hr0_0 rfl hc0_0 rfl rfl rfl rfl m8) ?_; rintro _ _ ⟨m9, rfl, rfl⟩; refine nT ?_; exact fun a w e hs => d8 (m7, m9) j a w (e.sub ⟨rfl, trivial⟩) hs
   ··refine At.condF rfl (decide_eq_false d2) ?_
     refine At.skip (At.thn (At.f7 (At.f7 (At.f7 (At.f7 (At.f7 (At.f6 ?_))))))); refine At.f7 ?_; exact fun a w e hs => d8 (b8, a8) j a w (e.sub ⟨rfl, trivial⟩) hs

noncomputable def Q157.f (p : Bs) (u : List Int) (C D : Int) (q : Bs) (E : Int) : Option Bool :=
 some (bseq p q)
theorem Q157.callee : Callee Tryz.prog 115 := ⟨_, Tryz.func115, by kernel_rfl, by kernel_rfl⟩
theorem Q157.spec {q u : Bs} {p : List Int} {C D E : Int} (hr0_1 : RdS (Fl.int .i64).rep R.heap A0_1 p) (hn0_1 : p.length = n0_1) (hc0_1 : n0_1 ≤ c0_1) {r : Bool} (j : Q157.f q p C D u E = some r) :
 Spec Tryz.prog 115 [.agg #[.string ⟨(q).toArray⟩, .slice A0_1 n0_1 c0_1], bp b1] R (pc b1 [i6 C, i6 D, .string ⟨(u).toArray⟩, i6 E] 115 :: Fr) (fun v l' => v = .bool r ∧ pc b1 [i6 C, i6 D, .string ⟨(u).toArray⟩, i6 E] 115 :: Fr = l') := by
 subst hn0_1; refine Spec.of Tryz.func115 rfl rfl ?_; unfold Q157.f at j; have j := brun j; refine At.seq (At.region ?_); refine At.box rfl rfl (cs := [.string ⟨(q).toArray⟩, .slice A0_1 p.length c0_1]) rfl rfl (fun G => ?_); refine At.run 1 rfl (nT (sR 1 rfl (At.y (Y.load rfl rfl .z rfl rfl rfl) rfl rfl rfl (At.run 1 rfl ?_)))); refine At.y (Y.load rfl rfl (.s .z) rfl rfl rfl) rfl rfl rfl (At.run 2 rfl (nT (At.ret (At.drop .z ?_)))); cases bret j; exact At.res (.inl rfl) rfl rfl ⟨rfl, rfl⟩

noncomputable def Q94.l0b (a0 : List Q5) (a1_c0_0 a1_c0_1 : Int) (a1_c0_2 : Bs) (a1_c0_3 p : Int) : Option ((Int) ⊕ ((Unit) ⊕ (Int))) :=
 if p < (a0.length : Int) then
 if (0 : Int) ≤ p ∧ p < (a0.length : Int) then
 (Q157.f ((gt a0 p).Name) ((gt a0 p).States) a1_c0_0 a1_c0_1 a1_c0_2 a1_c0_3).bind fun q =>
 if q = true then
 upL (some p)
 else
 nx (IntKind.i64.wrap (p + 1))
 else none
 else
 dn (.inl ())
noncomputable def Q94.l0 (a0 : List Q5) (a1_c0_0 a1_c0_1 : Int) (a1_c0_2 : Bs) (a1_c0_3 p : Int) : Option ((Unit) ⊕ (Int)) := iter (fun t_ : Int => Q94.l0b a0 a1_c0_0 a1_c0_1 a1_c0_2 a1_c0_3 t_) p
noncomputable def Q94.f (a0 : List Q5) (a1_c0_0 a1_c0_1 : Int) (a1_c0_2 : Bs) (a1_c0_3 : Int) : Option Int :=
 jn (Q94.l0 a0 a1_c0_0 a1_c0_1 a1_c0_2 a1_c0_3 0) (fun (_ : Unit) =>
 some (-1))
theorem Q94.callee : Callee Tryz.prog 148 := ⟨_, Tryz.func148, by kernel_rfl, by kernel_rfl⟩
theorem Q94.spec {a0 : List Q5} {a1_c0_0 a1_c0_1 a1_c0_3 : Int} {a1_c0_2 : Bs} (hr0 : RdS Q5.rep R.heap A0 a0) (hn0 : a0.length = n0) (hc0 : n0 ≤ c0) {r : Int} (j : Q94.f a0 a1_c0_0 a1_c0_1 a1_c0_2 a1_c0_3 = some r) :
 Spec Tryz.prog 148 [.slice A0 n0 c0, .func (.func 115) #[] #[bp b1_c0]] R (pc b1_c0 [i6 a1_c0_0, i6 a1_c0_1, .string ⟨(a1_c0_2).toArray⟩, i6 a1_c0_3] 115 :: Fr) (fun v l' => v = i6 r ∧ pc b1_c0 [i6 a1_c0_0, i6 a1_c0_1, .string ⟨(a1_c0_2).toArray⟩, i6 a1_c0_3] 115 :: Fr = l') := by
 subst hn0; refine Spec.of Tryz.func148 rfl rfl ?_; unfold Q94.f at j; have j := brun j; refine sR 1 rfl (nT (At.seq (At.seq (At.region ?_)))); refine At.run 3 rfl (nT ?_); refine At.block ?_; obtain ⟨V, Z, a1, j⟩ := bjoin j; obtain ⟨I, C, J⟩ := bsome j; clear j; unfold Q94.l0 at C; obtain ⟨D, q⟩ := Q15.1 C; clear C; let U : HProp := pc b1_c0 [i6 a1_c0_0, i6 a1_c0_1, .string ⟨(a1_c0_2).toArray⟩, i6 a1_c0_3] 115; refine At.loopJ (X := Int) (Y := Unit) (e0 := 0) (fun p => [(0, .slice A0 a0.length c0), (1, .func (.func 115) #[] #[bp b1_c0]), (7, i6 (a0.length : Int)), (8, i6 p)]) (fun p => U :: Fr) (fun m_ => fun p => iterN (fun t_ : Int => Q94.l0b a0 a1_c0_0 a1_c0_1 a1_c0_2 a1_c0_3 t_) m_ p = some I) D 0 q (fun _ => []) (fun _ => U :: Fr) (fun _ => V (.inl ()) = some r) (fun a w e hs => ⟨e.sub ⟨rfl, rfl, rfl, rfl, trivial⟩, (by exact hs)⟩) ?_ (fun a2 => ?_)
 ·rintro _ j; have j := (Z _).symm.trans j
  ·refine At.ibx ?_; refine At.thn (sR 1 rfl (nT (At.ret ?_))); cases bret j; exact At.res (.inl rfl) rfl rfl ⟨rfl, rfl⟩
 ·clear q D; rintro D p q; obtain ⟨a3, f_, a4, hf_, j⟩ := bit q; clear q; have j : (Q94.l0b a0 a1_c0_0 a1_c0_1 a1_c0_2 a1_c0_3 p).bind _ = some I := j; unfold Q94.l0b at j
  ·refine sR 1 rfl (nT (At.seq ?_)); rcases bite j with ⟨E, j⟩ | ⟨E, j⟩
   ··refine At.condT rfl (decide_eq_true E) ?_
     refine At.skip (At.thn (At.seq ?_)); refine At.block ?_; refine sR 2 rfl (nT (sR 3 rfl ?_)); obtain ⟨u, j⟩ := bnone j; refine At.y (Y.ixRd hr0 rfl rfl rfl rfl rfl rfl rfl u.1 u.2) rfl rfl rfl ?_; obtain ⟨b2, a5, a6⟩ := RdS.whole (P := Tryz.prog) hr0 (Sub.refl _) rfl u.1 u.2; obtain ⟨_, _, rfl, rfl, ⟨b3, b4, rfl, a7, a8⟩⟩ := a5; refine At.y (a6 rfl rfl rfl rfl) rfl rfl rfl ?_; obtain ⟨b5, a9, j⟩ := bbind j; refine At.call rfl Q157.callee rfl rfl rfl (Q157.spec a8 rfl a7 a9) ?_; rintro _ _ ⟨rfl, rfl⟩; refine nT ?_; rcases bite j with ⟨G, j⟩ | ⟨G, j⟩
     ··refine At.condT rfl G ?_
       refine sR 2 rfl (nT (At.ret ?_)); refine At.ibr ?_; refine At.thr ?_; have j := bupL a1 J j; refine At.thr ?_; refine At.ibr ?_; refine At.thr ?_; cases bret j; exact At.res (.inl rfl) rfl rfl ⟨rfl, rfl⟩
     ··refine At.condF rfl (bn G) ?_
       refine At.skip ?_; refine At.ibn ?_; refine At.thn (At.region (At.run 2 rfl (At.nil ?_))); have j := bnx hf_ j; exact fun a w e hs => ⟨a3, (IntKind.i64.wrap (p + 1)), a4, j, e.sub ⟨rfl, rfl, rfl, rfl, trivial⟩, hs⟩
   ··refine At.condF rfl (decide_eq_false E) ?_
     refine At.exit ?_; refine At.the ?_; refine At.the ?_; exact fun a w e hs => a2 () (bdn j J) a w (e.sub trivial) hs

noncomputable def Q142.f (a0 : List Q5) (a1_c0_0 a1_c0_1 : Int) (a1_c0_2 : Bs) (a1_c0_3 : Int) : Option Bool :=
 (Q94.f a0 a1_c0_0 a1_c0_1 a1_c0_2 a1_c0_3).bind fun p =>
 some (decide (0 ≤ p))
theorem Q142.callee : Callee Tryz.prog 114 := ⟨_, Tryz.func114, by kernel_rfl, by kernel_rfl⟩
theorem Q142.spec {a0 : List Q5} {a1_c0_0 a1_c0_1 a1_c0_3 : Int} {a1_c0_2 : Bs} (hr0 : RdS Q5.rep R.heap A0 a0) (hn0 : a0.length = n0) (hc0 : n0 ≤ c0) {r : Bool} (j : Q142.f a0 a1_c0_0 a1_c0_1 a1_c0_2 a1_c0_3 = some r) :
 Spec Tryz.prog 114 [.slice A0 n0 c0, .func (.func 115) #[] #[bp b1_c0]] R (pc b1_c0 [i6 a1_c0_0, i6 a1_c0_1, .string ⟨(a1_c0_2).toArray⟩, i6 a1_c0_3] 115 :: Fr) (fun v l' => v = .bool r ∧ pc b1_c0 [i6 a1_c0_0, i6 a1_c0_1, .string ⟨(a1_c0_2).toArray⟩, i6 a1_c0_3] 115 :: Fr = l') := by
 subst hn0; refine Spec.of Tryz.func114 rfl rfl ?_; unfold Q142.f at j; have j := brun j; refine sR 1 rfl (nT (sR 2 rfl ?_)); obtain ⟨q, p, j⟩ := bbind j; refine At.call rfl Q94.callee rfl rfl rfl (Q94.spec hr0 rfl hc0 p) ?_; rintro _ _ ⟨rfl, rfl⟩; refine At.run 2 rfl (nT (At.ret ?_)); cases bret j; exact At.res (.inl rfl) rfl rfl ⟨rfl, rfl⟩

noncomputable def Q89.l0b (a0 : List Int) (a1 p : Int) : Option ((Int) ⊕ ((Unit) ⊕ (Int))) :=
 if p < (a0.length : Int) then
 if (0 : Int) ≤ p ∧ p < (a0.length : Int) then
 if a1 = gt a0 p then
 upL (some p)
 else
 nx (IntKind.i64.wrap (p + 1))
 else none
 else
 dn (.inl ())
noncomputable def Q89.l0 (a0 : List Int) (a1 p : Int) : Option ((Unit) ⊕ (Int)) := iter (fun t_ : Int => Q89.l0b a0 a1 t_) p
noncomputable def Q89.f (a0 : List Int) (a1 : Int) : Option Int :=
 jn (Q89.l0 a0 a1 0) (fun (_ : Unit) =>
 some (-1))
theorem Q89.callee : Callee Tryz.prog 149 := ⟨_, Tryz.func149, by kernel_rfl, by kernel_rfl⟩
theorem Q89.spec {a0 : List Int} {a1 : Int} (hr0 : RdS (Fl.int .i64).rep R.heap A0 a0) (hn0 : a0.length = n0) (hc0 : n0 ≤ c0) {r : Int} (j : Q89.f a0 a1 = some r) :
 Spec Tryz.prog 149 [.slice A0 n0 c0, i6 a1] R (Fr) (fun v l' => v = i6 r ∧ Fr = l') := by
 subst hn0; refine Spec.of Tryz.func149 rfl rfl ?_; unfold Q89.f at j; have j := brun j; refine sR 1 rfl (nT (At.seq (At.seq (At.region ?_)))); refine At.run 3 rfl (nT ?_); refine At.block ?_; obtain ⟨V, Z, a2, j⟩ := bjoin j; obtain ⟨J, D, U⟩ := bsome j; clear j; unfold Q89.l0 at D; obtain ⟨E, u⟩ := Q15.1 D; clear D; refine At.loopJ (X := Int) (Y := Unit) (e0 := 0) (fun p => [(0, .slice A0 a0.length c0), (1, i6 a1), (7, i6 (a0.length : Int)), (8, i6 p)]) (fun p => Fr) (fun m_ => fun p => iterN (fun t_ : Int => Q89.l0b a0 a1 t_) m_ p = some J) E 0 u (fun _ => []) (fun _ => Fr) (fun _ => V (.inl ()) = some r) (fun a w e hs => ⟨e.sub ⟨rfl, rfl, rfl, rfl, trivial⟩, (by exact hs)⟩) ?_ (fun a3 => ?_)
 ·rintro _ j; have j := (Z _).symm.trans j
  ·refine At.ibx ?_; refine At.thn (sR 1 rfl (nT (At.ret ?_))); cases bret j; exact At.res (.inl rfl) rfl rfl ⟨rfl, rfl⟩
 ·clear u E; rintro E p u; obtain ⟨a4, f_, a5, hf_, j⟩ := bit u; clear u; have j : (Q89.l0b a0 a1 p).bind _ = some J := j; unfold Q89.l0b at j
  ·refine sR 1 rfl (nT (At.seq ?_)); rcases bite j with ⟨G, j⟩ | ⟨G, j⟩
   ··refine At.condT rfl (decide_eq_true G) ?_
     refine At.skip (At.thn (At.seq ?_)); refine At.block ?_; refine sR 2 rfl (nT (sR 3 rfl ?_)); obtain ⟨C, j⟩ := bnone j; refine At.y (Y.ixRd hr0 rfl rfl rfl rfl rfl rfl rfl C.1 C.2) rfl rfl rfl (At.y (Y.ldFl hr0 rfl (q := 0) rfl rfl C.1 C.2 rfl rfl rfl) rfl rfl rfl (At.run 1 rfl (nT ?_))); rcases bite j with ⟨I, j⟩ | ⟨I, j⟩
     ··refine At.condT rfl (decide_eq_true I) ?_
       refine sR 2 rfl (nT (At.ret ?_)); refine At.ibr ?_; refine At.thr ?_; have j := bupL a2 U j; refine At.thr ?_; refine At.ibr ?_; refine At.thr ?_; cases bret j; exact At.res (.inl rfl) rfl rfl ⟨rfl, rfl⟩
     ··refine At.condF rfl (decide_eq_false I) ?_
       refine At.skip ?_; refine At.ibn ?_; refine At.thn (At.region (At.run 2 rfl (At.nil ?_))); have j := bnx hf_ j; exact fun a w e hs => ⟨a4, (IntKind.i64.wrap (p + 1)), a5, j, e.sub ⟨rfl, rfl, rfl, rfl, trivial⟩, hs⟩
   ··refine At.condF rfl (decide_eq_false G) ?_
     refine At.exit ?_; refine At.the ?_; refine At.the ?_; exact fun a w e hs => a3 () (bdn j U) a w (e.sub trivial) hs

noncomputable def Q155.f (a0 : List Int) (a1 : Int) : Option Bool :=
 (Q89.f a0 a1).bind fun p =>
 some (decide (0 ≤ p))
theorem Q155.callee : Callee Tryz.prog 117 := ⟨_, Tryz.func117, by kernel_rfl, by kernel_rfl⟩
theorem Q155.spec {a0 : List Int} {a1 : Int} (hr0 : RdS (Fl.int .i64).rep R.heap A0 a0) (hn0 : a0.length = n0) (hc0 : n0 ≤ c0) {r : Bool} (j : Q155.f a0 a1 = some r) :
 Spec Tryz.prog 117 [.slice A0 n0 c0, i6 a1] R (Fr) (fun v l' => v = .bool r ∧ Fr = l') := by
 subst hn0; refine Spec.of Tryz.func117 rfl rfl ?_; unfold Q155.f at j; have j := brun j; refine sR 1 rfl (nT (sR 2 rfl ?_)); obtain ⟨q, p, j⟩ := bbind j; refine At.call rfl Q89.callee rfl rfl rfl (Q89.spec hr0 rfl hc0 p) ?_; rintro _ _ ⟨rfl, rfl⟩; refine At.run 2 rfl (nT (At.ret ?_)); cases bret j; exact At.res (.inl rfl) rfl rfl ⟨rfl, rfl⟩

noncomputable def Q56.f (a0 : List Int) : Option (List Int) := if a0.length < 4611686018427387904 then some (a0.mergeSort fun x y => decide (x ≤ y)) else none
theorem Q56.callee : Callee Tryz.prog 118 := ⟨_, Tryz.func118, by kernel_rfl, by kernel_rfl⟩
theorem Q56.spec {a0 : List Int} (hn0 : a0.length = n0) {r : List Int} (j : Q56.f a0 = some r) :
 Spec Tryz.prog 118 [.slice A0 n0 c0] R (row (Fl.int .i64) 3 A0 n0 c0 a0 :: Fr) (fun v l' => v = .tuple #[] ∧ row (Fl.int .i64) 3 A0 n0 c0 r :: Fr = l') := by
 unfold Q56.f at j; split at j
 ·rename_i hb; cases j; exact Q337 Tryz.sort118 R Fr hb
 ·cases j

noncomputable def Q46.l0b (C : Int) (D : List Bs) (E : List Q3) (G : List Q5) (I : List Q10) (J : List (Bs × Bool)) (q : List Int) (u : Option Q6) (U : List Q1) : Option (((List Int) × (Option Q6) × (List Q1)) ⊕ (((Option Q6) × (List Int) × (List Q1)) ⊕ ((List Q5) × (Option Q6) × (List Q1)))) :=
 jn (
 if u.isNone = true then
 (Q121.f U u C D E G I J).bind fun V =>
 some (.inl (!V))
 else
 some (.inl false)) (fun (X : Bool) =>
 if X = true then
 (Q101.f U u C D E G I J).bind fun p =>
 jn (
 if p.1.isNone = true then
 (Q155.f q p.2.2.1).bind fun Z =>
 some (.inl Z)
 else
 some (.inl false)) (fun (a0 : Bool) =>
 jn (
 if a0 = true then
 (Q18.f p.2.1 p.1 C D E G I J p.2.2.2.1 p.2.2.2.2.1 p.2.2.2.2.2.1 p.2.2.2.2.2.2 9).bind fun a1 =>
 some (.inl a1)
 else
 some (.inl p.1)) (fun (a2 : Option Q6) =>
 if (q.length + ([p.2.2.1] : List Int).length) * 8 ≤ 140737488355328 then
 nx ((q ++ ([p.2.2.1] : List Int)), a2, p.2.1)
 else none))
 else
 dn (.inl (u, q, U)))
noncomputable def Q46.l0 (p : Int) (q : List Bs) (u : List Q3) (C : List Q5) (D : List Q10) (E : List (Bs × Bool)) (G : List Int) (I : Option Q6) (J : List Q1) : Option (((Option Q6) × (List Int) × (List Q1)) ⊕ ((List Q5) × (Option Q6) × (List Q1))) := iter (fun t_ : (List Int) × (Option Q6) × (List Q1) => Q46.l0b p q u C D E t_.1 t_.2.1 t_.2.2) (G, I, J)
noncomputable def Q46.f (I : List Q1) (J : Option Q6) (u : Int) (C : List Bs) (D : List Q3) (q : List Q5) (E : List Q10) (G : List (Bs × Bool)) : Option ((List Q5) × (Option Q6) × (List Q1)) :=
 (Q115.f I J u C D q E G).bind fun p =>
 jn (
 if p.1.isNone = true then
 if 8 ≤ (q.length : Int) then
 (Q18.f p.2.1 p.1 u C D q E G p.2.2.1 p.2.2.2.1 p.2.2.2.2.1 p.2.2.2.2.2 10).bind fun U =>
 some (.inl U)
 else
 (Q142.f q p.2.2.1 p.2.2.2.1 p.2.2.2.2.1 p.2.2.2.2.2).bind fun V =>
 if V = true then
 (Q18.f p.2.1 p.1 u C D q E G p.2.2.1 p.2.2.2.1 p.2.2.2.2.1 p.2.2.2.2.2 9).bind fun X =>
 some (.inl X)
 else
 some (.inl p.1)
 else
 up (some (q, p.1, p.2.1))) (fun (Z : Option Q6) =>
 jn (Q46.l0 u C D q E G ([] : List Int) Z p.2.1) (fun (s_ : (Option Q6) × (List Int) × (List Q1)) =>
 (Q56.f s_.2.1).bind fun a0 =>
 if (q.length + 1) * 40 ≤ 140737488355328 then
 some ((q ++ [(⟨p.2.2.2.2.1, a0⟩ : Q5)]), s_.1, s_.2.2)
 else none))
theorem Q46.callee : Callee Tryz.prog 60 := ⟨_, Tryz.func60, by kernel_rfl, by kernel_rfl⟩
theorem Q46.spec {c7 : List Q1} {f4 : Option Q6} {I : Int} {q : List Bs} {u : List Q3} {p : List Q5} {C : List Q10} {U : List (Bs × Bool)} (c8 : Option Nat) (hr0_0 : RdS Q1.fl.rep R.heap A0_0 c7) (hn0_0 : c7.length = n0_0) (hc0_0 : n0_0 ≤ c0_0) (hn0_3 : q.length = n0_3) (hn0_4 : u.length = n0_4) (hn0_5 : p.length = n0_5) (hn0_6 : C.length = n0_6) {r : (List Q5) × (Option Q6) × (List Q1)} (j : Q46.f c7 f4 I q u p C U = some r) :
 Spec Tryz.prog 60 [bp b0] R (pc b0 [.slice A0_0 n0_0 c0_0, optp c8, i6 I, .slice A0_3 n0_3 c0_3, .slice A0_4 n0_4 c0_4, .slice A0_5 n0_5 c0_5, .slice A0_6 n0_6 c0_6, .map (some b0_7)] 113 :: optb (Ow.fl Q6.fl) 121 c8 f4 :: row Fl.bs 9 A0_3 n0_3 c0_3 q :: row Q3.fl 48 A0_4 n0_4 c0_4 u :: grow Q5.ow 41 A0_5 n0_5 c0_5 p :: row Q10.fl 169 A0_6 n0_6 c0_6 C :: mapo Fl.bs.ov Fl.bool.ov b0_7 U :: Fr) (fun v l' => ∃ (c9 : Nat) (g0 : Option Addr) (g1 : Nat) (g2 : Option Nat) (g3 : Option Addr) (d0 : Nat) (g4 : Nat), v = .tuple #[] ∧ optb (Ow.fl Q6.fl) 121 g2 r.2.1 :: pc b0 [.slice g3 d0 g4, optp g2, i6 I, .slice A0_3 n0_3 c0_3, .slice A0_4 n0_4 c0_4, .slice g0 c9 g1, .slice A0_6 n0_6 c0_6, .map (some b0_7)] 113 :: row Fl.bs 9 A0_3 n0_3 c0_3 q :: row Q3.fl 48 A0_4 n0_4 c0_4 u :: grow Q5.ow 41 g0 c9 g1 r.1 :: row Q10.fl 169 A0_6 n0_6 c0_6 C :: mapo Fl.bs.ov Fl.bool.ov b0_7 U :: Fr = l' ∧ r.1.length = c9 ∧ RdS Q1.fl.rep R.heap g3 r.2.2 ∧ r.2.2.length = d0 ∧ d0 ≤ g4) := by
 subst hn0_0; subst hn0_3; subst hn0_4; subst hn0_5; subst hn0_6; refine Spec.of Tryz.func60 rfl rfl ?_; unfold Q46.f at j; have j := brun j; refine sR 1 rfl ?_; obtain ⟨D, k0, j⟩ := bbind j; refine At.call rfl Q115.callee rfl rfl rfl (Q115.spec c8 hr0_0 rfl hc0_0 rfl rfl rfl rfl k0) ?_; rintro _ _ ⟨b5, d1, r9, d2, rfl, rfl, b6, rfl, b7⟩; refine At.alloc rfl rfl rfl (fun V => ?_); refine At.store rfl rfl rfl rfl .z rfl rfl rfl (.c (.c (.c (.c .n)))) ?_; refine nT (At.seq ?_); obtain ⟨k1, k2, k3, j⟩ := bjoin j; let J : HProp := pc V [i6 D.2.2.1, i6 D.2.2.2.1, .string ⟨(D.2.2.2.2.1).toArray⟩, i6 D.2.2.2.2.2] 115; refine At.join (X := (Option Q6) × (Option Nat)) (fun s_ => [(0, bp b0), (2, bp V)]) (fun s_ => optb (Ow.fl Q6.fl) 121 s_.2 s_.1 :: pc b0 [.slice d1 D.2.1.length d2, optp s_.2, i6 I, .slice A0_3 q.length c0_3, .slice A0_4 u.length c0_4, .slice A0_5 p.length c0_5, .slice A0_6 C.length c0_6, .map (some b0_7)] 113 :: row Fl.bs 9 A0_3 q.length c0_3 q :: row Q3.fl 48 A0_4 u.length c0_4 u :: grow Q5.ow 41 A0_5 p.length c0_5 p :: row Q10.fl 169 A0_6 C.length c0_6 C :: mapo Fl.bs.ov Fl.bool.ov b0_7 U :: J :: Fr) (fun s_ => k1 (.inl s_.1) = some r) ?_ (fun d3 => ?_)
 ·rintro ⟨k4, k5⟩ j; have j := (k2 _).symm.trans j
  ·refine sR 1 rfl (nT (At.seq ?_)); refine At.block ?_; obtain ⟨k6, k7, s0, j⟩ := bjoin j; obtain ⟨a5, d4, k8⟩ := bsome j; clear j; unfold Q46.l0 at d4; obtain ⟨d5, a6⟩ := Q15.1 d4; clear d4; refine At.nilRow (Fl.int .i64) 3 ?_; let Z : HProp := row Fl.bs 9 A0_3 q.length c0_3 q; let a0 : HProp := row Q3.fl 48 A0_4 u.length c0_4 u; let a7 : HProp := grow Q5.ow 41 A0_5 p.length c0_5 p; let a1 : HProp := row Q10.fl 169 A0_6 C.length c0_6 C; let a2 : HProp := mapo Fl.bs.ov Fl.bool.ov b0_7 U; refine At.loopJ (X := (List Int) × (Option Q6) × (List Q1) × Nat × (Option Addr) × Nat × (Option Nat) × (Option Addr) × Nat × Nat) (Y := (Option Q6) × (List Int) × (List Q1) × (Option Nat) × Nat × (Option Addr) × Nat × (Option Addr) × Nat × Nat) (e0 := 1) (fun s_ => [(0, bp b0), (2, bp V), (3, .slice s_.2.2.2.2.1 s_.2.2.2.1 s_.2.2.2.2.2.1)]) (fun s_ => row (Fl.int .i64) 3 s_.2.2.2.2.1 s_.2.2.2.1 s_.2.2.2.2.2.1 s_.1 :: optb (Ow.fl Q6.fl) 121 s_.2.2.2.2.2.2.1 s_.2.1 :: pc b0 [.slice s_.2.2.2.2.2.2.2.1 (d8 s_).1 (d8 s_).2, optp s_.2.2.2.2.2.2.1, i6 I, .slice A0_3 q.length c0_3, .slice A0_4 u.length c0_4, .slice A0_5 p.length c0_5, .slice A0_6 C.length c0_6, .map (some b0_7)] 113 :: Z :: a0 :: a7 :: a1 :: a2 :: J :: Fr) (fun m_ => fun s_ => iterN (fun t_ : (List Int) × (Option Q6) × (List Q1) => Q46.l0b I q u p C U t_.1 t_.2.1 t_.2.2) m_ (s_.1, s_.2.1, s_.2.2.1) = some a5 ∧ s_.1.length = s_.2.2.2.1 ∧ RdS Q1.fl.rep R.heap s_.2.2.2.2.2.2.2.1 s_.2.2.1 ∧ s_.2.2.1.length = (d8 s_).1 ∧ (d8 s_).1 ≤ (d8 s_).2) d5 (([] : List Int), k4, D.2.1, 0, none, 0, k5, d1, D.2.1.length, d2) ⟨a6, rfl, b6, rfl, b7⟩ (fun s_ => [(0, bp b0), (2, bp V), (3, .slice s_.2.2.2.2.2.1 s_.2.2.2.2.1 s_.2.2.2.2.2.2.1)]) (fun s_ => pc b0 [.slice s_.2.2.2.2.2.2.2.1 (d8 s_).1 (d8 s_).2, optp s_.2.2.2.1, i6 I, .slice A0_3 q.length c0_3, .slice A0_4 u.length c0_4, .slice A0_5 p.length c0_5, .slice A0_6 C.length c0_6, .map (some b0_7)] 113 :: optb (Ow.fl Q6.fl) 121 s_.2.2.2.1 s_.1 :: Z :: a0 :: a7 :: a1 :: a2 :: row (Fl.int .i64) 3 s_.2.2.2.2.2.1 s_.2.2.2.2.1 s_.2.2.2.2.2.2.1 s_.2.1 :: J :: Fr) (fun s_ => k6 (.inl (s_.1, s_.2.1, s_.2.2.1)) = some r ∧ s_.2.1.length = s_.2.2.2.2.1 ∧ RdS Q1.fl.rep R.heap s_.2.2.2.2.2.2.2.1 s_.2.2.1 ∧ s_.2.2.1.length = (d8 s_).1 ∧ (d8 s_).1 ≤ (d8 s_).2) (fun a w e hs => ⟨e.sub ⟨rfl, rfl, rfl, trivial⟩, (by exact hs)⟩) ?_ (fun k9 => ?_)
   ·rintro ⟨g5, a8, d6, b8, l6, b9, c4, g6, l7, g7⟩ ⟨j, l8, l9, m0, m1⟩; obtain rfl : a8.length = l6 := l8; obtain rfl : d6.length = l7 := m0; have j := (k7 _).symm.trans j
    ·refine At.ibx ?_; refine At.thn (sR 1 rfl (At.f7 ?_)); obtain ⟨c5, m2, j⟩ := bbind j; refine At.call rfl Q56.callee rfl rfl rfl (Q56.spec rfl m2) ?_; rintro _ _ ⟨rfl, rfl⟩; refine nT ?_; refine At.held [optb (Ow.fl Q6.fl) 121 b8 g5, Z, a0, a1, a2, J] 16 rfl ?_; refine At.H.pw 0 rfl rfl rfl rfl rfl (.c (.s (.s .z)) (.c (.s (.s .z)) (.c (.s (.s .z)) (.c (.s (.s (.s .z))) (.c (.s (.s (.s .z))) (.c (.s (.s (.s .z))) .n)))))) ?_; refine At.H.pw 1 rfl rfl rfl rfl rfl (.c (.s (.s .z)) (.c (.s (.s .z)) (.c (.s (.s .z)) (.c (.s (.s (.s .z))) (.c (.s (.s (.s .z))) (.c (.s (.s (.s .z))) .n)))))) ?_; refine At.H.pw 2 rfl rfl rfl rfl rfl (.c (.s (.s .z)) (.c (.s (.s .z)) (.c (.s (.s .z)) (.c (.s (.s (.s .z))) (.c (.s (.s (.s .z))) (.c (.s (.s (.s .z))) .n)))))) ?_; refine At.H.pw 3 rfl rfl rfl rfl rfl (.c (.s (.s .z)) (.c (.s (.s .z)) (.c (.s (.s .z)) (.c (.s (.s (.s .z))) (.c (.s (.s (.s .z))) (.c (.s (.s (.s .z))) .n)))))) ?_; refine At.H.pw 4 rfl rfl rfl rfl rfl (.c (.s (.s .z)) (.c (.s (.s .z)) (.c (.s (.s .z)) (.c (.s (.s (.s .z))) (.c (.s (.s (.s .z))) (.c (.s (.s (.s .z))) .n)))))) ?_; refine At.H.pw 6 rfl rfl rfl rfl rfl (.c (.s (.s .z)) (.c (.s (.s .z)) (.c (.s (.s .z)) (.c (.s (.s (.s .z))) (.c (.s (.s (.s .z))) (.c (.s (.s (.s .z))) .n)))))) ?_; refine At.H.tw 7 rfl (Y.load rfl rfl (.s (.s (.s (.s (.s .z))))) rfl rfl rfl) rfl rfl rfl (.c (.s (.s .z)) (.c (.s (.s .z)) (.c (.s (.s .z)) (.c (.s (.s (.s .z))) (.c (.s (.s (.s .z))) (.c (.s (.s (.s .z))) .n)))))) ?_; refine At.H.pw 8 rfl rfl rfl rfl rfl (.c (.s (.s .z)) (.c (.s (.s .z)) (.c (.s (.s .z)) (.c (.s (.s (.s .z))) (.c (.s (.s (.s .z))) (.c (.s (.s (.s .z))) .n)))))) ?_; refine At.H.tw 9 rfl (Y.build (is := [0, 1]) (xo := [.tmp 77, .tmp 78]) (vs := [.string ⟨(D.2.2.2.2.1).toArray⟩, .slice b9 a8.length c4]) (cs := [.string ⟨(D.2.2.2.2.1).toArray⟩, .slice b9 a8.length c4]) rfl rfl rfl rfl rfl rfl) rfl rfl rfl (.c (.s (.s .z)) (.c (.s (.s .z)) (.c (.s (.s .z)) (.c (.s (.s (.s .z))) (.c (.s (.s (.s .z))) (.c (.s (.s (.s .z))) .n)))))) ?_; obtain ⟨g8, j⟩ := bnone j; refine At.H.joinK (X := (Option Addr) × Nat) (fun s_ => []) (fun s_ => pc b0 [.slice g6 d6.length g7, optp b8, i6 I, .slice A0_3 q.length c0_3, .slice A0_4 u.length c0_4, .slice s_.1 ((p ++ [(⟨D.2.2.2.2.1, c5⟩ : Q5)]).length) s_.2, .slice A0_6 C.length c0_6, .map (some b0_7)] 113 :: grow Q5.ow 41 s_.1 ((p ++ [(⟨D.2.2.2.2.1, c5⟩ : Q5)]).length) s_.2 (p ++ [(⟨D.2.2.2.2.1, c5⟩ : Q5)]) :: optb (Ow.fl Q6.fl) 121 b8 g5 :: Z :: a0 :: a1 :: a2 :: J :: Fr) (fun s_ => True) ?_ (fun g9 => ?_)
     ·rintro ⟨m3, m4⟩ -
      ·refine At.drop (.s (.s (.s (.s (.s (.s (.s .z))))))) (At.f6 (At.f6 (At.f3 (At.f6 (At.f6 (At.f5 (At.f6 ?_))))))); cases bret j; exact At.res (.inr rfl) rfl rfl ⟨(p ++ [(⟨D.2.2.2.2.1, c5⟩ : Q5)]).length, m3, m4, b8, g6, d6.length, g7, rfl, rfl, rfl, l9, rfl, m1⟩
     ·refine At.H.al [5, 10] (Q7 ?_ (Q7 ?_ Q8))
      ··refine At.HO.op rfl ?_
        refine At.y (Y.load rfl rfl (.s .z) rfl rfl rfl) rfl rfl rfl ?_; refine At.HO.back (.c (.s (.s .z)) (.c (.s (.s .z)) (.c (.s (.s .z)) (.c (.s (.s (.s .z))) (.c (.s (.s (.s .z))) (.c (.s (.s (.s .z))) .n)))))) ?_; refine At.H.al [10] (Q7 ?_ Q8)
        ··refine At.HO.op rfl ?_
          refine At.lit rfl (xo := [.tmp 79]) (ys := ([rawOf (Q5.ow).sz [.string ⟨(D.2.2.2.2.1).toArray⟩, .slice b9 a8.length c4] rfl rfl] : List (Raw (Q5.ow).sz))) (Fl.raw (Q5.ow).sz (Q5.ow).pos) rfl rfl rfl rfl rfl rfl rfl rfl rfl rfl rfl (fun s1 s2 => ?_); refine At.HO.back (.c (.s (.s (.s .z))) (.c (.s (.s (.s .z))) (.c (.s (.s (.s .z))) (.c (.s (.s (.s (.s .z)))) (.c (.s (.s (.s (.s .z)))) (.c (.s (.s (.s (.s .z)))) .n)))))) ?_; refine At.H.al [11] (Q7 ?_ Q8)
          ··refine At.HO.op rfl ?_
            refine At.f1 (At.f1 (At.f6 ?_)); refine At.appendGrow (T := Q5.ow) rfl rfl Q5.ent rfl rfl rfl rfl rfl rfl rfl rfl rfl g8 (by decide) rfl (fun m5 m6 => ?_); refine At.HO.back (.c (.s (.s .z)) (.c (.s (.s .z)) (.c (.s (.s .z)) (.c (.s (.s .z)) (.c (.s (.s .z)) (.c (.s (.s .z)) .n)))))) ?_; refine At.H.pw 12 rfl rfl rfl rfl rfl (.c (.s (.s .z)) (.c (.s (.s .z)) (.c (.s (.s .z)) (.c (.s (.s .z)) (.c (.s (.s .z)) (.c (.s (.s .z)) .n)))))) ?_; refine At.H.pw 13 rfl rfl rfl rfl rfl (.c (.s (.s .z)) (.c (.s (.s .z)) (.c (.s (.s .z)) (.c (.s (.s .z)) (.c (.s (.s .z)) (.c (.s (.s .z)) .n)))))) ?_; refine At.H.pw 14 rfl rfl rfl rfl rfl (.c (.s (.s .z)) (.c (.s (.s .z)) (.c (.s (.s .z)) (.c (.s (.s .z)) (.c (.s (.s .z)) (.c (.s (.s .z)) .n)))))) ?_; refine At.H.al [15] (Q7 ?_ Q8)
            ··refine At.HO.op rfl ?_
              refine At.store rfl rfl rfl rfl (.s .z) rfl rfl rfl (.s (.s (.s (.s (.s (.c .n)))))) ?_; refine At.HO.back (.c (.s (.s .z)) (.c (.s (.s .z)) (.c (.s (.s .z)) (.c (.s (.s .z)) (.c (.s (.s .z)) (.c (.s (.s .z)) .n)))))) ?_; refine At.H.done (by kernel_rfl) ?_; exact At.of (g9 (m5, m6) trivial) trivial
      ··refine At.HO.op rfl ?_
        refine At.lit rfl (xo := [.tmp 79]) (ys := ([rawOf (Q5.ow).sz [.string ⟨(D.2.2.2.2.1).toArray⟩, .slice b9 a8.length c4] rfl rfl] : List (Raw (Q5.ow).sz))) (Fl.raw (Q5.ow).sz (Q5.ow).pos) rfl rfl rfl rfl rfl rfl rfl rfl rfl rfl rfl (fun s3 s4 => ?_); refine At.HO.back (.c (.s (.s (.s .z))) (.c (.s (.s (.s .z))) (.c (.s (.s (.s .z))) (.c (.s (.s (.s (.s .z)))) (.c (.s (.s (.s (.s .z)))) (.c (.s (.s (.s (.s .z)))) .n)))))) ?_; refine At.H.al [5] (Q7 ?_ Q8)
        ··refine At.HO.op rfl ?_
          refine At.y (Y.load rfl rfl (.s (.s .z)) rfl rfl rfl) rfl rfl rfl ?_; refine At.HO.back (.c (.s (.s (.s .z))) (.c (.s (.s (.s .z))) (.c (.s (.s (.s .z))) (.c (.s (.s (.s (.s .z)))) (.c (.s (.s (.s (.s .z)))) (.c (.s (.s (.s (.s .z)))) .n)))))) ?_; refine At.H.al [11] (Q7 ?_ Q8)
          ··refine At.HO.op rfl ?_
            refine At.f1 (At.f1 (At.f6 ?_)); refine At.appendGrow (T := Q5.ow) rfl rfl Q5.ent rfl rfl rfl rfl rfl rfl rfl rfl rfl g8 (by decide) rfl (fun m7 m8 => ?_); refine At.HO.back (.c (.s (.s .z)) (.c (.s (.s .z)) (.c (.s (.s .z)) (.c (.s (.s .z)) (.c (.s (.s .z)) (.c (.s (.s .z)) .n)))))) ?_; refine At.H.pw 12 rfl rfl rfl rfl rfl (.c (.s (.s .z)) (.c (.s (.s .z)) (.c (.s (.s .z)) (.c (.s (.s .z)) (.c (.s (.s .z)) (.c (.s (.s .z)) .n)))))) ?_; refine At.H.pw 13 rfl rfl rfl rfl rfl (.c (.s (.s .z)) (.c (.s (.s .z)) (.c (.s (.s .z)) (.c (.s (.s .z)) (.c (.s (.s .z)) (.c (.s (.s .z)) .n)))))) ?_; refine At.H.pw 14 rfl rfl rfl rfl rfl (.c (.s (.s .z)) (.c (.s (.s .z)) (.c (.s (.s .z)) (.c (.s (.s .z)) (.c (.s (.s .z)) (.c (.s (.s .z)) .n)))))) ?_; refine At.H.al [15] (Q7 ?_ Q8)
            ··refine At.HO.op rfl ?_
              refine At.store rfl rfl rfl rfl (.s .z) rfl rfl rfl (.s (.s (.s (.s (.s (.c .n)))))) ?_; refine At.HO.back (.c (.s (.s .z)) (.c (.s (.s .z)) (.c (.s (.s .z)) (.c (.s (.s .z)) (.c (.s (.s .z)) (.c (.s (.s .z)) .n)))))) ?_; refine At.H.done (by kernel_rfl) ?_; exact At.of (g9 (m7, m8) trivial) trivial
   ·clear a6 d5; rintro d5 ⟨E, d7, a9, m9, a3, a4, b2, h0, n2, h1⟩ ⟨a6, n4, d9, n5, e1⟩; obtain rfl : E.length = m9 := n4; obtain rfl : a9.length = n2 := n5; obtain ⟨n6, f_, n7, hf_, j⟩ := bit a6; clear a6; have j : (Q46.l0b I q u p C U E d7 a9).bind _ = some a5 := j; unfold Q46.l0b at j
    ·refine At.seq (sR 3 rfl (At.y (Y.load rfl rfl (.s (.s .z)) rfl rfl rfl) rfl rfl rfl ?_)); refine At.y (Y.eqOpt (.s .z) rfl rfl rfl rfl) rfl rfl rfl ?_; refine At.run 1 rfl ?_; obtain ⟨n8, n9, s5, j⟩ := bjoin j; let o0 : HProp := pc b0 [.slice h0 a9.length h1, optp b2, i6 I, .slice A0_3 q.length c0_3, .slice A0_4 u.length c0_4, .slice A0_5 p.length c0_5, .slice A0_6 C.length c0_6, .map (some b0_7)] 113; refine At.joinO 4 (X := Bool) (fun b3 => [(0, bp b0), (2, bp V), (3, .slice a3 E.length a4), (45, .bool b3)]) (fun b3 => o0 :: optb (Ow.fl Q6.fl) 121 b2 d7 :: Z :: a0 :: a7 :: a1 :: a2 :: row (Fl.int .i64) 3 a3 E.length a4 E :: J :: Fr) (fun b3 => n8 (.inl b3) = some a5) ?_ (fun h2 => ?_)
     ·rintro b3 j; have j := (n9 _).symm.trans j
      ·refine nT ?_; rcases bite j with ⟨e2, j⟩ | ⟨e2, j⟩
       ··refine At.condT rfl e2 ?_
         refine At.skip (At.thn ?_); refine At.block ?_; refine sR 1 rfl ?_; obtain ⟨G, o7, j⟩ := bbind j; refine At.call rfl Q101.callee rfl rfl rfl (Q101.spec b2 d9 rfl e1 rfl rfl rfl rfl o7) ?_; rintro _ _ ⟨c6, e3, s6, e4, rfl, rfl, h3, rfl, h4⟩; refine At.run 3 rfl ?_; refine At.alloc rfl rfl rfl (fun h5 => ?_); refine At.store rfl rfl rfl rfl .z rfl rfl rfl (.c (.c (.c (.c .n)))) ?_; refine At.run 1 rfl (nT (At.seq (sR 3 rfl (At.y (Y.load rfl rfl (.s (.s .z)) rfl rfl rfl) rfl rfl rfl ?_)))); refine At.y (Y.eqOpt (.s .z) rfl rfl rfl rfl) rfl rfl rfl ?_; refine At.run 1 rfl ?_; obtain ⟨o8, o9, s7, j⟩ := bjoin j; let h6 : HProp := pc h5 [i6 G.2.2.2.1, i6 G.2.2.2.2.1, .string ⟨(G.2.2.2.2.2.1).toArray⟩, i6 G.2.2.2.2.2.2] 115; let p0 : HProp := pc b0 [.slice e3 G.2.1.length e4, optp c6, i6 I, .slice A0_3 q.length c0_3, .slice A0_4 u.length c0_4, .slice A0_5 p.length c0_5, .slice A0_6 C.length c0_6, .map (some b0_7)] 113; refine At.joinO 4 (X := Bool) (fun b4 => [(0, bp b0), (2, bp V), (3, .slice a3 E.length a4), (4, bp h5), (5, i6 G.2.2.1), (60, .bool b4)]) (fun b4 => row (Fl.int .i64) 3 a3 E.length a4 E :: h6 :: optb (Ow.fl Q6.fl) 121 c6 G.1 :: p0 :: Z :: a0 :: a7 :: a1 :: a2 :: J :: Fr) (fun b4 => o8 (.inl b4) = some a5) ?_ (fun h7 => ?_)
         ·rintro b4 j; have j := (o9 _).symm.trans j
          ·refine nT ?_; obtain ⟨p1, p2, s8, j⟩ := bjoin j; refine At.join (X := (Option Q6) × (Option Nat)) (fun s_ => [(0, bp b0), (2, bp V), (3, .slice a3 E.length a4), (5, i6 G.2.2.1)]) (fun s_ => optb (Ow.fl Q6.fl) 121 s_.2 s_.1 :: pc b0 [.slice e3 G.2.1.length e4, optp s_.2, i6 I, .slice A0_3 q.length c0_3, .slice A0_4 u.length c0_4, .slice A0_5 p.length c0_5, .slice A0_6 C.length c0_6, .map (some b0_7)] 113 :: Z :: a0 :: a7 :: a1 :: a2 :: row (Fl.int .i64) 3 a3 E.length a4 E :: h6 :: J :: Fr) (fun s_ => p1 (.inl s_.1) = some a5) ?_ (fun h8 => ?_)
           ·rintro ⟨p3, p4⟩ j; have j := (p2 _).symm.trans j
            ·refine At.region (At.run 2 rfl ?_); refine At.lit rfl (xo := [.tmp 65]) (ys := ([G.2.2.1] : List Int)) (Fl.int .i64) rfl rfl rfl rfl rfl rfl rfl rfl rfl rfl rfl (fun s9 t0 => ?_); obtain ⟨p5, j⟩ := bnone j; refine At.append rfl (.s (.s (.s (.s (.s (.s (.s (.s .z)))))))) (Src.own .z (by simp)) rfl rfl rfl rfl rfl rfl rfl rfl p5 (by decide) rfl (fun p6 p7 => ?_); refine At.drop (.s .z) (At.run 1 rfl (At.nil ?_)); refine At.ibn ?_; refine At.drop (.s (.s (.s (.s (.s (.s (.s (.s .z)))))))) ?_; have j := bnx hf_ j; exact fun a w e hs => ⟨n6, ((E ++ ([G.2.2.1] : List Int)), p3, G.2.1, (E ++ ([G.2.2.1] : List Int)).length, p6, p7, p4, e3, G.2.1.length, e4), n7, ⟨j, rfl, h3, rfl, h4⟩, e.sub ⟨rfl, rfl, rfl, trivial⟩, hs⟩
           ··rcases bite j with ⟨e5, j⟩ | ⟨e5, j⟩
             ··refine At.condT rfl e5 ?_
               refine At.region (At.run 1 rfl (At.y (Y.load rfl rfl (.s .z) rfl rfl rfl) rfl rfl rfl (At.f8 (At.f8 (At.f8 (At.f8 (At.f8 ?_))))))); refine At.f7 (At.f8 ?_); obtain ⟨p8, p9, j⟩ := bbind j; refine At.call rfl Q18.callee rfl rfl rfl (Q18.spec c6 h3 rfl h4 rfl rfl rfl rfl p9) ?_; rintro _ _ ⟨q0, rfl, rfl⟩; refine nT ?_; exact fun a w e hs => h8 (p8, q0) j a w (e.sub ⟨rfl, rfl, rfl, rfl, trivial⟩) hs
             ··refine At.condF rfl (bn e5) ?_
               refine At.skip (At.thn (At.f9 (At.f2 (At.f2 (At.f9 (At.f9 (At.f9 ?_))))))); refine At.f9 (At.f9 (At.f9 (At.f9 ?_))); exact fun a w e hs => h8 (G.1, c6) j a w (e.sub ⟨rfl, rfl, rfl, rfl, trivial⟩) hs
         ··rcases bite j with ⟨e6, j⟩ | ⟨e6, j⟩
           ··refine At.know (t := 56) rfl e6 ?_
             refine At.run 2 rfl ?_; refine At.freeze (.s (.s (.s (.s (.s (.s (.s (.s .z)))))))) fun t1 q1 q2 q3 t3 q4 => ?_; obtain ⟨q5, q6, j⟩ := bbind j; refine At.call rfl Q155.callee rfl rfl rfl (Q155.spec q1 q2 q3 q6) ?_; rintro _ _ ⟨rfl, rfl⟩; refine At.run 1 rfl ?_; refine At.thaw q4 ?_; exact At.of (h7 q5 j) ⟨rfl, rfl, rfl, rfl, rfl, rfl, trivial⟩
           ··refine At.know (t := 56) rfl (bn e6) ?_
             refine At.run 4 rfl (At.f9 (At.f8 (At.f8 (At.f8 (At.f8 (At.f8 (At.f8 ?_))))))); refine At.f8 (At.f8 (At.f9 ?_)); exact At.of (h7 false j) ⟨rfl, rfl, rfl, rfl, rfl, rfl, trivial⟩
       ··refine At.condF rfl (bn e2) ?_
         refine At.exit ?_; refine At.the ?_; refine At.the ?_; exact fun a w e hs => k9 (d7, E, a9, b2, E.length, a3, a4, h0, a9.length, h1) ⟨(bdn j k8), rfl, d9, rfl, e1⟩ a w (e.sub ⟨rfl, rfl, rfl, trivial⟩) hs
     ··rcases bite j with ⟨e7, j⟩ | ⟨e7, j⟩
       ··refine At.know (t := 41) rfl e7 ?_
         refine At.run 1 rfl (At.f7 (At.f7 (At.f7 (At.f7 (At.f7 (At.f6 (At.f7 ?_))))))); obtain ⟨q7, q8, j⟩ := bbind j; refine At.call rfl Q121.callee rfl rfl rfl (Q121.spec b2 d9 rfl e1 rfl rfl rfl rfl q8) ?_; rintro _ _ ⟨rfl, rfl⟩; refine At.run 2 rfl ?_; exact At.of (h2 (!q7) j) ⟨rfl, rfl, rfl, rfl, trivial⟩
       ··refine At.know (t := 41) rfl (bn e7) ?_
         refine At.run 4 rfl (At.f8 (At.f1 (At.f8 (At.f8 (At.f8 (At.f8 (At.f8 ?_))))))); refine At.f7 (At.f8 ?_); exact At.of (h2 false j) ⟨rfl, rfl, rfl, rfl, trivial⟩
 ··refine At.block ?_
   refine sR 3 rfl (At.y (Y.load rfl rfl (.s (.s .z)) rfl rfl rfl) rfl rfl rfl ?_); refine At.y (Y.neOpt (.s .z) rfl rfl rfl rfl) rfl rfl rfl ?_; refine At.run 1 rfl (nT ?_); rcases bite j with ⟨e8, j⟩ | ⟨e8, j⟩
   ··refine At.condF rfl (nf e8) ?_
     refine sR 4 rfl (At.y (Y.load rfl rfl (.s (.s .z)) rfl rfl rfl) rfl rfl rfl (At.run 3 rfl (nT ?_))); rcases bite j with ⟨e9, j⟩ | ⟨e9, j⟩
     ··refine At.condT rfl (decide_eq_true e9) ?_
       refine At.region (At.run 1 rfl (At.y (Y.load rfl rfl .z rfl rfl rfl) rfl rfl rfl (At.f7 (At.f7 (At.f7 (At.f7 (At.f7 ?_))))))); refine At.f6 (At.f7 ?_); obtain ⟨q9, r0, j⟩ := bbind j; refine At.call rfl Q18.callee rfl rfl rfl (Q18.spec b5 b6 rfl b7 rfl rfl rfl rfl r0) ?_; rintro _ _ ⟨r1, rfl, rfl⟩; refine At.nil ?_; refine At.ibn ?_; refine At.thn ?_; exact fun a w e hs => d3 (q9, r1) j a w (e.sub ⟨rfl, rfl, trivial⟩) hs
     ··refine At.condF rfl (decide_eq_false e9) ?_
       refine sR 4 rfl (At.y (Y.load rfl rfl (.s (.s .z)) rfl rfl rfl) rfl rfl rfl (At.run 1 rfl ?_)); refine At.freezeGrow (.s (.s (.s (.s (.s .z))))) fun t4 r2 r3 r4 t5 h9 => ?_; obtain ⟨t6, r5, j⟩ := bbind j; refine At.call rfl Q142.callee rfl rfl rfl (Q142.spec r2 r3 r4 r5) ?_; rintro _ _ ⟨rfl, rfl⟩; refine At.run 1 rfl (nT ?_); rcases bite j with ⟨f0, j⟩ | ⟨f0, j⟩
       ··refine At.condT rfl f0 ?_
         refine At.region (At.run 1 rfl (At.y (Y.load rfl rfl .z rfl rfl rfl) rfl rfl rfl ?_)); refine At.thaw h9 ?_; refine At.f7 (At.f7 (At.f2 (At.f7 (At.f7 (At.f6 (At.f7 ?_)))))); obtain ⟨r6, r7, j⟩ := bbind j; refine At.call rfl Q18.callee rfl rfl rfl (Q18.spec b5 b6 rfl b7 rfl rfl rfl rfl r7) ?_; rintro _ _ ⟨r8, rfl, rfl⟩; refine At.nil ?_; refine At.ibn ?_; refine At.thn ?_; exact fun a w e hs => d3 (r6, r8) j a w (e.sub ⟨rfl, rfl, trivial⟩) hs
       ··refine At.condF rfl (bn f0) ?_
         refine At.skip ?_; refine At.ibn ?_; refine At.thn ?_; refine At.thaw h9 ?_; refine At.f1 (At.f7 (At.f7 (At.f3 (At.f7 (At.f7 (At.f7 (At.f7 ?_))))))); exact fun a w e hs => d3 (D.1, b5) j a w (e.sub ⟨rfl, rfl, trivial⟩) hs
   ··refine At.condT rfl (nt (bn e8)) ?_
     refine At.ret ?_; refine At.ibr ?_; have j := bup k3 j; refine At.thr (At.drop .z ?_); obtain rfl := (bret j).symm; exact At.res (.inl rfl) rfl rfl ⟨p.length, A0_5, c0_5, b5, d1, D.2.1.length, d2, rfl, rfl, rfl, b6, rfl, b7⟩

noncomputable def Q85.f (a0 : List Bs) : Option (List Bs) := if a0.length < 4611686018427387904 then some (a0.mergeSort fun x y => decide (x ≤ y)) else none
theorem Q85.callee : Callee Tryz.prog 119 := ⟨_, Tryz.func119, by kernel_rfl, by kernel_rfl⟩
theorem Q85.spec {a0 : List Bs} (hn0 : a0.length = n0) {r : List Bs} (j : Q85.f a0 = some r) :
 Spec Tryz.prog 119 [.slice A0 n0 c0] R (row Fl.bs 9 A0 n0 c0 a0 :: Fr) (fun v l' => v = .tuple #[] ∧ row Fl.bs 9 A0 n0 c0 r :: Fr = l') := by
 unfold Q85.f at j; split at j
 ·rename_i hb; cases j; exact Q326 Tryz.sort119 R Fr hb
 ·cases j

noncomputable def Q62.l0b (a0 : List Bs) (a1 : Bs) (p : Int) : Option ((Int) ⊕ ((Unit) ⊕ (Int))) :=
 if p < (a0.length : Int) then
 if (0 : Int) ≤ p ∧ p < (a0.length : Int) then
 if bseq a1 (gt a0 p) = true then
 upL (some p)
 else
 nx (IntKind.i64.wrap (p + 1))
 else none
 else
 dn (.inl ())
noncomputable def Q62.l0 (a0 : List Bs) (a1 : Bs) (p : Int) : Option ((Unit) ⊕ (Int)) := iter (fun t_ : Int => Q62.l0b a0 a1 t_) p
noncomputable def Q62.f (a0 : List Bs) (a1 : Bs) : Option Int :=
 jn (Q62.l0 a0 a1 0) (fun (_ : Unit) =>
 some (-1))
theorem Q62.callee : Callee Tryz.prog 120 := ⟨_, Tryz.func120, by kernel_rfl, by kernel_rfl⟩
theorem Q62.spec {a0 : List Bs} {a1 : Bs} (hr0 : RdS Fl.bs.rep R.heap A0 a0) (hn0 : a0.length = n0) (hc0 : n0 ≤ c0) {r : Int} (j : Q62.f a0 a1 = some r) :
 Spec Tryz.prog 120 [.slice A0 n0 c0, .string ⟨(a1).toArray⟩] R (Fr) (fun v l' => v = i6 r ∧ Fr = l') := by
 subst hn0; refine Spec.of Tryz.func120 rfl rfl ?_; unfold Q62.f at j; have j := brun j; refine sR 1 rfl (nT (At.seq (At.seq (At.region ?_)))); refine At.run 3 rfl (nT ?_); refine At.block ?_; obtain ⟨V, Z, a2, j⟩ := bjoin j; obtain ⟨J, D, U⟩ := bsome j; clear j; unfold Q62.l0 at D; obtain ⟨E, u⟩ := Q15.1 D; clear D; refine At.loopJ (X := Int) (Y := Unit) (e0 := 0) (fun p => [(0, .slice A0 a0.length c0), (1, .string ⟨(a1).toArray⟩), (7, i6 (a0.length : Int)), (8, i6 p)]) (fun p => Fr) (fun m_ => fun p => iterN (fun t_ : Int => Q62.l0b a0 a1 t_) m_ p = some J) E 0 u (fun _ => []) (fun _ => Fr) (fun _ => V (.inl ()) = some r) (fun a w e hs => ⟨e.sub ⟨rfl, rfl, rfl, rfl, trivial⟩, (by exact hs)⟩) ?_ (fun a3 => ?_)
 ·rintro _ j; have j := (Z _).symm.trans j
  ·refine At.ibx ?_; refine At.thn (sR 1 rfl (nT (At.ret ?_))); cases bret j; exact At.res (.inl rfl) rfl rfl ⟨rfl, rfl⟩
 ·clear u E; rintro E p u; obtain ⟨a4, f_, a5, hf_, j⟩ := bit u; clear u; have j : (Q62.l0b a0 a1 p).bind _ = some J := j; unfold Q62.l0b at j
  ·refine sR 1 rfl (nT (At.seq ?_)); rcases bite j with ⟨G, j⟩ | ⟨G, j⟩
   ··refine At.condT rfl (decide_eq_true G) ?_
     refine At.skip (At.thn (At.seq ?_)); refine At.block ?_; refine sR 2 rfl (nT (sR 3 rfl ?_)); obtain ⟨C, j⟩ := bnone j; refine At.y (Y.ixRd hr0 rfl rfl rfl rfl rfl rfl rfl C.1 C.2) rfl rfl rfl (At.y (Y.ldFl hr0 rfl (q := 0) rfl rfl C.1 C.2 rfl rfl rfl) rfl rfl rfl (At.run 1 rfl (nT ?_))); rcases bite j with ⟨I, j⟩ | ⟨I, j⟩
     ··refine At.condT rfl I ?_
       refine sR 2 rfl (nT (At.ret ?_)); refine At.ibr ?_; refine At.thr ?_; have j := bupL a2 U j; refine At.thr ?_; refine At.ibr ?_; refine At.thr ?_; cases bret j; exact At.res (.inl rfl) rfl rfl ⟨rfl, rfl⟩
     ··refine At.condF rfl (bn I) ?_
       refine At.skip ?_; refine At.ibn ?_; refine At.thn (At.region (At.run 2 rfl (At.nil ?_))); have j := bnx hf_ j; exact fun a w e hs => ⟨a4, (IntKind.i64.wrap (p + 1)), a5, j, e.sub ⟨rfl, rfl, rfl, rfl, trivial⟩, hs⟩
   ··refine At.condF rfl (decide_eq_false G) ?_
     refine At.exit ?_; refine At.the ?_; refine At.the ?_; exact fun a w e hs => a3 () (bdn j U) a w (e.sub trivial) hs

noncomputable def Q44.cmp (x y : Q3) : Option Int := Q108.f x.From x.Action x.To y.From y.Action y.To
open Classical in
noncomputable def Q44.f (a0 : List Q3) : Option (List Q3) := if a0.length < 4611686018427387904 ∧ CmpTot Q44.cmp then some (byCmp Q44.cmp a0) else none
theorem Q44.callee : Callee Tryz.prog 121 := ⟨_, Tryz.func121, by kernel_rfl, by kernel_rfl⟩
theorem Q44.spec {a0 : List Q3} (hn0 : a0.length = n0) {r : List Q3} (j : Q44.f a0 = some r) :
 Spec Tryz.prog 121 [.slice A0 n0 c0, .func (.func 77) #[] #[]] R (row Q3.fl 48 A0 n0 c0 a0 :: Fr) (fun v l' => v = .tuple #[] ∧ row Q3.fl 48 A0 n0 c0 r :: Fr = l') := by
 unfold Q44.f at j; split at j
 ·rename_i hb; cases j; refine Q320 Tryz.sort121 Q3.fl (fun w => (Q13 (P := Tryz.prog) (t := 48) (i := Tryz.ti48) rfl).run_isAgg w) (fun w => (Q13 (P := Tryz.prog) (t := 48) (i := Tryz.ti48) rfl).run_sizeOf w) (gcf Q44.cmp) hb.2.1.2 hb.2.2 77 (enters_of Tryz.func77 (by kernel_rfl) rfl) (fun R x y => Q108.spec (gcf_eq hb.2.1 x y)) R Fr hb.1
 ·cases j

noncomputable def Q47.cmp (x y : Q5) : Option Int := Q116.f x.Name x.States y.Name y.States
open Classical in
noncomputable def Q47.f (a0 : List Q5) : Option (List Q5) := if a0.length < 4611686018427387904 ∧ CmpSwo Q47.cmp ∧ CmpParts Q47.cmp a0 then some (byCmp Q47.cmp a0) else none
theorem Q47.callee : Callee Tryz.prog 122 := ⟨_, Tryz.func122, by kernel_rfl, by kernel_rfl⟩
theorem Q47.spec {a0 : List Q5} (hn0 : a0.length = n0) {r : List Q5} (j : Q47.f a0 = some r) :
 Spec Tryz.prog 122 [.slice A0 n0 c0, .func (.func 81) #[] #[]] R (grow Q5.ow 41 A0 n0 c0 a0 :: Fr) (fun v l' => v = .tuple #[] ∧ grow Q5.ow 41 A0 n0 c0 r :: Fr = l') := by
 unfold Q47.f at j; split at j
 ·rename_i hb; cases j; refine Q322 Tryz.sort122 Q5.ow (fun w => (Q13 (P := Tryz.prog) (t := 41) (i := Tryz.ti41) rfl).run_isAgg w) (fun w => (Q13 (P := Tryz.prog) (t := 41) (i := Tryz.ti41) rfl).run_sizeOf w) (gcf Q47.cmp) hb.2.1.2 81 (enters_of Tryz.func81 (by kernel_rfl) rfl) ?_ R Fr hb.1 hb.2.2; rintro R x y cs cs' ⟨_, _, rfl, rfl, ⟨_, _, rfl, hc0_1, hr0_1⟩⟩ ⟨_, _, rfl, rfl, ⟨_, _, rfl, hc1_1, hr1_1⟩⟩; exact Q116.spec hr0_1 rfl hc0_1 hr1_1 rfl hc1_1 (gcf_eq hb.2.1 x y)
 ·cases j

end Go.Bw
namespace Go.Bw
open Go Go.RowKit

noncomputable def anyOrder {α β : Type} (xs : List α) (F : List α → Option β) : Option β :=
 open Classical in if h : ∃ r, ∀ ys, ys.Perm xs → F ys = some r then some h.choose else none
theorem Q240 {α β : Type} {xs : List α} {F : List α → Option β} {r : β} : anyOrder xs F = some r ↔ ∀ ys, ys.Perm xs → F ys = some r := by
 unfold anyOrder
 constructor
 ·intro h
  split at h
  ·rename_i hx
   have := Option.some.inj h
   intro ys hy
   rw [← this]
   exact hx.choose_spec ys hy
  ·cases h
 ·intro h
  have hx : ∃ r, ∀ ys, ys.Perm xs → F ys = some r := ⟨r, h⟩
  rw [dif_pos hx]
  have h1 := hx.choose_spec xs (List.Perm.refl _)
  rw [h xs (List.Perm.refl _)] at h1
  exact h1.symm
theorem banyOrder {α β ω : Type} {xs : List α} {F : List α → Option β} {G : β → Option ω} {r : ω} (h : (anyOrder xs F).bind G = some r) : ∀ ys, ys.Perm xs → (F ys).bind G = some r := by
 obtain ⟨t, h1, h2⟩ := bsome h
 intro ys hy
 rw [Q240.1 h1 ys hy]
 exact h2
def foldO {σ α : Type} (step : σ → α → Option σ) : σ → List α → Option σ
 | s, [] => some s
 | s, x :: xs => (step s x).bind fun t => foldO step t xs
theorem Q232 {σ α : Type} {step : σ → α → Option σ} : ∀ {xs ys : List α} {s : σ}, foldO step s (xs ++ ys) = (foldO step s xs).bind fun t => foldO step t ys
 | [], _, _ => rfl
 | x :: xs, ys, s => by
  show (step s x).bind _ = ((step s x).bind _).bind _
  cases step s x with
  | none => rfl
  | some t => exact Q232 (xs := xs)
theorem foldO_go {σ α ω : Type} {step : σ → α → Option σ} {kvs : List α} {done rest : List α} {x : α} {s0 s : σ} {G : σ → Option ω} {r : ω} (h : ∀ ys, ys.Perm kvs → (foldO step s0 ys).bind G = some r) (hs : foldO step s0 done = some s) (hp : (done ++ x :: rest).Perm kvs) :
 ∃ t, step s x = some t ∧ foldO step s0 (done ++ [x]) = some t := by
 have := h _ hp
 rw [Q232, hs] at this
 obtain ⟨u, h1, _⟩ := bsome this
 obtain ⟨t, h2, _⟩ := bsome (show (step s x).bind (fun t => foldO step t rest) = some u from h1)
 refine ⟨t, h2, ?_⟩
 rw [Q232, hs]
 show (step s x).bind (fun t => foldO step t []) = _
 rw [h2]
 rfl
theorem foldO_end {σ α ω : Type} {step : σ → α → Option σ} {kvs : List α} {done : List α} {s0 s : σ} {G : σ → Option ω} {r : ω} (h : ∀ ys, ys.Perm kvs → (foldO step s0 ys).bind G = some r) (hs : foldO step s0 done = some s) (hp : done.Perm kvs) : G s = some r := by
 have := h _ hp
 rw [hs] at this
 exact this
noncomputable def ordered {σ τ α β : Type} (kvs : List α) (step : σ → α → Option σ) (s0 : σ) (out : σ → τ) (f : τ → Option β) : Option β := anyOrder kvs fun ys => (foldO step s0 ys).bind fun s => f (out s)
theorem bordered {σ τ α β ω : Type} {kvs : List α} {step : σ → α → Option σ} {s0 : σ} {out : σ → τ} {f : τ → Option β} {G0 : β → Option ω} {r : ω} (h : (ordered kvs step s0 out f).bind G0 = some r) :
 ∃ G : τ → Option ω, (∀ y, G y = (f y).bind G0) ∧ ∀ ys, ys.Perm kvs → (foldO step s0 ys).bind (fun s => G (out s)) = some r :=
 ⟨fun y => (f y).bind G0, fun _ => rfl, fun ys hy => by
  have := banyOrder h ys hy
  rwa [Option.bind_assoc] at this⟩
theorem rng_lt {α : Type} {kvs done tl : List α} {z : α} {m : Nat} (hp : (done ++ z :: tl).Perm kvs) (hm : m + done.length = kvs.length) : tl.length < m ∧ tl.length + (done ++ [z]).length = kvs.length := by
 have := hp.length_eq
 simp at this ⊢
 omega
theorem Q236 {α : Type} (xs : List α) : (List.range xs.length).filterMap (fun i => xs[i]?) = xs := by
 induction xs with
 | nil => rfl
 | cons x xs ih =>
  rw [List.length_cons, List.range_succ_eq_map, List.filterMap_cons, List.filterMap_map]
  simp only [List.getElem?_cons_zero, Function.comp_def, List.getElem?_cons_succ]
  rw [ih]
theorem Q294 {α : Type} {xs done : List α} {is : List Nat} (hd : done.map some = is.map fun i => xs[i]?) : done = is.filterMap fun i => xs[i]? := by
 induction is generalizing done with
 | nil => cases done <;> simp at hd ⊢
 | cons i is ih =>
  cases done with
  | nil => simp at hd
  | cons x done =>
   simp only [List.map_cons, List.cons.injEq] at hd
   rw [List.filterMap_cons, ← hd.1, ← ih hd.2]
theorem idx_perm {α : Type} {xs done : List α} {is : List Nat} (hn : is.Nodup) (hl : ∀ i ∈ is, i < xs.length) (hd : done.map some = is.map fun i => xs[i]?) : ∃ rest, (done ++ rest).Perm xs := by
 refine ⟨((List.range xs.length).filter fun i => !is.contains i).filterMap fun i => xs[i]?, ?_⟩
 rw [Q294 hd, ← List.filterMap_append]
 have hp : (is ++ (List.range xs.length).filter fun i => !is.contains i).Perm (List.range xs.length) := by
  refine (List.perm_ext_iff_of_nodup ?_ List.nodup_range).2 fun a => ?_
  ·rw [List.nodup_append]
   refine ⟨hn, List.nodup_range.filter _, fun a ha b hb hab => ?_⟩
   subst hab
   simp at hb
   exact hb.2 ha
  ·simp only [List.mem_append, List.mem_filter, List.mem_range]
   constructor
   ·rintro (h | h)
    ·exact hl a h
    ·exact h.1
   ·intro h
    by_cases ha : a ∈ is
    ·exact .inl ha
    ·exact .inr ⟨h, by simpa using ha⟩
 have := hp.filterMap fun i => xs[i]?
 rwa [Q236] at this
theorem idx_full {α : Type} {xs done : List α} {is : List Nat} (hn : is.Nodup) (hl : ∀ i ∈ is, i < xs.length) (hf : ∀ i < xs.length, i ∈ is) (hd : done.map some = is.map fun i => xs[i]?) : done.Perm xs := by
 rw [Q294 hd]
 have hp : is.Perm (List.range xs.length) := (List.perm_ext_iff_of_nodup hn List.nodup_range).2 fun a => by
  rw [List.mem_range]
  exact ⟨hl a, hf a⟩
 have := hp.filterMap fun i => xs[i]?
 rwa [Q236] at this
section
variable {κ ν : Type}
def rngo (kv : κ → Value) (vv : ν → Value) (b r : Nat) (kvs done : List (κ × ν)) : HProp := fun h =>
 ∃ (es : List MapEntry) (clock since stp : Nat) (seen : Array Nat) (is : List Nat), h b = some (.map es.toArray clock) ∧ h r = some (.mapIter (some b) since seen stp) ∧ b ≠ r ∧
  es.map (fun e => (e.key, e.val)) = kvs.map (fun p => (kv p.1, vv p.2)) ∧ es.Pairwise (fun x y => x.born < y.born) ∧ (∀ e ∈ es, e.born < clock) ∧ since = clock ∧ stp = clock ∧
  is.Nodup ∧ (∀ i ∈ is, i < kvs.length) ∧ (done.map some = is.map fun i => kvs[i]?) ∧ seen.toList.map some = is.map fun i => es[i]?.map (·.born)
end
section
variable {P : Program} [Tys P] {os : List Oper} {Q : Exit → Act → World → Prop} {rest : List Oper} {n : Nat} {ds : List Deferred} {R : Res} {env : List (Nat × Value)} {l l' : List HProp}
variable {d ty t : Nat} {pos : String} {af : Array Edge} {g : Option (Nat × Bool)} {κ ν : Type} [DecidableEq κ] {kv : κ → Value} {vv : ν → Value} {kvs done : List (κ × ν)} {b r kt et : Nat} {K : Act → World → Prop}
theorem At.rangeMap {x : Operand} {ii : TI} (f : Frt l (mapo kv vv b kvs) l') (hg : grd os env g = some true) (hi : ti P t = some ii) (hk : ii.k = .map kt et) (hx : ev env x = some (.map (some b))) (hd : Nat.blt d n = true)
 (h : ∀ r, At n ds R ((d, .pointer (some ⟨r, 0, none⟩)) :: env) (rngo kv vv b r kvs [] :: l') (wpList P os.toArray Q rest)) :
 At n ds R env l (wpList P os.toArray Q (⟨some d, .range t x, ty, pos, af, g⟩ :: rest)) := Q88 hg rfl hd fun a w e hs => by
 have hs1 := hs.frt f
 obtain ⟨es, clock, hb, _⟩ := Q191 hs1
 have hgo : (getObj b).run P w = .ok (.map es.toArray clock) w := MapKept.run_getObj_map hb
 have h1 := hs1.alloc (.mapIter (some b) clock #[] clock)
 refine ⟨_, w.alloc (.mapIter (some b) clock #[] clock), rngo kv vv b w.heap.size kvs [] :: l', ?_, ?_, h w.heap.size⟩
 ·simp [execOp, Instr.range, e.ev hx, run_underlying ((Q13 hi).map hk), hgo, Result.andThen]
 ·obtain ⟨ok, h0, ⟨k1, k2, p1, ⟨k3, k4, m1, st, d2, s3, s4⟩, d1, s1, s2⟩, dR, ss⟩ := h1
  have d13 : Disj k1 k3 := d1.sub (Sub.refl _) s3
  refine ⟨ok, h0, ⟨uni k1 k3, k4, ?_, st, Disj.uni_l (d1.sub (Sub.refl _) s4) d2, Q117 s1 (s3.trans s2), s4.trans s2⟩, dR, ss⟩
  obtain ⟨es', clock', hb', hm, hp, hc⟩ := m1
  have hne : b ≠ w.heap.size := fun e => by subst e; exact d13 _ _ _ p1 hb'
  have hbb : w.heap[b]? = some (.map es.toArray clock) := hb
  have heq : Obj.map es'.toArray clock' = .map es.toArray clock := by
   have h5 : (w.alloc (.mapIter (some b) clock #[] clock)).heap[b]? = some (.map es'.toArray clock') := ss _ _ (s2 _ _ (s3 _ _ hb'))
   rw [Below.heap_alloc _ _ _ (Array.getElem?_eq_some_iff.1 hb).1, hbb] at h5
   exact (Option.some.inj h5).symm
  cases heq
  exact ⟨es, clock, clock, clock, #[], [], Q80 d13 _ _ hb', Q95 k1 k3 _ _ p1, hne, hm, hp, hc, rfl, rfl, List.nodup_nil, by simp, by simp, by simp⟩
theorem sat_rng {w : World} (hs : sat R (rngo kv vv b r kvs done :: l) w) : ∃ (es : List MapEntry) (clock : Nat) (seen : Array Nat) (is : List Nat), w.heap[b]? = some (.map es.toArray clock) ∧ w.heap[r]? = some (.mapIter (some b) clock seen clock) ∧ b ≠ r ∧
 es.map (fun e => (e.key, e.val)) = kvs.map (fun p => (kv p.1, vv p.2)) ∧ es.Pairwise (fun x y => x.born < y.born) ∧ (∀ e ∈ es, e.born < clock) ∧
 is.Nodup ∧ (∀ i ∈ is, i < kvs.length) ∧ (done.map some = is.map fun i => kvs[i]?) ∧ seen.toList.map some = is.map fun i => es[i]?.map (·.born) := by
 obtain ⟨h1, ⟨es, clock, since, stp, seen, is, a1, a2, a3, a4, a5, a6, rfl, rfl, a7⟩, s⟩ := hs.head
 exact ⟨es, _, seen, is, s _ _ a1, s _ _ a2, a3, a4, a5, a6, a7⟩
theorem At.nextMap {x : Operand} (hg : grd os env g = some true) (hx : ev env x = some (.pointer (some ⟨r, 0, none⟩))) (f : Frt l (rngo kv vv b r kvs done) l') (hd : Nat.blt d n = true)
 (hF : done.Perm kvs → At n ds R ((d, .tuple #[.bool false]) :: env) (rngo kv vv b r kvs done :: l') (wpList P os.toArray Q rest))
 (hT : ∀ (z : κ × ν) tl, (done ++ z :: tl).Perm kvs → At n ds R ((d, .tuple #[.bool true, kv z.1, vv z.2]) :: env) (rngo kv vv b r kvs (done ++ [z]) :: l') (wpList P os.toArray Q rest)) :
 At n ds R env l (wpList P os.toArray Q (⟨some d, .next x false, ty, pos, af, g⟩ :: rest)) := Q88 hg rfl hd fun a w e hs => by
 have hs1 := hs.frt f
 obtain ⟨es, clock, seen, is, hb, hr, hne, hm, hbn, hcl, hn, hl, hdn, hsn⟩ := sat_rng hs1
 have hlen : es.length = kvs.length := Q199 hm
 have hinj : ∀ i j, i < es.length → j < es.length → es[i]?.map (·.born) = es[j]?.map (·.born) → i = j := fun i j hi hj he => by
  rw [List.getElem?_eq_getElem hi, List.getElem?_eq_getElem hj] at he
  simp at he
  have hp := List.pairwise_iff_getElem.1 hbn
  rcases Nat.lt_trichotomy i j with h3 | h3 | h3
  ·have := hp i j hi hj h3; omega
  ·exact h3
  ·have := hp j i hj hi h3; omega
 have hseen : ∀ i, i < es.length → (seen.contains (es[i]?.map (·.born)).get! = true ↔ i ∈ is) := fun i hi => by
  rw [List.getElem?_eq_getElem hi]
  simp only [Option.map_some, Option.get!_some]
  rw [Array.contains_iff_mem, ← Array.mem_toList_iff]
  constructor
  ·intro h
   have : some es[i].born ∈ seen.toList.map some := List.mem_map_of_mem h
   rw [hsn] at this
   obtain ⟨j, hj, hje⟩ := List.mem_map.1 this
   have := hinj j i (by rw [hlen]; exact hl j hj) hi (by rw [hje, List.getElem?_eq_getElem hi]; rfl)
   subst this; exact hj
  ·intro h
   have : es[i]?.map (·.born) ∈ seen.toList.map some := by rw [hsn]; exact List.mem_map_of_mem (f := fun i => es[i]?.map (·.born)) h
   obtain ⟨q, hq, hqe⟩ := List.mem_map.1 this
   rw [List.getElem?_eq_getElem hi] at hqe
   simp at hqe
   rw [← hqe]; exact hq
 rcases run_next_at (P := P) w ty r b clock clock seen es.toArray clock hr hb (fun x hx => hcl x (by simpa using hx)) (Nat.le_refl _) with ⟨h0, hrun⟩ | ⟨e1, he, w1, hal, hrun⟩
 ·refine ⟨.tuple #[.bool false], w, rngo kv vv b r kvs done :: l', ?_, hs1, hF ?_⟩
  ·simp only [execOp, e.ev hx, Sem.run_bind, hrun, Result.andThen, Sem.run_pure]
  ·refine idx_full hn hl (fun i hi => ?_) hdn
   have hi' : i < es.length := by omega
   have := all_seen es.toArray seen h0 es[i] (by simp)
   refine (hseen i hi').1 ?_
   rw [List.getElem?_eq_getElem hi']
   simpa using this
 ·obtain ⟨hem, hes⟩ := mem_left he
  have hem' : e1 ∈ es := by simpa using hem
  obtain ⟨i, hi, hie⟩ := List.getElem_of_mem hem'
  have hi' : i < kvs.length := by omega
  have hnot : i ∉ is := fun h => by
   have := (hseen i hi).2 h
   rw [List.getElem?_eq_getElem hi, hie] at this
   simp at this hes
   exact hes this
  have hkv : (e1.key, e1.val) = (kv kvs[i].1, vv kvs[i].2) := by
   have := congrArg (fun l => l[i]?) hm
   simp only [List.getElem?_map, List.getElem?_eq_getElem hi, List.getElem?_eq_getElem hi', Option.map_some, hie] at this
   exact Option.some.inj this
  obtain ⟨hk1, hk2⟩ := Prod.mk.inj hkv
  have hn' : (is ++ [i]).Nodup := by
   rw [List.nodup_append]
   exact ⟨hn, by simp, fun a ha c hc hac => by simp at hc; subst hc hac; exact hnot ha⟩
  have hl' : ∀ j ∈ is ++ [i], j < kvs.length := fun j hj => by
   rcases List.mem_append.1 hj with h | h
   ·exact hl j h
   ·simp at h; subst h; exact hi'
  have hdn' : (done ++ [kvs[i]]).map some = (is ++ [i]).map fun j => kvs[j]? := by
   rw [List.map_append, List.map_append, hdn]
   simp [hi']
  obtain ⟨tl, htl⟩ := idx_perm hn' hl' hdn'
  refine ⟨.tuple #[.bool true, kv kvs[i].1, vv kvs[i].2], ChangeMaps.setBlock w1 r (.mapIter (some b) clock (seen.push e1.born) clock), rngo kv vv b r kvs (done ++ [kvs[i]]) :: l', ?_, ?_, hT kvs[i] tl (by simpa using htl)⟩
  ·simp only [execOp, e.ev hx, Sem.run_bind, hrun, Result.andThen, Sem.run_pure, hk1, hk2]
  ·have hs2 : sat R (rngo kv vv b r kvs done :: l') w1 := by rcases hal with rfl | rfl <;> first | exact hs1 | exact hs1.drew
   have hb1 : w1.heap[b]? = some (.map es.toArray clock) := by rcases hal with rfl | rfl <;> exact hb
   have hr1 : w1.heap[r]? = some (.mapIter (some b) clock seen clock) := by rcases hal with rfl | rfl <;> exact hr
   obtain ⟨h1, ⟨es2, c2, s2, q2, seen2, is2, a1, a2, _⟩, s, kk⟩ := hs2.upd
   have hset := MapKept.heap_set (o' := .mapIter (some b) clock (seen.push e1.born) clock) hr1
   refine kk _ (fun x => if x = r then some (.mapIter (some b) clock (seen.push e1.born) clock) else h1 x) _ ⟨es, clock, clock, clock, seen.push e1.born, is ++ [i], ?_, if_pos rfl, hne, hm, hbn, hcl, rfl, rfl, hn', hl', hdn', ?_⟩ rfl rfl rfl (Nat.le_refl _) (fun x o hx hnn => ?_) (fun x o hx => ?_) (fun x o hx => ?_)
   ·show (if b = r then _ else h1 b) = _
    rw [if_neg hne]
    have := s _ _ a1
    simp only [wh] at this
    rw [hb1] at this
    rw [a1]; exact this.symm
   ·rw [Array.toList_push, List.map_append, hsn, List.map_append]
    simp [hi, hie]
   ·have hxr : x ≠ r := fun h => by subst h; rw [a2] at hnn; cases hnn
    show (w1.heap.setIfInBounds r _)[x]? = _
    rw [hset.2 x hxr]; exact hx
   ·by_cases hxr : x = r
    ·subst hxr
     have hx : (if x = x then some (Obj.mapIter (some b) clock (seen.push e1.born) clock) else h1 x) = some o := hx
     rw [if_pos rfl] at hx
     cases hx
     exact hset.1
    ·have hx : (if x = r then some (Obj.mapIter (some b) clock (seen.push e1.born) clock) else h1 x) = some o := hx
     rw [if_neg hxr] at hx
     show (w1.heap.setIfInBounds r _)[x]? = _
     rw [hset.2 x hxr]
     exact s x o hx
   ·by_cases hxr : x = r
    ·subst hxr; exact .inl ⟨_, a2⟩
    ·have hx : (if x = r then some (Obj.mapIter (some b) clock (seen.push e1.born) clock) else h1 x) = some o := hx
     rw [if_neg hxr] at hx; exact .inl ⟨o, hx⟩
theorem Y.entry {x : Operand} {z : κ × ν} {dd : Option Nat} (f : Frt l (rngo kv vv b r kvs (done ++ [z])) l') (hx : ev env x = some (.pointer (some ⟨r, 0, none⟩))) : Y P n ds R env l ⟨dd, .entry x, ty, pos, af, g⟩ (.tuple #[kv z.1, vv z.2]) := fun a w e hs => by
 have hs1 := hs.frt f
 obtain ⟨es, clock, seen, is, hb, hr, hne, hm, hbn, hcl, hn, hl, hdn, hsn⟩ := sat_rng hs1
 have hlen : es.length = kvs.length := Q199 hm
 rcases List.eq_nil_or_concat is with rfl | ⟨is0, i, rfl⟩
 ·simp at hdn
 ·rw [List.concat_eq_append] at *
  simp only [List.map_append, List.map_cons, List.map_nil] at hdn hsn
  have hi : i < kvs.length := hl i (by simp)
  have hie : i < es.length := by omega
  have hz : some z = kvs[i]? := by
   have := List.append_inj_right' hdn rfl
   simpa using this
  rw [List.getElem?_eq_getElem hi] at hz
  have hz' := Option.some.inj hz
  have hkv : (es[i].key, es[i].val) = (kv z.1, vv z.2) := by
   have := congrArg (fun l => l[i]?) hm
   simp only [List.getElem?_map, List.getElem?_eq_getElem hie, List.getElem?_eq_getElem hi, Option.map_some] at this
   rw [hz']
   exact Option.some.inj this
  obtain ⟨hk1, hk2⟩ := Prod.mk.inj hkv
  have hsz : seen.toList ≠ [] := fun h => by rw [h] at hsn; simp at hsn
  have hseen : ∃ s0 : Array Nat, seen = s0.push es[i].born := by
   refine ⟨⟨seen.toList.dropLast⟩, ?_⟩
   apply Array.ext'
   rw [Array.toList_push]
   show seen.toList = seen.toList.dropLast ++ [es[i].born]
   have h1 := List.dropLast_concat_getLast hsz
   have h2 : seen.toList.getLast hsz = es[i].born := by
    have h3 : (seen.toList.map some).getLast? = some (some es[i].born) := by rw [hsn]; simp [hie]
    rw [List.getLast?_map, List.getLast?_eq_some_getLast hsz] at h3
    simpa using h3
   rw [← h2]; exact h1.symm
  obtain ⟨s0, hs0⟩ := hseen
  rw [hs0] at hr
  have := run_entry_at (P := P) w r b clock s0 es.toArray clock es[i] hr hb (by simp) (by
   show (es.map (·.born)).Nodup
   exact List.pairwise_map.2 (hbn.imp fun h => Nat.ne_of_lt h))
  simp only [execOp, e.ev hx, this, Sem.run_bind, Result.andThen, Sem.run_pure, hk1, hk2]
theorem At.rngEnd (f : Frt l (rngo kv vv b r kvs done) l') (h : At n ds R env (mapo kv vv b kvs :: l') K) : At n ds R env l K := fun a w e hs => h a w e ((hs.frt f).imp fun h ⟨es, clock, _, _, _, _, a1, _, _, a4, a5, a6, _⟩ => ⟨es, clock, a1, a4, a5, a6⟩)
end
end Go.Bw
namespace Go.Bw
open Go Go.RowKit Go.Proofs
variable {R : Res} {Fr : List HProp} {b0 n0_0 c0_0 n0_3 c0_3 n0_4 c0_4 n0_5 c0_5 n0_6 c0_6 b0_7 : Nat} {A0_0 A0_3 A0_4 A0_5 A0_6 : Option Addr}
noncomputable def Q32.l1b (q : List Q10) (D : List Bs) (u : List Q3) (p : Int) : Option (((List Q3) × Int) ⊕ (((List Q3)) ⊕ ((List Q5) × (List Q3) × (List Bs) × Int))) :=
 if p < (q.length : Int) then
 if (0 : Int) ≤ p ∧ p < (q.length : Int) then
 (Q62.f D ((gt q p).action)).bind fun C =>
 if (u.length + ([(⟨(gt q p).from_, C, (gt q p).to⟩ : Q3)] : List Q3).length) * 24 ≤ 140737488355328 then
 nx ((u ++ ([(⟨(gt q p).from_, C, (gt q p).to⟩ : Q3)] : List Q3)), IntKind.i64.wrap (p + 1))
 else none
 else none
 else
 dn (.inl u)
noncomputable def Q32.l1 (p : List Q10) (q : List Bs) (u : List Q3) (C : Int) : Option (((List Q3)) ⊕ ((List Q5) × (List Q3) × (List Bs) × Int)) := iter (fun t_ : (List Q3) × Int => Q32.l1b p q t_.1 t_.2) (u, C)
noncomputable def Q32.l0b  (p : Bs × Bool) (q : List Bs) : Option ((List Bs)) :=
 if (q.length + ([p.1] : List Bs).length) * 16 ≤ 140737488355328 then
 some (q ++ ([p.1] : List Bs))
 else none
noncomputable def Q32.f (Z : List Q1) (a0 : Option Q6) (q : Int) (u : List Bs) (C : List Q3) (D : List Q5) (E : List Q10) (G : List (Bs × Bool)) : Option ((List Q5) × (List Q3) × (List Bs) × Int) :=
 ordered G (fun (t_ : (List Bs)) (z_ : Bs × Bool) => Q32.l0b  z_ t_) u (fun I => I) (fun (J : List Bs) =>
 (Q85.f J).bind fun p =>
 jn (Q32.l1 E p C 0) (fun (U : List Q3) =>
 (Q44.f U).bind fun V =>
 (Q47.f D).bind fun X =>
 some (X, V, p, q)))
theorem Q32.callee : Callee Tryz.prog 62 := ⟨_, Tryz.func62, by kernel_rfl, by kernel_rfl⟩
theorem Q32.spec {U : List Q1} {b2 : Option Q6} {E : Int} {a0 : List Bs} {G : List Q3} {C : List Q5} {p : List Q10} {Z : List (Bs × Bool)} (I : Option Nat) (hr0_0 : RdS Q1.fl.rep R.heap A0_0 U) (hn0_0 : U.length = n0_0) (hc0_0 : n0_0 ≤ c0_0) (hn0_3 : a0.length = n0_3) (hn0_4 : G.length = n0_4) (hn0_5 : C.length = n0_5) (hn0_6 : p.length = n0_6) {r : (List Q5) × (List Q3) × (List Bs) × Int} (j : Q32.f U b2 E a0 G C p Z = some r) :
 Spec Tryz.prog 62 [bp b0] R (pc b0 [.slice A0_0 n0_0 c0_0, optp I, i6 E, .slice A0_3 n0_3 c0_3, .slice A0_4 n0_4 c0_4, .slice A0_5 n0_5 c0_5, .slice A0_6 n0_6 c0_6, .map (some b0_7)] 113 :: optb (Ow.fl Q6.fl) 121 I b2 :: row Fl.bs 9 A0_3 n0_3 c0_3 a0 :: row Q3.fl 48 A0_4 n0_4 c0_4 G :: grow Q5.ow 41 A0_5 n0_5 c0_5 C :: row Q10.fl 169 A0_6 n0_6 c0_6 p :: mapo Fl.bs.ov Fl.bool.ov b0_7 Z :: Fr) (fun v l' => ∃ (b7 : Nat) (d1 : Option Addr) (d2 : Nat) (b8 : Nat) (d3 : Option Addr) (d4 : Nat) (e3 : Value) (e4 : Value), v = .agg #[i6 r.2.2.2, .slice d3 b8 d4, .slice d1 b7 d2, .slice A0_5 n0_5 c0_5] ∧ pc b0 [.slice A0_0 n0_0 c0_0, optp I, i6 E, e3, e4, .slice A0_5 n0_5 c0_5, .slice A0_6 n0_6 c0_6, .map (some b0_7)] 113 :: optb (Ow.fl Q6.fl) 121 I b2 :: row Fl.bs 9 d3 b8 d4 r.2.2.1 :: row Q3.fl 48 d1 b7 d2 r.2.1 :: grow Q5.ow 41 A0_5 n0_5 c0_5 r.1 :: row Q10.fl 169 A0_6 n0_6 c0_6 p :: mapo Fl.bs.ov Fl.bool.ov b0_7 Z :: Fr = l' ∧ r.2.1.length = b7 ∧ r.2.2.1.length = b8) := by
 subst hn0_0; subst hn0_3; subst hn0_4; subst hn0_5; subst hn0_6; refine Spec.of Tryz.func62 rfl rfl ?_; unfold Q32.f at j; have j := brun j; refine At.seq (At.region ?_); refine At.alloc rfl rfl rfl (fun a1 => ?_); refine nT (sR 3 rfl (At.y (Y.load rfl rfl (.s .z) rfl rfl rfl) rfl rfl rfl ?_)); refine At.alloc rfl rfl rfl (fun J => ?_); refine At.store rfl rfl rfl rfl .z rfl rfl rfl (.c (.c (.c (.c .n)))) ?_; refine nT (At.seq (sR 3 rfl (At.y (Y.load rfl rfl (.s (.s .z)) rfl rfl rfl) rfl rfl rfl ?_))); refine At.rangeMap (.s (.s (.s (.s (.s (.s (.s (.s .z)))))))) rfl rfl rfl rfl rfl (fun d5 => ?_); refine nT ?_; refine At.block ?_; obtain ⟨e5, e6, hall1092⟩ := bordered j; clear j; let T1 : HProp := pc a1 [i6 0, .slice none 0 0, .slice none 0 0, .slice none 0 0] 26; let T2 : HProp := optb (Ow.fl Q6.fl) 121 I b2; let T3 : HProp := row Q3.fl 48 A0_4 G.length c0_4 G; let T4 : HProp := grow Q5.ow 41 A0_5 C.length c0_5 C; let T5 : HProp := row Q10.fl 169 A0_6 p.length c0_6 p; refine At.loopJ (X := (List Bs) × (List (Bs × Bool)) × Nat × (Option Addr) × Nat × Value) (Y := (List Bs) × Nat × (Option Addr) × Nat × Value) (e0 := 0) (fun s_ => [(0, bp b0), (2, bp a1), (3, bp J), (15, bp d5)]) (fun s_ => rngo Fl.bs.ov Fl.bool.ov b0_7 d5 Z s_.2.1 :: pc J [i6 E, .slice s_.2.2.2.1 s_.2.2.1 s_.2.2.2.2.1, .slice A0_4 G.length c0_4, .slice A0_5 C.length c0_5] 26 :: T1 :: pc b0 [.slice A0_0 U.length c0_0, optp I, i6 E, s_.2.2.2.2.2, .slice A0_4 G.length c0_4, .slice A0_5 C.length c0_5, .slice A0_6 p.length c0_6, .map (some b0_7)] 113 :: T2 :: row Fl.bs 9 s_.2.2.2.1 s_.2.2.1 s_.2.2.2.2.1 s_.1 :: T3 :: T4 :: T5 :: Fr) (fun m_ => fun s_ => (foldO (fun (t_ : (List Bs)) (z_ : Bs × Bool) => Q32.l0b  z_ t_) a0 s_.2.1 = some s_.1 ∧ m_ + (s_.2.1).length = (Z).length) ∧ s_.1.length = s_.2.2.1) (Z).length (a0, [], a0.length, A0_3, c0_3, .slice A0_3 a0.length c0_3) ⟨⟨rfl, rfl⟩, rfl⟩ (fun s_ => [(0, bp b0), (2, bp a1), (3, bp J)]) (fun s_ => mapo Fl.bs.ov Fl.bool.ov b0_7 Z :: pc J [i6 E, .slice s_.2.2.1 s_.2.1 s_.2.2.2.1, .slice A0_4 G.length c0_4, .slice A0_5 C.length c0_5] 26 :: T1 :: pc b0 [.slice A0_0 U.length c0_0, optp I, i6 E, s_.2.2.2.2, .slice A0_4 G.length c0_4, .slice A0_5 C.length c0_5, .slice A0_6 p.length c0_6, .map (some b0_7)] 113 :: T2 :: row Fl.bs 9 s_.2.2.1 s_.2.1 s_.2.2.2.1 s_.1 :: T3 :: T4 :: T5 :: Fr) (fun s_ => e5 s_.1 = some r ∧ s_.1.length = s_.2.1) (fun a w e hs => ⟨e.sub ⟨rfl, rfl, rfl, rfl, trivial⟩, hs⟩) ?_ (fun e7 => ?_)
 ·rintro ⟨a2, e8, a4, a5, a6⟩ ⟨j, e9⟩; obtain rfl : a2.length = e8 := e9; have j := (e6 _).symm.trans j
  ·refine At.ibx ?_; refine At.thn (sR 1 rfl (At.y (Y.load rfl rfl (.s .z) rfl rfl rfl) rfl rfl rfl (At.f5 ?_))); obtain ⟨b9, f0, j⟩ := bbind j; refine At.call rfl Q85.callee rfl rfl rfl (Q85.spec rfl f0) ?_; rintro _ _ ⟨rfl, rfl⟩; refine nT (At.seq (sR 3 rfl ?_)); refine At.y (Y.load rfl rfl (.s (.s (.s (.s .z)))) rfl rfl rfl) rfl rfl rfl ?_; refine At.run 2 rfl (nT ?_); refine At.block ?_; obtain ⟨f1, f9, m6, j⟩ := bjoin j; obtain ⟨d6, c4, g0⟩ := bsome j; clear j; unfold Q32.l1 at c4; obtain ⟨c5, a7⟩ := Q15.1 c4; clear c4; let T6 : HProp := row Fl.bs 9 a4 a2.length a5 b9; let T7 : HProp := mapo Fl.bs.ov Fl.bool.ov b0_7 Z; refine At.loopJ (X := (List Q3) × Int × Nat × (Option Addr) × Nat × Value) (Y := (List Q3) × Nat × (Option Addr) × Nat × Value) (e0 := 2) (fun s_ => [(2, bp a1), (3, bp J), (32, .slice A0_6 p.length c0_6), (33, i6 (p.length : Int)), (34, i6 s_.2.1)]) (fun s_ => T6 :: T7 :: pc J [i6 E, .slice a4 a2.length a5, .slice s_.2.2.2.1 s_.2.2.1 s_.2.2.2.2.1, .slice A0_5 C.length c0_5] 26 :: T1 :: pc b0 [.slice A0_0 U.length c0_0, optp I, i6 E, a6, s_.2.2.2.2.2, .slice A0_5 C.length c0_5, .slice A0_6 p.length c0_6, .map (some b0_7)] 113 :: T2 :: row Q3.fl 48 s_.2.2.2.1 s_.2.2.1 s_.2.2.2.2.1 s_.1 :: T4 :: T5 :: Fr) (fun m_ => fun s_ => iterN (fun t_ : (List Q3) × Int => Q32.l1b p b9 t_.1 t_.2) m_ (s_.1, s_.2.1) = some d6 ∧ s_.1.length = s_.2.2.1) c5 (G, 0, G.length, A0_4, c0_4, .slice A0_4 G.length c0_4) ⟨a7, rfl⟩ (fun s_ => [(2, bp a1), (3, bp J)]) (fun s_ => T6 :: T7 :: pc J [i6 E, .slice a4 a2.length a5, .slice s_.2.2.1 s_.2.1 s_.2.2.2.1, .slice A0_5 C.length c0_5] 26 :: T1 :: pc b0 [.slice A0_0 U.length c0_0, optp I, i6 E, a6, s_.2.2.2.2, .slice A0_5 C.length c0_5, .slice A0_6 p.length c0_6, .map (some b0_7)] 113 :: T2 :: row Q3.fl 48 s_.2.2.1 s_.2.1 s_.2.2.2.1 s_.1 :: T4 :: T5 :: Fr) (fun s_ => f1 (.inl s_.1) = some r ∧ s_.1.length = s_.2.1) (fun a w e hs => ⟨e.sub ⟨rfl, rfl, rfl, rfl, rfl, trivial⟩, (by exact hs)⟩) ?_ (fun g1 => ?_)
   ·rintro ⟨d7, g2, g3, g4, g5⟩ ⟨j, g6⟩; obtain rfl : d7.length = g2 := g6; have j := (f9 _).symm.trans j
    ·refine At.ibx ?_; refine At.thn (sR 1 rfl (At.y (Y.load rfl rfl (.s (.s .z)) rfl rfl rfl) rfl rfl rfl (At.f6 ?_))); obtain ⟨m7, g7, j⟩ := bbind j; refine At.call rfl Q44.callee rfl rfl rfl (Q44.spec rfl g7) ?_; rintro _ _ ⟨rfl, rfl⟩; refine nT (sR 1 rfl (At.y (Y.load rfl rfl (.s (.s (.s .z))) rfl rfl rfl) rfl rfl rfl (At.f7 ?_))); obtain ⟨m8, g8, j⟩ := bbind j; refine At.call rfl Q47.callee rfl rfl rfl (Q47.spec rfl g8) ?_; rintro _ _ ⟨rfl, rfl⟩; refine nT (At.seq (At.region ?_)); refine At.y (Y.load rfl rfl (.s (.s (.s (.s .z)))) rfl rfl rfl) rfl rfl rfl ?_; refine At.store rfl rfl rfl rfl (.s (.s (.s (.s (.s .z))))) rfl rfl rfl (.c (.c (.c (.c .n)))) ?_; refine nT (At.ret ?_); refine At.rowLen (.s (.s .z)) fun g9 => ?_; refine At.rowLen (.s (.s (.s .z))) fun h0 => ?_; refine At.resM (.inl rfl) rfl (RV.cell rfl rfl .z rfl rfl rfl RV.nil) ?_; refine At.drop .z (At.drop (.s (.s (.s (.s .z)))) (At.f3 (At.f6 (At.f2 (At.f3 (At.f4 (At.f6 ?_))))))); refine At.f6 ?_; cases bret j; exact fun a w e hs => ⟨_, ⟨d7.length, g3, g4, a2.length, a4, a5, a6, g5, rfl, rfl, g9, h0⟩, hs⟩
   ·clear a7 c5; rintro c5 ⟨V, u, h1, h2, h3, b3⟩ ⟨a7, h4⟩; obtain rfl : V.length = h1 := h4; obtain ⟨h5, f_, h6, hf_, j⟩ := bit a7; clear a7; have j : (Q32.l1b p b9 V u).bind _ = some d6 := j; unfold Q32.l1b at j
    ·refine sR 1 rfl (nT (At.seq ?_)); rcases bite j with ⟨c6, j⟩ | ⟨c6, j⟩
     ··refine At.condT rfl (decide_eq_true c6) ?_
       refine At.skip (At.thn (At.seq ?_)); refine At.block ?_; refine At.seq (At.region ?_); obtain ⟨b4, j⟩ := bnone j; refine At.y (Y.ix (.s (.s (.s (.s (.s (.s (.s (.s .z)))))))) rfl rfl rfl rfl rfl rfl b4.1 b4.2) rfl rfl rfl ?_; refine At.y (Y.ld (.s (.s (.s (.s (.s (.s (.s (.s .z)))))))) (q := 0) rfl rfl b4.1 b4.2 rfl rfl rfl) rfl rfl rfl ?_; refine At.alloc rfl rfl rfl (fun d8 => ?_); refine At.store rfl rfl rfl rfl .z rfl rfl rfl (.c (.c (.c .n))) ?_; refine nT ?_; refine At.freeze (.s .z) fun m9 c7 c8 c9 n2 h7 => ?_; refine At.held [pc d8 [i6 ((gt p u).from_), .string ⟨((gt p u).action).toArray⟩, i6 ((gt p u).to)] 169, T7, T1, pc b0 [.slice A0_0 U.length c0_0, optp I, i6 E, a6, b3, .slice A0_5 C.length c0_5, .slice A0_6 p.length c0_6, .map (some b0_7)] 113, T2, T4, T5] 16 rfl ?_; refine At.H.pw 0 rfl rfl rfl rfl rfl (.c .z (.c .z (.c (.s .z) (.c (.s .z) (.c (.s .z) (.c (.s (.s .z)) (.c (.s (.s .z)) .n))))))) ?_; refine At.H.pw 2 rfl rfl rfl rfl rfl (.c .z (.c .z (.c (.s .z) (.c (.s .z) (.c (.s .z) (.c (.s (.s .z)) (.c (.s (.s .z)) .n))))))) ?_; refine At.H.tw 3 rfl (Y.load rfl rfl .z rfl rfl rfl) rfl rfl rfl (.c .z (.c .z (.c (.s .z) (.c (.s .z) (.c (.s .z) (.c (.s (.s .z)) (.c (.s (.s .z)) .n))))))) ?_; refine At.H.pw 4 rfl rfl rfl rfl rfl (.c .z (.c .z (.c (.s .z) (.c (.s .z) (.c (.s .z) (.c (.s (.s .z)) (.c (.s (.s .z)) .n))))))) ?_; refine At.H.pw 6 rfl rfl rfl rfl rfl (.c .z (.c .z (.c (.s .z) (.c (.s .z) (.c (.s .z) (.c (.s (.s .z)) (.c (.s (.s .z)) .n))))))) ?_; refine At.H.tw 7 rfl (Y.load rfl rfl .z rfl rfl rfl) rfl rfl rfl (.c .z (.c .z (.c (.s .z) (.c (.s .z) (.c (.s .z) (.c (.s (.s .z)) (.c (.s (.s .z)) .n))))))) ?_; refine At.H.pw 9 rfl rfl rfl rfl rfl (.c .z (.c .z (.c (.s .z) (.c (.s .z) (.c (.s .z) (.c (.s (.s .z)) (.c (.s (.s .z)) .n))))))) ?_; refine At.H.tw 10 rfl (Y.load rfl rfl .z rfl rfl rfl) rfl rfl rfl (.c .z (.c .z (.c (.s .z) (.c (.s .z) (.c (.s .z) (.c (.s (.s .z)) (.c (.s (.s .z)) .n))))))) ?_; obtain ⟨D, d0, j⟩ := bbind j; obtain ⟨b5, j⟩ := bnone j; let T8 : HProp := pc d8 [i6 ((gt p u).from_), .string ⟨((gt p u).action).toArray⟩, i6 ((gt p u).to)] 169; let T9 : HProp := pc b0 [.slice A0_0 U.length c0_0, optp I, i6 E, a6, b3, .slice A0_5 C.length c0_5, .slice A0_6 p.length c0_6, .map (some b0_7)] 113; refine At.H.joinK (X := (Option Addr) × Nat) (fun s_ => [(2, bp a1), (3, bp J), (32, .slice A0_6 p.length c0_6), (33, i6 (p.length : Int)), (34, i6 u)]) (fun s_ => pc J [i6 E, .slice a4 a2.length a5, .slice s_.1 ((V ++ ([(⟨(gt p u).from_, D, (gt p u).to⟩ : Q3)] : List Q3)).length) s_.2, .slice A0_5 C.length c0_5] 26 :: row Q3.fl 48 s_.1 ((V ++ ([(⟨(gt p u).from_, D, (gt p u).to⟩ : Q3)] : List Q3)).length) s_.2 (V ++ ([(⟨(gt p u).from_, D, (gt p u).to⟩ : Q3)] : List Q3)) :: T8 :: T7 :: T1 :: T9 :: T2 :: T4 :: T5 :: Fr) (fun s_ => True) ?_ (fun b6 => ?_)
       ·rintro ⟨h8, h9⟩ -
        ·refine At.ibn ?_; refine At.thn (At.region (At.run 2 rfl (At.nil ?_))); refine At.thaw h7 ?_; refine At.drop (.s (.s (.s .z))) (At.f8 (At.f8 (At.f4 (At.f8 (At.f8 (At.f8 (At.f7 ?_))))))); refine At.f8 (At.f8 ?_); have j := bnx hf_ j; exact fun a w e hs => ⟨h5, ((V ++ ([(⟨(gt p u).from_, D, (gt p u).to⟩ : Q3)] : List Q3)), IntKind.i64.wrap (u + 1), (V ++ ([(⟨(gt p u).from_, D, (gt p u).to⟩ : Q3)] : List Q3)).length, h8, h9, b3), h6, ⟨j, rfl⟩, e.sub ⟨rfl, rfl, rfl, rfl, rfl, trivial⟩, hs⟩
       ·refine At.H.al [1, 5] (Q7 ?_ (Q7 ?_ Q8))
        ··refine At.HO.op rfl ?_
          refine At.y (Y.load rfl rfl (.s (.s .z)) rfl rfl rfl) rfl rfl rfl ?_; refine At.HO.back (.c .z (.c .z (.c (.s .z) (.c (.s .z) (.c (.s .z) (.c (.s (.s .z)) (.c (.s (.s .z)) .n))))))) ?_; refine At.H.al [5] (Q7 ?_ Q8)
          ··refine At.HO.op rfl ?_
            refine At.y (Y.load rfl rfl (.s (.s .z)) rfl rfl rfl) rfl rfl rfl ?_; refine At.HO.back (.c .z (.c .z (.c (.s .z) (.c (.s .z) (.c (.s .z) (.c (.s (.s .z)) (.c (.s (.s .z)) .n))))))) ?_; refine At.H.al [8] (Q7 ?_ Q8)
            ··refine At.HO.op rfl ?_
              refine At.call rfl Q62.callee rfl rfl rfl (Q62.spec c7 c8 c9 d0) ?_; rintro _ _ ⟨rfl, rfl⟩; refine At.HO.back (.c .z (.c .z (.c (.s .z) (.c (.s .z) (.c (.s .z) (.c (.s (.s .z)) (.c (.s (.s .z)) .n))))))) ?_; refine At.H.tw 11 rfl (Y.build (is := [0, 1, 2]) (xo := [.tmp 41, .tmp 46, .tmp 48]) (vs := [i6 ((gt p u).from_), i6 D, i6 ((gt p u).to)]) (cs := [i6 ((gt p u).from_), i6 D, i6 ((gt p u).to)]) rfl rfl rfl rfl rfl rfl) rfl rfl rfl (.c .z (.c .z (.c (.s .z) (.c (.s .z) (.c (.s .z) (.c (.s (.s .z)) (.c (.s (.s .z)) .n))))))) ?_; refine At.H.al [12] (Q7 ?_ Q8)
              ··refine At.HO.op rfl ?_
                refine At.lit rfl (xo := [.tmp 49]) (ys := ([(⟨(gt p u).from_, D, (gt p u).to⟩ : Q3)] : List Q3)) Q3.fl rfl rfl rfl rfl rfl rfl rfl rfl rfl rfl rfl (fun n4 n5 => ?_); refine At.HO.back (.c (.s .z) (.c (.s .z) (.c (.s (.s .z)) (.c (.s (.s .z)) (.c (.s (.s .z)) (.c (.s (.s (.s .z))) (.c (.s (.s (.s .z))) .n))))))) ?_; refine At.H.al [13] (Q7 ?_ Q8)
                ··refine At.HO.op rfl ?_
                  refine At.append rfl (.s (.s (.s (.s (.s (.s (.s .z))))))) (Src.own .z (by simp)) rfl rfl rfl rfl rfl rfl rfl rfl b5 (by decide) rfl (fun k0 k1 => ?_); refine At.drop (.s .z) ?_; refine At.HO.back (.c (.s .z) (.c (.s .z) (.c (.s (.s .z)) (.c (.s (.s .z)) (.c (.s (.s .z)) (.c (.s (.s .z)) (.c (.s (.s .z)) .n))))))) ?_; refine At.H.pw 14 rfl rfl rfl rfl rfl (.c (.s .z) (.c (.s .z) (.c (.s (.s .z)) (.c (.s (.s .z)) (.c (.s (.s .z)) (.c (.s (.s .z)) (.c (.s (.s .z)) .n))))))) ?_; refine At.H.al [15] (Q7 ?_ Q8)
                  ··refine At.HO.op rfl ?_
                    refine At.store rfl rfl rfl rfl (.s (.s (.s .z))) rfl rfl rfl (.s (.s (.c .n))) ?_; refine At.HO.back (.c (.s (.s .z)) (.c (.s (.s .z)) (.c (.s (.s .z)) (.c (.s (.s .z)) (.c (.s (.s .z)) (.c (.s (.s .z)) (.c (.s (.s .z)) .n))))))) ?_; refine At.H.done (by kernel_rfl) ?_; exact At.of (b6 (k0, k1) trivial) ⟨rfl, rfl, rfl, rfl, rfl, trivial⟩
        ··refine At.HO.op rfl ?_
          refine At.y (Y.load rfl rfl (.s (.s .z)) rfl rfl rfl) rfl rfl rfl ?_; refine At.HO.back (.c .z (.c .z (.c (.s .z) (.c (.s .z) (.c (.s .z) (.c (.s (.s .z)) (.c (.s (.s .z)) .n))))))) ?_; refine At.H.al [1, 8] (Q7 ?_ (Q7 ?_ Q8))
          ··refine At.HO.op rfl ?_
            refine At.y (Y.load rfl rfl (.s (.s .z)) rfl rfl rfl) rfl rfl rfl ?_; refine At.HO.back (.c .z (.c .z (.c (.s .z) (.c (.s .z) (.c (.s .z) (.c (.s (.s .z)) (.c (.s (.s .z)) .n))))))) ?_; refine At.H.al [8] (Q7 ?_ Q8)
            ··refine At.HO.op rfl ?_
              refine At.call rfl Q62.callee rfl rfl rfl (Q62.spec c7 c8 c9 d0) ?_; rintro _ _ ⟨rfl, rfl⟩; refine At.HO.back (.c .z (.c .z (.c (.s .z) (.c (.s .z) (.c (.s .z) (.c (.s (.s .z)) (.c (.s (.s .z)) .n))))))) ?_; refine At.H.tw 11 rfl (Y.build (is := [0, 1, 2]) (xo := [.tmp 41, .tmp 46, .tmp 48]) (vs := [i6 ((gt p u).from_), i6 D, i6 ((gt p u).to)]) (cs := [i6 ((gt p u).from_), i6 D, i6 ((gt p u).to)]) rfl rfl rfl rfl rfl rfl) rfl rfl rfl (.c .z (.c .z (.c (.s .z) (.c (.s .z) (.c (.s .z) (.c (.s (.s .z)) (.c (.s (.s .z)) .n))))))) ?_; refine At.H.al [12] (Q7 ?_ Q8)
              ··refine At.HO.op rfl ?_
                refine At.lit rfl (xo := [.tmp 49]) (ys := ([(⟨(gt p u).from_, D, (gt p u).to⟩ : Q3)] : List Q3)) Q3.fl rfl rfl rfl rfl rfl rfl rfl rfl rfl rfl rfl (fun n6 n7 => ?_); refine At.HO.back (.c (.s .z) (.c (.s .z) (.c (.s (.s .z)) (.c (.s (.s .z)) (.c (.s (.s .z)) (.c (.s (.s (.s .z))) (.c (.s (.s (.s .z))) .n))))))) ?_; refine At.H.al [13] (Q7 ?_ Q8)
                ··refine At.HO.op rfl ?_
                  refine At.append rfl (.s (.s (.s (.s (.s (.s (.s .z))))))) (Src.own .z (by simp)) rfl rfl rfl rfl rfl rfl rfl rfl b5 (by decide) rfl (fun k2 k3 => ?_); refine At.drop (.s .z) ?_; refine At.HO.back (.c (.s .z) (.c (.s .z) (.c (.s (.s .z)) (.c (.s (.s .z)) (.c (.s (.s .z)) (.c (.s (.s .z)) (.c (.s (.s .z)) .n))))))) ?_; refine At.H.pw 14 rfl rfl rfl rfl rfl (.c (.s .z) (.c (.s .z) (.c (.s (.s .z)) (.c (.s (.s .z)) (.c (.s (.s .z)) (.c (.s (.s .z)) (.c (.s (.s .z)) .n))))))) ?_; refine At.H.al [15] (Q7 ?_ Q8)
                  ··refine At.HO.op rfl ?_
                    refine At.store rfl rfl rfl rfl (.s (.s (.s .z))) rfl rfl rfl (.s (.s (.c .n))) ?_; refine At.HO.back (.c (.s (.s .z)) (.c (.s (.s .z)) (.c (.s (.s .z)) (.c (.s (.s .z)) (.c (.s (.s .z)) (.c (.s (.s .z)) (.c (.s (.s .z)) .n))))))) ?_; refine At.H.done (by kernel_rfl) ?_; exact At.of (b6 (k2, k3) trivial) ⟨rfl, rfl, rfl, rfl, rfl, trivial⟩
          ··refine At.HO.op rfl ?_
            refine At.call rfl Q62.callee rfl rfl rfl (Q62.spec c7 c8 c9 d0) ?_; rintro _ _ ⟨rfl, rfl⟩; refine At.HO.back (.c .z (.c .z (.c (.s .z) (.c (.s .z) (.c (.s .z) (.c (.s (.s .z)) (.c (.s (.s .z)) .n))))))) ?_; refine At.H.tw 11 rfl (Y.build (is := [0, 1, 2]) (xo := [.tmp 41, .tmp 46, .tmp 48]) (vs := [i6 ((gt p u).from_), i6 D, i6 ((gt p u).to)]) (cs := [i6 ((gt p u).from_), i6 D, i6 ((gt p u).to)]) rfl rfl rfl rfl rfl rfl) rfl rfl rfl (.c .z (.c .z (.c (.s .z) (.c (.s .z) (.c (.s .z) (.c (.s (.s .z)) (.c (.s (.s .z)) .n))))))) ?_; refine At.H.al [1, 12] (Q7 ?_ (Q7 ?_ Q8))
            ··refine At.HO.op rfl ?_
              refine At.y (Y.load rfl rfl (.s (.s .z)) rfl rfl rfl) rfl rfl rfl ?_; refine At.HO.back (.c .z (.c .z (.c (.s .z) (.c (.s .z) (.c (.s .z) (.c (.s (.s .z)) (.c (.s (.s .z)) .n))))))) ?_; refine At.H.al [12] (Q7 ?_ Q8)
              ··refine At.HO.op rfl ?_
                refine At.lit rfl (xo := [.tmp 49]) (ys := ([(⟨(gt p u).from_, D, (gt p u).to⟩ : Q3)] : List Q3)) Q3.fl rfl rfl rfl rfl rfl rfl rfl rfl rfl rfl rfl (fun n8 n9 => ?_); refine At.HO.back (.c (.s .z) (.c (.s .z) (.c (.s (.s .z)) (.c (.s (.s .z)) (.c (.s (.s .z)) (.c (.s (.s (.s .z))) (.c (.s (.s (.s .z))) .n))))))) ?_; refine At.H.al [13] (Q7 ?_ Q8)
                ··refine At.HO.op rfl ?_
                  refine At.append rfl (.s (.s (.s (.s (.s (.s (.s .z))))))) (Src.own .z (by simp)) rfl rfl rfl rfl rfl rfl rfl rfl b5 (by decide) rfl (fun k4 k5 => ?_); refine At.drop (.s .z) ?_; refine At.HO.back (.c (.s .z) (.c (.s .z) (.c (.s (.s .z)) (.c (.s (.s .z)) (.c (.s (.s .z)) (.c (.s (.s .z)) (.c (.s (.s .z)) .n))))))) ?_; refine At.H.pw 14 rfl rfl rfl rfl rfl (.c (.s .z) (.c (.s .z) (.c (.s (.s .z)) (.c (.s (.s .z)) (.c (.s (.s .z)) (.c (.s (.s .z)) (.c (.s (.s .z)) .n))))))) ?_; refine At.H.al [15] (Q7 ?_ Q8)
                  ··refine At.HO.op rfl ?_
                    refine At.store rfl rfl rfl rfl (.s (.s (.s .z))) rfl rfl rfl (.s (.s (.c .n))) ?_; refine At.HO.back (.c (.s (.s .z)) (.c (.s (.s .z)) (.c (.s (.s .z)) (.c (.s (.s .z)) (.c (.s (.s .z)) (.c (.s (.s .z)) (.c (.s (.s .z)) .n))))))) ?_; refine At.H.done (by kernel_rfl) ?_; exact At.of (b6 (k4, k5) trivial) ⟨rfl, rfl, rfl, rfl, rfl, trivial⟩
            ··refine At.HO.op rfl ?_
              refine At.lit rfl (xo := [.tmp 49]) (ys := ([(⟨(gt p u).from_, D, (gt p u).to⟩ : Q3)] : List Q3)) Q3.fl rfl rfl rfl rfl rfl rfl rfl rfl rfl rfl rfl (fun o0 o7 => ?_); refine At.HO.back (.c (.s .z) (.c (.s .z) (.c (.s (.s .z)) (.c (.s (.s .z)) (.c (.s (.s .z)) (.c (.s (.s (.s .z))) (.c (.s (.s (.s .z))) .n))))))) ?_; refine At.H.al [1] (Q7 ?_ Q8)
              ··refine At.HO.op rfl ?_
                refine At.y (Y.load rfl rfl (.s (.s (.s .z))) rfl rfl rfl) rfl rfl rfl ?_; refine At.HO.back (.c (.s .z) (.c (.s .z) (.c (.s (.s .z)) (.c (.s (.s .z)) (.c (.s (.s .z)) (.c (.s (.s (.s .z))) (.c (.s (.s (.s .z))) .n))))))) ?_; refine At.H.al [13] (Q7 ?_ Q8)
                ··refine At.HO.op rfl ?_
                  refine At.append rfl (.s (.s (.s (.s (.s (.s (.s .z))))))) (Src.own .z (by simp)) rfl rfl rfl rfl rfl rfl rfl rfl b5 (by decide) rfl (fun k6 k7 => ?_); refine At.drop (.s .z) ?_; refine At.HO.back (.c (.s .z) (.c (.s .z) (.c (.s (.s .z)) (.c (.s (.s .z)) (.c (.s (.s .z)) (.c (.s (.s .z)) (.c (.s (.s .z)) .n))))))) ?_; refine At.H.pw 14 rfl rfl rfl rfl rfl (.c (.s .z) (.c (.s .z) (.c (.s (.s .z)) (.c (.s (.s .z)) (.c (.s (.s .z)) (.c (.s (.s .z)) (.c (.s (.s .z)) .n))))))) ?_; refine At.H.al [15] (Q7 ?_ Q8)
                  ··refine At.HO.op rfl ?_
                    refine At.store rfl rfl rfl rfl (.s (.s (.s .z))) rfl rfl rfl (.s (.s (.c .n))) ?_; refine At.HO.back (.c (.s (.s .z)) (.c (.s (.s .z)) (.c (.s (.s .z)) (.c (.s (.s .z)) (.c (.s (.s .z)) (.c (.s (.s .z)) (.c (.s (.s .z)) .n))))))) ?_; refine At.H.done (by kernel_rfl) ?_; exact At.of (b6 (k6, k7) trivial) ⟨rfl, rfl, rfl, rfl, rfl, trivial⟩
     ··refine At.condF rfl (decide_eq_false c6) ?_
       refine At.exit ?_; refine At.the ?_; refine At.the ?_; exact fun a w e hs => g1 (V, V.length, h2, h3, b3) ⟨(bdn j g0), rfl⟩ a w (e.sub ⟨rfl, rfl, trivial⟩) hs
 ·rintro o8 ⟨a3, k8, k9, l6, l7, d9⟩ ⟨⟨e1, e2⟩, l8⟩; obtain rfl : a3.length = k9 := l8
  ·refine At.seq (At.region ?_); refine At.nextMap rfl rfl .z rfl (fun a8 => ?_) (fun a9 l9 a8 => ?_)
   ·have j := foldO_end hall1092 e1 a8; refine At.run 1 rfl (nT (At.seq ?_)); refine At.condF rfl rfl ?_; refine At.exit ?_; refine At.the ?_; refine At.the ?_; refine At.rngEnd .z ?_; exact fun a w e hs => e7 (a3, a3.length, l6, l7, d9) ⟨j, rfl⟩ a w (e.sub ⟨rfl, rfl, rfl, trivial⟩) hs
   ·obtain ⟨m0, m1, m2⟩ := foldO_go hall1092 e1 a8; have j := brun (show Q32.l0b  a9 a3 = some m0 from m1); unfold Q32.l0b at j; refine At.run 1 rfl (nT (At.seq ?_)); refine At.condT rfl rfl ?_; refine At.skip (At.thn ?_); refine At.block ?_; refine At.seq (At.region ?_); refine At.y (Y.entry .z rfl) rfl rfl rfl ?_; refine At.run 2 rfl (nT (At.region (At.run 1 rfl (At.y (Y.load rfl rfl (.s .z) rfl rfl rfl) rfl rfl rfl (At.run 1 rfl ?_))))); refine At.lit rfl (xo := [.tmp 22]) (ys := ([a9.1] : List Bs)) Fl.bs rfl rfl rfl rfl rfl rfl rfl rfl rfl rfl rfl (fun o9 p0 => ?_); obtain ⟨m3, j⟩ := bnone j; refine At.append rfl (.s (.s (.s (.s (.s (.s .z)))))) (Src.own .z (by simp)) rfl rfl rfl rfl rfl rfl rfl rfl m3 (by decide) rfl (fun m4 m5 => ?_); refine At.drop (.s .z) (At.run 1 rfl ?_); refine At.store rfl rfl rfl rfl (.s (.s .z)) rfl rfl rfl (.s (.c .n)) ?_; refine At.nil ?_; refine At.ibn ?_; refine At.f8 (At.f8 (At.f8 (At.f4 (At.f8 (At.f8 (At.f8 (At.f7 ?_))))))); refine At.f8 ?_; obtain rfl := bret j; exact fun a w e hs => ⟨l9.length, ((a3 ++ ([a9.1] : List Bs)), (k8 ++ [a9]), (a3 ++ ([a9.1] : List Bs)).length, m4, m5, d9), (rng_lt a8 e2).1, ⟨⟨m2, (rng_lt a8 e2).2⟩, rfl⟩, e.sub ⟨rfl, rfl, rfl, rfl, trivial⟩, hs⟩

noncomputable def Q22.l0b (D : (Option Q6) × (List Q1) × Int) (E : Option Q6) (q : List Q5) (u : List Q10) (C : List (Bs × Bool)) (U : List Q1) : Option (((Option Q6) × (List Q5) × (List Q10) × (List (Bs × Bool)) × (List Q1)) ⊕ (((Option Q6) × (List Q5) × (List Q10) × (List (Bs × Bool)) × (List Q1)) ⊕ ((Option Q6) × (List Bs) × (List Q3) × (List Q5) × Int))) :=
 if E.isNone = true then
 (Q65.f U E D.2.2 ([] : List Bs) ([] : List Q3) q u C).bind fun G =>
 if (0 : Int) ≤ 0 ∧ 0 < (G.length : Int) then
 if (gt G 0).Kind = 0 then
 dn (.inl (E, q, u, C, G))
 else
 (Q58.f G E D.2.2 ([] : List Bs) ([] : List Q3) q u C 2).bind fun p =>
 if p.1.isNone = true then
 if bseq p.2.2.2.2.1 ([101, 100, 103, 101] : Bs) = true then
 (Q148.f p.2.1 p.1 D.2.2 ([] : List Bs) ([] : List Q3) q u C p.2.2.1 p.2.2.2.1 p.2.2.2.2.1 p.2.2.2.2.2).bind fun I =>
 nx (I.2.2.1, q, I.1, I.2.1, I.2.2.2)
 else
 if bseq p.2.2.2.2.1 ([109, 97, 114, 107] : Bs) = true then
 (Q46.f p.2.1 p.1 D.2.2 ([] : List Bs) ([] : List Q3) q u C).bind fun J =>
 nx (J.2.1, J.1, u, C, J.2.2)
 else
 (Q18.f p.2.1 p.1 D.2.2 ([] : List Bs) ([] : List Q3) q u C p.2.2.1 p.2.2.2.1 p.2.2.2.2.1 p.2.2.2.2.2 7).bind fun V =>
 nx (V, q, u, C, p.2.1)
 else
 nx (p.1, q, u, C, p.2.1)
 else none
 else
 dn (.inl (E, q, u, C, U))
noncomputable def Q22.l0 (p : (Option Q6) × (List Q1) × Int) (q : Option Q6) (u : List Q5) (C : List Q10) (D : List (Bs × Bool)) (E : List Q1) : Option (((Option Q6) × (List Q5) × (List Q10) × (List (Bs × Bool)) × (List Q1)) ⊕ ((Option Q6) × (List Bs) × (List Q3) × (List Q5) × Int)) := iter (fun t_ : (Option Q6) × (List Q5) × (List Q10) × (List (Bs × Bool)) × (List Q1) => Q22.l0b p t_.1 t_.2.1 t_.2.2.1 t_.2.2.2.1 t_.2.2.2.2) (q, u, C, D, E)
noncomputable def Q22.f (a0 : Bs) : Option ((Option Q6) × (List Bs) × (List Q3) × (List Q5) × Int) :=
 (Q61.f a0).bind fun u =>
 if u.1.isNone = true then
 (Q149.f u.2 (none : Option Q6) 0 ([] : List Bs) ([] : List Q3) ([] : List Q5) ([] : List Q10) ([] : List (Bs × Bool))).bind fun p =>
 jn (Q22.l0 p p.1 ([] : List Q5) ([] : List Q10) ([] : List (Bs × Bool)) p.2.1) (fun (s_ : (Option Q6) × (List Q5) × (List Q10) × (List (Bs × Bool)) × (List Q1)) =>
 if s_.1.isNone = true then
 (Q32.f s_.2.2.2.2 s_.1 p.2.2 ([] : List Bs) ([] : List Q3) s_.2.1 s_.2.2.1 s_.2.2.2.1).bind fun q =>
 some (none, q.2.2.1, q.2.1, q.1, q.2.2.2)
 else
 some ((some (⟨(s_.1.getD default).At, (s_.1.getD default).Err⟩ : Q6)), ([] : List Bs), ([] : List Q3), ([] : List Q5), 0))
 else
 some (u.1, ([] : List Bs), ([] : List Q3), ([] : List Q5), 0)
theorem Q22.callee : Callee Tryz.prog 30 := ⟨_, Tryz.func30, by kernel_rfl, by kernel_rfl⟩
theorem Q22.spec {a0 : Bs} {r : (Option Q6) × (List Bs) × (List Q3) × (List Q5) × Int} (j : Q22.f a0 = some r) :
 Spec Tryz.prog 30 [.string ⟨(a0).toArray⟩] R (Fr) (fun v l' => ∃ (e8 : Option Nat) (c4 : Nat) (e9 : Option Addr) (f0 : Nat) (c5 : Nat) (f9 : Option Addr) (g0 : Nat) (c6 : Nat) (g1 : Option Addr) (g2 : Nat), v = .tuple #[.agg #[i6 r.2.2.2.2, .slice e9 c4 f0, .slice f9 c5 g0, .slice g1 c6 g2], opti 110 e8] ∧ row Fl.bs 9 e9 c4 f0 r.2.1 :: row Q3.fl 48 f9 c5 g0 r.2.2.1 :: grow Q5.ow 41 g1 c6 g2 r.2.2.2.1 :: optb (Ow.fl Q6.fl) 121 e8 r.1 :: Fr = l' ∧ r.2.1.length = c4 ∧ r.2.2.1.length = c5 ∧ r.2.2.2.1.length = c6) := by
 refine Spec.of Tryz.func30 rfl rfl ?_; unfold Q22.f at j; have j := brun j; refine At.seq (At.region ?_); refine At.alloc rfl rfl rfl (fun c7 => ?_); refine At.run 1 rfl (nT (sR 1 rfl ?_)); obtain ⟨b2, h9, j⟩ := bbind j; refine At.call rfl Q61.callee rfl rfl rfl (Q61.spec h9) ?_; rintro _ _ ⟨g3, r7, c8, c9, rfl, rfl, rfl⟩; refine At.run 5 rfl (nT (At.seq (sR 1 rfl ?_))); refine At.y (Y.neOptI (.s .z) rfl rfl rfl) rfl rfl rfl ?_; refine nT ?_; rcases bite j with ⟨d0, j⟩ | ⟨d0, j⟩
 ··refine At.condF rfl (nf d0) ?_
   refine At.skip (At.thn (sR 1 rfl ?_)); refine At.makeMap Fl.bs.ov Fl.bool.ov rfl rfl (fun C => ?_); refine At.y (Y.build (is := [0, 4]) (xo := [.tmp 17, .tmp 18]) (vs := [.slice c8 b2.2.length c9, .map (some C)]) (cs := [.slice c8 b2.2.length c9, .pointer none, i6 0, .slice none 0 0, .slice none 0 0, .slice none 0 0, .slice none 0 0, .map (some C)]) rfl rfl rfl rfl rfl rfl) rfl rfl rfl ?_; refine At.box rfl rfl (cs := [.slice c8 b2.2.length c9, .pointer none, i6 0, .slice none 0 0, .slice none 0 0, .slice none 0 0, .slice none 0 0, .map (some C)]) rfl rfl (fun U => ?_); refine At.run 1 rfl (nT (sR 1 rfl ?_)); refine At.optNone (Ow.fl Q6.fl) 121 ?_; refine At.nilRow Fl.bs 9 ?_; refine At.nilRow Q3.fl 48 ?_; refine At.nilGrow Q5.ow 41 ?_; refine At.nilRow Q10.fl 169 ?_; refine At.freeze (.s (.s (.s (.s (.s (.s (.s .z))))))) fun g4 k0 k1 k2 r8 g5 => ?_; refine At.f6 (At.f1 (At.f2 (At.f3 (At.f4 (At.f5 (At.f6 ?_)))))); obtain ⟨D, k3, j⟩ := bbind j; refine At.call rfl Q149.callee rfl rfl rfl (Q149.spec none k0 k1 k2 rfl rfl rfl rfl k3) ?_; rintro _ _ ⟨k4, k5, r9, k6, rfl, rfl, k7, rfl, k8⟩; refine nT (At.seq ?_); refine At.block ?_; obtain ⟨k9, l6, s0, j⟩ := bjoin j; obtain ⟨g6, d1, g7⟩ := bsome j; clear j; unfold Q22.l0 at d1; obtain ⟨d2, V⟩ := Q15.1 d1; clear d1; let d3 : HProp := row Fl.bs 9 none 0 0 ([] : List Bs); let d4 : HProp := row Q3.fl 48 none 0 0 ([] : List Q3); let d5 : HProp := optb (Ow.fl Q6.fl) 121 g3 b2.1; let d6 : HProp := pc c7 [i6 0, .slice none 0 0, .slice none 0 0, .slice none 0 0] 26; refine At.loopJ (X := (Option Q6) × (List Q5) × (List Q10) × (List (Bs × Bool)) × (List Q1) × (Option Nat) × Nat × (Option Addr) × Nat × Nat × (Option Addr) × Nat × (Option Addr) × Nat × Nat) (Y := (Option Q6) × (List Q5) × (List Q10) × (List (Bs × Bool)) × (List Q1) × (Option Nat) × Nat × (Option Addr) × Nat × Nat × (Option Addr) × Nat × (Option Addr) × Nat × Nat) (e0 := 0) (fun s_ => [(2, bp c7), (6, bp U)]) (fun s_ => optb (Ow.fl Q6.fl) 121 s_.2.2.2.2.2.1 s_.1 :: pc U [.slice (d8 s_).2.2.2.2.1 (d8 s_).2.2.2.2.2.1 (d8 s_).2.2.2.2.2.2, optp s_.2.2.2.2.2.1, i6 D.2.2, .slice none 0 0, .slice none 0 0, .slice s_.2.2.2.2.2.2.2.1 s_.2.2.2.2.2.2.1 (d8 s_).1, .slice (d8 s_).2.2.1 (d8 s_).2.1 (d8 s_).2.2.2.1, .map (some C)] 113 :: d3 :: d4 :: grow Q5.ow 41 s_.2.2.2.2.2.2.2.1 s_.2.2.2.2.2.2.1 (d8 s_).1 s_.2.1 :: row Q10.fl 169 (d8 s_).2.2.1 (d8 s_).2.1 (d8 s_).2.2.2.1 s_.2.2.1 :: mapo Fl.bs.ov Fl.bool.ov C s_.2.2.2.1 :: d5 :: d6 :: Fr) (fun m_ => fun s_ => iterN (fun t_ : (Option Q6) × (List Q5) × (List Q10) × (List (Bs × Bool)) × (List Q1) => Q22.l0b D t_.1 t_.2.1 t_.2.2.1 t_.2.2.2.1 t_.2.2.2.2) m_ (s_.1, s_.2.1, s_.2.2.1, s_.2.2.2.1, s_.2.2.2.2.1) = some g6 ∧ s_.2.1.length = s_.2.2.2.2.2.2.1 ∧ s_.2.2.1.length = (d8 s_).2.1 ∧ RdS Q1.fl.rep g4.heap (d8 s_).2.2.2.2.1 s_.2.2.2.2.1 ∧ s_.2.2.2.2.1.length = (d8 s_).2.2.2.2.2.1 ∧ (d8 s_).2.2.2.2.2.1 ≤ (d8 s_).2.2.2.2.2.2) d2 (D.1, ([] : List Q5), ([] : List Q10), ([] : List (Bs × Bool)), D.2.1, k4, 0, none, 0, 0, none, 0, k5, D.2.1.length, k6) ⟨V, rfl, rfl, k7, rfl, k8⟩ (fun s_ => [(2, bp c7), (6, bp U)]) (fun s_ => pc U [.slice (d8 s_).2.2.2.2.1 (d8 s_).2.2.2.2.2.1 (d8 s_).2.2.2.2.2.2, optp s_.2.2.2.2.2.1, i6 D.2.2, .slice none 0 0, .slice none 0 0, .slice s_.2.2.2.2.2.2.2.1 s_.2.2.2.2.2.2.1 (d8 s_).1, .slice (d8 s_).2.2.1 (d8 s_).2.1 (d8 s_).2.2.2.1, .map (some C)] 113 :: optb (Ow.fl Q6.fl) 121 s_.2.2.2.2.2.1 s_.1 :: d3 :: d4 :: grow Q5.ow 41 s_.2.2.2.2.2.2.2.1 s_.2.2.2.2.2.2.1 (d8 s_).1 s_.2.1 :: row Q10.fl 169 (d8 s_).2.2.1 (d8 s_).2.1 (d8 s_).2.2.2.1 s_.2.2.1 :: mapo Fl.bs.ov Fl.bool.ov C s_.2.2.2.1 :: d5 :: d6 :: Fr) (fun s_ => k9 (.inl (s_.1, s_.2.1, s_.2.2.1, s_.2.2.2.1, s_.2.2.2.2.1)) = some r ∧ s_.2.1.length = s_.2.2.2.2.2.2.1 ∧ s_.2.2.1.length = (d8 s_).2.1 ∧ RdS Q1.fl.rep g4.heap (d8 s_).2.2.2.2.1 s_.2.2.2.2.1 ∧ s_.2.2.2.2.1.length = (d8 s_).2.2.2.2.2.1 ∧ (d8 s_).2.2.2.2.2.1 ≤ (d8 s_).2.2.2.2.2.2) (fun a w e hs => ⟨e.sub ⟨rfl, rfl, trivial⟩, (by exact hs)⟩) ?_ (fun g8 => ?_)
   ·rintro ⟨E, Z, b3, l7, g9, l8, l9, d7, d9, m0, h0, h1, m1, m2, m3⟩ ⟨j, m4, m5, m6, m7, m8⟩; obtain rfl : Z.length = l9 := m4; obtain rfl : b3.length = m0 := m5; obtain rfl : g9.length = m2 := m7; have j := (l6 _).symm.trans j
    ·refine At.ibx ?_; refine At.thn (At.seq (sR 3 rfl (At.y (Y.load rfl rfl .z rfl rfl rfl) rfl rfl rfl ?_))); refine At.y (Y.neOpt (.s .z) rfl rfl rfl rfl) rfl rfl rfl ?_; refine nT ?_; rcases bite j with ⟨b4, j⟩ | ⟨b4, j⟩
     ··refine At.condF rfl (nf b4) ?_
       refine At.skip (At.thn (sR 1 rfl ?_)); obtain ⟨h2, m9, j⟩ := bbind j; refine At.call rfl Q32.callee rfl rfl rfl (Q32.spec l8 m6 rfl m8 rfl rfl rfl rfl m9) ?_; rintro _ _ ⟨s1, n2, n4, s2, n5, n6, s3, s4, rfl, rfl, rfl, rfl⟩; refine At.store rfl rfl rfl rfl (.s (.s (.s (.s (.s (.s (.s (.s .z)))))))) rfl rfl rfl (.c (.c (.c (.c .n)))) ?_; refine At.run 1 rfl (nT (At.ret ?_)); refine At.thaw g5 ?_; refine At.optNone (Ow.fl Q6.fl) 121 ?_; refine At.growLen (.s (.s (.s (.s (.s (.s (.s .z))))))) fun n7 _ => ?_; refine At.resM (.inl rfl) rfl (RV.cell rfl rfl (.s (.s .z)) rfl rfl rfl (RV.tmp rfl RV.nil)) ?_; refine At.drop (.s .z) (At.drop (.s .z) (At.drop (.s .z) (At.drop (.s .z) (At.drop (.s (.s (.s (.s .z)))) (At.drop (.s (.s (.s (.s .z)))) (At.drop (.s (.s (.s (.s .z)))) (At.f3 ?_))))))); refine At.f3 (At.f3 ?_); cases bret j; exact fun a w e hs => ⟨_, ⟨none, h2.2.2.1.length, n5, n6, h2.2.1.length, n2, n4, Z.length, d7, d9, rfl, rfl, rfl, rfl, n7⟩, hs⟩
     ··refine At.condT rfl (nt (bn b4)) ?_
       refine At.seq ?_; refine At.optOpen (.s .z) (bn b4) (fun e1 n8 s5 => ?_); have n9 := j; subst n8; have j := n9; refine At.ownFl (.s .z) ?_; rintro rfl; refine At.held [pc e1 [i6 ((E.getD default).At), i6 ((E.getD default).Err)] 121, pc U [.slice m1 g9.length m3, bp e1, i6 D.2.2, .slice none 0 0, .slice none 0 0, .slice d7 Z.length d9, .slice h0 b3.length h1, .map (some C)] 113, d3, d4, grow Q5.ow 41 d7 Z.length d9 Z, row Q10.fl 169 h0 b3.length h1 b3, mapo Fl.bs.ov Fl.bool.ov C l7, d5, d6] 8 rfl ?_; refine At.H.tw 0 rfl (Y.build (is := []) (xo := []) (vs := []) (cs := [i6 0, .slice none 0 0, .slice none 0 0, .slice none 0 0]) rfl rfl rfl rfl rfl rfl) rfl rfl rfl (.c .z (.c .z (.c .z (.c .z (.c .z (.c .z (.c .z (.c .z (.c .z .n))))))))) ?_; refine At.H.pw 1 rfl rfl rfl rfl rfl (.c .z (.c .z (.c .z (.c .z (.c .z (.c .z (.c .z (.c .z (.c .z .n))))))))) ?_; refine At.H.pw 2 rfl rfl rfl rfl rfl (.c .z (.c .z (.c .z (.c .z (.c .z (.c .z (.c .z (.c .z (.c .z .n))))))))) ?_; refine At.H.pw 3 rfl rfl rfl rfl rfl (.c .z (.c .z (.c .z (.c .z (.c .z (.c .z (.c .z (.c .z (.c .z .n))))))))) ?_; refine At.H.tw 4 rfl (Y.load rfl rfl (.s .z) rfl rfl rfl) rfl rfl rfl (.c .z (.c .z (.c .z (.c .z (.c .z (.c .z (.c .z (.c .z (.c .z .n))))))))) ?_; refine At.H.pw 5 rfl rfl rfl rfl rfl (.c .z (.c .z (.c .z (.c .z (.c .z (.c .z (.c .z (.c .z (.c .z .n))))))))) ?_; refine At.H.al [6] (Q7 ?_ Q8)
       ··refine At.HO.op rfl ?_
         refine At.store rfl rfl rfl rfl (.s (.s (.s (.s (.s (.s (.s (.s .z)))))))) rfl rfl rfl (.c (.c (.c (.c .n)))) ?_; refine At.HO.back (.c (.s .z) (.c (.s .z) (.c (.s .z) (.c (.s .z) (.c (.s .z) (.c (.s .z) (.c (.s .z) (.c (.s .z) (.c .z .n))))))))) ?_; refine At.H.pw 7 rfl rfl rfl rfl rfl (.c (.s .z) (.c (.s .z) (.c (.s .z) (.c (.s .z) (.c (.s .z) (.c (.s .z) (.c (.s .z) (.c (.s .z) (.c .z .n))))))))) ?_; refine At.H.done (by kernel_rfl) ?_; refine At.thn (At.ret (At.thr ?_)); refine At.thaw g5 ?_; refine At.f2 ?_; refine At.optSome (x := (⟨(E.getD default).At, (E.getD default).Err⟩ : Q6)) (Ent.fl Q6.fl (x := (⟨(E.getD default).At, (E.getD default).Err⟩ : Q6)) rfl) ?_; refine At.nilRow Fl.bs 9 ?_; refine At.nilRow Q3.fl 48 ?_; refine At.nilGrow Q5.ow 41 ?_; refine At.resM (.inl rfl) rfl (RV.cell rfl rfl (.s (.s (.s (.s (.s .z))))) rfl rfl rfl (RV.tmp rfl RV.nil)) ?_; refine At.drop (.s (.s (.s (.s .z)))) (At.drop (.s (.s (.s (.s .z)))) (At.drop (.s (.s (.s (.s .z)))) (At.drop (.s (.s (.s (.s .z)))) (At.drop (.s (.s (.s (.s .z)))) (At.drop (.s (.s (.s (.s .z)))) (At.drop (.s (.s (.s (.s .z)))) (At.drop (.s (.s (.s (.s .z)))) ?_))))))); refine At.drop (.s (.s (.s (.s .z)))) (At.f3 (At.f1 (At.f2 (At.f3 ?_)))); cases bret j; exact fun a w e hs => ⟨_, ⟨(some e1), 0, none, 0, 0, none, 0, 0, none, 0, rfl, rfl, rfl, rfl, rfl⟩, hs⟩
   ·clear V d2; rintro d2 ⟨e2, p, u, G, b5, b6, o0, a1, a2, o7, a3, a4, o8, o9, p0⟩ ⟨V, p1, p2, h3, p3, h4⟩; obtain rfl : p.length = o0 := p1; obtain rfl : u.length = o7 := p2; obtain rfl : b5.length = o9 := p3; obtain ⟨b7, f_, b8, hf_, j⟩ := bit V; clear V; have j : (Q22.l0b D e2 p u G b5).bind _ = some g6 := j; unfold Q22.l0b at j
    ·refine At.seq (sR 3 rfl (At.y (Y.load rfl rfl (.s .z) rfl rfl rfl) rfl rfl rfl ?_)); refine At.y (Y.eqOpt .z rfl rfl rfl rfl) rfl rfl rfl ?_; refine nT ?_; rcases bite j with ⟨e3, j⟩ | ⟨e3, j⟩
     ··refine At.condT rfl e3 ?_
       refine At.skip (At.thn ?_); refine At.block ?_; refine sR 1 rfl (At.f6 (At.f6 (At.f6 (At.f6 (At.f6 ?_))))); refine At.f5 (At.f6 ?_); obtain ⟨h5, p4, j⟩ := bbind j; refine At.call rfl Q65.callee rfl rfl rfl (Q65.spec b6 h3 rfl h4 rfl rfl rfl rfl p4) ?_; rintro _ _ ⟨p5, s6, p6, rfl, rfl, a5, rfl, h6⟩; refine nT (At.seq (sR 3 rfl (At.y (Y.load rfl rfl .z rfl rfl rfl) rfl rfl rfl ?_))); obtain ⟨I, j⟩ := bnone j; refine At.y (Y.ixRd a5 rfl rfl rfl rfl rfl rfl rfl I.1 I.2) rfl rfl rfl ?_; refine At.y (Y.fa (RdS.some_ a5 rfl I.1 I.2) rfl rfl rfl rfl rfl rfl) rfl rfl rfl ?_; refine At.y (Y.ldFl a5 rfl (q := 0) rfl rfl I.1 I.2 rfl rfl rfl) rfl rfl rfl (At.run 1 rfl (nT ?_)); rcases bite j with ⟨e4, j⟩ | ⟨e4, j⟩
       ··refine At.condT rfl (decide_eq_true e4) ?_
         refine At.exit ?_; refine At.the ?_; refine At.ibo rfl ?_; refine At.the ?_; exact fun a w e hs => g8 (e2, p, u, G, h5, b6, p.length, a1, a2, u.length, a3, a4, p5, h5.length, p6) ⟨(bdn j g7), rfl, rfl, a5, rfl, h6⟩ a w (e.sub ⟨rfl, rfl, trivial⟩) hs
       ··refine At.condF rfl (decide_eq_false e4) ?_
         refine At.skip (At.thn (sR 1 rfl ?_)); obtain ⟨a6, p7, j⟩ := bbind j; refine At.call rfl Q58.callee rfl rfl rfl (Q58.spec b6 a5 rfl h6 rfl rfl rfl rfl p7) ?_; rintro _ _ ⟨b9, h7, s7, h8, rfl, rfl, a7, rfl, a8⟩; refine At.alloc rfl rfl rfl (fun s8 => ?_); refine At.store rfl rfl rfl rfl .z rfl rfl rfl (.c (.c (.c (.c .n)))) ?_; refine nT ?_; refine At.block ?_; refine sR 3 rfl (At.y (Y.load rfl rfl (.s (.s .z)) rfl rfl rfl) rfl rfl rfl ?_); refine At.y (Y.neOpt (.s .z) rfl rfl rfl rfl) rfl rfl rfl ?_; refine At.run 1 rfl (nT ?_); rcases bite j with ⟨e5, j⟩ | ⟨e5, j⟩
         ··refine At.condF rfl (nf e5) ?_
           refine sR 1 rfl (At.y (Y.load rfl rfl .z rfl rfl rfl) rfl rfl rfl (At.run 2 rfl (nT ?_))); rcases bite j with ⟨e6, j⟩ | ⟨e6, j⟩
           ··refine At.condT rfl e6 ?_
             refine At.region (At.run 1 rfl (At.y (Y.load rfl rfl .z rfl rfl rfl) rfl rfl rfl (At.f7 (At.f7 (At.f7 (At.f7 (At.f7 ?_))))))); refine At.f6 (At.f7 ?_); obtain ⟨J, p8, j⟩ := bbind j; refine At.call rfl Q148.callee rfl rfl rfl (Q148.spec b9 a7 rfl a8 rfl rfl rfl rfl p8) ?_; rintro _ _ ⟨s9, p9, q0, q1, q2, t0, q3, rfl, rfl, rfl, q4, rfl, q5⟩; refine At.nil ?_; refine At.ibn ?_; refine At.ibn ?_; refine At.drop (.s (.s (.s (.s (.s (.s (.s .z))))))) ?_; have j := bnx hf_ j; exact fun a w e hs => ⟨b7, (J.2.2.1, p, J.1, J.2.1, J.2.2.2, q1, p.length, a1, a2, J.1.length, p9, q0, q2, J.2.2.2.length, q3), b8, ⟨j, rfl, rfl, q4, rfl, q5⟩, e.sub ⟨rfl, rfl, trivial⟩, hs⟩
           ··refine At.condF rfl (bn e6) ?_
             refine sR 1 rfl (At.y (Y.load rfl rfl .z rfl rfl rfl) rfl rfl rfl (At.run 2 rfl (nT ?_))); rcases bite j with ⟨e7, j⟩ | ⟨e7, j⟩
             ··refine At.condT rfl e7 ?_
               refine At.region (At.run 1 rfl (At.f7 (At.f7 (At.f7 (At.f7 (At.f7 (At.f6 ?_))))))); refine At.f7 ?_; obtain ⟨a9, q6, j⟩ := bbind j; refine At.call rfl Q46.callee rfl rfl rfl (Q46.spec b9 a7 rfl a8 rfl rfl rfl rfl q6) ?_; rintro _ _ ⟨t1, q7, q8, q9, r0, t3, r1, rfl, rfl, rfl, r2, rfl, r3⟩; refine At.nil ?_; refine At.ibn ?_; refine At.ibn ?_; refine At.drop (.s (.s (.s (.s (.s (.s (.s .z))))))) ?_; have j := bnx hf_ j; exact fun a w e hs => ⟨b7, (a9.2.1, a9.1, u, G, a9.2.2, q9, a9.1.length, q7, q8, u.length, a3, a4, r0, a9.2.2.length, r1), b8, ⟨j, rfl, rfl, r2, rfl, r3⟩, e.sub ⟨rfl, rfl, trivial⟩, hs⟩
             ··refine At.condF rfl (bn e7) ?_
               refine At.region (At.run 1 rfl (At.y (Y.load rfl rfl .z rfl rfl rfl) rfl rfl rfl (At.f7 (At.f7 (At.f7 (At.f7 (At.f7 ?_))))))); refine At.f6 (At.f7 ?_); obtain ⟨r4, r5, j⟩ := bbind j; refine At.call rfl Q18.callee rfl rfl rfl (Q18.spec b9 a7 rfl a8 rfl rfl rfl rfl r5) ?_; rintro _ _ ⟨r6, rfl, rfl⟩; refine At.nil ?_; refine At.ibn ?_; refine At.ibn ?_; refine At.drop (.s (.s (.s (.s (.s (.s (.s .z))))))) ?_; have j := bnx hf_ j; exact fun a w e hs => ⟨b7, (r4, p, u, G, a6.2.1, r6, p.length, a1, a2, u.length, a3, a4, h7, a6.2.1.length, h8), b8, ⟨j, rfl, rfl, a7, rfl, a8⟩, e.sub ⟨rfl, rfl, trivial⟩, hs⟩
         ··refine At.condT rfl (nt (bn e5)) ?_
           refine At.skip ?_; refine At.ibn ?_; refine At.ibn ?_; refine At.drop .z ?_; have j := bnx hf_ j; exact fun a w e hs => ⟨b7, (a6.1, p, u, G, a6.2.1, b9, p.length, a1, a2, u.length, a3, a4, h7, a6.2.1.length, h8), b8, ⟨j, rfl, rfl, a7, rfl, a8⟩, e.sub ⟨rfl, rfl, trivial⟩, hs⟩
     ··refine At.condF rfl (bn e3) ?_
       refine At.exit ?_; refine At.the ?_; refine At.the ?_; refine At.f8 (At.f8 (At.f8 (At.f8 (At.f8 (At.f8 (At.f8 (At.f7 ?_))))))); refine At.f8 ?_; exact fun a w e hs => g8 (e2, p, u, G, b5, b6, p.length, a1, a2, u.length, a3, a4, o8, b5.length, p0) ⟨(bdn j g7), rfl, rfl, h3, rfl, h4⟩ a w (e.sub ⟨rfl, rfl, trivial⟩) hs
 ··refine At.condT rfl (nt (bn d0)) ?_
   refine At.seq (At.region ?_); refine At.y (Y.build (is := []) (xo := []) (vs := []) (cs := [i6 0, .slice none 0 0, .slice none 0 0, .slice none 0 0]) rfl rfl rfl rfl rfl rfl) rfl rfl rfl ?_; refine At.run 1 rfl ?_; refine At.store rfl rfl rfl rfl (.s (.s .z)) rfl rfl rfl (.c (.c (.c (.c .n)))) ?_; refine At.run 1 rfl (nT (At.ret (At.thr ?_))); refine At.nilRow Fl.bs 9 ?_; refine At.nilRow Q3.fl 48 ?_; refine At.nilGrow Q5.ow 41 ?_; refine At.resM (.inl rfl) rfl (RV.cell rfl rfl (.s (.s (.s .z))) rfl rfl rfl (RV.tmp rfl RV.nil)) ?_; refine At.drop (.s (.s (.s .z))) (At.drop (.s (.s (.s .z))) (At.f3 (At.f1 (At.f2 (At.f3 ?_))))); cases bret j; exact fun a w e hs => ⟨_, ⟨g3, 0, none, 0, 0, none, 0, 0, none, 0, rfl, rfl, rfl, rfl, rfl⟩, hs⟩

end Go.Bw
namespace Go.Bw
open Go Go.RowKit

abbrev PostE := Ending → List HProp → Prop
def SpecE (P : Program) (f : Nat) (args : List Value) (R : Res) (l : List HProp) (post : PostE) : Prop :=
 ∀ w, sat R l w → Calls P f args.toArray w fun e w' => ∃ l', post e l' ∧ sat R l' w'
def PostBD (P : Program) (fn : Func) (R : Res) (post : PostE) : Exit → Act → World → Prop := bodyPostD P fn fun e w' => ∃ l', post e l' ∧ sat R l' w'
theorem Q293 {n : Nat} {args : List Value} (hn : Nat.ble args.length n = true) : Env n [] (envA 0 args) { tmps := args.toArray ++ Array.replicate (n - args.toArray.size) undef, defers := [] } := by
 refine ⟨?_, rfl, fun t v hv => ?_⟩
 ·have : args.length ≤ n := by simpa using hn
  simp; omega
 ·obtain ⟨j, rfl, hj⟩ := Q218 hv
  show (args.toArray ++ Array.replicate _ undef).getD (0 + j) undef = v
  have hlt := (List.getElem?_eq_some_iff.1 hj).1
  rw [Nat.zero_add, Array.getD_eq_getD_getElem?, Array.getElem?_append_left (by simpa using hlt), List.getElem?_toArray, hj]
  rfl
theorem SpecE.ofD {P : Program} {f : Nat} {fn : Func} {c : Code} {args : List Value} {R : Res} {l : List HProp} {post : PostE} (hf : P.funcs[f]? = some fn) (hb : fn.body = some c) (hn : Nat.ble args.length fn.ntmps = true)
 (h : At fn.ntmps [] R (envA 0 args) l (c.wp P (PostBD P fn R post))) : SpecE P f args R l post := fun w hs =>
 calls_of_wp_defers hf hb (h _ w (Q293 hn) hs)
theorem SpecE.ret {P : Program} {f : Nat} {args : List Value} {R : Res} {l : List HProp} {post : Post} (h : SpecE P f args R l (fun e l' => ∃ v, e = .returned v ∧ post v l')) : Spec P f args R l post := fun w hs =>
 (h w hs).mono fun e w' ⟨l', ⟨v, he, hp⟩, hs'⟩ => ⟨v, l', he, hp, hs'⟩
theorem Spec.toE {P : Program} {f : Nat} {args : List Value} {R : Res} {l : List HProp} {post : Post} (h : Spec P f args R l post) : SpecE P f args R l (fun e l' => ∃ v, e = .returned v ∧ post v l') := fun w hs =>
 (h w hs).mono fun e w' ⟨v, l', he, hp, hs'⟩ => ⟨l', ⟨v, he, hp⟩, hs'⟩
def SpecD (P : Program) (f : Nat) (args : List Value) (u : FrameMode) (R : Res) (l : List HProp) (post : FrameMode → List HProp → Prop) : Prop :=
 ∀ w, sat R l w → CallsD P f args.toArray u w fun e u' w' => ∃ v l', e = .returned v ∧ post u' l' ∧ sat R l' w'
section
variable {P : Program} [Tys P] {os : List Oper} {Q : Exit → Act → World → Prop} {rest : List Oper} {n : Nat} {ds : List Deferred} {R : Res} {env : List (Nat × Value)} {l l' : List HProp} {next : Act → World → Prop}
variable {d ty : Nat} {pos : String} {af : Array Edge} {g : Option (Nat × Bool)}
theorem Q316 {a : Act} {w : World} {x : Operand} {xs : List Operand} {ts : Array Nat} {f : Nat} {fs cap : List Value} {vs : List Value} {dd : Option Nat} (e : Env n ds env a)
 (hx : ev env x = some (.func (.func f) fs.toArray cap.toArray)) (hv : vals env xs = some vs) (c : Callee P f) :
 (execOp a.eval ⟨dd, .call ⟨.value x, xs.toArray, ts⟩, ty, pos, af, g⟩).run P w = .ok (.enter f (fs ++ vs ++ cap).toArray) w := by
 have := Q143 e hv
 simp [execOp, resolve, Deferred.ofValue, invoke, e.ev hx, Q226 c, this]
theorem At.callF (hg : grd os env g = some true) {x : Operand} {xs : List Operand} {ts : Array Nat} {f : Nat} {fs cap : List Value} {vs : List Value} {post : Post} (c : Callee P f)
 (hx : ev env x = some (.func (.func f) fs.toArray cap.toArray)) (hv : vals env xs = some vs) (hd : Nat.blt d n = true)
 (s : Spec P f (fs ++ vs ++ cap) R l post) (h : ∀ v l', post v l' → At n ds R ((d, v) :: env) l' (wpList P os.toArray Q rest)) :
 At n ds R env l (wpList P os.toArray Q (⟨some d, .call ⟨.value x, xs.toArray, ts⟩, ty, pos, af, g⟩ :: rest)) := fun a w e hs => by
 refine wpList_step fun K hK => ?_
 rw [if_pos (Q76 e hg)]
 unfold Oper.wp
 rw [Q316 e hx hv c, Oper.upon_enter]
 refine (s w hs).mono fun e' w' ⟨v, l', he, hp, hs'⟩ => ?_
 subst he
 exact hK _ _ (h v l' hp _ _ (e.put hd v) hs')
theorem At.defer (hg : grd os env g = some true) {x : Operand} {ts : Array Nat} {f : Nat} {cap : List Value} (hx : ev env x = some (.func (.func f) #[] cap.toArray))
 (h : At n (⟨.fn (.func f) cap.toArray, #[]⟩ :: ds) R env l (wpList P os.toArray Q rest)) :
 At n ds R env l (wpList P os.toArray Q (⟨none, .defer ⟨.value x, #[], ts⟩, ty, pos, af, g⟩ :: rest)) := fun a w e hs => by
 refine wpList_step fun K hK => ?_
 rw [if_pos (Q76 e hg)]
 unfold Oper.wp
 have hr : (execOp a.eval ⟨none, .defer ⟨.value x, #[], ts⟩, ty, pos, af, g⟩).run P w = .ok (.defer ⟨.fn (.func f) cap.toArray, #[]⟩) w := by
  simp [execOp, resolve, Deferred.ofValue, e.ev hx]
 rw [hr, Oper.upon_defer]
 exact hK _ _ (h _ _ ⟨e.size, by show _ :: a.defers = _; rw [e.defs], e.get⟩ hs)
theorem Q269 {fn : Func} {r : List ResultVar} {vs : List Value} {a : Act} {w : World} (hr : fn.results = r.toArray) (h : (r.mapM (resF a.tmps)).run P w = .ok vs w) : (results fn a.tmps).run P w = .ok (resT vs) w := by
 rw [Q230, hr, List.mapM_toArray]
 simp only [Sem.run_bind, Sem.run_map, h, Result.andThen, Sem.run_pure]
 cases vs with
 | nil => rfl
 | cons v vs =>
  cases vs with
  | nil => rfl
  | cons u vs => simp [resT]
theorem At.resMD {fn : Func} {post : PostE} {x : Exit} {r : List ResultVar} {vs : List Value} (hx : x = .ret ∨ x = .normal) (hr : fn.results = r.toArray) (hv : RV P n R env l r vs) (k : At n [] R env l (fun a w => ∃ l', post (.returned (resT vs)) l' ∧ sat R l' w)) : At n [] R env l (PostBD P fn R post x) := fun a w e hs => by
 obtain ⟨l2, hp, hs'⟩ := k a w e hs
 have key : Leaves P fn a.tmps (fun e w' => ∃ l', post e l' ∧ sat R l' w') a.defers .returning w := by
  rw [e.defs]
  exact ⟨_, Q269 hr (hv a w e hs), l2, hp, hs'⟩
 rcases hx with rfl | rfl <;> exact key
theorem At.leaveD {fn : Func} {post : PostE} {x : Exit} {u : FrameMode} {r : List ResultVar} {f : Nat} {cap : List Value} {pd : FrameMode → List HProp → Prop}
 (hx : (x = .ret ∨ x = .normal) ∧ u = .returning ∨ ∃ ch, x = .panic ch ∧ u = .panicking ch) (hr : fn.results = r.toArray) (c : Callee P f) (s : SpecD P f cap u R l pd)
 (k : ∀ u' l', pd u' l' → settle u' = .returning ∧ ∃ vs, RV P n R env l' r vs ∧ At n [] R env l' (fun a w => ∃ l2, post (.returned (resT vs)) l2 ∧ sat R l2 w)) :
 At n [⟨.fn (.func f) cap.toArray, #[]⟩] R env l (PostBD P fn R post x) := fun a w e hs => by
 have key : Leaves P fn a.tmps (fun e w' => ∃ l', post e l' ∧ sat R l' w') a.defers u w := by
  rw [e.defs]
  refine leaves_cons (f := f) (args := cap.toArray) ?_ ?_ ?_
  ·rcases hx with ⟨_, rfl⟩ | ⟨ch, _, rfl⟩ <;> simp
  ·show (callFunc f (#[] ++ cap.toArray)).run P w = _
   rw [Q226 c]
   simp
  ·refine (s w hs).mono ?_
   rintro e' u' w' ⟨v, l', rfl, hp, hs'⟩
   obtain ⟨hu, vs, hv, k2⟩ := k u' l' hp
   have e2 : Env n [] env { a with defers := [] } := ⟨e.size, rfl, e.get⟩
   have h1 := hv _ w' e2 hs'
   obtain ⟨l2, hp2, hs2⟩ := k2 _ w' e2 hs'
   show Leaves P fn a.tmps _ [] (settle u') w'
   rw [hu]
   exact ⟨_, Q269 (a := { a with defers := [] }) hr h1, l2, hp2, hs2⟩
 rcases hx with ⟨rfl | rfl, rfl⟩ | ⟨ch, rfl, rfl⟩ <;> exact key
end
theorem Q256 (t : Nat) (p : Option Nat) : (opti t p).cells.toList = [opti t p] := by cases p <;> rfl
theorem Q285 (t : Nat) (p : Option Nat) : [opti t p].all (·.oneCell') = true := by cases p <;> rfl
def recM : FrameMode → Value × FrameMode
 | .panicking ({ v, recovered := false, goexit := false } :: older) => (v, .panicking ({ v, recovered := true } :: older))
 | u => (.nilIface, u)
section
variable {P : Program} [Tys P]
theorem SpecD.of {f : Nat} {fn : Func} {id : Nat} {d ty : Nat} {pos : String} {af : Array Edge} {ts : Array Nat} {c2 : Code} {args : List Value} {R : Res} {l : List HProp} {u u' : FrameMode} {v : Value} {post : FrameMode → List HProp → Prop}
 (hf : P.funcs[f]? = some fn) (hb : fn.body = some (.seq (.region id #[⟨some d, .call ⟨.builtin .recover, #[], ts⟩, ty, pos, af, none⟩] false) c2)) (hn : Nat.ble args.length fn.ntmps = true) (hd : Nat.blt d fn.ntmps = true) (hu : recM u = (v, u'))
 (h : At fn.ntmps [] R ((d, v) :: envA 0 args) l (c2.wp P (PostB P fn R fun _ l' => post u' l'))) : SpecD P f args u R l post := fun w hs => by
 refine callsD_of_wpS hf hb fun c₀ cs hc => ?_
 refine wpS_seq (wpS_region ?_)
 have e0 := Q293 (n := fn.ntmps) (args := args) hn
 have hx := h _ w (e0.put hd v) hs
 have fin : ∀ c1 : Frame, c1 = { c₀ with mode := u' } → c2.wpS P (bodyPostS P fn c₀ cs fun e u' w' => ∃ v l', e = .returned v ∧ post u' l' ∧ sat R l' w')
  (({ tmps := args.toArray ++ Array.replicate (fn.ntmps - args.toArray.size) undef, defers := [] } : Act).put (some d) v) (c1 :: cs) w := by
  rintro c1 rfl
  refine wpS_of_wp (fun b k cs => ?_)
  obtain ⟨e, a', w', hq, harr⟩ := hx b k cs
  refine ⟨e, a', w', ?_, harr⟩
  cases e with
  | normal => obtain ⟨h1, v', h2, h3⟩ := hq; exact ⟨h1, u', rfl, v', h2, h3⟩
  | ret => obtain ⟨h1, v', h2, h3⟩ := hq; exact ⟨h1, u', rfl, v', h2, h3⟩
  | panic ch => obtain ⟨h1, h3⟩ := hq; exact ⟨h1, u', rfl, h3⟩
  | outgrown => exact ⟨u', hq⟩
  | exit id => exact hq
  | goto l => exact hq
 have hrun : (execOp (({ tmps := args.toArray ++ Array.replicate (fn.ntmps - args.toArray.size) undef, defers := [] } : Act).eval) ⟨some d, .call ⟨.builtin .recover, #[], ts⟩, ty, pos, af, none⟩).run P w = .ok .recover w := by
  simp [execOp, resolve, invoke, builtin]
 show wpOpsS P _ _ [0] _ _ _
 have hw : Region.wanted (⟨some d, .call ⟨.builtin .recover, #[], ts⟩, ty, pos, af, none⟩ : Oper) (yielded #[⟨some d, .call ⟨.builtin .recover, #[], ts⟩, ty, pos, af, none⟩] (args.toArray ++ Array.replicate (fn.ntmps - args.toArray.size) undef)) = true := rfl
 have hrd : (recoverD (c₀ :: cs) = none ∧ v = .nilIface ∧ u' = u) ∨ recoverD (c₀ :: cs) = some (v, { c₀ with mode := u' } :: cs) := by
  unfold recM at hu
  split at hu
  ·cases hu; exact .inr (by simp [recoverD, hc])
  ·rename_i hne
   cases hu
   refine .inl ⟨?_, rfl, rfl⟩
   unfold recoverD
   dsimp only
   split
   ·rename_i v older hm
    rw [hc] at hm
    exact (hne _ _ hm).elim
   ·rfl
 simp only [wpOpsS, hw, if_true, List.getElem?_toArray, List.getElem?_cons_zero, hrun]
 rcases hrd with ⟨h1, rfl, rfl⟩ | h1
 ·rw [h1]
  exact fin c₀ (by cases c₀; simp_all)
 ·rw [h1]
  exact fin _ rfl
end
end Go.Bw
namespace Go.Bw
open Go Go.RowKit

def sufA (A : Option Addr) (c k sz : Nat) : Option Addr := if c = k then A else A.map (·.add (k * sz))
section
variable {P : Program} [Tys P] {os : List Oper} {Q : Exit → Act → World → Prop} {rest : List Oper} {n : Nat} {ds : List Deferred} {R : Res} {env : List (Nat × Value)} {l l' : List HProp}
variable {d ty : Nat} {pos : String} {af : Array Edge} {g : Option (Nat × Bool)} {α : Type} [Inhabited α] {F : Fl α} {e t t2 : Nat} {A : Option Addr} {c m : Nat} {xs : List α} {K : Act → World → Prop} {dd : Option Nat}
theorem op_v0 {o : Oper} (hg : grd os env o.guard = some true) (hdst : o.dst = none)
 (h : ∀ a w, Env n ds env a → sat R l w → ∃ v w' l', (execOp a.eval o).run P w = .ok (.value v) w' ∧ sat R l' w' ∧ At n ds R env l' (wpList P os.toArray Q rest)) :
 At n ds R env l (wpList P os.toArray Q (o :: rest)) := fun a w e hs => by
 refine wpList_step fun K hK => ?_
 rw [if_pos (Q76 e hg)]
 obtain ⟨v, w', l', hr, hs', k⟩ := h a w e hs
 unfold Oper.wp
 rw [hr]
 show K (a.put o.dst v) w'
 rw [hdst]
 exact hK _ _ (k _ _ e hs')
theorem Y.slSuf (f : Frt l (row F e A m c xs) l') {x y : Operand} {k : Int} {ki : IntKind} {ii : TI} (hi : ti P t = some ii) (hk : ii.k = .slice e) {j : TI} (hj : ti P e = some j) (hjs : j.size = F.sz) (hx : ev env x = some (.slice A m c)) (hy : ev env y = some (.int ki k)) (h0 : 0 ≤ k) (h1 : k ≤ (m : Int)) :
 Y P n ds R env l ⟨dd, .slice t x (some y) none none, ty, pos, af, g⟩ (.slice (sufA A c k.toNat F.sz) (m - k.toNat) (c - k.toNat)) := fun a w e0 hs => by
 have hu := (Q13 hi).slice hk
 have hu' : P.underlying t = some (.slice (P.elem t)) := by rw [hu]; simp [Program.elem, hu]
 have he : P.elem t = e := by rw [hu] at hu'; injection hu' with h; injection h with h; exact h.symm
 have hr := run_slice_l (P := P) (w := w) t A m c hu' ki k h0 h1
 rw [he, (Q13 hj).run_sizeOf] at hr
 simp only [execOp, e0.ev hx, e0.ev hy, Option.map_none, Option.map_some, Sem.run_bind, run_sliceAt_slice w t _ _ _ _ hu', hr, Result.andThen, Sem.run_pure, sliced, hjs, sufA]
theorem Y.ixSuf (f : Frt l (row F e A m c xs) l') {x y : Operand} {k i : Int} {ki : IntKind} {ii : TI} (hi : ti P t = some ii) (hk : ii.k = .slice e) {j : TI} (hj : ti P e = some j) (hjs : j.size = F.sz) (hx : ev env x = some (.slice (sufA A c k.toNat F.sz) (m - k.toNat) (c - k.toNat))) (hy : ev env y = some (.int ki i)) (hk0 : 0 ≤ k) (h0 : 0 ≤ i) (h1 : i < ((m - k.toNat : Nat) : Int)) :
 Y P n ds R env l ⟨dd, .indexAddr t x y, ty, pos, af, g⟩ (elp A ((k + i).toNat * F.sz)) := fun a w e0 hs => by
 obtain ⟨h', o, s⟩ := (hs.frt f).head
 have hm := Q97 o
 subst hm
 obtain ⟨gb, cur, rfl, hgb, h3, h4, h5, h6⟩ := Q172 o (by omega)
 have hA : sufA (some ⟨gb, 0, none⟩) c k.toNat F.sz = some ((⟨gb, 0, none⟩ : Addr).add (k.toNat * F.sz)) := by
  unfold sufA; rw [if_neg (by omega)]; rfl
 rw [hA] at hx
 have hc : 0 ≤ i ∧ i < ((xs.length - k.toNat : Nat) : Int) := ⟨h0, h1⟩
 have hr : Y P n ds R env l ⟨dd, .indexAddr t x y, ty, pos, af, g⟩ (elp (some ((⟨gb, 0, none⟩ : Addr).add (k.toNat * F.sz))) (i.toNat * j.size)) := Y.ixSome hi hk hx hy hj h0 h1
 have h := hr a w e0 hs
 rw [h]
 unfold elp
 simp only [Option.map_some]
 rw [Q118, hjs, ← Nat.add_mul, show k.toNat + i.toNat = (k + i).toNat from by omega]
theorem zero_flat (F : Fl α) (z : α) (k : Nat) {cs : Array Value} (hcs : cs.toList = F.enc z) : (Builtin.zeroCells cs k).toList = (List.replicate k z).flatMap F.enc := by
 have hsz : cs.size = F.sz := by rw [← Array.length_toList, hcs, F.len]
 unfold Builtin.zeroCells
 rw [hsz]
 simp only [Array.toList_map, Array.toList_range]
 apply List.ext_getElem?
 intro q
 have hp := F.pos
 by_cases hq : q < k * F.sz
 ·have h1 : q / F.sz < k := Nat.div_lt_of_lt_mul (by rw [Nat.mul_comm]; exact hq)
  have h2 : q % F.sz < F.sz := Nat.mod_lt _ hp
  have := Q161 F (xs := List.replicate k z) (i := q / F.sz) (x := z) (j := q % F.sz) (by simp [h1]) h2
  rw [Nat.mul_comm, Nat.div_add_mod] at this
  rw [this, ← hcs]
  simp [hq, hsz, h2]
 ·rw [List.getElem?_eq_none (by simp; omega), List.getElem?_eq_none (by rw [Q78]; simp; omega)]
theorem At.clearSuf (hg : grd os env g = some true) (f : Frt l (row F e A m c xs) l') {x : Operand} {k : Int} {z : α} {ii j : TI} (hi : ti P t = some ii) (hk : ii.k = .slice e) (hj : ti P e = some j) (hjz : j.zero = F.enc z)
 (hx : ev env x = some (.slice (sufA A c k.toNat F.sz) (m - k.toNat) (c - k.toNat))) (hk0 : 0 ≤ k) (hk1 : k ≤ (m : Int))
 (h : At n ds R env (row F e A m c (xs.take k.toNat ++ List.replicate (m - k.toNat) z) :: l') (wpList P os.toArray Q rest)) :
 At n ds R env l (wpList P os.toArray Q (⟨none, .call ⟨.builtin .clear, #[x], #[t]⟩, ty, pos, af, g⟩ :: rest)) := op_v0 hg rfl fun a w e0 hs => by
 have hs1 := hs.frt f
 have hm : xs.length = m := let ⟨_, o, _⟩ := hs1.head; Q97 o
 subst hm
 obtain ⟨xi, zv, hxi, hsz, hby, hze, hzc⟩ := (Q13 hj).info
 have hu := (Q13 hi).slice hk
 have hzr : ∀ w, (zeroValue e).run P w = .ok zv w := fun w => by simp [zeroValue, typeInfo, hxi, hze]
 by_cases hlt : k.toNat < xs.length
 ·obtain ⟨h', o, s, kk⟩ := hs1.upd
  obtain ⟨gb, cur, rfl, hgb, h3, h4, h5, h6⟩ := Q172 o (by omega)
  have hA : sufA (some ⟨gb, 0, none⟩) c k.toNat F.sz = some ⟨gb, k.toNat * F.sz, none⟩ := by
   unfold sufA; rw [if_neg (by omega)]; simp [Q114]
  rw [hA] at hx
  have hgw : w.heap[gb]? = some (.cells cur e (0, 0)) := s gb _ hgb
  have hzl : zv.cells.toList = F.enc z := by rw [← hjz, hzc]
  have hzs : (Builtin.zeroCells zv.cells (xs.length - k.toNat)).toList = (List.replicate (xs.length - k.toNat) z).flatMap F.enc := zero_flat F z _ hzl
  have hfl : ((List.replicate (xs.length - k.toNat) z).flatMap F.enc).length = (xs.length - k.toNat) * F.sz := by rw [Q78, List.length_replicate]
  have hmul : k.toNat * F.sz + (xs.length - k.toNat) * F.sz = xs.length * F.sz := by rw [← Nat.add_mul]; congr 1; omega
  have hle : xs.length * F.sz ≤ c * F.sz := Nat.mul_le_mul_right _ h3
  have hst := run_storeCells_at (P := P) gb (k.toNat * F.sz) e ((List.replicate (xs.length - k.toNat) z).flatMap F.enc) 0 cur w hgw (by rw [hfl, h5]; omega) (Q239 F _)
  rw [Nat.add_zero, hfl, hmul] at hst
  obtain ⟨q, hq⟩ : ∃ q, xs.length - k.toNat = q + 1 := ⟨xs.length - k.toNat - 1, by omega⟩
  refine ⟨.tuple #[], w.setRow gb (cur.toList.take (k.toNat * F.sz) ++ (List.replicate (xs.length - k.toNat) z).flatMap F.enc ++ cur.toList.drop (xs.length * F.sz)).toArray, _, ?_, ?_, h⟩
  ·have hrun : (Builtin.clear_ #[t] ty #[.slice (some ⟨gb, k.toNat * F.sz, none⟩) (xs.length - k.toNat) (c - k.toNat)]).run P w = .ok (.tuple #[]) (w.setRow gb (cur.toList.take (k.toNat * F.sz) ++ (List.replicate (xs.length - k.toNat) z).flatMap F.enc ++ cur.toList.drop (xs.length * F.sz)).toArray) := by
    rw [hq] at hzs hst ⊢
    simp [Builtin.clear_, run_underlying hu, hzr, hzs, hst]
   simp only [execOp, resolve, invoke, builtin, Sem.run_bind, Sem.run_pure, Result.andThen_ok, List.map_toArray, List.map_cons, List.map_nil, e0.ev hx, hrun]
  ·have hnew := setRow_heap w gb cur (cur.toList.take (k.toNat * F.sz) ++ (List.replicate (xs.length - k.toNat) z).flatMap F.enc ++ cur.toList.drop (xs.length * F.sz)).toArray e (0, 0) hgw
   have hcl5 : cur.toList.length = c * F.sz := by rw [Array.length_toList, h5]
   have htk : (cur.toList.take (k.toNat * F.sz)).length = k.toNat * F.sz := by rw [List.length_take, hcl5]; omega
   have hll : (cur.toList.take (k.toNat * F.sz) ++ (List.replicate (xs.length - k.toNat) z).flatMap F.enc ++ cur.toList.drop (xs.length * F.sz)).length = cur.size := by
    rw [List.length_append, List.length_append, List.length_drop, htk, hfl, hcl5, h5]; omega
   refine kk _ (single gb (.cells (cur.toList.take (k.toNat * F.sz) ++ (List.replicate (xs.length - k.toNat) z).flatMap F.enc ++ cur.toList.drop (xs.length * F.sz)).toArray e)) _ ?_ rfl rfl rfl (Nat.le_refl _) (fun x o' hx hn => ?_) (fun x o' hx => ?_) (fun x o' hx => ?_)
   ·have hsl : (xs.take k.toNat ++ List.replicate (xs.length - k.toNat) z).length = xs.length := by simp; omega
    refine ⟨by rw [Q78, hsl], .inr ⟨gb, _, rfl, Q216 _ _, h3, h4, by rw [List.size_toArray, hll, h5], ?_⟩⟩
    rw [List.flatMap_append]
    have hpre : (xs.take k.toNat).flatMap F.enc = cur.toList.take (k.toNat * F.sz) := by
     have e1 : xs.flatMap F.enc = (xs.take k.toNat).flatMap F.enc ++ (xs.drop k.toNat).flatMap F.enc := by rw [← List.flatMap_append, List.take_append_drop]
     have e2 : ((xs.take k.toNat).flatMap F.enc).length = k.toNat * F.sz := by rw [Q78, List.length_take]; congr 1; omega
     have e3 : cur.toList.take (k.toNat * F.sz) = (cur.toList.take (xs.length * F.sz)).take (k.toNat * F.sz) := by rw [List.take_take]; congr 1; omega
     rw [e3, h6, e1, List.take_append_of_le_length (Nat.le_of_eq e2.symm), List.take_of_length_le (Nat.le_of_eq e2)]
    rw [hpre]
    simp only [List.toList_toArray]
    rw [List.take_append_of_le_length (by rw [List.length_append, htk, hfl]; omega), List.take_of_length_le (by rw [List.length_append, htk, hfl]; omega)]
   ·rw [setRow_other w gb x _ (fun hxg => by subst hxg; rw [hgb] at hn; cases hn)]; exact hx
   ·obtain ⟨rfl, rfl⟩ := Q119 hx; exact hnew
   ·obtain ⟨rfl, rfl⟩ := Q119 hx; exact .inl ⟨_, hgb⟩
 ·have hz0 : xs.length - k.toNat = 0 := by omega
  have hsame : xs.take k.toNat ++ List.replicate (xs.length - k.toNat) z = xs := by
   rw [hz0, List.take_of_length_le (by omega)]; simp
  rw [hsame] at h
  refine ⟨.tuple #[], w, _, ?_, hs1, h⟩
  have hrun : (Builtin.clear_ #[t] ty #[.slice (sufA A c k.toNat F.sz) (xs.length - k.toNat) (c - k.toNat)]).run P w = .ok (.tuple #[]) w := by
   rw [hz0]
   cases sufA A c k.toNat F.sz <;> simp [Builtin.clear_, run_underlying hu]
  simp only [execOp, resolve, invoke, builtin, Sem.run_bind, Sem.run_pure, Result.andThen_ok, List.map_toArray, List.map_cons, List.map_nil, e0.ev hx, hrun]
end
end Go.Bw
