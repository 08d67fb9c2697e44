/- BisimClasses, part 4: walks and plain laws. Conditions: none. -/
import Derived.Test.YtbkooifhcekpmaaGreatDoorProg
import Derived.Deep.QuietTactic
import Derived.Maps.RangeRun
import Derived.Test.YtbkooifhcekpmaaGreatDoorBwBisimClassesC
set_option linter.unusedVariables false
set_option linter.unusedSimpArgs false
set_option linter.unusedSectionVars false
set_option maxRecDepth 100000
set_option maxHeartbeats 2000000
namespace Go.Bw
open Go Go.RowKit Go.Proofs
variable {R : Res} {Fr : List HProp} {b0 n0_0 c0_0 n0_3 c0_3 n0_4 c0_4 n0_5 c0_5 n0_6 c0_6 b0_7 n0 c0 n0_1 c0_1 b1 b1_c0 : Nat} {A0_0 A0_3 A0_4 A0_5 A0_6 A0 A0_1 : Option Addr}
structure Q4 where
 Kind : Int
 At : Int
 Text : Bs
 Number : Int
deriving Inhabited, DecidableEq
def Q4.fl : Fl Q4 := ⟨4, fun x => [i6 x.Kind, i6 x.At, .string ⟨(x.Text).toArray⟩, i6 x.Number], fun _ => rfl, fun x u hu => by simp at hu; rcases hu with rfl | rfl | rfl | rfl <;> rfl, by decide⟩
structure Q3 where
 At : Int
 Err : Int
deriving Inhabited, DecidableEq
def Q3.fl : Fl Q3 := ⟨2, fun x => [i6 x.At, i6 x.Err], fun _ => rfl, fun x u hu => by simp at hu; rcases hu with rfl | rfl <;> rfl, by decide⟩
structure Q6 where
 from_ : Int
 action : Bs
 to : Int
deriving Inhabited, DecidableEq
def Q6.fl : Fl Q6 := ⟨3, fun x => [i6 x.from_, .string ⟨(x.action).toArray⟩, i6 x.to], fun _ => rfl, fun x u hu => by simp at hu; rcases hu with rfl | rfl | rfl <;> rfl, by decide⟩
theorem bytealg_IndexByteString.ext : ExtOk Tryz.prog 168 Extern.BytealgIndexByte.indexByte := ⟨_, Tryz.func168, by kernel_rfl, by kernel_rfl, by kernel_rfl, by kernel_rfl⟩

noncomputable def Q128.f (a0 : Bs) (a1 : Int) : Option Int :=
 some (Lib.indexByte a0 a1.toNat.toUInt8)
theorem Q128.callee : Callee Tryz.prog 140 := ⟨_, Tryz.func140, by kernel_rfl, by kernel_rfl⟩
theorem Q128.spec {a0 : Bs} {a1 : Int} {r : Int} (j : Q128.f a0 a1 = some r) :
 Spec Tryz.prog 140 [.string ⟨(a0).toArray⟩, .int .u8 a1] R (Fr) (fun v l' => v = i6 r ∧ Fr = l') := by
 refine Spec.of Tryz.func140 rfl rfl ?_; unfold Q128.f at j; have j := brun j; refine sR 1 rfl (nT (sR 2 rfl ?_)); refine At.y (Y.ext bytealg_IndexByteString.ext rfl rfl (fun w => Q302 _ _ w)) rfl rfl rfl ?_; refine At.run 1 rfl (nT (At.ret ?_)); cases bret j; exact At.res (.inl rfl) rfl rfl ⟨rfl, rfl⟩

noncomputable def Q137.f (a0 : Bs) (a1 : Int) : Option Int :=
 (Q128.f a0 a1).bind fun p =>
 some p
theorem Q137.callee : Callee Tryz.prog 94 := ⟨_, Tryz.func94, by kernel_rfl, by kernel_rfl⟩
theorem Q137.spec {a0 : Bs} {a1 : Int} {r : Int} (j : Q137.f a0 a1 = some r) :
 Spec Tryz.prog 94 [.string ⟨(a0).toArray⟩, .int .u8 a1] R (Fr) (fun v l' => v = i6 r ∧ Fr = l') := by
 refine Spec.of Tryz.func94 rfl rfl ?_; unfold Q137.f at j; have j := brun j; refine sR 1 rfl (nT (sR 2 rfl ?_)); obtain ⟨q, p, j⟩ := bbind j; refine At.call rfl Q128.callee rfl rfl rfl (Q128.spec p) ?_; rintro _ _ ⟨rfl, rfl⟩; refine At.run 1 rfl (nT (At.ret ?_)); cases bret j; exact At.res (.inl rfl) rfl rfl ⟨rfl, rfl⟩

noncomputable def Q131.f (a0 : Int) : Option Int :=
 if a0 = 10 then
 some 1
 else
 jn (
 if 97 ≤ a0 then
 some (.inl (decide (a0 ≤ 122)))
 else
 some (.inl false)) (fun (p : Bool) =>
 if p = true then
 some 2
 else
 jn (
 if 65 ≤ a0 then
 some (.inl (decide (a0 ≤ 90)))
 else
 some (.inl false)) (fun (q : Bool) =>
 if q = true then
 some 3
 else
 jn (
 if 48 ≤ a0 then
 some (.inl (decide (a0 ≤ 57)))
 else
 some (.inl false)) (fun (u : Bool) =>
 if u = true then
 some 4
 else
 jn (
 if 32 < a0 then
 some (.inl (decide (a0 < 127)))
 else
 some (.inl false)) (fun (B : Bool) =>
 jn (
 if B = true then
 some (.inl (!(decide (a0 = 95))))
 else
 some (.inl false)) (fun (D : Bool) =>
 if D = true then
 some 5
 else
 some 0)))))
theorem Q131.callee : Callee Tryz.prog 141 := ⟨_, Tryz.func141, by kernel_rfl, by kernel_rfl⟩
theorem Q131.spec {a0 : Int} {r : Int} (j : Q131.f a0 = some r) :
 Spec Tryz.prog 141 [.int .u8 a0] R (Fr) (fun v l' => v = i6 r ∧ Fr = l') := by
 refine Spec.of Tryz.func141 rfl rfl ?_; unfold Q131.f at j; have j := brun j; refine sR 1 rfl (nT (At.seq ?_)); refine At.block ?_; refine sR 3 rfl (nT ?_); rcases bite j with ⟨E, j⟩ | ⟨E, j⟩
 ··refine At.condT rfl (decide_eq_true E) ?_
   refine sR 1 rfl (nT (At.ret ?_)); refine At.ibr ?_; refine At.thr ?_; cases bret j; exact At.res (.inl rfl) rfl rfl ⟨rfl, rfl⟩
 ··refine At.condF rfl (decide_eq_false E) ?_
   refine sR 3 rfl ?_; obtain ⟨a6, a7, c8, j⟩ := bjoin j; refine At.joinO 3 (X := Bool) (fun p => [(0, .int .u8 a0), (12, .bool p)]) (fun p => Fr) (fun p => a6 (.inl p) = some r) ?_ (fun a1 => ?_)
   ·rintro p j; have j := (a7 _).symm.trans j
    ·refine At.run 1 rfl (nT ?_); rcases bite j with ⟨G, j⟩ | ⟨G, j⟩
     ··refine At.condT rfl G ?_
       refine sR 1 rfl (nT (At.ret ?_)); refine At.ibr ?_; refine At.thr ?_; cases bret j; exact At.res (.inl rfl) rfl rfl ⟨rfl, rfl⟩
     ··refine At.condF rfl (bn G) ?_
       refine sR 3 rfl ?_; obtain ⟨a8, a9, c9, j⟩ := bjoin j; refine At.joinO 3 (X := Bool) (fun q => [(0, .int .u8 a0), (19, .bool q)]) (fun q => Fr) (fun q => a8 (.inl q) = some r) ?_ (fun a2 => ?_)
       ·rintro q j; have j := (a9 _).symm.trans j
        ·refine At.run 1 rfl (nT ?_); rcases bite j with ⟨I, j⟩ | ⟨I, j⟩
         ··refine At.condT rfl I ?_
           refine sR 1 rfl (nT (At.ret ?_)); refine At.ibr ?_; refine At.thr ?_; cases bret j; exact At.res (.inl rfl) rfl rfl ⟨rfl, rfl⟩
         ··refine At.condF rfl (bn I) ?_
           refine sR 3 rfl ?_; obtain ⟨b4, b5, d0, j⟩ := bjoin j; refine At.joinO 3 (X := Bool) (fun u => [(0, .int .u8 a0), (26, .bool u)]) (fun u => Fr) (fun u => b4 (.inl u) = some r) ?_ (fun a3 => ?_)
           ·rintro u j; have j := (b5 _).symm.trans j
            ·refine At.run 1 rfl (nT ?_); rcases bite j with ⟨J, j⟩ | ⟨J, j⟩
             ··refine At.condT rfl J ?_
               refine sR 1 rfl (nT (At.ret ?_)); refine At.ibr ?_; refine At.thr ?_; cases bret j; exact At.res (.inl rfl) rfl rfl ⟨rfl, rfl⟩
             ··refine At.condF rfl (bn J) ?_
               refine sR 3 rfl ?_; obtain ⟨b6, b7, d1, j⟩ := bjoin j; refine At.joinO 3 (X := Bool) (fun B => [(0, .int .u8 a0), (33, .bool B)]) (fun B => Fr) (fun B => b6 (.inl B) = some r) ?_ (fun a4 => ?_)
               ·rintro B j; have j := (b7 _).symm.trans j
                ·refine At.run 1 rfl ?_; obtain ⟨b8, b9, d2, j⟩ := bjoin j; refine At.joinO 3 (X := Bool) (fun D => [(37, .bool D)]) (fun D => Fr) (fun D => b8 (.inl D) = some r) ?_ (fun a5 => ?_)
                 ·rintro D j; have j := (b9 _).symm.trans j
                  ·refine At.run 1 rfl (nT ?_); rcases bite j with ⟨L, j⟩ | ⟨L, j⟩
                   ··refine At.condT rfl L ?_
                     refine sR 1 rfl (nT (At.ret ?_)); refine At.ibr ?_; refine At.thr ?_; cases bret j; exact At.res (.inl rfl) rfl rfl ⟨rfl, rfl⟩
                   ··refine At.condF rfl (bn L) ?_
                     refine At.skip ?_; refine At.ibn ?_; refine At.thn (sR 1 rfl (nT (At.ret ?_))); cases bret j; exact At.res (.inl rfl) rfl rfl ⟨rfl, rfl⟩
                 ··rcases bite j with ⟨N, j⟩ | ⟨N, j⟩
                   ··refine At.know (t := 34) rfl N ?_
                     refine At.run 3 rfl ?_; exact At.of (a5 (!(decide (a0 = 95))) j) ⟨rfl, trivial⟩
                   ··refine At.know (t := 34) rfl (bn N) ?_
                     refine At.run 3 rfl ?_; exact At.of (a5 false j) ⟨rfl, trivial⟩
               ··rcases bite j with ⟨O, j⟩ | ⟨O, j⟩
                 ··refine At.know (t := 30) rfl (decide_eq_true O) ?_
                   refine At.run 3 rfl ?_; exact At.of (a4 (decide (a0 < 127)) j) ⟨rfl, rfl, trivial⟩
                 ··refine At.know (t := 30) rfl (decide_eq_false O) ?_
                   refine At.run 3 rfl ?_; exact At.of (a4 false j) ⟨rfl, rfl, trivial⟩
           ··rcases bite j with ⟨U, j⟩ | ⟨U, j⟩
             ··refine At.know (t := 23) rfl (decide_eq_true U) ?_
               refine At.run 3 rfl ?_; exact At.of (a3 (decide (a0 ≤ 57)) j) ⟨rfl, rfl, trivial⟩
             ··refine At.know (t := 23) rfl (decide_eq_false U) ?_
               refine At.run 3 rfl ?_; exact At.of (a3 false j) ⟨rfl, rfl, trivial⟩
       ··rcases bite j with ⟨V, j⟩ | ⟨V, j⟩
         ··refine At.know (t := 16) rfl (decide_eq_true V) ?_
           refine At.run 3 rfl ?_; exact At.of (a2 (decide (a0 ≤ 90)) j) ⟨rfl, rfl, trivial⟩
         ··refine At.know (t := 16) rfl (decide_eq_false V) ?_
           refine At.run 3 rfl ?_; exact At.of (a2 false j) ⟨rfl, rfl, trivial⟩
   ··rcases bite j with ⟨Z, j⟩ | ⟨Z, j⟩
     ··refine At.know (t := 9) rfl (decide_eq_true Z) ?_
       refine At.run 3 rfl ?_; exact At.of (a1 (decide (a0 ≤ 122)) j) ⟨rfl, rfl, trivial⟩
     ··refine At.know (t := 9) rfl (decide_eq_false Z) ?_
       refine At.run 3 rfl ?_; exact At.of (a1 false j) ⟨rfl, rfl, trivial⟩

noncomputable def Q46.l0b (a1 : Bs) (p : Int) : Option ((Int) ⊕ ((Int) ⊕ ((Int) ⊕ (Int)))) :=
 jn (
 if p < (a1.length : Int) then
 if (0 : Int) ≤ p ∧ p < (a1.length : Int) then
 some (.inl (decide (48 ≤ bat a1 p)))
 else none
 else
 some (.inl false)) (fun (q : Bool) =>
 jn (
 if q = true then
 if (0 : Int) ≤ p ∧ p < (a1.length : Int) then
 some (.inl (decide (bat a1 p ≤ 57)))
 else none
 else
 some (.inl false)) (fun (u : Bool) =>
 if u = true then
 nx (IntKind.i64.wrap (p + 1))
 else
 dn (.inl p)))
noncomputable def Q46.l0 (a1 : Bs) (p : Int) : Option ((Int) ⊕ ((Int) ⊕ (Int))) := iter (fun t_ : Int => Q46.l0b a1 t_) p
noncomputable def Q46.l1b (a1 : Bs) (p : Int) : Option ((Int) ⊕ ((Int) ⊕ ((Int) ⊕ (Int)))) :=
 jn (
 if p < (a1.length : Int) then
 if (0 : Int) ≤ p ∧ p < (a1.length : Int) then
 jn (
 if bat a1 p = 95 then
 some (.inl (true, true))
 else
 jn (
 if 97 ≤ bat a1 p then
 some (.inl (true, decide (bat a1 p ≤ 122)))
 else
 some (.inl (false, false))) (fun (s_ : Bool × Bool) =>
 some (.inl (false, s_.2)))) (fun (s_ : Bool × Bool) =>
 jn (
 if s_.2 = true then
 some (.inl (true, true))
 else
 jn (
 if 65 ≤ bat a1 p then
 some (.inl (true, decide (bat a1 p ≤ 90)))
 else
 some (.inl (false, false))) (fun (s_ : Bool × Bool) =>
 some (.inl (false, s_.2)))) (fun (s_ : Bool × Bool) =>
 jn (
 if s_.2 = true then
 some (.inl (true, true))
 else
 jn (
 if 48 ≤ bat a1 p then
 some (.inl (true, decide (bat a1 p ≤ 57)))
 else
 some (.inl (false, false))) (fun (s_ : Bool × Bool) =>
 some (.inl (false, s_.2)))) (fun (s_ : Bool × Bool) =>
 some (.inl s_.2))))
 else none
 else
 some (.inl false)) (fun (q : Bool) =>
 if q = true then
 nx (IntKind.i64.wrap (p + 1))
 else
 dn (.inl p))
noncomputable def Q46.l1 (a1 : Bs) (p : Int) : Option ((Int) ⊕ ((Int) ⊕ (Int))) := iter (fun t_ : Int => Q46.l1b a1 t_) p
noncomputable def Q46.f (a0 : Int) (a1 : Bs) : Option Int :=
 jn (
 if a0 = 4 then
 jn (Q46.l0 a1 1) (fun (p : Int) =>
 some (.inl p))
 else
 jn (
 if a0 = 2 then
 some (.inl (decide (a0 = 2)))
 else
 some (.inl (decide (a0 = 3)))) (fun (q : Bool) =>
 if q = true then
 jn (Q46.l1 a1 1) (fun (u : Int) =>
 some (.inl u))
 else
 some (.inl 1))) (fun (B : Int) =>
 some B)
theorem Q46.callee : Callee Tryz.prog 142 := ⟨_, Tryz.func142, by kernel_rfl, by kernel_rfl⟩
theorem Q46.spec {a0 : Int} {a1 : Bs} {r : Int} (j : Q46.f a0 a1 = some r) :
 Spec Tryz.prog 142 [i6 a0, .string ⟨(a1).toArray⟩] R (Fr) (fun v l' => v = i6 r ∧ Fr = l') := by
 refine Spec.of Tryz.func142 rfl rfl ?_; unfold Q46.f at j; have j := brun j; refine sR 1 rfl (nT (sR 1 rfl ?_)); refine nT (At.seq (sR 1 rfl (nT ?_))); obtain ⟨e9, f0, k8, j⟩ := bjoin j; refine At.join (X := Int) (fun G => [(5, i6 G)]) (fun G => Fr) (fun G => e9 (.inl G) = some r) ?_ (fun a3 => ?_)
 ·rintro G j; have j := (f0 _).symm.trans j
  ·refine sR 2 rfl (nT (At.ret ?_)); cases bret j; exact At.res (.inl rfl) rfl rfl ⟨rfl, rfl⟩
 ··refine At.block ?_
   refine sR 2 rfl (nT ?_); rcases bite j with ⟨a4, j⟩ | ⟨a4, j⟩
   ··refine At.condT rfl (decide_eq_true a4) ?_
     refine At.block ?_; obtain ⟨f1, f2, k9, j⟩ := bjoin j; obtain ⟨V, a5, f3⟩ := bsome j; clear j; unfold Q46.l0 at a5; obtain ⟨a6, I⟩ := Q12.1 a5; clear a5; refine At.loopJ (X := Int) (Y := Int) (e0 := 1) (fun u => [(1, .string ⟨(a1).toArray⟩), (5, i6 u)]) (fun u => Fr) (fun m_ => fun u => iterN (fun t_ : Int => Q46.l0b a1 t_) m_ u = some V) a6 1 I (fun D => [(5, i6 D)]) (fun D => Fr) (fun D => f1 (.inl D) = some r) (fun a w e hs => ⟨e.sub ⟨rfl, rfl, trivial⟩, (by exact hs)⟩) ?_ (fun f4 => ?_)
     ·rintro D j; have j := (f2 _).symm.trans j
      ·refine At.ibx ?_; refine At.ibn ?_; refine At.thn ?_; exact fun a w e hs => a3 D j a w (e.sub ⟨rfl, trivial⟩) hs
     ·clear I a6; rintro a6 u I; obtain ⟨f5, f_, f6, hf_, j⟩ := bit I; clear I; have j : (Q46.l0b a1 u).bind _ = some V := j; unfold Q46.l0b at j
      ·refine At.seq (sR 5 rfl ?_); obtain ⟨f7, f8, m0, j⟩ := bjoin j; refine At.joinO 5 (X := Bool) (fun J => [(1, .string ⟨(a1).toArray⟩), (5, i6 u), (18, .bool J)]) (fun J => Fr) (fun J => f7 (.inl J) = some V) ?_ (fun d4 => ?_)
       ·rintro J j; have j := (f8 _).symm.trans j
        ·refine At.run 1 rfl ?_; obtain ⟨f9, g0, m1, j⟩ := bjoin j; refine At.joinO 5 (X := Bool) (fun L => [(1, .string ⟨(a1).toArray⟩), (5, i6 u), (24, .bool L)]) (fun L => Fr) (fun L => f9 (.inl L) = some V) ?_ (fun d5 => ?_)
         ·rintro L j; have j := (g0 _).symm.trans j
          ·refine nT ?_; rcases bite j with ⟨a7, j⟩ | ⟨a7, j⟩
           ··refine At.condT rfl a7 ?_
             refine At.skip (At.thn ?_); refine At.block ?_; refine At.region (At.run 3 rfl (At.nil ?_)); refine At.ibn ?_; have j := bnx hf_ j; exact fun a w e hs => ⟨f5, (IntKind.i64.wrap (u + 1)), f6, j, e.sub ⟨rfl, rfl, trivial⟩, hs⟩
           ··refine At.condF rfl (bn a7) ?_
             refine At.exit ?_; refine At.the ?_; refine At.the ?_; exact fun a w e hs => f4 u (bdn j f3) a w (e.sub ⟨rfl, trivial⟩) hs
         ··rcases bite j with ⟨a8, j⟩ | ⟨a8, j⟩
           ··refine At.know (t := 19) rfl a8 ?_
             refine At.run 2 rfl ?_; obtain ⟨d6, j⟩ := bnone j; refine At.y (Y.ixStr rfl rfl rfl rfl d6.1 d6.2) rfl rfl rfl (At.run 2 rfl ?_); exact At.of (d5 (decide (bat a1 u ≤ 57)) j) ⟨rfl, rfl, rfl, trivial⟩
           ··refine At.know (t := 19) rfl (bn a8) ?_
             refine At.run 5 rfl ?_; exact At.of (d5 false j) ⟨rfl, rfl, rfl, trivial⟩
       ··rcases bite j with ⟨a9, j⟩ | ⟨a9, j⟩
         ··refine At.know (t := 13) rfl (decide_eq_true a9) ?_
           refine At.run 2 rfl ?_; obtain ⟨d7, j⟩ := bnone j; refine At.y (Y.ixStr rfl rfl rfl rfl d7.1 d7.2) rfl rfl rfl (At.run 2 rfl ?_); exact At.of (d4 (decide (48 ≤ bat a1 u)) j) ⟨rfl, rfl, rfl, trivial⟩
         ··refine At.know (t := 13) rfl (decide_eq_false a9) ?_
           refine At.run 5 rfl ?_; exact At.of (d4 false j) ⟨rfl, rfl, rfl, trivial⟩
   ··refine At.condF rfl (decide_eq_false a4) ?_
     refine At.seq (sR 2 rfl (nT ?_)); obtain ⟨g1, g2, m2, j⟩ := bjoin j; refine At.join (X := Bool) (fun N => [(1, .string ⟨(a1).toArray⟩), (5, i6 1), (27, .bool N)]) (fun N => Fr) (fun N => g1 (.inl N) = some r) ?_ (fun d8 => ?_)
     ·rintro N j; have j := (g2 _).symm.trans j
      ·rcases bite j with ⟨b4, j⟩ | ⟨b4, j⟩
       ··refine At.condT rfl b4 ?_
         refine At.block ?_; obtain ⟨g3, g4, m3, j⟩ := bjoin j; obtain ⟨B, b5, g5⟩ := bsome j; clear j; unfold Q46.l1 at b5; obtain ⟨b6, O⟩ := Q12.1 b5; clear b5; refine At.loopJ (X := Int) (Y := Int) (e0 := 3) (fun p => [(1, .string ⟨(a1).toArray⟩), (5, i6 p)]) (fun p => Fr) (fun m_ => fun p => iterN (fun t_ : Int => Q46.l1b a1 t_) m_ p = some B) b6 1 O (fun E => [(5, i6 E)]) (fun E => Fr) (fun E => g3 (.inl E) = some r) (fun a w e hs => ⟨e.sub ⟨rfl, rfl, trivial⟩, (by exact hs)⟩) ?_ (fun g6 => ?_)
         ·rintro E j; have j := (g4 _).symm.trans j
          ·refine At.ibx ?_; refine At.ibn ?_; refine At.thn ?_; exact fun a w e hs => a3 E j a w (e.sub ⟨rfl, trivial⟩) hs
         ·clear O b6; rintro b6 p O; obtain ⟨g7, f_, g8, hf_, j⟩ := bit O; clear O; have j : (Q46.l1b a1 p).bind _ = some B := j; unfold Q46.l1b at j
          ·refine At.seq (sR 5 rfl ?_); obtain ⟨g9, h0, m4, j⟩ := bjoin j; refine At.joinO 41 (X := Bool) (fun U => [(1, .string ⟨(a1).toArray⟩), (5, i6 p), (75, .bool U)]) (fun U => Fr) (fun U => g9 (.inl U) = some B) ?_ (fun d9 => ?_)
           ·rintro U j; have j := (h0 _).symm.trans j
            ·refine nT ?_; rcases bite j with ⟨b7, j⟩ | ⟨b7, j⟩
             ··refine At.condT rfl b7 ?_
               refine At.skip (At.thn ?_); refine At.block ?_; refine At.region (At.run 3 rfl (At.nil ?_)); refine At.ibn ?_; have j := bnx hf_ j; exact fun a w e hs => ⟨g7, (IntKind.i64.wrap (p + 1)), g8, j, e.sub ⟨rfl, rfl, trivial⟩, hs⟩
             ··refine At.condF rfl (bn b7) ?_
               refine At.exit ?_; refine At.the ?_; refine At.the ?_; exact fun a w e hs => g6 p (bdn j g5) a w (e.sub ⟨rfl, trivial⟩) hs
           ··rcases bite j with ⟨b8, j⟩ | ⟨b8, j⟩
             ··refine At.know (t := 34) rfl (decide_eq_true b8) ?_
               refine At.run 2 rfl ?_; obtain ⟨q, j⟩ := bnone j; refine At.y (Y.ixStr rfl rfl rfl rfl q.1 q.2) rfl rfl rfl (At.run 2 rfl ?_); obtain ⟨h1, h2, m5, j⟩ := bjoin j; refine At.joinO 11 (X := Bool × Bool) (fun s_ => [(1, .string ⟨(a1).toArray⟩), (5, i6 p), (34, .bool true), (35, .string ⟨(a1).toArray⟩), (36, i6 p), (37, .int .u8 (bat a1 p)), (38, .bool (decide (bat a1 p = 95))), (39, .bool s_.1), (50, .bool s_.2)]) (fun s_ => Fr) (fun s_ => h1 (.inl (s_.1, s_.2)) = some B) ?_ (fun e1 => ?_)
               ·rintro ⟨Z, a2⟩ j; have j := (h2 _).symm.trans j
                ·refine At.run 1 rfl ?_; obtain ⟨h3, h4, m6, j⟩ := bjoin j; refine At.joinO 11 (X := Bool × Bool) (fun s_ => [(1, .string ⟨(a1).toArray⟩), (5, i6 p), (34, .bool true), (35, .string ⟨(a1).toArray⟩), (36, i6 p), (37, .int .u8 (bat a1 p)), (38, .bool (decide (bat a1 p = 95))), (39, .bool Z), (50, .bool a2), (51, .bool s_.1), (62, .bool s_.2)]) (fun s_ => Fr) (fun s_ => h3 (.inl (s_.1, s_.2)) = some B) ?_ (fun e2 => ?_)
                 ·rintro ⟨e3, e4⟩ j; have j := (h4 _).symm.trans j
                  ·refine At.run 1 rfl ?_; obtain ⟨h5, h6, m7, j⟩ := bjoin j; refine At.joinO 11 (X := Bool × Bool) (fun s_ => [(1, .string ⟨(a1).toArray⟩), (5, i6 p), (34, .bool true), (35, .string ⟨(a1).toArray⟩), (36, i6 p), (37, .int .u8 (bat a1 p)), (38, .bool (decide (bat a1 p = 95))), (39, .bool Z), (50, .bool a2), (51, .bool e3), (62, .bool e4), (63, .bool s_.1), (74, .bool s_.2)]) (fun s_ => Fr) (fun s_ => h5 (.inl (s_.1, s_.2)) = some B) ?_ (fun e5 => ?_)
                   ·rintro ⟨m8, h7⟩ j; have j := (h6 _).symm.trans j
                    ·refine At.run 1 rfl ?_; exact At.of (d9 h7 j) ⟨rfl, rfl, rfl, trivial⟩
                   ··rcases bite j with ⟨b9, j⟩ | ⟨b9, j⟩
                     ··refine At.know (t := 63) rfl b9 ?_
                       refine At.run 11 rfl ?_; exact At.of (e5 (true, true) j) ⟨rfl, rfl, rfl, rfl, rfl, rfl, rfl, rfl, rfl, rfl, rfl, rfl, rfl, trivial⟩
                     ··refine At.know (t := 63) rfl (bn b9) ?_
                       refine At.run 2 rfl (At.y (Y.ixStr rfl rfl rfl rfl q.1 q.2) rfl rfl rfl (At.run 2 rfl ?_)); obtain ⟨h8, h9, m9, j⟩ := bjoin j; refine At.joinO 5 (X := Bool × Bool) (fun s_ => [(1, .string ⟨(a1).toArray⟩), (5, i6 p), (34, .bool true), (35, .string ⟨(a1).toArray⟩), (36, i6 p), (37, .int .u8 (bat a1 p)), (38, .bool (decide (bat a1 p = 95))), (39, .bool Z), (50, .bool a2), (51, .bool e3), (62, .bool e4), (63, .bool false), (64, .string ⟨(a1).toArray⟩), (65, i6 p), (66, .int .u8 (bat a1 p)), (67, .bool (decide (48 ≤ bat a1 p))), (68, .bool s_.1), (73, .bool s_.2)]) (fun s_ => Fr) (fun s_ => h8 (.inl (s_.1, s_.2)) = some B) ?_ (fun e6 => ?_)
                       ·rintro ⟨n2, k1⟩ j; have j := (h9 _).symm.trans j
                        ·refine At.run 1 rfl ?_; exact At.of (e5 (false, k1) j) ⟨rfl, rfl, rfl, rfl, rfl, rfl, rfl, rfl, rfl, rfl, rfl, rfl, rfl, trivial⟩
                       ··rcases bite j with ⟨c8, j⟩ | ⟨c8, j⟩
                         ··refine At.know (t := 68) rfl (decide_eq_true c8) ?_
                           refine At.run 2 rfl (At.y (Y.ixStr rfl rfl rfl rfl q.1 q.2) rfl rfl rfl (At.run 2 rfl ?_)); exact At.of (e6 (true, decide (bat a1 p ≤ 57)) j) ⟨rfl, rfl, rfl, rfl, rfl, rfl, rfl, rfl, rfl, rfl, rfl, rfl, rfl, rfl, rfl, rfl, rfl, rfl, trivial⟩
                         ··refine At.know (t := 68) rfl (decide_eq_false c8) ?_
                           refine At.run 5 rfl ?_; exact At.of (e6 (false, false) j) ⟨rfl, rfl, rfl, rfl, rfl, rfl, rfl, rfl, rfl, rfl, rfl, rfl, rfl, rfl, rfl, rfl, rfl, rfl, trivial⟩
                 ··rcases bite j with ⟨c9, j⟩ | ⟨c9, j⟩
                   ··refine At.know (t := 51) rfl c9 ?_
                     refine At.run 11 rfl ?_; exact At.of (e2 (true, true) j) ⟨rfl, rfl, rfl, rfl, rfl, rfl, rfl, rfl, rfl, rfl, rfl, trivial⟩
                   ··refine At.know (t := 51) rfl (bn c9) ?_
                     refine At.run 2 rfl (At.y (Y.ixStr rfl rfl rfl rfl q.1 q.2) rfl rfl rfl (At.run 2 rfl ?_)); obtain ⟨k2, k3, n3, j⟩ := bjoin j; refine At.joinO 5 (X := Bool × Bool) (fun s_ => [(1, .string ⟨(a1).toArray⟩), (5, i6 p), (34, .bool true), (35, .string ⟨(a1).toArray⟩), (36, i6 p), (37, .int .u8 (bat a1 p)), (38, .bool (decide (bat a1 p = 95))), (39, .bool Z), (50, .bool a2), (51, .bool false), (52, .string ⟨(a1).toArray⟩), (53, i6 p), (54, .int .u8 (bat a1 p)), (55, .bool (decide (65 ≤ bat a1 p))), (56, .bool s_.1), (61, .bool s_.2)]) (fun s_ => Fr) (fun s_ => k2 (.inl (s_.1, s_.2)) = some B) ?_ (fun e7 => ?_)
                     ·rintro ⟨n4, k4⟩ j; have j := (k3 _).symm.trans j
                      ·refine At.run 1 rfl ?_; exact At.of (e2 (false, k4) j) ⟨rfl, rfl, rfl, rfl, rfl, rfl, rfl, rfl, rfl, rfl, rfl, trivial⟩
                     ··rcases bite j with ⟨d0, j⟩ | ⟨d0, j⟩
                       ··refine At.know (t := 56) rfl (decide_eq_true d0) ?_
                         refine At.run 2 rfl (At.y (Y.ixStr rfl rfl rfl rfl q.1 q.2) rfl rfl rfl (At.run 2 rfl ?_)); exact At.of (e7 (true, decide (bat a1 p ≤ 90)) j) ⟨rfl, rfl, rfl, rfl, rfl, rfl, rfl, rfl, rfl, rfl, rfl, rfl, rfl, rfl, rfl, rfl, trivial⟩
                       ··refine At.know (t := 56) rfl (decide_eq_false d0) ?_
                         refine At.run 5 rfl ?_; exact At.of (e7 (false, false) j) ⟨rfl, rfl, rfl, rfl, rfl, rfl, rfl, rfl, rfl, rfl, rfl, rfl, rfl, rfl, rfl, rfl, trivial⟩
               ··rcases bite j with ⟨d1, j⟩ | ⟨d1, j⟩
                 ··refine At.know (t := 39) rfl (decide_eq_true d1) ?_
                   refine At.run 11 rfl ?_; exact At.of (e1 (true, true) j) ⟨rfl, rfl, rfl, rfl, rfl, rfl, rfl, rfl, rfl, trivial⟩
                 ··refine At.know (t := 39) rfl (decide_eq_false d1) ?_
                   refine At.run 2 rfl (At.y (Y.ixStr rfl rfl rfl rfl q.1 q.2) rfl rfl rfl (At.run 2 rfl ?_)); obtain ⟨k5, k6, n5, j⟩ := bjoin j; refine At.joinO 5 (X := Bool × Bool) (fun s_ => [(1, .string ⟨(a1).toArray⟩), (5, i6 p), (34, .bool true), (35, .string ⟨(a1).toArray⟩), (36, i6 p), (37, .int .u8 (bat a1 p)), (38, .bool (decide (bat a1 p = 95))), (39, .bool false), (40, .string ⟨(a1).toArray⟩), (41, i6 p), (42, .int .u8 (bat a1 p)), (43, .bool (decide (97 ≤ bat a1 p))), (44, .bool s_.1), (49, .bool s_.2)]) (fun s_ => Fr) (fun s_ => k5 (.inl (s_.1, s_.2)) = some B) ?_ (fun e8 => ?_)
                   ·rintro ⟨n6, k7⟩ j; have j := (k6 _).symm.trans j
                    ·refine At.run 1 rfl ?_; exact At.of (e1 (false, k7) j) ⟨rfl, rfl, rfl, rfl, rfl, rfl, rfl, rfl, rfl, trivial⟩
                   ··rcases bite j with ⟨d2, j⟩ | ⟨d2, j⟩
                     ··refine At.know (t := 44) rfl (decide_eq_true d2) ?_
                       refine At.run 2 rfl (At.y (Y.ixStr rfl rfl rfl rfl q.1 q.2) rfl rfl rfl (At.run 2 rfl ?_)); exact At.of (e8 (true, decide (bat a1 p ≤ 122)) j) ⟨rfl, rfl, rfl, rfl, rfl, rfl, rfl, rfl, rfl, rfl, rfl, rfl, rfl, rfl, trivial⟩
                     ··refine At.know (t := 44) rfl (decide_eq_false d2) ?_
                       refine At.run 5 rfl ?_; exact At.of (e8 (false, false) j) ⟨rfl, rfl, rfl, rfl, rfl, rfl, rfl, rfl, rfl, rfl, rfl, rfl, rfl, rfl, trivial⟩
             ··refine At.know (t := 34) rfl (decide_eq_false b8) ?_
               refine At.run 41 rfl ?_; exact At.of (d9 false j) ⟨rfl, rfl, rfl, trivial⟩
       ··refine At.condF rfl (bn b4) ?_
         refine At.skip ?_; refine At.ibn ?_; refine At.thn ?_; exact fun a w e hs => a3 1 j a w (e.sub ⟨rfl, trivial⟩) hs
     ··rcases bite j with ⟨d3, j⟩ | ⟨d3, j⟩
       ··refine At.condT rfl (decide_eq_true d3) ?_
         refine At.skip (At.thn ?_); exact fun a w e hs => d8 (decide (a0 = 2)) j a w (e.sub ⟨rfl, rfl, rfl, trivial⟩) hs
       ··refine At.condF rfl (decide_eq_false d3) ?_
         refine At.region (At.run 2 rfl (nT ?_)); exact fun a w e hs => d8 (decide (a0 = 3)) j a w (e.sub ⟨rfl, rfl, rfl, trivial⟩) hs

noncomputable def Q76.l0b (a0 : Bs) (q p : Int) : Option ((Int × Int) ⊕ ((Int) ⊕ (Bool × Int))) :=
 if p < (a0.length : Int) then
 if (0 : Int) ≤ p ∧ p < (a0.length : Int) then
 nx (IntKind.i64.wrap (IntKind.i64.wrap (10 * q) + (IntKind.i64.wrap (IntKind.u8.wrap (bat a0 p - 48)))), IntKind.i64.wrap (p + 1))
 else none
 else
 dn (.inl q)
noncomputable def Q76.l0 (a0 : Bs) (p q : Int) : Option ((Int) ⊕ (Bool × Int)) := iter (fun t_ : Int × Int => Q76.l0b a0 t_.1 t_.2) (p, q)
noncomputable def Q76.f (a0 : Bs) : Option (Bool × Int) :=
 jn (
 if 4 < (a0.length : Int) then
 some (.inl true)
 else
 jn (
 if 1 < (a0.length : Int) then
 if (0 : Int) ≤ 0 ∧ 0 < (a0.length : Int) then
 some (.inl (decide (bat a0 0 = 48)))
 else none
 else
 some (.inl false)) (fun (q : Bool) =>
 some (.inl q))) (fun (u : Bool) =>
 if u = true then
 some (false, 0)
 else
 jn (Q76.l0 a0 0 0) (fun (p : Int) =>
 some (decide (p ≤ 9999), p)))
theorem Q76.callee : Callee Tryz.prog 143 := ⟨_, Tryz.func143, by kernel_rfl, by kernel_rfl⟩
theorem Q76.spec {a0 : Bs} {r : Bool × Int} (j : Q76.f a0 = some r) :
 Spec Tryz.prog 143 [.string ⟨(a0).toArray⟩] R (Fr) (fun v l' => v = .tuple #[i6 r.2, .bool r.1] ∧ Fr = l') := by
 refine Spec.of Tryz.func143 rfl rfl ?_; unfold Q76.f at j; have j := brun j; refine sR 2 rfl (nT (At.seq (At.seq (At.region ?_)))); refine At.run 4 rfl ?_; obtain ⟨a3, a4, b7, j⟩ := bjoin j; refine At.joinO 9 (X := Bool) (fun q => [(0, .string ⟨(a0).toArray⟩), (18, .bool q)]) (fun q => Fr) (fun q => a3 (.inl q) = some r) ?_ (fun U => ?_)
 ·rintro q j; have j := (a4 _).symm.trans j
  ·refine nT ?_; rcases bite j with ⟨D, j⟩ | ⟨D, j⟩
   ··refine At.condT rfl D ?_
     refine sR 2 rfl (nT (At.ret (At.thr ?_))); cases bret j; exact At.res (.inl rfl) rfl rfl ⟨rfl, rfl⟩
   ··refine At.condF rfl (bn D) ?_
     refine At.skip (At.thn (sR 1 rfl (nT (At.seq ?_)))); refine sR 3 rfl (nT ?_); refine At.block ?_; obtain ⟨a5, a6, b8, j⟩ := bjoin j; obtain ⟨V, E, a7⟩ := bsome j; clear j; unfold Q76.l0 at E; obtain ⟨G, u⟩ := Q12.1 E; clear E; refine At.loopJ (X := Int × Int) (Y := Int) (e0 := 0) (fun s_ => [(0, .string ⟨(a0).toArray⟩), (4, i6 s_.1), (20, i6 (a0.length : Int)), (21, i6 s_.2)]) (fun s_ => Fr) (fun m_ => fun s_ => iterN (fun t_ : Int × Int => Q76.l0b a0 t_.1 t_.2) m_ (s_.1, s_.2) = some V) G (0, 0) u (fun B => [(4, i6 B)]) (fun B => Fr) (fun B => a5 (.inl B) = some r) (fun a w e hs => ⟨e.sub ⟨rfl, rfl, rfl, rfl, trivial⟩, (by exact hs)⟩) ?_ (fun a8 => ?_)
     ·rintro B j; have j := (a6 _).symm.trans j
      ·refine At.ibx ?_; refine At.thn (sR 5 rfl (nT (At.ret ?_))); cases bret j; exact At.res (.inl rfl) rfl rfl ⟨rfl, rfl⟩
     ·clear u G; rintro G ⟨I, J⟩ u; obtain ⟨a9, f_, b4, hf_, j⟩ := bit u; clear u; have j : (Q76.l0b a0 I J).bind _ = some V := j; unfold Q76.l0b at j
      ·refine sR 1 rfl (nT (At.seq ?_)); rcases bite j with ⟨L, j⟩ | ⟨L, j⟩
       ··refine At.condT rfl (decide_eq_true L) ?_
         refine At.skip (At.thn (At.seq ?_)); refine At.block ?_; refine sR 2 rfl (nT (At.region (At.run 4 rfl ?_))); obtain ⟨Z, j⟩ := bnone j; refine At.y (Y.ixStr rfl rfl rfl rfl Z.1 Z.2) rfl rfl rfl (At.run 4 rfl (At.nil ?_)); refine At.ibn ?_; refine At.thn (At.region (At.run 2 rfl (At.nil ?_))); have j := bnx hf_ j; exact fun a w e hs => ⟨a9, (IntKind.i64.wrap (IntKind.i64.wrap (10 * I) + (IntKind.i64.wrap (IntKind.u8.wrap (bat a0 J - 48)))), IntKind.i64.wrap (J + 1)), b4, j, e.sub ⟨rfl, rfl, rfl, rfl, trivial⟩, hs⟩
       ··refine At.condF rfl (decide_eq_false L) ?_
         refine At.exit ?_; refine At.the ?_; refine At.the ?_; exact fun a w e hs => a8 I (bdn j a7) a w (e.sub ⟨rfl, trivial⟩) hs
 ··rcases bite j with ⟨N, j⟩ | ⟨N, j⟩
   ··refine At.know (t := 9) rfl (decide_eq_true N) ?_
     refine At.run 9 rfl ?_; exact At.of (U true j) ⟨rfl, rfl, trivial⟩
   ··refine At.know (t := 9) rfl (decide_eq_false N) ?_
     refine At.run 4 rfl ?_; obtain ⟨b5, b6, b9, j⟩ := bjoin j; refine At.joinO 4 (X := Bool) (fun p => [(0, .string ⟨(a0).toArray⟩), (9, .bool false), (17, .bool p)]) (fun p => Fr) (fun p => b5 (.inl p) = some r) ?_ (fun a1 => ?_)
     ·rintro p j; have j := (b6 _).symm.trans j
      ·refine At.run 1 rfl ?_; exact At.of (U p j) ⟨rfl, rfl, trivial⟩
     ··rcases bite j with ⟨O, j⟩ | ⟨O, j⟩
       ··refine At.know (t := 13) rfl (decide_eq_true O) ?_
         refine At.run 1 rfl ?_; obtain ⟨a2, j⟩ := bnone j; refine At.y (Y.ixStr rfl rfl rfl rfl a2.1 a2.2) rfl rfl rfl (At.run 2 rfl ?_); exact At.of (a1 (decide (bat a0 0 = 48)) j) ⟨rfl, rfl, rfl, trivial⟩
       ··refine At.know (t := 13) rfl (decide_eq_false O) ?_
         refine At.run 4 rfl ?_; exact At.of (a1 false j) ⟨rfl, rfl, rfl, trivial⟩

noncomputable def Q135.f (a0 : Bs) (a1 : Int) : Option (Int × Int × Int × Bs × Int) :=
 if (0 : Int) ≤ a1 ∧ a1 < (a0.length : Int) then
 (Q131.f (bat a0 a1)).bind fun p =>
 if (0 : Int) ≤ a1 ∧ a1 ≤ (a0.length : Int) then
 (Q46.f p (a0.drop a1.toNat)).bind fun q =>
 if (0 : Int) ≤ a1 ∧ a1 ≤ IntKind.i64.wrap (a1 + q) ∧ IntKind.i64.wrap (a1 + q) ≤ (a0.length : Int) then
 jn (
 if p = 0 then
 up (some (3, p, a1, (bsl a0 a1 (IntKind.i64.wrap (a1 + q))), 0))
 else
 jn (
 if p = 2 then
 some (.inl (decide (p = 2)))
 else
 some (.inl (decide (p = 3)))) (fun (B : Bool) =>
 if B = true then
 if 8 < ((bsl a0 a1 (IntKind.i64.wrap (a1 + q))).length : Int) then
 up (some (5, p, a1, (bsl a0 a1 (IntKind.i64.wrap (a1 + q))), 0))
 else
 some (.inl 0)
 else
 if p = 4 then
 (Q76.f (bsl a0 a1 (IntKind.i64.wrap (a1 + q)))).bind fun u =>
 if u.1 = true then
 some (.inl u.2)
 else
 up (some (4, p, a1, (bsl a0 a1 (IntKind.i64.wrap (a1 + q))), 0))
 else
 some (.inl 0))) (fun (D : Int) =>
 some (0, p, a1, (bsl a0 a1 (IntKind.i64.wrap (a1 + q))), D))
 else none
 else none
 else none
theorem Q135.callee : Callee Tryz.prog 95 := ⟨_, Tryz.func95, by kernel_rfl, by kernel_rfl⟩
theorem Q135.spec {a0 : Bs} {a1 : Int} {r : Int × Int × Int × Bs × Int} (j : Q135.f a0 a1 = some r) :
 Spec Tryz.prog 95 [.string ⟨(a0).toArray⟩, i6 a1] R (Fr) (fun v l' => v = .tuple #[.agg #[i6 r.2.1, i6 r.2.2.1, .string ⟨(r.2.2.2.1).toArray⟩, i6 r.2.2.2.2], i6 r.1] ∧ Fr = l') := by
 refine Spec.of Tryz.func95 rfl rfl ?_; unfold Q135.f at j; have j := brun j; refine At.seq (At.region ?_); refine At.alloc rfl rfl rfl (fun B => ?_); refine At.run 1 rfl (nT (sR 2 rfl ?_)); obtain ⟨Z, j⟩ := bnone j; refine At.y (Y.ixStr rfl rfl rfl rfl Z.1 Z.2) rfl rfl rfl ?_; obtain ⟨p, a5, j⟩ := bbind j; refine At.call rfl Q131.callee rfl rfl rfl (Q131.spec a5) ?_; rintro _ _ ⟨rfl, rfl⟩; refine At.run 1 rfl ?_; refine At.y (Y.build (is := [0, 1]) (xo := [.tmp 12, .tmp 13]) (vs := [i6 p, i6 a1]) (cs := [i6 p, i6 a1, .string ⟨(([] : Bs)).toArray⟩, i6 0]) rfl rfl rfl rfl rfl rfl) rfl rfl rfl ?_; refine At.alloc rfl rfl rfl (fun D => ?_); refine At.store rfl rfl rfl rfl .z rfl rfl rfl (.c (.c (.c (.c .n)))) ?_; refine nT (At.seq ?_); refine At.held [pc B [i6 0, i6 0, .string ⟨(([] : Bs)).toArray⟩, i6 0] 116] 13 rfl ?_; refine At.H.pw 0 rfl rfl rfl rfl rfl (.c (.s .z) .n) ?_; refine At.H.pw 1 rfl rfl rfl rfl rfl (.c (.s .z) .n) ?_; refine At.H.pw 2 rfl rfl rfl rfl rfl (.c (.s .z) .n) ?_; refine At.H.pw 3 rfl rfl rfl rfl rfl (.c (.s .z) .n) ?_; refine At.H.pw 5 rfl rfl rfl rfl rfl (.c (.s .z) .n) ?_; refine At.H.pw 6 rfl rfl rfl rfl rfl (.c (.s .z) .n) ?_; obtain ⟨a2, j⟩ := bnone j; refine At.H.tw 7 rfl (Y.slStrL rfl rfl rfl rfl a2.1 a2.2) rfl rfl rfl (.c (.s .z) .n) ?_; refine At.H.al [4] (Q7 ?_ Q11)
 ··refine At.HO.op rfl ?_
   refine At.y (Y.load rfl rfl .z rfl rfl rfl) rfl rfl rfl ?_; refine At.HO.back (.c (.s .z) .n) ?_; refine At.H.al [8] (Q7 ?_ Q11)
   ··refine At.HO.op rfl ?_
     obtain ⟨a3, a6, j⟩ := bbind j; refine At.call rfl Q46.callee rfl rfl rfl (Q46.spec a6) ?_; rintro _ _ ⟨rfl, rfl⟩; refine At.HO.back (.c (.s .z) .n) ?_; refine At.H.pw 9 rfl rfl rfl rfl rfl (.c (.s .z) .n) ?_; obtain ⟨E, j⟩ := bnone j; refine At.H.tw 10 rfl (Y.slStrLH rfl rfl rfl rfl rfl E.1 E.2.1 E.2.2) rfl rfl rfl (.c (.s .z) .n) ?_; refine At.H.pw 11 rfl rfl rfl rfl rfl (.c (.s .z) .n) ?_; refine At.H.al [12] (Q7 ?_ Q11)
     ··refine At.HO.op rfl ?_
       refine At.store rfl rfl rfl rfl .z rfl rfl rfl (.s (.s (.c .n))) ?_; refine At.HO.back (.c (.s .z) .n) ?_; refine At.H.done (by kernel_rfl) ?_; refine At.thn (At.seq (sR 1 rfl (At.y (Y.load rfl rfl .z rfl rfl rfl) rfl rfl rfl (nT ?_)))); obtain ⟨a7, a8, G, j⟩ := bjoin j; let T1 : HProp := pc B [i6 0, i6 0, .string ⟨(([] : Bs)).toArray⟩, i6 0] 116; refine At.join (X := Int) (fun q => [(4, bp B), (6, bp D)]) (fun q => pc D [i6 p, i6 a1, .string ⟨((bsl a0 a1 (IntKind.i64.wrap (a1 + a3)))).toArray⟩, i6 q] 116 :: T1 :: Fr) (fun q => a7 (.inl q) = some r) ?_ (fun I => ?_)
       ·rintro q j; have j := (a8 _).symm.trans j
        ·refine At.seq (At.region (At.y (Y.load rfl rfl .z rfl rfl rfl) rfl rfl rfl ?_)); refine At.store rfl rfl rfl rfl (.s .z) rfl rfl rfl (.c (.c (.c (.c .n)))) ?_; refine At.run 1 rfl (nT (At.ret ?_)); refine At.resM (.inl rfl) rfl (RV.cell rfl rfl .z rfl rfl rfl (RV.tmp rfl RV.nil)) ?_; refine At.drop .z (At.drop .z ?_); cases bret j; exact fun a w e hs => ⟨_, ⟨rfl, rfl⟩, hs⟩
       ··refine At.block ?_
         refine sR 2 rfl (nT ?_); rcases bite j with ⟨J, j⟩ | ⟨J, j⟩
         ··refine At.condT rfl (decide_eq_true J) ?_
           refine At.seq (At.region (At.y (Y.load rfl rfl .z rfl rfl rfl) rfl rfl rfl ?_)); refine At.store rfl rfl rfl rfl (.s .z) rfl rfl rfl (.c (.c (.c (.c .n)))) ?_; refine At.run 1 rfl (nT (At.ret ?_)); refine At.ibr ?_; have j := bup G j; refine At.thr ?_; refine At.resM (.inl rfl) rfl (RV.cell rfl rfl .z rfl rfl rfl (RV.tmp rfl RV.nil)) ?_; refine At.drop .z (At.drop .z ?_); cases bret j; exact fun a w e hs => ⟨_, ⟨rfl, rfl⟩, hs⟩
         ··refine At.condF rfl (decide_eq_false J) ?_
           refine At.seq (sR 2 rfl (nT ?_)); obtain ⟨a9, b4, b7, j⟩ := bjoin j; let T2 : HProp := pc D [i6 p, i6 a1, .string ⟨((bsl a0 a1 (IntKind.i64.wrap (a1 + a3)))).toArray⟩, i6 0] 116; refine At.join (X := Bool) (fun u => [(4, bp B), (6, bp D), (28, i6 p), (32, .bool u)]) (fun u => T2 :: T1 :: Fr) (fun u => a9 (.inl u) = some r) ?_ (fun a4 => ?_)
           ·rintro u j; have j := (b4 _).symm.trans j
            ·rcases bite j with ⟨L, j⟩ | ⟨L, j⟩
             ··refine At.condT rfl L ?_
               refine sR 1 rfl (At.y (Y.load rfl rfl .z rfl rfl rfl) rfl rfl rfl (At.run 2 rfl (nT ?_))); rcases bite j with ⟨N, j⟩ | ⟨N, j⟩
               ··refine At.condT rfl (decide_eq_true N) ?_
                 refine At.seq (At.region (At.y (Y.load rfl rfl .z rfl rfl rfl) rfl rfl rfl ?_)); refine At.store rfl rfl rfl rfl (.s .z) rfl rfl rfl (.c (.c (.c (.c .n)))) ?_; refine At.run 1 rfl (nT (At.ret ?_)); refine At.ibr ?_; have j := bup G j; refine At.thr ?_; refine At.resM (.inl rfl) rfl (RV.cell rfl rfl .z rfl rfl rfl (RV.tmp rfl RV.nil)) ?_; refine At.drop .z (At.drop .z ?_); cases bret j; exact fun a w e hs => ⟨_, ⟨rfl, rfl⟩, hs⟩
               ··refine At.condF rfl (decide_eq_false N) ?_
                 refine At.skip ?_; refine At.ibn ?_; refine At.thn ?_; exact fun a w e hs => I 0 j a w (e.sub ⟨rfl, rfl, trivial⟩) hs
             ··refine At.condF rfl (bn L) ?_
               refine sR 2 rfl (nT ?_); rcases bite j with ⟨O, j⟩ | ⟨O, j⟩
               ··refine At.condT rfl (decide_eq_true O) ?_
                 refine sR 1 rfl (At.y (Y.load rfl rfl .z rfl rfl rfl) rfl rfl rfl ?_); obtain ⟨b5, b6, j⟩ := bbind j; refine At.call rfl Q76.callee rfl rfl rfl (Q76.spec b6) ?_; rintro _ _ ⟨rfl, rfl⟩; refine At.run 5 rfl (nT (At.seq (sR 2 rfl (At.nil ?_)))); refine At.thn ?_; rcases bite j with ⟨U, j⟩ | ⟨U, j⟩
                 ··refine At.condF rfl (nf U) ?_
                   refine At.skip (At.thn (At.region (At.run 2 rfl ?_))); refine At.store rfl rfl rfl rfl .z rfl rfl rfl (.s (.s (.s (.c .n)))) ?_; refine At.nil ?_; refine At.ibn ?_; refine At.thn ?_; exact fun a w e hs => I b5.2 j a w (e.sub ⟨rfl, rfl, trivial⟩) hs
                 ··refine At.condT rfl (nt (bn U)) ?_
                   refine At.seq (At.region (At.y (Y.load rfl rfl .z rfl rfl rfl) rfl rfl rfl ?_)); refine At.store rfl rfl rfl rfl (.s .z) rfl rfl rfl (.c (.c (.c (.c .n)))) ?_; refine At.run 1 rfl (nT (At.ret (At.thr ?_))); refine At.ibr ?_; have j := bup G j; refine At.thr ?_; refine At.resM (.inl rfl) rfl (RV.cell rfl rfl .z rfl rfl rfl (RV.tmp rfl RV.nil)) ?_; refine At.drop .z (At.drop .z ?_); cases bret j; exact fun a w e hs => ⟨_, ⟨rfl, rfl⟩, hs⟩
               ··refine At.condF rfl (decide_eq_false O) ?_
                 refine At.skip ?_; refine At.ibn ?_; refine At.thn ?_; exact fun a w e hs => I 0 j a w (e.sub ⟨rfl, rfl, trivial⟩) hs
           ··rcases bite j with ⟨V, j⟩ | ⟨V, j⟩
             ··refine At.condT rfl (decide_eq_true V) ?_
               refine At.skip (At.thn ?_); exact fun a w e hs => a4 (decide (p = 2)) j a w (e.sub ⟨rfl, rfl, rfl, rfl, trivial⟩) hs
             ··refine At.condF rfl (decide_eq_false V) ?_
               refine At.region (At.run 2 rfl (nT ?_)); exact fun a w e hs => a4 (decide (p = 3)) j a w (e.sub ⟨rfl, rfl, rfl, rfl, trivial⟩) hs

noncomputable def Q73.l0b (a0 : Bs) (u : List Q4) (p : Int) : Option (((List Q4) × Int) ⊕ (((List Q4)) ⊕ ((Option Q3) × (List Q4)))) :=
 if p < (a0.length : Int) then
 if (0 : Int) ≤ p ∧ p < (a0.length : Int) then
 jn (
 if bat a0 p = 32 then
 some (.inl true)
 else
 some (.inl (decide (bat a0 p = 9)))) (fun (D : Bool) =>
 if D = true then
 nx (u, IntKind.i64.wrap (p + 1))
 else
 if bat a0 p = 35 then
 if (0 : Int) ≤ p ∧ p ≤ (a0.length : Int) then
 (Q137.f (a0.drop p.toNat) 10).bind fun B =>
 jn (
 if B < 0 then
 some (.inl (IntKind.i64.wrap ((a0.length : Int) - p)))
 else
 some (.inl B)) (fun (E : Int) =>
 nx (u, IntKind.i64.wrap (p + E)))
 else none
 else
 (Q135.f a0 p).bind fun q =>
 if q.1 = 0 then
 if (u.length + ([(⟨q.2.1, q.2.2.1, q.2.2.2.1, q.2.2.2.2⟩ : Q4)] : List Q4).length) * 40 ≤ 140737488355328 then
 nx ((u ++ ([(⟨q.2.1, q.2.2.1, q.2.2.2.1, q.2.2.2.2⟩ : Q4)] : List Q4)), IntKind.i64.wrap (p + (q.2.2.2.1.length : Int)))
 else none
 else
 upL (some ((some (⟨p, q.1⟩ : Q3)), ([] : List Q4))))
 else none
 else
 dn (.inl u)
noncomputable def Q73.l0 (a0 : Bs) (p : List Q4) (q : Int) : Option (((List Q4)) ⊕ ((Option Q3) × (List Q4))) := iter (fun t_ : (List Q4) × Int => Q73.l0b a0 t_.1 t_.2) (p, q)
noncomputable def Q73.f (a0 : Bs) : Option ((Option Q3) × (List Q4)) :=
 if 262144 < (a0.length : Int) then
 some ((some (⟨262144, 2⟩ : Q3)), ([] : List Q4))
 else
 jn (Q73.l0 a0 ([] : List Q4) 0) (fun (p : List Q4) =>
 if (p.length + ([(⟨0, (a0.length : Int), ([] : Bs), 0⟩ : Q4)] : List Q4).length) * 40 ≤ 140737488355328 then
 some (none, (p ++ ([(⟨0, (a0.length : Int), ([] : Bs), 0⟩ : Q4)] : List Q4)))
 else none)
theorem Q73.callee : Callee Tryz.prog 69 := ⟨_, Tryz.func69, by kernel_rfl, by kernel_rfl⟩
theorem Q73.spec {a0 : Bs} {r : (Option Q3) × (List Q4)} (j : Q73.f a0 = some r) :
 Spec Tryz.prog 69 [.string ⟨(a0).toArray⟩] R (Fr) (fun v l' => ∃ (a7 : Option Nat) (L : Nat) (a8 : Option Addr) (a9 : Nat), v = .tuple #[.slice a8 L a9, opti 111 a7] ∧ row Q4.fl 116 a8 L a9 r.2 :: optb (Ow.fl Q3.fl) 58 a7 r.1 :: Fr = l' ∧ r.2.length = L) := by
 refine Spec.of Tryz.func69 rfl rfl ?_; unfold Q73.f at j; have j := brun j; refine sR 2 rfl (nT (At.seq (At.seq (At.region ?_)))); refine At.run 3 rfl (nT ?_); rcases bite j with ⟨N, j⟩ | ⟨N, j⟩
 ··refine At.condT rfl (decide_eq_true N) ?_
   refine At.seq (At.region ?_); refine At.y (Y.build (is := [0, 1]) (xo := [.const (i6 262144), .const (i6 2)]) (vs := [i6 262144, i6 2]) (cs := [i6 262144, i6 2]) rfl rfl rfl rfl rfl rfl) rfl rfl rfl ?_; refine At.box rfl rfl (cs := [i6 262144, i6 2]) rfl rfl (fun c8 => ?_); refine At.run 3 rfl (nT (At.ret (At.thr ?_))); refine At.nilRow Q4.fl 116 ?_; refine At.f1 ?_; refine At.optSome (x := (⟨262144, 2⟩ : Q3)) (Ent.fl Q3.fl (x := (⟨262144, 2⟩ : Q3)) rfl) ?_; refine At.f1 ?_; cases bret j; exact At.res (.inl rfl) rfl rfl ⟨(some c8), 0, none, 0, rfl, rfl, rfl⟩
 ··refine At.condF rfl (decide_eq_false N) ?_
   refine At.skip (At.thn (sR 1 rfl (nT (At.seq ?_)))); refine sR 1 rfl (nT ?_); refine At.block ?_; obtain ⟨c9, d0, d1, j⟩ := bjoin j; obtain ⟨J, O, b4⟩ := bsome j; clear j; unfold Q73.l0 at O; obtain ⟨U, G⟩ := Q12.1 O; clear O; refine At.nilRow Q4.fl 116 ?_; refine At.loopJ (X := (List Q4) × Int × Nat × (Option Addr) × Nat) (Y := (List Q4) × Nat × (Option Addr) × Nat) (e0 := 0) (fun s_ => [(0, .string ⟨(a0).toArray⟩), (4, .slice s_.2.2.2.1 s_.2.2.1 s_.2.2.2.2), (5, i6 s_.2.1)]) (fun s_ => row Q4.fl 116 s_.2.2.2.1 s_.2.2.1 s_.2.2.2.2 s_.1 :: Fr) (fun m_ => fun s_ => iterN (fun t_ : (List Q4) × Int => Q73.l0b a0 t_.1 t_.2) m_ (s_.1, s_.2.1) = some J ∧ s_.1.length = s_.2.2.1) U (([] : List Q4), 0, 0, none, 0) ⟨G, rfl⟩ (fun s_ => [(0, .string ⟨(a0).toArray⟩), (4, .slice s_.2.2.1 s_.2.1 s_.2.2.2)]) (fun s_ => row Q4.fl 116 s_.2.2.1 s_.2.1 s_.2.2.2 s_.1 :: Fr) (fun s_ => c9 (.inl s_.1) = some r ∧ s_.1.length = s_.2.1) (fun a w e hs => ⟨e.sub ⟨rfl, rfl, rfl, trivial⟩, (by exact hs)⟩) ?_ (fun d2 => ?_)
   ·rintro ⟨b5, d3, f3, f4⟩ ⟨j, d4⟩; obtain rfl : b5.length = d3 := d4; have j := (d0 _).symm.trans j
    ·refine At.ibx ?_; refine At.thn (sR 3 rfl ?_); refine At.y (Y.build (is := [0, 1]) (xo := [.const (i6 0), .tmp 72]) (vs := [i6 0, i6 (a0.length : Int)]) (cs := [i6 0, i6 (a0.length : Int), .string ⟨(([] : Bs)).toArray⟩, i6 0]) rfl rfl rfl rfl rfl rfl) rfl rfl rfl ?_; refine At.lit rfl (xo := [.tmp 73]) (ys := ([(⟨0, (a0.length : Int), ([] : Bs), 0⟩ : Q4)] : List Q4)) Q4.fl rfl rfl rfl rfl rfl rfl rfl rfl rfl rfl rfl (fun f5 f6 => ?_); obtain ⟨d5, j⟩ := bnone j; refine At.append rfl (.s .z) (Src.own .z (by simp)) rfl rfl rfl rfl rfl rfl rfl rfl d5 (by decide) rfl (fun d6 d7 => ?_); refine At.drop (.s .z) (At.run 2 rfl (nT (At.ret ?_))); refine At.optNone (Ow.fl Q3.fl) 58 ?_; refine At.f1 ?_; cases bret j; exact At.res (.inl rfl) rfl rfl ⟨none, (b5 ++ ([(⟨0, (a0.length : Int), ([] : Bs), 0⟩ : Q4)] : List Q4)).length, d6, d7, rfl, rfl, rfl⟩
   ·clear G U; rintro U ⟨q, u, d8, B, D⟩ ⟨G, d9⟩; obtain rfl : q.length = d8 := d9; obtain ⟨V, f_, Z, hf_, j⟩ := bit G; clear G; have j : (Q73.l0b a0 q u).bind _ = some J := j; unfold Q73.l0b at j
    ·refine At.seq (sR 4 rfl (nT ?_)); rcases bite j with ⟨a1, j⟩ | ⟨a1, j⟩
     ··refine At.condT rfl (decide_eq_true a1) ?_
       refine At.skip (At.thn ?_); refine At.block ?_; refine sR 2 rfl ?_; obtain ⟨b6, j⟩ := bnone j; refine At.y (Y.ixStr rfl rfl rfl rfl b6.1 b6.2) rfl rfl rfl (At.run 1 rfl (nT ?_)); refine At.block ?_; refine sR 3 rfl ?_; obtain ⟨e1, e2, f7, j⟩ := bjoin j; refine At.joinO 3 (X := Bool) (fun I => [(0, .string ⟨(a0).toArray⟩), (4, .slice B q.length D), (5, i6 u), (6, .int .u8 (bat a0 u)), (51, .bool I)]) (fun I => row Q4.fl 116 B q.length D q :: Fr) (fun I => e1 (.inl I) = some J) ?_ (fun b7 => ?_)
       ·rintro I j; have j := (e2 _).symm.trans j
        ·refine At.run 1 rfl (nT ?_); rcases bite j with ⟨a2, j⟩ | ⟨a2, j⟩
         ··refine At.condT rfl a2 ?_
           refine At.region (At.run 3 rfl (At.nil ?_)); refine At.ibn ?_; refine At.ibn ?_; have j := bnx hf_ j; exact fun a w e hs => ⟨V, (q, IntKind.i64.wrap (u + 1), q.length, B, D), Z, ⟨j, rfl⟩, e.sub ⟨rfl, rfl, rfl, trivial⟩, hs⟩
         ··refine At.condF rfl (bn a2) ?_
           refine sR 3 rfl (nT ?_); rcases bite j with ⟨a3, j⟩ | ⟨a3, j⟩
           ··refine At.condT rfl (decide_eq_true a3) ?_
             refine sR 2 rfl ?_; obtain ⟨b8, j⟩ := bnone j; refine At.y (Y.slStrL rfl rfl rfl rfl b8.1 b8.2) rfl rfl rfl ?_; obtain ⟨e3, e4, j⟩ := bbind j; refine At.call rfl Q137.callee rfl rfl rfl (Q137.spec e4) ?_; rintro _ _ ⟨rfl, rfl⟩; refine At.run 1 rfl (nT (At.seq (sR 2 rfl (At.nil ?_)))); refine At.thn ?_; obtain ⟨e5, e6, f8, j⟩ := bjoin j; refine At.join (X := Int) (fun E => [(0, .string ⟨(a0).toArray⟩), (4, .slice B q.length D), (5, i6 u), (7, i6 E)]) (fun E => row Q4.fl 116 B q.length D q :: Fr) (fun E => e5 (.inl E) = some J) ?_ (fun b9 => ?_)
             ·rintro E j; have j := (e6 _).symm.trans j
              ·refine At.region (At.run 4 rfl (At.nil ?_)); refine At.ibn ?_; refine At.ibn ?_; have j := bnx hf_ j; exact fun a w e hs => ⟨V, (q, IntKind.i64.wrap (u + E), q.length, B, D), Z, ⟨j, rfl⟩, e.sub ⟨rfl, rfl, rfl, trivial⟩, hs⟩
             ··rcases bite j with ⟨a4, j⟩ | ⟨a4, j⟩
               ··refine At.condT rfl (decide_eq_true a4) ?_
                 refine At.region (At.run 5 rfl (nT ?_)); exact fun a w e hs => b9 (IntKind.i64.wrap ((a0.length : Int) - u)) j a w (e.sub ⟨rfl, rfl, rfl, rfl, trivial⟩) hs
               ··refine At.condF rfl (decide_eq_false a4) ?_
                 refine At.skip (At.thn ?_); exact fun a w e hs => b9 e3 j a w (e.sub ⟨rfl, rfl, rfl, rfl, trivial⟩) hs
           ··refine At.condF rfl (decide_eq_false a3) ?_
             refine sR 2 rfl ?_; obtain ⟨p, e7, j⟩ := bbind j; refine At.call rfl Q135.callee rfl rfl rfl (Q135.spec e7) ?_; rintro _ _ ⟨rfl, rfl⟩; refine At.run 3 rfl ?_; refine At.alloc rfl rfl rfl (fun f9 => ?_); refine At.store rfl rfl rfl rfl .z rfl rfl rfl (.c (.c (.c (.c .n)))) ?_; refine At.run 1 rfl (nT (At.seq (sR 2 rfl (At.nil ?_)))); refine At.thn ?_; rcases bite j with ⟨a5, j⟩ | ⟨a5, j⟩
             ··refine At.condF rfl (nf (decide_eq_true a5)) ?_
               refine At.skip (At.thn (sR 1 rfl (At.y (Y.load rfl rfl .z rfl rfl rfl) rfl rfl rfl ?_))); refine At.lit rfl (xo := [.tmp 37]) (ys := ([(⟨p.2.1, p.2.2.1, p.2.2.2.1, p.2.2.2.2⟩ : Q4)] : List Q4)) Q4.fl rfl rfl rfl rfl rfl rfl rfl rfl rfl rfl rfl (fun g0 g1 => ?_); obtain ⟨e8, j⟩ := bnone j; refine At.append rfl (.s (.s .z)) (Src.own .z (by simp)) rfl rfl rfl rfl rfl rfl rfl rfl e8 (by decide) rfl (fun e9 f0 => ?_); refine At.drop (.s .z) (At.run 1 rfl (nT (At.region (At.run 2 rfl (At.y (Y.load rfl rfl (.s .z) rfl rfl rfl) rfl rfl rfl (At.run 3 rfl ?_)))))); refine At.nil ?_; refine At.ibn ?_; refine At.ibn ?_; refine At.drop (.s .z) ?_; have j := bnx hf_ j; exact fun a w e hs => ⟨V, ((q ++ ([(⟨p.2.1, p.2.2.1, p.2.2.2.1, p.2.2.2.2⟩ : Q4)] : List Q4)), IntKind.i64.wrap (u + (p.2.2.2.1.length : Int)), (q ++ ([(⟨p.2.1, p.2.2.1, p.2.2.2.1, p.2.2.2.2⟩ : Q4)] : List Q4)).length, e9, f0), Z, ⟨j, rfl⟩, e.sub ⟨rfl, rfl, rfl, trivial⟩, hs⟩
             ··refine At.condT rfl (nt (decide_eq_false a5)) ?_
               refine sR 2 rfl ?_; refine At.y (Y.build (is := [0, 1]) (xo := [.tmp 31, .tmp 32]) (vs := [i6 u, i6 p.1]) (cs := [i6 u, i6 p.1]) rfl rfl rfl rfl rfl rfl) rfl rfl rfl ?_; refine At.box rfl rfl (cs := [i6 u, i6 p.1]) rfl rfl (fun f2 => ?_); refine At.run 3 rfl (nT (At.ret (At.thr ?_))); refine At.ibr ?_; refine At.ibr ?_; have j := bupL d1 b4 j; refine At.thr ?_; refine At.ibr ?_; refine At.thr ?_; refine At.nilRow Q4.fl 116 ?_; refine At.f1 ?_; refine At.optSome (x := (⟨u, p.1⟩ : Q3)) (Ent.fl Q3.fl (x := (⟨u, p.1⟩ : Q3)) rfl) ?_; refine At.drop (.s (.s .z)) (At.drop (.s (.s .z)) (At.f1 ?_)); cases bret j; exact At.res (.inl rfl) rfl rfl ⟨(some f2), 0, none, 0, rfl, rfl, rfl⟩
       ··rcases bite j with ⟨a6, j⟩ | ⟨a6, j⟩
         ··refine At.know (t := 48) rfl (decide_eq_true a6) ?_
           refine At.run 3 rfl ?_; exact At.of (b7 true j) ⟨rfl, rfl, rfl, rfl, rfl, trivial⟩
         ··refine At.know (t := 48) rfl (decide_eq_false a6) ?_
           refine At.run 3 rfl ?_; exact At.of (b7 (decide (bat a0 u = 9)) j) ⟨rfl, rfl, rfl, rfl, rfl, trivial⟩
     ··refine At.condF rfl (decide_eq_false a1) ?_
       refine At.exit ?_; refine At.the ?_; refine At.the ?_; exact fun a w e hs => d2 (q, q.length, B, D) ⟨(bdn j b4), rfl⟩ a w (e.sub ⟨rfl, rfl, trivial⟩) hs

noncomputable def Q61.l0b  (p : List Q4) : Option (((List Q4)) ⊕ (((List Q4)) ⊕ ((List Q4)))) :=
 if (0 : Int) ≤ 0 ∧ 0 < (p.length : Int) then
 if (gt p 0).Kind = 1 then
 if (0 : Int) ≤ 1 ∧ 1 ≤ (p.length : Int) then
 nx (p.drop (1 : Int).toNat)
 else none
 else
 dn (.inl p)
 else none
noncomputable def Q61.l0  (p : List Q4) : Option (((List Q4)) ⊕ ((List Q4))) := iter (fun t_ : (List Q4) => Q61.l0b  t_) p
noncomputable def Q61.f (p : List Q4) (u : Option Q3) (B : Int) (D : List Bs) (E : List Q0) (G : List Q1) (I : List Q6) (J : List (Bs × Bool)) : Option (List Q4) :=
 jn (Q61.l0  p) (fun (q : List Q4) =>
 some q)
theorem Q61.callee : Callee Tryz.prog 71 := ⟨_, Tryz.func71, by kernel_rfl, by kernel_rfl⟩
theorem Q61.spec {J : List Q4} {U : Option Q3} {L : Int} {p : List Bs} {u : List Q0} {B : List Q1} {D : List Q6} {V : List (Bs × Bool)} (E : Option Nat) (hr0_0 : RdS Q4.fl.rep R.heap A0_0 J) (hn0_0 : J.length = n0_0) (hc0_0 : n0_0 ≤ c0_0) (hn0_3 : p.length = n0_3) (hn0_4 : u.length = n0_4) (hn0_5 : B.length = n0_5) (hn0_6 : D.length = n0_6) {r : (List Q4)} (j : Q61.f J U L p u B D V = some r) :
 Spec Tryz.prog 71 [bp b0] R (pc b0 [.slice A0_0 n0_0 c0_0, optp E, i6 L, .slice A0_3 n0_3 c0_3, .slice A0_4 n0_4 c0_4, .slice A0_5 n0_5 c0_5, .slice A0_6 n0_6 c0_6, .map (some b0_7)] 114 :: optb (Ow.fl Q3.fl) 58 E U :: row Fl.bs 9 A0_3 n0_3 c0_3 p :: row Q0.fl 35 A0_4 n0_4 c0_4 u :: grow Q1.ow 37 A0_5 n0_5 c0_5 B :: row Q6.fl 148 A0_6 n0_6 c0_6 D :: mapo Fl.bs.ov Fl.bool.ov b0_7 V :: Fr) (fun v l' => ∃ (a3 : Option Addr) (Z : Nat) (a4 : Nat), v = .tuple #[] ∧ pc b0 [.slice a3 Z a4, optp E, i6 L, .slice A0_3 n0_3 c0_3, .slice A0_4 n0_4 c0_4, .slice A0_5 n0_5 c0_5, .slice A0_6 n0_6 c0_6, .map (some b0_7)] 114 :: optb (Ow.fl Q3.fl) 58 E U :: row Fl.bs 9 A0_3 n0_3 c0_3 p :: row Q0.fl 35 A0_4 n0_4 c0_4 u :: grow Q1.ow 37 A0_5 n0_5 c0_5 B :: row Q6.fl 148 A0_6 n0_6 c0_6 D :: mapo Fl.bs.ov Fl.bool.ov b0_7 V :: Fr = l' ∧ RdS Q4.fl.rep R.heap a3 r ∧ r.length = Z ∧ Z ≤ a4) := by
 subst hn0_0; subst hn0_3; subst hn0_4; subst hn0_5; subst hn0_6; refine Spec.of Tryz.func71 rfl rfl ?_; unfold Q61.f at j; have j := brun j; refine At.block ?_; obtain ⟨b4, b5, e2, j⟩ := bjoin j; obtain ⟨a5, a0, b6⟩ := bsome j; clear j; unfold Q61.l0 at a0; obtain ⟨a1, N⟩ := Q12.1 a0; clear a0; let T3 : HProp := optb (Ow.fl Q3.fl) 58 E U; let T4 : HProp := row Fl.bs 9 A0_3 p.length c0_3 p; let T5 : HProp := row Q0.fl 35 A0_4 u.length c0_4 u; let T6 : HProp := grow Q1.ow 37 A0_5 B.length c0_5 B; let T7 : HProp := row Q6.fl 148 A0_6 D.length c0_6 D; let T8 : HProp := mapo Fl.bs.ov Fl.bool.ov b0_7 V; refine At.loopJ (X := (List Q4) × (Option Addr) × Nat × Nat) (Y := (List Q4) × (Option Addr) × Nat × Nat) (e0 := 0) (fun s_ => [(0, bp b0)]) (fun s_ => pc b0 [.slice s_.2.1 s_.2.2.1 s_.2.2.2, optp E, i6 L, .slice A0_3 p.length c0_3, .slice A0_4 u.length c0_4, .slice A0_5 B.length c0_5, .slice A0_6 D.length c0_6, .map (some b0_7)] 114 :: T3 :: T4 :: T5 :: T6 :: T7 :: T8 :: Fr) (fun m_ => fun s_ => iterN (fun t_ : (List Q4) => Q61.l0b  t_) m_ s_.1 = some a5 ∧ RdS Q4.fl.rep R.heap s_.2.1 s_.1 ∧ s_.1.length = s_.2.2.1 ∧ s_.2.2.1 ≤ s_.2.2.2) a1 (J, A0_0, J.length, c0_0) ⟨N, hr0_0, rfl, hc0_0⟩ (fun s_ => []) (fun s_ => pc b0 [.slice s_.2.1 s_.2.2.1 s_.2.2.2, optp E, i6 L, .slice A0_3 p.length c0_3, .slice A0_4 u.length c0_4, .slice A0_5 B.length c0_5, .slice A0_6 D.length c0_6, .map (some b0_7)] 114 :: T3 :: T4 :: T5 :: T6 :: T7 :: T8 :: Fr) (fun s_ => b4 (.inl s_.1) = some r ∧ RdS Q4.fl.rep R.heap s_.2.1 s_.1 ∧ s_.1.length = s_.2.2.1 ∧ s_.2.2.1 ≤ s_.2.2.2) (fun a w e hs => ⟨e.sub ⟨rfl, trivial⟩, (by exact hs)⟩) ?_ (fun b7 => ?_)
 ·rintro ⟨a6, b8, b9, c8⟩ ⟨j, c9, d0, d1⟩; obtain rfl : a6.length = b9 := d0; have j := (b5 _).symm.trans j
  ·refine At.ibx ?_; cases bret j; exact At.res (.inr rfl) rfl rfl ⟨b8, a6.length, c8, rfl, rfl, c9, rfl, d1⟩
 ·clear N a1; rintro a1 ⟨G, d2, d3, a7⟩ ⟨N, O, d4, a8⟩; obtain rfl : G.length = d3 := d4; obtain ⟨d5, f_, d6, hf_, j⟩ := bit N; clear N; have j : (Q61.l0b  G).bind _ = some a5 := j; unfold Q61.l0b at j
  ·refine At.seq (sR 3 rfl (At.y (Y.load rfl rfl .z rfl rfl rfl) rfl rfl rfl ?_)); obtain ⟨I, j⟩ := bnone j; refine At.y (Y.ixRd O rfl rfl rfl rfl rfl rfl rfl I.1 I.2) rfl rfl rfl ?_; refine At.y (Y.fa (RdS.some_ O rfl I.1 I.2) rfl rfl rfl rfl rfl rfl) rfl rfl rfl ?_; refine At.y (Y.ldFl O rfl (q := 0) rfl rfl I.1 I.2 rfl rfl rfl) rfl rfl rfl (At.run 1 rfl (nT ?_)); rcases bite j with ⟨a2, j⟩ | ⟨a2, j⟩
   ··refine At.condT rfl (decide_eq_true a2) ?_
     refine At.skip (At.thn ?_); refine At.block ?_; refine At.region (At.run 4 rfl (At.y (Y.load rfl rfl .z rfl rfl rfl) rfl rfl rfl ?_)); obtain ⟨a9, j⟩ := bnone j; obtain ⟨d7, d8, d9, e1⟩ := Y.slFromAt (P := Tryz.prog) (R := R) rfl O a8 a9.1 a9.2; refine At.y (e1 rfl rfl rfl rfl rfl rfl) rfl rfl rfl ?_; refine At.run 2 rfl ?_; refine At.store rfl rfl rfl rfl .z rfl rfl rfl (.c .n) ?_; refine At.nil ?_; refine At.ibn ?_; have j := bnx hf_ j; exact fun a w e hs => ⟨d5, ((G.drop (1 : Int).toNat), d7, (G.drop (1 : Int).toNat).length, (a7 - (1 : Int).toNat)), d6, ⟨j, d8, rfl, d9⟩, e.sub ⟨rfl, trivial⟩, hs⟩
   ··refine At.condF rfl (decide_eq_false a2) ?_
     refine At.exit ?_; refine At.the ?_; refine At.the ?_; exact fun a w e hs => b7 (G, d2, G.length, a7) ⟨(bdn j b6), O, rfl, a8⟩ a w (e.sub trivial) hs

noncomputable def Q20.f (u : List Q4) (p : Option Q3) (B : Int) (D : List Bs) (E : List Q0) (G : List Q1) (I : List Q6) (J : List (Bs × Bool)) (L : Int) (q : Int) (N : Bs) (O : Int) (a2 : Int) : Option (Option Q3) :=
 if p.isNone = true then
 some (some (⟨q, a2⟩ : Q3))
 else
 some p
theorem Q20.callee : Callee Tryz.prog 75 := ⟨_, Tryz.func75, by kernel_rfl, by kernel_rfl⟩
theorem Q20.spec {E : List Q4} {V : Option Q3} {G I p J a2 : Int} {q : List Bs} {u : List Q0} {B : List Q1} {D : List Q6} {L : List (Bs × Bool)} {N : Bs} (O : Option Nat) (hr0_0 : RdS Q4.fl.rep R.heap A0_0 E) (hn0_0 : E.length = n0_0) (hc0_0 : n0_0 ≤ c0_0) (hn0_3 : q.length = n0_3) (hn0_4 : u.length = n0_4) (hn0_5 : B.length = n0_5) (hn0_6 : D.length = n0_6) {r : (Option Q3)} (j : Q20.f E V G q u B D L I p N J a2 = some r) :
 Spec Tryz.prog 75 [bp b0, .agg #[i6 I, i6 p, .string ⟨(N).toArray⟩, i6 J], i6 a2] R (pc b0 [.slice A0_0 n0_0 c0_0, optp O, i6 G, .slice A0_3 n0_3 c0_3, .slice A0_4 n0_4 c0_4, .slice A0_5 n0_5 c0_5, .slice A0_6 n0_6 c0_6, .map (some b0_7)] 114 :: optb (Ow.fl Q3.fl) 58 O V :: row Fl.bs 9 A0_3 n0_3 c0_3 q :: row Q0.fl 35 A0_4 n0_4 c0_4 u :: grow Q1.ow 37 A0_5 n0_5 c0_5 B :: row Q6.fl 148 A0_6 n0_6 c0_6 D :: mapo Fl.bs.ov Fl.bool.ov b0_7 L :: Fr) (fun v l' => ∃ (X : Option Nat), v = .tuple #[] ∧ optb (Ow.fl Q3.fl) 58 X r :: pc b0 [.slice A0_0 n0_0 c0_0, optp X, i6 G, .slice A0_3 n0_3 c0_3, .slice A0_4 n0_4 c0_4, .slice A0_5 n0_5 c0_5, .slice A0_6 n0_6 c0_6, .map (some b0_7)] 114 :: row Fl.bs 9 A0_3 n0_3 c0_3 q :: row Q0.fl 35 A0_4 n0_4 c0_4 u :: grow Q1.ow 37 A0_5 n0_5 c0_5 B :: row Q6.fl 148 A0_6 n0_6 c0_6 D :: mapo Fl.bs.ov Fl.bool.ov b0_7 L :: Fr = l') := by
 subst hn0_0; subst hn0_3; subst hn0_4; subst hn0_5; subst hn0_6; refine Spec.of Tryz.func75 rfl rfl ?_; unfold Q20.f at j; have j := brun j; refine At.seq (At.region ?_); refine At.box rfl rfl (cs := [i6 I, i6 p, .string ⟨(N).toArray⟩, i6 J]) rfl rfl (fun a0 => ?_); refine nT (sR 3 rfl (At.y (Y.load rfl rfl (.s .z) rfl rfl rfl) rfl rfl rfl ?_)); refine At.y (Y.eqOpt (.s (.s .z)) rfl rfl rfl rfl) rfl rfl rfl ?_; refine nT ?_; rcases bite j with ⟨U, j⟩ | ⟨U, j⟩
 ··refine At.condT rfl U ?_
   refine At.region (At.run 2 rfl (At.y (Y.load rfl rfl .z rfl rfl rfl) rfl rfl rfl (At.run 1 rfl ?_))); refine At.y (Y.build (is := [0, 1]) (xo := [.tmp 13, .tmp 14]) (vs := [i6 p, i6 a2]) (cs := [i6 p, i6 a2]) rfl rfl rfl rfl rfl rfl) rfl rfl rfl ?_; refine At.box rfl rfl (cs := [i6 p, i6 a2]) rfl rfl (fun Z => ?_); refine At.run 2 rfl ?_; refine At.store rfl rfl rfl rfl (.s (.s .z)) rfl rfl rfl (.s (.c .n)) ?_; refine At.nil (At.f1 ?_); refine At.optSome (x := (⟨p, a2⟩ : Q3)) (Ent.fl Q3.fl (x := (⟨p, a2⟩ : Q3)) rfl) ?_; refine At.drop (.s (.s .z)) (At.drop (.s (.s .z)) ?_); cases bret j; exact At.res (.inr rfl) rfl rfl ⟨(some Z), rfl, rfl⟩
 ··refine At.condF rfl (bn U) ?_
   refine At.skip (At.drop .z (At.f6 (At.f6 (At.f6 (At.f6 (At.f6 (At.f5 ?_))))))); refine At.f6 ?_; cases bret j; exact At.res (.inr rfl) rfl rfl ⟨O, rfl, rfl⟩

noncomputable def Q55.f (p : List Q4) (q : Option Q3) (u : Int) (B : List Bs) (D : List Q0) (E : List Q1) (G : List Q6) (I : List (Bs × Bool)) (a1 : Int) : Option ((Option Q3) × (List Q4) × Int × Int × Bs × Int) :=
 if q.isNone = true then
 if (0 : Int) ≤ 0 ∧ 0 < (p.length : Int) then
 jn (
 if (gt p 0).Kind = a1 then
 if (0 : Int) ≤ 1 ∧ 1 ≤ (p.length : Int) then
 up (some (q, (p.drop (1 : Int).toNat), (gt p 0).Kind, (gt p 0).At, (gt p 0).Text, (gt p 0).Number))
 else none
 else
 if (gt p 0).Kind = 0 then
 (Q20.f p q u B D E G I ((gt p 0).Kind) ((gt p 0).At) ((gt p 0).Text) ((gt p 0).Number) 6).bind fun J =>
 some (.inl J)
 else
 (Q20.f p q u B D E G I ((gt p 0).Kind) ((gt p 0).At) ((gt p 0).Text) ((gt p 0).Number) 7).bind fun L =>
 some (.inl L)) (fun (N : Option Q3) =>
 some (N, p, 0, 0, ([] : Bs), 0))
 else none
 else
 some (q, p, 0, 0, ([] : Bs), 0)
theorem Q55.callee : Callee Tryz.prog 72 := ⟨_, Tryz.func72, by kernel_rfl, by kernel_rfl⟩
theorem Q55.spec {p : List Q4} {Z : Option Q3} {I a1 : Int} {u : List Bs} {B : List Q0} {D : List Q1} {E : List Q6} {J : List (Bs × Bool)} (G : Option Nat) (hr0_0 : RdS Q4.fl.rep R.heap A0_0 p) (hn0_0 : p.length = n0_0) (hc0_0 : n0_0 ≤ c0_0) (hn0_3 : u.length = n0_3) (hn0_4 : B.length = n0_4) (hn0_5 : D.length = n0_5) (hn0_6 : E.length = n0_6) {r : (Option Q3) × (List Q4) × Int × Int × Bs × Int} (j : Q55.f p Z I u B D E J a1 = some r) :
 Spec Tryz.prog 72 [bp b0, i6 a1] R (pc b0 [.slice A0_0 n0_0 c0_0, optp G, i6 I, .slice A0_3 n0_3 c0_3, .slice A0_4 n0_4 c0_4, .slice A0_5 n0_5 c0_5, .slice A0_6 n0_6 c0_6, .map (some b0_7)] 114 :: optb (Ow.fl Q3.fl) 58 G Z :: row Fl.bs 9 A0_3 n0_3 c0_3 u :: row Q0.fl 35 A0_4 n0_4 c0_4 B :: grow Q1.ow 37 A0_5 n0_5 c0_5 D :: row Q6.fl 148 A0_6 n0_6 c0_6 E :: mapo Fl.bs.ov Fl.bool.ov b0_7 J :: Fr) (fun v l' => ∃ (a0 : Option Nat) (a2 : Option Addr) (N : Nat) (a3 : Nat), v = .agg #[i6 r.2.2.1, i6 r.2.2.2.1, .string ⟨(r.2.2.2.2.1).toArray⟩, i6 r.2.2.2.2.2] ∧ optb (Ow.fl Q3.fl) 58 a0 r.1 :: pc b0 [.slice a2 N a3, optp a0, i6 I, .slice A0_3 n0_3 c0_3, .slice A0_4 n0_4 c0_4, .slice A0_5 n0_5 c0_5, .slice A0_6 n0_6 c0_6, .map (some b0_7)] 114 :: row Fl.bs 9 A0_3 n0_3 c0_3 u :: row Q0.fl 35 A0_4 n0_4 c0_4 B :: grow Q1.ow 37 A0_5 n0_5 c0_5 D :: row Q6.fl 148 A0_6 n0_6 c0_6 E :: mapo Fl.bs.ov Fl.bool.ov b0_7 J :: Fr = l' ∧ RdS Q4.fl.rep R.heap a2 r.2.1 ∧ r.2.1.length = N ∧ N ≤ a3) := by
 subst hn0_0; subst hn0_3; subst hn0_4; subst hn0_5; subst hn0_6; refine Spec.of Tryz.func72 rfl rfl ?_; unfold Q55.f at j; have j := brun j; refine At.seq (At.region ?_); refine At.alloc rfl rfl rfl (fun a4 => ?_); refine nT (At.seq (sR 3 rfl (At.y (Y.load rfl rfl (.s .z) rfl rfl rfl) rfl rfl rfl ?_))); refine At.y (Y.neOpt (.s (.s .z)) rfl rfl rfl rfl) rfl rfl rfl ?_; refine nT ?_; rcases bite j with ⟨O, j⟩ | ⟨O, j⟩
 ··refine At.condF rfl (nf O) ?_
   refine At.skip (At.thn (sR 3 rfl (At.y (Y.load rfl rfl (.s .z) rfl rfl rfl) rfl rfl rfl ?_))); obtain ⟨L, j⟩ := bnone j; refine At.y (Y.ixRd hr0_0 rfl rfl rfl rfl rfl rfl rfl L.1 L.2) rfl rfl rfl (At.y (Y.ldFl hr0_0 rfl (q := 0) rfl rfl L.1 L.2 rfl rfl rfl) rfl rfl rfl ?_); refine At.store rfl rfl rfl rfl .z rfl rfl rfl (.c (.c (.c (.c .n)))) ?_; refine nT (At.seq ?_); obtain ⟨a7, a8, a9, j⟩ := bjoin j; let T9 : HProp := pc a4 [i6 ((gt p 0).Kind), i6 ((gt p 0).At), .string ⟨((gt p 0).Text).toArray⟩, i6 ((gt p 0).Number)] 116; refine At.join (X := (Option Q3) × (Option Nat)) (fun s_ => [(4, bp a4)]) (fun s_ => optb (Ow.fl Q3.fl) 58 s_.2 s_.1 :: pc b0 [.slice A0_0 p.length c0_0, optp s_.2, i6 I, .slice A0_3 u.length c0_3, .slice A0_4 B.length c0_4, .slice A0_5 D.length c0_5, .slice A0_6 E.length c0_6, .map (some b0_7)] 114 :: row Fl.bs 9 A0_3 u.length c0_3 u :: row Q0.fl 35 A0_4 B.length c0_4 B :: grow Q1.ow 37 A0_5 D.length c0_5 D :: row Q6.fl 148 A0_6 E.length c0_6 E :: mapo Fl.bs.ov Fl.bool.ov b0_7 J :: T9 :: Fr) (fun s_ => a7 (.inl s_.1) = some r) ?_ (fun a5 => ?_)
   ·rintro ⟨d3, b4⟩ j; have j := (a8 _).symm.trans j
    ·refine At.seq (At.region ?_); refine At.y (Y.build (is := []) (xo := []) (vs := []) (cs := [i6 0, i6 0, .string ⟨(([] : Bs)).toArray⟩, i6 0]) rfl rfl rfl rfl rfl rfl) rfl rfl rfl ?_; refine At.store rfl rfl rfl rfl (.s (.s (.s (.s (.s (.s (.s .z))))))) rfl rfl rfl (.c (.c (.c (.c .n)))) ?_; refine nT (At.ret ?_); refine At.resM (.inl rfl) rfl (RV.cell rfl rfl .z rfl rfl rfl RV.nil) ?_; refine At.drop .z ?_; cases bret j; exact fun a w e hs => ⟨_, ⟨b4, A0_0, p.length, c0_0, rfl, rfl, hr0_0, rfl, hc0_0⟩, hs⟩
   ··refine At.block ?_
     refine sR 1 rfl (At.y (Y.load rfl rfl .z rfl rfl rfl) rfl rfl rfl (At.run 3 rfl (nT ?_))); rcases bite j with ⟨U, j⟩ | ⟨U, j⟩
     ··refine At.condT rfl (decide_eq_true U) ?_
       refine sR 4 rfl (At.y (Y.load rfl rfl (.s .z) rfl rfl rfl) rfl rfl rfl ?_); obtain ⟨a6, j⟩ := bnone j; obtain ⟨b5, b6, b7, b8⟩ := Y.slFromAt (P := Tryz.prog) (R := R) rfl hr0_0 hc0_0 a6.1 a6.2; refine At.y (b8 rfl rfl rfl rfl rfl rfl) rfl rfl rfl ?_; refine At.run 2 rfl ?_; refine At.store rfl rfl rfl rfl (.s .z) rfl rfl rfl (.c .n) ?_; refine nT (At.seq (At.region (At.y (Y.load rfl rfl (.s .z) rfl rfl rfl) rfl rfl rfl ?_))); refine At.store rfl rfl rfl rfl (.s .z) rfl rfl rfl (.c (.c (.c (.c .n)))) ?_; refine nT (At.ret ?_); refine At.ibr ?_; have j := bup a9 j; refine At.thr ?_; refine At.resM (.inl rfl) rfl (RV.cell rfl rfl .z rfl rfl rfl RV.nil) ?_; refine At.drop .z (At.f6 (At.f6 (At.f6 (At.f6 (At.f6 (At.f5 (At.f6 ?_))))))); cases bret j; exact fun a w e hs => ⟨_, ⟨G, b5, (p.drop (1 : Int).toNat).length, (c0_0 - (1 : Int).toNat), rfl, rfl, b6, rfl, b7⟩, hs⟩
     ··refine At.condF rfl (decide_eq_false U) ?_
       refine sR 1 rfl (At.y (Y.load rfl rfl .z rfl rfl rfl) rfl rfl rfl (At.run 2 rfl (nT ?_))); rcases bite j with ⟨V, j⟩ | ⟨V, j⟩
       ··refine At.condT rfl (decide_eq_true V) ?_
         refine At.region (At.run 1 rfl (At.y (Y.load rfl rfl .z rfl rfl rfl) rfl rfl rfl (At.f7 (At.f7 (At.f7 (At.f7 (At.f7 ?_))))))); refine At.f7 (At.f7 ?_); obtain ⟨b9, c8, j⟩ := bbind j; refine At.call rfl Q20.callee rfl rfl rfl (Q20.spec G hr0_0 rfl hc0_0 rfl rfl rfl rfl c8) ?_; rintro _ _ ⟨c9, rfl, rfl⟩; refine At.nil ?_; refine At.ibn ?_; refine At.thn ?_; exact fun a w e hs => a5 (b9, c9) j a w (e.sub ⟨rfl, trivial⟩) hs
       ··refine At.condF rfl (decide_eq_false V) ?_
         refine At.region (At.run 1 rfl (At.y (Y.load rfl rfl .z rfl rfl rfl) rfl rfl rfl (At.f7 (At.f7 (At.f7 (At.f7 (At.f7 ?_))))))); refine At.f7 (At.f7 ?_); obtain ⟨d0, d1, j⟩ := bbind j; refine At.call rfl Q20.callee rfl rfl rfl (Q20.spec G hr0_0 rfl hc0_0 rfl rfl rfl rfl d1) ?_; rintro _ _ ⟨d2, rfl, rfl⟩; refine At.nil ?_; refine At.ibn ?_; refine At.thn ?_; exact fun a w e hs => a5 (d0, d2) j a w (e.sub ⟨rfl, trivial⟩) hs
 ··refine At.condT rfl (nt (bn O)) ?_
   refine At.seq (At.region (At.y (Y.load rfl rfl .z rfl rfl rfl) rfl rfl rfl ?_)); refine At.store rfl rfl rfl rfl .z rfl rfl rfl (.c (.c (.c (.c .n)))) ?_; refine nT (At.ret (At.thr ?_)); refine At.resM (.inl rfl) rfl (RV.cell rfl rfl .z rfl rfl rfl RV.nil) ?_; refine At.drop .z (At.f6 (At.f6 (At.f6 (At.f6 (At.f6 (At.f5 (At.f6 ?_))))))); cases bret j; exact fun a w e hs => ⟨_, ⟨G, A0_0, p.length, c0_0, rfl, rfl, hr0_0, rfl, hc0_0⟩, hs⟩

noncomputable def Q104.f (p : List Q4) (u : Option Q3) (B : Int) (D : List Bs) (E : List Q0) (G : List Q1) (I : List Q6) (J : List (Bs × Bool)) : Option Bool :=
 if (0 : Int) ≤ 0 ∧ 0 < (p.length : Int) then
 jn (
 if (gt p 0).Kind = 0 then
 some (.inl true)
 else
 some (.inl (decide ((gt p 0).Kind = 1)))) (fun (q : Bool) =>
 some q)
 else none
theorem Q104.callee : Callee Tryz.prog 102 := ⟨_, Tryz.func102, by kernel_rfl, by kernel_rfl⟩
theorem Q104.spec {I : List Q4} {L : Option Q3} {N : Int} {u : List Bs} {B : List Q0} {D : List Q1} {E : List Q6} {O : List (Bs × Bool)} (G : Option Nat) (hr0_0 : RdS Q4.fl.rep R.heap A0_0 I) (hn0_0 : I.length = n0_0) (hc0_0 : n0_0 ≤ c0_0) (hn0_3 : u.length = n0_3) (hn0_4 : B.length = n0_4) (hn0_5 : D.length = n0_5) (hn0_6 : E.length = n0_6) {r : Bool} (j : Q104.f I L N u B D E O = some r) :
 Spec Tryz.prog 102 [bp b0] R (pc b0 [.slice A0_0 n0_0 c0_0, optp G, i6 N, .slice A0_3 n0_3 c0_3, .slice A0_4 n0_4 c0_4, .slice A0_5 n0_5 c0_5, .slice A0_6 n0_6 c0_6, .map (some b0_7)] 114 :: optb (Ow.fl Q3.fl) 58 G L :: row Fl.bs 9 A0_3 n0_3 c0_3 u :: row Q0.fl 35 A0_4 n0_4 c0_4 B :: grow Q1.ow 37 A0_5 n0_5 c0_5 D :: row Q6.fl 148 A0_6 n0_6 c0_6 E :: mapo Fl.bs.ov Fl.bool.ov b0_7 O :: Fr) (fun v l' => v = .bool r ∧ pc b0 [.slice A0_0 n0_0 c0_0, optp G, i6 N, .slice A0_3 n0_3 c0_3, .slice A0_4 n0_4 c0_4, .slice A0_5 n0_5 c0_5, .slice A0_6 n0_6 c0_6, .map (some b0_7)] 114 :: optb (Ow.fl Q3.fl) 58 G L :: row Fl.bs 9 A0_3 n0_3 c0_3 u :: row Q0.fl 35 A0_4 n0_4 c0_4 B :: grow Q1.ow 37 A0_5 n0_5 c0_5 D :: row Q6.fl 148 A0_6 n0_6 c0_6 E :: mapo Fl.bs.ov Fl.bool.ov b0_7 O :: Fr = l') := by
 subst hn0_0; subst hn0_3; subst hn0_4; subst hn0_5; subst hn0_6; refine Spec.of Tryz.func102 rfl rfl ?_; unfold Q104.f at j; have j := brun j; refine sR 1 rfl (nT (sR 3 rfl ?_)); refine At.y (Y.load rfl rfl .z rfl rfl rfl) rfl rfl rfl ?_; obtain ⟨p, j⟩ := bnone j; refine At.y (Y.ixRd hr0_0 rfl rfl rfl rfl rfl rfl rfl p.1 p.2) rfl rfl rfl ?_; refine At.y (Y.fa (RdS.some_ hr0_0 rfl p.1 p.2) rfl rfl rfl rfl rfl rfl) rfl rfl rfl ?_; refine At.y (Y.ldFl hr0_0 rfl (q := 0) rfl rfl p.1 p.2 rfl rfl rfl) rfl rfl rfl (At.run 2 rfl ?_); obtain ⟨Z, a0, a2, j⟩ := bjoin j; let a1 : HProp := pc b0 [.slice A0_0 I.length c0_0, optp G, i6 N, .slice A0_3 u.length c0_3, .slice A0_4 B.length c0_4, .slice A0_5 D.length c0_5, .slice A0_6 E.length c0_6, .map (some b0_7)] 114; refine At.joinO 9 (X := Bool) (fun J => [(20, .bool J)]) (fun J => a1 :: optb (Ow.fl Q3.fl) 58 G L :: row Fl.bs 9 A0_3 u.length c0_3 u :: row Q0.fl 35 A0_4 B.length c0_4 B :: grow Q1.ow 37 A0_5 D.length c0_5 D :: row Q6.fl 148 A0_6 E.length c0_6 E :: mapo Fl.bs.ov Fl.bool.ov b0_7 O :: Fr) (fun J => Z (.inl J) = some r) ?_ (fun V => ?_)
 ·rintro J j; have j := (a0 _).symm.trans j
  ·refine At.run 1 rfl (nT (At.ret ?_)); cases bret j; exact At.res (.inl rfl) rfl rfl ⟨rfl, rfl⟩
 ··rcases bite j with ⟨U, j⟩ | ⟨U, j⟩
   ··refine At.know (t := 11) rfl (decide_eq_true U) ?_
     refine At.run 9 rfl ?_; exact At.of (V true j) ⟨rfl, trivial⟩
   ··refine At.know (t := 11) rfl (decide_eq_false U) ?_
     refine At.run 3 rfl (At.y (Y.load rfl rfl .z rfl rfl rfl) rfl rfl rfl (At.y (Y.ixRd hr0_0 rfl rfl rfl rfl rfl rfl rfl p.1 p.2) rfl rfl rfl ?_)); refine At.y (Y.fa (RdS.some_ hr0_0 rfl p.1 p.2) rfl rfl rfl rfl rfl rfl) rfl rfl rfl ?_; refine At.y (Y.ldFl hr0_0 rfl (q := 0) rfl rfl p.1 p.2 rfl rfl rfl) rfl rfl rfl (At.run 2 rfl ?_); exact At.of (V (decide ((gt I 0).Kind = 1)) j) ⟨rfl, trivial⟩

noncomputable def Q100.f (p : List Q4) (q : Option Q3) (u : Int) (B : List Bs) (D : List Q0) (E : List Q1) (G : List Q6) (I : List (Bs × Bool)) : Option (Option Q3) :=
 (Q104.f p q u B D E G I).bind fun J =>
 if J = true then
 some q
 else
 if (0 : Int) ≤ 0 ∧ 0 < (p.length : Int) then
 (Q20.f p q u B D E G I ((gt p 0).Kind) ((gt p 0).At) ((gt p 0).Text) ((gt p 0).Number) 7).bind fun L =>
 some L
 else none
theorem Q100.callee : Callee Tryz.prog 96 := ⟨_, Tryz.func96, by kernel_rfl, by kernel_rfl⟩
theorem Q100.spec {I : List Q4} {O : Option Q3} {J : Int} {u : List Bs} {B : List Q0} {D : List Q1} {E : List Q6} {L : List (Bs × Bool)} (p : Option Nat) (hr0_0 : RdS Q4.fl.rep R.heap A0_0 I) (hn0_0 : I.length = n0_0) (hc0_0 : n0_0 ≤ c0_0) (hn0_3 : u.length = n0_3) (hn0_4 : B.length = n0_4) (hn0_5 : D.length = n0_5) (hn0_6 : E.length = n0_6) {r : (Option Q3)} (j : Q100.f I O J u B D E L = some r) :
 Spec Tryz.prog 96 [bp b0] R (pc b0 [.slice A0_0 n0_0 c0_0, optp p, i6 J, .slice A0_3 n0_3 c0_3, .slice A0_4 n0_4 c0_4, .slice A0_5 n0_5 c0_5, .slice A0_6 n0_6 c0_6, .map (some b0_7)] 114 :: optb (Ow.fl Q3.fl) 58 p O :: row Fl.bs 9 A0_3 n0_3 c0_3 u :: row Q0.fl 35 A0_4 n0_4 c0_4 B :: grow Q1.ow 37 A0_5 n0_5 c0_5 D :: row Q6.fl 148 A0_6 n0_6 c0_6 E :: mapo Fl.bs.ov Fl.bool.ov b0_7 L :: Fr) (fun v l' => ∃ (U : Option Nat), v = .tuple #[] ∧ pc b0 [.slice A0_0 n0_0 c0_0, optp U, i6 J, .slice A0_3 n0_3 c0_3, .slice A0_4 n0_4 c0_4, .slice A0_5 n0_5 c0_5, .slice A0_6 n0_6 c0_6, .map (some b0_7)] 114 :: optb (Ow.fl Q3.fl) 58 U r :: row Fl.bs 9 A0_3 n0_3 c0_3 u :: row Q0.fl 35 A0_4 n0_4 c0_4 B :: grow Q1.ow 37 A0_5 n0_5 c0_5 D :: row Q6.fl 148 A0_6 n0_6 c0_6 E :: mapo Fl.bs.ov Fl.bool.ov b0_7 L :: Fr = l') := by
 subst hn0_0; subst hn0_3; subst hn0_4; subst hn0_5; subst hn0_6; refine Spec.of Tryz.func96 rfl rfl ?_; unfold Q100.f at j; have j := brun j; refine sR 1 rfl ?_; obtain ⟨a0, V, j⟩ := bbind j; refine At.call rfl Q104.callee rfl rfl rfl (Q104.spec p hr0_0 rfl hc0_0 rfl rfl rfl rfl V) ?_; rintro _ _ ⟨rfl, rfl⟩; refine At.run 1 rfl (nT ?_); rcases bite j with ⟨N, j⟩ | ⟨N, j⟩
 ··refine At.condF rfl (nf N) ?_
   refine At.skip ?_; cases bret j; exact At.res (.inr rfl) rfl rfl ⟨p, rfl, rfl⟩
 ··refine At.condT rfl (nt (bn N)) ?_
   refine At.region (At.run 4 rfl (At.y (Y.load rfl rfl .z rfl rfl rfl) rfl rfl rfl ?_)); obtain ⟨G, j⟩ := bnone j; refine At.y (Y.ixRd hr0_0 rfl rfl rfl rfl rfl rfl rfl G.1 G.2) rfl rfl rfl (At.y (Y.ldFl hr0_0 rfl (q := 0) rfl rfl G.1 G.2 rfl rfl rfl) rfl rfl rfl ?_); obtain ⟨a1, X, j⟩ := bbind j; refine At.call rfl Q20.callee rfl rfl rfl (Q20.spec p hr0_0 rfl hc0_0 rfl rfl rfl rfl X) ?_; rintro _ _ ⟨Z, rfl, rfl⟩; refine At.nil (At.f6 (At.f6 (At.f6 (At.f6 (At.f6 (At.f5 (At.f6 ?_))))))); cases bret j; exact At.res (.inr rfl) rfl rfl ⟨Z, rfl, rfl⟩

noncomputable def Q118.f (L : List Q4) (J : Option Q3) (I : Int) (u : List Bs) (B : List Q0) (D : List Q1) (E : List Q6) (G : List (Bs × Bool)) : Option ((Option Q3) × (List Q4) × Int) :=
 (Q61.f L J I u B D E G).bind fun N =>
 (Q55.f N J I u B D E G 2).bind fun q =>
 jn (
 if q.1.isNone = true then
 some (.inl (!(bseq q.2.2.2.2.1 ([115, 116, 97, 116, 101, 115] : Bs))))
 else
 some (.inl false)) (fun (O : Bool) =>
 jn (
 if O = true then
 (Q20.f q.2.1 q.1 I u B D E G q.2.2.1 q.2.2.2.1 q.2.2.2.2.1 q.2.2.2.2.2 7).bind fun U =>
 some (.inl U)
 else
 some (.inl q.1)) (fun (V : Option Q3) =>
 (Q55.f q.2.1 V I u B D E G 4).bind fun p =>
 jn (
 if p.1.isNone = true then
 jn (
 if p.2.2.2.2.2 < 1 then
 some (.inl true)
 else
 some (.inl (decide (24 < p.2.2.2.2.2)))) (fun (X : Bool) =>
 some (.inl X))
 else
 some (.inl false)) (fun (Z : Bool) =>
 jn (
 if Z = true then
 (Q20.f p.2.1 p.1 p.2.2.2.2.2 u B D E G p.2.2.1 p.2.2.2.1 p.2.2.2.2.1 p.2.2.2.2.2 8).bind fun a0 =>
 some (.inl a0)
 else
 some (.inl p.1)) (fun (a1 : Option Q3) =>
 (Q100.f p.2.1 a1 p.2.2.2.2.2 u B D E G).bind fun a2 =>
 some (a2, p.2.1, p.2.2.2.2.2)))))
theorem Q118.callee : Callee Tryz.prog 70 := ⟨_, Tryz.func70, by kernel_rfl, by kernel_rfl⟩
theorem Q118.spec {a0 : List Q4} {b7 : Option Q3} {U : Int} {p : List Bs} {q : List Q0} {u : List Q1} {B : List Q6} {G : List (Bs × Bool)} (V : Option Nat) (hr0_0 : RdS Q4.fl.rep R.heap A0_0 a0) (hn0_0 : a0.length = n0_0) (hc0_0 : n0_0 ≤ c0_0) (hn0_3 : p.length = n0_3) (hn0_4 : q.length = n0_4) (hn0_5 : u.length = n0_5) (hn0_6 : B.length = n0_6) {r : (Option Q3) × (List Q4) × Int} (j : Q118.f a0 b7 U p q u B G = some r) :
 Spec Tryz.prog 70 [bp b0] R (pc b0 [.slice A0_0 n0_0 c0_0, optp V, i6 U, .slice A0_3 n0_3 c0_3, .slice A0_4 n0_4 c0_4, .slice A0_5 n0_5 c0_5, .slice A0_6 n0_6 c0_6, .map (some b0_7)] 114 :: optb (Ow.fl Q3.fl) 58 V b7 :: row Fl.bs 9 A0_3 n0_3 c0_3 p :: row Q0.fl 35 A0_4 n0_4 c0_4 q :: grow Q1.ow 37 A0_5 n0_5 c0_5 u :: row Q6.fl 148 A0_6 n0_6 c0_6 B :: mapo Fl.bs.ov Fl.bool.ov b0_7 G :: Fr) (fun v l' => ∃ (b8 : Option Nat) (b9 : Option Addr) (a1 : Nat) (c8 : Nat), v = .tuple #[] ∧ optb (Ow.fl Q3.fl) 58 b8 r.1 :: pc b0 [.slice b9 a1 c8, optp b8, i6 r.2.2, .slice A0_3 n0_3 c0_3, .slice A0_4 n0_4 c0_4, .slice A0_5 n0_5 c0_5, .slice A0_6 n0_6 c0_6, .map (some b0_7)] 114 :: row Fl.bs 9 A0_3 n0_3 c0_3 p :: row Q0.fl 35 A0_4 n0_4 c0_4 q :: grow Q1.ow 37 A0_5 n0_5 c0_5 u :: row Q6.fl 148 A0_6 n0_6 c0_6 B :: mapo Fl.bs.ov Fl.bool.ov b0_7 G :: Fr = l' ∧ RdS Q4.fl.rep R.heap b9 r.2.1 ∧ r.2.1.length = a1 ∧ a1 ≤ c8) := by
 subst hn0_0; subst hn0_3; subst hn0_4; subst hn0_5; subst hn0_6; refine Spec.of Tryz.func70 rfl rfl ?_; unfold Q118.f at j; have j := brun j; refine sR 1 rfl ?_; obtain ⟨h1, e0, j⟩ := bbind j; refine At.call rfl Q61.callee rfl rfl rfl (Q61.spec V hr0_0 rfl hc0_0 rfl rfl rfl rfl e0) ?_; rintro _ _ ⟨h2, h3, h4, rfl, rfl, e1, rfl, e2⟩; refine nT (At.seq (sR 1 rfl ?_)); obtain ⟨E, e3, j⟩ := bbind j; refine At.call rfl Q55.callee rfl rfl rfl (Q55.spec V e1 rfl e2 rfl rfl rfl rfl e3) ?_; rintro _ _ ⟨Z, c9, h5, d0, rfl, rfl, d1, rfl, d2⟩; refine At.alloc rfl rfl rfl (fun d3 => ?_); refine At.store rfl rfl rfl rfl .z rfl rfl rfl (.c (.c (.c (.c .n)))) ?_; refine nT (sR 3 rfl (At.y (Y.load rfl rfl (.s (.s .z)) rfl rfl rfl) rfl rfl rfl ?_)); refine At.y (Y.eqOpt (.s .z) rfl rfl rfl rfl) rfl rfl rfl ?_; refine At.run 1 rfl ?_; obtain ⟨e4, e5, h6, j⟩ := bjoin j; let J : HProp := pc d3 [i6 E.2.2.1, i6 E.2.2.2.1, .string ⟨(E.2.2.2.2.1).toArray⟩, i6 E.2.2.2.2.2] 116; let e6 : HProp := pc b0 [.slice c9 E.2.1.length d0, optp Z, i6 U, .slice A0_3 p.length c0_3, .slice A0_4 q.length c0_4, .slice A0_5 u.length c0_5, .slice A0_6 B.length c0_6, .map (some b0_7)] 114; refine At.joinO 4 (X := Bool) (fun L => [(0, bp b0), (2, bp d3), (17, .bool L)]) (fun L => J :: optb (Ow.fl Q3.fl) 58 Z E.1 :: e6 :: row Fl.bs 9 A0_3 p.length c0_3 p :: row Q0.fl 35 A0_4 q.length c0_4 q :: grow Q1.ow 37 A0_5 u.length c0_5 u :: row Q6.fl 148 A0_6 B.length c0_6 B :: mapo Fl.bs.ov Fl.bool.ov b0_7 G :: Fr) (fun L => e4 (.inl L) = some r) ?_ (fun d4 => ?_)
 ·rintro L j; have j := (e5 _).symm.trans j
  ·refine nT ?_; obtain ⟨e7, e8, h7, j⟩ := bjoin j; refine At.join (X := (Option Q3) × (Option Nat)) (fun s_ => [(0, bp b0)]) (fun s_ => optb (Ow.fl Q3.fl) 58 s_.2 s_.1 :: pc b0 [.slice c9 E.2.1.length d0, optp s_.2, i6 U, .slice A0_3 p.length c0_3, .slice A0_4 q.length c0_4, .slice A0_5 u.length c0_5, .slice A0_6 B.length c0_6, .map (some b0_7)] 114 :: row Fl.bs 9 A0_3 p.length c0_3 p :: row Q0.fl 35 A0_4 q.length c0_4 q :: grow Q1.ow 37 A0_5 u.length c0_5 u :: row Q6.fl 148 A0_6 B.length c0_6 B :: mapo Fl.bs.ov Fl.bool.ov b0_7 G :: J :: Fr) (fun s_ => e7 (.inl s_.1) = some r) ?_ (fun d5 => ?_)
   ·rintro ⟨h8, e9⟩ j; have j := (e8 _).symm.trans j
    ·refine sR 1 rfl (At.f6 (At.f6 (At.f6 (At.f6 (At.f6 ?_))))); refine At.f5 (At.f6 ?_); obtain ⟨D, f0, j⟩ := bbind j; refine At.call rfl Q55.callee rfl rfl rfl (Q55.spec e9 d1 rfl d2 rfl rfl rfl rfl f0) ?_; rintro _ _ ⟨N, a2, h9, a3, rfl, rfl, a4, rfl, a5⟩; refine At.alloc rfl rfl rfl (fun a6 => ?_); refine At.store rfl rfl rfl rfl .z rfl rfl rfl (.c (.c (.c (.c .n)))) ?_; refine nT (sR 2 rfl (At.y (Y.load rfl rfl .z rfl rfl rfl) rfl rfl rfl (At.run 3 rfl ?_))); refine At.store rfl rfl rfl rfl (.s (.s .z)) rfl rfl rfl (.s (.s (.c .n))) ?_; refine nT (At.seq (sR 3 rfl (At.y (Y.load rfl rfl .z rfl rfl rfl) rfl rfl rfl ?_))); refine At.y (Y.eqOpt (.s (.s .z)) rfl rfl rfl rfl) rfl rfl rfl ?_; refine At.run 1 rfl ?_; obtain ⟨f1, f3, k1, j⟩ := bjoin j; let d6 : HProp := pc b0 [.slice a2 D.2.1.length a3, optp N, i6 D.2.2.2.2.2, .slice A0_3 p.length c0_3, .slice A0_4 q.length c0_4, .slice A0_5 u.length c0_5, .slice A0_6 B.length c0_6, .map (some b0_7)] 114; let a7 : HProp := pc a6 [i6 D.2.2.1, i6 D.2.2.2.1, .string ⟨(D.2.2.2.2.1).toArray⟩, i6 D.2.2.2.2.2] 116; refine At.joinO 9 (X := Bool) (fun O => [(0, bp b0), (3, bp a6), (43, .bool O)]) (fun O => d6 :: a7 :: optb (Ow.fl Q3.fl) 58 N D.1 :: row Fl.bs 9 A0_3 p.length c0_3 p :: row Q0.fl 35 A0_4 q.length c0_4 q :: grow Q1.ow 37 A0_5 u.length c0_5 u :: row Q6.fl 148 A0_6 B.length c0_6 B :: mapo Fl.bs.ov Fl.bool.ov b0_7 G :: J :: Fr) (fun O => f1 (.inl O) = some r) ?_ (fun d7 => ?_)
     ·rintro O j; have j := (f3 _).symm.trans j
      ·refine nT ?_; obtain ⟨f4, f9, k2, j⟩ := bjoin j; refine At.join (X := (Option Q3) × (Option Nat)) (fun s_ => [(0, bp b0)]) (fun s_ => optb (Ow.fl Q3.fl) 58 s_.2 s_.1 :: pc b0 [.slice a2 D.2.1.length a3, optp s_.2, i6 D.2.2.2.2.2, .slice A0_3 p.length c0_3, .slice A0_4 q.length c0_4, .slice A0_5 u.length c0_5, .slice A0_6 B.length c0_6, .map (some b0_7)] 114 :: row Fl.bs 9 A0_3 p.length c0_3 p :: row Q0.fl 35 A0_4 q.length c0_4 q :: grow Q1.ow 37 A0_5 u.length c0_5 u :: row Q6.fl 148 A0_6 B.length c0_6 B :: mapo Fl.bs.ov Fl.bool.ov b0_7 G :: a7 :: J :: Fr) (fun s_ => f4 (.inl s_.1) = some r) ?_ (fun d8 => ?_)
       ·rintro ⟨k3, g0⟩ j; have j := (f9 _).symm.trans j
        ·refine At.region (At.run 1 rfl (At.f6 (At.f6 (At.f6 (At.f6 (At.f6 (At.f5 ?_))))))); refine At.f6 ?_; obtain ⟨k4, g1, j⟩ := bbind j; refine At.call rfl Q100.callee rfl rfl rfl (Q100.spec g0 a4 rfl a5 rfl rfl rfl rfl g1) ?_; rintro _ _ ⟨g2, rfl, rfl⟩; refine At.nil (At.drop (.s (.s (.s (.s (.s (.s (.s .z))))))) (At.drop (.s (.s (.s (.s (.s (.s (.s .z))))))) (At.f6 (At.f6 (At.f6 (At.f6 (At.f6 ?_))))))); refine At.f5 (At.f6 ?_); cases bret j; exact At.res (.inr rfl) rfl rfl ⟨g2, a2, D.2.1.length, a3, rfl, rfl, a4, rfl, a5⟩
       ··rcases bite j with ⟨a8, j⟩ | ⟨a8, j⟩
         ··refine At.condT rfl a8 ?_
           refine At.region (At.run 1 rfl (At.y (Y.load rfl rfl (.s .z) rfl rfl rfl) rfl rfl rfl (At.f7 (At.f7 (At.f7 (At.f7 (At.f7 ?_))))))); refine At.f7 (At.f6 ?_); obtain ⟨g3, g4, j⟩ := bbind j; refine At.call rfl Q20.callee rfl rfl rfl (Q20.spec N a4 rfl a5 rfl rfl rfl rfl g4) ?_; rintro _ _ ⟨g5, rfl, rfl⟩; refine nT ?_; exact fun a w e hs => d8 (g3, g5) j a w (e.sub ⟨rfl, trivial⟩) hs
         ··refine At.condF rfl (bn a8) ?_
           refine At.skip (At.thn (At.f8 (At.f2 (At.f8 (At.f8 (At.f8 (At.f8 ?_))))))); refine At.f8 (At.f7 (At.f8 ?_)); exact fun a w e hs => d8 (D.1, N) j a w (e.sub ⟨rfl, trivial⟩) hs
     ··rcases bite j with ⟨a9, j⟩ | ⟨a9, j⟩
       ··refine At.know (t := 34) rfl a9 ?_
         refine At.run 1 rfl (At.y (Y.load rfl rfl (.s .z) rfl rfl rfl) rfl rfl rfl (At.run 2 rfl ?_)); obtain ⟨g6, g7, k5, j⟩ := bjoin j; refine At.joinO 4 (X := Bool) (fun I => [(0, bp b0), (3, bp a6), (34, .bool true), (42, .bool I)]) (fun I => d6 :: a7 :: optb (Ow.fl Q3.fl) 58 N D.1 :: row Fl.bs 9 A0_3 p.length c0_3 p :: row Q0.fl 35 A0_4 q.length c0_4 q :: grow Q1.ow 37 A0_5 u.length c0_5 u :: row Q6.fl 148 A0_6 B.length c0_6 B :: mapo Fl.bs.ov Fl.bool.ov b0_7 G :: J :: Fr) (fun I => g6 (.inl I) = some r) ?_ (fun d9 => ?_)
         ·rintro I j; have j := (g7 _).symm.trans j
          ·refine At.run 1 rfl ?_; exact At.of (d7 I j) ⟨rfl, rfl, rfl, trivial⟩
         ··rcases bite j with ⟨b4, j⟩ | ⟨b4, j⟩
           ··refine At.know (t := 38) rfl (decide_eq_true b4) ?_
             refine At.run 4 rfl ?_; exact At.of (d9 true j) ⟨rfl, rfl, rfl, rfl, trivial⟩
           ··refine At.know (t := 38) rfl (decide_eq_false b4) ?_
             refine At.run 1 rfl (At.y (Y.load rfl rfl (.s .z) rfl rfl rfl) rfl rfl rfl (At.run 2 rfl ?_)); exact At.of (d9 (decide (24 < D.2.2.2.2.2)) j) ⟨rfl, rfl, rfl, rfl, trivial⟩
       ··refine At.know (t := 34) rfl (bn a9) ?_
         refine At.run 9 rfl ?_; exact At.of (d7 false j) ⟨rfl, rfl, rfl, trivial⟩
   ··rcases bite j with ⟨b5, j⟩ | ⟨b5, j⟩
     ··refine At.condT rfl b5 ?_
       refine At.region (At.run 1 rfl (At.y (Y.load rfl rfl .z rfl rfl rfl) rfl rfl rfl (At.f7 (At.f7 (At.f7 (At.f7 (At.f7 ?_))))))); refine At.f6 (At.f7 ?_); obtain ⟨g8, g9, j⟩ := bbind j; refine At.call rfl Q20.callee rfl rfl rfl (Q20.spec Z d1 rfl d2 rfl rfl rfl rfl g9) ?_; rintro _ _ ⟨h0, rfl, rfl⟩; refine nT ?_; exact fun a w e hs => d5 (g8, h0) j a w (e.sub ⟨rfl, trivial⟩) hs
     ··refine At.condF rfl (bn b5) ?_
       refine At.skip (At.thn (At.f7 (At.f7 (At.f7 (At.f7 (At.f7 (At.f7 ?_))))))); refine At.f7 ?_; exact fun a w e hs => d5 (E.1, Z) j a w (e.sub ⟨rfl, trivial⟩) hs
 ··rcases bite j with ⟨b6, j⟩ | ⟨b6, j⟩
   ··refine At.know (t := 13) rfl b6 ?_
     refine At.run 1 rfl (At.y (Y.load rfl rfl .z rfl rfl rfl) rfl rfl rfl (At.run 2 rfl ?_)); exact At.of (d4 (!(bseq E.2.2.2.2.1 ([115, 116, 97, 116, 101, 115] : Bs))) j) ⟨rfl, rfl, rfl, trivial⟩
   ··refine At.know (t := 13) rfl (bn b6) ?_
     refine At.run 4 rfl ?_; exact At.of (d4 false j) ⟨rfl, rfl, rfl, trivial⟩

noncomputable def Q89.f (I : List Q4) (J : Option Q3) (q : Int) (u : List Bs) (B : List Q0) (D : List Q1) (E : List Q6) (G : List (Bs × Bool)) : Option ((Option Q3) × (List Q4) × Int × Int × Int × Bs × Int) :=
 (Q55.f I J q u B D E G 4).bind fun p =>
 jn (
 if p.1.isNone = true then
 some (.inl (decide (q ≤ p.2.2.2.2.2)))
 else
 some (.inl false)) (fun (L : Bool) =>
 jn (
 if L = true then
 (Q20.f p.2.1 p.1 q u B D E G p.2.2.1 p.2.2.2.1 p.2.2.2.2.1 p.2.2.2.2.2 8).bind fun N =>
 some (.inl N)
 else
 some (.inl p.1)) (fun (O : Option Q3) =>
 some (O, p.2.1, p.2.2.2.2.2, p.2.2.1, p.2.2.2.1, p.2.2.2.2.1, p.2.2.2.2.2)))
theorem Q89.callee : Callee Tryz.prog 97 := ⟨_, Tryz.func97, by kernel_rfl, by kernel_rfl⟩
theorem Q89.spec {O : List Q4} {a5 : Option Q3} {E : Int} {p : List Bs} {q : List Q0} {u : List Q1} {B : List Q6} {G : List (Bs × Bool)} (U : Option Nat) (hr0_0 : RdS Q4.fl.rep R.heap A0_0 O) (hn0_0 : O.length = n0_0) (hc0_0 : n0_0 ≤ c0_0) (hn0_3 : p.length = n0_3) (hn0_4 : q.length = n0_4) (hn0_5 : u.length = n0_5) (hn0_6 : B.length = n0_6) {r : (Option Q3) × (List Q4) × Int × Int × Int × Bs × Int} (j : Q89.f O a5 E p q u B G = some r) :
 Spec Tryz.prog 97 [bp b0] R (pc b0 [.slice A0_0 n0_0 c0_0, optp U, i6 E, .slice A0_3 n0_3 c0_3, .slice A0_4 n0_4 c0_4, .slice A0_5 n0_5 c0_5, .slice A0_6 n0_6 c0_6, .map (some b0_7)] 114 :: optb (Ow.fl Q3.fl) 58 U a5 :: row Fl.bs 9 A0_3 n0_3 c0_3 p :: row Q0.fl 35 A0_4 n0_4 c0_4 q :: grow Q1.ow 37 A0_5 n0_5 c0_5 u :: row Q6.fl 148 A0_6 n0_6 c0_6 B :: mapo Fl.bs.ov Fl.bool.ov b0_7 G :: Fr) (fun v l' => ∃ (a6 : Option Nat) (a7 : Option Addr) (V : Nat) (a8 : Nat), v = .tuple #[.agg #[i6 r.2.2.2.1, i6 r.2.2.2.2.1, .string ⟨(r.2.2.2.2.2.1).toArray⟩, i6 r.2.2.2.2.2.2], i6 r.2.2.1] ∧ optb (Ow.fl Q3.fl) 58 a6 r.1 :: pc b0 [.slice a7 V a8, optp a6, i6 E, .slice A0_3 n0_3 c0_3, .slice A0_4 n0_4 c0_4, .slice A0_5 n0_5 c0_5, .slice A0_6 n0_6 c0_6, .map (some b0_7)] 114 :: row Fl.bs 9 A0_3 n0_3 c0_3 p :: row Q0.fl 35 A0_4 n0_4 c0_4 q :: grow Q1.ow 37 A0_5 n0_5 c0_5 u :: row Q6.fl 148 A0_6 n0_6 c0_6 B :: mapo Fl.bs.ov Fl.bool.ov b0_7 G :: Fr = l' ∧ RdS Q4.fl.rep R.heap a7 r.2.1 ∧ r.2.1.length = V ∧ V ≤ a8) := by
 subst hn0_0; subst hn0_3; subst hn0_4; subst hn0_5; subst hn0_6; refine Spec.of Tryz.func97 rfl rfl ?_; unfold Q89.f at j; have j := brun j; refine At.seq (At.region ?_); refine At.alloc rfl rfl rfl (fun Z => ?_); refine At.run 1 rfl (nT (sR 1 rfl (At.f7 (At.f7 ?_)))); refine At.f7 (At.f7 (At.f7 (At.f7 (At.f7 ?_)))); obtain ⟨D, b8, j⟩ := bbind j; refine At.call rfl Q55.callee rfl rfl rfl (Q55.spec U hr0_0 rfl hc0_0 rfl rfl rfl rfl b8) ?_; rintro _ _ ⟨J, L, d6, N, rfl, rfl, a9, rfl, b4⟩; refine At.alloc rfl rfl rfl (fun a0 => ?_); refine At.store rfl rfl rfl rfl .z rfl rfl rfl (.c (.c (.c (.c .n)))) ?_; refine nT (At.seq (At.seq ?_)); refine At.quiet (by kernel_rfl) ?_; refine At.Quiet.run 3 rfl ?_; refine At.Quiet.y (Y.load rfl rfl (.s (.s .z)) rfl rfl rfl) rfl rfl rfl ?_; refine At.Quiet.y (Y.eqOpt (.s .z) rfl rfl rfl rfl) rfl rfl rfl ?_; refine At.Quiet.run 1 rfl ?_; obtain ⟨b9, c8, d7, j⟩ := bjoin j; let a1 : HProp := pc a0 [i6 D.2.2.1, i6 D.2.2.2.1, .string ⟨(D.2.2.2.2.1).toArray⟩, i6 D.2.2.2.2.2] 116; let c9 : HProp := pc b0 [.slice L D.2.1.length N, optp J, i6 E, .slice A0_3 p.length c0_3, .slice A0_4 q.length c0_4, .slice A0_5 u.length c0_5, .slice A0_6 B.length c0_6, .map (some b0_7)] 114; let b5 : HProp := pc Z [i6 0, i6 0, .string ⟨(([] : Bs)).toArray⟩, i6 0] 116; refine At.Quiet.joinO 9 (X := Bool) (fun I => [(0, bp b0), (2, bp Z), (4, bp a0), (21, .bool I)]) (fun I => a1 :: optb (Ow.fl Q3.fl) 58 J D.1 :: c9 :: row Fl.bs 9 A0_3 p.length c0_3 p :: row Q0.fl 35 A0_4 q.length c0_4 q :: grow Q1.ow 37 A0_5 u.length c0_5 u :: row Q6.fl 148 A0_6 B.length c0_6 B :: mapo Fl.bs.ov Fl.bool.ov b0_7 G :: b5 :: Fr) (fun I => b9 (.inl I) = some r) ?_ (fun b6 => ?_)
 ·rintro I j; have j := (c8 _).symm.trans j
  ·refine At.Quiet.nil (At.thn ?_); obtain ⟨d0, d1, d8, j⟩ := bjoin j; refine At.join (X := (Option Q3) × (Option Nat)) (fun s_ => [(2, bp Z), (4, bp a0)]) (fun s_ => optb (Ow.fl Q3.fl) 58 s_.2 s_.1 :: pc b0 [.slice L D.2.1.length N, optp s_.2, i6 E, .slice A0_3 p.length c0_3, .slice A0_4 q.length c0_4, .slice A0_5 u.length c0_5, .slice A0_6 B.length c0_6, .map (some b0_7)] 114 :: row Fl.bs 9 A0_3 p.length c0_3 p :: row Q0.fl 35 A0_4 q.length c0_4 q :: grow Q1.ow 37 A0_5 u.length c0_5 u :: row Q6.fl 148 A0_6 B.length c0_6 B :: mapo Fl.bs.ov Fl.bool.ov b0_7 G :: a1 :: b5 :: Fr) (fun s_ => d0 (.inl s_.1) = some r) ?_ (fun b7 => ?_)
   ·rintro ⟨d2, a2⟩ j; have j := (d1 _).symm.trans j
    ·refine At.seq ?_; refine At.held [optb (Ow.fl Q3.fl) 58 a2 d2, pc b0 [.slice L D.2.1.length N, optp a2, i6 E, .slice A0_3 p.length c0_3, .slice A0_4 q.length c0_4, .slice A0_5 u.length c0_5, .slice A0_6 B.length c0_6, .map (some b0_7)] 114, row Fl.bs 9 A0_3 p.length c0_3 p, row Q0.fl 35 A0_4 q.length c0_4 q, grow Q1.ow 37 A0_5 u.length c0_5 u, row Q6.fl 148 A0_6 B.length c0_6 B, mapo Fl.bs.ov Fl.bool.ov b0_7 G, a1] 5 rfl ?_; refine At.H.tw 0 rfl (Y.load rfl rfl (.s (.s (.s (.s (.s (.s (.s .z))))))) rfl rfl rfl) rfl rfl rfl (.c .z (.c .z (.c .z (.c .z (.c .z (.c .z (.c .z (.c .z .n)))))))) ?_; refine At.H.pw 1 rfl rfl rfl rfl rfl (.c .z (.c .z (.c .z (.c .z (.c .z (.c .z (.c .z (.c .z .n)))))))) ?_; refine At.H.tw 2 rfl (Y.load rfl rfl (.s (.s (.s (.s (.s (.s (.s .z))))))) rfl rfl rfl) rfl rfl rfl (.c .z (.c .z (.c .z (.c .z (.c .z (.c .z (.c .z (.c .z .n)))))))) ?_; refine At.H.al [3] (Q7 ?_ Q11)
     ··refine At.HO.op rfl ?_
       refine At.store rfl rfl rfl rfl (.s (.s (.s (.s (.s (.s (.s (.s .z)))))))) rfl rfl rfl (.c (.c (.c (.c .n)))) ?_; refine At.HO.back (.c (.s .z) (.c (.s .z) (.c (.s .z) (.c (.s .z) (.c (.s .z) (.c (.s .z) (.c (.s .z) (.c (.s .z) .n)))))))) ?_; refine At.H.pw 4 rfl rfl rfl rfl rfl (.c (.s .z) (.c (.s .z) (.c (.s .z) (.c (.s .z) (.c (.s .z) (.c (.s .z) (.c (.s .z) (.c (.s .z) .n)))))))) ?_; refine At.H.done (by kernel_rfl) ?_; refine At.thn (At.ret ?_); refine At.resM (.inl rfl) rfl (RV.cell rfl rfl .z rfl rfl rfl (RV.tmp rfl RV.nil)) ?_; refine At.drop .z (At.drop (.s (.s (.s (.s (.s (.s (.s .z))))))) ?_); cases bret j; exact fun a w e hs => ⟨_, ⟨a2, L, D.2.1.length, N, rfl, rfl, a9, rfl, b4⟩, hs⟩
   ··rcases bite j with ⟨a3, j⟩ | ⟨a3, j⟩
     ··refine At.condT rfl a3 ?_
       refine At.region (At.run 1 rfl (At.y (Y.load rfl rfl .z rfl rfl rfl) rfl rfl rfl (At.f7 (At.f7 (At.f7 (At.f7 (At.f7 ?_))))))); refine At.f6 (At.f7 ?_); obtain ⟨d3, d4, j⟩ := bbind j; refine At.call rfl Q20.callee rfl rfl rfl (Q20.spec J a9 rfl b4 rfl rfl rfl rfl d4) ?_; rintro _ _ ⟨d5, rfl, rfl⟩; refine nT ?_; exact fun a w e hs => b7 (d3, d5) j a w (e.sub ⟨rfl, rfl, trivial⟩) hs
     ··refine At.condF rfl (bn a3) ?_
       refine At.skip (At.thn (At.f8 (At.f1 (At.f8 (At.f8 (At.f8 (At.f8 ?_))))))); refine At.f8 (At.f8 (At.f8 ?_)); exact fun a w e hs => b7 (D.1, J) j a w (e.sub ⟨rfl, rfl, trivial⟩) hs
 ··rcases bite j with ⟨a4, j⟩ | ⟨a4, j⟩
   ··refine At.Quiet.know (t := 12) rfl a4 ?_
     refine At.Quiet.run 1 rfl ?_; refine At.Quiet.y (Y.load rfl rfl .z rfl rfl rfl) rfl rfl rfl ?_; refine At.Quiet.run 4 rfl ?_; refine At.Quiet.y (Y.load rfl rfl (.s (.s .z)) rfl rfl rfl) rfl rfl rfl ?_; refine At.Quiet.run 2 rfl ?_; exact At.Quiet.of (b6 (decide (E ≤ D.2.2.2.2.2)) j) ⟨rfl, rfl, rfl, rfl, trivial⟩
   ··refine At.Quiet.know (t := 12) rfl (bn a4) ?_
     refine At.Quiet.run 9 rfl ?_; exact At.Quiet.of (b6 false j) ⟨rfl, rfl, rfl, rfl, trivial⟩

noncomputable def Q95.f (I : List Q4) (J : Option Q3) (q : Int) (u : List Bs) (B : List Q0) (D : List Q1) (E : List Q6) (G : List (Bs × Bool)) : Option ((Option Q3) × (List Q4) × Int × Int × Bs × Int) :=
 (Q55.f I J q u B D E G 2).bind fun p =>
 jn (
 if p.1.isNone = true then
 (Q82.f p.2.2.2.2.1).bind fun L =>
 some (.inl (!L))
 else
 some (.inl false)) (fun (N : Bool) =>
 jn (
 if N = true then
 (Q20.f p.2.1 p.1 q u B D E G p.2.2.1 p.2.2.2.1 p.2.2.2.2.1 p.2.2.2.2.2 7).bind fun O =>
 some (.inl O)
 else
 some (.inl p.1)) (fun (U : Option Q3) =>
 some (U, p.2.1, p.2.2.1, p.2.2.2.1, p.2.2.2.2.1, p.2.2.2.2.2)))
theorem Q95.callee : Callee Tryz.prog 98 := ⟨_, Tryz.func98, by kernel_rfl, by kernel_rfl⟩
theorem Q95.spec {L : List Q4} {a3 : Option Q3} {E : Int} {p : List Bs} {q : List Q0} {u : List Q1} {B : List Q6} {G : List (Bs × Bool)} (N : Option Nat) (hr0_0 : RdS Q4.fl.rep R.heap A0_0 L) (hn0_0 : L.length = n0_0) (hc0_0 : n0_0 ≤ c0_0) (hn0_3 : p.length = n0_3) (hn0_4 : q.length = n0_4) (hn0_5 : u.length = n0_5) (hn0_6 : B.length = n0_6) {r : (Option Q3) × (List Q4) × Int × Int × Bs × Int} (j : Q95.f L a3 E p q u B G = some r) :
 Spec Tryz.prog 98 [bp b0] R (pc b0 [.slice A0_0 n0_0 c0_0, optp N, i6 E, .slice A0_3 n0_3 c0_3, .slice A0_4 n0_4 c0_4, .slice A0_5 n0_5 c0_5, .slice A0_6 n0_6 c0_6, .map (some b0_7)] 114 :: optb (Ow.fl Q3.fl) 58 N a3 :: row Fl.bs 9 A0_3 n0_3 c0_3 p :: row Q0.fl 35 A0_4 n0_4 c0_4 q :: grow Q1.ow 37 A0_5 n0_5 c0_5 u :: row Q6.fl 148 A0_6 n0_6 c0_6 B :: mapo Fl.bs.ov Fl.bool.ov b0_7 G :: Fr) (fun v l' => ∃ (a4 : Option Nat) (a5 : Option Addr) (O : Nat) (a6 : Nat), v = .agg #[i6 r.2.2.1, i6 r.2.2.2.1, .string ⟨(r.2.2.2.2.1).toArray⟩, i6 r.2.2.2.2.2] ∧ optb (Ow.fl Q3.fl) 58 a4 r.1 :: pc b0 [.slice a5 O a6, optp a4, i6 E, .slice A0_3 n0_3 c0_3, .slice A0_4 n0_4 c0_4, .slice A0_5 n0_5 c0_5, .slice A0_6 n0_6 c0_6, .map (some b0_7)] 114 :: row Fl.bs 9 A0_3 n0_3 c0_3 p :: row Q0.fl 35 A0_4 n0_4 c0_4 q :: grow Q1.ow 37 A0_5 n0_5 c0_5 u :: row Q6.fl 148 A0_6 n0_6 c0_6 B :: mapo Fl.bs.ov Fl.bool.ov b0_7 G :: Fr = l' ∧ RdS Q4.fl.rep R.heap a5 r.2.1 ∧ r.2.1.length = O ∧ O ≤ a6) := by
 subst hn0_0; subst hn0_3; subst hn0_4; subst hn0_5; subst hn0_6; refine Spec.of Tryz.func98 rfl rfl ?_; unfold Q95.f at j; have j := brun j; refine At.seq (At.region ?_); refine At.alloc rfl rfl rfl (fun U => ?_); refine nT (sR 1 rfl (At.f7 (At.f7 (At.f7 ?_)))); refine At.f7 (At.f7 (At.f7 (At.f7 ?_))); obtain ⟨D, b7, j⟩ := bbind j; refine At.call rfl Q55.callee rfl rfl rfl (Q55.spec N hr0_0 rfl hc0_0 rfl rfl rfl rfl b7) ?_; rintro _ _ ⟨J, V, d7, Z, rfl, rfl, a7, rfl, a8⟩; refine At.alloc rfl rfl rfl (fun a0 => ?_); refine At.store rfl rfl rfl rfl .z rfl rfl rfl (.c (.c (.c (.c .n)))) ?_; refine nT (At.seq (sR 3 rfl (At.y (Y.load rfl rfl (.s (.s .z)) rfl rfl rfl) rfl rfl rfl ?_))); refine At.y (Y.eqOpt (.s .z) rfl rfl rfl rfl) rfl rfl rfl ?_; refine At.run 1 rfl ?_; obtain ⟨b8, b9, d8, j⟩ := bjoin j; let a9 : HProp := pc a0 [i6 D.2.2.1, i6 D.2.2.2.1, .string ⟨(D.2.2.2.2.1).toArray⟩, i6 D.2.2.2.2.2] 116; let c8 : HProp := pc b0 [.slice V D.2.1.length Z, optp J, i6 E, .slice A0_3 p.length c0_3, .slice A0_4 q.length c0_4, .slice A0_5 u.length c0_5, .slice A0_6 B.length c0_6, .map (some b0_7)] 114; let b4 : HProp := pc U [i6 0, i6 0, .string ⟨(([] : Bs)).toArray⟩, i6 0] 116; refine At.joinO 5 (X := Bool) (fun I => [(0, bp b0), (2, bp U), (3, bp a0), (16, .bool I)]) (fun I => a9 :: optb (Ow.fl Q3.fl) 58 J D.1 :: c8 :: row Fl.bs 9 A0_3 p.length c0_3 p :: row Q0.fl 35 A0_4 q.length c0_4 q :: grow Q1.ow 37 A0_5 u.length c0_5 u :: row Q6.fl 148 A0_6 B.length c0_6 B :: mapo Fl.bs.ov Fl.bool.ov b0_7 G :: b4 :: Fr) (fun I => b8 (.inl I) = some r) ?_ (fun b5 => ?_)
 ·rintro I j; have j := (b9 _).symm.trans j
  ·refine nT ?_; obtain ⟨c9, d0, d9, j⟩ := bjoin j; refine At.join (X := (Option Q3) × (Option Nat)) (fun s_ => [(2, bp U), (3, bp a0)]) (fun s_ => optb (Ow.fl Q3.fl) 58 s_.2 s_.1 :: pc b0 [.slice V D.2.1.length Z, optp s_.2, i6 E, .slice A0_3 p.length c0_3, .slice A0_4 q.length c0_4, .slice A0_5 u.length c0_5, .slice A0_6 B.length c0_6, .map (some b0_7)] 114 :: row Fl.bs 9 A0_3 p.length c0_3 p :: row Q0.fl 35 A0_4 q.length c0_4 q :: grow Q1.ow 37 A0_5 u.length c0_5 u :: row Q6.fl 148 A0_6 B.length c0_6 B :: mapo Fl.bs.ov Fl.bool.ov b0_7 G :: a9 :: b4 :: Fr) (fun s_ => c9 (.inl s_.1) = some r) ?_ (fun b6 => ?_)
   ·rintro ⟨e0, d1⟩ j; have j := (d0 _).symm.trans j
    ·refine At.seq (At.region ?_); refine At.y (Y.load rfl rfl (.s (.s (.s (.s (.s (.s (.s .z))))))) rfl rfl rfl) rfl rfl rfl ?_; refine At.store rfl rfl rfl rfl (.s (.s (.s (.s (.s (.s (.s (.s .z)))))))) rfl rfl rfl (.c (.c (.c (.c .n)))) ?_; refine nT (At.ret ?_); refine At.resM (.inl rfl) rfl (RV.cell rfl rfl .z rfl rfl rfl RV.nil) ?_; refine At.drop .z (At.drop (.s (.s (.s (.s (.s (.s (.s .z))))))) ?_); cases bret j; exact fun a w e hs => ⟨_, ⟨d1, V, D.2.1.length, Z, rfl, rfl, a7, rfl, a8⟩, hs⟩
   ··rcases bite j with ⟨a1, j⟩ | ⟨a1, j⟩
     ··refine At.condT rfl a1 ?_
       refine At.region (At.run 1 rfl (At.y (Y.load rfl rfl .z rfl rfl rfl) rfl rfl rfl (At.f7 (At.f7 (At.f7 (At.f7 (At.f7 ?_))))))); refine At.f6 (At.f7 ?_); obtain ⟨d2, d3, j⟩ := bbind j; refine At.call rfl Q20.callee rfl rfl rfl (Q20.spec J a7 rfl a8 rfl rfl rfl rfl d3) ?_; rintro _ _ ⟨d4, rfl, rfl⟩; refine nT ?_; exact fun a w e hs => b6 (d2, d4) j a w (e.sub ⟨rfl, rfl, trivial⟩) hs
     ··refine At.condF rfl (bn a1) ?_
       refine At.skip (At.thn (At.f8 (At.f1 (At.f8 (At.f8 (At.f8 (At.f8 ?_))))))); refine At.f8 (At.f8 (At.f8 ?_)); exact fun a w e hs => b6 (D.1, J) j a w (e.sub ⟨rfl, rfl, trivial⟩) hs
 ··rcases bite j with ⟨a2, j⟩ | ⟨a2, j⟩
   ··refine At.know (t := 11) rfl a2 ?_
     refine At.run 1 rfl (At.y (Y.load rfl rfl .z rfl rfl rfl) rfl rfl rfl ?_); obtain ⟨d5, d6, j⟩ := bbind j; refine At.call rfl Q82.callee rfl rfl rfl (Q82.spec d6) ?_; rintro _ _ ⟨rfl, rfl⟩; refine At.run 2 rfl ?_; exact At.of (b5 (!d5) j) ⟨rfl, rfl, rfl, rfl, trivial⟩
   ··refine At.know (t := 11) rfl (bn a2) ?_
     refine At.run 5 rfl ?_; exact At.of (b5 false j) ⟨rfl, rfl, rfl, rfl, trivial⟩

noncomputable def Q78.l0b (a0 : List Q6) (q : Int) (u : Bs) (B p : Int) : Option ((Int) ⊕ ((Unit) ⊕ (Int))) :=
 if p < (a0.length : Int) then
 if (0 : Int) ≤ p ∧ p < (a0.length : Int) then
 if (decide (q = (gt a0 p).from_) && (bseq u ((gt a0 p).action) && (decide (B = (gt a0 p).to) && true))) = true then
 upL (some p)
 else
 nx (IntKind.i64.wrap (p + 1))
 else none
 else
 dn (.inl ())
noncomputable def Q78.l0 (a0 : List Q6) (p : Int) (q : Bs) (u B : Int) : Option ((Unit) ⊕ (Int)) := iter (fun t_ : Int => Q78.l0b a0 p q u t_) B
noncomputable def Q78.f (a0 : List Q6) (p : Int) (q : Bs) (u : Int) : Option Int :=
 jn (Q78.l0 a0 p q u 0) (fun (_ : Unit) =>
 some (-1))
theorem Q78.callee : Callee Tryz.prog 144 := ⟨_, Tryz.func144, by kernel_rfl, by kernel_rfl⟩
theorem Q78.spec {a0 : List Q6} {u B : Int} {D : Bs} (hr0 : RdS Q6.fl.rep R.heap A0 a0) (hn0 : a0.length = n0) (hc0 : n0 ≤ c0) {r : Int} (j : Q78.f a0 u D B = some r) :
 Spec Tryz.prog 144 [.slice A0 n0 c0, .agg #[i6 u, .string ⟨(D).toArray⟩, i6 B]] R (Fr) (fun v l' => v = i6 r ∧ Fr = l') := by
 subst hn0; refine Spec.of Tryz.func144 rfl rfl ?_; unfold Q78.f at j; have j := brun j; refine At.seq (At.region ?_); refine At.box rfl rfl (cs := [i6 u, .string ⟨(D).toArray⟩, i6 B]) rfl rfl (fun O => ?_); refine At.run 1 rfl (nT (At.seq (sR 3 rfl (At.nil ?_)))); refine At.thn ?_; refine At.block ?_; obtain ⟨a1, a2, a3, j⟩ := bjoin j; obtain ⟨U, I, V⟩ := bsome j; clear j; unfold Q78.l0 at I; obtain ⟨J, E⟩ := Q12.1 I; clear I; let Z : HProp := pc O [i6 u, .string ⟨(D).toArray⟩, i6 B] 148; refine At.loopJ (X := Int) (Y := Unit) (e0 := 0) (fun p => [(0, .slice A0 a0.length c0), (3, bp O), (7, i6 (a0.length : Int)), (8, i6 p)]) (fun p => Z :: Fr) (fun m_ => fun p => iterN (fun t_ : Int => Q78.l0b a0 u D B t_) m_ p = some U) J 0 E (fun _ => []) (fun _ => Z :: Fr) (fun _ => a1 (.inl ()) = some r) (fun a w e hs => ⟨e.sub ⟨rfl, rfl, rfl, rfl, trivial⟩, (by exact hs)⟩) ?_ (fun a4 => ?_)
 ·rintro _ j; have j := (a2 _).symm.trans j
  ·refine At.ibx ?_; refine At.thn (sR 1 rfl (nT (At.ret (At.drop .z ?_)))); cases bret j; exact At.res (.inl rfl) rfl rfl ⟨rfl, rfl⟩
 ·clear E J; rintro J p E; obtain ⟨a5, f_, a6, hf_, j⟩ := bit E; clear E; have j : (Q78.l0b a0 u D B p).bind _ = some U := j; unfold Q78.l0b at j
  ·refine sR 1 rfl (nT (At.seq ?_)); rcases bite j with ⟨L, j⟩ | ⟨L, j⟩
   ··refine At.condT rfl (decide_eq_true L) ?_
     refine At.skip (At.thn (At.seq ?_)); refine At.block ?_; refine sR 2 rfl (nT (At.seq ?_)); refine At.quiet (by kernel_rfl) ?_; refine At.Quiet.y (Y.load rfl rfl .z rfl rfl rfl) rfl rfl rfl ?_; refine At.Quiet.run 2 rfl ?_; obtain ⟨G, j⟩ := bnone j; refine At.Quiet.y (Y.ixRd hr0 rfl rfl rfl rfl rfl rfl rfl G.1 G.2) rfl rfl rfl ?_; refine At.Quiet.y (Y.ldFl hr0 rfl (q := 0) rfl rfl G.1 G.2 rfl rfl rfl) rfl rfl rfl ?_; refine At.Quiet.y (Y.eqSt (xs := [i6 u, .string ⟨(D).toArray⟩, i6 B]) (ys := [i6 ((gt a0 p).from_), .string ⟨((gt a0 p).action).toArray⟩, i6 ((gt a0 p).to)]) rfl rfl rfl rfl (by kernel_rfl) (by kernel_rfl) (by kernel_rfl) rfl) rfl rfl rfl ?_; refine At.Quiet.nil (At.thn ?_); rcases bite j with ⟨N, j⟩ | ⟨N, j⟩
     ··refine At.condT rfl N ?_
       refine sR 2 rfl (nT (At.ret ?_)); refine At.ibr ?_; refine At.thr ?_; have j := bupL a3 V j; refine At.thr ?_; refine At.ibr ?_; refine At.thr (At.drop .z ?_); cases bret j; exact At.res (.inl rfl) rfl rfl ⟨rfl, rfl⟩
     ··refine At.condF rfl (bn N) ?_
       refine At.skip ?_; refine At.ibn ?_; refine At.thn (At.region (At.run 2 rfl (At.nil ?_))); have j := bnx hf_ j; exact fun a w e hs => ⟨a5, (IntKind.i64.wrap (p + 1)), a6, j, e.sub ⟨rfl, rfl, rfl, rfl, trivial⟩, hs⟩
   ··refine At.condF rfl (decide_eq_false L) ?_
     refine At.exit ?_; refine At.the ?_; refine At.the ?_; exact fun a w e hs => a4 () (bdn j V) a w (e.sub trivial) hs

noncomputable def Q138.f (a0 : List Q6) (p : Int) (q : Bs) (u : Int) : Option Bool :=
 (Q78.f a0 p q u).bind fun B =>
 some (decide (0 ≤ B))
theorem Q138.callee : Callee Tryz.prog 99 := ⟨_, Tryz.func99, by kernel_rfl, by kernel_rfl⟩
theorem Q138.spec {a0 : List Q6} {p q : Int} {u : Bs} (hr0 : RdS Q6.fl.rep R.heap A0 a0) (hn0 : a0.length = n0) (hc0 : n0 ≤ c0) {r : Bool} (j : Q138.f a0 p u q = some r) :
 Spec Tryz.prog 99 [.slice A0 n0 c0, .agg #[i6 p, .string ⟨(u).toArray⟩, i6 q]] R (Fr) (fun v l' => v = .bool r ∧ Fr = l') := by
 subst hn0; refine Spec.of Tryz.func99 rfl rfl ?_; unfold Q138.f at j; have j := brun j; refine At.seq (At.region ?_); refine At.box rfl rfl (cs := [i6 p, .string ⟨(u).toArray⟩, i6 q]) rfl rfl (fun D => ?_); refine At.run 1 rfl (nT (sR 1 rfl (At.y (Y.load rfl rfl .z rfl rfl rfl) rfl rfl rfl ?_))); obtain ⟨E, B, j⟩ := bbind j; refine At.call rfl Q78.callee rfl rfl rfl (Q78.spec hr0 rfl hc0 B) ?_; rintro _ _ ⟨rfl, rfl⟩; refine At.run 2 rfl (nT (At.ret (At.drop .z ?_))); cases bret j; exact At.res (.inl rfl) rfl rfl ⟨rfl, rfl⟩

noncomputable def Q123.f (L : List Q4) (N : Option Q3) (D : Int) (E : List Bs) (G : List Q0) (I : List Q1) (u : List Q6) (B : List (Bs × Bool)) (O : Int) (U : Int) (V : Bs) (X : Int) : Option ((List Q6) × (List (Bs × Bool)) × (Option Q3) × (List Q4)) :=
 jn (
 if 200 ≤ (u.length : Int) then
 (Q20.f L N D E G I u B O U V X 10).bind fun Z =>
 some (.inl Z)
 else
 some (.inl N)) (fun (a0 : Option Q3) =>
 (Q89.f L a0 D E G I u B).bind fun J =>
 (Q95.f J.2.1 J.1 D E G I u B).bind fun p =>
 jn (
 if ((mget B p.2.2.2.2.1).getD false) = true then
 some (.inl false)
 else
 some (.inl (decide (8 ≤ (B.length : Int))))) (fun (a1 : Bool) =>
 jn (
 if a1 = true then
 (Q20.f p.2.1 p.1 D E G I u B p.2.2.1 p.2.2.2.1 p.2.2.2.2.1 p.2.2.2.2.2 10).bind fun a2 =>
 some (.inl a2)
 else
 some (.inl p.1)) (fun (a3 : Option Q3) =>
 (Q89.f p.2.1 a3 D E G I u B).bind fun q =>
 jn (
 if q.1.isNone = true then
 (Q138.f u J.2.2.1 p.2.2.2.2.1 q.2.2.1).bind fun a4 =>
 some (.inl a4)
 else
 some (.inl false)) (fun (a5 : Bool) =>
 jn (
 if a5 = true then
 (Q20.f q.2.1 q.1 D E G I u B q.2.2.2.1 q.2.2.2.2.1 q.2.2.2.2.2.1 q.2.2.2.2.2.2 9).bind fun a6 =>
 some (.inl a6)
 else
 some (.inl q.1)) (fun (a7 : Option Q3) =>
 (Q100.f q.2.1 a7 D E G I u B).bind fun a8 =>
 if (u.length + ([(⟨J.2.2.1, p.2.2.2.2.1, q.2.2.1⟩ : Q6)] : List Q6).length) * 32 ≤ 140737488355328 then
 some ((u ++ ([(⟨J.2.2.1, p.2.2.2.2.1, q.2.2.1⟩ : Q6)] : List Q6)), (mset B p.2.2.2.2.1 true), a8, q.2.1)
 else none)))))
theorem Q123.callee : Callee Tryz.prog 73 := ⟨_, Tryz.func73, by kernel_rfl, by kernel_rfl⟩
theorem Q123.spec {a0 : List Q4} {b7 : Option Q3} {J a1 a2 a3 : Int} {p : List Bs} {q : List Q0} {u : List Q1} {D : List Q6} {I : List (Bs × Bool)} {a4 : Bs} (a5 : Option Nat) (hr0_0 : RdS Q4.fl.rep R.heap A0_0 a0) (hn0_0 : a0.length = n0_0) (hc0_0 : n0_0 ≤ c0_0) (hn0_3 : p.length = n0_3) (hn0_4 : q.length = n0_4) (hn0_5 : u.length = n0_5) (hn0_6 : D.length = n0_6) {r : (List Q6) × (List (Bs × Bool)) × (Option Q3) × (List Q4)} (j : Q123.f a0 b7 J p q u D I a1 a2 a4 a3 = some r) :
 Spec Tryz.prog 73 [bp b0, .agg #[i6 a1, i6 a2, .string ⟨(a4).toArray⟩, i6 a3]] R (pc b0 [.slice A0_0 n0_0 c0_0, optp a5, i6 J, .slice A0_3 n0_3 c0_3, .slice A0_4 n0_4 c0_4, .slice A0_5 n0_5 c0_5, .slice A0_6 n0_6 c0_6, .map (some b0_7)] 114 :: optb (Ow.fl Q3.fl) 58 a5 b7 :: row Fl.bs 9 A0_3 n0_3 c0_3 p :: row Q0.fl 35 A0_4 n0_4 c0_4 q :: grow Q1.ow 37 A0_5 n0_5 c0_5 u :: row Q6.fl 148 A0_6 n0_6 c0_6 D :: mapo Fl.bs.ov Fl.bool.ov b0_7 I :: Fr) (fun v l' => ∃ (b8 : Nat) (d6 : Option Addr) (d7 : Nat) (d8 : Option Nat) (d9 : Option Addr) (b9 : Nat) (e0 : Nat), v = .tuple #[] ∧ optb (Ow.fl Q3.fl) 58 d8 r.2.2.1 :: pc b0 [.slice d9 b9 e0, optp d8, i6 J, .slice A0_3 n0_3 c0_3, .slice A0_4 n0_4 c0_4, .slice A0_5 n0_5 c0_5, .slice d6 b8 d7, .map (some b0_7)] 114 :: row Fl.bs 9 A0_3 n0_3 c0_3 p :: row Q0.fl 35 A0_4 n0_4 c0_4 q :: grow Q1.ow 37 A0_5 n0_5 c0_5 u :: row Q6.fl 148 d6 b8 d7 r.1 :: mapo Fl.bs.ov Fl.bool.ov b0_7 r.2.1 :: Fr = l' ∧ r.1.length = b8 ∧ RdS Q4.fl.rep R.heap d9 r.2.2.2 ∧ r.2.2.2.length = b9 ∧ b9 ≤ e0) := by
 subst hn0_0; subst hn0_3; subst hn0_4; subst hn0_5; subst hn0_6; refine Spec.of Tryz.func73 rfl rfl ?_; unfold Q123.f at j; have j := brun j; refine At.seq (At.region ?_); refine At.box rfl rfl (cs := [i6 a1, i6 a2, .string ⟨(a4).toArray⟩, i6 a3]) rfl rfl (fun g1 => ?_); refine nT (At.seq (sR 3 rfl (At.y (Y.load rfl rfl (.s .z) rfl rfl rfl) rfl rfl rfl (At.run 2 rfl ?_)))); refine nT ?_; obtain ⟨g2, g3, o0, j⟩ := bjoin j; let L : HProp := pc g1 [i6 a1, i6 a2, .string ⟨(a4).toArray⟩, i6 a3] 116; refine At.join (X := (Option Q3) × (Option Nat)) (fun s_ => [(0, bp b0)]) (fun s_ => optb (Ow.fl Q3.fl) 58 s_.2 s_.1 :: pc b0 [.slice A0_0 a0.length c0_0, optp s_.2, i6 J, .slice A0_3 p.length c0_3, .slice A0_4 q.length c0_4, .slice A0_5 u.length c0_5, .slice A0_6 D.length c0_6, .map (some b0_7)] 114 :: row Fl.bs 9 A0_3 p.length c0_3 p :: row Q0.fl 35 A0_4 q.length c0_4 q :: grow Q1.ow 37 A0_5 u.length c0_5 u :: row Q6.fl 148 A0_6 D.length c0_6 D :: mapo Fl.bs.ov Fl.bool.ov b0_7 I :: L :: Fr) (fun s_ => g2 (.inl s_.1) = some r) ?_ (fun e1 => ?_)
 ·rintro ⟨o7, g4⟩ j; have j := (g3 _).symm.trans j
  ·refine sR 1 rfl (At.f6 (At.f6 (At.f6 (At.f6 (At.f6 ?_))))); refine At.f5 (At.f6 ?_); obtain ⟨G, g5, j⟩ := bbind j; refine At.call rfl Q89.callee rfl rfl rfl (Q89.spec g4 hr0_0 rfl hc0_0 rfl rfl rfl rfl g5) ?_; rintro _ _ ⟨g6, o8, o9, p0, rfl, rfl, g7, rfl, g8⟩; refine At.run 3 rfl ?_; refine At.alloc rfl rfl rfl (fun g9 => ?_); refine At.store rfl rfl rfl rfl .z rfl rfl rfl (.c (.c (.c (.c .n)))) ?_; refine At.run 1 rfl (nT (sR 1 rfl (At.f7 (At.f7 ?_)))); refine At.f7 (At.f7 (At.f7 (At.f6 (At.f7 ?_)))); obtain ⟨B, h0, j⟩ := bbind j; refine At.call rfl Q95.callee rfl rfl rfl (Q95.spec g6 g7 rfl g8 rfl rfl rfl rfl h0) ?_; rintro _ _ ⟨a6, e2, p1, e3, rfl, rfl, e4, rfl, e5⟩; refine At.alloc rfl rfl rfl (fun U => ?_); refine At.store rfl rfl rfl rfl .z rfl rfl rfl (.c (.c (.c (.c .n)))) ?_; refine nT (At.seq (At.seq ?_)); refine At.quiet (by kernel_rfl) ?_; refine At.Quiet.run 3 rfl ?_; refine At.Quiet.y (Y.load rfl rfl (.s (.s .z)) rfl rfl rfl) rfl rfl rfl ?_; refine At.Quiet.run 1 rfl ?_; refine At.Quiet.y (Y.load rfl rfl .z rfl rfl rfl) rfl rfl rfl ?_; refine At.Quiet.y (Y.lookup (k := B.2.2.2.2.1) (z := false) (.s (.s (.s (.s (.s (.s (.s .z))))))) rfl rfl (KeyOk.str rfl rfl) (by kernel_rfl) rfl rfl rfl) rfl rfl rfl ?_; refine At.Quiet.run 2 rfl ?_; obtain ⟨h1, h2, p2, j⟩ := bjoin j; let N : HProp := pc U [i6 B.2.2.1, i6 B.2.2.2.1, .string ⟨(B.2.2.2.2.1).toArray⟩, i6 B.2.2.2.2.2] 116; let h3 : HProp := pc b0 [.slice e2 B.2.1.length e3, optp a6, i6 J, .slice A0_3 p.length c0_3, .slice A0_4 q.length c0_4, .slice A0_5 u.length c0_5, .slice A0_6 D.length c0_6, .map (some b0_7)] 114; let O : HProp := pc g9 [i6 G.2.2.2.1, i6 G.2.2.2.2.1, .string ⟨(G.2.2.2.2.2.1).toArray⟩, i6 G.2.2.2.2.2.2] 116; refine At.Quiet.joinO 7 (X := Bool) (fun V => [(0, bp b0), (5, i6 G.2.2.1), (6, bp U), (41, .bool V)]) (fun V => N :: optb (Ow.fl Q3.fl) 58 a6 B.1 :: h3 :: row Fl.bs 9 A0_3 p.length c0_3 p :: row Q0.fl 35 A0_4 q.length c0_4 q :: grow Q1.ow 37 A0_5 u.length c0_5 u :: row Q6.fl 148 A0_6 D.length c0_6 D :: mapo Fl.bs.ov Fl.bool.ov b0_7 I :: O :: L :: Fr) (fun V => h1 (.inl V) = some r) ?_ (fun e6 => ?_)
   ·rintro V j; have j := (h2 _).symm.trans j
    ·refine At.Quiet.nil (At.thn ?_); obtain ⟨h4, h5, p3, j⟩ := bjoin j; refine At.join (X := (Option Q3) × (Option Nat)) (fun s_ => [(0, bp b0), (5, i6 G.2.2.1), (6, bp U)]) (fun s_ => optb (Ow.fl Q3.fl) 58 s_.2 s_.1 :: pc b0 [.slice e2 B.2.1.length e3, optp s_.2, i6 J, .slice A0_3 p.length c0_3, .slice A0_4 q.length c0_4, .slice A0_5 u.length c0_5, .slice A0_6 D.length c0_6, .map (some b0_7)] 114 :: row Fl.bs 9 A0_3 p.length c0_3 p :: row Q0.fl 35 A0_4 q.length c0_4 q :: grow Q1.ow 37 A0_5 u.length c0_5 u :: row Q6.fl 148 A0_6 D.length c0_6 D :: mapo Fl.bs.ov Fl.bool.ov b0_7 I :: N :: O :: L :: Fr) (fun s_ => h4 (.inl s_.1) = some r) ?_ (fun e7 => ?_)
     ·rintro ⟨p4, h6⟩ j; have j := (h5 _).symm.trans j
      ·refine sR 1 rfl (At.f6 (At.f6 (At.f6 (At.f6 (At.f6 ?_))))); refine At.f5 (At.f6 ?_); obtain ⟨E, h7, j⟩ := bbind j; refine At.call rfl Q89.callee rfl rfl rfl (Q89.spec h6 e4 rfl e5 rfl rfl rfl rfl h7) ?_; rintro _ _ ⟨a7, a8, p5, a9, rfl, rfl, c8, rfl, c9⟩; refine At.run 3 rfl ?_; refine At.alloc rfl rfl rfl (fun e8 => ?_); refine At.store rfl rfl rfl rfl .z rfl rfl rfl (.c (.c (.c (.c .n)))) ?_; refine At.run 1 rfl (nT (sR 2 rfl ?_)); refine At.y (Y.load rfl rfl (.s (.s (.s (.s (.s (.s (.s (.s .z)))))))) rfl rfl rfl) rfl rfl rfl ?_; refine At.run 1 rfl ?_; refine At.y (Y.build (is := [0, 1, 2]) (xo := [.tmp 50, .tmp 52, .tmp 53]) (vs := [i6 G.2.2.1, .string ⟨(B.2.2.2.2.1).toArray⟩, i6 E.2.2.1]) (cs := [i6 G.2.2.1, .string ⟨(B.2.2.2.2.1).toArray⟩, i6 E.2.2.1]) rfl rfl rfl rfl rfl rfl) rfl rfl rfl ?_; refine At.alloc rfl rfl rfl (fun d0 => ?_); refine At.store rfl rfl rfl rfl .z rfl rfl rfl (.c (.c (.c .n))) ?_; refine nT (At.seq (At.seq ?_)); refine At.freeze (.s (.s (.s (.s (.s (.s (.s .z))))))) fun p6 h8 h9 k1 p7 k2 => ?_; refine At.quiet (by kernel_rfl) ?_; refine At.Quiet.run 3 rfl ?_; refine At.Quiet.y (Y.load rfl rfl (.s (.s (.s .z))) rfl rfl rfl) rfl rfl rfl ?_; refine At.Quiet.y (Y.eqOpt (.s (.s .z)) rfl rfl rfl rfl) rfl rfl rfl ?_; refine At.Quiet.run 1 rfl ?_; obtain ⟨k3, k4, p8, j⟩ := bjoin j; let b4 : HProp := pc d0 [i6 G.2.2.1, .string ⟨(B.2.2.2.2.1).toArray⟩, i6 E.2.2.1] 148; let b5 : HProp := pc e8 [i6 E.2.2.2.1, i6 E.2.2.2.2.1, .string ⟨(E.2.2.2.2.2.1).toArray⟩, i6 E.2.2.2.2.2.2] 116; let k5 : HProp := pc b0 [.slice a8 E.2.1.length a9, optp a7, i6 J, .slice A0_3 p.length c0_3, .slice A0_4 q.length c0_4, .slice A0_5 u.length c0_5, .slice A0_6 D.length c0_6, .map (some b0_7)] 114; refine At.Quiet.joinO 7 (X := Bool) (fun Z => [(0, bp b0), (6, bp U), (7, bp e8), (9, bp d0), (67, .bool Z)]) (fun Z => b4 :: b5 :: optb (Ow.fl Q3.fl) 58 a7 E.1 :: k5 :: row Fl.bs 9 A0_3 p.length c0_3 p :: row Q0.fl 35 A0_4 q.length c0_4 q :: grow Q1.ow 37 A0_5 u.length c0_5 u :: mapo Fl.bs.ov Fl.bool.ov b0_7 I :: N :: O :: L :: Fr) (fun Z => k3 (.inl Z) = some r) ?_ (fun e9 => ?_)
       ·rintro Z j; have j := (k4 _).symm.trans j
        ·refine At.Quiet.nil (At.thn ?_); refine At.thaw k2 ?_; obtain ⟨k6, k7, p9, j⟩ := bjoin j; refine At.join (X := (Option Q3) × (Option Nat)) (fun s_ => [(0, bp b0), (6, bp U), (9, bp d0)]) (fun s_ => optb (Ow.fl Q3.fl) 58 s_.2 s_.1 :: pc b0 [.slice a8 E.2.1.length a9, optp s_.2, i6 J, .slice A0_3 p.length c0_3, .slice A0_4 q.length c0_4, .slice A0_5 u.length c0_5, .slice A0_6 D.length c0_6, .map (some b0_7)] 114 :: row Fl.bs 9 A0_3 p.length c0_3 p :: row Q0.fl 35 A0_4 q.length c0_4 q :: grow Q1.ow 37 A0_5 u.length c0_5 u :: row Q6.fl 148 A0_6 D.length c0_6 D :: mapo Fl.bs.ov Fl.bool.ov b0_7 I :: b4 :: b5 :: N :: O :: L :: Fr) (fun s_ => k6 (.inl s_.1) = some r) ?_ (fun f0 => ?_)
         ·rintro ⟨q0, k8⟩ j; have j := (k7 _).symm.trans j
          ·refine sR 1 rfl (At.f6 (At.f6 (At.f6 (At.f6 (At.f6 ?_))))); refine At.f5 (At.f6 ?_); obtain ⟨f3, k9, j⟩ := bbind j; refine At.call rfl Q100.callee rfl rfl rfl (Q100.spec k8 c8 rfl c9 rfl rfl rfl rfl k9) ?_; rintro _ _ ⟨b6, rfl, rfl⟩; refine nT (At.seq ?_); refine At.still 6 (by kernel_rfl) ?_; refine At.Still.run 3 rfl ?_; refine At.Still.y (Y.load rfl rfl .z rfl rfl rfl) rfl rfl rfl ?_; refine At.Still.run 1 rfl ?_; refine At.Still.y (Y.load rfl rfl (.s (.s (.s (.s (.s (.s (.s (.s (.s .z))))))))) rfl rfl rfl) rfl rfl rfl ?_; refine At.Still.nil ?_; refine At.mapUpdate (k := B.2.2.2.2.1) (v := true) rfl (.s (.s (.s (.s (.s (.s .z)))))) rfl rfl (KeyOk.str rfl rfl) rfl rfl rfl rfl rfl ?_; refine nT ?_; refine At.held [mapo Fl.bs.ov Fl.bool.ov b0_7 (mset I B.2.2.2.2.1 true), optb (Ow.fl Q3.fl) 58 b6 f3, row Fl.bs 9 A0_3 p.length c0_3 p, row Q0.fl 35 A0_4 q.length c0_4 q, grow Q1.ow 37 A0_5 u.length c0_5 u, b4, b5, N, O, L] 11 rfl ?_; refine At.H.pw 0 rfl rfl rfl rfl rfl (.c .z (.c (.s .z) (.c (.s .z) (.c (.s .z) (.c (.s .z) (.c (.s (.s .z)) (.c (.s (.s .z)) (.c (.s (.s .z)) (.c (.s (.s .z)) (.c (.s (.s .z)) .n)))))))))) ?_; refine At.H.pw 1 rfl rfl rfl rfl rfl (.c .z (.c (.s .z) (.c (.s .z) (.c (.s .z) (.c (.s .z) (.c (.s (.s .z)) (.c (.s (.s .z)) (.c (.s (.s .z)) (.c (.s (.s .z)) (.c (.s (.s .z)) .n)))))))))) ?_; refine At.H.pw 2 rfl rfl rfl rfl rfl (.c .z (.c (.s .z) (.c (.s .z) (.c (.s .z) (.c (.s .z) (.c (.s (.s .z)) (.c (.s (.s .z)) (.c (.s (.s .z)) (.c (.s (.s .z)) (.c (.s (.s .z)) .n)))))))))) ?_; refine At.H.pw 3 rfl rfl rfl rfl rfl (.c .z (.c (.s .z) (.c (.s .z) (.c (.s .z) (.c (.s .z) (.c (.s (.s .z)) (.c (.s (.s .z)) (.c (.s (.s .z)) (.c (.s (.s .z)) (.c (.s (.s .z)) .n)))))))))) ?_; refine At.H.tw 5 rfl (Y.load rfl rfl (.s (.s (.s (.s (.s .z))))) rfl rfl rfl) rfl rfl rfl (.c .z (.c (.s .z) (.c (.s .z) (.c (.s .z) (.c (.s .z) (.c (.s (.s .z)) (.c (.s (.s .z)) (.c (.s (.s .z)) (.c (.s (.s .z)) (.c (.s (.s .z)) .n)))))))))) ?_; obtain ⟨f4, j⟩ := bnone j; let m0 : HProp := mapo Fl.bs.ov Fl.bool.ov b0_7 (mset I B.2.2.2.2.1 true); refine At.H.joinK (X := (Option Addr) × Nat) (fun s_ => []) (fun s_ => pc b0 [.slice a8 E.2.1.length a9, optp b6, i6 J, .slice A0_3 p.length c0_3, .slice A0_4 q.length c0_4, .slice A0_5 u.length c0_5, .slice s_.1 ((D ++ ([(⟨G.2.2.1, B.2.2.2.2.1, E.2.2.1⟩ : Q6)] : List Q6)).length) s_.2, .map (some b0_7)] 114 :: row Q6.fl 148 s_.1 ((D ++ ([(⟨G.2.2.1, B.2.2.2.2.1, E.2.2.1⟩ : Q6)] : List Q6)).length) s_.2 (D ++ ([(⟨G.2.2.1, B.2.2.2.2.1, E.2.2.1⟩ : Q6)] : List Q6)) :: m0 :: optb (Ow.fl Q3.fl) 58 b6 f3 :: row Fl.bs 9 A0_3 p.length c0_3 p :: row Q0.fl 35 A0_4 q.length c0_4 q :: grow Q1.ow 37 A0_5 u.length c0_5 u :: b4 :: b5 :: N :: O :: L :: Fr) (fun s_ => True) ?_ (fun g0 => ?_)
           ·rintro ⟨m1, m2⟩ -
            ·refine At.drop (.s (.s (.s (.s (.s (.s (.s .z))))))) (At.drop (.s (.s (.s (.s (.s (.s (.s .z))))))) (At.drop (.s (.s (.s (.s (.s (.s (.s .z))))))) (At.drop (.s (.s (.s (.s (.s (.s (.s .z))))))) (At.drop (.s (.s (.s (.s (.s (.s (.s .z))))))) (At.f2 (At.f2 (At.f6 ?_))))))); refine At.f6 (At.f6 (At.f5 (At.f6 ?_))); cases bret j; exact At.res (.inr rfl) rfl rfl ⟨(D ++ ([(⟨G.2.2.1, B.2.2.2.2.1, E.2.2.1⟩ : Q6)] : List Q6)).length, m1, m2, b6, a8, E.2.1.length, a9, rfl, rfl, rfl, c8, rfl, c9⟩
           ·refine At.H.al [4, 6] (Q7 ?_ (Q7 ?_ Q11))
            ··refine At.HO.op rfl ?_
              refine At.y (Y.load rfl rfl (.s .z) rfl rfl rfl) rfl rfl rfl ?_; refine At.HO.back (.c .z (.c (.s .z) (.c (.s .z) (.c (.s .z) (.c (.s .z) (.c (.s (.s .z)) (.c (.s (.s .z)) (.c (.s (.s .z)) (.c (.s (.s .z)) (.c (.s (.s .z)) .n)))))))))) ?_; refine At.H.al [6] (Q7 ?_ Q11)
              ··refine At.HO.op rfl ?_
                refine At.lit rfl (xo := [.tmp 84]) (ys := ([(⟨G.2.2.1, B.2.2.2.2.1, E.2.2.1⟩ : Q6)] : List Q6)) Q6.fl rfl rfl rfl rfl rfl rfl rfl rfl rfl rfl rfl (fun q2 q3 => ?_); refine At.HO.back (.c (.s .z) (.c (.s (.s .z)) (.c (.s (.s .z)) (.c (.s (.s .z)) (.c (.s (.s .z)) (.c (.s (.s (.s .z))) (.c (.s (.s (.s .z))) (.c (.s (.s (.s .z))) (.c (.s (.s (.s .z))) (.c (.s (.s (.s .z))) .n)))))))))) ?_; refine At.H.al [7] (Q7 ?_ Q11)
                ··refine At.HO.op rfl ?_
                  refine At.append rfl (.s (.s (.s (.s (.s (.s (.s .z))))))) (Src.own .z (by simp)) rfl rfl rfl rfl rfl rfl rfl rfl f4 (by decide) rfl (fun m3 m4 => ?_); refine At.drop (.s .z) ?_; refine At.HO.back (.c (.s .z) (.c (.s (.s .z)) (.c (.s (.s .z)) (.c (.s (.s .z)) (.c (.s (.s .z)) (.c (.s (.s .z)) (.c (.s (.s .z)) (.c (.s (.s .z)) (.c (.s (.s .z)) (.c (.s (.s .z)) .n)))))))))) ?_; refine At.H.pw 8 rfl rfl rfl rfl rfl (.c (.s .z) (.c (.s (.s .z)) (.c (.s (.s .z)) (.c (.s (.s .z)) (.c (.s (.s .z)) (.c (.s (.s .z)) (.c (.s (.s .z)) (.c (.s (.s .z)) (.c (.s (.s .z)) (.c (.s (.s .z)) .n)))))))))) ?_; refine At.H.pw 9 rfl rfl rfl rfl rfl (.c (.s .z) (.c (.s (.s .z)) (.c (.s (.s .z)) (.c (.s (.s .z)) (.c (.s (.s .z)) (.c (.s (.s .z)) (.c (.s (.s .z)) (.c (.s (.s .z)) (.c (.s (.s .z)) (.c (.s (.s .z)) .n)))))))))) ?_; refine At.H.al [10] (Q7 ?_ Q11)
                  ··refine At.HO.op rfl ?_
                    refine At.store rfl rfl rfl rfl (.s (.s .z)) rfl rfl rfl (.s (.s (.s (.s (.s (.s (.c .n))))))) ?_; refine At.HO.back (.c (.s (.s .z)) (.c (.s (.s .z)) (.c (.s (.s .z)) (.c (.s (.s .z)) (.c (.s (.s .z)) (.c (.s (.s .z)) (.c (.s (.s .z)) (.c (.s (.s .z)) (.c (.s (.s .z)) (.c (.s (.s .z)) .n)))))))))) ?_; refine At.H.done (by kernel_rfl) ?_; exact At.of (g0 (m3, m4) trivial) trivial
            ··refine At.HO.op rfl ?_
              refine At.lit rfl (xo := [.tmp 84]) (ys := ([(⟨G.2.2.1, B.2.2.2.2.1, E.2.2.1⟩ : Q6)] : List Q6)) Q6.fl rfl rfl rfl rfl rfl rfl rfl rfl rfl rfl rfl (fun q4 q7 => ?_); refine At.HO.back (.c (.s .z) (.c (.s (.s .z)) (.c (.s (.s .z)) (.c (.s (.s .z)) (.c (.s (.s .z)) (.c (.s (.s (.s .z))) (.c (.s (.s (.s .z))) (.c (.s (.s (.s .z))) (.c (.s (.s (.s .z))) (.c (.s (.s (.s .z))) .n)))))))))) ?_; refine At.H.al [4] (Q7 ?_ Q11)
              ··refine At.HO.op rfl ?_
                refine At.y (Y.load rfl rfl (.s (.s .z)) rfl rfl rfl) rfl rfl rfl ?_; refine At.HO.back (.c (.s .z) (.c (.s (.s .z)) (.c (.s (.s .z)) (.c (.s (.s .z)) (.c (.s (.s .z)) (.c (.s (.s (.s .z))) (.c (.s (.s (.s .z))) (.c (.s (.s (.s .z))) (.c (.s (.s (.s .z))) (.c (.s (.s (.s .z))) .n)))))))))) ?_; refine At.H.al [7] (Q7 ?_ Q11)
                ··refine At.HO.op rfl ?_
                  refine At.append rfl (.s (.s (.s (.s (.s (.s (.s .z))))))) (Src.own .z (by simp)) rfl rfl rfl rfl rfl rfl rfl rfl f4 (by decide) rfl (fun m5 m6 => ?_); refine At.drop (.s .z) ?_; refine At.HO.back (.c (.s .z) (.c (.s (.s .z)) (.c (.s (.s .z)) (.c (.s (.s .z)) (.c (.s (.s .z)) (.c (.s (.s .z)) (.c (.s (.s .z)) (.c (.s (.s .z)) (.c (.s (.s .z)) (.c (.s (.s .z)) .n)))))))))) ?_; refine At.H.pw 8 rfl rfl rfl rfl rfl (.c (.s .z) (.c (.s (.s .z)) (.c (.s (.s .z)) (.c (.s (.s .z)) (.c (.s (.s .z)) (.c (.s (.s .z)) (.c (.s (.s .z)) (.c (.s (.s .z)) (.c (.s (.s .z)) (.c (.s (.s .z)) .n)))))))))) ?_; refine At.H.pw 9 rfl rfl rfl rfl rfl (.c (.s .z) (.c (.s (.s .z)) (.c (.s (.s .z)) (.c (.s (.s .z)) (.c (.s (.s .z)) (.c (.s (.s .z)) (.c (.s (.s .z)) (.c (.s (.s .z)) (.c (.s (.s .z)) (.c (.s (.s .z)) .n)))))))))) ?_; refine At.H.al [10] (Q7 ?_ Q11)
                  ··refine At.HO.op rfl ?_
                    refine At.store rfl rfl rfl rfl (.s (.s .z)) rfl rfl rfl (.s (.s (.s (.s (.s (.s (.c .n))))))) ?_; refine At.HO.back (.c (.s (.s .z)) (.c (.s (.s .z)) (.c (.s (.s .z)) (.c (.s (.s .z)) (.c (.s (.s .z)) (.c (.s (.s .z)) (.c (.s (.s .z)) (.c (.s (.s .z)) (.c (.s (.s .z)) (.c (.s (.s .z)) .n)))))))))) ?_; refine At.H.done (by kernel_rfl) ?_; exact At.of (g0 (m5, m6) trivial) trivial
         ··rcases bite j with ⟨d1, j⟩ | ⟨d1, j⟩
           ··refine At.condT rfl d1 ?_
             refine At.region (At.run 1 rfl (At.y (Y.load rfl rfl (.s (.s .z)) rfl rfl rfl) rfl rfl rfl (At.f8 (At.f1 (At.f8 (At.f8 (At.f8 ?_))))))); refine At.f7 (At.f8 ?_); obtain ⟨m7, m8, j⟩ := bbind j; refine At.call rfl Q20.callee rfl rfl rfl (Q20.spec a7 c8 rfl c9 rfl rfl rfl rfl m8) ?_; rintro _ _ ⟨m9, rfl, rfl⟩; refine nT ?_; exact fun a w e hs => f0 (m7, m9) j a w (e.sub ⟨rfl, rfl, rfl, trivial⟩) hs
           ··refine At.condF rfl (bn d1) ?_
             refine At.skip (At.thn (At.f11 (At.f11 (At.f11 (At.f5 (At.f5 (At.f11 ?_))))))); refine At.f6 (At.f11 (At.f11 (At.f11 (At.f11 (At.f11 ?_))))); exact fun a w e hs => f0 (E.1, a7) j a w (e.sub ⟨rfl, rfl, rfl, trivial⟩) hs
       ··rcases bite j with ⟨d2, j⟩ | ⟨d2, j⟩
         ··refine At.Quiet.know (t := 60) rfl d2 ?_
           refine At.Quiet.run 3 rfl ?_; refine At.Quiet.y (Y.load rfl rfl (.s (.s (.s .z))) rfl rfl rfl) rfl rfl rfl ?_; refine At.Quiet.y (Y.load rfl rfl .z rfl rfl rfl) rfl rfl rfl ?_; obtain ⟨n2, n3, j⟩ := bbind j; refine At.Quiet.call rfl Q138.callee rfl rfl rfl (Q138.spec h8 h9 k1 n3) (fun _ _ h_ => ⟨h_.1, fun _ hs => h_.2 ▸ hs⟩) ?_; refine At.Quiet.run 1 rfl ?_; exact At.Quiet.of (e9 n2 j) ⟨rfl, rfl, rfl, rfl, rfl, trivial⟩
         ··refine At.Quiet.know (t := 60) rfl (bn d2) ?_
           refine At.Quiet.run 7 rfl ?_; exact At.Quiet.of (e9 false j) ⟨rfl, rfl, rfl, rfl, rfl, trivial⟩
     ··rcases bite j with ⟨d3, j⟩ | ⟨d3, j⟩
       ··refine At.condT rfl d3 ?_
         refine At.region (At.run 1 rfl (At.y (Y.load rfl rfl .z rfl rfl rfl) rfl rfl rfl (At.f7 (At.f7 (At.f7 (At.f7 (At.f7 ?_))))))); refine At.f6 (At.f7 ?_); obtain ⟨n4, n5, j⟩ := bbind j; refine At.call rfl Q20.callee rfl rfl rfl (Q20.spec a6 e4 rfl e5 rfl rfl rfl rfl n5) ?_; rintro _ _ ⟨n6, rfl, rfl⟩; refine nT ?_; exact fun a w e hs => e7 (n4, n6) j a w (e.sub ⟨rfl, rfl, rfl, trivial⟩) hs
       ··refine At.condF rfl (bn d3) ?_
         refine At.skip (At.thn (At.f9 (At.f9 (At.f2 (At.f9 (At.f9 (At.f9 ?_))))))); refine At.f9 (At.f9 (At.f9 (At.f9 ?_))); exact fun a w e hs => e7 (B.1, a6) j a w (e.sub ⟨rfl, rfl, rfl, trivial⟩) hs
   ··rcases bite j with ⟨d4, j⟩ | ⟨d4, j⟩
     ··refine At.Quiet.know (t := 34) rfl (nf d4) ?_
       refine At.Quiet.run 7 rfl ?_; exact At.Quiet.of (e6 false j) ⟨rfl, rfl, rfl, rfl, trivial⟩
     ··refine At.Quiet.know (t := 34) rfl (nt (bn d4)) ?_
       refine At.Quiet.run 3 rfl ?_; refine At.Quiet.y (Y.load rfl rfl (.s (.s .z)) rfl rfl rfl) rfl rfl rfl ?_; refine At.Quiet.y (Y.lenMap (.s (.s (.s (.s (.s (.s (.s .z))))))) rfl rfl rfl) rfl rfl rfl ?_; refine At.Quiet.run 2 rfl ?_; exact At.Quiet.of (e6 (decide (8 ≤ (I.length : Int))) j) ⟨rfl, rfl, rfl, rfl, trivial⟩
 ··rcases bite j with ⟨d5, j⟩ | ⟨d5, j⟩
   ··refine At.condT rfl (decide_eq_true d5) ?_
     refine At.region (At.run 1 rfl (At.y (Y.load rfl rfl .z rfl rfl rfl) rfl rfl rfl (At.f7 (At.f7 (At.f7 (At.f7 (At.f7 ?_))))))); refine At.f7 (At.f7 ?_); obtain ⟨n7, n8, j⟩ := bbind j; refine At.call rfl Q20.callee rfl rfl rfl (Q20.spec a5 hr0_0 rfl hc0_0 rfl rfl rfl rfl n8) ?_; rintro _ _ ⟨n9, rfl, rfl⟩; refine nT ?_; exact fun a w e hs => e1 (n7, n9) j a w (e.sub ⟨rfl, trivial⟩) hs
   ··refine At.condF rfl (decide_eq_false d5) ?_
     refine At.skip (At.thn (At.f7 (At.f7 (At.f7 (At.f7 (At.f7 (At.f6 ?_))))))); refine At.f7 ?_; exact fun a w e hs => e1 (b7, a5) j a w (e.sub ⟨rfl, trivial⟩) hs

noncomputable def Q129.f (p : Bs) (u : List Int) (B D : Int) (q : Bs) (E : Int) : Option Bool :=
 some (bseq p q)
theorem Q129.callee : Callee Tryz.prog 101 := ⟨_, Tryz.func101, by kernel_rfl, by kernel_rfl⟩
theorem Q129.spec {q u : Bs} {p : List Int} {B D E : Int} (hr0_1 : RdS (Fl.int .i64).rep R.heap A0_1 p) (hn0_1 : p.length = n0_1) (hc0_1 : n0_1 ≤ c0_1) {r : Bool} (j : Q129.f q p B D u E = some r) :
 Spec Tryz.prog 101 [.agg #[.string ⟨(q).toArray⟩, .slice A0_1 n0_1 c0_1], bp b1] R (pc b1 [i6 B, i6 D, .string ⟨(u).toArray⟩, i6 E] 116 :: Fr) (fun v l' => v = .bool r ∧ pc b1 [i6 B, i6 D, .string ⟨(u).toArray⟩, i6 E] 116 :: Fr = l') := by
 subst hn0_1; refine Spec.of Tryz.func101 rfl rfl ?_; unfold Q129.f at j; have j := brun j; refine At.seq (At.region ?_); refine At.box rfl rfl (cs := [.string ⟨(q).toArray⟩, .slice A0_1 p.length c0_1]) rfl rfl (fun G => ?_); refine At.run 1 rfl (nT (sR 1 rfl (At.y (Y.load rfl rfl .z rfl rfl rfl) rfl rfl rfl (At.run 1 rfl ?_)))); refine At.y (Y.load rfl rfl (.s .z) rfl rfl rfl) rfl rfl rfl (At.run 2 rfl (nT (At.ret (At.drop .z ?_)))); cases bret j; exact At.res (.inl rfl) rfl rfl ⟨rfl, rfl⟩

noncomputable def Q81.l0b (a0 : List Q1) (a1_c0_0 a1_c0_1 : Int) (a1_c0_2 : Bs) (a1_c0_3 p : Int) : Option ((Int) ⊕ ((Unit) ⊕ (Int))) :=
 if p < (a0.length : Int) then
 if (0 : Int) ≤ p ∧ p < (a0.length : Int) then
 (Q129.f ((gt a0 p).Name) ((gt a0 p).States) a1_c0_0 a1_c0_1 a1_c0_2 a1_c0_3).bind fun q =>
 if q = true then
 upL (some p)
 else
 nx (IntKind.i64.wrap (p + 1))
 else none
 else
 dn (.inl ())
noncomputable def Q81.l0 (a0 : List Q1) (a1_c0_0 a1_c0_1 : Int) (a1_c0_2 : Bs) (a1_c0_3 p : Int) : Option ((Unit) ⊕ (Int)) := iter (fun t_ : Int => Q81.l0b a0 a1_c0_0 a1_c0_1 a1_c0_2 a1_c0_3 t_) p
noncomputable def Q81.f (a0 : List Q1) (a1_c0_0 a1_c0_1 : Int) (a1_c0_2 : Bs) (a1_c0_3 : Int) : Option Int :=
 jn (Q81.l0 a0 a1_c0_0 a1_c0_1 a1_c0_2 a1_c0_3 0) (fun (_ : Unit) =>
 some (-1))
theorem Q81.callee : Callee Tryz.prog 145 := ⟨_, Tryz.func145, by kernel_rfl, by kernel_rfl⟩
theorem Q81.spec {a0 : List Q1} {a1_c0_0 a1_c0_1 a1_c0_3 : Int} {a1_c0_2 : Bs} (hr0 : RdS Q1.rep R.heap A0 a0) (hn0 : a0.length = n0) (hc0 : n0 ≤ c0) {r : Int} (j : Q81.f a0 a1_c0_0 a1_c0_1 a1_c0_2 a1_c0_3 = some r) :
 Spec Tryz.prog 145 [.slice A0 n0 c0, .func (.func 101) #[] #[bp b1_c0]] R (pc b1_c0 [i6 a1_c0_0, i6 a1_c0_1, .string ⟨(a1_c0_2).toArray⟩, i6 a1_c0_3] 116 :: Fr) (fun v l' => v = i6 r ∧ pc b1_c0 [i6 a1_c0_0, i6 a1_c0_1, .string ⟨(a1_c0_2).toArray⟩, i6 a1_c0_3] 116 :: Fr = l') := by
 subst hn0; refine Spec.of Tryz.func145 rfl rfl ?_; unfold Q81.f at j; have j := brun j; refine sR 1 rfl (nT (At.seq (At.seq (At.region ?_)))); refine At.run 3 rfl (nT ?_); refine At.block ?_; obtain ⟨N, O, U, j⟩ := bjoin j; obtain ⟨I, B, J⟩ := bsome j; clear j; unfold Q81.l0 at B; obtain ⟨D, q⟩ := Q12.1 B; clear B; let L : HProp := pc b1_c0 [i6 a1_c0_0, i6 a1_c0_1, .string ⟨(a1_c0_2).toArray⟩, i6 a1_c0_3] 116; refine At.loopJ (X := Int) (Y := Unit) (e0 := 0) (fun p => [(0, .slice A0 a0.length c0), (1, .func (.func 101) #[] #[bp b1_c0]), (7, i6 (a0.length : Int)), (8, i6 p)]) (fun p => L :: Fr) (fun m_ => fun p => iterN (fun t_ : Int => Q81.l0b a0 a1_c0_0 a1_c0_1 a1_c0_2 a1_c0_3 t_) m_ p = some I) D 0 q (fun _ => []) (fun _ => L :: Fr) (fun _ => N (.inl ()) = some r) (fun a w e hs => ⟨e.sub ⟨rfl, rfl, rfl, rfl, trivial⟩, (by exact hs)⟩) ?_ (fun V => ?_)
 ·rintro _ j; have j := (O _).symm.trans j
  ·refine At.ibx ?_; refine At.thn (sR 1 rfl (nT (At.ret ?_))); cases bret j; exact At.res (.inl rfl) rfl rfl ⟨rfl, rfl⟩
 ·clear q D; rintro D p q; obtain ⟨Z, f_, a1, hf_, j⟩ := bit q; clear q; have j : (Q81.l0b a0 a1_c0_0 a1_c0_1 a1_c0_2 a1_c0_3 p).bind _ = some I := j; unfold Q81.l0b at j
  ·refine sR 1 rfl (nT (At.seq ?_)); rcases bite j with ⟨E, j⟩ | ⟨E, j⟩
   ··refine At.condT rfl (decide_eq_true E) ?_
     refine At.skip (At.thn (At.seq ?_)); refine At.block ?_; refine sR 2 rfl (nT (sR 3 rfl ?_)); obtain ⟨u, j⟩ := bnone j; refine At.y (Y.ixRd hr0 rfl rfl rfl rfl rfl rfl rfl u.1 u.2) rfl rfl rfl ?_; obtain ⟨a7, a2, a3⟩ := RdS.whole (P := Tryz.prog) hr0 (Sub.refl _) rfl u.1 u.2; obtain ⟨_, _, rfl, rfl, ⟨a8, a9, rfl, a4, a5⟩⟩ := a2; refine At.y (a3 rfl rfl rfl rfl) rfl rfl rfl ?_; obtain ⟨b4, a6, j⟩ := bbind j; refine At.call rfl Q129.callee rfl rfl rfl (Q129.spec a5 rfl a4 a6) ?_; rintro _ _ ⟨rfl, rfl⟩; refine nT ?_; rcases bite j with ⟨G, j⟩ | ⟨G, j⟩
     ··refine At.condT rfl G ?_
       refine sR 2 rfl (nT (At.ret ?_)); refine At.ibr ?_; refine At.thr ?_; have j := bupL U J j; refine At.thr ?_; refine At.ibr ?_; refine At.thr ?_; cases bret j; exact At.res (.inl rfl) rfl rfl ⟨rfl, rfl⟩
     ··refine At.condF rfl (bn G) ?_
       refine At.skip ?_; refine At.ibn ?_; refine At.thn (At.region (At.run 2 rfl (At.nil ?_))); have j := bnx hf_ j; exact fun a w e hs => ⟨Z, (IntKind.i64.wrap (p + 1)), a1, j, e.sub ⟨rfl, rfl, rfl, rfl, trivial⟩, hs⟩
   ··refine At.condF rfl (decide_eq_false E) ?_
     refine At.exit ?_; refine At.the ?_; refine At.the ?_; exact fun a w e hs => V () (bdn j J) a w (e.sub trivial) hs

noncomputable def Q126.f (a0 : List Q1) (a1_c0_0 a1_c0_1 : Int) (a1_c0_2 : Bs) (a1_c0_3 : Int) : Option Bool :=
 (Q81.f a0 a1_c0_0 a1_c0_1 a1_c0_2 a1_c0_3).bind fun p =>
 some (decide (0 ≤ p))
theorem Q126.callee : Callee Tryz.prog 100 := ⟨_, Tryz.func100, by kernel_rfl, by kernel_rfl⟩
theorem Q126.spec {a0 : List Q1} {a1_c0_0 a1_c0_1 a1_c0_3 : Int} {a1_c0_2 : Bs} (hr0 : RdS Q1.rep R.heap A0 a0) (hn0 : a0.length = n0) (hc0 : n0 ≤ c0) {r : Bool} (j : Q126.f a0 a1_c0_0 a1_c0_1 a1_c0_2 a1_c0_3 = some r) :
 Spec Tryz.prog 100 [.slice A0 n0 c0, .func (.func 101) #[] #[bp b1_c0]] R (pc b1_c0 [i6 a1_c0_0, i6 a1_c0_1, .string ⟨(a1_c0_2).toArray⟩, i6 a1_c0_3] 116 :: Fr) (fun v l' => v = .bool r ∧ pc b1_c0 [i6 a1_c0_0, i6 a1_c0_1, .string ⟨(a1_c0_2).toArray⟩, i6 a1_c0_3] 116 :: Fr = l') := by
 subst hn0; refine Spec.of Tryz.func100 rfl rfl ?_; unfold Q126.f at j; have j := brun j; refine sR 1 rfl (nT (sR 2 rfl ?_)); obtain ⟨q, p, j⟩ := bbind j; refine At.call rfl Q81.callee rfl rfl rfl (Q81.spec hr0 rfl hc0 p) ?_; rintro _ _ ⟨rfl, rfl⟩; refine At.run 2 rfl (nT (At.ret ?_)); cases bret j; exact At.res (.inl rfl) rfl rfl ⟨rfl, rfl⟩

noncomputable def Q77.l0b (a0 : List Int) (a1 p : Int) : Option ((Int) ⊕ ((Unit) ⊕ (Int))) :=
 if p < (a0.length : Int) then
 if (0 : Int) ≤ p ∧ p < (a0.length : Int) then
 if a1 = gt a0 p then
 upL (some p)
 else
 nx (IntKind.i64.wrap (p + 1))
 else none
 else
 dn (.inl ())
noncomputable def Q77.l0 (a0 : List Int) (a1 p : Int) : Option ((Unit) ⊕ (Int)) := iter (fun t_ : Int => Q77.l0b a0 a1 t_) p
noncomputable def Q77.f (a0 : List Int) (a1 : Int) : Option Int :=
 jn (Q77.l0 a0 a1 0) (fun (_ : Unit) =>
 some (-1))
theorem Q77.callee : Callee Tryz.prog 146 := ⟨_, Tryz.func146, by kernel_rfl, by kernel_rfl⟩
theorem Q77.spec {a0 : List Int} {a1 : Int} (hr0 : RdS (Fl.int .i64).rep R.heap A0 a0) (hn0 : a0.length = n0) (hc0 : n0 ≤ c0) {r : Int} (j : Q77.f a0 a1 = some r) :
 Spec Tryz.prog 146 [.slice A0 n0 c0, i6 a1] R (Fr) (fun v l' => v = i6 r ∧ Fr = l') := by
 subst hn0; refine Spec.of Tryz.func146 rfl rfl ?_; unfold Q77.f at j; have j := brun j; refine sR 1 rfl (nT (At.seq (At.seq (At.region ?_)))); refine At.run 3 rfl (nT ?_); refine At.block ?_; obtain ⟨N, O, U, j⟩ := bjoin j; obtain ⟨J, D, L⟩ := bsome j; clear j; unfold Q77.l0 at D; obtain ⟨E, u⟩ := Q12.1 D; clear D; refine At.loopJ (X := Int) (Y := Unit) (e0 := 0) (fun p => [(0, .slice A0 a0.length c0), (1, i6 a1), (7, i6 (a0.length : Int)), (8, i6 p)]) (fun p => Fr) (fun m_ => fun p => iterN (fun t_ : Int => Q77.l0b a0 a1 t_) m_ p = some J) E 0 u (fun _ => []) (fun _ => Fr) (fun _ => N (.inl ()) = some r) (fun a w e hs => ⟨e.sub ⟨rfl, rfl, rfl, rfl, trivial⟩, (by exact hs)⟩) ?_ (fun V => ?_)
 ·rintro _ j; have j := (O _).symm.trans j
  ·refine At.ibx ?_; refine At.thn (sR 1 rfl (nT (At.ret ?_))); cases bret j; exact At.res (.inl rfl) rfl rfl ⟨rfl, rfl⟩
 ·clear u E; rintro E p u; obtain ⟨Z, f_, a2, hf_, j⟩ := bit u; clear u; have j : (Q77.l0b a0 a1 p).bind _ = some J := j; unfold Q77.l0b at j
  ·refine sR 1 rfl (nT (At.seq ?_)); rcases bite j with ⟨G, j⟩ | ⟨G, j⟩
   ··refine At.condT rfl (decide_eq_true G) ?_
     refine At.skip (At.thn (At.seq ?_)); refine At.block ?_; refine sR 2 rfl (nT (sR 3 rfl ?_)); obtain ⟨B, j⟩ := bnone j; refine At.y (Y.ixRd hr0 rfl rfl rfl rfl rfl rfl rfl B.1 B.2) rfl rfl rfl (At.y (Y.ldFl hr0 rfl (q := 0) rfl rfl B.1 B.2 rfl rfl rfl) rfl rfl rfl (At.run 1 rfl (nT ?_))); rcases bite j with ⟨I, j⟩ | ⟨I, j⟩
     ··refine At.condT rfl (decide_eq_true I) ?_
       refine sR 2 rfl (nT (At.ret ?_)); refine At.ibr ?_; refine At.thr ?_; have j := bupL U L j; refine At.thr ?_; refine At.ibr ?_; refine At.thr ?_; cases bret j; exact At.res (.inl rfl) rfl rfl ⟨rfl, rfl⟩
     ··refine At.condF rfl (decide_eq_false I) ?_
       refine At.skip ?_; refine At.ibn ?_; refine At.thn (At.region (At.run 2 rfl (At.nil ?_))); have j := bnx hf_ j; exact fun a w e hs => ⟨Z, (IntKind.i64.wrap (p + 1)), a2, j, e.sub ⟨rfl, rfl, rfl, rfl, trivial⟩, hs⟩
   ··refine At.condF rfl (decide_eq_false G) ?_
     refine At.exit ?_; refine At.the ?_; refine At.the ?_; exact fun a w e hs => V () (bdn j L) a w (e.sub trivial) hs

noncomputable def Q136.f (a0 : List Int) (a1 : Int) : Option Bool :=
 (Q77.f a0 a1).bind fun p =>
 some (decide (0 ≤ p))
theorem Q136.callee : Callee Tryz.prog 103 := ⟨_, Tryz.func103, by kernel_rfl, by kernel_rfl⟩
theorem Q136.spec {a0 : List Int} {a1 : Int} (hr0 : RdS (Fl.int .i64).rep R.heap A0 a0) (hn0 : a0.length = n0) (hc0 : n0 ≤ c0) {r : Bool} (j : Q136.f a0 a1 = some r) :
 Spec Tryz.prog 103 [.slice A0 n0 c0, i6 a1] R (Fr) (fun v l' => v = .bool r ∧ Fr = l') := by
 subst hn0; refine Spec.of Tryz.func103 rfl rfl ?_; unfold Q136.f at j; have j := brun j; refine sR 1 rfl (nT (sR 2 rfl ?_)); obtain ⟨q, p, j⟩ := bbind j; refine At.call rfl Q77.callee rfl rfl rfl (Q77.spec hr0 rfl hc0 p) ?_; rintro _ _ ⟨rfl, rfl⟩; refine At.run 2 rfl (nT (At.ret ?_)); cases bret j; exact At.res (.inl rfl) rfl rfl ⟨rfl, rfl⟩

noncomputable def Q87.f (a0 : List Int) : Option (List Int) := if a0.length < 4611686018427387904 then some (a0.mergeSort fun x y => decide (x ≤ y)) else none
theorem Q87.callee : Callee Tryz.prog 104 := ⟨_, Tryz.func104, by kernel_rfl, by kernel_rfl⟩
theorem Q87.spec {a0 : List Int} (hn0 : a0.length = n0) {r : List Int} (j : Q87.f a0 = some r) :
 Spec Tryz.prog 104 [.slice A0 n0 c0] R (row (Fl.int .i64) 3 A0 n0 c0 a0 :: Fr) (fun v l' => v = .tuple #[] ∧ row (Fl.int .i64) 3 A0 n0 c0 r :: Fr = l') := by
 unfold Q87.f at j; split at j
 ·rename_i hb; cases j; exact Q305 Tryz.sort104 R Fr hb
 ·cases j

noncomputable def Q42.l0b (B : Int) (D : List Bs) (E : List Q0) (G : List Q1) (I : List Q6) (J : List (Bs × Bool)) (q : List Int) (u : Option Q3) (L : List Q4) : Option (((List Int) × (Option Q3) × (List Q4)) ⊕ (((Option Q3) × (List Int) × (List Q4)) ⊕ ((List Q1) × (Option Q3) × (List Q4)))) :=
 jn (
 if u.isNone = true then
 (Q104.f L u B D E G I J).bind fun N =>
 some (.inl (!N))
 else
 some (.inl false)) (fun (O : Bool) =>
 if O = true then
 (Q89.f L u B D E G I J).bind fun p =>
 jn (
 if p.1.isNone = true then
 (Q136.f q p.2.2.1).bind fun U =>
 some (.inl U)
 else
 some (.inl false)) (fun (V : Bool) =>
 jn (
 if V = true then
 (Q20.f p.2.1 p.1 B D E G I J p.2.2.2.1 p.2.2.2.2.1 p.2.2.2.2.2.1 p.2.2.2.2.2.2 9).bind fun X =>
 some (.inl X)
 else
 some (.inl p.1)) (fun (Z : Option Q3) =>
 if (q.length + ([p.2.2.1] : List Int).length) * 8 ≤ 140737488355328 then
 nx ((q ++ ([p.2.2.1] : List Int)), Z, p.2.1)
 else none))
 else
 dn (.inl (u, q, L)))
noncomputable def Q42.l0 (p : Int) (q : List Bs) (u : List Q0) (B : List Q1) (D : List Q6) (E : List (Bs × Bool)) (G : List Int) (I : Option Q3) (J : List Q4) : Option (((Option Q3) × (List Int) × (List Q4)) ⊕ ((List Q1) × (Option Q3) × (List Q4))) := iter (fun t_ : (List Int) × (Option Q3) × (List Q4) => Q42.l0b p q u B D E t_.1 t_.2.1 t_.2.2) (G, I, J)
noncomputable def Q42.f (I : List Q4) (J : Option Q3) (u : Int) (B : List Bs) (D : List Q0) (q : List Q1) (E : List Q6) (G : List (Bs × Bool)) : Option ((List Q1) × (Option Q3) × (List Q4)) :=
 (Q95.f I J u B D q E G).bind fun p =>
 jn (
 if p.1.isNone = true then
 if 8 ≤ (q.length : Int) then
 (Q20.f p.2.1 p.1 u B D q E G p.2.2.1 p.2.2.2.1 p.2.2.2.2.1 p.2.2.2.2.2 10).bind fun L =>
 some (.inl L)
 else
 (Q126.f q p.2.2.1 p.2.2.2.1 p.2.2.2.2.1 p.2.2.2.2.2).bind fun N =>
 if N = true then
 (Q20.f p.2.1 p.1 u B D q E G p.2.2.1 p.2.2.2.1 p.2.2.2.2.1 p.2.2.2.2.2 9).bind fun O =>
 some (.inl O)
 else
 some (.inl p.1)
 else
 up (some (q, p.1, p.2.1))) (fun (U : Option Q3) =>
 jn (Q42.l0 u B D q E G ([] : List Int) U p.2.1) (fun (s_ : (Option Q3) × (List Int) × (List Q4)) =>
 (Q87.f s_.2.1).bind fun V =>
 if (q.length + 1) * 40 ≤ 140737488355328 then
 some ((q ++ [(⟨p.2.2.2.2.1, V⟩ : Q1)]), s_.1, s_.2.2)
 else none))
theorem Q42.callee : Callee Tryz.prog 74 := ⟨_, Tryz.func74, by kernel_rfl, by kernel_rfl⟩
theorem Q42.spec {c8 : List Q4} {g0 : Option Q3} {I : Int} {q : List Bs} {u : List Q0} {p : List Q1} {B : List Q6} {L : List (Bs × Bool)} (c9 : Option Nat) (hr0_0 : RdS Q4.fl.rep R.heap A0_0 c8) (hn0_0 : c8.length = n0_0) (hc0_0 : n0_0 ≤ c0_0) (hn0_3 : q.length = n0_3) (hn0_4 : u.length = n0_4) (hn0_5 : p.length = n0_5) (hn0_6 : B.length = n0_6) {r : (List Q1) × (Option Q3) × (List Q4)} (j : Q42.f c8 g0 I q u p B L = some r) :
 Spec Tryz.prog 74 [bp b0] R (pc b0 [.slice A0_0 n0_0 c0_0, optp c9, i6 I, .slice A0_3 n0_3 c0_3, .slice A0_4 n0_4 c0_4, .slice A0_5 n0_5 c0_5, .slice A0_6 n0_6 c0_6, .map (some b0_7)] 114 :: optb (Ow.fl Q3.fl) 58 c9 g0 :: row Fl.bs 9 A0_3 n0_3 c0_3 q :: row Q0.fl 35 A0_4 n0_4 c0_4 u :: grow Q1.ow 37 A0_5 n0_5 c0_5 p :: row Q6.fl 148 A0_6 n0_6 c0_6 B :: mapo Fl.bs.ov Fl.bool.ov b0_7 L :: Fr) (fun v l' => ∃ (d0 : Nat) (g1 : Option Addr) (g2 : Nat) (g3 : Option Nat) (g4 : Option Addr) (d1 : Nat) (g5 : Nat), v = .tuple #[] ∧ optb (Ow.fl Q3.fl) 58 g3 r.2.1 :: pc b0 [.slice g4 d1 g5, optp g3, i6 I, .slice A0_3 n0_3 c0_3, .slice A0_4 n0_4 c0_4, .slice g1 d0 g2, .slice A0_6 n0_6 c0_6, .map (some b0_7)] 114 :: row Fl.bs 9 A0_3 n0_3 c0_3 q :: row Q0.fl 35 A0_4 n0_4 c0_4 u :: grow Q1.ow 37 g1 d0 g2 r.1 :: row Q6.fl 148 A0_6 n0_6 c0_6 B :: mapo Fl.bs.ov Fl.bool.ov b0_7 L :: Fr = l' ∧ r.1.length = d0 ∧ RdS Q4.fl.rep R.heap g4 r.2.2 ∧ r.2.2.length = d1 ∧ d1 ≤ g5) := by
 subst hn0_0; subst hn0_3; subst hn0_4; subst hn0_5; subst hn0_6; refine Spec.of Tryz.func74 rfl rfl ?_; unfold Q42.f at j; have j := brun j; refine sR 1 rfl ?_; obtain ⟨D, k2, j⟩ := bbind j; refine At.call rfl Q95.callee rfl rfl rfl (Q95.spec c9 hr0_0 rfl hc0_0 rfl rfl rfl rfl k2) ?_; rintro _ _ ⟨a8, d2, s7, d3, rfl, rfl, a9, rfl, b4⟩; refine At.alloc rfl rfl rfl (fun N => ?_); refine At.store rfl rfl rfl rfl .z rfl rfl rfl (.c (.c (.c (.c .n)))) ?_; refine nT (At.seq ?_); obtain ⟨k3, k4, k5, j⟩ := bjoin j; let J : HProp := pc N [i6 D.2.2.1, i6 D.2.2.2.1, .string ⟨(D.2.2.2.2.1).toArray⟩, i6 D.2.2.2.2.2] 116; refine At.join (X := (Option Q3) × (Option Nat)) (fun s_ => [(0, bp b0), (2, bp N)]) (fun s_ => optb (Ow.fl Q3.fl) 58 s_.2 s_.1 :: pc b0 [.slice d2 D.2.1.length d3, optp s_.2, i6 I, .slice A0_3 q.length c0_3, .slice A0_4 u.length c0_4, .slice A0_5 p.length c0_5, .slice A0_6 B.length c0_6, .map (some b0_7)] 114 :: row Fl.bs 9 A0_3 q.length c0_3 q :: row Q0.fl 35 A0_4 u.length c0_4 u :: grow Q1.ow 37 A0_5 p.length c0_5 p :: row Q6.fl 148 A0_6 B.length c0_6 B :: mapo Fl.bs.ov Fl.bool.ov b0_7 L :: J :: Fr) (fun s_ => k3 (.inl s_.1) = some r) ?_ (fun d4 => ?_)
 ·rintro ⟨k6, k7⟩ j; have j := (k4 _).symm.trans j
  ·refine sR 1 rfl (nT (At.seq ?_)); refine At.block ?_; obtain ⟨k8, k9, s8, j⟩ := bjoin j; obtain ⟨a0, d5, m0⟩ := bsome j; clear j; unfold Q42.l0 at d5; obtain ⟨d6, a1⟩ := Q12.1 d5; clear d5; refine At.nilRow (Fl.int .i64) 3 ?_; let T32 : HProp := row Fl.bs 9 A0_3 q.length c0_3 q; let T33 : HProp := row Q0.fl 35 A0_4 u.length c0_4 u; let a2 : HProp := grow Q1.ow 37 A0_5 p.length c0_5 p; let O : HProp := row Q6.fl 148 A0_6 B.length c0_6 B; let U : HProp := mapo Fl.bs.ov Fl.bool.ov b0_7 L; refine At.loopJ (X := (List Int) × (Option Q3) × (List Q4) × Nat × (Option Addr) × Nat × (Option Nat) × (Option Addr) × Nat × Nat) (Y := (Option Q3) × (List Int) × (List Q4) × (Option Nat) × Nat × (Option Addr) × Nat × (Option Addr) × Nat × Nat) (e0 := 1) (fun s_ => [(0, bp b0), (2, bp N), (3, .slice s_.2.2.2.2.1 s_.2.2.2.1 s_.2.2.2.2.2.1)]) (fun s_ => row (Fl.int .i64) 3 s_.2.2.2.2.1 s_.2.2.2.1 s_.2.2.2.2.2.1 s_.1 :: optb (Ow.fl Q3.fl) 58 s_.2.2.2.2.2.2.1 s_.2.1 :: pc b0 [.slice s_.2.2.2.2.2.2.2.1 (d8 s_).1 (d8 s_).2, optp s_.2.2.2.2.2.2.1, i6 I, .slice A0_3 q.length c0_3, .slice A0_4 u.length c0_4, .slice A0_5 p.length c0_5, .slice A0_6 B.length c0_6, .map (some b0_7)] 114 :: T32 :: T33 :: a2 :: O :: U :: J :: Fr) (fun m_ => fun s_ => iterN (fun t_ : (List Int) × (Option Q3) × (List Q4) => Q42.l0b I q u p B L t_.1 t_.2.1 t_.2.2) m_ (s_.1, s_.2.1, s_.2.2.1) = some a0 ∧ s_.1.length = s_.2.2.2.1 ∧ RdS Q4.fl.rep R.heap s_.2.2.2.2.2.2.2.1 s_.2.2.1 ∧ s_.2.2.1.length = (d8 s_).1 ∧ (d8 s_).1 ≤ (d8 s_).2) d6 (([] : List Int), k6, D.2.1, 0, none, 0, k7, d2, D.2.1.length, d3) ⟨a1, rfl, a9, rfl, b4⟩ (fun s_ => [(0, bp b0), (2, bp N), (3, .slice s_.2.2.2.2.2.1 s_.2.2.2.2.1 s_.2.2.2.2.2.2.1)]) (fun s_ => pc b0 [.slice s_.2.2.2.2.2.2.2.1 (d8 s_).1 (d8 s_).2, optp s_.2.2.2.1, i6 I, .slice A0_3 q.length c0_3, .slice A0_4 u.length c0_4, .slice A0_5 p.length c0_5, .slice A0_6 B.length c0_6, .map (some b0_7)] 114 :: optb (Ow.fl Q3.fl) 58 s_.2.2.2.1 s_.1 :: T32 :: T33 :: a2 :: O :: U :: row (Fl.int .i64) 3 s_.2.2.2.2.2.1 s_.2.2.2.2.1 s_.2.2.2.2.2.2.1 s_.2.1 :: J :: Fr) (fun s_ => k8 (.inl (s_.1, s_.2.1, s_.2.2.1)) = some r ∧ s_.2.1.length = s_.2.2.2.2.1 ∧ RdS Q4.fl.rep R.heap s_.2.2.2.2.2.2.2.1 s_.2.2.1 ∧ s_.2.2.1.length = (d8 s_).1 ∧ (d8 s_).1 ≤ (d8 s_).2) (fun a w e hs => ⟨e.sub ⟨rfl, rfl, rfl, trivial⟩, (by exact hs)⟩) ?_ (fun m1 => ?_)
   ·rintro ⟨g6, a3, d7, b5, m2, b6, b7, g7, m3, g8⟩ ⟨j, m4, m5, m6, m7⟩; obtain rfl : a3.length = m2 := m4; obtain rfl : d7.length = m3 := m6; have j := (k9 _).symm.trans j
    ·refine At.ibx ?_; refine At.thn (sR 1 rfl (At.f7 ?_)); obtain ⟨b8, m8, j⟩ := bbind j; refine At.call rfl Q87.callee rfl rfl rfl (Q87.spec rfl m8) ?_; rintro _ _ ⟨rfl, rfl⟩; refine nT ?_; refine At.held [optb (Ow.fl Q3.fl) 58 b5 g6, T32, T33, O, U, J] 16 rfl ?_; refine At.H.pw 0 rfl rfl rfl rfl rfl (.c (.s (.s .z)) (.c (.s (.s .z)) (.c (.s (.s .z)) (.c (.s (.s (.s .z))) (.c (.s (.s (.s .z))) (.c (.s (.s (.s .z))) .n)))))) ?_; refine At.H.pw 1 rfl rfl rfl rfl rfl (.c (.s (.s .z)) (.c (.s (.s .z)) (.c (.s (.s .z)) (.c (.s (.s (.s .z))) (.c (.s (.s (.s .z))) (.c (.s (.s (.s .z))) .n)))))) ?_; refine At.H.pw 2 rfl rfl rfl rfl rfl (.c (.s (.s .z)) (.c (.s (.s .z)) (.c (.s (.s .z)) (.c (.s (.s (.s .z))) (.c (.s (.s (.s .z))) (.c (.s (.s (.s .z))) .n)))))) ?_; refine At.H.pw 3 rfl rfl rfl rfl rfl (.c (.s (.s .z)) (.c (.s (.s .z)) (.c (.s (.s .z)) (.c (.s (.s (.s .z))) (.c (.s (.s (.s .z))) (.c (.s (.s (.s .z))) .n)))))) ?_; refine At.H.pw 4 rfl rfl rfl rfl rfl (.c (.s (.s .z)) (.c (.s (.s .z)) (.c (.s (.s .z)) (.c (.s (.s (.s .z))) (.c (.s (.s (.s .z))) (.c (.s (.s (.s .z))) .n)))))) ?_; refine At.H.pw 6 rfl rfl rfl rfl rfl (.c (.s (.s .z)) (.c (.s (.s .z)) (.c (.s (.s .z)) (.c (.s (.s (.s .z))) (.c (.s (.s (.s .z))) (.c (.s (.s (.s .z))) .n)))))) ?_; refine At.H.tw 7 rfl (Y.load rfl rfl (.s (.s (.s (.s (.s .z))))) rfl rfl rfl) rfl rfl rfl (.c (.s (.s .z)) (.c (.s (.s .z)) (.c (.s (.s .z)) (.c (.s (.s (.s .z))) (.c (.s (.s (.s .z))) (.c (.s (.s (.s .z))) .n)))))) ?_; refine At.H.pw 8 rfl rfl rfl rfl rfl (.c (.s (.s .z)) (.c (.s (.s .z)) (.c (.s (.s .z)) (.c (.s (.s (.s .z))) (.c (.s (.s (.s .z))) (.c (.s (.s (.s .z))) .n)))))) ?_; refine At.H.tw 9 rfl (Y.build (is := [0, 1]) (xo := [.tmp 77, .tmp 78]) (vs := [.string ⟨(D.2.2.2.2.1).toArray⟩, .slice b6 a3.length b7]) (cs := [.string ⟨(D.2.2.2.2.1).toArray⟩, .slice b6 a3.length b7]) rfl rfl rfl rfl rfl rfl) rfl rfl rfl (.c (.s (.s .z)) (.c (.s (.s .z)) (.c (.s (.s .z)) (.c (.s (.s (.s .z))) (.c (.s (.s (.s .z))) (.c (.s (.s (.s .z))) .n)))))) ?_; obtain ⟨g9, j⟩ := bnone j; refine At.H.joinK (X := (Option Addr) × Nat) (fun s_ => []) (fun s_ => pc b0 [.slice g7 d7.length g8, optp b5, i6 I, .slice A0_3 q.length c0_3, .slice A0_4 u.length c0_4, .slice s_.1 ((p ++ [(⟨D.2.2.2.2.1, b8⟩ : Q1)]).length) s_.2, .slice A0_6 B.length c0_6, .map (some b0_7)] 114 :: grow Q1.ow 37 s_.1 ((p ++ [(⟨D.2.2.2.2.1, b8⟩ : Q1)]).length) s_.2 (p ++ [(⟨D.2.2.2.2.1, b8⟩ : Q1)]) :: optb (Ow.fl Q3.fl) 58 b5 g6 :: T32 :: T33 :: O :: U :: J :: Fr) (fun s_ => True) ?_ (fun h0 => ?_)
     ·rintro ⟨m9, n2⟩ -
      ·refine At.drop (.s (.s (.s (.s (.s (.s (.s .z))))))) (At.f6 (At.f6 (At.f3 (At.f6 (At.f6 (At.f5 (At.f6 ?_))))))); cases bret j; exact At.res (.inr rfl) rfl rfl ⟨(p ++ [(⟨D.2.2.2.2.1, b8⟩ : Q1)]).length, m9, n2, b5, g7, d7.length, g8, rfl, rfl, rfl, m5, rfl, m7⟩
     ·refine At.H.al [5, 10] (Q7 ?_ (Q7 ?_ Q11))
      ··refine At.HO.op rfl ?_
        refine At.y (Y.load rfl rfl (.s .z) rfl rfl rfl) rfl rfl rfl ?_; refine At.HO.back (.c (.s (.s .z)) (.c (.s (.s .z)) (.c (.s (.s .z)) (.c (.s (.s (.s .z))) (.c (.s (.s (.s .z))) (.c (.s (.s (.s .z))) .n)))))) ?_; refine At.H.al [10] (Q7 ?_ Q11)
        ··refine At.HO.op rfl ?_
          refine At.lit rfl (xo := [.tmp 79]) (ys := ([rawOf (Q1.ow).sz [.string ⟨(D.2.2.2.2.1).toArray⟩, .slice b6 a3.length b7] rfl rfl] : List (Raw (Q1.ow).sz))) (Fl.raw (Q1.ow).sz (Q1.ow).pos) rfl rfl rfl rfl rfl rfl rfl rfl rfl rfl rfl (fun s9 t0 => ?_); refine At.HO.back (.c (.s (.s (.s .z))) (.c (.s (.s (.s .z))) (.c (.s (.s (.s .z))) (.c (.s (.s (.s (.s .z)))) (.c (.s (.s (.s (.s .z)))) (.c (.s (.s (.s (.s .z)))) .n)))))) ?_; refine At.H.al [11] (Q7 ?_ Q11)
          ··refine At.HO.op rfl ?_
            refine At.f1 (At.f1 (At.f6 ?_)); refine At.appendGrow (T := Q1.ow) rfl rfl Q1.ent rfl rfl rfl rfl rfl rfl rfl rfl rfl g9 (by decide) rfl (fun n3 n4 => ?_); refine At.HO.back (.c (.s (.s .z)) (.c (.s (.s .z)) (.c (.s (.s .z)) (.c (.s (.s .z)) (.c (.s (.s .z)) (.c (.s (.s .z)) .n)))))) ?_; refine At.H.pw 12 rfl rfl rfl rfl rfl (.c (.s (.s .z)) (.c (.s (.s .z)) (.c (.s (.s .z)) (.c (.s (.s .z)) (.c (.s (.s .z)) (.c (.s (.s .z)) .n)))))) ?_; refine At.H.pw 13 rfl rfl rfl rfl rfl (.c (.s (.s .z)) (.c (.s (.s .z)) (.c (.s (.s .z)) (.c (.s (.s .z)) (.c (.s (.s .z)) (.c (.s (.s .z)) .n)))))) ?_; refine At.H.pw 14 rfl rfl rfl rfl rfl (.c (.s (.s .z)) (.c (.s (.s .z)) (.c (.s (.s .z)) (.c (.s (.s .z)) (.c (.s (.s .z)) (.c (.s (.s .z)) .n)))))) ?_; refine At.H.al [15] (Q7 ?_ Q11)
            ··refine At.HO.op rfl ?_
              refine At.store rfl rfl rfl rfl (.s .z) rfl rfl rfl (.s (.s (.s (.s (.s (.c .n)))))) ?_; refine At.HO.back (.c (.s (.s .z)) (.c (.s (.s .z)) (.c (.s (.s .z)) (.c (.s (.s .z)) (.c (.s (.s .z)) (.c (.s (.s .z)) .n)))))) ?_; refine At.H.done (by kernel_rfl) ?_; exact At.of (h0 (n3, n4) trivial) trivial
      ··refine At.HO.op rfl ?_
        refine At.lit rfl (xo := [.tmp 79]) (ys := ([rawOf (Q1.ow).sz [.string ⟨(D.2.2.2.2.1).toArray⟩, .slice b6 a3.length b7] rfl rfl] : List (Raw (Q1.ow).sz))) (Fl.raw (Q1.ow).sz (Q1.ow).pos) rfl rfl rfl rfl rfl rfl rfl rfl rfl rfl rfl (fun t1 t3 => ?_); refine At.HO.back (.c (.s (.s (.s .z))) (.c (.s (.s (.s .z))) (.c (.s (.s (.s .z))) (.c (.s (.s (.s (.s .z)))) (.c (.s (.s (.s (.s .z)))) (.c (.s (.s (.s (.s .z)))) .n)))))) ?_; refine At.H.al [5] (Q7 ?_ Q11)
        ··refine At.HO.op rfl ?_
          refine At.y (Y.load rfl rfl (.s (.s .z)) rfl rfl rfl) rfl rfl rfl ?_; refine At.HO.back (.c (.s (.s (.s .z))) (.c (.s (.s (.s .z))) (.c (.s (.s (.s .z))) (.c (.s (.s (.s (.s .z)))) (.c (.s (.s (.s (.s .z)))) (.c (.s (.s (.s (.s .z)))) .n)))))) ?_; refine At.H.al [11] (Q7 ?_ Q11)
          ··refine At.HO.op rfl ?_
            refine At.f1 (At.f1 (At.f6 ?_)); refine At.appendGrow (T := Q1.ow) rfl rfl Q1.ent rfl rfl rfl rfl rfl rfl rfl rfl rfl g9 (by decide) rfl (fun n5 n6 => ?_); refine At.HO.back (.c (.s (.s .z)) (.c (.s (.s .z)) (.c (.s (.s .z)) (.c (.s (.s .z)) (.c (.s (.s .z)) (.c (.s (.s .z)) .n)))))) ?_; refine At.H.pw 12 rfl rfl rfl rfl rfl (.c (.s (.s .z)) (.c (.s (.s .z)) (.c (.s (.s .z)) (.c (.s (.s .z)) (.c (.s (.s .z)) (.c (.s (.s .z)) .n)))))) ?_; refine At.H.pw 13 rfl rfl rfl rfl rfl (.c (.s (.s .z)) (.c (.s (.s .z)) (.c (.s (.s .z)) (.c (.s (.s .z)) (.c (.s (.s .z)) (.c (.s (.s .z)) .n)))))) ?_; refine At.H.pw 14 rfl rfl rfl rfl rfl (.c (.s (.s .z)) (.c (.s (.s .z)) (.c (.s (.s .z)) (.c (.s (.s .z)) (.c (.s (.s .z)) (.c (.s (.s .z)) .n)))))) ?_; refine At.H.al [15] (Q7 ?_ Q11)
            ··refine At.HO.op rfl ?_
              refine At.store rfl rfl rfl rfl (.s .z) rfl rfl rfl (.s (.s (.s (.s (.s (.c .n)))))) ?_; refine At.HO.back (.c (.s (.s .z)) (.c (.s (.s .z)) (.c (.s (.s .z)) (.c (.s (.s .z)) (.c (.s (.s .z)) (.c (.s (.s .z)) .n)))))) ?_; refine At.H.done (by kernel_rfl) ?_; exact At.of (h0 (n5, n6) trivial) trivial
   ·clear a1 d6; rintro d6 ⟨E, d9, a4, n7, V, Z, a5, h1, n8, h2⟩ ⟨a1, n9, e1, o0, e2⟩; obtain rfl : E.length = n7 := n9; obtain rfl : a4.length = n8 := o0; obtain ⟨o7, f_, o8, hf_, j⟩ := bit a1; clear a1; have j : (Q42.l0b I q u p B L E d9 a4).bind _ = some a0 := j; unfold Q42.l0b at j
    ·refine At.seq (sR 3 rfl (At.y (Y.load rfl rfl (.s (.s .z)) rfl rfl rfl) rfl rfl rfl ?_)); refine At.y (Y.eqOpt (.s .z) rfl rfl rfl rfl) rfl rfl rfl ?_; refine At.run 1 rfl ?_; obtain ⟨o9, p0, t4, j⟩ := bjoin j; let p1 : HProp := pc b0 [.slice h1 a4.length h2, optp a5, i6 I, .slice A0_3 q.length c0_3, .slice A0_4 u.length c0_4, .slice A0_5 p.length c0_5, .slice A0_6 B.length c0_6, .map (some b0_7)] 114; refine At.joinO 4 (X := Bool) (fun a6 => [(0, bp b0), (2, bp N), (3, .slice V E.length Z), (45, .bool a6)]) (fun a6 => p1 :: optb (Ow.fl Q3.fl) 58 a5 d9 :: T32 :: T33 :: a2 :: O :: U :: row (Fl.int .i64) 3 V E.length Z E :: J :: Fr) (fun a6 => o9 (.inl a6) = some a0) ?_ (fun h3 => ?_)
     ·rintro a6 j; have j := (p0 _).symm.trans j
      ·refine nT ?_; rcases bite j with ⟨e3, j⟩ | ⟨e3, j⟩
       ··refine At.condT rfl e3 ?_
         refine At.skip (At.thn ?_); refine At.block ?_; refine sR 1 rfl ?_; obtain ⟨G, p2, j⟩ := bbind j; refine At.call rfl Q89.callee rfl rfl rfl (Q89.spec a5 e1 rfl e2 rfl rfl rfl rfl p2) ?_; rintro _ _ ⟨b9, e4, t5, e5, rfl, rfl, h4, rfl, h5⟩; refine At.run 3 rfl ?_; refine At.alloc rfl rfl rfl (fun h6 => ?_); refine At.store rfl rfl rfl rfl .z rfl rfl rfl (.c (.c (.c (.c .n)))) ?_; refine At.run 1 rfl (nT (At.seq (sR 3 rfl (At.y (Y.load rfl rfl (.s (.s .z)) rfl rfl rfl) rfl rfl rfl ?_)))); refine At.y (Y.eqOpt (.s .z) rfl rfl rfl rfl) rfl rfl rfl ?_; refine At.run 1 rfl ?_; obtain ⟨p3, p4, t6, j⟩ := bjoin j; let h7 : HProp := pc h6 [i6 G.2.2.2.1, i6 G.2.2.2.2.1, .string ⟨(G.2.2.2.2.2.1).toArray⟩, i6 G.2.2.2.2.2.2] 116; let p5 : HProp := pc b0 [.slice e4 G.2.1.length e5, optp b9, i6 I, .slice A0_3 q.length c0_3, .slice A0_4 u.length c0_4, .slice A0_5 p.length c0_5, .slice A0_6 B.length c0_6, .map (some b0_7)] 114; refine At.joinO 4 (X := Bool) (fun a7 => [(0, bp b0), (2, bp N), (3, .slice V E.length Z), (4, bp h6), (5, i6 G.2.2.1), (60, .bool a7)]) (fun a7 => row (Fl.int .i64) 3 V E.length Z E :: h7 :: optb (Ow.fl Q3.fl) 58 b9 G.1 :: p5 :: T32 :: T33 :: a2 :: O :: U :: J :: Fr) (fun a7 => p3 (.inl a7) = some a0) ?_ (fun h8 => ?_)
         ·rintro a7 j; have j := (p4 _).symm.trans j
          ·refine nT ?_; obtain ⟨p6, p7, t7, j⟩ := bjoin j; refine At.join (X := (Option Q3) × (Option Nat)) (fun s_ => [(0, bp b0), (2, bp N), (3, .slice V E.length Z), (5, i6 G.2.2.1)]) (fun s_ => optb (Ow.fl Q3.fl) 58 s_.2 s_.1 :: pc b0 [.slice e4 G.2.1.length e5, optp s_.2, i6 I, .slice A0_3 q.length c0_3, .slice A0_4 u.length c0_4, .slice A0_5 p.length c0_5, .slice A0_6 B.length c0_6, .map (some b0_7)] 114 :: T32 :: T33 :: a2 :: O :: U :: row (Fl.int .i64) 3 V E.length Z E :: h7 :: J :: Fr) (fun s_ => p6 (.inl s_.1) = some a0) ?_ (fun h9 => ?_)
           ·rintro ⟨p8, p9⟩ j; have j := (p7 _).symm.trans j
            ·refine At.region (At.run 2 rfl ?_); refine At.lit rfl (xo := [.tmp 65]) (ys := ([G.2.2.1] : List Int)) (Fl.int .i64) rfl rfl rfl rfl rfl rfl rfl rfl rfl rfl rfl (fun t8 t9 => ?_); obtain ⟨q0, j⟩ := bnone j; refine At.append rfl (.s (.s (.s (.s (.s (.s (.s (.s .z)))))))) (Src.own .z (by simp)) rfl rfl rfl rfl rfl rfl rfl rfl q0 (by decide) rfl (fun q2 q3 => ?_); refine At.drop (.s .z) (At.run 1 rfl (At.nil ?_)); refine At.ibn ?_; refine At.drop (.s (.s (.s (.s (.s (.s (.s (.s .z)))))))) ?_; have j := bnx hf_ j; exact fun a w e hs => ⟨o7, ((E ++ ([G.2.2.1] : List Int)), p8, G.2.1, (E ++ ([G.2.2.1] : List Int)).length, q2, q3, p9, e4, G.2.1.length, e5), o8, ⟨j, rfl, h4, rfl, h5⟩, e.sub ⟨rfl, rfl, rfl, trivial⟩, hs⟩
           ··rcases bite j with ⟨e6, j⟩ | ⟨e6, j⟩
             ··refine At.condT rfl e6 ?_
               refine At.region (At.run 1 rfl (At.y (Y.load rfl rfl (.s .z) rfl rfl rfl) rfl rfl rfl (At.f8 (At.f8 (At.f8 (At.f8 (At.f8 ?_))))))); refine At.f7 (At.f8 ?_); obtain ⟨q4, q7, j⟩ := bbind j; refine At.call rfl Q20.callee rfl rfl rfl (Q20.spec b9 h4 rfl h5 rfl rfl rfl rfl q7) ?_; rintro _ _ ⟨q8, rfl, rfl⟩; refine nT ?_; exact fun a w e hs => h9 (q4, q8) j a w (e.sub ⟨rfl, rfl, rfl, rfl, trivial⟩) hs
             ··refine At.condF rfl (bn e6) ?_
               refine At.skip (At.thn (At.f9 (At.f2 (At.f2 (At.f9 (At.f9 (At.f9 ?_))))))); refine At.f9 (At.f9 (At.f9 (At.f9 ?_))); exact fun a w e hs => h9 (G.1, b9) j a w (e.sub ⟨rfl, rfl, rfl, rfl, trivial⟩) hs
         ··rcases bite j with ⟨e7, j⟩ | ⟨e7, j⟩
           ··refine At.know (t := 56) rfl e7 ?_
             refine At.run 2 rfl ?_; refine At.freeze (.s (.s (.s (.s (.s (.s (.s (.s .z)))))))) fun u0 q9 r0 r1 u1 r2 => ?_; obtain ⟨r3, r4, j⟩ := bbind j; refine At.call rfl Q136.callee rfl rfl rfl (Q136.spec q9 r0 r1 r4) ?_; rintro _ _ ⟨rfl, rfl⟩; refine At.run 1 rfl ?_; refine At.thaw r2 ?_; exact At.of (h8 r3 j) ⟨rfl, rfl, rfl, rfl, rfl, rfl, trivial⟩
           ··refine At.know (t := 56) rfl (bn e7) ?_
             refine At.run 4 rfl (At.f9 (At.f8 (At.f8 (At.f8 (At.f8 (At.f8 (At.f8 ?_))))))); refine At.f8 (At.f8 (At.f9 ?_)); exact At.of (h8 false j) ⟨rfl, rfl, rfl, rfl, rfl, rfl, trivial⟩
       ··refine At.condF rfl (bn e3) ?_
         refine At.exit ?_; refine At.the ?_; refine At.the ?_; exact fun a w e hs => m1 (d9, E, a4, a5, E.length, V, Z, h1, a4.length, h2) ⟨(bdn j m0), rfl, e1, rfl, e2⟩ a w (e.sub ⟨rfl, rfl, rfl, trivial⟩) hs
     ··rcases bite j with ⟨e8, j⟩ | ⟨e8, j⟩
       ··refine At.know (t := 41) rfl e8 ?_
         refine At.run 1 rfl (At.f7 (At.f7 (At.f7 (At.f7 (At.f7 (At.f6 (At.f7 ?_))))))); obtain ⟨r5, r6, j⟩ := bbind j; refine At.call rfl Q104.callee rfl rfl rfl (Q104.spec a5 e1 rfl e2 rfl rfl rfl rfl r6) ?_; rintro _ _ ⟨rfl, rfl⟩; refine At.run 2 rfl ?_; exact At.of (h3 (!r5) j) ⟨rfl, rfl, rfl, rfl, trivial⟩
       ··refine At.know (t := 41) rfl (bn e8) ?_
         refine At.run 4 rfl (At.f8 (At.f1 (At.f8 (At.f8 (At.f8 (At.f8 (At.f8 ?_))))))); refine At.f7 (At.f8 ?_); exact At.of (h3 false j) ⟨rfl, rfl, rfl, rfl, trivial⟩
 ··refine At.block ?_
   refine sR 3 rfl (At.y (Y.load rfl rfl (.s (.s .z)) rfl rfl rfl) rfl rfl rfl ?_); refine At.y (Y.neOpt (.s .z) rfl rfl rfl rfl) rfl rfl rfl ?_; refine At.run 1 rfl (nT ?_); rcases bite j with ⟨e9, j⟩ | ⟨e9, j⟩
   ··refine At.condF rfl (nf e9) ?_
     refine sR 4 rfl (At.y (Y.load rfl rfl (.s (.s .z)) rfl rfl rfl) rfl rfl rfl (At.run 3 rfl (nT ?_))); rcases bite j with ⟨f0, j⟩ | ⟨f0, j⟩
     ··refine At.condT rfl (decide_eq_true f0) ?_
       refine At.region (At.run 1 rfl (At.y (Y.load rfl rfl .z rfl rfl rfl) rfl rfl rfl (At.f7 (At.f7 (At.f7 (At.f7 (At.f7 ?_))))))); refine At.f6 (At.f7 ?_); obtain ⟨r7, r8, j⟩ := bbind j; refine At.call rfl Q20.callee rfl rfl rfl (Q20.spec a8 a9 rfl b4 rfl rfl rfl rfl r8) ?_; rintro _ _ ⟨r9, rfl, rfl⟩; refine At.nil ?_; refine At.ibn ?_; refine At.thn ?_; exact fun a w e hs => d4 (r7, r9) j a w (e.sub ⟨rfl, rfl, trivial⟩) hs
     ··refine At.condF rfl (decide_eq_false f0) ?_
       refine sR 4 rfl (At.y (Y.load rfl rfl (.s (.s .z)) rfl rfl rfl) rfl rfl rfl (At.run 1 rfl ?_)); refine At.freezeGrow (.s (.s (.s (.s (.s .z))))) fun u2 s0 s1 s2 u3 k1 => ?_; obtain ⟨u4, s3, j⟩ := bbind j; refine At.call rfl Q126.callee rfl rfl rfl (Q126.spec s0 s1 s2 s3) ?_; rintro _ _ ⟨rfl, rfl⟩; refine At.run 1 rfl (nT ?_); rcases bite j with ⟨f4, j⟩ | ⟨f4, j⟩
       ··refine At.condT rfl f4 ?_
         refine At.region (At.run 1 rfl (At.y (Y.load rfl rfl .z rfl rfl rfl) rfl rfl rfl ?_)); refine At.thaw k1 ?_; refine At.f7 (At.f7 (At.f2 (At.f7 (At.f7 (At.f6 (At.f7 ?_)))))); obtain ⟨s4, s5, j⟩ := bbind j; refine At.call rfl Q20.callee rfl rfl rfl (Q20.spec a8 a9 rfl b4 rfl rfl rfl rfl s5) ?_; rintro _ _ ⟨s6, rfl, rfl⟩; refine At.nil ?_; refine At.ibn ?_; refine At.thn ?_; exact fun a w e hs => d4 (s4, s6) j a w (e.sub ⟨rfl, rfl, trivial⟩) hs
       ··refine At.condF rfl (bn f4) ?_
         refine At.skip ?_; refine At.ibn ?_; refine At.thn ?_; refine At.thaw k1 ?_; refine At.f1 (At.f7 (At.f7 (At.f3 (At.f7 (At.f7 (At.f7 (At.f7 ?_))))))); exact fun a w e hs => d4 (D.1, a8) j a w (e.sub ⟨rfl, rfl, trivial⟩) hs
   ··refine At.condT rfl (nt (bn e9)) ?_
     refine At.ret ?_; refine At.ibr ?_; have j := bup k5 j; refine At.thr (At.drop .z ?_); cases bret j; exact At.res (.inl rfl) rfl rfl ⟨p.length, A0_5, c0_5, a8, d2, D.2.1.length, d3, rfl, rfl, rfl, a9, rfl, b4⟩

noncomputable def Q86.f (a0 : List Bs) : Option (List Bs) := if a0.length < 4611686018427387904 then some (a0.mergeSort fun x y => decide (x ≤ y)) else none
theorem Q86.callee : Callee Tryz.prog 105 := ⟨_, Tryz.func105, by kernel_rfl, by kernel_rfl⟩
theorem Q86.spec {a0 : List Bs} (hn0 : a0.length = n0) {r : List Bs} (j : Q86.f a0 = some r) :
 Spec Tryz.prog 105 [.slice A0 n0 c0] R (row Fl.bs 9 A0 n0 c0 a0 :: Fr) (fun v l' => v = .tuple #[] ∧ row Fl.bs 9 A0 n0 c0 r :: Fr = l') := by
 unfold Q86.f at j; split at j
 ·rename_i hb; cases j; exact Q300 Tryz.sort105 R Fr hb
 ·cases j

noncomputable def Q58.l0b (a0 : List Bs) (a1 : Bs) (p : Int) : Option ((Int) ⊕ ((Unit) ⊕ (Int))) :=
 if p < (a0.length : Int) then
 if (0 : Int) ≤ p ∧ p < (a0.length : Int) then
 if bseq a1 (gt a0 p) = true then
 upL (some p)
 else
 nx (IntKind.i64.wrap (p + 1))
 else none
 else
 dn (.inl ())
noncomputable def Q58.l0 (a0 : List Bs) (a1 : Bs) (p : Int) : Option ((Unit) ⊕ (Int)) := iter (fun t_ : Int => Q58.l0b a0 a1 t_) p
noncomputable def Q58.f (a0 : List Bs) (a1 : Bs) : Option Int :=
 jn (Q58.l0 a0 a1 0) (fun (_ : Unit) =>
 some (-1))
theorem Q58.callee : Callee Tryz.prog 106 := ⟨_, Tryz.func106, by kernel_rfl, by kernel_rfl⟩
theorem Q58.spec {a0 : List Bs} {a1 : Bs} (hr0 : RdS Fl.bs.rep R.heap A0 a0) (hn0 : a0.length = n0) (hc0 : n0 ≤ c0) {r : Int} (j : Q58.f a0 a1 = some r) :
 Spec Tryz.prog 106 [.slice A0 n0 c0, .string ⟨(a1).toArray⟩] R (Fr) (fun v l' => v = i6 r ∧ Fr = l') := by
 subst hn0; refine Spec.of Tryz.func106 rfl rfl ?_; unfold Q58.f at j; have j := brun j; refine sR 1 rfl (nT (At.seq (At.seq (At.region ?_)))); refine At.run 3 rfl (nT ?_); refine At.block ?_; obtain ⟨N, O, U, j⟩ := bjoin j; obtain ⟨J, D, L⟩ := bsome j; clear j; unfold Q58.l0 at D; obtain ⟨E, u⟩ := Q12.1 D; clear D; refine At.loopJ (X := Int) (Y := Unit) (e0 := 0) (fun p => [(0, .slice A0 a0.length c0), (1, .string ⟨(a1).toArray⟩), (7, i6 (a0.length : Int)), (8, i6 p)]) (fun p => Fr) (fun m_ => fun p => iterN (fun t_ : Int => Q58.l0b a0 a1 t_) m_ p = some J) E 0 u (fun _ => []) (fun _ => Fr) (fun _ => N (.inl ()) = some r) (fun a w e hs => ⟨e.sub ⟨rfl, rfl, rfl, rfl, trivial⟩, (by exact hs)⟩) ?_ (fun V => ?_)
 ·rintro _ j; have j := (O _).symm.trans j
  ·refine At.ibx ?_; refine At.thn (sR 1 rfl (nT (At.ret ?_))); cases bret j; exact At.res (.inl rfl) rfl rfl ⟨rfl, rfl⟩
 ·clear u E; rintro E p u; obtain ⟨Z, f_, a2, hf_, j⟩ := bit u; clear u; have j : (Q58.l0b a0 a1 p).bind _ = some J := j; unfold Q58.l0b at j
  ·refine sR 1 rfl (nT (At.seq ?_)); rcases bite j with ⟨G, j⟩ | ⟨G, j⟩
   ··refine At.condT rfl (decide_eq_true G) ?_
     refine At.skip (At.thn (At.seq ?_)); refine At.block ?_; refine sR 2 rfl (nT (sR 3 rfl ?_)); obtain ⟨B, j⟩ := bnone j; refine At.y (Y.ixRd hr0 rfl rfl rfl rfl rfl rfl rfl B.1 B.2) rfl rfl rfl (At.y (Y.ldFl hr0 rfl (q := 0) rfl rfl B.1 B.2 rfl rfl rfl) rfl rfl rfl (At.run 1 rfl (nT ?_))); rcases bite j with ⟨I, j⟩ | ⟨I, j⟩
     ··refine At.condT rfl I ?_
       refine sR 2 rfl (nT (At.ret ?_)); refine At.ibr ?_; refine At.thr ?_; have j := bupL U L j; refine At.thr ?_; refine At.ibr ?_; refine At.thr ?_; cases bret j; exact At.res (.inl rfl) rfl rfl ⟨rfl, rfl⟩
     ··refine At.condF rfl (bn I) ?_
       refine At.skip ?_; refine At.ibn ?_; refine At.thn (At.region (At.run 2 rfl (At.nil ?_))); have j := bnx hf_ j; exact fun a w e hs => ⟨Z, (IntKind.i64.wrap (p + 1)), a2, j, e.sub ⟨rfl, rfl, rfl, rfl, trivial⟩, hs⟩
   ··refine At.condF rfl (decide_eq_false G) ?_
     refine At.exit ?_; refine At.the ?_; refine At.the ?_; exact fun a w e hs => V () (bdn j L) a w (e.sub trivial) hs

noncomputable def Q43.cmp (x y : Q0) : Option Int := Q91.f x.From x.Action x.To y.From y.Action y.To
open Classical in
noncomputable def Q43.f (a0 : List Q0) : Option (List Q0) := if a0.length < 4611686018427387904 ∧ CmpTot Q43.cmp then some (byCmp Q43.cmp a0) else none
theorem Q43.callee : Callee Tryz.prog 42 := ⟨_, Tryz.func42, by kernel_rfl, by kernel_rfl⟩
theorem Q43.spec {a0 : List Q0} (hn0 : a0.length = n0) {r : List Q0} (j : Q43.f a0 = some r) :
 Spec Tryz.prog 42 [.slice A0 n0 c0, .func (.func 55) #[] #[]] R (row Q0.fl 35 A0 n0 c0 a0 :: Fr) (fun v l' => v = .tuple #[] ∧ row Q0.fl 35 A0 n0 c0 r :: Fr = l') := by
 unfold Q43.f at j; split at j
 ·rename_i hb; cases j; refine Q280 Tryz.sort42 Q0.fl (fun w => (Q13 (P := Tryz.prog) (t := 35) (i := Tryz.ti35) rfl).run_isAgg w) (fun w => (Q13 (P := Tryz.prog) (t := 35) (i := Tryz.ti35) rfl).run_sizeOf w) (gcf Q43.cmp) hb.2.1.2 hb.2.2 55 (enters_of Tryz.func55 (by kernel_rfl) rfl) (fun R x y => Q91.spec (gcf_eq hb.2.1 x y)) R Fr hb.1
 ·cases j

noncomputable def Q45.cmp (x y : Q1) : Option Int := Q103.f x.Name x.States y.Name y.States
open Classical in
noncomputable def Q45.f (a0 : List Q1) : Option (List Q1) := if a0.length < 4611686018427387904 ∧ CmpSwo Q45.cmp ∧ CmpParts Q45.cmp a0 then some (byCmp Q45.cmp a0) else none
theorem Q45.callee : Callee Tryz.prog 107 := ⟨_, Tryz.func107, by kernel_rfl, by kernel_rfl⟩
theorem Q45.spec {a0 : List Q1} (hn0 : a0.length = n0) {r : List Q1} (j : Q45.f a0 = some r) :
 Spec Tryz.prog 107 [.slice A0 n0 c0, .func (.func 59) #[] #[]] R (grow Q1.ow 37 A0 n0 c0 a0 :: Fr) (fun v l' => v = .tuple #[] ∧ grow Q1.ow 37 A0 n0 c0 r :: Fr = l') := by
 unfold Q45.f at j; split at j
 ·rename_i hb; cases j; refine Q308 Tryz.sort107 Q1.ow (fun w => (Q13 (P := Tryz.prog) (t := 37) (i := Tryz.ti37) rfl).run_isAgg w) (fun w => (Q13 (P := Tryz.prog) (t := 37) (i := Tryz.ti37) rfl).run_sizeOf w) (gcf Q45.cmp) hb.2.1.2 59 (enters_of Tryz.func59 (by kernel_rfl) rfl) ?_ R Fr hb.1 hb.2.2; rintro R x y cs cs' ⟨_, _, rfl, rfl, ⟨_, _, rfl, hc0_1, hr0_1⟩⟩ ⟨_, _, rfl, rfl, ⟨_, _, rfl, hc1_1, hr1_1⟩⟩; exact Q103.spec hr0_1 rfl hc0_1 hr1_1 rfl hc1_1 (gcf_eq hb.2.1 x y)
 ·cases j

end Go.Bw
namespace Go.Bw
open Go Go.RowKit

noncomputable def anyOrder {α β : Type} (xs : List α) (F : List α → Option β) : Option β :=
 open Classical in if h : ∃ r, ∀ ys, ys.Perm xs → F ys = some r then some h.choose else none
theorem Q245 {α β : Type} {xs : List α} {F : List α → Option β} {r : β} : anyOrder xs F = some r ↔ ∀ ys, ys.Perm xs → F ys = some r := by
 unfold anyOrder
 constructor
 ·intro h
  split at h
  ·rename_i hx
   have := Option.some.inj h
   intro ys hy
   rw [← this]
   exact hx.choose_spec ys hy
  ·cases h
 ·intro h
  have hx : ∃ r, ∀ ys, ys.Perm xs → F ys = some r := ⟨r, h⟩
  rw [dif_pos hx]
  have h1 := hx.choose_spec xs (List.Perm.refl _)
  rw [h xs (List.Perm.refl _)] at h1
  exact h1.symm
theorem banyOrder {α β ω : Type} {xs : List α} {F : List α → Option β} {G : β → Option ω} {r : ω} (h : (anyOrder xs F).bind G = some r) : ∀ ys, ys.Perm xs → (F ys).bind G = some r := by
 obtain ⟨t, h1, h2⟩ := bsome h
 intro ys hy
 rw [Q245.1 h1 ys hy]
 exact h2
def foldO {σ α : Type} (step : σ → α → Option σ) : σ → List α → Option σ
 | s, [] => some s
 | s, x :: xs => (step s x).bind fun t => foldO step t xs
theorem Q193 {σ α : Type} {step : σ → α → Option σ} : ∀ {xs ys : List α} {s : σ}, foldO step s (xs ++ ys) = (foldO step s xs).bind fun t => foldO step t ys
 | [], _, _ => rfl
 | x :: xs, ys, s => by
  show (step s x).bind _ = ((step s x).bind _).bind _
  cases step s x with
  | none => rfl
  | some t => exact Q193 (xs := xs)
theorem foldO_go {σ α ω : Type} {step : σ → α → Option σ} {kvs : List α} {done rest : List α} {x : α} {s0 s : σ} {G : σ → Option ω} {r : ω} (h : ∀ ys, ys.Perm kvs → (foldO step s0 ys).bind G = some r) (hs : foldO step s0 done = some s) (hp : (done ++ x :: rest).Perm kvs) :
 ∃ t, step s x = some t ∧ foldO step s0 (done ++ [x]) = some t := by
 have := h _ hp
 rw [Q193, hs] at this
 obtain ⟨u, h1, _⟩ := bsome this
 obtain ⟨t, h2, _⟩ := bsome (show (step s x).bind (fun t => foldO step t rest) = some u from h1)
 refine ⟨t, h2, ?_⟩
 rw [Q193, hs]
 show (step s x).bind (fun t => foldO step t []) = _
 rw [h2]
 rfl
theorem foldO_end {σ α ω : Type} {step : σ → α → Option σ} {kvs : List α} {done : List α} {s0 s : σ} {G : σ → Option ω} {r : ω} (h : ∀ ys, ys.Perm kvs → (foldO step s0 ys).bind G = some r) (hs : foldO step s0 done = some s) (hp : done.Perm kvs) : G s = some r := by
 have := h _ hp
 rw [hs] at this
 exact this
noncomputable def ordered {σ τ α β : Type} (kvs : List α) (step : σ → α → Option σ) (s0 : σ) (out : σ → τ) (f : τ → Option β) : Option β := anyOrder kvs fun ys => (foldO step s0 ys).bind fun s => f (out s)
theorem bordered {σ τ α β ω : Type} {kvs : List α} {step : σ → α → Option σ} {s0 : σ} {out : σ → τ} {f : τ → Option β} {G0 : β → Option ω} {r : ω} (h : (ordered kvs step s0 out f).bind G0 = some r) :
 ∃ G : τ → Option ω, (∀ y, G y = (f y).bind G0) ∧ ∀ ys, ys.Perm kvs → (foldO step s0 ys).bind (fun s => G (out s)) = some r :=
 ⟨fun y => (f y).bind G0, fun _ => rfl, fun ys hy => by
  have := banyOrder h ys hy
  rwa [Option.bind_assoc] at this⟩
theorem rng_lt {α : Type} {kvs done tl : List α} {z : α} {m : Nat} (hp : (done ++ z :: tl).Perm kvs) (hm : m + done.length = kvs.length) : tl.length < m ∧ tl.length + (done ++ [z]).length = kvs.length := by
 have := hp.length_eq
 simp at this ⊢
 omega
theorem Q248 {α : Type} (xs : List α) : (List.range xs.length).filterMap (fun i => xs[i]?) = xs := by
 induction xs with
 | nil => rfl
 | cons x xs ih =>
  rw [List.length_cons, List.range_succ_eq_map, List.filterMap_cons, List.filterMap_map]
  simp only [List.getElem?_cons_zero, Function.comp_def, List.getElem?_cons_succ]
  rw [ih]
theorem Q278 {α : Type} {xs done : List α} {is : List Nat} (hd : done.map some = is.map fun i => xs[i]?) : done = is.filterMap fun i => xs[i]? := by
 induction is generalizing done with
 | nil => cases done <;> simp at hd ⊢
 | cons i is ih =>
  cases done with
  | nil => simp at hd
  | cons x done =>
   simp only [List.map_cons, List.cons.injEq] at hd
   rw [List.filterMap_cons, ← hd.1, ← ih hd.2]
theorem idx_perm {α : Type} {xs done : List α} {is : List Nat} (hn : is.Nodup) (hl : ∀ i ∈ is, i < xs.length) (hd : done.map some = is.map fun i => xs[i]?) : ∃ rest, (done ++ rest).Perm xs := by
 refine ⟨((List.range xs.length).filter fun i => !is.contains i).filterMap fun i => xs[i]?, ?_⟩
 rw [Q278 hd, ← List.filterMap_append]
 have hp : (is ++ (List.range xs.length).filter fun i => !is.contains i).Perm (List.range xs.length) := by
  refine (List.perm_ext_iff_of_nodup ?_ List.nodup_range).2 fun a => ?_
  ·rw [List.nodup_append]
   refine ⟨hn, List.nodup_range.filter _, fun a ha b hb hab => ?_⟩
   subst hab
   simp at hb
   exact hb.2 ha
  ·simp only [List.mem_append, List.mem_filter, List.mem_range]
   constructor
   ·rintro (h | h)
    ·exact hl a h
    ·exact h.1
   ·intro h
    by_cases ha : a ∈ is
    ·exact .inl ha
    ·exact .inr ⟨h, by simpa using ha⟩
 have := hp.filterMap fun i => xs[i]?
 rwa [Q248] at this
theorem idx_full {α : Type} {xs done : List α} {is : List Nat} (hn : is.Nodup) (hl : ∀ i ∈ is, i < xs.length) (hf : ∀ i < xs.length, i ∈ is) (hd : done.map some = is.map fun i => xs[i]?) : done.Perm xs := by
 rw [Q278 hd]
 have hp : is.Perm (List.range xs.length) := (List.perm_ext_iff_of_nodup hn List.nodup_range).2 fun a => by
  rw [List.mem_range]
  exact ⟨hl a, hf a⟩
 have := hp.filterMap fun i => xs[i]?
 rwa [Q248] at this
section
variable {κ ν : Type}
def rngo (kv : κ → Value) (vv : ν → Value) (b r : Nat) (kvs done : List (κ × ν)) : HProp := fun h =>
 ∃ (es : List MapEntry) (clock since stp : Nat) (seen : Array Nat) (is : List Nat), h b = some (.map es.toArray clock) ∧ h r = some (.mapIter (some b) since seen stp) ∧ b ≠ r ∧
  es.map (fun e => (e.key, e.val)) = kvs.map (fun p => (kv p.1, vv p.2)) ∧ es.Pairwise (fun x y => x.born < y.born) ∧ (∀ e ∈ es, e.born < clock) ∧ since = clock ∧ stp = clock ∧
  is.Nodup ∧ (∀ i ∈ is, i < kvs.length) ∧ (done.map some = is.map fun i => kvs[i]?) ∧ seen.toList.map some = is.map fun i => es[i]?.map (·.born)
end
section
variable {P : Program} [Tys P] {os : List Oper} {Q : Exit → Act → World → Prop} {rest : List Oper} {n : Nat} {ds : List Deferred} {R : Res} {env : List (Nat × Value)} {l l' : List HProp}
variable {d ty t : Nat} {pos : String} {af : Array Edge} {g : Option (Nat × Bool)} {κ ν : Type} [DecidableEq κ] {kv : κ → Value} {vv : ν → Value} {kvs done : List (κ × ν)} {b r kt et : Nat} {K : Act → World → Prop}
theorem At.rangeMap {x : Operand} {ii : TI} (f : Frt l (mapo kv vv b kvs) l') (hg : grd os env g = some true) (hi : ti P t = some ii) (hk : ii.k = .map kt et) (hx : ev env x = some (.map (some b))) (hd : Nat.blt d n = true)
 (h : ∀ r, At n ds R ((d, .pointer (some ⟨r, 0, none⟩)) :: env) (rngo kv vv b r kvs [] :: l') (wpList P os.toArray Q rest)) :
 At n ds R env l (wpList P os.toArray Q (⟨some d, .range t x, ty, pos, af, g⟩ :: rest)) := Q83 hg rfl hd fun a w e hs => by
 have hs1 := hs.frt f
 obtain ⟨es, clock, hb, _⟩ := Q176 hs1
 have hgo : (getObj b).run P w = .ok (.map es.toArray clock) w := MapKept.run_getObj_map hb
 have h1 := hs1.alloc (.mapIter (some b) clock #[] clock)
 refine ⟨_, w.alloc (.mapIter (some b) clock #[] clock), rngo kv vv b w.heap.size kvs [] :: l', ?_, ?_, h w.heap.size⟩
 ·simp [execOp, Instr.range, e.ev hx, run_underlying ((Q13 hi).map hk), hgo, Result.andThen]
 ·obtain ⟨ok, h0, ⟨k1, k2, p1, ⟨k3, k4, m1, st, d2, s3, s4⟩, d1, s1, s2⟩, dR, ss⟩ := h1
  have d13 : Disj k1 k3 := d1.sub (Sub.refl _) s3
  refine ⟨ok, h0, ⟨uni k1 k3, k4, ?_, st, Disj.uni_l (d1.sub (Sub.refl _) s4) d2, Q96 s1 (s3.trans s2), s4.trans s2⟩, dR, ss⟩
  obtain ⟨es', clock', hb', hm, hp, hc⟩ := m1
  have hne : b ≠ w.heap.size := fun e => by subst e; exact d13 _ _ _ p1 hb'
  have hbb : w.heap[b]? = some (.map es.toArray clock) := hb
  have heq : Obj.map es'.toArray clock' = .map es.toArray clock := by
   have h5 : (w.alloc (.mapIter (some b) clock #[] clock)).heap[b]? = some (.map es'.toArray clock') := ss _ _ (s2 _ _ (s3 _ _ hb'))
   rw [Below.heap_alloc _ _ _ (Array.getElem?_eq_some_iff.1 hb).1, hbb] at h5
   exact (Option.some.inj h5).symm
  cases heq
  exact ⟨es, clock, clock, clock, #[], [], Q74 d13 _ _ hb', Q75 k1 k3 _ _ p1, hne, hm, hp, hc, rfl, rfl, List.nodup_nil, by simp, by simp, by simp⟩
theorem sat_rng {w : World} (hs : sat R (rngo kv vv b r kvs done :: l) w) : ∃ (es : List MapEntry) (clock : Nat) (seen : Array Nat) (is : List Nat), w.heap[b]? = some (.map es.toArray clock) ∧ w.heap[r]? = some (.mapIter (some b) clock seen clock) ∧ b ≠ r ∧
 es.map (fun e => (e.key, e.val)) = kvs.map (fun p => (kv p.1, vv p.2)) ∧ es.Pairwise (fun x y => x.born < y.born) ∧ (∀ e ∈ es, e.born < clock) ∧
 is.Nodup ∧ (∀ i ∈ is, i < kvs.length) ∧ (done.map some = is.map fun i => kvs[i]?) ∧ seen.toList.map some = is.map fun i => es[i]?.map (·.born) := by
 obtain ⟨h1, ⟨es, clock, since, stp, seen, is, a1, a2, a3, a4, a5, a6, rfl, rfl, a7⟩, s⟩ := hs.head
 exact ⟨es, _, seen, is, s _ _ a1, s _ _ a2, a3, a4, a5, a6, a7⟩
theorem At.nextMap {x : Operand} (hg : grd os env g = some true) (hx : ev env x = some (.pointer (some ⟨r, 0, none⟩))) (f : Frt l (rngo kv vv b r kvs done) l') (hd : Nat.blt d n = true)
 (hF : done.Perm kvs → At n ds R ((d, .tuple #[.bool false]) :: env) (rngo kv vv b r kvs done :: l') (wpList P os.toArray Q rest))
 (hT : ∀ (z : κ × ν) tl, (done ++ z :: tl).Perm kvs → At n ds R ((d, .tuple #[.bool true, kv z.1, vv z.2]) :: env) (rngo kv vv b r kvs (done ++ [z]) :: l') (wpList P os.toArray Q rest)) :
 At n ds R env l (wpList P os.toArray Q (⟨some d, .next x false, ty, pos, af, g⟩ :: rest)) := Q83 hg rfl hd fun a w e hs => by
 have hs1 := hs.frt f
 obtain ⟨es, clock, seen, is, hb, hr, hne, hm, hbn, hcl, hn, hl, hdn, hsn⟩ := sat_rng hs1
 have hlen : es.length = kvs.length := Q184 hm
 have hinj : ∀ i j, i < es.length → j < es.length → es[i]?.map (·.born) = es[j]?.map (·.born) → i = j := fun i j hi hj he => by
  rw [List.getElem?_eq_getElem hi, List.getElem?_eq_getElem hj] at he
  simp at he
  have hp := List.pairwise_iff_getElem.1 hbn
  rcases Nat.lt_trichotomy i j with h3 | h3 | h3
  ·have := hp i j hi hj h3; omega
  ·exact h3
  ·have := hp j i hj hi h3; omega
 have hseen : ∀ i, i < es.length → (seen.contains (es[i]?.map (·.born)).get! = true ↔ i ∈ is) := fun i hi => by
  rw [List.getElem?_eq_getElem hi]
  simp only [Option.map_some, Option.get!_some]
  rw [Array.contains_iff_mem, ← Array.mem_toList_iff]
  constructor
  ·intro h
   have : some es[i].born ∈ seen.toList.map some := List.mem_map_of_mem h
   rw [hsn] at this
   obtain ⟨j, hj, hje⟩ := List.mem_map.1 this
   have := hinj j i (by rw [hlen]; exact hl j hj) hi (by rw [hje, List.getElem?_eq_getElem hi]; rfl)
   subst this; exact hj
  ·intro h
   have : es[i]?.map (·.born) ∈ seen.toList.map some := by rw [hsn]; exact List.mem_map_of_mem (f := fun i => es[i]?.map (·.born)) h
   obtain ⟨q, hq, hqe⟩ := List.mem_map.1 this
   rw [List.getElem?_eq_getElem hi] at hqe
   simp at hqe
   rw [← hqe]; exact hq
 rcases run_next_at (P := P) w ty r b clock clock seen es.toArray clock hr hb (fun x hx => hcl x (by simpa using hx)) (Nat.le_refl _) with ⟨h0, hrun⟩ | ⟨e1, he, w1, hal, hrun⟩
 ·refine ⟨.tuple #[.bool false], w, rngo kv vv b r kvs done :: l', ?_, hs1, hF ?_⟩
  ·simp only [execOp, e.ev hx, Sem.run_bind, hrun, Result.andThen, Sem.run_pure]
  ·refine idx_full hn hl (fun i hi => ?_) hdn
   have hi' : i < es.length := by omega
   have := all_seen es.toArray seen h0 es[i] (by simp)
   refine (hseen i hi').1 ?_
   rw [List.getElem?_eq_getElem hi']
   simpa using this
 ·obtain ⟨hem, hes⟩ := mem_left he
  have hem' : e1 ∈ es := by simpa using hem
  obtain ⟨i, hi, hie⟩ := List.getElem_of_mem hem'
  have hi' : i < kvs.length := by omega
  have hnot : i ∉ is := fun h => by
   have := (hseen i hi).2 h
   rw [List.getElem?_eq_getElem hi, hie] at this
   simp at this hes
   exact hes this
  have hkv : (e1.key, e1.val) = (kv kvs[i].1, vv kvs[i].2) := by
   have := congrArg (fun l => l[i]?) hm
   simp only [List.getElem?_map, List.getElem?_eq_getElem hi, List.getElem?_eq_getElem hi', Option.map_some, hie] at this
   exact Option.some.inj this
  obtain ⟨hk1, hk2⟩ := Prod.mk.inj hkv
  have hn' : (is ++ [i]).Nodup := by
   rw [List.nodup_append]
   exact ⟨hn, by simp, fun a ha c hc hac => by simp at hc; subst hc hac; exact hnot ha⟩
  have hl' : ∀ j ∈ is ++ [i], j < kvs.length := fun j hj => by
   rcases List.mem_append.1 hj with h | h
   ·exact hl j h
   ·simp at h; subst h; exact hi'
  have hdn' : (done ++ [kvs[i]]).map some = (is ++ [i]).map fun j => kvs[j]? := by
   rw [List.map_append, List.map_append, hdn]
   simp [hi']
  obtain ⟨tl, htl⟩ := idx_perm hn' hl' hdn'
  refine ⟨.tuple #[.bool true, kv kvs[i].1, vv kvs[i].2], ChangeMaps.setBlock w1 r (.mapIter (some b) clock (seen.push e1.born) clock), rngo kv vv b r kvs (done ++ [kvs[i]]) :: l', ?_, ?_, hT kvs[i] tl (by simpa using htl)⟩
  ·simp only [execOp, e.ev hx, Sem.run_bind, hrun, Result.andThen, Sem.run_pure, hk1, hk2]
  ·have hs2 : sat R (rngo kv vv b r kvs done :: l') w1 := by rcases hal with rfl | rfl <;> first | exact hs1 | exact hs1.drew
   have hb1 : w1.heap[b]? = some (.map es.toArray clock) := by rcases hal with rfl | rfl <;> exact hb
   have hr1 : w1.heap[r]? = some (.mapIter (some b) clock seen clock) := by rcases hal with rfl | rfl <;> exact hr
   obtain ⟨h1, ⟨es2, c2, s2, q2, seen2, is2, a1, a2, _⟩, s, kk⟩ := hs2.upd
   have hset := MapKept.heap_set (o' := .mapIter (some b) clock (seen.push e1.born) clock) hr1
   refine kk _ (fun x => if x = r then some (.mapIter (some b) clock (seen.push e1.born) clock) else h1 x) _ ⟨es, clock, clock, clock, seen.push e1.born, is ++ [i], ?_, if_pos rfl, hne, hm, hbn, hcl, rfl, rfl, hn', hl', hdn', ?_⟩ rfl rfl rfl (Nat.le_refl _) (fun x o hx hnn => ?_) (fun x o hx => ?_) (fun x o hx => ?_)
   ·show (if b = r then _ else h1 b) = _
    rw [if_neg hne]
    have := s _ _ a1
    simp only [wh] at this
    rw [hb1] at this
    rw [a1]; exact this.symm
   ·rw [Array.toList_push, List.map_append, hsn, List.map_append]
    simp [hi, hie]
   ·have hxr : x ≠ r := fun h => by subst h; rw [a2] at hnn; cases hnn
    show (w1.heap.setIfInBounds r _)[x]? = _
    rw [hset.2 x hxr]; exact hx
   ·by_cases hxr : x = r
    ·subst hxr
     have hx : (if x = x then some (Obj.mapIter (some b) clock (seen.push e1.born) clock) else h1 x) = some o := hx
     rw [if_pos rfl] at hx
     cases hx
     exact hset.1
    ·have hx : (if x = r then some (Obj.mapIter (some b) clock (seen.push e1.born) clock) else h1 x) = some o := hx
     rw [if_neg hxr] at hx
     show (w1.heap.setIfInBounds r _)[x]? = _
     rw [hset.2 x hxr]
     exact s x o hx
   ·by_cases hxr : x = r
    ·subst hxr; exact .inl ⟨_, a2⟩
    ·have hx : (if x = r then some (Obj.mapIter (some b) clock (seen.push e1.born) clock) else h1 x) = some o := hx
     rw [if_neg hxr] at hx; exact .inl ⟨o, hx⟩
theorem Y.entry {x : Operand} {z : κ × ν} {dd : Option Nat} (f : Frt l (rngo kv vv b r kvs (done ++ [z])) l') (hx : ev env x = some (.pointer (some ⟨r, 0, none⟩))) : Y P n ds R env l ⟨dd, .entry x, ty, pos, af, g⟩ (.tuple #[kv z.1, vv z.2]) := fun a w e hs => by
 have hs1 := hs.frt f
 obtain ⟨es, clock, seen, is, hb, hr, hne, hm, hbn, hcl, hn, hl, hdn, hsn⟩ := sat_rng hs1
 have hlen : es.length = kvs.length := Q184 hm
 rcases List.eq_nil_or_concat is with rfl | ⟨is0, i, rfl⟩
 ·simp at hdn
 ·rw [List.concat_eq_append] at *
  simp only [List.map_append, List.map_cons, List.map_nil] at hdn hsn
  have hi : i < kvs.length := hl i (by simp)
  have hie : i < es.length := by omega
  have hz : some z = kvs[i]? := by
   have := List.append_inj_right' hdn rfl
   simpa using this
  rw [List.getElem?_eq_getElem hi] at hz
  have hz' := Option.some.inj hz
  have hkv : (es[i].key, es[i].val) = (kv z.1, vv z.2) := by
   have := congrArg (fun l => l[i]?) hm
   simp only [List.getElem?_map, List.getElem?_eq_getElem hie, List.getElem?_eq_getElem hi, Option.map_some] at this
   rw [hz']
   exact Option.some.inj this
  obtain ⟨hk1, hk2⟩ := Prod.mk.inj hkv
  have hsz : seen.toList ≠ [] := fun h => by rw [h] at hsn; simp at hsn
  have hseen : ∃ s0 : Array Nat, seen = s0.push es[i].born := by
   refine ⟨⟨seen.toList.dropLast⟩, ?_⟩
   apply Array.ext'
   rw [Array.toList_push]
   show seen.toList = seen.toList.dropLast ++ [es[i].born]
   have h1 := List.dropLast_concat_getLast hsz
   have h2 : seen.toList.getLast hsz = es[i].born := by
    have h3 : (seen.toList.map some).getLast? = some (some es[i].born) := by rw [hsn]; simp [hie]
    rw [List.getLast?_map, List.getLast?_eq_some_getLast hsz] at h3
    simpa using h3
   rw [← h2]; exact h1.symm
  obtain ⟨s0, hs0⟩ := hseen
  rw [hs0] at hr
  have := run_entry_at (P := P) w r b clock s0 es.toArray clock es[i] hr hb (by simp) (by
   show (es.map (·.born)).Nodup
   exact List.pairwise_map.2 (hbn.imp fun h => Nat.ne_of_lt h))
  simp only [execOp, e.ev hx, this, Sem.run_bind, Result.andThen, Sem.run_pure, hk1, hk2]
theorem At.rngEnd (f : Frt l (rngo kv vv b r kvs done) l') (h : At n ds R env (mapo kv vv b kvs :: l') K) : At n ds R env l K := fun a w e hs => h a w e ((hs.frt f).imp fun h ⟨es, clock, _, _, _, _, a1, _, _, a4, a5, a6, _⟩ => ⟨es, clock, a1, a4, a5, a6⟩)
end
end Go.Bw
namespace Go.Bw
open Go Go.RowKit Go.Proofs
variable {R : Res} {Fr : List HProp} {b0 n0_0 c0_0 n0_3 c0_3 n0_4 c0_4 n0_5 c0_5 n0_6 c0_6 b0_7 : Nat} {A0_0 A0_3 A0_4 A0_5 A0_6 : Option Addr}
noncomputable def Q38.l1b (q : List Q6) (D : List Bs) (u : List Q0) (p : Int) : Option (((List Q0) × Int) ⊕ (((List Q0)) ⊕ ((List Q1) × (List Q0) × (List Bs) × Int))) :=
 if p < (q.length : Int) then
 if (0 : Int) ≤ p ∧ p < (q.length : Int) then
 (Q58.f D ((gt q p).action)).bind fun B =>
 if (u.length + ([(⟨(gt q p).from_, B, (gt q p).to⟩ : Q0)] : List Q0).length) * 24 ≤ 140737488355328 then
 nx ((u ++ ([(⟨(gt q p).from_, B, (gt q p).to⟩ : Q0)] : List Q0)), IntKind.i64.wrap (p + 1))
 else none
 else none
 else
 dn (.inl u)
noncomputable def Q38.l1 (p : List Q6) (q : List Bs) (u : List Q0) (B : Int) : Option (((List Q0)) ⊕ ((List Q1) × (List Q0) × (List Bs) × Int)) := iter (fun t_ : (List Q0) × Int => Q38.l1b p q t_.1 t_.2) (u, B)
noncomputable def Q38.l0b  (p : Bs × Bool) (q : List Bs) : Option ((List Bs)) :=
 if (q.length + ([p.1] : List Bs).length) * 16 ≤ 140737488355328 then
 some (q ++ ([p.1] : List Bs))
 else none
noncomputable def Q38.f (U : List Q4) (V : Option Q3) (q : Int) (u : List Bs) (B : List Q0) (D : List Q1) (E : List Q6) (G : List (Bs × Bool)) : Option ((List Q1) × (List Q0) × (List Bs) × Int) :=
 ordered G (fun (t_ : (List Bs)) (z_ : Bs × Bool) => Q38.l0b  z_ t_) u (fun I => I) (fun (J : List Bs) =>
 (Q86.f J).bind fun p =>
 jn (Q38.l1 E p B 0) (fun (L : List Q0) =>
 (Q43.f L).bind fun N =>
 (Q45.f D).bind fun O =>
 some (O, N, p, q)))
theorem Q38.callee : Callee Tryz.prog 76 := ⟨_, Tryz.func76, by kernel_rfl, by kernel_rfl⟩
theorem Q38.spec {L : List Q4} {a7 : Option Q3} {E : Int} {U : List Bs} {G : List Q0} {B : List Q1} {p : List Q6} {O : List (Bs × Bool)} (I : Option Nat) (hr0_0 : RdS Q4.fl.rep R.heap A0_0 L) (hn0_0 : L.length = n0_0) (hc0_0 : n0_0 ≤ c0_0) (hn0_3 : U.length = n0_3) (hn0_4 : G.length = n0_4) (hn0_5 : B.length = n0_5) (hn0_6 : p.length = n0_6) {r : (List Q1) × (List Q0) × (List Bs) × Int} (j : Q38.f L a7 E U G B p O = some r) :
 Spec Tryz.prog 76 [bp b0] R (pc b0 [.slice A0_0 n0_0 c0_0, optp I, i6 E, .slice A0_3 n0_3 c0_3, .slice A0_4 n0_4 c0_4, .slice A0_5 n0_5 c0_5, .slice A0_6 n0_6 c0_6, .map (some b0_7)] 114 :: optb (Ow.fl Q3.fl) 58 I a7 :: row Fl.bs 9 A0_3 n0_3 c0_3 U :: row Q0.fl 35 A0_4 n0_4 c0_4 G :: grow Q1.ow 37 A0_5 n0_5 c0_5 B :: row Q6.fl 148 A0_6 n0_6 c0_6 p :: mapo Fl.bs.ov Fl.bool.ov b0_7 O :: Fr) (fun v l' => ∃ (b6 : Nat) (d4 : Option Addr) (d5 : Nat) (b7 : Nat) (d6 : Option Addr) (d7 : Nat) (e6 : Value) (e7 : Value), v = .agg #[i6 r.2.2.2, .slice d6 b7 d7, .slice d4 b6 d5, .slice A0_5 n0_5 c0_5] ∧ pc b0 [.slice A0_0 n0_0 c0_0, optp I, i6 E, e6, e7, .slice A0_5 n0_5 c0_5, .slice A0_6 n0_6 c0_6, .map (some b0_7)] 114 :: optb (Ow.fl Q3.fl) 58 I a7 :: row Fl.bs 9 d6 b7 d7 r.2.2.1 :: row Q0.fl 35 d4 b6 d5 r.2.1 :: grow Q1.ow 37 A0_5 n0_5 c0_5 r.1 :: row Q6.fl 148 A0_6 n0_6 c0_6 p :: mapo Fl.bs.ov Fl.bool.ov b0_7 O :: Fr = l' ∧ r.2.1.length = b6 ∧ r.2.2.1.length = b7) := by
 subst hn0_0; subst hn0_3; subst hn0_4; subst hn0_5; subst hn0_6; refine Spec.of Tryz.func76 rfl rfl ?_; unfold Q38.f at j; have j := brun j; refine At.seq (At.region ?_); refine At.alloc rfl rfl rfl (fun V => ?_); refine nT (sR 3 rfl (At.y (Y.load rfl rfl (.s .z) rfl rfl rfl) rfl rfl rfl ?_)); refine At.alloc rfl rfl rfl (fun J => ?_); refine At.store rfl rfl rfl rfl .z rfl rfl rfl (.c (.c (.c (.c .n)))) ?_; refine nT (At.seq (sR 3 rfl (At.y (Y.load rfl rfl (.s (.s .z)) rfl rfl rfl) rfl rfl rfl ?_))); refine At.rangeMap (.s (.s (.s (.s (.s (.s (.s (.s .z)))))))) rfl rfl rfl rfl rfl (fun d8 => ?_); refine nT ?_; refine At.block ?_; obtain ⟨e8, e9, hall1092⟩ := bordered j; clear j; let T1 : HProp := pc V [i6 0, .slice none 0 0, .slice none 0 0, .slice none 0 0] 26; let T2 : HProp := optb (Ow.fl Q3.fl) 58 I a7; let T3 : HProp := row Q0.fl 35 A0_4 G.length c0_4 G; let T4 : HProp := grow Q1.ow 37 A0_5 B.length c0_5 B; let T5 : HProp := row Q6.fl 148 A0_6 p.length c0_6 p; refine At.loopJ (X := (List Bs) × (List (Bs × Bool)) × Nat × (Option Addr) × Nat × Value) (Y := (List Bs) × Nat × (Option Addr) × Nat × Value) (e0 := 0) (fun s_ => [(0, bp b0), (2, bp V), (3, bp J), (15, bp d8)]) (fun s_ => rngo Fl.bs.ov Fl.bool.ov b0_7 d8 O s_.2.1 :: pc J [i6 E, .slice s_.2.2.2.1 s_.2.2.1 s_.2.2.2.2.1, .slice A0_4 G.length c0_4, .slice A0_5 B.length c0_5] 26 :: T1 :: pc b0 [.slice A0_0 L.length c0_0, optp I, i6 E, s_.2.2.2.2.2, .slice A0_4 G.length c0_4, .slice A0_5 B.length c0_5, .slice A0_6 p.length c0_6, .map (some b0_7)] 114 :: T2 :: row Fl.bs 9 s_.2.2.2.1 s_.2.2.1 s_.2.2.2.2.1 s_.1 :: T3 :: T4 :: T5 :: Fr) (fun m_ => fun s_ => (foldO (fun (t_ : (List Bs)) (z_ : Bs × Bool) => Q38.l0b  z_ t_) U s_.2.1 = some s_.1 ∧ m_ + (s_.2.1).length = (O).length) ∧ s_.1.length = s_.2.2.1) (O).length (U, [], U.length, A0_3, c0_3, .slice A0_3 U.length c0_3) ⟨⟨rfl, rfl⟩, rfl⟩ (fun s_ => [(0, bp b0), (2, bp V), (3, bp J)]) (fun s_ => mapo Fl.bs.ov Fl.bool.ov b0_7 O :: pc J [i6 E, .slice s_.2.2.1 s_.2.1 s_.2.2.2.1, .slice A0_4 G.length c0_4, .slice A0_5 B.length c0_5] 26 :: T1 :: pc b0 [.slice A0_0 L.length c0_0, optp I, i6 E, s_.2.2.2.2, .slice A0_4 G.length c0_4, .slice A0_5 B.length c0_5, .slice A0_6 p.length c0_6, .map (some b0_7)] 114 :: T2 :: row Fl.bs 9 s_.2.2.1 s_.2.1 s_.2.2.2.1 s_.1 :: T3 :: T4 :: T5 :: Fr) (fun s_ => e8 s_.1 = some r ∧ s_.1.length = s_.2.1) (fun a w e hs => ⟨e.sub ⟨rfl, rfl, rfl, rfl, trivial⟩, hs⟩) ?_ (fun f0 => ?_)
 ·rintro ⟨Z, f1, a1, a2, a3⟩ ⟨j, f9⟩; obtain rfl : Z.length = f1 := f9; have j := (e9 _).symm.trans j
  ·refine At.ibx ?_; refine At.thn (sR 1 rfl (At.y (Y.load rfl rfl (.s .z) rfl rfl rfl) rfl rfl rfl (At.f5 ?_))); obtain ⟨b8, g0, j⟩ := bbind j; refine At.call rfl Q86.callee rfl rfl rfl (Q86.spec rfl g0) ?_; rintro _ _ ⟨rfl, rfl⟩; refine nT (At.seq (sR 3 rfl ?_)); refine At.y (Y.load rfl rfl (.s (.s (.s (.s .z)))) rfl rfl rfl) rfl rfl rfl ?_; refine At.run 2 rfl (nT ?_); refine At.block ?_; obtain ⟨g1, g2, n6, j⟩ := bjoin j; obtain ⟨d9, b9, g3⟩ := bsome j; clear j; unfold Q38.l1 at b9; obtain ⟨c8, a4⟩ := Q12.1 b9; clear b9; let T6 : HProp := row Fl.bs 9 a1 Z.length a2 b8; let T7 : HProp := mapo Fl.bs.ov Fl.bool.ov b0_7 O; refine At.loopJ (X := (List Q0) × Int × Nat × (Option Addr) × Nat × Value) (Y := (List Q0) × Nat × (Option Addr) × Nat × Value) (e0 := 2) (fun s_ => [(2, bp V), (3, bp J), (32, .slice A0_6 p.length c0_6), (33, i6 (p.length : Int)), (34, i6 s_.2.1)]) (fun s_ => T6 :: T7 :: pc J [i6 E, .slice a1 Z.length a2, .slice s_.2.2.2.1 s_.2.2.1 s_.2.2.2.2.1, .slice A0_5 B.length c0_5] 26 :: T1 :: pc b0 [.slice A0_0 L.length c0_0, optp I, i6 E, a3, s_.2.2.2.2.2, .slice A0_5 B.length c0_5, .slice A0_6 p.length c0_6, .map (some b0_7)] 114 :: T2 :: row Q0.fl 35 s_.2.2.2.1 s_.2.2.1 s_.2.2.2.2.1 s_.1 :: T4 :: T5 :: Fr) (fun m_ => fun s_ => iterN (fun t_ : (List Q0) × Int => Q38.l1b p b8 t_.1 t_.2) m_ (s_.1, s_.2.1) = some d9 ∧ s_.1.length = s_.2.2.1) c8 (G, 0, G.length, A0_4, c0_4, .slice A0_4 G.length c0_4) ⟨a4, rfl⟩ (fun s_ => [(2, bp V), (3, bp J)]) (fun s_ => T6 :: T7 :: pc J [i6 E, .slice a1 Z.length a2, .slice s_.2.2.1 s_.2.1 s_.2.2.2.1, .slice A0_5 B.length c0_5] 26 :: T1 :: pc b0 [.slice A0_0 L.length c0_0, optp I, i6 E, a3, s_.2.2.2.2, .slice A0_5 B.length c0_5, .slice A0_6 p.length c0_6, .map (some b0_7)] 114 :: T2 :: row Q0.fl 35 s_.2.2.1 s_.2.1 s_.2.2.2.1 s_.1 :: T4 :: T5 :: Fr) (fun s_ => g1 (.inl s_.1) = some r ∧ s_.1.length = s_.2.1) (fun a w e hs => ⟨e.sub ⟨rfl, rfl, rfl, rfl, rfl, trivial⟩, (by exact hs)⟩) ?_ (fun g4 => ?_)
   ·rintro ⟨e1, g5, g6, g7, g8⟩ ⟨j, g9⟩; obtain rfl : e1.length = g5 := g9; have j := (g2 _).symm.trans j
    ·refine At.ibx ?_; refine At.thn (sR 1 rfl (At.y (Y.load rfl rfl (.s (.s .z)) rfl rfl rfl) rfl rfl rfl (At.f6 ?_))); obtain ⟨n7, h0, j⟩ := bbind j; refine At.call rfl Q43.callee rfl rfl rfl (Q43.spec rfl h0) ?_; rintro _ _ ⟨rfl, rfl⟩; refine nT (sR 1 rfl (At.y (Y.load rfl rfl (.s (.s (.s .z))) rfl rfl rfl) rfl rfl rfl (At.f7 ?_))); obtain ⟨n8, h1, j⟩ := bbind j; refine At.call rfl Q45.callee rfl rfl rfl (Q45.spec rfl h1) ?_; rintro _ _ ⟨rfl, rfl⟩; refine nT (At.seq (At.region ?_)); refine At.y (Y.load rfl rfl (.s (.s (.s (.s .z)))) rfl rfl rfl) rfl rfl rfl ?_; refine At.store rfl rfl rfl rfl (.s (.s (.s (.s (.s .z))))) rfl rfl rfl (.c (.c (.c (.c .n)))) ?_; refine nT (At.ret ?_); refine At.rowLen (.s (.s .z)) fun h2 => ?_; refine At.rowLen (.s (.s (.s .z))) fun h3 => ?_; refine At.resM (.inl rfl) rfl (RV.cell rfl rfl .z rfl rfl rfl RV.nil) ?_; refine At.drop .z (At.drop (.s (.s (.s (.s .z)))) (At.f3 (At.f6 (At.f2 (At.f3 (At.f4 (At.f6 ?_))))))); refine At.f6 ?_; cases bret j; exact fun a w e hs => ⟨_, ⟨e1.length, g6, g7, Z.length, a1, a2, a3, g8, rfl, rfl, h2, h3⟩, hs⟩
   ·clear a4 c8; rintro c8 ⟨N, u, h4, h5, h6, a8⟩ ⟨a4, h7⟩; obtain rfl : N.length = h4 := h7; obtain ⟨h8, f_, h9, hf_, j⟩ := bit a4; clear a4; have j : (Q38.l1b p b8 N u).bind _ = some d9 := j; unfold Q38.l1b at j
    ·refine sR 1 rfl (nT (At.seq ?_)); rcases bite j with ⟨c9, j⟩ | ⟨c9, j⟩
     ··refine At.condT rfl (decide_eq_true c9) ?_
       refine At.skip (At.thn (At.seq ?_)); refine At.block ?_; refine At.seq (At.region ?_); obtain ⟨a9, j⟩ := bnone j; refine At.y (Y.ix (.s (.s (.s (.s (.s (.s (.s (.s .z)))))))) rfl rfl rfl rfl rfl rfl a9.1 a9.2) rfl rfl rfl ?_; refine At.y (Y.ld (.s (.s (.s (.s (.s (.s (.s (.s .z)))))))) (q := 0) rfl rfl a9.1 a9.2 rfl rfl rfl) rfl rfl rfl ?_; refine At.alloc rfl rfl rfl (fun e2 => ?_); refine At.store rfl rfl rfl rfl .z rfl rfl rfl (.c (.c (.c .n))) ?_; refine nT ?_; refine At.freeze (.s .z) fun n9 d0 d1 d2 o0 k1 => ?_; refine At.held [pc e2 [i6 ((gt p u).from_), .string ⟨((gt p u).action).toArray⟩, i6 ((gt p u).to)] 148, T7, T1, pc b0 [.slice A0_0 L.length c0_0, optp I, i6 E, a3, a8, .slice A0_5 B.length c0_5, .slice A0_6 p.length c0_6, .map (some b0_7)] 114, T2, T4, T5] 16 rfl ?_; refine At.H.pw 0 rfl rfl rfl rfl rfl (.c .z (.c .z (.c (.s .z) (.c (.s .z) (.c (.s .z) (.c (.s (.s .z)) (.c (.s (.s .z)) .n))))))) ?_; refine At.H.pw 2 rfl rfl rfl rfl rfl (.c .z (.c .z (.c (.s .z) (.c (.s .z) (.c (.s .z) (.c (.s (.s .z)) (.c (.s (.s .z)) .n))))))) ?_; refine At.H.tw 3 rfl (Y.load rfl rfl .z rfl rfl rfl) rfl rfl rfl (.c .z (.c .z (.c (.s .z) (.c (.s .z) (.c (.s .z) (.c (.s (.s .z)) (.c (.s (.s .z)) .n))))))) ?_; refine At.H.pw 4 rfl rfl rfl rfl rfl (.c .z (.c .z (.c (.s .z) (.c (.s .z) (.c (.s .z) (.c (.s (.s .z)) (.c (.s (.s .z)) .n))))))) ?_; refine At.H.pw 6 rfl rfl rfl rfl rfl (.c .z (.c .z (.c (.s .z) (.c (.s .z) (.c (.s .z) (.c (.s (.s .z)) (.c (.s (.s .z)) .n))))))) ?_; refine At.H.tw 7 rfl (Y.load rfl rfl .z rfl rfl rfl) rfl rfl rfl (.c .z (.c .z (.c (.s .z) (.c (.s .z) (.c (.s .z) (.c (.s (.s .z)) (.c (.s (.s .z)) .n))))))) ?_; refine At.H.pw 9 rfl rfl rfl rfl rfl (.c .z (.c .z (.c (.s .z) (.c (.s .z) (.c (.s .z) (.c (.s (.s .z)) (.c (.s (.s .z)) .n))))))) ?_; refine At.H.tw 10 rfl (Y.load rfl rfl .z rfl rfl rfl) rfl rfl rfl (.c .z (.c .z (.c (.s .z) (.c (.s .z) (.c (.s .z) (.c (.s (.s .z)) (.c (.s (.s .z)) .n))))))) ?_; obtain ⟨D, d3, j⟩ := bbind j; obtain ⟨b4, j⟩ := bnone j; let T8 : HProp := pc e2 [i6 ((gt p u).from_), .string ⟨((gt p u).action).toArray⟩, i6 ((gt p u).to)] 148; let T9 : HProp := pc b0 [.slice A0_0 L.length c0_0, optp I, i6 E, a3, a8, .slice A0_5 B.length c0_5, .slice A0_6 p.length c0_6, .map (some b0_7)] 114; refine At.H.joinK (X := (Option Addr) × Nat) (fun s_ => [(2, bp V), (3, bp J), (32, .slice A0_6 p.length c0_6), (33, i6 (p.length : Int)), (34, i6 u)]) (fun s_ => pc J [i6 E, .slice a1 Z.length a2, .slice s_.1 ((N ++ ([(⟨(gt p u).from_, D, (gt p u).to⟩ : Q0)] : List Q0)).length) s_.2, .slice A0_5 B.length c0_5] 26 :: row Q0.fl 35 s_.1 ((N ++ ([(⟨(gt p u).from_, D, (gt p u).to⟩ : Q0)] : List Q0)).length) s_.2 (N ++ ([(⟨(gt p u).from_, D, (gt p u).to⟩ : Q0)] : List Q0)) :: T8 :: T7 :: T1 :: T9 :: T2 :: T4 :: T5 :: Fr) (fun s_ => True) ?_ (fun b5 => ?_)
       ·rintro ⟨k2, k3⟩ -
        ·refine At.ibn ?_; refine At.thn (At.region (At.run 2 rfl (At.nil ?_))); refine At.thaw k1 ?_; refine At.drop (.s (.s (.s .z))) (At.f8 (At.f8 (At.f4 (At.f8 (At.f8 (At.f8 (At.f7 ?_))))))); refine At.f8 (At.f8 ?_); have j := bnx hf_ j; exact fun a w e hs => ⟨h8, ((N ++ ([(⟨(gt p u).from_, D, (gt p u).to⟩ : Q0)] : List Q0)), IntKind.i64.wrap (u + 1), (N ++ ([(⟨(gt p u).from_, D, (gt p u).to⟩ : Q0)] : List Q0)).length, k2, k3, a8), h9, ⟨j, rfl⟩, e.sub ⟨rfl, rfl, rfl, rfl, rfl, trivial⟩, hs⟩
       ·refine At.H.al [1, 5] (Q7 ?_ (Q7 ?_ Q11))
        ··refine At.HO.op rfl ?_
          refine At.y (Y.load rfl rfl (.s (.s .z)) rfl rfl rfl) rfl rfl rfl ?_; refine At.HO.back (.c .z (.c .z (.c (.s .z) (.c (.s .z) (.c (.s .z) (.c (.s (.s .z)) (.c (.s (.s .z)) .n))))))) ?_; refine At.H.al [5] (Q7 ?_ Q11)
          ··refine At.HO.op rfl ?_
            refine At.y (Y.load rfl rfl (.s (.s .z)) rfl rfl rfl) rfl rfl rfl ?_; refine At.HO.back (.c .z (.c .z (.c (.s .z) (.c (.s .z) (.c (.s .z) (.c (.s (.s .z)) (.c (.s (.s .z)) .n))))))) ?_; refine At.H.al [8] (Q7 ?_ Q11)
            ··refine At.HO.op rfl ?_
              refine At.call rfl Q58.callee rfl rfl rfl (Q58.spec d0 d1 d2 d3) ?_; rintro _ _ ⟨rfl, rfl⟩; refine At.HO.back (.c .z (.c .z (.c (.s .z) (.c (.s .z) (.c (.s .z) (.c (.s (.s .z)) (.c (.s (.s .z)) .n))))))) ?_; refine At.H.tw 11 rfl (Y.build (is := [0, 1, 2]) (xo := [.tmp 41, .tmp 46, .tmp 48]) (vs := [i6 ((gt p u).from_), i6 D, i6 ((gt p u).to)]) (cs := [i6 ((gt p u).from_), i6 D, i6 ((gt p u).to)]) rfl rfl rfl rfl rfl rfl) rfl rfl rfl (.c .z (.c .z (.c (.s .z) (.c (.s .z) (.c (.s .z) (.c (.s (.s .z)) (.c (.s (.s .z)) .n))))))) ?_; refine At.H.al [12] (Q7 ?_ Q11)
              ··refine At.HO.op rfl ?_
                refine At.lit rfl (xo := [.tmp 49]) (ys := ([(⟨(gt p u).from_, D, (gt p u).to⟩ : Q0)] : List Q0)) Q0.fl rfl rfl rfl rfl rfl rfl rfl rfl rfl rfl rfl (fun o7 o8 => ?_); refine At.HO.back (.c (.s .z) (.c (.s .z) (.c (.s (.s .z)) (.c (.s (.s .z)) (.c (.s (.s .z)) (.c (.s (.s (.s .z))) (.c (.s (.s (.s .z))) .n))))))) ?_; refine At.H.al [13] (Q7 ?_ Q11)
                ··refine At.HO.op rfl ?_
                  refine At.append rfl (.s (.s (.s (.s (.s (.s (.s .z))))))) (Src.own .z (by simp)) rfl rfl rfl rfl rfl rfl rfl rfl b4 (by decide) rfl (fun k4 k5 => ?_); refine At.drop (.s .z) ?_; refine At.HO.back (.c (.s .z) (.c (.s .z) (.c (.s (.s .z)) (.c (.s (.s .z)) (.c (.s (.s .z)) (.c (.s (.s .z)) (.c (.s (.s .z)) .n))))))) ?_; refine At.H.pw 14 rfl rfl rfl rfl rfl (.c (.s .z) (.c (.s .z) (.c (.s (.s .z)) (.c (.s (.s .z)) (.c (.s (.s .z)) (.c (.s (.s .z)) (.c (.s (.s .z)) .n))))))) ?_; refine At.H.al [15] (Q7 ?_ Q11)
                  ··refine At.HO.op rfl ?_
                    refine At.store rfl rfl rfl rfl (.s (.s (.s .z))) rfl rfl rfl (.s (.s (.c .n))) ?_; refine At.HO.back (.c (.s (.s .z)) (.c (.s (.s .z)) (.c (.s (.s .z)) (.c (.s (.s .z)) (.c (.s (.s .z)) (.c (.s (.s .z)) (.c (.s (.s .z)) .n))))))) ?_; refine At.H.done (by kernel_rfl) ?_; exact At.of (b5 (k4, k5) trivial) ⟨rfl, rfl, rfl, rfl, rfl, trivial⟩
        ··refine At.HO.op rfl ?_
          refine At.y (Y.load rfl rfl (.s (.s .z)) rfl rfl rfl) rfl rfl rfl ?_; refine At.HO.back (.c .z (.c .z (.c (.s .z) (.c (.s .z) (.c (.s .z) (.c (.s (.s .z)) (.c (.s (.s .z)) .n))))))) ?_; refine At.H.al [1, 8] (Q7 ?_ (Q7 ?_ Q11))
          ··refine At.HO.op rfl ?_
            refine At.y (Y.load rfl rfl (.s (.s .z)) rfl rfl rfl) rfl rfl rfl ?_; refine At.HO.back (.c .z (.c .z (.c (.s .z) (.c (.s .z) (.c (.s .z) (.c (.s (.s .z)) (.c (.s (.s .z)) .n))))))) ?_; refine At.H.al [8] (Q7 ?_ Q11)
            ··refine At.HO.op rfl ?_
              refine At.call rfl Q58.callee rfl rfl rfl (Q58.spec d0 d1 d2 d3) ?_; rintro _ _ ⟨rfl, rfl⟩; refine At.HO.back (.c .z (.c .z (.c (.s .z) (.c (.s .z) (.c (.s .z) (.c (.s (.s .z)) (.c (.s (.s .z)) .n))))))) ?_; refine At.H.tw 11 rfl (Y.build (is := [0, 1, 2]) (xo := [.tmp 41, .tmp 46, .tmp 48]) (vs := [i6 ((gt p u).from_), i6 D, i6 ((gt p u).to)]) (cs := [i6 ((gt p u).from_), i6 D, i6 ((gt p u).to)]) rfl rfl rfl rfl rfl rfl) rfl rfl rfl (.c .z (.c .z (.c (.s .z) (.c (.s .z) (.c (.s .z) (.c (.s (.s .z)) (.c (.s (.s .z)) .n))))))) ?_; refine At.H.al [12] (Q7 ?_ Q11)
              ··refine At.HO.op rfl ?_
                refine At.lit rfl (xo := [.tmp 49]) (ys := ([(⟨(gt p u).from_, D, (gt p u).to⟩ : Q0)] : List Q0)) Q0.fl rfl rfl rfl rfl rfl rfl rfl rfl rfl rfl rfl (fun o9 p0 => ?_); refine At.HO.back (.c (.s .z) (.c (.s .z) (.c (.s (.s .z)) (.c (.s (.s .z)) (.c (.s (.s .z)) (.c (.s (.s (.s .z))) (.c (.s (.s (.s .z))) .n))))))) ?_; refine At.H.al [13] (Q7 ?_ Q11)
                ··refine At.HO.op rfl ?_
                  refine At.append rfl (.s (.s (.s (.s (.s (.s (.s .z))))))) (Src.own .z (by simp)) rfl rfl rfl rfl rfl rfl rfl rfl b4 (by decide) rfl (fun k6 k7 => ?_); refine At.drop (.s .z) ?_; refine At.HO.back (.c (.s .z) (.c (.s .z) (.c (.s (.s .z)) (.c (.s (.s .z)) (.c (.s (.s .z)) (.c (.s (.s .z)) (.c (.s (.s .z)) .n))))))) ?_; refine At.H.pw 14 rfl rfl rfl rfl rfl (.c (.s .z) (.c (.s .z) (.c (.s (.s .z)) (.c (.s (.s .z)) (.c (.s (.s .z)) (.c (.s (.s .z)) (.c (.s (.s .z)) .n))))))) ?_; refine At.H.al [15] (Q7 ?_ Q11)
                  ··refine At.HO.op rfl ?_
                    refine At.store rfl rfl rfl rfl (.s (.s (.s .z))) rfl rfl rfl (.s (.s (.c .n))) ?_; refine At.HO.back (.c (.s (.s .z)) (.c (.s (.s .z)) (.c (.s (.s .z)) (.c (.s (.s .z)) (.c (.s (.s .z)) (.c (.s (.s .z)) (.c (.s (.s .z)) .n))))))) ?_; refine At.H.done (by kernel_rfl) ?_; exact At.of (b5 (k6, k7) trivial) ⟨rfl, rfl, rfl, rfl, rfl, trivial⟩
          ··refine At.HO.op rfl ?_
            refine At.call rfl Q58.callee rfl rfl rfl (Q58.spec d0 d1 d2 d3) ?_; rintro _ _ ⟨rfl, rfl⟩; refine At.HO.back (.c .z (.c .z (.c (.s .z) (.c (.s .z) (.c (.s .z) (.c (.s (.s .z)) (.c (.s (.s .z)) .n))))))) ?_; refine At.H.tw 11 rfl (Y.build (is := [0, 1, 2]) (xo := [.tmp 41, .tmp 46, .tmp 48]) (vs := [i6 ((gt p u).from_), i6 D, i6 ((gt p u).to)]) (cs := [i6 ((gt p u).from_), i6 D, i6 ((gt p u).to)]) rfl rfl rfl rfl rfl rfl) rfl rfl rfl (.c .z (.c .z (.c (.s .z) (.c (.s .z) (.c (.s .z) (.c (.s (.s .z)) (.c (.s (.s .z)) .n))))))) ?_; refine At.H.al [1, 12] (Q7 ?_ (Q7 ?_ Q11))
            ··refine At.HO.op rfl ?_
              refine At.y (Y.load rfl rfl (.s (.s .z)) rfl rfl rfl) rfl rfl rfl ?_; refine At.HO.back (.c .z (.c .z (.c (.s .z) (.c (.s .z) (.c (.s .z) (.c (.s (.s .z)) (.c (.s (.s .z)) .n))))))) ?_; refine At.H.al [12] (Q7 ?_ Q11)
              ··refine At.HO.op rfl ?_
                refine At.lit rfl (xo := [.tmp 49]) (ys := ([(⟨(gt p u).from_, D, (gt p u).to⟩ : Q0)] : List Q0)) Q0.fl rfl rfl rfl rfl rfl rfl rfl rfl rfl rfl rfl (fun p1 p2 => ?_); refine At.HO.back (.c (.s .z) (.c (.s .z) (.c (.s (.s .z)) (.c (.s (.s .z)) (.c (.s (.s .z)) (.c (.s (.s (.s .z))) (.c (.s (.s (.s .z))) .n))))))) ?_; refine At.H.al [13] (Q7 ?_ Q11)
                ··refine At.HO.op rfl ?_
                  refine At.append rfl (.s (.s (.s (.s (.s (.s (.s .z))))))) (Src.own .z (by simp)) rfl rfl rfl rfl rfl rfl rfl rfl b4 (by decide) rfl (fun k8 k9 => ?_); refine At.drop (.s .z) ?_; refine At.HO.back (.c (.s .z) (.c (.s .z) (.c (.s (.s .z)) (.c (.s (.s .z)) (.c (.s (.s .z)) (.c (.s (.s .z)) (.c (.s (.s .z)) .n))))))) ?_; refine At.H.pw 14 rfl rfl rfl rfl rfl (.c (.s .z) (.c (.s .z) (.c (.s (.s .z)) (.c (.s (.s .z)) (.c (.s (.s .z)) (.c (.s (.s .z)) (.c (.s (.s .z)) .n))))))) ?_; refine At.H.al [15] (Q7 ?_ Q11)
                  ··refine At.HO.op rfl ?_
                    refine At.store rfl rfl rfl rfl (.s (.s (.s .z))) rfl rfl rfl (.s (.s (.c .n))) ?_; refine At.HO.back (.c (.s (.s .z)) (.c (.s (.s .z)) (.c (.s (.s .z)) (.c (.s (.s .z)) (.c (.s (.s .z)) (.c (.s (.s .z)) (.c (.s (.s .z)) .n))))))) ?_; refine At.H.done (by kernel_rfl) ?_; exact At.of (b5 (k8, k9) trivial) ⟨rfl, rfl, rfl, rfl, rfl, trivial⟩
            ··refine At.HO.op rfl ?_
              refine At.lit rfl (xo := [.tmp 49]) (ys := ([(⟨(gt p u).from_, D, (gt p u).to⟩ : Q0)] : List Q0)) Q0.fl rfl rfl rfl rfl rfl rfl rfl rfl rfl rfl rfl (fun p3 p4 => ?_); refine At.HO.back (.c (.s .z) (.c (.s .z) (.c (.s (.s .z)) (.c (.s (.s .z)) (.c (.s (.s .z)) (.c (.s (.s (.s .z))) (.c (.s (.s (.s .z))) .n))))))) ?_; refine At.H.al [1] (Q7 ?_ Q11)
              ··refine At.HO.op rfl ?_
                refine At.y (Y.load rfl rfl (.s (.s (.s .z))) rfl rfl rfl) rfl rfl rfl ?_; refine At.HO.back (.c (.s .z) (.c (.s .z) (.c (.s (.s .z)) (.c (.s (.s .z)) (.c (.s (.s .z)) (.c (.s (.s (.s .z))) (.c (.s (.s (.s .z))) .n))))))) ?_; refine At.H.al [13] (Q7 ?_ Q11)
                ··refine At.HO.op rfl ?_
                  refine At.append rfl (.s (.s (.s (.s (.s (.s (.s .z))))))) (Src.own .z (by simp)) rfl rfl rfl rfl rfl rfl rfl rfl b4 (by decide) rfl (fun m0 m1 => ?_); refine At.drop (.s .z) ?_; refine At.HO.back (.c (.s .z) (.c (.s .z) (.c (.s (.s .z)) (.c (.s (.s .z)) (.c (.s (.s .z)) (.c (.s (.s .z)) (.c (.s (.s .z)) .n))))))) ?_; refine At.H.pw 14 rfl rfl rfl rfl rfl (.c (.s .z) (.c (.s .z) (.c (.s (.s .z)) (.c (.s (.s .z)) (.c (.s (.s .z)) (.c (.s (.s .z)) (.c (.s (.s .z)) .n))))))) ?_; refine At.H.al [15] (Q7 ?_ Q11)
                  ··refine At.HO.op rfl ?_
                    refine At.store rfl rfl rfl rfl (.s (.s (.s .z))) rfl rfl rfl (.s (.s (.c .n))) ?_; refine At.HO.back (.c (.s (.s .z)) (.c (.s (.s .z)) (.c (.s (.s .z)) (.c (.s (.s .z)) (.c (.s (.s .z)) (.c (.s (.s .z)) (.c (.s (.s .z)) .n))))))) ?_; refine At.H.done (by kernel_rfl) ?_; exact At.of (b5 (m0, m1) trivial) ⟨rfl, rfl, rfl, rfl, rfl, trivial⟩
     ··refine At.condF rfl (decide_eq_false c9) ?_
       refine At.exit ?_; refine At.the ?_; refine At.the ?_; exact fun a w e hs => g4 (N, N.length, h5, h6, a8) ⟨(bdn j g3), rfl⟩ a w (e.sub ⟨rfl, rfl, trivial⟩) hs
 ·rintro p5 ⟨a0, m2, m3, m4, m5, e3⟩ ⟨⟨e4, e5⟩, m6⟩; obtain rfl : a0.length = m3 := m6
  ·refine At.seq (At.region ?_); refine At.nextMap rfl rfl .z rfl (fun a5 => ?_) (fun a6 m7 a5 => ?_)
   ·have j := foldO_end hall1092 e4 a5; refine At.run 1 rfl (nT (At.seq ?_)); refine At.condF rfl rfl ?_; refine At.exit ?_; refine At.the ?_; refine At.the ?_; refine At.rngEnd .z ?_; exact fun a w e hs => f0 (a0, a0.length, m4, m5, e3) ⟨j, rfl⟩ a w (e.sub ⟨rfl, rfl, rfl, trivial⟩) hs
   ·obtain ⟨m8, m9, n2⟩ := foldO_go hall1092 e4 a5; have j := brun (show Q38.l0b  a6 a0 = some m8 from m9); unfold Q38.l0b at j; refine At.run 1 rfl (nT (At.seq ?_)); refine At.condT rfl rfl ?_; refine At.skip (At.thn ?_); refine At.block ?_; refine At.seq (At.region ?_); refine At.y (Y.entry .z rfl) rfl rfl rfl ?_; refine At.run 2 rfl (nT (At.region (At.run 1 rfl (At.y (Y.load rfl rfl (.s .z) rfl rfl rfl) rfl rfl rfl (At.run 1 rfl ?_))))); refine At.lit rfl (xo := [.tmp 22]) (ys := ([a6.1] : List Bs)) Fl.bs rfl rfl rfl rfl rfl rfl rfl rfl rfl rfl rfl (fun p6 p7 => ?_); obtain ⟨n3, j⟩ := bnone j; refine At.append rfl (.s (.s (.s (.s (.s (.s .z)))))) (Src.own .z (by simp)) rfl rfl rfl rfl rfl rfl rfl rfl n3 (by decide) rfl (fun n4 n5 => ?_); refine At.drop (.s .z) (At.run 1 rfl ?_); refine At.store rfl rfl rfl rfl (.s (.s .z)) rfl rfl rfl (.s (.c .n)) ?_; refine At.nil ?_; refine At.ibn ?_; refine At.f8 (At.f8 (At.f8 (At.f4 (At.f8 (At.f8 (At.f8 (At.f7 ?_))))))); refine At.f8 ?_; obtain rfl := bret j; exact fun a w e hs => ⟨m7.length, ((a0 ++ ([a6.1] : List Bs)), (m2 ++ [a6]), (a0 ++ ([a6.1] : List Bs)).length, n4, n5, e3), (rng_lt a5 e5).1, ⟨⟨n2, (rng_lt a5 e5).2⟩, rfl⟩, e.sub ⟨rfl, rfl, rfl, rfl, trivial⟩, hs⟩

noncomputable def Q26.l0b (D : (Option Q3) × (List Q4) × Int) (E : Option Q3) (q : List Q1) (u : List Q6) (B : List (Bs × Bool)) (L : List Q4) : Option (((Option Q3) × (List Q1) × (List Q6) × (List (Bs × Bool)) × (List Q4)) ⊕ (((Option Q3) × (List Q1) × (List Q6) × (List (Bs × Bool)) × (List Q4)) ⊕ ((Option Q3) × (List Bs) × (List Q0) × (List Q1) × Int))) :=
 if E.isNone = true then
 (Q61.f L E D.2.2 ([] : List Bs) ([] : List Q0) q u B).bind fun G =>
 if (0 : Int) ≤ 0 ∧ 0 < (G.length : Int) then
 if (gt G 0).Kind = 0 then
 dn (.inl (E, q, u, B, G))
 else
 (Q55.f G E D.2.2 ([] : List Bs) ([] : List Q0) q u B 2).bind fun p =>
 if p.1.isNone = true then
 if bseq p.2.2.2.2.1 ([101, 100, 103, 101] : Bs) = true then
 (Q123.f p.2.1 p.1 D.2.2 ([] : List Bs) ([] : List Q0) q u B p.2.2.1 p.2.2.2.1 p.2.2.2.2.1 p.2.2.2.2.2).bind fun I =>
 nx (I.2.2.1, q, I.1, I.2.1, I.2.2.2)
 else
 if bseq p.2.2.2.2.1 ([109, 97, 114, 107] : Bs) = true then
 (Q42.f p.2.1 p.1 D.2.2 ([] : List Bs) ([] : List Q0) q u B).bind fun J =>
 nx (J.2.1, J.1, u, B, J.2.2)
 else
 (Q20.f p.2.1 p.1 D.2.2 ([] : List Bs) ([] : List Q0) q u B p.2.2.1 p.2.2.2.1 p.2.2.2.2.1 p.2.2.2.2.2 7).bind fun N =>
 nx (N, q, u, B, p.2.1)
 else
 nx (p.1, q, u, B, p.2.1)
 else none
 else
 dn (.inl (E, q, u, B, L))
noncomputable def Q26.l0 (p : (Option Q3) × (List Q4) × Int) (q : Option Q3) (u : List Q1) (B : List Q6) (D : List (Bs × Bool)) (E : List Q4) : Option (((Option Q3) × (List Q1) × (List Q6) × (List (Bs × Bool)) × (List Q4)) ⊕ ((Option Q3) × (List Bs) × (List Q0) × (List Q1) × Int)) := iter (fun t_ : (Option Q3) × (List Q1) × (List Q6) × (List (Bs × Bool)) × (List Q4) => Q26.l0b p t_.1 t_.2.1 t_.2.2.1 t_.2.2.2.1 t_.2.2.2.2) (q, u, B, D, E)
noncomputable def Q26.f (a0 : Bs) : Option ((Option Q3) × (List Bs) × (List Q0) × (List Q1) × Int) :=
 (Q73.f a0).bind fun u =>
 if u.1.isNone = true then
 (Q118.f u.2 (none : Option Q3) 0 ([] : List Bs) ([] : List Q0) ([] : List Q1) ([] : List Q6) ([] : List (Bs × Bool))).bind fun p =>
 jn (Q26.l0 p p.1 ([] : List Q1) ([] : List Q6) ([] : List (Bs × Bool)) p.2.1) (fun (s_ : (Option Q3) × (List Q1) × (List Q6) × (List (Bs × Bool)) × (List Q4)) =>
 if s_.1.isNone = true then
 (Q38.f s_.2.2.2.2 s_.1 p.2.2 ([] : List Bs) ([] : List Q0) s_.2.1 s_.2.2.1 s_.2.2.2.1).bind fun q =>
 some (none, q.2.2.1, q.2.1, q.1, q.2.2.2)
 else
 some ((some (⟨(s_.1.getD default).At, (s_.1.getD default).Err⟩ : Q3)), ([] : List Bs), ([] : List Q0), ([] : List Q1), 0))
 else
 some (u.1, ([] : List Bs), ([] : List Q0), ([] : List Q1), 0)
theorem Q26.callee : Callee Tryz.prog 30 := ⟨_, Tryz.func30, by kernel_rfl, by kernel_rfl⟩
theorem Q26.spec {a0 : Bs} {r : (Option Q3) × (List Bs) × (List Q0) × (List Q1) × Int} (j : Q26.f a0 = some r) :
 Spec Tryz.prog 30 [.string ⟨(a0).toArray⟩] R (Fr) (fun v l' => ∃ (f9 : Option Nat) (b9 : Nat) (g0 : Option Addr) (g1 : Nat) (c8 : Nat) (g2 : Option Addr) (g3 : Nat) (c9 : Nat) (g4 : Option Addr) (g5 : Nat), v = .tuple #[.agg #[i6 r.2.2.2.2, .slice g0 b9 g1, .slice g2 c8 g3, .slice g4 c9 g5], opti 111 f9] ∧ row Fl.bs 9 g0 b9 g1 r.2.1 :: row Q0.fl 35 g2 c8 g3 r.2.2.1 :: grow Q1.ow 37 g4 c9 g5 r.2.2.2.1 :: optb (Ow.fl Q3.fl) 58 f9 r.1 :: Fr = l' ∧ r.2.1.length = b9 ∧ r.2.2.1.length = c8 ∧ r.2.2.2.1.length = c9) := by
 refine Spec.of Tryz.func30 rfl rfl ?_; unfold Q26.f at j; have j := brun j; refine At.seq (At.region ?_); refine At.alloc rfl rfl rfl (fun d0 => ?_); refine At.run 1 rfl (nT (sR 1 rfl ?_)); obtain ⟨a7, k3, j⟩ := bbind j; refine At.call rfl Q73.callee rfl rfl rfl (Q73.spec k3) ?_; rintro _ _ ⟨g6, s7, d1, d2, rfl, rfl, rfl⟩; refine At.run 5 rfl (nT (At.seq (sR 1 rfl ?_))); refine At.y (Y.neOptI (.s .z) rfl rfl rfl) rfl rfl rfl ?_; refine nT ?_; rcases bite j with ⟨d3, j⟩ | ⟨d3, j⟩
 ··refine At.condF rfl (nf d3) ?_
   refine At.skip (At.thn (sR 1 rfl ?_)); refine At.makeMap Fl.bs.ov Fl.bool.ov rfl rfl (fun B => ?_); refine At.y (Y.build (is := [0, 4]) (xo := [.tmp 17, .tmp 18]) (vs := [.slice d1 a7.2.length d2, .map (some B)]) (cs := [.slice d1 a7.2.length d2, .pointer none, i6 0, .slice none 0 0, .slice none 0 0, .slice none 0 0, .slice none 0 0, .map (some B)]) rfl rfl rfl rfl rfl rfl) rfl rfl rfl ?_; refine At.box rfl rfl (cs := [.slice d1 a7.2.length d2, .pointer none, i6 0, .slice none 0 0, .slice none 0 0, .slice none 0 0, .slice none 0 0, .map (some B)]) rfl rfl (fun L => ?_); refine At.run 1 rfl (nT (sR 1 rfl ?_)); refine At.optNone (Ow.fl Q3.fl) 58 ?_; refine At.nilRow Fl.bs 9 ?_; refine At.nilRow Q0.fl 35 ?_; refine At.nilGrow Q1.ow 37 ?_; refine At.nilRow Q6.fl 148 ?_; refine At.freeze (.s (.s (.s (.s (.s (.s (.s .z))))))) fun g7 k4 k5 k6 s8 g8 => ?_; refine At.f6 (At.f1 (At.f2 (At.f3 (At.f4 (At.f5 (At.f6 ?_)))))); obtain ⟨D, k7, j⟩ := bbind j; refine At.call rfl Q118.callee rfl rfl rfl (Q118.spec none k4 k5 k6 rfl rfl rfl rfl k7) ?_; rintro _ _ ⟨k8, k9, s9, m0, rfl, rfl, m1, rfl, m2⟩; refine nT (At.seq ?_); refine At.block ?_; obtain ⟨m3, m4, t0, j⟩ := bjoin j; obtain ⟨g9, d4, h0⟩ := bsome j; clear j; unfold Q26.l0 at d4; obtain ⟨d5, N⟩ := Q12.1 d4; clear d4; let d6 : HProp := row Fl.bs 9 none 0 0 ([] : List Bs); let d7 : HProp := row Q0.fl 35 none 0 0 ([] : List Q0); let d9 : HProp := optb (Ow.fl Q3.fl) 58 g6 a7.1; let e1 : HProp := pc d0 [i6 0, .slice none 0 0, .slice none 0 0, .slice none 0 0] 26; refine At.loopJ (X := (Option Q3) × (List Q1) × (List Q6) × (List (Bs × Bool)) × (List Q4) × (Option Nat) × Nat × (Option Addr) × Nat × Nat × (Option Addr) × Nat × (Option Addr) × Nat × Nat) (Y := (Option Q3) × (List Q1) × (List Q6) × (List (Bs × Bool)) × (List Q4) × (Option Nat) × Nat × (Option Addr) × Nat × Nat × (Option Addr) × Nat × (Option Addr) × Nat × Nat) (e0 := 0) (fun s_ => [(2, bp d0), (6, bp L)]) (fun s_ => optb (Ow.fl Q3.fl) 58 s_.2.2.2.2.2.1 s_.1 :: pc L [.slice (d8 s_).2.2.2.2.1 (d8 s_).2.2.2.2.2.1 (d8 s_).2.2.2.2.2.2, optp s_.2.2.2.2.2.1, i6 D.2.2, .slice none 0 0, .slice none 0 0, .slice s_.2.2.2.2.2.2.2.1 s_.2.2.2.2.2.2.1 (d8 s_).1, .slice (d8 s_).2.2.1 (d8 s_).2.1 (d8 s_).2.2.2.1, .map (some B)] 114 :: d6 :: d7 :: grow Q1.ow 37 s_.2.2.2.2.2.2.2.1 s_.2.2.2.2.2.2.1 (d8 s_).1 s_.2.1 :: row Q6.fl 148 (d8 s_).2.2.1 (d8 s_).2.1 (d8 s_).2.2.2.1 s_.2.2.1 :: mapo Fl.bs.ov Fl.bool.ov B s_.2.2.2.1 :: d9 :: e1 :: Fr) (fun m_ => fun s_ => iterN (fun t_ : (Option Q3) × (List Q1) × (List Q6) × (List (Bs × Bool)) × (List Q4) => Q26.l0b D t_.1 t_.2.1 t_.2.2.1 t_.2.2.2.1 t_.2.2.2.2) m_ (s_.1, s_.2.1, s_.2.2.1, s_.2.2.2.1, s_.2.2.2.2.1) = some g9 ∧ s_.2.1.length = s_.2.2.2.2.2.2.1 ∧ s_.2.2.1.length = (d8 s_).2.1 ∧ RdS Q4.fl.rep g7.heap (d8 s_).2.2.2.2.1 s_.2.2.2.2.1 ∧ s_.2.2.2.2.1.length = (d8 s_).2.2.2.2.2.1 ∧ (d8 s_).2.2.2.2.2.1 ≤ (d8 s_).2.2.2.2.2.2) d5 (D.1, ([] : List Q1), ([] : List Q6), ([] : List (Bs × Bool)), D.2.1, k8, 0, none, 0, 0, none, 0, k9, D.2.1.length, m0) ⟨N, rfl, rfl, m1, rfl, m2⟩ (fun s_ => [(2, bp d0), (6, bp L)]) (fun s_ => pc L [.slice (d8 s_).2.2.2.2.1 (d8 s_).2.2.2.2.2.1 (d8 s_).2.2.2.2.2.2, optp s_.2.2.2.2.2.1, i6 D.2.2, .slice none 0 0, .slice none 0 0, .slice s_.2.2.2.2.2.2.2.1 s_.2.2.2.2.2.2.1 (d8 s_).1, .slice (d8 s_).2.2.1 (d8 s_).2.1 (d8 s_).2.2.2.1, .map (some B)] 114 :: optb (Ow.fl Q3.fl) 58 s_.2.2.2.2.2.1 s_.1 :: d6 :: d7 :: grow Q1.ow 37 s_.2.2.2.2.2.2.2.1 s_.2.2.2.2.2.2.1 (d8 s_).1 s_.2.1 :: row Q6.fl 148 (d8 s_).2.2.1 (d8 s_).2.1 (d8 s_).2.2.2.1 s_.2.2.1 :: mapo Fl.bs.ov Fl.bool.ov B s_.2.2.2.1 :: d9 :: e1 :: Fr) (fun s_ => m3 (.inl (s_.1, s_.2.1, s_.2.2.1, s_.2.2.2.1, s_.2.2.2.2.1)) = some r ∧ s_.2.1.length = s_.2.2.2.2.2.2.1 ∧ s_.2.2.1.length = (d8 s_).2.1 ∧ RdS Q4.fl.rep g7.heap (d8 s_).2.2.2.2.1 s_.2.2.2.2.1 ∧ s_.2.2.2.2.1.length = (d8 s_).2.2.2.2.2.1 ∧ (d8 s_).2.2.2.2.2.1 ≤ (d8 s_).2.2.2.2.2.2) (fun a w e hs => ⟨e.sub ⟨rfl, rfl, trivial⟩, (by exact hs)⟩) ?_ (fun h1 => ?_)
   ·rintro ⟨E, O, a8, m5, h2, m6, m7, e2, e3, m8, h3, h4, m9, n2, n3⟩ ⟨j, n4, n5, n6, n7, n8⟩; obtain rfl : O.length = m7 := n4; obtain rfl : a8.length = m8 := n5; obtain rfl : h2.length = n2 := n7; have j := (m4 _).symm.trans j
    ·refine At.ibx ?_; refine At.thn (At.seq (sR 3 rfl (At.y (Y.load rfl rfl .z rfl rfl rfl) rfl rfl rfl ?_))); refine At.y (Y.neOpt (.s .z) rfl rfl rfl rfl) rfl rfl rfl ?_; refine nT ?_; rcases bite j with ⟨a9, j⟩ | ⟨a9, j⟩
     ··refine At.condF rfl (nf a9) ?_
       refine At.skip (At.thn (sR 1 rfl ?_)); obtain ⟨h5, n9, j⟩ := bbind j; refine At.call rfl Q38.callee rfl rfl rfl (Q38.spec m6 n6 rfl n8 rfl rfl rfl rfl n9) ?_; rintro _ _ ⟨t1, o0, o7, t3, o8, o9, t4, t5, rfl, rfl, rfl, rfl⟩; refine At.store rfl rfl rfl rfl (.s (.s (.s (.s (.s (.s (.s (.s .z)))))))) rfl rfl rfl (.c (.c (.c (.c .n)))) ?_; refine At.run 1 rfl (nT (At.ret ?_)); refine At.thaw g8 ?_; refine At.optNone (Ow.fl Q3.fl) 58 ?_; refine At.growLen (.s (.s (.s (.s (.s (.s (.s .z))))))) fun p0 _ => ?_; refine At.resM (.inl rfl) rfl (RV.cell rfl rfl (.s (.s .z)) rfl rfl rfl (RV.tmp rfl RV.nil)) ?_; refine At.drop (.s .z) (At.drop (.s .z) (At.drop (.s .z) (At.drop (.s .z) (At.drop (.s (.s (.s (.s .z)))) (At.drop (.s (.s (.s (.s .z)))) (At.drop (.s (.s (.s (.s .z)))) (At.f3 ?_))))))); refine At.f3 (At.f3 ?_); cases bret j; exact fun a w e hs => ⟨_, ⟨none, h5.2.2.1.length, o8, o9, h5.2.1.length, o0, o7, O.length, e2, e3, rfl, rfl, rfl, rfl, p0⟩, hs⟩
     ··refine At.condT rfl (nt (bn a9)) ?_
       refine At.seq ?_; refine At.optOpen (.s .z) (bn a9) (fun e4 p1 t6 => ?_); have p2 := j; subst p1; have j := p2; refine At.ownFl (.s .z) ?_; rintro rfl; refine At.held [pc e4 [i6 ((E.getD default).At), i6 ((E.getD default).Err)] 58, pc L [.slice m9 h2.length n3, bp e4, i6 D.2.2, .slice none 0 0, .slice none 0 0, .slice e2 O.length e3, .slice h3 a8.length h4, .map (some B)] 114, d6, d7, grow Q1.ow 37 e2 O.length e3 O, row Q6.fl 148 h3 a8.length h4 a8, mapo Fl.bs.ov Fl.bool.ov B m5, d9, e1] 8 rfl ?_; refine At.H.tw 0 rfl (Y.build (is := []) (xo := []) (vs := []) (cs := [i6 0, .slice none 0 0, .slice none 0 0, .slice none 0 0]) rfl rfl rfl rfl rfl rfl) rfl rfl rfl (.c .z (.c .z (.c .z (.c .z (.c .z (.c .z (.c .z (.c .z (.c .z .n))))))))) ?_; refine At.H.pw 1 rfl rfl rfl rfl rfl (.c .z (.c .z (.c .z (.c .z (.c .z (.c .z (.c .z (.c .z (.c .z .n))))))))) ?_; refine At.H.pw 2 rfl rfl rfl rfl rfl (.c .z (.c .z (.c .z (.c .z (.c .z (.c .z (.c .z (.c .z (.c .z .n))))))))) ?_; refine At.H.pw 3 rfl rfl rfl rfl rfl (.c .z (.c .z (.c .z (.c .z (.c .z (.c .z (.c .z (.c .z (.c .z .n))))))))) ?_; refine At.H.tw 4 rfl (Y.load rfl rfl (.s .z) rfl rfl rfl) rfl rfl rfl (.c .z (.c .z (.c .z (.c .z (.c .z (.c .z (.c .z (.c .z (.c .z .n))))))))) ?_; refine At.H.pw 5 rfl rfl rfl rfl rfl (.c .z (.c .z (.c .z (.c .z (.c .z (.c .z (.c .z (.c .z (.c .z .n))))))))) ?_; refine At.H.al [6] (Q7 ?_ Q11)
       ··refine At.HO.op rfl ?_
         refine At.store rfl rfl rfl rfl (.s (.s (.s (.s (.s (.s (.s (.s .z)))))))) rfl rfl rfl (.c (.c (.c (.c .n)))) ?_; refine At.HO.back (.c (.s .z) (.c (.s .z) (.c (.s .z) (.c (.s .z) (.c (.s .z) (.c (.s .z) (.c (.s .z) (.c (.s .z) (.c .z .n))))))))) ?_; refine At.H.pw 7 rfl rfl rfl rfl rfl (.c (.s .z) (.c (.s .z) (.c (.s .z) (.c (.s .z) (.c (.s .z) (.c (.s .z) (.c (.s .z) (.c (.s .z) (.c .z .n))))))))) ?_; refine At.H.done (by kernel_rfl) ?_; refine At.thn (At.ret (At.thr ?_)); refine At.thaw g8 ?_; refine At.f2 ?_; refine At.optSome (x := (⟨(E.getD default).At, (E.getD default).Err⟩ : Q3)) (Ent.fl Q3.fl (x := (⟨(E.getD default).At, (E.getD default).Err⟩ : Q3)) rfl) ?_; refine At.nilRow Fl.bs 9 ?_; refine At.nilRow Q0.fl 35 ?_; refine At.nilGrow Q1.ow 37 ?_; refine At.resM (.inl rfl) rfl (RV.cell rfl rfl (.s (.s (.s (.s (.s .z))))) rfl rfl rfl (RV.tmp rfl RV.nil)) ?_; refine At.drop (.s (.s (.s (.s .z)))) (At.drop (.s (.s (.s (.s .z)))) (At.drop (.s (.s (.s (.s .z)))) (At.drop (.s (.s (.s (.s .z)))) (At.drop (.s (.s (.s (.s .z)))) (At.drop (.s (.s (.s (.s .z)))) (At.drop (.s (.s (.s (.s .z)))) (At.drop (.s (.s (.s (.s .z)))) ?_))))))); refine At.drop (.s (.s (.s (.s .z)))) (At.f3 (At.f1 (At.f2 (At.f3 ?_)))); cases bret j; exact fun a w e hs => ⟨_, ⟨(some e4), 0, none, 0, 0, none, 0, 0, none, 0, rfl, rfl, rfl, rfl, rfl⟩, hs⟩
   ·clear N d5; rintro d5 ⟨e5, p, u, G, b4, b5, p3, U, V, p4, Z, a1, p5, p6, p7⟩ ⟨N, p8, p9, h6, q0, h7⟩; obtain rfl : p.length = p3 := p8; obtain rfl : u.length = p4 := p9; obtain rfl : b4.length = p6 := q0; obtain ⟨b6, f_, b7, hf_, j⟩ := bit N; clear N; have j : (Q26.l0b D e5 p u G b4).bind _ = some g9 := j; unfold Q26.l0b at j
    ·refine At.seq (sR 3 rfl (At.y (Y.load rfl rfl (.s .z) rfl rfl rfl) rfl rfl rfl ?_)); refine At.y (Y.eqOpt .z rfl rfl rfl rfl) rfl rfl rfl ?_; refine nT ?_; rcases bite j with ⟨e6, j⟩ | ⟨e6, j⟩
     ··refine At.condT rfl e6 ?_
       refine At.skip (At.thn ?_); refine At.block ?_; refine sR 1 rfl (At.f6 (At.f6 (At.f6 (At.f6 (At.f6 ?_))))); refine At.f5 (At.f6 ?_); obtain ⟨h8, q2, j⟩ := bbind j; refine At.call rfl Q61.callee rfl rfl rfl (Q61.spec b5 h6 rfl h7 rfl rfl rfl rfl q2) ?_; rintro _ _ ⟨q3, t7, q4, rfl, rfl, a2, rfl, h9⟩; refine nT (At.seq (sR 3 rfl (At.y (Y.load rfl rfl .z rfl rfl rfl) rfl rfl rfl ?_))); obtain ⟨I, j⟩ := bnone j; refine At.y (Y.ixRd a2 rfl rfl rfl rfl rfl rfl rfl I.1 I.2) rfl rfl rfl ?_; refine At.y (Y.fa (RdS.some_ a2 rfl I.1 I.2) rfl rfl rfl rfl rfl rfl) rfl rfl rfl ?_; refine At.y (Y.ldFl a2 rfl (q := 0) rfl rfl I.1 I.2 rfl rfl rfl) rfl rfl rfl (At.run 1 rfl (nT ?_)); rcases bite j with ⟨e7, j⟩ | ⟨e7, j⟩
       ··refine At.condT rfl (decide_eq_true e7) ?_
         refine At.exit ?_; refine At.the ?_; refine At.ibo rfl ?_; refine At.the ?_; exact fun a w e hs => h1 (e5, p, u, G, h8, b5, p.length, U, V, u.length, Z, a1, q3, h8.length, q4) ⟨(bdn j h0), rfl, rfl, a2, rfl, h9⟩ a w (e.sub ⟨rfl, rfl, trivial⟩) hs
       ··refine At.condF rfl (decide_eq_false e7) ?_
         refine At.skip (At.thn (sR 1 rfl ?_)); obtain ⟨a3, q7, j⟩ := bbind j; refine At.call rfl Q55.callee rfl rfl rfl (Q55.spec b5 a2 rfl h9 rfl rfl rfl rfl q7) ?_; rintro _ _ ⟨b8, k1, t8, k2, rfl, rfl, a4, rfl, a5⟩; refine At.alloc rfl rfl rfl (fun t9 => ?_); refine At.store rfl rfl rfl rfl .z rfl rfl rfl (.c (.c (.c (.c .n)))) ?_; refine nT ?_; refine At.block ?_; refine sR 3 rfl (At.y (Y.load rfl rfl (.s (.s .z)) rfl rfl rfl) rfl rfl rfl ?_); refine At.y (Y.neOpt (.s .z) rfl rfl rfl rfl) rfl rfl rfl ?_; refine At.run 1 rfl (nT ?_); rcases bite j with ⟨e8, j⟩ | ⟨e8, j⟩
         ··refine At.condF rfl (nf e8) ?_
           refine sR 1 rfl (At.y (Y.load rfl rfl .z rfl rfl rfl) rfl rfl rfl (At.run 2 rfl (nT ?_))); rcases bite j with ⟨e9, j⟩ | ⟨e9, j⟩
           ··refine At.condT rfl e9 ?_
             refine At.region (At.run 1 rfl (At.y (Y.load rfl rfl .z rfl rfl rfl) rfl rfl rfl (At.f7 (At.f7 (At.f7 (At.f7 (At.f7 ?_))))))); refine At.f6 (At.f7 ?_); obtain ⟨J, q8, j⟩ := bbind j; refine At.call rfl Q123.callee rfl rfl rfl (Q123.spec b8 a4 rfl a5 rfl rfl rfl rfl q8) ?_; rintro _ _ ⟨u0, q9, r0, r1, r2, u1, r3, rfl, rfl, rfl, r4, rfl, r5⟩; refine At.nil ?_; refine At.ibn ?_; refine At.ibn ?_; refine At.drop (.s (.s (.s (.s (.s (.s (.s .z))))))) ?_; have j := bnx hf_ j; exact fun a w e hs => ⟨b6, (J.2.2.1, p, J.1, J.2.1, J.2.2.2, r1, p.length, U, V, J.1.length, q9, r0, r2, J.2.2.2.length, r3), b7, ⟨j, rfl, rfl, r4, rfl, r5⟩, e.sub ⟨rfl, rfl, trivial⟩, hs⟩
           ··refine At.condF rfl (bn e9) ?_
             refine sR 1 rfl (At.y (Y.load rfl rfl .z rfl rfl rfl) rfl rfl rfl (At.run 2 rfl (nT ?_))); rcases bite j with ⟨f0, j⟩ | ⟨f0, j⟩
             ··refine At.condT rfl f0 ?_
               refine At.region (At.run 1 rfl (At.f7 (At.f7 (At.f7 (At.f7 (At.f7 (At.f6 ?_))))))); refine At.f7 ?_; obtain ⟨a6, r6, j⟩ := bbind j; refine At.call rfl Q42.callee rfl rfl rfl (Q42.spec b8 a4 rfl a5 rfl rfl rfl rfl r6) ?_; rintro _ _ ⟨u2, r7, r8, r9, s0, u3, s1, rfl, rfl, rfl, s2, rfl, s3⟩; refine At.nil ?_; refine At.ibn ?_; refine At.ibn ?_; refine At.drop (.s (.s (.s (.s (.s (.s (.s .z))))))) ?_; have j := bnx hf_ j; exact fun a w e hs => ⟨b6, (a6.2.1, a6.1, u, G, a6.2.2, r9, a6.1.length, r7, r8, u.length, Z, a1, s0, a6.2.2.length, s1), b7, ⟨j, rfl, rfl, s2, rfl, s3⟩, e.sub ⟨rfl, rfl, trivial⟩, hs⟩
             ··refine At.condF rfl (bn f0) ?_
               refine At.region (At.run 1 rfl (At.y (Y.load rfl rfl .z rfl rfl rfl) rfl rfl rfl (At.f7 (At.f7 (At.f7 (At.f7 (At.f7 ?_))))))); refine At.f6 (At.f7 ?_); obtain ⟨s4, s5, j⟩ := bbind j; refine At.call rfl Q20.callee rfl rfl rfl (Q20.spec b8 a4 rfl a5 rfl rfl rfl rfl s5) ?_; rintro _ _ ⟨s6, rfl, rfl⟩; refine At.nil ?_; refine At.ibn ?_; refine At.ibn ?_; refine At.drop (.s (.s (.s (.s (.s (.s (.s .z))))))) ?_; have j := bnx hf_ j; exact fun a w e hs => ⟨b6, (s4, p, u, G, a3.2.1, s6, p.length, U, V, u.length, Z, a1, k1, a3.2.1.length, k2), b7, ⟨j, rfl, rfl, a4, rfl, a5⟩, e.sub ⟨rfl, rfl, trivial⟩, hs⟩
         ··refine At.condT rfl (nt (bn e8)) ?_
           refine At.skip ?_; refine At.ibn ?_; refine At.ibn ?_; refine At.drop .z ?_; have j := bnx hf_ j; exact fun a w e hs => ⟨b6, (a3.1, p, u, G, a3.2.1, b8, p.length, U, V, u.length, Z, a1, k1, a3.2.1.length, k2), b7, ⟨j, rfl, rfl, a4, rfl, a5⟩, e.sub ⟨rfl, rfl, trivial⟩, hs⟩
     ··refine At.condF rfl (bn e6) ?_
       refine At.exit ?_; refine At.the ?_; refine At.the ?_; refine At.f8 (At.f8 (At.f8 (At.f8 (At.f8 (At.f8 (At.f8 (At.f7 ?_))))))); refine At.f8 ?_; exact fun a w e hs => h1 (e5, p, u, G, b4, b5, p.length, U, V, u.length, Z, a1, p5, b4.length, p7) ⟨(bdn j h0), rfl, rfl, h6, rfl, h7⟩ a w (e.sub ⟨rfl, rfl, trivial⟩) hs
 ··refine At.condT rfl (nt (bn d3)) ?_
   refine At.seq (At.region ?_); refine At.y (Y.build (is := []) (xo := []) (vs := []) (cs := [i6 0, .slice none 0 0, .slice none 0 0, .slice none 0 0]) rfl rfl rfl rfl rfl rfl) rfl rfl rfl ?_; refine At.run 1 rfl ?_; refine At.store rfl rfl rfl rfl (.s (.s .z)) rfl rfl rfl (.c (.c (.c (.c .n)))) ?_; refine At.run 1 rfl (nT (At.ret (At.thr ?_))); refine At.nilRow Fl.bs 9 ?_; refine At.nilRow Q0.fl 35 ?_; refine At.nilGrow Q1.ow 37 ?_; refine At.resM (.inl rfl) rfl (RV.cell rfl rfl (.s (.s (.s .z))) rfl rfl rfl (RV.tmp rfl RV.nil)) ?_; refine At.drop (.s (.s (.s .z))) (At.drop (.s (.s (.s .z))) (At.f3 (At.f1 (At.f2 (At.f3 ?_))))); cases bret j; exact fun a w e hs => ⟨_, ⟨g6, 0, none, 0, 0, none, 0, 0, none, 0, rfl, rfl, rfl, rfl, rfl⟩, hs⟩

end Go.Bw
namespace Go.Bw
open Go Go.RowKit Go.Proofs
variable {R : Res} {Fr : List HProp}
noncomputable def Q79.f  : Option Bool :=
 (Q26.f ([115, 116, 97, 116, 101, 115, 32, 52, 10, 101, 100, 103, 101, 32, 48, 32, 97, 32, 49, 10, 101, 100, 103, 101, 32, 48, 32, 97, 32, 50, 10, 101, 100, 103, 101, 32, 49, 32, 97, 32, 51, 10, 101, 100, 103, 101, 32, 50, 32, 97, 32, 51, 10, 109, 97, 114, 107, 32, 112, 32, 51, 10] : Bs)).bind fun q =>
 (Q16.f q.2.2.2.2 q.2.1 q.2.2.1 q.2.2.2.1).bind fun p =>
 jn (
 if q.1.isNone = true then
 some (.inl (decide ((p.2.2.2.1.length : Int) = 4)))
 else
 some (.inl false)) (fun (u : Bool) =>
 jn (
 if u = true then
 if (0 : Int) ≤ 2 ∧ 2 < (p.2.2.2.1.length : Int) then
 some (.inl (decide (gt p.2.2.2.1 2 = 1)))
 else none
 else
 some (.inl false)) (fun (B : Bool) =>
 jn (
 if B = true then
 if (0 : Int) ≤ 3 ∧ 3 < (p.2.2.2.1.length : Int) then
 some (.inl (decide (gt p.2.2.2.1 3 = 2)))
 else none
 else
 some (.inl false)) (fun (D : Bool) =>
 jn (
 if D = true then
 some (.inl (decide (p.2.2.2.2 = 3)))
 else
 some (.inl false)) (fun (E : Bool) =>
 jn (
 if E = true then
 some (.inl (decide ((p.2.1.length : Int) = 2)))
 else
 some (.inl false)) (fun (G : Bool) =>
 some G)))))
theorem Q79.callee : Callee Tryz.prog 12 := ⟨_, Tryz.func12, by kernel_rfl, by kernel_rfl⟩
theorem Q79.spec (hg0 : RdS (Fl.int .u8).rep R.heap (some ⟨0, 0, none⟩) Tryz.gtab0) {r : Bool} (j : Q79.f  = some r) :
 Spec Tryz.prog 12 [] R (Fr) (fun v l' => v = .bool r ∧ Fr = l') := by
 refine Spec.of Tryz.func12 rfl rfl ?_; unfold Q79.f at j; have j := brun j; refine sR 1 rfl (nT (At.seq (At.region ?_))); obtain ⟨u, c9, j⟩ := bbind j; refine At.call rfl Q26.callee rfl rfl rfl (Q26.spec c9) ?_; rintro _ _ ⟨L, g1, d0, d1, g2, d2, d3, g3, d4, d5, rfl, rfl, rfl, rfl, rfl⟩; refine At.run 3 rfl ?_; refine At.alloc rfl rfl rfl (fun d6 => ?_); refine At.store rfl rfl rfl rfl .z rfl rfl rfl (.c (.c (.c (.c .n)))) ?_; refine At.run 1 rfl (nT (At.seq (At.region (At.y (Y.load rfl rfl .z rfl rfl rfl) rfl rfl rfl ?_)))); refine At.freeze (.s .z) fun g4 d7 d8 d9 e0 e1 => ?_; refine At.freeze (.s .z) fun g5 e2 e3 e4 b5 e5 => ?_; refine At.freezeGrow (.s .z) fun g6 e6 e7 e8 a3 e9 => ?_; obtain ⟨p, f0, j⟩ := bbind j; refine At.call rfl Q16.callee rfl rfl rfl (Q16.spec (RdS.mono (b5.trans a3) d7) d8 d9 (RdS.mono a3 e2) e3 e4 e6 e7 e8 (RdS.mono ((e0.trans b5).trans a3) hg0) f0) ?_; rintro _ _ ⟨g7, B, D, g8, E, G, g9, I, J, h0, a4, a5, rfl, rfl, rfl, rfl, rfl, rfl⟩; refine At.run 3 rfl ?_; refine At.alloc rfl rfl rfl (fun N => ?_); refine At.store rfl rfl rfl rfl .z rfl rfl rfl (.c (.c (.c (.c .n)))) ?_; refine At.run 1 rfl (nT (sR 1 rfl ?_)); refine At.y (Y.eqOptI (.s (.s (.s (.s (.s (.s .z)))))) rfl rfl rfl) rfl rfl rfl ?_; refine At.run 1 rfl ?_; obtain ⟨f1, f2, h1, j⟩ := bjoin j; let T1 : HProp := pc N [i6 p.2.2.2.2, .slice I p.2.2.1.length J, .slice E p.2.1.length G, .slice B p.1.length D] 26; let T2 : HProp := row (Fl.int .i64) 3 a4 p.2.2.2.1.length a5 p.2.2.2.1; let T3 : HProp := pc d6 [i6 u.2.2.2.2, .slice d0 u.2.1.length d1, .slice d2 u.2.2.1.length d3, .slice d4 u.2.2.2.1.length d5] 26; refine At.joinO 4 (X := Bool) (fun O => [(3, bp N), (4, .slice a4 p.2.2.2.1.length a5), (20, .bool O)]) (fun O => T1 :: row Fl.bs 9 I p.2.2.1.length J p.2.2.1 :: row Q0.fl 35 E p.2.1.length G p.2.1 :: grow Q1.ow 37 B p.1.length D p.1 :: T2 :: T3 :: optb (Ow.fl Q3.fl) 58 L u.1 :: Fr) (fun O => f1 (.inl O) = some r) ?_ (fun b6 => ?_)
 ·rintro O j; have j := (f2 _).symm.trans j
  ·refine At.run 1 rfl ?_; obtain ⟨f3, f4, h2, j⟩ := bjoin j; refine At.joinO 5 (X := Bool) (fun U => [(3, bp N), (4, .slice a4 p.2.2.2.1.length a5), (26, .bool U)]) (fun U => T1 :: row Fl.bs 9 I p.2.2.1.length J p.2.2.1 :: row Q0.fl 35 E p.2.1.length G p.2.1 :: grow Q1.ow 37 B p.1.length D p.1 :: T2 :: T3 :: optb (Ow.fl Q3.fl) 58 L u.1 :: Fr) (fun U => f3 (.inl U) = some r) ?_ (fun b7 => ?_)
   ·rintro U j; have j := (f4 _).symm.trans j
    ·refine At.run 1 rfl ?_; obtain ⟨f5, f6, h3, j⟩ := bjoin j; refine At.joinO 5 (X := Bool) (fun V => [(3, bp N), (32, .bool V)]) (fun V => T1 :: row Fl.bs 9 I p.2.2.1.length J p.2.2.1 :: row Q0.fl 35 E p.2.1.length G p.2.1 :: grow Q1.ow 37 B p.1.length D p.1 :: T2 :: T3 :: optb (Ow.fl Q3.fl) 58 L u.1 :: Fr) (fun V => f5 (.inl V) = some r) ?_ (fun b8 => ?_)
     ·rintro V j; have j := (f6 _).symm.trans j
      ·refine At.run 1 rfl ?_; obtain ⟨f7, f8, h4, j⟩ := bjoin j; refine At.joinO 4 (X := Bool) (fun Z => [(3, bp N), (37, .bool Z)]) (fun Z => T1 :: row Fl.bs 9 I p.2.2.1.length J p.2.2.1 :: row Q0.fl 35 E p.2.1.length G p.2.1 :: grow Q1.ow 37 B p.1.length D p.1 :: T2 :: T3 :: optb (Ow.fl Q3.fl) 58 L u.1 :: Fr) (fun Z => f7 (.inl Z) = some r) ?_ (fun b9 => ?_)
       ·rintro Z j; have j := (f8 _).symm.trans j
        ·refine At.run 1 rfl ?_; obtain ⟨f9, g0, h5, j⟩ := bjoin j; refine At.joinO 5 (X := Bool) (fun a0 => [(43, .bool a0)]) (fun a0 => T1 :: row Fl.bs 9 I p.2.2.1.length J p.2.2.1 :: row Q0.fl 35 E p.2.1.length G p.2.1 :: grow Q1.ow 37 B p.1.length D p.1 :: T2 :: T3 :: optb (Ow.fl Q3.fl) 58 L u.1 :: Fr) (fun a0 => f9 (.inl a0) = some r) ?_ (fun c8 => ?_)
         ·rintro a0 j; have j := (g0 _).symm.trans j
          ·refine At.run 1 rfl (nT (At.ret ?_)); refine At.thaw e9 ?_; refine At.thaw e5 ?_; refine At.thaw e1 ?_; refine At.drop .z (At.drop .z (At.drop .z (At.drop .z (At.drop .z (At.drop .z (At.drop .z (At.drop .z ?_))))))); refine At.drop .z (At.drop .z ?_); cases bret j; exact At.res (.inl rfl) rfl rfl ⟨rfl, rfl⟩
         ··rcases bite j with ⟨a6, j⟩ | ⟨a6, j⟩
           ··refine At.know (t := 38) rfl a6 ?_
             refine At.run 1 rfl (At.y (Y.load rfl rfl .z rfl rfl rfl) rfl rfl rfl (At.run 3 rfl ?_)); exact At.of (c8 (decide ((p.2.1.length : Int) = 2)) j) ⟨rfl, trivial⟩
           ··refine At.know (t := 38) rfl (bn a6) ?_
             refine At.run 5 rfl ?_; exact At.of (c8 false j) ⟨rfl, trivial⟩
       ··rcases bite j with ⟨a7, j⟩ | ⟨a7, j⟩
         ··refine At.know (t := 33) rfl a7 ?_
           refine At.run 1 rfl (At.y (Y.load rfl rfl .z rfl rfl rfl) rfl rfl rfl (At.run 2 rfl ?_)); exact At.of (b9 (decide (p.2.2.2.2 = 3)) j) ⟨rfl, rfl, trivial⟩
         ··refine At.know (t := 33) rfl (bn a7) ?_
           refine At.run 4 rfl ?_; exact At.of (b9 false j) ⟨rfl, rfl, trivial⟩
     ··rcases bite j with ⟨a8, j⟩ | ⟨a8, j⟩
       ··refine At.know (t := 27) rfl a8 ?_
         refine At.run 1 rfl ?_; obtain ⟨a1, j⟩ := bnone j; refine At.y (Y.ix (.s (.s (.s (.s .z)))) rfl rfl rfl rfl rfl rfl a1.1 a1.2) rfl rfl rfl ?_; refine At.y (Y.ld (.s (.s (.s (.s .z)))) (q := 0) rfl rfl a1.1 a1.2 rfl rfl rfl) rfl rfl rfl ?_; refine At.run 2 rfl ?_; exact At.of (b8 (decide (gt p.2.2.2.1 3 = 2)) j) ⟨rfl, rfl, trivial⟩
       ··refine At.know (t := 27) rfl (bn a8) ?_
         refine At.run 5 rfl ?_; exact At.of (b8 false j) ⟨rfl, rfl, trivial⟩
   ··rcases bite j with ⟨a9, j⟩ | ⟨a9, j⟩
     ··refine At.know (t := 21) rfl a9 ?_
       refine At.run 1 rfl ?_; obtain ⟨a2, j⟩ := bnone j; refine At.y (Y.ix (.s (.s (.s (.s .z)))) rfl rfl rfl rfl rfl rfl a2.1 a2.2) rfl rfl rfl ?_; refine At.y (Y.ld (.s (.s (.s (.s .z)))) (q := 0) rfl rfl a2.1 a2.2 rfl rfl rfl) rfl rfl rfl ?_; refine At.run 2 rfl ?_; exact At.of (b7 (decide (gt p.2.2.2.1 2 = 1)) j) ⟨rfl, rfl, rfl, trivial⟩
     ··refine At.know (t := 21) rfl (bn a9) ?_
       refine At.run 5 rfl ?_; exact At.of (b7 false j) ⟨rfl, rfl, rfl, trivial⟩
 ··rcases bite j with ⟨b4, j⟩ | ⟨b4, j⟩
   ··refine At.know (t := 16) rfl b4 ?_
     refine At.run 4 rfl ?_; exact At.of (b6 (decide ((p.2.2.2.1.length : Int) = 4)) j) ⟨rfl, rfl, rfl, trivial⟩
   ··refine At.know (t := 16) rfl (bn b4) ?_
     refine At.run 4 rfl ?_; exact At.of (b6 false j) ⟨rfl, rfl, rfl, trivial⟩

end Go.Bw
namespace Go.Bw
open Go Go.RowKit
section
variable {P : Program} [Tys P] {os : List Oper} {Q : Exit → Act → World → Prop} {rest : List Oper} {n : Nat} {ds : List Deferred} {R R' : Res} {env : List (Nat × Value)} {l l' : List HProp}
variable {d ty : Nat} {pos : String} {af : Array Edge} {g : Option (Nat × Bool)} {α : Type} [Inhabited α] {F : Fl α} {T : Rep α} {e ei t : Nat} {A : Option Addr} {c m : Nat} {xss : List (List α)} {ys : List α} {K : Act → World → Prop}
theorem At.openHole (f : Frt l (rows F ei e A m c xss) l') {i : Int} (h0 : 0 ≤ i) (h1 : i < (m : Int))
 (h : ∀ B cb, At n ds R env (hole F ei e A m c xss i B cb :: row F ei B (gt xss i).length cb (gt xss i) :: l') K) : At n ds R env l K := fun a w e0 hs => by
 have hs1 := hs.frt f
 obtain ⟨bs, hb, h2⟩ := sat.rows.1 hs1
 have hm : xss.length = m := let ⟨_, o, _⟩ := hs1.head; (Q145 o).1
 subst hm
 have hlt : i.toNat < bs.length := by omega
 have hbi : bs[i.toNat]? = some bs[i.toNat] := List.getElem?_eq_getElem hlt
 have hgx := Q40 h0 h1
 refine h bs[i.toNat].1 bs[i.toNat].2 a w e0 (sat.hole.2 ⟨bs, ⟨hb, hbi⟩, ?_⟩)
 have fr : Frt (own e 1 A xss.length c (hdrs bs xss) :: (inns F ei bs xss ++ l')) (row F ei bs[i.toNat].1 (gt xss i).length bs[i.toNat].2 (gt xss i)) (own e 1 A xss.length c (hdrs bs xss) :: ((inns F ei bs xss).eraseIdx i.toNat ++ l')) := .s (Q101 (Q218 hbi hgx))
 have fr2 : Frt (own e 1 A xss.length c (hdrs bs xss) :: ((inns F ei bs xss).eraseIdx i.toNat ++ row F ei bs[i.toNat].1 (gt xss i).length bs[i.toNat].2 (gt xss i) :: l')) (row F ei bs[i.toNat].1 (gt xss i).length bs[i.toNat].2 (gt xss i)) (own e 1 A xss.length c (hdrs bs xss) :: ((inns F ei bs xss).eraseIdx i.toNat ++ l')) := .s (Q124 .z)
 exact (h2.frt fr).back fr2
theorem Y.ldHole {B : Option Addr} {cb : Nat} {i : Int} (f : Frt l (hole F ei e A m c xss i B cb) l') {x : Operand} {ii : TI} {dd : Option Nat} (hi : ti P t = some ii) (hx : ev env x = some (elp A (i.toNat * 1))) (hz : ii.size = 1) (ha : agg ii.k = false) (h0 : 0 ≤ i) (h1 : i < (m : Int)) :
 Y P n ds R env l ⟨dd, .load t x, ty, pos, af, g⟩ (.slice B (gt xss i).length cb) := fun a w e0 hs => by
 obtain ⟨bs, ⟨hb, hbi⟩, h2⟩ := sat.hole.1 (hs.frt f)
 have hm : xss.length = m := by
  obtain ⟨_, o, _⟩ := h2.head
  have := o.1
  rwa [Q134 hb, Nat.mul_one] at this
 subst hm
 have hgx := Q40 h0 h1
 have hval : gt (hdv bs xss) i = ⟨.slice B (gt xss i).length cb, rfl⟩ := by
  have := Q40 (xs := hdv bs xss) h0 (by rw [Q97 hb]; exact h1)
  unfold hdv at this
  rw [List.getElem?_zipWith, hbi, hgx] at this
  exact (Option.some.inj this).symm
 rw [Q133, ← Q97 hb] at h2
 refine Y.ldOwn (F := Fl.val) (q := 0) (dd := dd) .z hi hx h0 (by rw [Q97 hb]; exact h1) (by rw [hz]; rfl) (by rw [hz]; rfl) ?_ a w e0 h2
 rw [hval]
 simp [partOf, hi, ha, Fl.val]
theorem hole_rows {B : Option Addr} {cb : Nat} {i : Int} {h : PHeap} (h0 : 0 ≤ i) (h1 : i < (xss.length : Int)) (o : stars [hole F ei e A m c xss i B cb, row F ei B (gt xss i).length cb (gt xss i)] h) : rows F ei e A m c xss h := by
 obtain ⟨p1, p2, ⟨bs, ⟨hb, hbi⟩, q1⟩, q2, q3, q4, q5⟩ := o
 have s1 := Q84.2 ⟨p1, p2, q1, q2, q3, q4, q5⟩
 have hgx := Q40 h0 h1
 have fr : Frt (own e 1 A m c (hdrs bs xss) :: (inns F ei bs xss).eraseIdx i.toNat ++ [row F ei B (gt xss i).length cb (gt xss i)]) (row F ei B (gt xss i).length cb (gt xss i)) (own e 1 A m c (hdrs bs xss) :: (inns F ei bs xss).eraseIdx i.toNat ++ []) := Q124 .z
 have fr2 : Frt (own e 1 A m c (hdrs bs xss) :: (inns F ei bs xss ++ [])) (row F ei B (gt xss i).length cb (gt xss i)) (own e 1 A m c (hdrs bs xss) :: ((inns F ei bs xss).eraseIdx i.toNat ++ [])) := .s (Q101 (Q218 hbi hgx))
 have s3 := fr2.back (Q168 fr s1)
 rw [List.append_nil] at s3
 exact ⟨bs, hb, s3⟩
theorem At.freezeHole {B : Option Addr} {cb : Nat} {i : Int} {l1 : List HProp} (f : Frt l (hole F ei e A m c xss i B cb) l1) (f2 : Frt l1 (row F ei B (gt xss i).length cb (gt xss i)) l') (h0 : 0 ≤ i) (h1 : i < (m : Int))
 (k : ∀ R', RdS F.rep.slice R'.heap A xss → xss.length = m → m ≤ c → Sub R.heap R'.heap → (∀ l w, sat R' l w → sat R (hole F ei e A m c xss i B cb :: row F ei B (gt xss i).length cb (gt xss i) :: l) w) → At n ds R' env l' K) : At n ds R env l K := fun a w e0 hs => by
 have hs1 := hs.frt f
 have hm : xss.length = m := by
  obtain ⟨bs, ⟨hb, _⟩, h2⟩ := sat.hole.1 hs1
  obtain ⟨_, o, _⟩ := h2.head
  have := o.1
  rwa [Q134 hb, Nat.mul_one] at this
 have fr : Frt (hole F ei e A m c xss i B cb :: l1) (row F ei B (gt xss i).length cb (gt xss i)) (hole F ei e A m c xss i B cb :: l') := .s f2
 have fr2 : Frt (hole F ei e A m c xss i B cb :: row F ei B (gt xss i).length cb (gt xss i) :: l') (row F ei B (gt xss i).length cb (gt xss i)) (hole F ei e A m c xss i B cb :: l') := .s .z
 have hs2 : sat R ([hole F ei e A m c xss i B cb, row F ei B (gt xss i).length cb (gt xss i)] ++ l') w := (hs1.frt fr).back fr2
 obtain ⟨h1', o, dj, hs'⟩ := (sat.flat.2 hs2).freeze
 have o2 := hole_rows h0 (by omega) o
 exact k (R.add h1') (rows_rd o2 (Q75 _ _)) hm (Q145 o2).2 (Q74 dj) (fun l w h => sat.flat.1 (h.thaw o dj)) a w e0 hs'
theorem At.thaw2 {C D : HProp} (th : ∀ l w, sat R' l w → sat R (C :: D :: l) w) (k : At n ds R env (C :: D :: l) K) : At n ds R' env l K := fun a w e0 hs => k a w e0 (th _ _ hs)
theorem At.closeHole {B : Option Addr} {cb : Nat} {i : Int} {l1 : List HProp} (f : Frt l (hole F ei e A m c xss i B cb) l1) (f2 : Frt l1 (row F ei B (gt xss i).length cb ys) l') (h0 : 0 ≤ i) (h1 : i < (m : Int))
 (h : At n ds R env (rows F ei e A m c (Bw.st xss i ys) :: l') K) : At n ds R env l K := fun a w e0 hs => by
 have hs1 := hs.frt f
 have hk : ys.length = (gt xss i).length := let ⟨_, o, _⟩ := (hs1.drop.frt f2).head; Q68 o
 obtain ⟨bs, ⟨hb, hbi⟩, h2⟩ := sat.hole.1 hs1
 have hm : xss.length = m := by
  obtain ⟨_, o, _⟩ := h2.head
  have := o.1
  rwa [Q134 hb, Nat.mul_one] at this
 subst hm
 have hgx := Q40 h0 h1
 have hset : bs.set i.toNat (B, cb) = bs := by
  obtain ⟨hlt, he⟩ := List.getElem?_eq_some_iff.1 hbi
  rw [← he]; simp
 have hh : hdrs bs (Bw.st xss i ys) = hdrs bs xss := by
  unfold hdrs Bw.st
  refine List.ext_getElem? fun q => ?_
  rw [List.getElem?_zipWith, List.getElem?_zipWith, List.getElem?_set]
  by_cases hq : i.toNat = q
  ·subst hq
   rw [if_pos rfl, if_pos (by omega), hgx, hbi]
   simp [hk]
  ·rw [if_neg hq]
 have hin : inns F ei bs (Bw.st xss i ys) = (inns F ei bs xss).set i.toNat (row F ei B ys.length cb ys) := by
  have := Q205 (F := F) (ei := ei) (b := (B, cb)) (xs := ys) (bs := bs) (xss := xss) (i := i.toNat)
  rwa [hset] at this
 refine h a w e0 (sat.rows.2 ⟨bs, by simp [Bw.st, hb], ?_⟩)
 rw [hh, hin]
 have fr : Frt (own e 1 A xss.length c (hdrs bs xss) :: ((inns F ei bs xss).eraseIdx i.toNat ++ l1)) (row F ei B ys.length cb ys) (own e 1 A xss.length c (hdrs bs xss) :: ((inns F ei bs xss).eraseIdx i.toNat ++ l')) := .s (Q124 (by rw [hk]; exact f2))
 have hil : (inns F ei bs xss).length = xss.length := by simp [inns, hb]
 have fr3 : Frt ((inns F ei bs xss).set i.toNat (row F ei B ys.length cb ys) ++ l') (row F ei B ys.length cb ys) ((inns F ei bs xss).eraseIdx i.toNat ++ l') := by
  have h5 := Q101 (l := l') (L := (inns F ei bs xss).set i.toNat (row F ei B ys.length cb ys)) (i := i.toNat) (c := row F ei B ys.length cb ys) (by
   rw [List.getElem?_set, if_pos rfl, if_pos (by rw [hil]; omega)])
  rwa [Q158] at h5
 exact (h2.frt fr).back (.s fr3)
end
end Go.Bw
