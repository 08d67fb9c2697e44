/- DenoteMore, part 3: walks and plain laws. Conditions: none. -/
import Derived.Test.YtfbjkcnefhgodaaGreatDoorProg
import Derived.Deep.QuietTactic
import Derived.Maps.RangeRun
import Derived.Defers
import Derived.Recover
import Derived.Laws.CopyRow
import Derived.Test.YtfbjkcnefhgodaaGreatDoorBwDenoteMoreB
set_option linter.unusedVariables false
set_option linter.unusedSimpArgs false
set_option linter.unusedSectionVars false
set_option maxRecDepth 100000
set_option maxHeartbeats 2000000
namespace Go.Bw
open Go Go.RowKit Go.Proofs
variable {R : Res} {Fr : List HProp} {b0 n0_0 c0_0 n0_3 c0_3 n0_4 c0_4 n0_5 c0_5 n0_6 c0_6 b0_7 n0 c0 n0_1 c0_1 b1 b1_c0 : Nat} {A0_0 A0_3 A0_4 A0_5 A0_6 A0 A0_1 : Option Addr}
structure Q0 where
 Kind : Int
 At : Int
 Text : Bs
 Number : Int
deriving Inhabited, DecidableEq
def Q0.fl : Fl Q0 := ⟨4, fun x => [i6 x.Kind, i6 x.At, .string ⟨(x.Text).toArray⟩, i6 x.Number], fun _ => rfl, fun x u hu => by simp at hu; rcases hu with rfl | rfl | rfl | rfl <;> rfl, by decide⟩
structure Q5 where
 At : Int
 Err : Int
deriving Inhabited, DecidableEq
def Q5.fl : Fl Q5 := ⟨2, fun x => [i6 x.At, i6 x.Err], fun _ => rfl, fun x u hu => by simp at hu; rcases hu with rfl | rfl <;> rfl, by decide⟩
structure Q9 where
 from_ : Int
 action : Bs
 to : Int
deriving Inhabited, DecidableEq
def Q9.fl : Fl Q9 := ⟨3, fun x => [i6 x.from_, .string ⟨(x.action).toArray⟩, i6 x.to], fun _ => rfl, fun x u hu => by simp at hu; rcases hu with rfl | rfl | rfl <;> rfl, by decide⟩
theorem bytealg_IndexByteString.ext : ExtOk Tryz.prog 168 Extern.BytealgIndexByte.indexByte := ⟨_, Tryz.func168, by kernel_rfl, by kernel_rfl, by kernel_rfl, by kernel_rfl⟩

noncomputable def Q152.f (a0 : Bs) (a1 : Int) : Option Int :=
 some (Lib.indexByte a0 a1.toNat.toUInt8)
theorem Q152.callee : Callee Tryz.prog 143 := ⟨_, Tryz.func143, by kernel_rfl, by kernel_rfl⟩
theorem Q152.spec {a0 : Bs} {a1 : Int} {r : Int} (j : Q152.f a0 a1 = some r) :
 Spec Tryz.prog 143 [.string ⟨(a0).toArray⟩, .int .u8 a1] R (Fr) (fun v l' => v = i6 r ∧ Fr = l') := by
 refine Spec.of Tryz.func143 rfl rfl ?_; unfold Q152.f at j; have j := brun j; refine sR 1 rfl (nT (sR 2 rfl ?_)); refine At.y (Y.ext bytealg_IndexByteString.ext rfl rfl (fun w => Q331 _ _ w)) rfl rfl rfl ?_; refine At.run 1 rfl (nT (At.ret ?_)); cases bret j; exact At.res (.inl rfl) rfl rfl ⟨rfl, rfl⟩

noncomputable def Q153.f (a0 : Bs) (a1 : Int) : Option Int :=
 (Q152.f a0 a1).bind fun p =>
 some p
theorem Q153.callee : Callee Tryz.prog 108 := ⟨_, Tryz.func108, by kernel_rfl, by kernel_rfl⟩
theorem Q153.spec {a0 : Bs} {a1 : Int} {r : Int} (j : Q153.f a0 a1 = some r) :
 Spec Tryz.prog 108 [.string ⟨(a0).toArray⟩, .int .u8 a1] R (Fr) (fun v l' => v = i6 r ∧ Fr = l') := by
 refine Spec.of Tryz.func108 rfl rfl ?_; unfold Q153.f at j; have j := brun j; refine sR 1 rfl (nT (sR 2 rfl ?_)); obtain ⟨q, p, j⟩ := bbind j; refine At.call rfl Q152.callee rfl rfl rfl (Q152.spec p) ?_; rintro _ _ ⟨rfl, rfl⟩; refine At.run 1 rfl (nT (At.ret ?_)); cases bret j; exact At.res (.inl rfl) rfl rfl ⟨rfl, rfl⟩

noncomputable def Q146.f (a0 : Int) : Option Int :=
 if a0 = 10 then
 some 1
 else
 jn (
 if 97 ≤ a0 then
 some (.inl (decide (a0 ≤ 122)))
 else
 some (.inl false)) (fun (p : Bool) =>
 if p = true then
 some 2
 else
 jn (
 if 65 ≤ a0 then
 some (.inl (decide (a0 ≤ 90)))
 else
 some (.inl false)) (fun (q : Bool) =>
 if q = true then
 some 3
 else
 jn (
 if 48 ≤ a0 then
 some (.inl (decide (a0 ≤ 57)))
 else
 some (.inl false)) (fun (u : Bool) =>
 if u = true then
 some 4
 else
 jn (
 if 32 < a0 then
 some (.inl (decide (a0 < 127)))
 else
 some (.inl false)) (fun (D : Bool) =>
 jn (
 if D = true then
 some (.inl (!(decide (a0 = 95))))
 else
 some (.inl false)) (fun (G : Bool) =>
 if G = true then
 some 5
 else
 some 0)))))
theorem Q146.callee : Callee Tryz.prog 144 := ⟨_, Tryz.func144, by kernel_rfl, by kernel_rfl⟩
theorem Q146.spec {a0 : Int} {r : Int} (j : Q146.f a0 = some r) :
 Spec Tryz.prog 144 [.int .u8 a0] R (Fr) (fun v l' => v = i6 r ∧ Fr = l') := by
 refine Spec.of Tryz.func144 rfl rfl ?_; unfold Q146.f at j; have j := brun j; refine sR 1 rfl (nT (At.seq ?_)); refine At.block ?_; refine sR 3 rfl (nT ?_); rcases bite j with ⟨I, j⟩ | ⟨I, j⟩
 ··refine At.condT rfl (decide_eq_true I) ?_
   refine sR 1 rfl (nT (At.ret ?_)); refine At.ibr ?_; refine At.thr ?_; cases bret j; exact At.res (.inl rfl) rfl rfl ⟨rfl, rfl⟩
 ··refine At.condF rfl (decide_eq_false I) ?_
   refine sR 3 rfl ?_; obtain ⟨a8, a9, c4, j⟩ := bjoin j; refine At.joinO 3 (X := Bool) (fun p => [(0, .int .u8 a0), (12, .bool p)]) (fun p => Fr) (fun p => a8 (.inl p) = some r) ?_ (fun a3 => ?_)
   ·rintro p j; have j := (a9 _).symm.trans j
    ·refine At.run 1 rfl (nT ?_); rcases bite j with ⟨J, j⟩ | ⟨J, j⟩
     ··refine At.condT rfl J ?_
       refine sR 1 rfl (nT (At.ret ?_)); refine At.ibr ?_; refine At.thr ?_; cases bret j; exact At.res (.inl rfl) rfl rfl ⟨rfl, rfl⟩
     ··refine At.condF rfl (bn J) ?_
       refine sR 3 rfl ?_; obtain ⟨b2, b3, c5, j⟩ := bjoin j; refine At.joinO 3 (X := Bool) (fun q => [(0, .int .u8 a0), (19, .bool q)]) (fun q => Fr) (fun q => b2 (.inl q) = some r) ?_ (fun a4 => ?_)
       ·rintro q j; have j := (b3 _).symm.trans j
        ·refine At.run 1 rfl (nT ?_); rcases bite j with ⟨L, j⟩ | ⟨L, j⟩
         ··refine At.condT rfl L ?_
           refine sR 1 rfl (nT (At.ret ?_)); refine At.ibr ?_; refine At.thr ?_; cases bret j; exact At.res (.inl rfl) rfl rfl ⟨rfl, rfl⟩
         ··refine At.condF rfl (bn L) ?_
           refine sR 3 rfl ?_; obtain ⟨b4, b5, c6, j⟩ := bjoin j; refine At.joinO 3 (X := Bool) (fun u => [(0, .int .u8 a0), (26, .bool u)]) (fun u => Fr) (fun u => b4 (.inl u) = some r) ?_ (fun a5 => ?_)
           ·rintro u j; have j := (b5 _).symm.trans j
            ·refine At.run 1 rfl (nT ?_); rcases bite j with ⟨M, j⟩ | ⟨M, j⟩
             ··refine At.condT rfl M ?_
               refine sR 1 rfl (nT (At.ret ?_)); refine At.ibr ?_; refine At.thr ?_; cases bret j; exact At.res (.inl rfl) rfl rfl ⟨rfl, rfl⟩
             ··refine At.condF rfl (bn M) ?_
               refine sR 3 rfl ?_; obtain ⟨b6, b7, c7, j⟩ := bjoin j; refine At.joinO 3 (X := Bool) (fun D => [(0, .int .u8 a0), (33, .bool D)]) (fun D => Fr) (fun D => b6 (.inl D) = some r) ?_ (fun a6 => ?_)
               ·rintro D j; have j := (b7 _).symm.trans j
                ·refine At.run 1 rfl ?_; obtain ⟨b8, b9, c8, j⟩ := bjoin j; refine At.joinO 3 (X := Bool) (fun G => [(37, .bool G)]) (fun G => Fr) (fun G => b8 (.inl G) = some r) ?_ (fun a7 => ?_)
                 ·rintro G j; have j := (b9 _).symm.trans j
                  ·refine At.run 1 rfl (nT ?_); rcases bite j with ⟨O, j⟩ | ⟨O, j⟩
                   ··refine At.condT rfl O ?_
                     refine sR 1 rfl (nT (At.ret ?_)); refine At.ibr ?_; refine At.thr ?_; cases bret j; exact At.res (.inl rfl) rfl rfl ⟨rfl, rfl⟩
                   ··refine At.condF rfl (bn O) ?_
                     refine At.skip ?_; refine At.ibn ?_; refine At.thn (sR 1 rfl (nT (At.ret ?_))); cases bret j; exact At.res (.inl rfl) rfl rfl ⟨rfl, rfl⟩
                 ··rcases bite j with ⟨U, j⟩ | ⟨U, j⟩
                   ··refine At.know (t := 34) rfl U ?_
                     refine At.run 3 rfl ?_; exact At.of (a7 (!(decide (a0 = 95))) j) ⟨rfl, trivial⟩
                   ··refine At.know (t := 34) rfl (bn U) ?_
                     refine At.run 3 rfl ?_; exact At.of (a7 false j) ⟨rfl, trivial⟩
               ··rcases bite j with ⟨V, j⟩ | ⟨V, j⟩
                 ··refine At.know (t := 30) rfl (decide_eq_true V) ?_
                   refine At.run 3 rfl ?_; exact At.of (a6 (decide (a0 < 127)) j) ⟨rfl, rfl, trivial⟩
                 ··refine At.know (t := 30) rfl (decide_eq_false V) ?_
                   refine At.run 3 rfl ?_; exact At.of (a6 false j) ⟨rfl, rfl, trivial⟩
           ··rcases bite j with ⟨Z, j⟩ | ⟨Z, j⟩
             ··refine At.know (t := 23) rfl (decide_eq_true Z) ?_
               refine At.run 3 rfl ?_; exact At.of (a5 (decide (a0 ≤ 57)) j) ⟨rfl, rfl, trivial⟩
             ··refine At.know (t := 23) rfl (decide_eq_false Z) ?_
               refine At.run 3 rfl ?_; exact At.of (a5 false j) ⟨rfl, rfl, trivial⟩
       ··rcases bite j with ⟨a1, j⟩ | ⟨a1, j⟩
         ··refine At.know (t := 16) rfl (decide_eq_true a1) ?_
           refine At.run 3 rfl ?_; exact At.of (a4 (decide (a0 ≤ 90)) j) ⟨rfl, rfl, trivial⟩
         ··refine At.know (t := 16) rfl (decide_eq_false a1) ?_
           refine At.run 3 rfl ?_; exact At.of (a4 false j) ⟨rfl, rfl, trivial⟩
   ··rcases bite j with ⟨a2, j⟩ | ⟨a2, j⟩
     ··refine At.know (t := 9) rfl (decide_eq_true a2) ?_
       refine At.run 3 rfl ?_; exact At.of (a3 (decide (a0 ≤ 122)) j) ⟨rfl, rfl, trivial⟩
     ··refine At.know (t := 9) rfl (decide_eq_false a2) ?_
       refine At.run 3 rfl ?_; exact At.of (a3 false j) ⟨rfl, rfl, trivial⟩

noncomputable def Q42.l0b (a1 : Bs) (p : Int) : Option ((Int) ⊕ ((Int) ⊕ ((Int) ⊕ (Int)))) :=
 jn (
 if p < (a1.length : Int) then
 if (0 : Int) ≤ p ∧ p < (a1.length : Int) then
 some (.inl (decide (48 ≤ bat a1 p)))
 else none
 else
 some (.inl false)) (fun (q : Bool) =>
 jn (
 if q = true then
 if (0 : Int) ≤ p ∧ p < (a1.length : Int) then
 some (.inl (decide (bat a1 p ≤ 57)))
 else none
 else
 some (.inl false)) (fun (u : Bool) =>
 if u = true then
 nx (IntKind.i64.wrap (p + 1))
 else
 dn (.inl p)))
noncomputable def Q42.l0 (a1 : Bs) (p : Int) : Option ((Int) ⊕ ((Int) ⊕ (Int))) := iter (fun t_ : Int => Q42.l0b a1 t_) p
noncomputable def Q42.l1b (a1 : Bs) (p : Int) : Option ((Int) ⊕ ((Int) ⊕ ((Int) ⊕ (Int)))) :=
 jn (
 if p < (a1.length : Int) then
 if (0 : Int) ≤ p ∧ p < (a1.length : Int) then
 jn (
 if bat a1 p = 95 then
 some (.inl (true, true))
 else
 jn (
 if 97 ≤ bat a1 p then
 some (.inl (true, decide (bat a1 p ≤ 122)))
 else
 some (.inl (false, false))) (fun (s_ : Bool × Bool) =>
 some (.inl (false, s_.2)))) (fun (s_ : Bool × Bool) =>
 jn (
 if s_.2 = true then
 some (.inl (true, true))
 else
 jn (
 if 65 ≤ bat a1 p then
 some (.inl (true, decide (bat a1 p ≤ 90)))
 else
 some (.inl (false, false))) (fun (s_ : Bool × Bool) =>
 some (.inl (false, s_.2)))) (fun (s_ : Bool × Bool) =>
 jn (
 if s_.2 = true then
 some (.inl (true, true))
 else
 jn (
 if 48 ≤ bat a1 p then
 some (.inl (true, decide (bat a1 p ≤ 57)))
 else
 some (.inl (false, false))) (fun (s_ : Bool × Bool) =>
 some (.inl (false, s_.2)))) (fun (s_ : Bool × Bool) =>
 some (.inl s_.2))))
 else none
 else
 some (.inl false)) (fun (q : Bool) =>
 if q = true then
 nx (IntKind.i64.wrap (p + 1))
 else
 dn (.inl p))
noncomputable def Q42.l1 (a1 : Bs) (p : Int) : Option ((Int) ⊕ ((Int) ⊕ (Int))) := iter (fun t_ : Int => Q42.l1b a1 t_) p
noncomputable def Q42.f (a0 : Int) (a1 : Bs) : Option Int :=
 jn (
 if a0 = 4 then
 jn (Q42.l0 a1 1) (fun (p : Int) =>
 some (.inl p))
 else
 jn (
 if a0 = 2 then
 some (.inl (decide (a0 = 2)))
 else
 some (.inl (decide (a0 = 3)))) (fun (q : Bool) =>
 if q = true then
 jn (Q42.l1 a1 1) (fun (u : Int) =>
 some (.inl u))
 else
 some (.inl 1))) (fun (D : Int) =>
 some D)
theorem Q42.callee : Callee Tryz.prog 145 := ⟨_, Tryz.func145, by kernel_rfl, by kernel_rfl⟩
theorem Q42.spec {a0 : Int} {a1 : Bs} {r : Int} (j : Q42.f a0 a1 = some r) :
 Spec Tryz.prog 145 [i6 a0, .string ⟨(a1).toArray⟩] R (Fr) (fun v l' => v = i6 r ∧ Fr = l') := by
 refine Spec.of Tryz.func145 rfl rfl ?_; unfold Q42.f at j; have j := brun j; refine sR 1 rfl (nT (sR 1 rfl ?_)); refine nT (At.seq (sR 1 rfl (nT ?_))); obtain ⟨e5, e6, k3, j⟩ := bjoin j; refine At.join (X := Int) (fun J => [(5, i6 J)]) (fun J => Fr) (fun J => e5 (.inl J) = some r) ?_ (fun a5 => ?_)
 ·rintro J j; have j := (e6 _).symm.trans j
  ·refine sR 2 rfl (nT (At.ret ?_)); cases bret j; exact At.res (.inl rfl) rfl rfl ⟨rfl, rfl⟩
 ··refine At.block ?_
   refine sR 2 rfl (nT ?_); rcases bite j with ⟨a6, j⟩ | ⟨a6, j⟩
   ··refine At.condT rfl (decide_eq_true a6) ?_
     refine At.block ?_; obtain ⟨e7, e8, k4, j⟩ := bjoin j; obtain ⟨a2, a7, e9⟩ := bsome j; clear j; unfold Q42.l0 at a7; obtain ⟨a8, L⟩ := Q18.1 a7; clear a7; refine At.loopJ (X := Int) (Y := Int) (e0 := 1) (fun u => [(1, .string ⟨(a1).toArray⟩), (5, i6 u)]) (fun u => Fr) (fun m_ => fun u => iterN (fun t_ : Int => Q42.l0b a1 t_) m_ u = some a2) a8 1 L (fun G => [(5, i6 G)]) (fun G => Fr) (fun G => e7 (.inl G) = some r) (fun a w e hs => ⟨e.sub ⟨rfl, rfl, trivial⟩, (by exact hs)⟩) ?_ (fun f0 => ?_)
     ·rintro G j; have j := (e8 _).symm.trans j
      ·refine At.ibx ?_; refine At.ibn ?_; refine At.thn ?_; exact fun a w e hs => a5 G j a w (e.sub ⟨rfl, trivial⟩) hs
     ·clear L a8; rintro a8 u L; obtain ⟨f1, f_, f2, hf_, j⟩ := bit L; clear L; have j : (Q42.l0b a1 u).bind _ = some a2 := j; unfold Q42.l0b at j
      ·refine At.seq (sR 5 rfl ?_); obtain ⟨f3, f4, k5, j⟩ := bjoin j; refine At.joinO 5 (X := Bool) (fun M => [(1, .string ⟨(a1).toArray⟩), (5, i6 u), (18, .bool M)]) (fun M => Fr) (fun M => f3 (.inl M) = some a2) ?_ (fun d0 => ?_)
       ·rintro M j; have j := (f4 _).symm.trans j
        ·refine At.run 1 rfl ?_; obtain ⟨f5, f6, k6, j⟩ := bjoin j; refine At.joinO 5 (X := Bool) (fun O => [(1, .string ⟨(a1).toArray⟩), (5, i6 u), (24, .bool O)]) (fun O => Fr) (fun O => f5 (.inl O) = some a2) ?_ (fun d1 => ?_)
         ·rintro O j; have j := (f6 _).symm.trans j
          ·refine nT ?_; rcases bite j with ⟨a9, j⟩ | ⟨a9, j⟩
           ··refine At.condT rfl a9 ?_
             refine At.skip (At.thn ?_); refine At.block ?_; refine At.region (At.run 3 rfl (At.nil ?_)); refine At.ibn ?_; have j := bnx hf_ j; exact fun a w e hs => ⟨f1, (IntKind.i64.wrap (u + 1)), f2, j, e.sub ⟨rfl, rfl, trivial⟩, hs⟩
           ··refine At.condF rfl (bn a9) ?_
             refine At.exit ?_; refine At.the ?_; refine At.the ?_; exact fun a w e hs => f0 u (bdn j e9) a w (e.sub ⟨rfl, trivial⟩) hs
         ··rcases bite j with ⟨b2, j⟩ | ⟨b2, j⟩
           ··refine At.know (t := 19) rfl b2 ?_
             refine At.run 2 rfl ?_; obtain ⟨d2, j⟩ := bnone j; refine At.y (Y.ixStr rfl rfl rfl rfl d2.1 d2.2) rfl rfl rfl (At.run 2 rfl ?_); exact At.of (d1 (decide (bat a1 u ≤ 57)) j) ⟨rfl, rfl, rfl, trivial⟩
           ··refine At.know (t := 19) rfl (bn b2) ?_
             refine At.run 5 rfl ?_; exact At.of (d1 false j) ⟨rfl, rfl, rfl, trivial⟩
       ··rcases bite j with ⟨b3, j⟩ | ⟨b3, j⟩
         ··refine At.know (t := 13) rfl (decide_eq_true b3) ?_
           refine At.run 2 rfl ?_; obtain ⟨d3, j⟩ := bnone j; refine At.y (Y.ixStr rfl rfl rfl rfl d3.1 d3.2) rfl rfl rfl (At.run 2 rfl ?_); exact At.of (d0 (decide (48 ≤ bat a1 u)) j) ⟨rfl, rfl, rfl, trivial⟩
         ··refine At.know (t := 13) rfl (decide_eq_false b3) ?_
           refine At.run 5 rfl ?_; exact At.of (d0 false j) ⟨rfl, rfl, rfl, trivial⟩
   ··refine At.condF rfl (decide_eq_false a6) ?_
     refine At.seq (sR 2 rfl (nT ?_)); obtain ⟨f7, f8, k7, j⟩ := bjoin j; refine At.join (X := Bool) (fun U => [(1, .string ⟨(a1).toArray⟩), (5, i6 1), (27, .bool U)]) (fun U => Fr) (fun U => f7 (.inl U) = some r) ?_ (fun d4 => ?_)
     ·rintro U j; have j := (f8 _).symm.trans j
      ·rcases bite j with ⟨b4, j⟩ | ⟨b4, j⟩
       ··refine At.condT rfl b4 ?_
         refine At.block ?_; obtain ⟨f9, g0, k8, j⟩ := bjoin j; obtain ⟨D, b5, g1⟩ := bsome j; clear j; unfold Q42.l1 at b5; obtain ⟨b6, V⟩ := Q18.1 b5; clear b5; refine At.loopJ (X := Int) (Y := Int) (e0 := 3) (fun p => [(1, .string ⟨(a1).toArray⟩), (5, i6 p)]) (fun p => Fr) (fun m_ => fun p => iterN (fun t_ : Int => Q42.l1b a1 t_) m_ p = some D) b6 1 V (fun I => [(5, i6 I)]) (fun I => Fr) (fun I => f9 (.inl I) = some r) (fun a w e hs => ⟨e.sub ⟨rfl, rfl, trivial⟩, (by exact hs)⟩) ?_ (fun g2 => ?_)
         ·rintro I j; have j := (g0 _).symm.trans j
          ·refine At.ibx ?_; refine At.ibn ?_; refine At.thn ?_; exact fun a w e hs => a5 I j a w (e.sub ⟨rfl, trivial⟩) hs
         ·clear V b6; rintro b6 p V; obtain ⟨g3, f_, g4, hf_, j⟩ := bit V; clear V; have j : (Q42.l1b a1 p).bind _ = some D := j; unfold Q42.l1b at j
          ·refine At.seq (sR 5 rfl ?_); obtain ⟨g5, g6, k9, j⟩ := bjoin j; refine At.joinO 41 (X := Bool) (fun Z => [(1, .string ⟨(a1).toArray⟩), (5, i6 p), (75, .bool Z)]) (fun Z => Fr) (fun Z => g5 (.inl Z) = some D) ?_ (fun d5 => ?_)
           ·rintro Z j; have j := (g6 _).symm.trans j
            ·refine nT ?_; rcases bite j with ⟨b7, j⟩ | ⟨b7, j⟩
             ··refine At.condT rfl b7 ?_
               refine At.skip (At.thn ?_); refine At.block ?_; refine At.region (At.run 3 rfl (At.nil ?_)); refine At.ibn ?_; have j := bnx hf_ j; exact fun a w e hs => ⟨g3, (IntKind.i64.wrap (p + 1)), g4, j, e.sub ⟨rfl, rfl, trivial⟩, hs⟩
             ··refine At.condF rfl (bn b7) ?_
               refine At.exit ?_; refine At.the ?_; refine At.the ?_; exact fun a w e hs => g2 p (bdn j g1) a w (e.sub ⟨rfl, trivial⟩) hs
           ··rcases bite j with ⟨b8, j⟩ | ⟨b8, j⟩
             ··refine At.know (t := 34) rfl (decide_eq_true b8) ?_
               refine At.run 2 rfl ?_; obtain ⟨q, j⟩ := bnone j; refine At.y (Y.ixStr rfl rfl rfl rfl q.1 q.2) rfl rfl rfl (At.run 2 rfl ?_); obtain ⟨g7, g8, l5, j⟩ := bjoin j; refine At.joinO 11 (X := Bool × Bool) (fun s_ => [(1, .string ⟨(a1).toArray⟩), (5, i6 p), (34, .bool true), (35, .string ⟨(a1).toArray⟩), (36, i6 p), (37, .int .u8 (bat a1 p)), (38, .bool (decide (bat a1 p = 95))), (39, .bool s_.1), (50, .bool s_.2)]) (fun s_ => Fr) (fun s_ => g7 (.inl (s_.1, s_.2)) = some D) ?_ (fun d6 => ?_)
               ·rintro ⟨a3, a4⟩ j; have j := (g8 _).symm.trans j
                ·refine At.run 1 rfl ?_; obtain ⟨g9, h0, l6, j⟩ := bjoin j; refine At.joinO 11 (X := Bool × Bool) (fun s_ => [(1, .string ⟨(a1).toArray⟩), (5, i6 p), (34, .bool true), (35, .string ⟨(a1).toArray⟩), (36, i6 p), (37, .int .u8 (bat a1 p)), (38, .bool (decide (bat a1 p = 95))), (39, .bool a3), (50, .bool a4), (51, .bool s_.1), (62, .bool s_.2)]) (fun s_ => Fr) (fun s_ => g9 (.inl (s_.1, s_.2)) = some D) ?_ (fun d7 => ?_)
                 ·rintro ⟨d8, d9⟩ j; have j := (h0 _).symm.trans j
                  ·refine At.run 1 rfl ?_; obtain ⟨h1, h2, l7, j⟩ := bjoin j; refine At.joinO 11 (X := Bool × Bool) (fun s_ => [(1, .string ⟨(a1).toArray⟩), (5, i6 p), (34, .bool true), (35, .string ⟨(a1).toArray⟩), (36, i6 p), (37, .int .u8 (bat a1 p)), (38, .bool (decide (bat a1 p = 95))), (39, .bool a3), (50, .bool a4), (51, .bool d8), (62, .bool d9), (63, .bool s_.1), (74, .bool s_.2)]) (fun s_ => Fr) (fun s_ => h1 (.inl (s_.1, s_.2)) = some D) ?_ (fun e1 => ?_)
                   ·rintro ⟨l8, h3⟩ j; have j := (h2 _).symm.trans j
                    ·refine At.run 1 rfl ?_; exact At.of (d5 h3 j) ⟨rfl, rfl, rfl, trivial⟩
                   ··rcases bite j with ⟨b9, j⟩ | ⟨b9, j⟩
                     ··refine At.know (t := 63) rfl b9 ?_
                       refine At.run 11 rfl ?_; exact At.of (e1 (true, true) j) ⟨rfl, rfl, rfl, rfl, rfl, rfl, rfl, rfl, rfl, rfl, rfl, rfl, rfl, trivial⟩
                     ··refine At.know (t := 63) rfl (bn b9) ?_
                       refine At.run 2 rfl (At.y (Y.ixStr rfl rfl rfl rfl q.1 q.2) rfl rfl rfl (At.run 2 rfl ?_)); obtain ⟨h4, h5, l9, j⟩ := bjoin j; refine At.joinO 5 (X := Bool × Bool) (fun s_ => [(1, .string ⟨(a1).toArray⟩), (5, i6 p), (34, .bool true), (35, .string ⟨(a1).toArray⟩), (36, i6 p), (37, .int .u8 (bat a1 p)), (38, .bool (decide (bat a1 p = 95))), (39, .bool a3), (50, .bool a4), (51, .bool d8), (62, .bool d9), (63, .bool false), (64, .string ⟨(a1).toArray⟩), (65, i6 p), (66, .int .u8 (bat a1 p)), (67, .bool (decide (48 ≤ bat a1 p))), (68, .bool s_.1), (73, .bool s_.2)]) (fun s_ => Fr) (fun s_ => h4 (.inl (s_.1, s_.2)) = some D) ?_ (fun e2 => ?_)
                       ·rintro ⟨m0, h6⟩ j; have j := (h5 _).symm.trans j
                        ·refine At.run 1 rfl ?_; exact At.of (e1 (false, h6) j) ⟨rfl, rfl, rfl, rfl, rfl, rfl, rfl, rfl, rfl, rfl, rfl, rfl, rfl, trivial⟩
                       ··rcases bite j with ⟨c4, j⟩ | ⟨c4, j⟩
                         ··refine At.know (t := 68) rfl (decide_eq_true c4) ?_
                           refine At.run 2 rfl (At.y (Y.ixStr rfl rfl rfl rfl q.1 q.2) rfl rfl rfl (At.run 2 rfl ?_)); exact At.of (e2 (true, decide (bat a1 p ≤ 57)) j) ⟨rfl, rfl, rfl, rfl, rfl, rfl, rfl, rfl, rfl, rfl, rfl, rfl, rfl, rfl, rfl, rfl, rfl, rfl, trivial⟩
                         ··refine At.know (t := 68) rfl (decide_eq_false c4) ?_
                           refine At.run 5 rfl ?_; exact At.of (e2 (false, false) j) ⟨rfl, rfl, rfl, rfl, rfl, rfl, rfl, rfl, rfl, rfl, rfl, rfl, rfl, rfl, rfl, rfl, rfl, rfl, trivial⟩
                 ··rcases bite j with ⟨c5, j⟩ | ⟨c5, j⟩
                   ··refine At.know (t := 51) rfl c5 ?_
                     refine At.run 11 rfl ?_; exact At.of (d7 (true, true) j) ⟨rfl, rfl, rfl, rfl, rfl, rfl, rfl, rfl, rfl, rfl, rfl, trivial⟩
                   ··refine At.know (t := 51) rfl (bn c5) ?_
                     refine At.run 2 rfl (At.y (Y.ixStr rfl rfl rfl rfl q.1 q.2) rfl rfl rfl (At.run 2 rfl ?_)); obtain ⟨h7, h8, m1, j⟩ := bjoin j; refine At.joinO 5 (X := Bool × Bool) (fun s_ => [(1, .string ⟨(a1).toArray⟩), (5, i6 p), (34, .bool true), (35, .string ⟨(a1).toArray⟩), (36, i6 p), (37, .int .u8 (bat a1 p)), (38, .bool (decide (bat a1 p = 95))), (39, .bool a3), (50, .bool a4), (51, .bool false), (52, .string ⟨(a1).toArray⟩), (53, i6 p), (54, .int .u8 (bat a1 p)), (55, .bool (decide (65 ≤ bat a1 p))), (56, .bool s_.1), (61, .bool s_.2)]) (fun s_ => Fr) (fun s_ => h7 (.inl (s_.1, s_.2)) = some D) ?_ (fun e3 => ?_)
                     ·rintro ⟨m2, h9⟩ j; have j := (h8 _).symm.trans j
                      ·refine At.run 1 rfl ?_; exact At.of (d7 (false, h9) j) ⟨rfl, rfl, rfl, rfl, rfl, rfl, rfl, rfl, rfl, rfl, rfl, trivial⟩
                     ··rcases bite j with ⟨c6, j⟩ | ⟨c6, j⟩
                       ··refine At.know (t := 56) rfl (decide_eq_true c6) ?_
                         refine At.run 2 rfl (At.y (Y.ixStr rfl rfl rfl rfl q.1 q.2) rfl rfl rfl (At.run 2 rfl ?_)); exact At.of (e3 (true, decide (bat a1 p ≤ 90)) j) ⟨rfl, rfl, rfl, rfl, rfl, rfl, rfl, rfl, rfl, rfl, rfl, rfl, rfl, rfl, rfl, rfl, trivial⟩
                       ··refine At.know (t := 56) rfl (decide_eq_false c6) ?_
                         refine At.run 5 rfl ?_; exact At.of (e3 (false, false) j) ⟨rfl, rfl, rfl, rfl, rfl, rfl, rfl, rfl, rfl, rfl, rfl, rfl, rfl, rfl, rfl, rfl, trivial⟩
               ··rcases bite j with ⟨c7, j⟩ | ⟨c7, j⟩
                 ··refine At.know (t := 39) rfl (decide_eq_true c7) ?_
                   refine At.run 11 rfl ?_; exact At.of (d6 (true, true) j) ⟨rfl, rfl, rfl, rfl, rfl, rfl, rfl, rfl, rfl, trivial⟩
                 ··refine At.know (t := 39) rfl (decide_eq_false c7) ?_
                   refine At.run 2 rfl (At.y (Y.ixStr rfl rfl rfl rfl q.1 q.2) rfl rfl rfl (At.run 2 rfl ?_)); obtain ⟨k0, k1, m3, j⟩ := bjoin j; refine At.joinO 5 (X := Bool × Bool) (fun s_ => [(1, .string ⟨(a1).toArray⟩), (5, i6 p), (34, .bool true), (35, .string ⟨(a1).toArray⟩), (36, i6 p), (37, .int .u8 (bat a1 p)), (38, .bool (decide (bat a1 p = 95))), (39, .bool false), (40, .string ⟨(a1).toArray⟩), (41, i6 p), (42, .int .u8 (bat a1 p)), (43, .bool (decide (97 ≤ bat a1 p))), (44, .bool s_.1), (49, .bool s_.2)]) (fun s_ => Fr) (fun s_ => k0 (.inl (s_.1, s_.2)) = some D) ?_ (fun e4 => ?_)
                   ·rintro ⟨m4, k2⟩ j; have j := (k1 _).symm.trans j
                    ·refine At.run 1 rfl ?_; exact At.of (d6 (false, k2) j) ⟨rfl, rfl, rfl, rfl, rfl, rfl, rfl, rfl, rfl, trivial⟩
                   ··rcases bite j with ⟨c8, j⟩ | ⟨c8, j⟩
                     ··refine At.know (t := 44) rfl (decide_eq_true c8) ?_
                       refine At.run 2 rfl (At.y (Y.ixStr rfl rfl rfl rfl q.1 q.2) rfl rfl rfl (At.run 2 rfl ?_)); exact At.of (e4 (true, decide (bat a1 p ≤ 122)) j) ⟨rfl, rfl, rfl, rfl, rfl, rfl, rfl, rfl, rfl, rfl, rfl, rfl, rfl, rfl, trivial⟩
                     ··refine At.know (t := 44) rfl (decide_eq_false c8) ?_
                       refine At.run 5 rfl ?_; exact At.of (e4 (false, false) j) ⟨rfl, rfl, rfl, rfl, rfl, rfl, rfl, rfl, rfl, rfl, rfl, rfl, rfl, rfl, trivial⟩
             ··refine At.know (t := 34) rfl (decide_eq_false b8) ?_
               refine At.run 41 rfl ?_; exact At.of (d5 false j) ⟨rfl, rfl, rfl, trivial⟩
       ··refine At.condF rfl (bn b4) ?_
         refine At.skip ?_; refine At.ibn ?_; refine At.thn ?_; exact fun a w e hs => a5 1 j a w (e.sub ⟨rfl, trivial⟩) hs
     ··rcases bite j with ⟨c9, j⟩ | ⟨c9, j⟩
       ··refine At.condT rfl (decide_eq_true c9) ?_
         refine At.skip (At.thn ?_); exact fun a w e hs => d4 (decide (a0 = 2)) j a w (e.sub ⟨rfl, rfl, rfl, trivial⟩) hs
       ··refine At.condF rfl (decide_eq_false c9) ?_
         refine At.region (At.run 2 rfl (nT ?_)); exact fun a w e hs => d4 (decide (a0 = 3)) j a w (e.sub ⟨rfl, rfl, rfl, trivial⟩) hs

noncomputable def Q78.l0b (a0 : Bs) (q p : Int) : Option ((Int × Int) ⊕ ((Int) ⊕ (Bool × Int))) :=
 if p < (a0.length : Int) then
 if (0 : Int) ≤ p ∧ p < (a0.length : Int) then
 nx (IntKind.i64.wrap (IntKind.i64.wrap (10 * q) + (IntKind.i64.wrap (IntKind.u8.wrap (bat a0 p - 48)))), IntKind.i64.wrap (p + 1))
 else none
 else
 dn (.inl q)
noncomputable def Q78.l0 (a0 : Bs) (p q : Int) : Option ((Int) ⊕ (Bool × Int)) := iter (fun t_ : Int × Int => Q78.l0b a0 t_.1 t_.2) (p, q)
noncomputable def Q78.f (a0 : Bs) : Option (Bool × Int) :=
 jn (
 if 4 < (a0.length : Int) then
 some (.inl true)
 else
 jn (
 if 1 < (a0.length : Int) then
 if (0 : Int) ≤ 0 ∧ 0 < (a0.length : Int) then
 some (.inl (decide (bat a0 0 = 48)))
 else none
 else
 some (.inl false)) (fun (q : Bool) =>
 some (.inl q))) (fun (u : Bool) =>
 if u = true then
 some (false, 0)
 else
 jn (Q78.l0 a0 0 0) (fun (p : Int) =>
 some (decide (p ≤ 9999), p)))
theorem Q78.callee : Callee Tryz.prog 146 := ⟨_, Tryz.func146, by kernel_rfl, by kernel_rfl⟩
theorem Q78.spec {a0 : Bs} {r : Bool × Int} (j : Q78.f a0 = some r) :
 Spec Tryz.prog 146 [.string ⟨(a0).toArray⟩] R (Fr) (fun v l' => v = .tuple #[i6 r.2, .bool r.1] ∧ Fr = l') := by
 refine Spec.of Tryz.func146 rfl rfl ?_; unfold Q78.f at j; have j := brun j; refine sR 2 rfl (nT (At.seq (At.seq (At.region ?_)))); refine At.run 4 rfl ?_; obtain ⟨a5, a6, b7, j⟩ := bjoin j; refine At.joinO 9 (X := Bool) (fun q => [(0, .string ⟨(a0).toArray⟩), (18, .bool q)]) (fun q => Fr) (fun q => a5 (.inl q) = some r) ?_ (fun Z => ?_)
 ·rintro q j; have j := (a6 _).symm.trans j
  ·refine nT ?_; rcases bite j with ⟨G, j⟩ | ⟨G, j⟩
   ··refine At.condT rfl G ?_
     refine sR 2 rfl (nT (At.ret (At.thr ?_))); cases bret j; exact At.res (.inl rfl) rfl rfl ⟨rfl, rfl⟩
   ··refine At.condF rfl (bn G) ?_
     refine At.skip (At.thn (sR 1 rfl (nT (At.seq ?_)))); refine sR 3 rfl (nT ?_); refine At.block ?_; obtain ⟨a7, a8, b8, j⟩ := bjoin j; obtain ⟨a1, I, a9⟩ := bsome j; clear j; unfold Q78.l0 at I; obtain ⟨J, u⟩ := Q18.1 I; clear I; refine At.loopJ (X := Int × Int) (Y := Int) (e0 := 0) (fun s_ => [(0, .string ⟨(a0).toArray⟩), (4, i6 s_.1), (20, i6 (a0.length : Int)), (21, i6 s_.2)]) (fun s_ => Fr) (fun m_ => fun s_ => iterN (fun t_ : Int × Int => Q78.l0b a0 t_.1 t_.2) m_ (s_.1, s_.2) = some a1) J (0, 0) u (fun D => [(4, i6 D)]) (fun D => Fr) (fun D => a7 (.inl D) = some r) (fun a w e hs => ⟨e.sub ⟨rfl, rfl, rfl, rfl, trivial⟩, (by exact hs)⟩) ?_ (fun b2 => ?_)
     ·rintro D j; have j := (a8 _).symm.trans j
      ·refine At.ibx ?_; refine At.thn (sR 5 rfl (nT (At.ret ?_))); cases bret j; exact At.res (.inl rfl) rfl rfl ⟨rfl, rfl⟩
     ·clear u J; rintro J ⟨L, M⟩ u; obtain ⟨b3, f_, b4, hf_, j⟩ := bit u; clear u; have j : (Q78.l0b a0 L M).bind _ = some a1 := j; unfold Q78.l0b at j
      ·refine sR 1 rfl (nT (At.seq ?_)); rcases bite j with ⟨O, j⟩ | ⟨O, j⟩
       ··refine At.condT rfl (decide_eq_true O) ?_
         refine At.skip (At.thn (At.seq ?_)); refine At.block ?_; refine sR 2 rfl (nT (At.region (At.run 4 rfl ?_))); obtain ⟨a2, j⟩ := bnone j; refine At.y (Y.ixStr rfl rfl rfl rfl a2.1 a2.2) rfl rfl rfl (At.run 4 rfl (At.nil ?_)); refine At.ibn ?_; refine At.thn (At.region (At.run 2 rfl (At.nil ?_))); have j := bnx hf_ j; exact fun a w e hs => ⟨b3, (IntKind.i64.wrap (IntKind.i64.wrap (10 * L) + (IntKind.i64.wrap (IntKind.u8.wrap (bat a0 M - 48)))), IntKind.i64.wrap (M + 1)), b4, j, e.sub ⟨rfl, rfl, rfl, rfl, trivial⟩, hs⟩
       ··refine At.condF rfl (decide_eq_false O) ?_
         refine At.exit ?_; refine At.the ?_; refine At.the ?_; exact fun a w e hs => b2 L (bdn j a9) a w (e.sub ⟨rfl, trivial⟩) hs
 ··rcases bite j with ⟨U, j⟩ | ⟨U, j⟩
   ··refine At.know (t := 9) rfl (decide_eq_true U) ?_
     refine At.run 9 rfl ?_; exact At.of (Z true j) ⟨rfl, rfl, trivial⟩
   ··refine At.know (t := 9) rfl (decide_eq_false U) ?_
     refine At.run 4 rfl ?_; obtain ⟨b5, b6, b9, j⟩ := bjoin j; refine At.joinO 4 (X := Bool) (fun p => [(0, .string ⟨(a0).toArray⟩), (9, .bool false), (17, .bool p)]) (fun p => Fr) (fun p => b5 (.inl p) = some r) ?_ (fun a3 => ?_)
     ·rintro p j; have j := (b6 _).symm.trans j
      ·refine At.run 1 rfl ?_; exact At.of (Z p j) ⟨rfl, rfl, trivial⟩
     ··rcases bite j with ⟨V, j⟩ | ⟨V, j⟩
       ··refine At.know (t := 13) rfl (decide_eq_true V) ?_
         refine At.run 1 rfl ?_; obtain ⟨a4, j⟩ := bnone j; refine At.y (Y.ixStr rfl rfl rfl rfl a4.1 a4.2) rfl rfl rfl (At.run 2 rfl ?_); exact At.of (a3 (decide (bat a0 0 = 48)) j) ⟨rfl, rfl, rfl, trivial⟩
       ··refine At.know (t := 13) rfl (decide_eq_false V) ?_
         refine At.run 4 rfl ?_; exact At.of (a3 false j) ⟨rfl, rfl, rfl, trivial⟩

noncomputable def Q147.f (a0 : Bs) (a1 : Int) : Option (Int × Int × Int × Bs × Int) :=
 if (0 : Int) ≤ a1 ∧ a1 < (a0.length : Int) then
 (Q146.f (bat a0 a1)).bind fun p =>
 if (0 : Int) ≤ a1 ∧ a1 ≤ (a0.length : Int) then
 (Q42.f p (a0.drop a1.toNat)).bind fun q =>
 if (0 : Int) ≤ a1 ∧ a1 ≤ IntKind.i64.wrap (a1 + q) ∧ IntKind.i64.wrap (a1 + q) ≤ (a0.length : Int) then
 jn (
 if p = 0 then
 up (some (3, p, a1, (bsl a0 a1 (IntKind.i64.wrap (a1 + q))), 0))
 else
 jn (
 if p = 2 then
 some (.inl (decide (p = 2)))
 else
 some (.inl (decide (p = 3)))) (fun (D : Bool) =>
 if D = true then
 if 8 < ((bsl a0 a1 (IntKind.i64.wrap (a1 + q))).length : Int) then
 up (some (5, p, a1, (bsl a0 a1 (IntKind.i64.wrap (a1 + q))), 0))
 else
 some (.inl 0)
 else
 if p = 4 then
 (Q78.f (bsl a0 a1 (IntKind.i64.wrap (a1 + q)))).bind fun u =>
 if u.1 = true then
 some (.inl u.2)
 else
 up (some (4, p, a1, (bsl a0 a1 (IntKind.i64.wrap (a1 + q))), 0))
 else
 some (.inl 0))) (fun (G : Int) =>
 some (0, p, a1, (bsl a0 a1 (IntKind.i64.wrap (a1 + q))), G))
 else none
 else none
 else none
theorem Q147.callee : Callee Tryz.prog 109 := ⟨_, Tryz.func109, by kernel_rfl, by kernel_rfl⟩
theorem Q147.spec {a0 : Bs} {a1 : Int} {r : Int × Int × Int × Bs × Int} (j : Q147.f a0 a1 = some r) :
 Spec Tryz.prog 109 [.string ⟨(a0).toArray⟩, i6 a1] R (Fr) (fun v l' => v = .tuple #[.agg #[i6 r.2.1, i6 r.2.2.1, .string ⟨(r.2.2.2.1).toArray⟩, i6 r.2.2.2.2], i6 r.1] ∧ Fr = l') := by
 refine Spec.of Tryz.func109 rfl rfl ?_; unfold Q147.f at j; have j := brun j; refine At.seq (At.region ?_); refine At.alloc rfl rfl rfl (fun D => ?_); refine At.run 1 rfl (nT (sR 2 rfl ?_)); obtain ⟨a3, j⟩ := bnone j; refine At.y (Y.ixStr rfl rfl rfl rfl a3.1 a3.2) rfl rfl rfl ?_; obtain ⟨p, a7, j⟩ := bbind j; refine At.call rfl Q146.callee rfl rfl rfl (Q146.spec a7) ?_; rintro _ _ ⟨rfl, rfl⟩; refine At.run 1 rfl ?_; refine At.y (Y.build (is := [0, 1]) (xo := [.tmp 12, .tmp 13]) (vs := [i6 p, i6 a1]) (cs := [i6 p, i6 a1, .string ⟨(([] : Bs)).toArray⟩, i6 0]) rfl rfl rfl rfl rfl rfl) rfl rfl rfl ?_; refine At.alloc rfl rfl rfl (fun G => ?_); refine At.store rfl rfl rfl rfl .z rfl rfl rfl (.c (.c (.c (.c .n)))) ?_; refine nT (At.seq ?_); refine At.held [pc D [i6 0, i6 0, .string ⟨(([] : Bs)).toArray⟩, i6 0] 115] 13 rfl ?_; refine At.H.pw 0 rfl rfl rfl rfl rfl (.c (.s .z) .n) ?_; refine At.H.pw 1 rfl rfl rfl rfl rfl (.c (.s .z) .n) ?_; refine At.H.pw 2 rfl rfl rfl rfl rfl (.c (.s .z) .n) ?_; refine At.H.pw 3 rfl rfl rfl rfl rfl (.c (.s .z) .n) ?_; refine At.H.pw 5 rfl rfl rfl rfl rfl (.c (.s .z) .n) ?_; refine At.H.pw 6 rfl rfl rfl rfl rfl (.c (.s .z) .n) ?_; obtain ⟨a4, j⟩ := bnone j; refine At.H.tw 7 rfl (Y.slStrL rfl rfl rfl rfl a4.1 a4.2) rfl rfl rfl (.c (.s .z) .n) ?_; refine At.H.al [4] (Q6 ?_ Q8)
 ··refine At.HO.op rfl ?_
   refine At.y (Y.load rfl rfl .z rfl rfl rfl) rfl rfl rfl ?_; refine At.HO.back (.c (.s .z) .n) ?_; refine At.H.al [8] (Q6 ?_ Q8)
   ··refine At.HO.op rfl ?_
     obtain ⟨a5, a8, j⟩ := bbind j; refine At.call rfl Q42.callee rfl rfl rfl (Q42.spec a8) ?_; rintro _ _ ⟨rfl, rfl⟩; refine At.HO.back (.c (.s .z) .n) ?_; refine At.H.pw 9 rfl rfl rfl rfl rfl (.c (.s .z) .n) ?_; obtain ⟨I, j⟩ := bnone j; refine At.H.tw 10 rfl (Y.slStrLH rfl rfl rfl rfl rfl I.1 I.2.1 I.2.2) rfl rfl rfl (.c (.s .z) .n) ?_; refine At.H.pw 11 rfl rfl rfl rfl rfl (.c (.s .z) .n) ?_; refine At.H.al [12] (Q6 ?_ Q8)
     ··refine At.HO.op rfl ?_
       refine At.store rfl rfl rfl rfl .z rfl rfl rfl (.s (.s (.c .n))) ?_; refine At.HO.back (.c (.s .z) .n) ?_; refine At.H.done (by kernel_rfl) ?_; refine At.thn (At.seq (sR 1 rfl (At.y (Y.load rfl rfl .z rfl rfl rfl) rfl rfl rfl (nT ?_)))); obtain ⟨a9, b2, J, j⟩ := bjoin j; let T1 : HProp := pc D [i6 0, i6 0, .string ⟨(([] : Bs)).toArray⟩, i6 0] 115; refine At.join (X := Int) (fun q => [(4, bp D), (6, bp G)]) (fun q => pc G [i6 p, i6 a1, .string ⟨((bsl a0 a1 (IntKind.i64.wrap (a1 + a5)))).toArray⟩, i6 q] 115 :: T1 :: Fr) (fun q => a9 (.inl q) = some r) ?_ (fun L => ?_)
       ·rintro q j; have j := (b2 _).symm.trans j
        ·refine At.seq (At.region (At.y (Y.load rfl rfl .z rfl rfl rfl) rfl rfl rfl ?_)); refine At.store rfl rfl rfl rfl (.s .z) rfl rfl rfl (.c (.c (.c (.c .n)))) ?_; refine At.run 1 rfl (nT (At.ret ?_)); refine At.resM (.inl rfl) rfl (RV.cell rfl rfl .z rfl rfl rfl (RV.tmp rfl RV.nil)) ?_; refine At.drop .z (At.drop .z ?_); cases bret j; exact fun a w e hs => ⟨_, ⟨rfl, rfl⟩, hs⟩
       ··refine At.block ?_
         refine sR 2 rfl (nT ?_); rcases bite j with ⟨M, j⟩ | ⟨M, j⟩
         ··refine At.condT rfl (decide_eq_true M) ?_
           refine At.seq (At.region (At.y (Y.load rfl rfl .z rfl rfl rfl) rfl rfl rfl ?_)); refine At.store rfl rfl rfl rfl (.s .z) rfl rfl rfl (.c (.c (.c (.c .n)))) ?_; refine At.run 1 rfl (nT (At.ret ?_)); refine At.ibr ?_; have j := bup J j; refine At.thr ?_; refine At.resM (.inl rfl) rfl (RV.cell rfl rfl .z rfl rfl rfl (RV.tmp rfl RV.nil)) ?_; refine At.drop .z (At.drop .z ?_); cases bret j; exact fun a w e hs => ⟨_, ⟨rfl, rfl⟩, hs⟩
         ··refine At.condF rfl (decide_eq_false M) ?_
           refine At.seq (sR 2 rfl (nT ?_)); obtain ⟨b3, b4, b7, j⟩ := bjoin j; let T2 : HProp := pc G [i6 p, i6 a1, .string ⟨((bsl a0 a1 (IntKind.i64.wrap (a1 + a5)))).toArray⟩, i6 0] 115; refine At.join (X := Bool) (fun u => [(4, bp D), (6, bp G), (28, i6 p), (32, .bool u)]) (fun u => T2 :: T1 :: Fr) (fun u => b3 (.inl u) = some r) ?_ (fun a6 => ?_)
           ·rintro u j; have j := (b4 _).symm.trans j
            ·rcases bite j with ⟨O, j⟩ | ⟨O, j⟩
             ··refine At.condT rfl O ?_
               refine sR 1 rfl (At.y (Y.load rfl rfl .z rfl rfl rfl) rfl rfl rfl (At.run 2 rfl (nT ?_))); rcases bite j with ⟨U, j⟩ | ⟨U, j⟩
               ··refine At.condT rfl (decide_eq_true U) ?_
                 refine At.seq (At.region (At.y (Y.load rfl rfl .z rfl rfl rfl) rfl rfl rfl ?_)); refine At.store rfl rfl rfl rfl (.s .z) rfl rfl rfl (.c (.c (.c (.c .n)))) ?_; refine At.run 1 rfl (nT (At.ret ?_)); refine At.ibr ?_; have j := bup J j; refine At.thr ?_; refine At.resM (.inl rfl) rfl (RV.cell rfl rfl .z rfl rfl rfl (RV.tmp rfl RV.nil)) ?_; refine At.drop .z (At.drop .z ?_); cases bret j; exact fun a w e hs => ⟨_, ⟨rfl, rfl⟩, hs⟩
               ··refine At.condF rfl (decide_eq_false U) ?_
                 refine At.skip ?_; refine At.ibn ?_; refine At.thn ?_; exact fun a w e hs => L 0 j a w (e.sub ⟨rfl, rfl, trivial⟩) hs
             ··refine At.condF rfl (bn O) ?_
               refine sR 2 rfl (nT ?_); rcases bite j with ⟨V, j⟩ | ⟨V, j⟩
               ··refine At.condT rfl (decide_eq_true V) ?_
                 refine sR 1 rfl (At.y (Y.load rfl rfl .z rfl rfl rfl) rfl rfl rfl ?_); obtain ⟨b5, b6, j⟩ := bbind j; refine At.call rfl Q78.callee rfl rfl rfl (Q78.spec b6) ?_; rintro _ _ ⟨rfl, rfl⟩; refine At.run 5 rfl (nT (At.seq (sR 2 rfl (At.nil ?_)))); refine At.thn ?_; rcases bite j with ⟨Z, j⟩ | ⟨Z, j⟩
                 ··refine At.condF rfl (nf Z) ?_
                   refine At.skip (At.thn (At.region (At.run 2 rfl ?_))); refine At.store rfl rfl rfl rfl .z rfl rfl rfl (.s (.s (.s (.c .n)))) ?_; refine At.nil ?_; refine At.ibn ?_; refine At.thn ?_; exact fun a w e hs => L b5.2 j a w (e.sub ⟨rfl, rfl, trivial⟩) hs
                 ··refine At.condT rfl (nt (bn Z)) ?_
                   refine At.seq (At.region (At.y (Y.load rfl rfl .z rfl rfl rfl) rfl rfl rfl ?_)); refine At.store rfl rfl rfl rfl (.s .z) rfl rfl rfl (.c (.c (.c (.c .n)))) ?_; refine At.run 1 rfl (nT (At.ret (At.thr ?_))); refine At.ibr ?_; have j := bup J j; refine At.thr ?_; refine At.resM (.inl rfl) rfl (RV.cell rfl rfl .z rfl rfl rfl (RV.tmp rfl RV.nil)) ?_; refine At.drop .z (At.drop .z ?_); cases bret j; exact fun a w e hs => ⟨_, ⟨rfl, rfl⟩, hs⟩
               ··refine At.condF rfl (decide_eq_false V) ?_
                 refine At.skip ?_; refine At.ibn ?_; refine At.thn ?_; exact fun a w e hs => L 0 j a w (e.sub ⟨rfl, rfl, trivial⟩) hs
           ··rcases bite j with ⟨a2, j⟩ | ⟨a2, j⟩
             ··refine At.condT rfl (decide_eq_true a2) ?_
               refine At.skip (At.thn ?_); exact fun a w e hs => a6 (decide (p = 2)) j a w (e.sub ⟨rfl, rfl, rfl, rfl, trivial⟩) hs
             ··refine At.condF rfl (decide_eq_false a2) ?_
               refine At.region (At.run 2 rfl (nT ?_)); exact fun a w e hs => a6 (decide (p = 3)) j a w (e.sub ⟨rfl, rfl, rfl, rfl, trivial⟩) hs

noncomputable def Q63.l0b (a0 : Bs) (u : List Q0) (p : Int) : Option (((List Q0) × Int) ⊕ (((List Q0)) ⊕ ((Option Q5) × (List Q0)))) :=
 if p < (a0.length : Int) then
 if (0 : Int) ≤ p ∧ p < (a0.length : Int) then
 jn (
 if bat a0 p = 32 then
 some (.inl true)
 else
 some (.inl (decide (bat a0 p = 9)))) (fun (G : Bool) =>
 if G = true then
 nx (u, IntKind.i64.wrap (p + 1))
 else
 if bat a0 p = 35 then
 if (0 : Int) ≤ p ∧ p ≤ (a0.length : Int) then
 (Q153.f (a0.drop p.toNat) 10).bind fun D =>
 jn (
 if D < 0 then
 some (.inl (IntKind.i64.wrap ((a0.length : Int) - p)))
 else
 some (.inl D)) (fun (I : Int) =>
 nx (u, IntKind.i64.wrap (p + I)))
 else none
 else
 (Q147.f a0 p).bind fun q =>
 if q.1 = 0 then
 if (u.length + ([(⟨q.2.1, q.2.2.1, q.2.2.2.1, q.2.2.2.2⟩ : Q0)] : List Q0).length) * 40 ≤ 140737488355328 then
 nx ((u ++ ([(⟨q.2.1, q.2.2.1, q.2.2.2.1, q.2.2.2.2⟩ : Q0)] : List Q0)), IntKind.i64.wrap (p + (q.2.2.2.1.length : Int)))
 else none
 else
 upL (some ((some (⟨p, q.1⟩ : Q5)), ([] : List Q0))))
 else none
 else
 dn (.inl u)
noncomputable def Q63.l0 (a0 : Bs) (p : List Q0) (q : Int) : Option (((List Q0)) ⊕ ((Option Q5) × (List Q0))) := iter (fun t_ : (List Q0) × Int => Q63.l0b a0 t_.1 t_.2) (p, q)
noncomputable def Q63.f (a0 : Bs) : Option ((Option Q5) × (List Q0)) :=
 if 262144 < (a0.length : Int) then
 some ((some (⟨262144, 2⟩ : Q5)), ([] : List Q0))
 else
 jn (Q63.l0 a0 ([] : List Q0) 0) (fun (p : List Q0) =>
 if (p.length + ([(⟨0, (a0.length : Int), ([] : Bs), 0⟩ : Q0)] : List Q0).length) * 40 ≤ 140737488355328 then
 some (none, (p ++ ([(⟨0, (a0.length : Int), ([] : Bs), 0⟩ : Q0)] : List Q0)))
 else none)
theorem Q63.callee : Callee Tryz.prog 55 := ⟨_, Tryz.func55, by kernel_rfl, by kernel_rfl⟩
theorem Q63.spec {a0 : Bs} {r : (Option Q5) × (List Q0)} (j : Q63.f a0 = some r) :
 Spec Tryz.prog 55 [.string ⟨(a0).toArray⟩] R (Fr) (fun v l' => ∃ (a9 : Option Nat) (O : Nat) (b2 : Option Addr) (b3 : Nat), v = .tuple #[.slice b2 O b3, opti 110 a9] ∧ row Q0.fl 115 b2 O b3 r.2 :: optb (Ow.fl Q5.fl) 121 a9 r.1 :: Fr = l' ∧ r.2.length = O) := by
 refine Spec.of Tryz.func55 rfl rfl ?_; unfold Q63.f at j; have j := brun j; refine sR 2 rfl (nT (At.seq (At.seq (At.region ?_)))); refine At.run 3 rfl (nT ?_); rcases bite j with ⟨U, j⟩ | ⟨U, j⟩
 ··refine At.condT rfl (decide_eq_true U) ?_
   refine At.seq (At.region ?_); refine At.y (Y.build (is := [0, 1]) (xo := [.const (i6 262144), .const (i6 2)]) (vs := [i6 262144, i6 2]) (cs := [i6 262144, i6 2]) rfl rfl rfl rfl rfl rfl) rfl rfl rfl ?_; refine At.box rfl rfl (cs := [i6 262144, i6 2]) rfl rfl (fun c4 => ?_); refine At.run 3 rfl (nT (At.ret (At.thr ?_))); refine At.nilRow Q0.fl 115 ?_; refine At.f1 ?_; refine At.optSome (x := (⟨262144, 2⟩ : Q5)) (Ent.fl Q5.fl (x := (⟨262144, 2⟩ : Q5)) rfl) ?_; refine At.f1 ?_; cases bret j; exact At.res (.inl rfl) rfl rfl ⟨(some c4), 0, none, 0, rfl, rfl, rfl⟩
 ··refine At.condF rfl (decide_eq_false U) ?_
   refine At.skip (At.thn (sR 1 rfl (nT (At.seq ?_)))); refine sR 1 rfl (nT ?_); refine At.block ?_; obtain ⟨c5, c6, c7, j⟩ := bjoin j; obtain ⟨M, V, b4⟩ := bsome j; clear j; unfold Q63.l0 at V; obtain ⟨Z, J⟩ := Q18.1 V; clear V; refine At.nilRow Q0.fl 115 ?_; refine At.loopJ (X := (List Q0) × Int × Nat × (Option Addr) × Nat) (Y := (List Q0) × Nat × (Option Addr) × Nat) (e0 := 0) (fun s_ => [(0, .string ⟨(a0).toArray⟩), (4, .slice s_.2.2.2.1 s_.2.2.1 s_.2.2.2.2), (5, i6 s_.2.1)]) (fun s_ => row Q0.fl 115 s_.2.2.2.1 s_.2.2.1 s_.2.2.2.2 s_.1 :: Fr) (fun m_ => fun s_ => iterN (fun t_ : (List Q0) × Int => Q63.l0b a0 t_.1 t_.2) m_ (s_.1, s_.2.1) = some M ∧ s_.1.length = s_.2.2.1) Z (([] : List Q0), 0, 0, none, 0) ⟨J, rfl⟩ (fun s_ => [(0, .string ⟨(a0).toArray⟩), (4, .slice s_.2.2.1 s_.2.1 s_.2.2.2)]) (fun s_ => row Q0.fl 115 s_.2.2.1 s_.2.1 s_.2.2.2 s_.1 :: Fr) (fun s_ => c5 (.inl s_.1) = some r ∧ s_.1.length = s_.2.1) (fun a w e hs => ⟨e.sub ⟨rfl, rfl, rfl, trivial⟩, (by exact hs)⟩) ?_ (fun c8 => ?_)
   ·rintro ⟨b5, c9, e8, e9⟩ ⟨j, d0⟩; obtain rfl : b5.length = c9 := d0; have j := (c6 _).symm.trans j
    ·refine At.ibx ?_; refine At.thn (sR 3 rfl ?_); refine At.y (Y.build (is := [0, 1]) (xo := [.const (i6 0), .tmp 72]) (vs := [i6 0, i6 (a0.length : Int)]) (cs := [i6 0, i6 (a0.length : Int), .string ⟨(([] : Bs)).toArray⟩, i6 0]) rfl rfl rfl rfl rfl rfl) rfl rfl rfl ?_; refine At.lit rfl (xo := [.tmp 73]) (ys := ([(⟨0, (a0.length : Int), ([] : Bs), 0⟩ : Q0)] : List Q0)) Q0.fl rfl rfl rfl rfl rfl rfl rfl rfl rfl rfl rfl (fun f0 f2 => ?_); obtain ⟨d1, j⟩ := bnone j; refine At.append rfl (.s .z) (Src.own .z (by simp)) rfl rfl rfl rfl rfl rfl rfl rfl d1 (by decide) rfl (fun d2 d3 => ?_); refine At.drop (.s .z) (At.run 2 rfl (nT (At.ret ?_))); refine At.optNone (Ow.fl Q5.fl) 121 ?_; refine At.f1 ?_; cases bret j; exact At.res (.inl rfl) rfl rfl ⟨none, (b5 ++ ([(⟨0, (a0.length : Int), ([] : Bs), 0⟩ : Q0)] : List Q0)).length, d2, d3, rfl, rfl, rfl⟩
   ·clear J Z; rintro Z ⟨q, u, d4, D, G⟩ ⟨J, d5⟩; obtain rfl : q.length = d4 := d5; obtain ⟨a1, f_, a2, hf_, j⟩ := bit J; clear J; have j : (Q63.l0b a0 q u).bind _ = some M := j; unfold Q63.l0b at j
    ·refine At.seq (sR 4 rfl (nT ?_)); rcases bite j with ⟨a3, j⟩ | ⟨a3, j⟩
     ··refine At.condT rfl (decide_eq_true a3) ?_
       refine At.skip (At.thn ?_); refine At.block ?_; refine sR 2 rfl ?_; obtain ⟨b6, j⟩ := bnone j; refine At.y (Y.ixStr rfl rfl rfl rfl b6.1 b6.2) rfl rfl rfl (At.run 1 rfl (nT ?_)); refine At.block ?_; refine sR 3 rfl ?_; obtain ⟨d6, d7, f3, j⟩ := bjoin j; refine At.joinO 3 (X := Bool) (fun L => [(0, .string ⟨(a0).toArray⟩), (4, .slice D q.length G), (5, i6 u), (6, .int .u8 (bat a0 u)), (51, .bool L)]) (fun L => row Q0.fl 115 D q.length G q :: Fr) (fun L => d6 (.inl L) = some M) ?_ (fun b7 => ?_)
       ·rintro L j; have j := (d7 _).symm.trans j
        ·refine At.run 1 rfl (nT ?_); rcases bite j with ⟨a4, j⟩ | ⟨a4, j⟩
         ··refine At.condT rfl a4 ?_
           refine At.region (At.run 3 rfl (At.nil ?_)); refine At.ibn ?_; refine At.ibn ?_; have j := bnx hf_ j; exact fun a w e hs => ⟨a1, (q, IntKind.i64.wrap (u + 1), q.length, D, G), a2, ⟨j, rfl⟩, e.sub ⟨rfl, rfl, rfl, trivial⟩, hs⟩
         ··refine At.condF rfl (bn a4) ?_
           refine sR 3 rfl (nT ?_); rcases bite j with ⟨a5, j⟩ | ⟨a5, j⟩
           ··refine At.condT rfl (decide_eq_true a5) ?_
             refine sR 2 rfl ?_; obtain ⟨b8, j⟩ := bnone j; refine At.y (Y.slStrL rfl rfl rfl rfl b8.1 b8.2) rfl rfl rfl ?_; obtain ⟨d8, d9, j⟩ := bbind j; refine At.call rfl Q153.callee rfl rfl rfl (Q153.spec d9) ?_; rintro _ _ ⟨rfl, rfl⟩; refine At.run 1 rfl (nT (At.seq (sR 2 rfl (At.nil ?_)))); refine At.thn ?_; obtain ⟨e1, e2, f4, j⟩ := bjoin j; refine At.join (X := Int) (fun I => [(0, .string ⟨(a0).toArray⟩), (4, .slice D q.length G), (5, i6 u), (7, i6 I)]) (fun I => row Q0.fl 115 D q.length G q :: Fr) (fun I => e1 (.inl I) = some M) ?_ (fun b9 => ?_)
             ·rintro I j; have j := (e2 _).symm.trans j
              ·refine At.region (At.run 4 rfl (At.nil ?_)); refine At.ibn ?_; refine At.ibn ?_; have j := bnx hf_ j; exact fun a w e hs => ⟨a1, (q, IntKind.i64.wrap (u + I), q.length, D, G), a2, ⟨j, rfl⟩, e.sub ⟨rfl, rfl, rfl, trivial⟩, hs⟩
             ··rcases bite j with ⟨a6, j⟩ | ⟨a6, j⟩
               ··refine At.condT rfl (decide_eq_true a6) ?_
                 refine At.region (At.run 5 rfl (nT ?_)); exact fun a w e hs => b9 (IntKind.i64.wrap ((a0.length : Int) - u)) j a w (e.sub ⟨rfl, rfl, rfl, rfl, trivial⟩) hs
               ··refine At.condF rfl (decide_eq_false a6) ?_
                 refine At.skip (At.thn ?_); exact fun a w e hs => b9 d8 j a w (e.sub ⟨rfl, rfl, rfl, rfl, trivial⟩) hs
           ··refine At.condF rfl (decide_eq_false a5) ?_
             refine sR 2 rfl ?_; obtain ⟨p, e3, j⟩ := bbind j; refine At.call rfl Q147.callee rfl rfl rfl (Q147.spec e3) ?_; rintro _ _ ⟨rfl, rfl⟩; refine At.run 3 rfl ?_; refine At.alloc rfl rfl rfl (fun f5 => ?_); refine At.store rfl rfl rfl rfl .z rfl rfl rfl (.c (.c (.c (.c .n)))) ?_; refine At.run 1 rfl (nT (At.seq (sR 2 rfl (At.nil ?_)))); refine At.thn ?_; rcases bite j with ⟨a7, j⟩ | ⟨a7, j⟩
             ··refine At.condF rfl (nf (decide_eq_true a7)) ?_
               refine At.skip (At.thn (sR 1 rfl (At.y (Y.load rfl rfl .z rfl rfl rfl) rfl rfl rfl ?_))); refine At.lit rfl (xo := [.tmp 37]) (ys := ([(⟨p.2.1, p.2.2.1, p.2.2.2.1, p.2.2.2.2⟩ : Q0)] : List Q0)) Q0.fl rfl rfl rfl rfl rfl rfl rfl rfl rfl rfl rfl (fun f6 f7 => ?_); obtain ⟨e4, j⟩ := bnone j; refine At.append rfl (.s (.s .z)) (Src.own .z (by simp)) rfl rfl rfl rfl rfl rfl rfl rfl e4 (by decide) rfl (fun e5 e6 => ?_); refine At.drop (.s .z) (At.run 1 rfl (nT (At.region (At.run 2 rfl (At.y (Y.load rfl rfl (.s .z) rfl rfl rfl) rfl rfl rfl (At.run 3 rfl ?_)))))); refine At.nil ?_; refine At.ibn ?_; refine At.ibn ?_; refine At.drop (.s .z) ?_; have j := bnx hf_ j; exact fun a w e hs => ⟨a1, ((q ++ ([(⟨p.2.1, p.2.2.1, p.2.2.2.1, p.2.2.2.2⟩ : Q0)] : List Q0)), IntKind.i64.wrap (u + (p.2.2.2.1.length : Int)), (q ++ ([(⟨p.2.1, p.2.2.1, p.2.2.2.1, p.2.2.2.2⟩ : Q0)] : List Q0)).length, e5, e6), a2, ⟨j, rfl⟩, e.sub ⟨rfl, rfl, rfl, trivial⟩, hs⟩
             ··refine At.condT rfl (nt (decide_eq_false a7)) ?_
               refine sR 2 rfl ?_; refine At.y (Y.build (is := [0, 1]) (xo := [.tmp 31, .tmp 32]) (vs := [i6 u, i6 p.1]) (cs := [i6 u, i6 p.1]) rfl rfl rfl rfl rfl rfl) rfl rfl rfl ?_; refine At.box rfl rfl (cs := [i6 u, i6 p.1]) rfl rfl (fun e7 => ?_); refine At.run 3 rfl (nT (At.ret (At.thr ?_))); refine At.ibr ?_; refine At.ibr ?_; have j := bupL c7 b4 j; refine At.thr ?_; refine At.ibr ?_; refine At.thr ?_; refine At.nilRow Q0.fl 115 ?_; refine At.f1 ?_; refine At.optSome (x := (⟨u, p.1⟩ : Q5)) (Ent.fl Q5.fl (x := (⟨u, p.1⟩ : Q5)) rfl) ?_; refine At.drop (.s (.s .z)) (At.drop (.s (.s .z)) (At.f1 ?_)); cases bret j; exact At.res (.inl rfl) rfl rfl ⟨(some e7), 0, none, 0, rfl, rfl, rfl⟩
       ··rcases bite j with ⟨a8, j⟩ | ⟨a8, j⟩
         ··refine At.know (t := 48) rfl (decide_eq_true a8) ?_
           refine At.run 3 rfl ?_; exact At.of (b7 true j) ⟨rfl, rfl, rfl, rfl, rfl, trivial⟩
         ··refine At.know (t := 48) rfl (decide_eq_false a8) ?_
           refine At.run 3 rfl ?_; exact At.of (b7 (decide (bat a0 u = 9)) j) ⟨rfl, rfl, rfl, rfl, rfl, trivial⟩
     ··refine At.condF rfl (decide_eq_false a3) ?_
       refine At.exit ?_; refine At.the ?_; refine At.the ?_; exact fun a w e hs => c8 (q, q.length, D, G) ⟨(bdn j b4), rfl⟩ a w (e.sub ⟨rfl, rfl, trivial⟩) hs

noncomputable def Q59.l0b  (p : List Q0) : Option (((List Q0)) ⊕ (((List Q0)) ⊕ ((List Q0)))) :=
 if (0 : Int) ≤ 0 ∧ 0 < (p.length : Int) then
 if (gt p 0).Kind = 1 then
 if (0 : Int) ≤ 1 ∧ 1 ≤ (p.length : Int) then
 nx (p.drop (1 : Int).toNat)
 else none
 else
 dn (.inl p)
 else none
noncomputable def Q59.l0  (p : List Q0) : Option (((List Q0)) ⊕ ((List Q0))) := iter (fun t_ : (List Q0) => Q59.l0b  t_) p
noncomputable def Q59.f (p : List Q0) (u : Option Q5) (D : Int) (G : List Bs) (I : List Q3) (J : List Q4) (L : List Q9) (M : List (Bs × Bool)) : Option (List Q0) :=
 jn (Q59.l0  p) (fun (q : List Q0) =>
 some q)
theorem Q59.callee : Callee Tryz.prog 57 := ⟨_, Tryz.func57, by kernel_rfl, by kernel_rfl⟩
theorem Q59.spec {M : List Q0} {Z : Option Q5} {O : Int} {p : List Bs} {u : List Q3} {D : List Q4} {G : List Q9} {a0 : List (Bs × Bool)} (I : Option Nat) (hr0_0 : RdS Q0.fl.rep R.heap A0_0 M) (hn0_0 : M.length = n0_0) (hc0_0 : n0_0 ≤ c0_0) (hn0_3 : p.length = n0_3) (hn0_4 : u.length = n0_4) (hn0_5 : D.length = n0_5) (hn0_6 : G.length = n0_6) {r : (List Q0)} (j : Q59.f M Z O p u D G a0 = some r) :
 Spec Tryz.prog 57 [bp b0] R (pc b0 [.slice A0_0 n0_0 c0_0, optp I, i6 O, .slice A0_3 n0_3 c0_3, .slice A0_4 n0_4 c0_4, .slice A0_5 n0_5 c0_5, .slice A0_6 n0_6 c0_6, .map (some b0_7)] 113 :: optb (Ow.fl Q5.fl) 121 I Z :: row Fl.bs 9 A0_3 n0_3 c0_3 p :: row Q3.fl 48 A0_4 n0_4 c0_4 u :: grow Q4.ow 41 A0_5 n0_5 c0_5 D :: row Q9.fl 169 A0_6 n0_6 c0_6 G :: mapo Fl.bs.ov Fl.bool.ov b0_7 a0 :: Fr) (fun v l' => ∃ (a5 : Option Addr) (a1 : Nat) (a6 : Nat), v = .tuple #[] ∧ pc b0 [.slice a5 a1 a6, optp I, i6 O, .slice A0_3 n0_3 c0_3, .slice A0_4 n0_4 c0_4, .slice A0_5 n0_5 c0_5, .slice A0_6 n0_6 c0_6, .map (some b0_7)] 113 :: optb (Ow.fl Q5.fl) 121 I Z :: row Fl.bs 9 A0_3 n0_3 c0_3 p :: row Q3.fl 48 A0_4 n0_4 c0_4 u :: grow Q4.ow 41 A0_5 n0_5 c0_5 D :: row Q9.fl 169 A0_6 n0_6 c0_6 G :: mapo Fl.bs.ov Fl.bool.ov b0_7 a0 :: Fr = l' ∧ RdS Q0.fl.rep R.heap a5 r ∧ r.length = a1 ∧ a1 ≤ a6) := by
 subst hn0_0; subst hn0_3; subst hn0_4; subst hn0_5; subst hn0_6; refine Spec.of Tryz.func57 rfl rfl ?_; unfold Q59.f at j; have j := brun j; refine At.block ?_; obtain ⟨b4, b5, d7, j⟩ := bjoin j; obtain ⟨a7, a2, b6⟩ := bsome j; clear j; unfold Q59.l0 at a2; obtain ⟨a3, U⟩ := Q18.1 a2; clear a2; let T3 : HProp := optb (Ow.fl Q5.fl) 121 I Z; let T4 : HProp := row Fl.bs 9 A0_3 p.length c0_3 p; let T5 : HProp := row Q3.fl 48 A0_4 u.length c0_4 u; let T6 : HProp := grow Q4.ow 41 A0_5 D.length c0_5 D; let T7 : HProp := row Q9.fl 169 A0_6 G.length c0_6 G; let T8 : HProp := mapo Fl.bs.ov Fl.bool.ov b0_7 a0; refine At.loopJ (X := (List Q0) × (Option Addr) × Nat × Nat) (Y := (List Q0) × (Option Addr) × Nat × Nat) (e0 := 0) (fun s_ => [(0, bp b0)]) (fun s_ => pc b0 [.slice s_.2.1 s_.2.2.1 s_.2.2.2, optp I, i6 O, .slice A0_3 p.length c0_3, .slice A0_4 u.length c0_4, .slice A0_5 D.length c0_5, .slice A0_6 G.length c0_6, .map (some b0_7)] 113 :: T3 :: T4 :: T5 :: T6 :: T7 :: T8 :: Fr) (fun m_ => fun s_ => iterN (fun t_ : (List Q0) => Q59.l0b  t_) m_ s_.1 = some a7 ∧ RdS Q0.fl.rep R.heap s_.2.1 s_.1 ∧ s_.1.length = s_.2.2.1 ∧ s_.2.2.1 ≤ s_.2.2.2) a3 (M, A0_0, M.length, c0_0) ⟨U, hr0_0, rfl, hc0_0⟩ (fun s_ => []) (fun s_ => pc b0 [.slice s_.2.1 s_.2.2.1 s_.2.2.2, optp I, i6 O, .slice A0_3 p.length c0_3, .slice A0_4 u.length c0_4, .slice A0_5 D.length c0_5, .slice A0_6 G.length c0_6, .map (some b0_7)] 113 :: T3 :: T4 :: T5 :: T6 :: T7 :: T8 :: Fr) (fun s_ => b4 (.inl s_.1) = some r ∧ RdS Q0.fl.rep R.heap s_.2.1 s_.1 ∧ s_.1.length = s_.2.2.1 ∧ s_.2.2.1 ≤ s_.2.2.2) (fun a w e hs => ⟨e.sub ⟨rfl, trivial⟩, (by exact hs)⟩) ?_ (fun b7 => ?_)
 ·rintro ⟨a8, b8, b9, c4⟩ ⟨j, c5, c6, c7⟩; obtain rfl : a8.length = b9 := c6; have j := (b5 _).symm.trans j
  ·refine At.ibx ?_; cases bret j; exact At.res (.inr rfl) rfl rfl ⟨b8, a8.length, c4, rfl, rfl, c5, rfl, c7⟩
 ·clear U a3; rintro a3 ⟨J, c8, c9, a9⟩ ⟨U, V, d0, b2⟩; obtain rfl : J.length = c9 := d0; obtain ⟨d1, f_, d2, hf_, j⟩ := bit U; clear U; have j : (Q59.l0b  J).bind _ = some a7 := j; unfold Q59.l0b at j
  ·refine At.seq (sR 3 rfl (At.y (Y.load rfl rfl .z rfl rfl rfl) rfl rfl rfl ?_)); obtain ⟨L, j⟩ := bnone j; refine At.y (Y.ixRd V rfl rfl rfl rfl rfl rfl rfl L.1 L.2) rfl rfl rfl ?_; refine At.y (Y.fa (RdS.some_ V rfl L.1 L.2) rfl rfl rfl rfl rfl rfl) rfl rfl rfl ?_; refine At.y (Y.ldFl V rfl (q := 0) rfl rfl L.1 L.2 rfl rfl rfl) rfl rfl rfl (At.run 1 rfl (nT ?_)); rcases bite j with ⟨a4, j⟩ | ⟨a4, j⟩
   ··refine At.condT rfl (decide_eq_true a4) ?_
     refine At.skip (At.thn ?_); refine At.block ?_; refine At.region (At.run 4 rfl (At.y (Y.load rfl rfl .z rfl rfl rfl) rfl rfl rfl ?_)); obtain ⟨b3, j⟩ := bnone j; obtain ⟨d3, d4, d5, d6⟩ := Y.slFromAt (P := Tryz.prog) (R := R) rfl V b2 b3.1 b3.2; refine At.y (d6 rfl rfl rfl rfl rfl rfl) rfl rfl rfl ?_; refine At.run 2 rfl ?_; refine At.store rfl rfl rfl rfl .z rfl rfl rfl (.c .n) ?_; refine At.nil ?_; refine At.ibn ?_; have j := bnx hf_ j; exact fun a w e hs => ⟨d1, ((J.drop (1 : Int).toNat), d3, (J.drop (1 : Int).toNat).length, (a9 - (1 : Int).toNat)), d2, ⟨j, d4, rfl, d5⟩, e.sub ⟨rfl, trivial⟩, hs⟩
   ··refine At.condF rfl (decide_eq_false a4) ?_
     refine At.exit ?_; refine At.the ?_; refine At.the ?_; exact fun a w e hs => b7 (J, c8, J.length, a9) ⟨(bdn j b6), V, rfl, b2⟩ a w (e.sub trivial) hs

noncomputable def Q20.f (u : List Q0) (p : Option Q5) (D : Int) (G : List Bs) (I : List Q3) (J : List Q4) (L : List Q9) (M : List (Bs × Bool)) (O : Int) (q : Int) (U : Bs) (V : Int) (a2 : Int) : Option (Option Q5) :=
 if p.isNone = true then
 some (some (⟨q, a2⟩ : Q5))
 else
 some p
theorem Q20.callee : Callee Tryz.prog 61 := ⟨_, Tryz.func61, by kernel_rfl, by kernel_rfl⟩
theorem Q20.spec {I : List Q0} {Z : Option Q5} {J L p M a2 : Int} {q : List Bs} {u : List Q3} {D : List Q4} {G : List Q9} {O : List (Bs × Bool)} {U : Bs} (V : Option Nat) (hr0_0 : RdS Q0.fl.rep R.heap A0_0 I) (hn0_0 : I.length = n0_0) (hc0_0 : n0_0 ≤ c0_0) (hn0_3 : q.length = n0_3) (hn0_4 : u.length = n0_4) (hn0_5 : D.length = n0_5) (hn0_6 : G.length = n0_6) {r : (Option Q5)} (j : Q20.f I Z J q u D G O L p U M a2 = some r) :
 Spec Tryz.prog 61 [bp b0, .agg #[i6 L, i6 p, .string ⟨(U).toArray⟩, i6 M], i6 a2] R (pc b0 [.slice A0_0 n0_0 c0_0, optp V, i6 J, .slice A0_3 n0_3 c0_3, .slice A0_4 n0_4 c0_4, .slice A0_5 n0_5 c0_5, .slice A0_6 n0_6 c0_6, .map (some b0_7)] 113 :: optb (Ow.fl Q5.fl) 121 V Z :: row Fl.bs 9 A0_3 n0_3 c0_3 q :: row Q3.fl 48 A0_4 n0_4 c0_4 u :: grow Q4.ow 41 A0_5 n0_5 c0_5 D :: row Q9.fl 169 A0_6 n0_6 c0_6 G :: mapo Fl.bs.ov Fl.bool.ov b0_7 O :: Fr) (fun v l' => ∃ (a0 : Option Nat), v = .tuple #[] ∧ optb (Ow.fl Q5.fl) 121 a0 r :: pc b0 [.slice A0_0 n0_0 c0_0, optp a0, i6 J, .slice A0_3 n0_3 c0_3, .slice A0_4 n0_4 c0_4, .slice A0_5 n0_5 c0_5, .slice A0_6 n0_6 c0_6, .map (some b0_7)] 113 :: row Fl.bs 9 A0_3 n0_3 c0_3 q :: row Q3.fl 48 A0_4 n0_4 c0_4 u :: grow Q4.ow 41 A0_5 n0_5 c0_5 D :: row Q9.fl 169 A0_6 n0_6 c0_6 G :: mapo Fl.bs.ov Fl.bool.ov b0_7 O :: Fr = l') := by
 subst hn0_0; subst hn0_3; subst hn0_4; subst hn0_5; subst hn0_6; refine Spec.of Tryz.func61 rfl rfl ?_; unfold Q20.f at j; have j := brun j; refine At.seq (At.region ?_); refine At.box rfl rfl (cs := [i6 L, i6 p, .string ⟨(U).toArray⟩, i6 M]) rfl rfl (fun a3 => ?_); refine nT (sR 3 rfl (At.y (Y.load rfl rfl (.s .z) rfl rfl rfl) rfl rfl rfl ?_)); refine At.y (Y.eqOpt (.s (.s .z)) rfl rfl rfl rfl) rfl rfl rfl ?_; refine nT ?_; rcases bite j with ⟨X, j⟩ | ⟨X, j⟩
 ··refine At.condT rfl X ?_
   refine At.region (At.run 2 rfl (At.y (Y.load rfl rfl .z rfl rfl rfl) rfl rfl rfl (At.run 1 rfl ?_))); refine At.y (Y.build (is := [0, 1]) (xo := [.tmp 13, .tmp 14]) (vs := [i6 p, i6 a2]) (cs := [i6 p, i6 a2]) rfl rfl rfl rfl rfl rfl) rfl rfl rfl ?_; refine At.box rfl rfl (cs := [i6 p, i6 a2]) rfl rfl (fun a1 => ?_); refine At.run 2 rfl ?_; refine At.store rfl rfl rfl rfl (.s (.s .z)) rfl rfl rfl (.s (.c .n)) ?_; refine At.nil (At.f1 ?_); refine At.optSome (x := (⟨p, a2⟩ : Q5)) (Ent.fl Q5.fl (x := (⟨p, a2⟩ : Q5)) rfl) ?_; refine At.drop (.s (.s .z)) (At.drop (.s (.s .z)) ?_); cases bret j; exact At.res (.inr rfl) rfl rfl ⟨(some a1), rfl, rfl⟩
 ··refine At.condF rfl (bn X) ?_
   refine At.skip (At.drop .z (At.f6 (At.f6 (At.f6 (At.f6 (At.f6 (At.f5 ?_))))))); refine At.f6 ?_; cases bret j; exact At.res (.inr rfl) rfl rfl ⟨V, rfl, rfl⟩

noncomputable def Q49.f (p : List Q0) (q : Option Q5) (u : Int) (D : List Bs) (G : List Q3) (I : List Q4) (J : List Q9) (L : List (Bs × Bool)) (a1 : Int) : Option ((Option Q5) × (List Q0) × Int × Int × Bs × Int) :=
 if q.isNone = true then
 if (0 : Int) ≤ 0 ∧ 0 < (p.length : Int) then
 jn (
 if (gt p 0).Kind = a1 then
 if (0 : Int) ≤ 1 ∧ 1 ≤ (p.length : Int) then
 up (some (q, (p.drop (1 : Int).toNat), (gt p 0).Kind, (gt p 0).At, (gt p 0).Text, (gt p 0).Number))
 else none
 else
 if (gt p 0).Kind = 0 then
 (Q20.f p q u D G I J L ((gt p 0).Kind) ((gt p 0).At) ((gt p 0).Text) ((gt p 0).Number) 6).bind fun M =>
 some (.inl M)
 else
 (Q20.f p q u D G I J L ((gt p 0).Kind) ((gt p 0).At) ((gt p 0).Text) ((gt p 0).Number) 7).bind fun O =>
 some (.inl O)) (fun (U : Option Q5) =>
 some (U, p, 0, 0, ([] : Bs), 0))
 else none
 else
 some (q, p, 0, 0, ([] : Bs), 0)
theorem Q49.callee : Callee Tryz.prog 58 := ⟨_, Tryz.func58, by kernel_rfl, by kernel_rfl⟩
theorem Q49.spec {p : List Q0} {a2 : Option Q5} {L a1 : Int} {u : List Bs} {D : List Q3} {G : List Q4} {I : List Q9} {M : List (Bs × Bool)} (J : Option Nat) (hr0_0 : RdS Q0.fl.rep R.heap A0_0 p) (hn0_0 : p.length = n0_0) (hc0_0 : n0_0 ≤ c0_0) (hn0_3 : u.length = n0_3) (hn0_4 : D.length = n0_4) (hn0_5 : G.length = n0_5) (hn0_6 : I.length = n0_6) {r : (Option Q5) × (List Q0) × Int × Int × Bs × Int} (j : Q49.f p a2 L u D G I M a1 = some r) :
 Spec Tryz.prog 58 [bp b0, i6 a1] R (pc b0 [.slice A0_0 n0_0 c0_0, optp J, i6 L, .slice A0_3 n0_3 c0_3, .slice A0_4 n0_4 c0_4, .slice A0_5 n0_5 c0_5, .slice A0_6 n0_6 c0_6, .map (some b0_7)] 113 :: optb (Ow.fl Q5.fl) 121 J a2 :: row Fl.bs 9 A0_3 n0_3 c0_3 u :: row Q3.fl 48 A0_4 n0_4 c0_4 D :: grow Q4.ow 41 A0_5 n0_5 c0_5 G :: row Q9.fl 169 A0_6 n0_6 c0_6 I :: mapo Fl.bs.ov Fl.bool.ov b0_7 M :: Fr) (fun v l' => ∃ (a3 : Option Nat) (a4 : Option Addr) (U : Nat) (a5 : Nat), v = .agg #[i6 r.2.2.1, i6 r.2.2.2.1, .string ⟨(r.2.2.2.2.1).toArray⟩, i6 r.2.2.2.2.2] ∧ optb (Ow.fl Q5.fl) 121 a3 r.1 :: pc b0 [.slice a4 U a5, optp a3, i6 L, .slice A0_3 n0_3 c0_3, .slice A0_4 n0_4 c0_4, .slice A0_5 n0_5 c0_5, .slice A0_6 n0_6 c0_6, .map (some b0_7)] 113 :: row Fl.bs 9 A0_3 n0_3 c0_3 u :: row Q3.fl 48 A0_4 n0_4 c0_4 D :: grow Q4.ow 41 A0_5 n0_5 c0_5 G :: row Q9.fl 169 A0_6 n0_6 c0_6 I :: mapo Fl.bs.ov Fl.bool.ov b0_7 M :: Fr = l' ∧ RdS Q0.fl.rep R.heap a4 r.2.1 ∧ r.2.1.length = U ∧ U ≤ a5) := by
 subst hn0_0; subst hn0_3; subst hn0_4; subst hn0_5; subst hn0_6; refine Spec.of Tryz.func58 rfl rfl ?_; unfold Q49.f at j; have j := brun j; refine At.seq (At.region ?_); refine At.alloc rfl rfl rfl (fun a6 => ?_); refine nT (At.seq (sR 3 rfl (At.y (Y.load rfl rfl (.s .z) rfl rfl rfl) rfl rfl rfl ?_))); refine At.y (Y.neOpt (.s (.s .z)) rfl rfl rfl rfl) rfl rfl rfl ?_; refine nT ?_; rcases bite j with ⟨V, j⟩ | ⟨V, j⟩
 ··refine At.condF rfl (nf V) ?_
   refine At.skip (At.thn (sR 3 rfl (At.y (Y.load rfl rfl (.s .z) rfl rfl rfl) rfl rfl rfl ?_))); obtain ⟨O, j⟩ := bnone j; refine At.y (Y.ixRd hr0_0 rfl rfl rfl rfl rfl rfl rfl O.1 O.2) rfl rfl rfl (At.y (Y.ldFl hr0_0 rfl (q := 0) rfl rfl O.1 O.2 rfl rfl rfl) rfl rfl rfl ?_); refine At.store rfl rfl rfl rfl .z rfl rfl rfl (.c (.c (.c (.c .n)))) ?_; refine nT (At.seq ?_); obtain ⟨a9, b2, b3, j⟩ := bjoin j; let T9 : HProp := pc a6 [i6 ((gt p 0).Kind), i6 ((gt p 0).At), .string ⟨((gt p 0).Text).toArray⟩, i6 ((gt p 0).Number)] 115; refine At.join (X := (Option Q5) × (Option Nat)) (fun s_ => [(4, bp a6)]) (fun s_ => optb (Ow.fl Q5.fl) 121 s_.2 s_.1 :: pc b0 [.slice A0_0 p.length c0_0, optp s_.2, i6 L, .slice A0_3 u.length c0_3, .slice A0_4 D.length c0_4, .slice A0_5 G.length c0_5, .slice A0_6 I.length c0_6, .map (some b0_7)] 113 :: row Fl.bs 9 A0_3 u.length c0_3 u :: row Q3.fl 48 A0_4 D.length c0_4 D :: grow Q4.ow 41 A0_5 G.length c0_5 G :: row Q9.fl 169 A0_6 I.length c0_6 I :: mapo Fl.bs.ov Fl.bool.ov b0_7 M :: T9 :: Fr) (fun s_ => a9 (.inl s_.1) = some r) ?_ (fun a7 => ?_)
   ·rintro ⟨c9, b4⟩ j; have j := (b2 _).symm.trans j
    ·refine At.seq (At.region ?_); refine At.y (Y.build (is := []) (xo := []) (vs := []) (cs := [i6 0, i6 0, .string ⟨(([] : Bs)).toArray⟩, i6 0]) rfl rfl rfl rfl rfl rfl) rfl rfl rfl ?_; refine At.store rfl rfl rfl rfl (.s (.s (.s (.s (.s (.s (.s .z))))))) rfl rfl rfl (.c (.c (.c (.c .n)))) ?_; refine nT (At.ret ?_); refine At.resM (.inl rfl) rfl (RV.cell rfl rfl .z rfl rfl rfl RV.nil) ?_; refine At.drop .z ?_; cases bret j; exact fun a w e hs => ⟨_, ⟨b4, A0_0, p.length, c0_0, rfl, rfl, hr0_0, rfl, hc0_0⟩, hs⟩
   ··refine At.block ?_
     refine sR 1 rfl (At.y (Y.load rfl rfl .z rfl rfl rfl) rfl rfl rfl (At.run 3 rfl (nT ?_))); rcases bite j with ⟨Z, j⟩ | ⟨Z, j⟩
     ··refine At.condT rfl (decide_eq_true Z) ?_
       refine sR 4 rfl (At.y (Y.load rfl rfl (.s .z) rfl rfl rfl) rfl rfl rfl ?_); obtain ⟨a8, j⟩ := bnone j; obtain ⟨b5, b6, b7, b8⟩ := Y.slFromAt (P := Tryz.prog) (R := R) rfl hr0_0 hc0_0 a8.1 a8.2; refine At.y (b8 rfl rfl rfl rfl rfl rfl) rfl rfl rfl ?_; refine At.run 2 rfl ?_; refine At.store rfl rfl rfl rfl (.s .z) rfl rfl rfl (.c .n) ?_; refine nT (At.seq (At.region (At.y (Y.load rfl rfl (.s .z) rfl rfl rfl) rfl rfl rfl ?_))); refine At.store rfl rfl rfl rfl (.s .z) rfl rfl rfl (.c (.c (.c (.c .n)))) ?_; refine nT (At.ret ?_); refine At.ibr ?_; have j := bup b3 j; refine At.thr ?_; refine At.resM (.inl rfl) rfl (RV.cell rfl rfl .z rfl rfl rfl RV.nil) ?_; refine At.drop .z (At.f6 (At.f6 (At.f6 (At.f6 (At.f6 (At.f5 (At.f6 ?_))))))); cases bret j; exact fun a w e hs => ⟨_, ⟨J, b5, (p.drop (1 : Int).toNat).length, (c0_0 - (1 : Int).toNat), rfl, rfl, b6, rfl, b7⟩, hs⟩
     ··refine At.condF rfl (decide_eq_false Z) ?_
       refine sR 1 rfl (At.y (Y.load rfl rfl .z rfl rfl rfl) rfl rfl rfl (At.run 2 rfl (nT ?_))); rcases bite j with ⟨a0, j⟩ | ⟨a0, j⟩
       ··refine At.condT rfl (decide_eq_true a0) ?_
         refine At.region (At.run 1 rfl (At.y (Y.load rfl rfl .z rfl rfl rfl) rfl rfl rfl (At.f7 (At.f7 (At.f7 (At.f7 (At.f7 ?_))))))); refine At.f7 (At.f7 ?_); obtain ⟨b9, c4, j⟩ := bbind j; refine At.call rfl Q20.callee rfl rfl rfl (Q20.spec J hr0_0 rfl hc0_0 rfl rfl rfl rfl c4) ?_; rintro _ _ ⟨c5, rfl, rfl⟩; refine At.nil ?_; refine At.ibn ?_; refine At.thn ?_; exact fun a w e hs => a7 (b9, c5) j a w (e.sub ⟨rfl, trivial⟩) hs
       ··refine At.condF rfl (decide_eq_false a0) ?_
         refine At.region (At.run 1 rfl (At.y (Y.load rfl rfl .z rfl rfl rfl) rfl rfl rfl (At.f7 (At.f7 (At.f7 (At.f7 (At.f7 ?_))))))); refine At.f7 (At.f7 ?_); obtain ⟨c6, c7, j⟩ := bbind j; refine At.call rfl Q20.callee rfl rfl rfl (Q20.spec J hr0_0 rfl hc0_0 rfl rfl rfl rfl c7) ?_; rintro _ _ ⟨c8, rfl, rfl⟩; refine At.nil ?_; refine At.ibn ?_; refine At.thn ?_; exact fun a w e hs => a7 (c6, c8) j a w (e.sub ⟨rfl, trivial⟩) hs
 ··refine At.condT rfl (nt (bn V)) ?_
   refine At.seq (At.region (At.y (Y.load rfl rfl .z rfl rfl rfl) rfl rfl rfl ?_)); refine At.store rfl rfl rfl rfl .z rfl rfl rfl (.c (.c (.c (.c .n)))) ?_; refine nT (At.ret (At.thr ?_)); refine At.resM (.inl rfl) rfl (RV.cell rfl rfl .z rfl rfl rfl RV.nil) ?_; refine At.drop .z (At.f6 (At.f6 (At.f6 (At.f6 (At.f6 (At.f5 (At.f6 ?_))))))); cases bret j; exact fun a w e hs => ⟨_, ⟨J, A0_0, p.length, c0_0, rfl, rfl, hr0_0, rfl, hc0_0⟩, hs⟩

noncomputable def Q110.f (p : List Q0) (u : Option Q5) (D : Int) (G : List Bs) (I : List Q3) (J : List Q4) (L : List Q9) (M : List (Bs × Bool)) : Option Bool :=
 if (0 : Int) ≤ 0 ∧ 0 < (p.length : Int) then
 jn (
 if (gt p 0).Kind = 0 then
 some (.inl true)
 else
 some (.inl (decide ((gt p 0).Kind = 1)))) (fun (q : Bool) =>
 some q)
 else none
theorem Q110.callee : Callee Tryz.prog 116 := ⟨_, Tryz.func116, by kernel_rfl, by kernel_rfl⟩
theorem Q110.spec {L : List Q0} {O : Option Q5} {U : Int} {u : List Bs} {D : List Q3} {G : List Q4} {I : List Q9} {V : List (Bs × Bool)} (J : Option Nat) (hr0_0 : RdS Q0.fl.rep R.heap A0_0 L) (hn0_0 : L.length = n0_0) (hc0_0 : n0_0 ≤ c0_0) (hn0_3 : u.length = n0_3) (hn0_4 : D.length = n0_4) (hn0_5 : G.length = n0_5) (hn0_6 : I.length = n0_6) {r : Bool} (j : Q110.f L O U u D G I V = some r) :
 Spec Tryz.prog 116 [bp b0] R (pc b0 [.slice A0_0 n0_0 c0_0, optp J, i6 U, .slice A0_3 n0_3 c0_3, .slice A0_4 n0_4 c0_4, .slice A0_5 n0_5 c0_5, .slice A0_6 n0_6 c0_6, .map (some b0_7)] 113 :: optb (Ow.fl Q5.fl) 121 J O :: row Fl.bs 9 A0_3 n0_3 c0_3 u :: row Q3.fl 48 A0_4 n0_4 c0_4 D :: grow Q4.ow 41 A0_5 n0_5 c0_5 G :: row Q9.fl 169 A0_6 n0_6 c0_6 I :: mapo Fl.bs.ov Fl.bool.ov b0_7 V :: Fr) (fun v l' => v = .bool r ∧ pc b0 [.slice A0_0 n0_0 c0_0, optp J, i6 U, .slice A0_3 n0_3 c0_3, .slice A0_4 n0_4 c0_4, .slice A0_5 n0_5 c0_5, .slice A0_6 n0_6 c0_6, .map (some b0_7)] 113 :: optb (Ow.fl Q5.fl) 121 J O :: row Fl.bs 9 A0_3 n0_3 c0_3 u :: row Q3.fl 48 A0_4 n0_4 c0_4 D :: grow Q4.ow 41 A0_5 n0_5 c0_5 G :: row Q9.fl 169 A0_6 n0_6 c0_6 I :: mapo Fl.bs.ov Fl.bool.ov b0_7 V :: Fr = l') := by
 subst hn0_0; subst hn0_3; subst hn0_4; subst hn0_5; subst hn0_6; refine Spec.of Tryz.func116 rfl rfl ?_; unfold Q110.f at j; have j := brun j; refine sR 1 rfl (nT (sR 3 rfl ?_)); refine At.y (Y.load rfl rfl .z rfl rfl rfl) rfl rfl rfl ?_; obtain ⟨p, j⟩ := bnone j; refine At.y (Y.ixRd hr0_0 rfl rfl rfl rfl rfl rfl rfl p.1 p.2) rfl rfl rfl ?_; refine At.y (Y.fa (RdS.some_ hr0_0 rfl p.1 p.2) rfl rfl rfl rfl rfl rfl) rfl rfl rfl ?_; refine At.y (Y.ldFl hr0_0 rfl (q := 0) rfl rfl p.1 p.2 rfl rfl rfl) rfl rfl rfl (At.run 2 rfl ?_); obtain ⟨a1, a2, a4, j⟩ := bjoin j; let a3 : HProp := pc b0 [.slice A0_0 L.length c0_0, optp J, i6 U, .slice A0_3 u.length c0_3, .slice A0_4 D.length c0_4, .slice A0_5 G.length c0_5, .slice A0_6 I.length c0_6, .map (some b0_7)] 113; refine At.joinO 9 (X := Bool) (fun M => [(20, .bool M)]) (fun M => a3 :: optb (Ow.fl Q5.fl) 121 J O :: row Fl.bs 9 A0_3 u.length c0_3 u :: row Q3.fl 48 A0_4 D.length c0_4 D :: grow Q4.ow 41 A0_5 G.length c0_5 G :: row Q9.fl 169 A0_6 I.length c0_6 I :: mapo Fl.bs.ov Fl.bool.ov b0_7 V :: Fr) (fun M => a1 (.inl M) = some r) ?_ (fun a0 => ?_)
 ·rintro M j; have j := (a2 _).symm.trans j
  ·refine At.run 1 rfl (nT (At.ret ?_)); cases bret j; exact At.res (.inl rfl) rfl rfl ⟨rfl, rfl⟩
 ··rcases bite j with ⟨Z, j⟩ | ⟨Z, j⟩
   ··refine At.know (t := 11) rfl (decide_eq_true Z) ?_
     refine At.run 9 rfl ?_; exact At.of (a0 true j) ⟨rfl, trivial⟩
   ··refine At.know (t := 11) rfl (decide_eq_false Z) ?_
     refine At.run 3 rfl (At.y (Y.load rfl rfl .z rfl rfl rfl) rfl rfl rfl (At.y (Y.ixRd hr0_0 rfl rfl rfl rfl rfl rfl rfl p.1 p.2) rfl rfl rfl ?_)); refine At.y (Y.fa (RdS.some_ hr0_0 rfl p.1 p.2) rfl rfl rfl rfl rfl rfl) rfl rfl rfl ?_; refine At.y (Y.ldFl hr0_0 rfl (q := 0) rfl rfl p.1 p.2 rfl rfl rfl) rfl rfl rfl (At.run 2 rfl ?_); exact At.of (a0 (decide ((gt L 0).Kind = 1)) j) ⟨rfl, trivial⟩

noncomputable def Q116.f (p : List Q0) (q : Option Q5) (u : Int) (D : List Bs) (G : List Q3) (I : List Q4) (J : List Q9) (L : List (Bs × Bool)) : Option (Option Q5) :=
 (Q110.f p q u D G I J L).bind fun M =>
 if M = true then
 some q
 else
 if (0 : Int) ≤ 0 ∧ 0 < (p.length : Int) then
 (Q20.f p q u D G I J L ((gt p 0).Kind) ((gt p 0).At) ((gt p 0).Text) ((gt p 0).Number) 7).bind fun O =>
 some O
 else none
theorem Q116.callee : Callee Tryz.prog 110 := ⟨_, Tryz.func110, by kernel_rfl, by kernel_rfl⟩
theorem Q116.spec {L : List Q0} {V : Option Q5} {M : Int} {u : List Bs} {D : List Q3} {G : List Q4} {I : List Q9} {O : List (Bs × Bool)} (p : Option Nat) (hr0_0 : RdS Q0.fl.rep R.heap A0_0 L) (hn0_0 : L.length = n0_0) (hc0_0 : n0_0 ≤ c0_0) (hn0_3 : u.length = n0_3) (hn0_4 : D.length = n0_4) (hn0_5 : G.length = n0_5) (hn0_6 : I.length = n0_6) {r : (Option Q5)} (j : Q116.f L V M u D G I O = some r) :
 Spec Tryz.prog 110 [bp b0] R (pc b0 [.slice A0_0 n0_0 c0_0, optp p, i6 M, .slice A0_3 n0_3 c0_3, .slice A0_4 n0_4 c0_4, .slice A0_5 n0_5 c0_5, .slice A0_6 n0_6 c0_6, .map (some b0_7)] 113 :: optb (Ow.fl Q5.fl) 121 p V :: row Fl.bs 9 A0_3 n0_3 c0_3 u :: row Q3.fl 48 A0_4 n0_4 c0_4 D :: grow Q4.ow 41 A0_5 n0_5 c0_5 G :: row Q9.fl 169 A0_6 n0_6 c0_6 I :: mapo Fl.bs.ov Fl.bool.ov b0_7 O :: Fr) (fun v l' => ∃ (X : Option Nat), v = .tuple #[] ∧ pc b0 [.slice A0_0 n0_0 c0_0, optp X, i6 M, .slice A0_3 n0_3 c0_3, .slice A0_4 n0_4 c0_4, .slice A0_5 n0_5 c0_5, .slice A0_6 n0_6 c0_6, .map (some b0_7)] 113 :: optb (Ow.fl Q5.fl) 121 X r :: row Fl.bs 9 A0_3 n0_3 c0_3 u :: row Q3.fl 48 A0_4 n0_4 c0_4 D :: grow Q4.ow 41 A0_5 n0_5 c0_5 G :: row Q9.fl 169 A0_6 n0_6 c0_6 I :: mapo Fl.bs.ov Fl.bool.ov b0_7 O :: Fr = l') := by
 subst hn0_0; subst hn0_3; subst hn0_4; subst hn0_5; subst hn0_6; refine Spec.of Tryz.func110 rfl rfl ?_; unfold Q116.f at j; have j := brun j; refine sR 1 rfl ?_; obtain ⟨a2, Z, j⟩ := bbind j; refine At.call rfl Q110.callee rfl rfl rfl (Q110.spec p hr0_0 rfl hc0_0 rfl rfl rfl rfl Z) ?_; rintro _ _ ⟨rfl, rfl⟩; refine At.run 1 rfl (nT ?_); rcases bite j with ⟨U, j⟩ | ⟨U, j⟩
 ··refine At.condF rfl (nf U) ?_
   refine At.skip ?_; cases bret j; exact At.res (.inr rfl) rfl rfl ⟨p, rfl, rfl⟩
 ··refine At.condT rfl (nt (bn U)) ?_
   refine At.region (At.run 4 rfl (At.y (Y.load rfl rfl .z rfl rfl rfl) rfl rfl rfl ?_)); obtain ⟨J, j⟩ := bnone j; refine At.y (Y.ixRd hr0_0 rfl rfl rfl rfl rfl rfl rfl J.1 J.2) rfl rfl rfl (At.y (Y.ldFl hr0_0 rfl (q := 0) rfl rfl J.1 J.2 rfl rfl rfl) rfl rfl rfl ?_); obtain ⟨a3, a0, j⟩ := bbind j; refine At.call rfl Q20.callee rfl rfl rfl (Q20.spec p hr0_0 rfl hc0_0 rfl rfl rfl rfl a0) ?_; rintro _ _ ⟨a1, rfl, rfl⟩; refine At.nil (At.f6 (At.f6 (At.f6 (At.f6 (At.f6 (At.f5 (At.f6 ?_))))))); cases bret j; exact At.res (.inr rfl) rfl rfl ⟨a1, rfl, rfl⟩

noncomputable def Q134.f (O : List Q0) (M : Option Q5) (L : Int) (u : List Bs) (D : List Q3) (G : List Q4) (I : List Q9) (J : List (Bs × Bool)) : Option ((Option Q5) × (List Q0) × Int) :=
 (Q59.f O M L u D G I J).bind fun U =>
 (Q49.f U M L u D G I J 2).bind fun q =>
 jn (
 if q.1.isNone = true then
 some (.inl (!(bseq q.2.2.2.2.1 ([115, 116, 97, 116, 101, 115] : Bs))))
 else
 some (.inl false)) (fun (V : Bool) =>
 jn (
 if V = true then
 (Q20.f q.2.1 q.1 L u D G I J q.2.2.1 q.2.2.2.1 q.2.2.2.2.1 q.2.2.2.2.2 7).bind fun X =>
 some (.inl X)
 else
 some (.inl q.1)) (fun (Z : Option Q5) =>
 (Q49.f q.2.1 Z L u D G I J 4).bind fun p =>
 jn (
 if p.1.isNone = true then
 jn (
 if p.2.2.2.2.2 < 1 then
 some (.inl true)
 else
 some (.inl (decide (24 < p.2.2.2.2.2)))) (fun (a0 : Bool) =>
 some (.inl a0))
 else
 some (.inl false)) (fun (a1 : Bool) =>
 jn (
 if a1 = true then
 (Q20.f p.2.1 p.1 p.2.2.2.2.2 u D G I J p.2.2.1 p.2.2.2.1 p.2.2.2.2.1 p.2.2.2.2.2 8).bind fun a2 =>
 some (.inl a2)
 else
 some (.inl p.1)) (fun (a3 : Option Q5) =>
 (Q116.f p.2.1 a3 p.2.2.2.2.2 u D G I J).bind fun a4 =>
 some (a4, p.2.1, p.2.2.2.2.2)))))
theorem Q134.callee : Callee Tryz.prog 56 := ⟨_, Tryz.func56, by kernel_rfl, by kernel_rfl⟩
theorem Q134.spec {a2 : List Q0} {b7 : Option Q5} {Z : Int} {p : List Bs} {q : List Q3} {u : List Q4} {D : List Q9} {J : List (Bs × Bool)} (a0 : Option Nat) (hr0_0 : RdS Q0.fl.rep R.heap A0_0 a2) (hn0_0 : a2.length = n0_0) (hc0_0 : n0_0 ≤ c0_0) (hn0_3 : p.length = n0_3) (hn0_4 : q.length = n0_4) (hn0_5 : u.length = n0_5) (hn0_6 : D.length = n0_6) {r : (Option Q5) × (List Q0) × Int} (j : Q134.f a2 b7 Z p q u D J = some r) :
 Spec Tryz.prog 56 [bp b0] R (pc b0 [.slice A0_0 n0_0 c0_0, optp a0, i6 Z, .slice A0_3 n0_3 c0_3, .slice A0_4 n0_4 c0_4, .slice A0_5 n0_5 c0_5, .slice A0_6 n0_6 c0_6, .map (some b0_7)] 113 :: optb (Ow.fl Q5.fl) 121 a0 b7 :: row Fl.bs 9 A0_3 n0_3 c0_3 p :: row Q3.fl 48 A0_4 n0_4 c0_4 q :: grow Q4.ow 41 A0_5 n0_5 c0_5 u :: row Q9.fl 169 A0_6 n0_6 c0_6 D :: mapo Fl.bs.ov Fl.bool.ov b0_7 J :: Fr) (fun v l' => ∃ (b8 : Option Nat) (b9 : Option Addr) (a3 : Nat) (c4 : Nat), v = .tuple #[] ∧ optb (Ow.fl Q5.fl) 121 b8 r.1 :: pc b0 [.slice b9 a3 c4, optp b8, i6 r.2.2, .slice A0_3 n0_3 c0_3, .slice A0_4 n0_4 c0_4, .slice A0_5 n0_5 c0_5, .slice A0_6 n0_6 c0_6, .map (some b0_7)] 113 :: row Fl.bs 9 A0_3 n0_3 c0_3 p :: row Q3.fl 48 A0_4 n0_4 c0_4 q :: grow Q4.ow 41 A0_5 n0_5 c0_5 u :: row Q9.fl 169 A0_6 n0_6 c0_6 D :: mapo Fl.bs.ov Fl.bool.ov b0_7 J :: Fr = l' ∧ RdS Q0.fl.rep R.heap b9 r.2.1 ∧ r.2.1.length = a3 ∧ a3 ≤ c4) := by
 subst hn0_0; subst hn0_3; subst hn0_4; subst hn0_5; subst hn0_6; refine Spec.of Tryz.func56 rfl rfl ?_; unfold Q134.f at j; have j := brun j; refine sR 1 rfl ?_; obtain ⟨g7, d6, j⟩ := bbind j; refine At.call rfl Q59.callee rfl rfl rfl (Q59.spec a0 hr0_0 rfl hc0_0 rfl rfl rfl rfl d6) ?_; rintro _ _ ⟨g8, g9, h0, rfl, rfl, d7, rfl, d8⟩; refine nT (At.seq (sR 1 rfl ?_)); obtain ⟨I, d9, j⟩ := bbind j; refine At.call rfl Q49.callee rfl rfl rfl (Q49.spec a0 d7 rfl d8 rfl rfl rfl rfl d9) ?_; rintro _ _ ⟨a1, c5, h1, c6, rfl, rfl, c7, rfl, c8⟩; refine At.alloc rfl rfl rfl (fun c9 => ?_); refine At.store rfl rfl rfl rfl .z rfl rfl rfl (.c (.c (.c (.c .n)))) ?_; refine nT (sR 3 rfl (At.y (Y.load rfl rfl (.s (.s .z)) rfl rfl rfl) rfl rfl rfl ?_)); refine At.y (Y.eqOpt (.s .z) rfl rfl rfl rfl) rfl rfl rfl ?_; refine At.run 1 rfl ?_; obtain ⟨e0, e1, h2, j⟩ := bjoin j; let M : HProp := pc c9 [i6 I.2.2.1, i6 I.2.2.2.1, .string ⟨(I.2.2.2.2.1).toArray⟩, i6 I.2.2.2.2.2] 115; let e2 : HProp := pc b0 [.slice c5 I.2.1.length c6, optp a1, i6 Z, .slice A0_3 p.length c0_3, .slice A0_4 q.length c0_4, .slice A0_5 u.length c0_5, .slice A0_6 D.length c0_6, .map (some b0_7)] 113; refine At.joinO 4 (X := Bool) (fun O => [(0, bp b0), (2, bp c9), (17, .bool O)]) (fun O => M :: optb (Ow.fl Q5.fl) 121 a1 I.1 :: e2 :: row Fl.bs 9 A0_3 p.length c0_3 p :: row Q3.fl 48 A0_4 q.length c0_4 q :: grow Q4.ow 41 A0_5 u.length c0_5 u :: row Q9.fl 169 A0_6 D.length c0_6 D :: mapo Fl.bs.ov Fl.bool.ov b0_7 J :: Fr) (fun O => e0 (.inl O) = some r) ?_ (fun d0 => ?_)
 ·rintro O j; have j := (e1 _).symm.trans j
  ·refine nT ?_; obtain ⟨e3, e4, h3, j⟩ := bjoin j; refine At.join (X := (Option Q5) × (Option Nat)) (fun s_ => [(0, bp b0)]) (fun s_ => optb (Ow.fl Q5.fl) 121 s_.2 s_.1 :: pc b0 [.slice c5 I.2.1.length c6, optp s_.2, i6 Z, .slice A0_3 p.length c0_3, .slice A0_4 q.length c0_4, .slice A0_5 u.length c0_5, .slice A0_6 D.length c0_6, .map (some b0_7)] 113 :: row Fl.bs 9 A0_3 p.length c0_3 p :: row Q3.fl 48 A0_4 q.length c0_4 q :: grow Q4.ow 41 A0_5 u.length c0_5 u :: row Q9.fl 169 A0_6 D.length c0_6 D :: mapo Fl.bs.ov Fl.bool.ov b0_7 J :: M :: Fr) (fun s_ => e3 (.inl s_.1) = some r) ?_ (fun d1 => ?_)
   ·rintro ⟨h4, e5⟩ j; have j := (e4 _).symm.trans j
    ·refine sR 1 rfl (At.f6 (At.f6 (At.f6 (At.f6 (At.f6 ?_))))); refine At.f5 (At.f6 ?_); obtain ⟨G, e6, j⟩ := bbind j; refine At.call rfl Q49.callee rfl rfl rfl (Q49.spec e5 c7 rfl c8 rfl rfl rfl rfl e6) ?_; rintro _ _ ⟨U, a4, h5, a5, rfl, rfl, a6, rfl, a7⟩; refine At.alloc rfl rfl rfl (fun a8 => ?_); refine At.store rfl rfl rfl rfl .z rfl rfl rfl (.c (.c (.c (.c .n)))) ?_; refine nT (sR 2 rfl (At.y (Y.load rfl rfl .z rfl rfl rfl) rfl rfl rfl (At.run 3 rfl ?_))); refine At.store rfl rfl rfl rfl (.s (.s .z)) rfl rfl rfl (.s (.s (.c .n))) ?_; refine nT (At.seq (sR 3 rfl (At.y (Y.load rfl rfl .z rfl rfl rfl) rfl rfl rfl ?_))); refine At.y (Y.eqOpt (.s (.s .z)) rfl rfl rfl rfl) rfl rfl rfl ?_; refine At.run 1 rfl ?_; obtain ⟨e7, e8, h6, j⟩ := bjoin j; let d2 : HProp := pc b0 [.slice a4 G.2.1.length a5, optp U, i6 G.2.2.2.2.2, .slice A0_3 p.length c0_3, .slice A0_4 q.length c0_4, .slice A0_5 u.length c0_5, .slice A0_6 D.length c0_6, .map (some b0_7)] 113; let a9 : HProp := pc a8 [i6 G.2.2.1, i6 G.2.2.2.1, .string ⟨(G.2.2.2.2.1).toArray⟩, i6 G.2.2.2.2.2] 115; refine At.joinO 9 (X := Bool) (fun V => [(0, bp b0), (3, bp a8), (43, .bool V)]) (fun V => d2 :: a9 :: optb (Ow.fl Q5.fl) 121 U G.1 :: row Fl.bs 9 A0_3 p.length c0_3 p :: row Q3.fl 48 A0_4 q.length c0_4 q :: grow Q4.ow 41 A0_5 u.length c0_5 u :: row Q9.fl 169 A0_6 D.length c0_6 D :: mapo Fl.bs.ov Fl.bool.ov b0_7 J :: M :: Fr) (fun V => e7 (.inl V) = some r) ?_ (fun d3 => ?_)
     ·rintro V j; have j := (e8 _).symm.trans j
      ·refine nT ?_; obtain ⟨e9, f0, h7, j⟩ := bjoin j; refine At.join (X := (Option Q5) × (Option Nat)) (fun s_ => [(0, bp b0)]) (fun s_ => optb (Ow.fl Q5.fl) 121 s_.2 s_.1 :: pc b0 [.slice a4 G.2.1.length a5, optp s_.2, i6 G.2.2.2.2.2, .slice A0_3 p.length c0_3, .slice A0_4 q.length c0_4, .slice A0_5 u.length c0_5, .slice A0_6 D.length c0_6, .map (some b0_7)] 113 :: row Fl.bs 9 A0_3 p.length c0_3 p :: row Q3.fl 48 A0_4 q.length c0_4 q :: grow Q4.ow 41 A0_5 u.length c0_5 u :: row Q9.fl 169 A0_6 D.length c0_6 D :: mapo Fl.bs.ov Fl.bool.ov b0_7 J :: a9 :: M :: Fr) (fun s_ => e9 (.inl s_.1) = some r) ?_ (fun d4 => ?_)
       ·rintro ⟨h8, f1⟩ j; have j := (f0 _).symm.trans j
        ·refine At.region (At.run 1 rfl (At.f6 (At.f6 (At.f6 (At.f6 (At.f6 (At.f5 ?_))))))); refine At.f6 ?_; obtain ⟨h9, f3, j⟩ := bbind j; refine At.call rfl Q116.callee rfl rfl rfl (Q116.spec f1 a6 rfl a7 rfl rfl rfl rfl f3) ?_; rintro _ _ ⟨f4, rfl, rfl⟩; refine At.nil (At.drop (.s (.s (.s (.s (.s (.s (.s .z))))))) (At.drop (.s (.s (.s (.s (.s (.s (.s .z))))))) (At.f6 (At.f6 (At.f6 (At.f6 (At.f6 ?_))))))); refine At.f5 (At.f6 ?_); cases bret j; exact At.res (.inr rfl) rfl rfl ⟨f4, a4, G.2.1.length, a5, rfl, rfl, a6, rfl, a7⟩
       ··rcases bite j with ⟨b2, j⟩ | ⟨b2, j⟩
         ··refine At.condT rfl b2 ?_
           refine At.region (At.run 1 rfl (At.y (Y.load rfl rfl (.s .z) rfl rfl rfl) rfl rfl rfl (At.f7 (At.f7 (At.f7 (At.f7 (At.f7 ?_))))))); refine At.f7 (At.f6 ?_); obtain ⟨f9, g0, j⟩ := bbind j; refine At.call rfl Q20.callee rfl rfl rfl (Q20.spec U a6 rfl a7 rfl rfl rfl rfl g0) ?_; rintro _ _ ⟨g1, rfl, rfl⟩; refine nT ?_; exact fun a w e hs => d4 (f9, g1) j a w (e.sub ⟨rfl, trivial⟩) hs
         ··refine At.condF rfl (bn b2) ?_
           refine At.skip (At.thn (At.f8 (At.f2 (At.f8 (At.f8 (At.f8 (At.f8 ?_))))))); refine At.f8 (At.f7 (At.f8 ?_)); exact fun a w e hs => d4 (G.1, U) j a w (e.sub ⟨rfl, trivial⟩) hs
     ··rcases bite j with ⟨b3, j⟩ | ⟨b3, j⟩
       ··refine At.know (t := 34) rfl b3 ?_
         refine At.run 1 rfl (At.y (Y.load rfl rfl (.s .z) rfl rfl rfl) rfl rfl rfl (At.run 2 rfl ?_)); obtain ⟨g2, g3, k0, j⟩ := bjoin j; refine At.joinO 4 (X := Bool) (fun L => [(0, bp b0), (3, bp a8), (34, .bool true), (42, .bool L)]) (fun L => d2 :: a9 :: optb (Ow.fl Q5.fl) 121 U G.1 :: row Fl.bs 9 A0_3 p.length c0_3 p :: row Q3.fl 48 A0_4 q.length c0_4 q :: grow Q4.ow 41 A0_5 u.length c0_5 u :: row Q9.fl 169 A0_6 D.length c0_6 D :: mapo Fl.bs.ov Fl.bool.ov b0_7 J :: M :: Fr) (fun L => g2 (.inl L) = some r) ?_ (fun d5 => ?_)
         ·rintro L j; have j := (g3 _).symm.trans j
          ·refine At.run 1 rfl ?_; exact At.of (d3 L j) ⟨rfl, rfl, rfl, trivial⟩
         ··rcases bite j with ⟨b4, j⟩ | ⟨b4, j⟩
           ··refine At.know (t := 38) rfl (decide_eq_true b4) ?_
             refine At.run 4 rfl ?_; exact At.of (d5 true j) ⟨rfl, rfl, rfl, rfl, trivial⟩
           ··refine At.know (t := 38) rfl (decide_eq_false b4) ?_
             refine At.run 1 rfl (At.y (Y.load rfl rfl (.s .z) rfl rfl rfl) rfl rfl rfl (At.run 2 rfl ?_)); exact At.of (d5 (decide (24 < G.2.2.2.2.2)) j) ⟨rfl, rfl, rfl, rfl, trivial⟩
       ··refine At.know (t := 34) rfl (bn b3) ?_
         refine At.run 9 rfl ?_; exact At.of (d3 false j) ⟨rfl, rfl, rfl, trivial⟩
   ··rcases bite j with ⟨b5, j⟩ | ⟨b5, j⟩
     ··refine At.condT rfl b5 ?_
       refine At.region (At.run 1 rfl (At.y (Y.load rfl rfl .z rfl rfl rfl) rfl rfl rfl (At.f7 (At.f7 (At.f7 (At.f7 (At.f7 ?_))))))); refine At.f6 (At.f7 ?_); obtain ⟨g4, g5, j⟩ := bbind j; refine At.call rfl Q20.callee rfl rfl rfl (Q20.spec a1 c7 rfl c8 rfl rfl rfl rfl g5) ?_; rintro _ _ ⟨g6, rfl, rfl⟩; refine nT ?_; exact fun a w e hs => d1 (g4, g6) j a w (e.sub ⟨rfl, trivial⟩) hs
     ··refine At.condF rfl (bn b5) ?_
       refine At.skip (At.thn (At.f7 (At.f7 (At.f7 (At.f7 (At.f7 (At.f7 ?_))))))); refine At.f7 ?_; exact fun a w e hs => d1 (I.1, a1) j a w (e.sub ⟨rfl, trivial⟩) hs
 ··rcases bite j with ⟨b6, j⟩ | ⟨b6, j⟩
   ··refine At.know (t := 13) rfl b6 ?_
     refine At.run 1 rfl (At.y (Y.load rfl rfl .z rfl rfl rfl) rfl rfl rfl (At.run 2 rfl ?_)); exact At.of (d0 (!(bseq I.2.2.2.2.1 ([115, 116, 97, 116, 101, 115] : Bs))) j) ⟨rfl, rfl, rfl, trivial⟩
   ··refine At.know (t := 13) rfl (bn b6) ?_
     refine At.run 4 rfl ?_; exact At.of (d0 false j) ⟨rfl, rfl, rfl, trivial⟩

noncomputable def Q91.f (L : List Q0) (M : Option Q5) (q : Int) (u : List Bs) (D : List Q3) (G : List Q4) (I : List Q9) (J : List (Bs × Bool)) : Option ((Option Q5) × (List Q0) × Int × Int × Int × Bs × Int) :=
 (Q49.f L M q u D G I J 4).bind fun p =>
 jn (
 if p.1.isNone = true then
 some (.inl (decide (q ≤ p.2.2.2.2.2)))
 else
 some (.inl false)) (fun (O : Bool) =>
 jn (
 if O = true then
 (Q20.f p.2.1 p.1 q u D G I J p.2.2.1 p.2.2.2.1 p.2.2.2.2.1 p.2.2.2.2.2 8).bind fun U =>
 some (.inl U)
 else
 some (.inl p.1)) (fun (V : Option Q5) =>
 some (V, p.2.1, p.2.2.2.2.2, p.2.2.1, p.2.2.2.1, p.2.2.2.2.1, p.2.2.2.2.2)))
theorem Q91.callee : Callee Tryz.prog 111 := ⟨_, Tryz.func111, by kernel_rfl, by kernel_rfl⟩
theorem Q91.spec {V : List Q0} {a7 : Option Q5} {I : Int} {p : List Bs} {q : List Q3} {u : List Q4} {D : List Q9} {J : List (Bs × Bool)} (Z : Option Nat) (hr0_0 : RdS Q0.fl.rep R.heap A0_0 V) (hn0_0 : V.length = n0_0) (hc0_0 : n0_0 ≤ c0_0) (hn0_3 : p.length = n0_3) (hn0_4 : q.length = n0_4) (hn0_5 : u.length = n0_5) (hn0_6 : D.length = n0_6) {r : (Option Q5) × (List Q0) × Int × Int × Int × Bs × Int} (j : Q91.f V a7 I p q u D J = some r) :
 Spec Tryz.prog 111 [bp b0] R (pc b0 [.slice A0_0 n0_0 c0_0, optp Z, i6 I, .slice A0_3 n0_3 c0_3, .slice A0_4 n0_4 c0_4, .slice A0_5 n0_5 c0_5, .slice A0_6 n0_6 c0_6, .map (some b0_7)] 113 :: optb (Ow.fl Q5.fl) 121 Z a7 :: row Fl.bs 9 A0_3 n0_3 c0_3 p :: row Q3.fl 48 A0_4 n0_4 c0_4 q :: grow Q4.ow 41 A0_5 n0_5 c0_5 u :: row Q9.fl 169 A0_6 n0_6 c0_6 D :: mapo Fl.bs.ov Fl.bool.ov b0_7 J :: Fr) (fun v l' => ∃ (a8 : Option Nat) (a9 : Option Addr) (a0 : Nat) (b2 : Nat), v = .tuple #[.agg #[i6 r.2.2.2.1, i6 r.2.2.2.2.1, .string ⟨(r.2.2.2.2.2.1).toArray⟩, i6 r.2.2.2.2.2.2], i6 r.2.2.1] ∧ optb (Ow.fl Q5.fl) 121 a8 r.1 :: pc b0 [.slice a9 a0 b2, optp a8, i6 I, .slice A0_3 n0_3 c0_3, .slice A0_4 n0_4 c0_4, .slice A0_5 n0_5 c0_5, .slice A0_6 n0_6 c0_6, .map (some b0_7)] 113 :: row Fl.bs 9 A0_3 n0_3 c0_3 p :: row Q3.fl 48 A0_4 n0_4 c0_4 q :: grow Q4.ow 41 A0_5 n0_5 c0_5 u :: row Q9.fl 169 A0_6 n0_6 c0_6 D :: mapo Fl.bs.ov Fl.bool.ov b0_7 J :: Fr = l' ∧ RdS Q0.fl.rep R.heap a9 r.2.1 ∧ r.2.1.length = a0 ∧ a0 ≤ b2) := by
 subst hn0_0; subst hn0_3; subst hn0_4; subst hn0_5; subst hn0_6; refine Spec.of Tryz.func111 rfl rfl ?_; unfold Q91.f at j; have j := brun j; refine At.seq (At.region ?_); refine At.alloc rfl rfl rfl (fun a1 => ?_); refine At.run 1 rfl (nT (sR 1 rfl (At.f7 (At.f7 ?_)))); refine At.f7 (At.f7 (At.f7 (At.f7 (At.f7 ?_)))); obtain ⟨G, b8, j⟩ := bbind j; refine At.call rfl Q49.callee rfl rfl rfl (Q49.spec Z hr0_0 rfl hc0_0 rfl rfl rfl rfl b8) ?_; rintro _ _ ⟨M, O, d2, U, rfl, rfl, b3, rfl, b4⟩; refine At.alloc rfl rfl rfl (fun a2 => ?_); refine At.store rfl rfl rfl rfl .z rfl rfl rfl (.c (.c (.c (.c .n)))) ?_; refine nT (At.seq (At.seq ?_)); refine At.quiet (by kernel_rfl) ?_; refine At.Quiet.run 3 rfl ?_; refine At.Quiet.y (Y.load rfl rfl (.s (.s .z)) rfl rfl rfl) rfl rfl rfl ?_; refine At.Quiet.y (Y.eqOpt (.s .z) rfl rfl rfl rfl) rfl rfl rfl ?_; refine At.Quiet.run 1 rfl ?_; obtain ⟨b9, c4, d3, j⟩ := bjoin j; let a3 : HProp := pc a2 [i6 G.2.2.1, i6 G.2.2.2.1, .string ⟨(G.2.2.2.2.1).toArray⟩, i6 G.2.2.2.2.2] 115; let c5 : HProp := pc b0 [.slice O G.2.1.length U, optp M, i6 I, .slice A0_3 p.length c0_3, .slice A0_4 q.length c0_4, .slice A0_5 u.length c0_5, .slice A0_6 D.length c0_6, .map (some b0_7)] 113; let b5 : HProp := pc a1 [i6 0, i6 0, .string ⟨(([] : Bs)).toArray⟩, i6 0] 115; refine At.Quiet.joinO 9 (X := Bool) (fun L => [(0, bp b0), (2, bp a1), (4, bp a2), (21, .bool L)]) (fun L => a3 :: optb (Ow.fl Q5.fl) 121 M G.1 :: c5 :: row Fl.bs 9 A0_3 p.length c0_3 p :: row Q3.fl 48 A0_4 q.length c0_4 q :: grow Q4.ow 41 A0_5 u.length c0_5 u :: row Q9.fl 169 A0_6 D.length c0_6 D :: mapo Fl.bs.ov Fl.bool.ov b0_7 J :: b5 :: Fr) (fun L => b9 (.inl L) = some r) ?_ (fun b6 => ?_)
 ·rintro L j; have j := (c4 _).symm.trans j
  ·refine At.Quiet.nil (At.thn ?_); obtain ⟨c6, c7, d4, j⟩ := bjoin j; refine At.join (X := (Option Q5) × (Option Nat)) (fun s_ => [(2, bp a1), (4, bp a2)]) (fun s_ => optb (Ow.fl Q5.fl) 121 s_.2 s_.1 :: pc b0 [.slice O G.2.1.length U, optp s_.2, i6 I, .slice A0_3 p.length c0_3, .slice A0_4 q.length c0_4, .slice A0_5 u.length c0_5, .slice A0_6 D.length c0_6, .map (some b0_7)] 113 :: row Fl.bs 9 A0_3 p.length c0_3 p :: row Q3.fl 48 A0_4 q.length c0_4 q :: grow Q4.ow 41 A0_5 u.length c0_5 u :: row Q9.fl 169 A0_6 D.length c0_6 D :: mapo Fl.bs.ov Fl.bool.ov b0_7 J :: a3 :: b5 :: Fr) (fun s_ => c6 (.inl s_.1) = some r) ?_ (fun b7 => ?_)
   ·rintro ⟨c8, a4⟩ j; have j := (c7 _).symm.trans j
    ·refine At.seq ?_; refine At.held [optb (Ow.fl Q5.fl) 121 a4 c8, pc b0 [.slice O G.2.1.length U, optp a4, i6 I, .slice A0_3 p.length c0_3, .slice A0_4 q.length c0_4, .slice A0_5 u.length c0_5, .slice A0_6 D.length c0_6, .map (some b0_7)] 113, row Fl.bs 9 A0_3 p.length c0_3 p, row Q3.fl 48 A0_4 q.length c0_4 q, grow Q4.ow 41 A0_5 u.length c0_5 u, row Q9.fl 169 A0_6 D.length c0_6 D, mapo Fl.bs.ov Fl.bool.ov b0_7 J, a3] 5 rfl ?_; refine At.H.tw 0 rfl (Y.load rfl rfl (.s (.s (.s (.s (.s (.s (.s .z))))))) rfl rfl rfl) rfl rfl rfl (.c .z (.c .z (.c .z (.c .z (.c .z (.c .z (.c .z (.c .z .n)))))))) ?_; refine At.H.pw 1 rfl rfl rfl rfl rfl (.c .z (.c .z (.c .z (.c .z (.c .z (.c .z (.c .z (.c .z .n)))))))) ?_; refine At.H.tw 2 rfl (Y.load rfl rfl (.s (.s (.s (.s (.s (.s (.s .z))))))) rfl rfl rfl) rfl rfl rfl (.c .z (.c .z (.c .z (.c .z (.c .z (.c .z (.c .z (.c .z .n)))))))) ?_; refine At.H.al [3] (Q6 ?_ Q8)
     ··refine At.HO.op rfl ?_
       refine At.store rfl rfl rfl rfl (.s (.s (.s (.s (.s (.s (.s (.s .z)))))))) rfl rfl rfl (.c (.c (.c (.c .n)))) ?_; refine At.HO.back (.c (.s .z) (.c (.s .z) (.c (.s .z) (.c (.s .z) (.c (.s .z) (.c (.s .z) (.c (.s .z) (.c (.s .z) .n)))))))) ?_; refine At.H.pw 4 rfl rfl rfl rfl rfl (.c (.s .z) (.c (.s .z) (.c (.s .z) (.c (.s .z) (.c (.s .z) (.c (.s .z) (.c (.s .z) (.c (.s .z) .n)))))))) ?_; refine At.H.done (by kernel_rfl) ?_; refine At.thn (At.ret ?_); refine At.resM (.inl rfl) rfl (RV.cell rfl rfl .z rfl rfl rfl (RV.tmp rfl RV.nil)) ?_; refine At.drop .z (At.drop (.s (.s (.s (.s (.s (.s (.s .z))))))) ?_); cases bret j; exact fun a w e hs => ⟨_, ⟨a4, O, G.2.1.length, U, rfl, rfl, b3, rfl, b4⟩, hs⟩
   ··rcases bite j with ⟨a5, j⟩ | ⟨a5, j⟩
     ··refine At.condT rfl a5 ?_
       refine At.region (At.run 1 rfl (At.y (Y.load rfl rfl .z rfl rfl rfl) rfl rfl rfl (At.f7 (At.f7 (At.f7 (At.f7 (At.f7 ?_))))))); refine At.f6 (At.f7 ?_); obtain ⟨c9, d0, j⟩ := bbind j; refine At.call rfl Q20.callee rfl rfl rfl (Q20.spec M b3 rfl b4 rfl rfl rfl rfl d0) ?_; rintro _ _ ⟨d1, rfl, rfl⟩; refine nT ?_; exact fun a w e hs => b7 (c9, d1) j a w (e.sub ⟨rfl, rfl, trivial⟩) hs
     ··refine At.condF rfl (bn a5) ?_
       refine At.skip (At.thn (At.f8 (At.f1 (At.f8 (At.f8 (At.f8 (At.f8 ?_))))))); refine At.f8 (At.f8 (At.f8 ?_)); exact fun a w e hs => b7 (G.1, M) j a w (e.sub ⟨rfl, rfl, trivial⟩) hs
 ··rcases bite j with ⟨a6, j⟩ | ⟨a6, j⟩
   ··refine At.Quiet.know (t := 12) rfl a6 ?_
     refine At.Quiet.run 1 rfl ?_; refine At.Quiet.y (Y.load rfl rfl .z rfl rfl rfl) rfl rfl rfl ?_; refine At.Quiet.run 4 rfl ?_; refine At.Quiet.y (Y.load rfl rfl (.s (.s .z)) rfl rfl rfl) rfl rfl rfl ?_; refine At.Quiet.run 2 rfl ?_; exact At.Quiet.of (b6 (decide (I ≤ G.2.2.2.2.2)) j) ⟨rfl, rfl, rfl, rfl, trivial⟩
   ··refine At.Quiet.know (t := 12) rfl (bn a6) ?_
     refine At.Quiet.run 9 rfl ?_; exact At.Quiet.of (b6 false j) ⟨rfl, rfl, rfl, rfl, trivial⟩

noncomputable def Q103.f (L : List Q0) (M : Option Q5) (q : Int) (u : List Bs) (D : List Q3) (G : List Q4) (I : List Q9) (J : List (Bs × Bool)) : Option ((Option Q5) × (List Q0) × Int × Int × Bs × Int) :=
 (Q49.f L M q u D G I J 2).bind fun p =>
 jn (
 if p.1.isNone = true then
 (Q85.f p.2.2.2.2.1).bind fun O =>
 some (.inl (!O))
 else
 some (.inl false)) (fun (U : Bool) =>
 jn (
 if U = true then
 (Q20.f p.2.1 p.1 q u D G I J p.2.2.1 p.2.2.2.1 p.2.2.2.2.1 p.2.2.2.2.2 7).bind fun V =>
 some (.inl V)
 else
 some (.inl p.1)) (fun (X : Option Q5) =>
 some (X, p.2.1, p.2.2.1, p.2.2.2.1, p.2.2.2.2.1, p.2.2.2.2.2)))
theorem Q103.callee : Callee Tryz.prog 112 := ⟨_, Tryz.func112, by kernel_rfl, by kernel_rfl⟩
theorem Q103.spec {O : List Q0} {a5 : Option Q5} {I : Int} {p : List Bs} {q : List Q3} {u : List Q4} {D : List Q9} {J : List (Bs × Bool)} (U : Option Nat) (hr0_0 : RdS Q0.fl.rep R.heap A0_0 O) (hn0_0 : O.length = n0_0) (hc0_0 : n0_0 ≤ c0_0) (hn0_3 : p.length = n0_3) (hn0_4 : q.length = n0_4) (hn0_5 : u.length = n0_5) (hn0_6 : D.length = n0_6) {r : (Option Q5) × (List Q0) × Int × Int × Bs × Int} (j : Q103.f O a5 I p q u D J = some r) :
 Spec Tryz.prog 112 [bp b0] R (pc b0 [.slice A0_0 n0_0 c0_0, optp U, i6 I, .slice A0_3 n0_3 c0_3, .slice A0_4 n0_4 c0_4, .slice A0_5 n0_5 c0_5, .slice A0_6 n0_6 c0_6, .map (some b0_7)] 113 :: optb (Ow.fl Q5.fl) 121 U a5 :: row Fl.bs 9 A0_3 n0_3 c0_3 p :: row Q3.fl 48 A0_4 n0_4 c0_4 q :: grow Q4.ow 41 A0_5 n0_5 c0_5 u :: row Q9.fl 169 A0_6 n0_6 c0_6 D :: mapo Fl.bs.ov Fl.bool.ov b0_7 J :: Fr) (fun v l' => ∃ (a6 : Option Nat) (a7 : Option Addr) (V : Nat) (a8 : Nat), v = .agg #[i6 r.2.2.1, i6 r.2.2.2.1, .string ⟨(r.2.2.2.2.1).toArray⟩, i6 r.2.2.2.2.2] ∧ optb (Ow.fl Q5.fl) 121 a6 r.1 :: pc b0 [.slice a7 V a8, optp a6, i6 I, .slice A0_3 n0_3 c0_3, .slice A0_4 n0_4 c0_4, .slice A0_5 n0_5 c0_5, .slice A0_6 n0_6 c0_6, .map (some b0_7)] 113 :: row Fl.bs 9 A0_3 n0_3 c0_3 p :: row Q3.fl 48 A0_4 n0_4 c0_4 q :: grow Q4.ow 41 A0_5 n0_5 c0_5 u :: row Q9.fl 169 A0_6 n0_6 c0_6 D :: mapo Fl.bs.ov Fl.bool.ov b0_7 J :: Fr = l' ∧ RdS Q0.fl.rep R.heap a7 r.2.1 ∧ r.2.1.length = V ∧ V ≤ a8) := by
 subst hn0_0; subst hn0_3; subst hn0_4; subst hn0_5; subst hn0_6; refine Spec.of Tryz.func112 rfl rfl ?_; unfold Q103.f at j; have j := brun j; refine At.seq (At.region ?_); refine At.alloc rfl rfl rfl (fun Z => ?_); refine nT (sR 1 rfl (At.f7 (At.f7 (At.f7 ?_)))); refine At.f7 (At.f7 (At.f7 (At.f7 ?_))); obtain ⟨G, b7, j⟩ := bbind j; refine At.call rfl Q49.callee rfl rfl rfl (Q49.spec U hr0_0 rfl hc0_0 rfl rfl rfl rfl b7) ?_; rintro _ _ ⟨M, a0, d3, a1, rfl, rfl, a9, rfl, b2⟩; refine At.alloc rfl rfl rfl (fun a2 => ?_); refine At.store rfl rfl rfl rfl .z rfl rfl rfl (.c (.c (.c (.c .n)))) ?_; refine nT (At.seq (sR 3 rfl (At.y (Y.load rfl rfl (.s (.s .z)) rfl rfl rfl) rfl rfl rfl ?_))); refine At.y (Y.eqOpt (.s .z) rfl rfl rfl rfl) rfl rfl rfl ?_; refine At.run 1 rfl ?_; obtain ⟨b8, b9, d4, j⟩ := bjoin j; let b3 : HProp := pc a2 [i6 G.2.2.1, i6 G.2.2.2.1, .string ⟨(G.2.2.2.2.1).toArray⟩, i6 G.2.2.2.2.2] 115; let c4 : HProp := pc b0 [.slice a0 G.2.1.length a1, optp M, i6 I, .slice A0_3 p.length c0_3, .slice A0_4 q.length c0_4, .slice A0_5 u.length c0_5, .slice A0_6 D.length c0_6, .map (some b0_7)] 113; let b4 : HProp := pc Z [i6 0, i6 0, .string ⟨(([] : Bs)).toArray⟩, i6 0] 115; refine At.joinO 5 (X := Bool) (fun L => [(0, bp b0), (2, bp Z), (3, bp a2), (16, .bool L)]) (fun L => b3 :: optb (Ow.fl Q5.fl) 121 M G.1 :: c4 :: row Fl.bs 9 A0_3 p.length c0_3 p :: row Q3.fl 48 A0_4 q.length c0_4 q :: grow Q4.ow 41 A0_5 u.length c0_5 u :: row Q9.fl 169 A0_6 D.length c0_6 D :: mapo Fl.bs.ov Fl.bool.ov b0_7 J :: b4 :: Fr) (fun L => b8 (.inl L) = some r) ?_ (fun b5 => ?_)
 ·rintro L j; have j := (b9 _).symm.trans j
  ·refine nT ?_; obtain ⟨c5, c6, d5, j⟩ := bjoin j; refine At.join (X := (Option Q5) × (Option Nat)) (fun s_ => [(2, bp Z), (3, bp a2)]) (fun s_ => optb (Ow.fl Q5.fl) 121 s_.2 s_.1 :: pc b0 [.slice a0 G.2.1.length a1, optp s_.2, i6 I, .slice A0_3 p.length c0_3, .slice A0_4 q.length c0_4, .slice A0_5 u.length c0_5, .slice A0_6 D.length c0_6, .map (some b0_7)] 113 :: row Fl.bs 9 A0_3 p.length c0_3 p :: row Q3.fl 48 A0_4 q.length c0_4 q :: grow Q4.ow 41 A0_5 u.length c0_5 u :: row Q9.fl 169 A0_6 D.length c0_6 D :: mapo Fl.bs.ov Fl.bool.ov b0_7 J :: b3 :: b4 :: Fr) (fun s_ => c5 (.inl s_.1) = some r) ?_ (fun b6 => ?_)
   ·rintro ⟨d6, c7⟩ j; have j := (c6 _).symm.trans j
    ·refine At.seq (At.region ?_); refine At.y (Y.load rfl rfl (.s (.s (.s (.s (.s (.s (.s .z))))))) rfl rfl rfl) rfl rfl rfl ?_; refine At.store rfl rfl rfl rfl (.s (.s (.s (.s (.s (.s (.s (.s .z)))))))) rfl rfl rfl (.c (.c (.c (.c .n)))) ?_; refine nT (At.ret ?_); refine At.resM (.inl rfl) rfl (RV.cell rfl rfl .z rfl rfl rfl RV.nil) ?_; refine At.drop .z (At.drop (.s (.s (.s (.s (.s (.s (.s .z))))))) ?_); cases bret j; exact fun a w e hs => ⟨_, ⟨c7, a0, G.2.1.length, a1, rfl, rfl, a9, rfl, b2⟩, hs⟩
   ··rcases bite j with ⟨a3, j⟩ | ⟨a3, j⟩
     ··refine At.condT rfl a3 ?_
       refine At.region (At.run 1 rfl (At.y (Y.load rfl rfl .z rfl rfl rfl) rfl rfl rfl (At.f7 (At.f7 (At.f7 (At.f7 (At.f7 ?_))))))); refine At.f6 (At.f7 ?_); obtain ⟨c8, c9, j⟩ := bbind j; refine At.call rfl Q20.callee rfl rfl rfl (Q20.spec M a9 rfl b2 rfl rfl rfl rfl c9) ?_; rintro _ _ ⟨d0, rfl, rfl⟩; refine nT ?_; exact fun a w e hs => b6 (c8, d0) j a w (e.sub ⟨rfl, rfl, trivial⟩) hs
     ··refine At.condF rfl (bn a3) ?_
       refine At.skip (At.thn (At.f8 (At.f1 (At.f8 (At.f8 (At.f8 (At.f8 ?_))))))); refine At.f8 (At.f8 (At.f8 ?_)); exact fun a w e hs => b6 (G.1, M) j a w (e.sub ⟨rfl, rfl, trivial⟩) hs
 ··rcases bite j with ⟨a4, j⟩ | ⟨a4, j⟩
   ··refine At.know (t := 11) rfl a4 ?_
     refine At.run 1 rfl (At.y (Y.load rfl rfl .z rfl rfl rfl) rfl rfl rfl ?_); obtain ⟨d1, d2, j⟩ := bbind j; refine At.call rfl Q85.callee rfl rfl rfl (Q85.spec d2) ?_; rintro _ _ ⟨rfl, rfl⟩; refine At.run 2 rfl ?_; exact At.of (b5 (!d1) j) ⟨rfl, rfl, rfl, rfl, trivial⟩
   ··refine At.know (t := 11) rfl (bn a4) ?_
     refine At.run 5 rfl ?_; exact At.of (b5 false j) ⟨rfl, rfl, rfl, rfl, trivial⟩

noncomputable def Q75.l0b (a0 : List Q9) (q : Int) (u : Bs) (D p : Int) : Option ((Int) ⊕ ((Unit) ⊕ (Int))) :=
 if p < (a0.length : Int) then
 if (0 : Int) ≤ p ∧ p < (a0.length : Int) then
 if (decide (q = (gt a0 p).from_) && (bseq u ((gt a0 p).action) && (decide (D = (gt a0 p).to) && true))) = true then
 upL (some p)
 else
 nx (IntKind.i64.wrap (p + 1))
 else none
 else
 dn (.inl ())
noncomputable def Q75.l0 (a0 : List Q9) (p : Int) (q : Bs) (u D : Int) : Option ((Unit) ⊕ (Int)) := iter (fun t_ : Int => Q75.l0b a0 p q u t_) D
noncomputable def Q75.f (a0 : List Q9) (p : Int) (q : Bs) (u : Int) : Option Int :=
 jn (Q75.l0 a0 p q u 0) (fun (_ : Unit) =>
 some (-1))
theorem Q75.callee : Callee Tryz.prog 147 := ⟨_, Tryz.func147, by kernel_rfl, by kernel_rfl⟩
theorem Q75.spec {a0 : List Q9} {u D : Int} {G : Bs} (hr0 : RdS Q9.fl.rep R.heap A0 a0) (hn0 : a0.length = n0) (hc0 : n0 ≤ c0) {r : Int} (j : Q75.f a0 u G D = some r) :
 Spec Tryz.prog 147 [.slice A0 n0 c0, .agg #[i6 u, .string ⟨(G).toArray⟩, i6 D]] R (Fr) (fun v l' => v = i6 r ∧ Fr = l') := by
 subst hn0; refine Spec.of Tryz.func147 rfl rfl ?_; unfold Q75.f at j; have j := brun j; refine At.seq (At.region ?_); refine At.box rfl rfl (cs := [i6 u, .string ⟨(G).toArray⟩, i6 D]) rfl rfl (fun V => ?_); refine At.run 1 rfl (nT (At.seq (sR 3 rfl (At.nil ?_)))); refine At.thn ?_; refine At.block ?_; obtain ⟨a3, a4, a5, j⟩ := bjoin j; obtain ⟨Z, L, a1⟩ := bsome j; clear j; unfold Q75.l0 at L; obtain ⟨M, I⟩ := Q18.1 L; clear L; let a2 : HProp := pc V [i6 u, .string ⟨(G).toArray⟩, i6 D] 169; refine At.loopJ (X := Int) (Y := Unit) (e0 := 0) (fun p => [(0, .slice A0 a0.length c0), (3, bp V), (7, i6 (a0.length : Int)), (8, i6 p)]) (fun p => a2 :: Fr) (fun m_ => fun p => iterN (fun t_ : Int => Q75.l0b a0 u G D t_) m_ p = some Z) M 0 I (fun _ => []) (fun _ => a2 :: Fr) (fun _ => a3 (.inl ()) = some r) (fun a w e hs => ⟨e.sub ⟨rfl, rfl, rfl, rfl, trivial⟩, (by exact hs)⟩) ?_ (fun a6 => ?_)
 ·rintro _ j; have j := (a4 _).symm.trans j
  ·refine At.ibx ?_; refine At.thn (sR 1 rfl (nT (At.ret (At.drop .z ?_)))); cases bret j; exact At.res (.inl rfl) rfl rfl ⟨rfl, rfl⟩
 ·clear I M; rintro M p I; obtain ⟨a7, f_, a8, hf_, j⟩ := bit I; clear I; have j : (Q75.l0b a0 u G D p).bind _ = some Z := j; unfold Q75.l0b at j
  ·refine sR 1 rfl (nT (At.seq ?_)); rcases bite j with ⟨O, j⟩ | ⟨O, j⟩
   ··refine At.condT rfl (decide_eq_true O) ?_
     refine At.skip (At.thn (At.seq ?_)); refine At.block ?_; refine sR 2 rfl (nT (At.seq ?_)); refine At.quiet (by kernel_rfl) ?_; refine At.Quiet.y (Y.load rfl rfl .z rfl rfl rfl) rfl rfl rfl ?_; refine At.Quiet.run 2 rfl ?_; obtain ⟨J, j⟩ := bnone j; refine At.Quiet.y (Y.ixRd hr0 rfl rfl rfl rfl rfl rfl rfl J.1 J.2) rfl rfl rfl ?_; refine At.Quiet.y (Y.ldFl hr0 rfl (q := 0) rfl rfl J.1 J.2 rfl rfl rfl) rfl rfl rfl ?_; refine At.Quiet.y (Y.eqSt (xs := [i6 u, .string ⟨(G).toArray⟩, i6 D]) (ys := [i6 ((gt a0 p).from_), .string ⟨((gt a0 p).action).toArray⟩, i6 ((gt a0 p).to)]) rfl rfl rfl rfl (by kernel_rfl) (by kernel_rfl) (by kernel_rfl) rfl) rfl rfl rfl ?_; refine At.Quiet.nil (At.thn ?_); rcases bite j with ⟨U, j⟩ | ⟨U, j⟩
     ··refine At.condT rfl U ?_
       refine sR 2 rfl (nT (At.ret ?_)); refine At.ibr ?_; refine At.thr ?_; have j := bupL a5 a1 j; refine At.thr ?_; refine At.ibr ?_; refine At.thr (At.drop .z ?_); cases bret j; exact At.res (.inl rfl) rfl rfl ⟨rfl, rfl⟩
     ··refine At.condF rfl (bn U) ?_
       refine At.skip ?_; refine At.ibn ?_; refine At.thn (At.region (At.run 2 rfl (At.nil ?_))); have j := bnx hf_ j; exact fun a w e hs => ⟨a7, (IntKind.i64.wrap (p + 1)), a8, j, e.sub ⟨rfl, rfl, rfl, rfl, trivial⟩, hs⟩
   ··refine At.condF rfl (decide_eq_false O) ?_
     refine At.exit ?_; refine At.the ?_; refine At.the ?_; exact fun a w e hs => a6 () (bdn j a1) a w (e.sub trivial) hs

noncomputable def Q149.f (a0 : List Q9) (p : Int) (q : Bs) (u : Int) : Option Bool :=
 (Q75.f a0 p q u).bind fun D =>
 some (decide (0 ≤ D))
theorem Q149.callee : Callee Tryz.prog 113 := ⟨_, Tryz.func113, by kernel_rfl, by kernel_rfl⟩
theorem Q149.spec {a0 : List Q9} {p q : Int} {u : Bs} (hr0 : RdS Q9.fl.rep R.heap A0 a0) (hn0 : a0.length = n0) (hc0 : n0 ≤ c0) {r : Bool} (j : Q149.f a0 p u q = some r) :
 Spec Tryz.prog 113 [.slice A0 n0 c0, .agg #[i6 p, .string ⟨(u).toArray⟩, i6 q]] R (Fr) (fun v l' => v = .bool r ∧ Fr = l') := by
 subst hn0; refine Spec.of Tryz.func113 rfl rfl ?_; unfold Q149.f at j; have j := brun j; refine At.seq (At.region ?_); refine At.box rfl rfl (cs := [i6 p, .string ⟨(u).toArray⟩, i6 q]) rfl rfl (fun G => ?_); refine At.run 1 rfl (nT (sR 1 rfl (At.y (Y.load rfl rfl .z rfl rfl rfl) rfl rfl rfl ?_))); obtain ⟨I, D, j⟩ := bbind j; refine At.call rfl Q75.callee rfl rfl rfl (Q75.spec hr0 rfl hc0 D) ?_; rintro _ _ ⟨rfl, rfl⟩; refine At.run 2 rfl (nT (At.ret (At.drop .z ?_))); cases bret j; exact At.res (.inl rfl) rfl rfl ⟨rfl, rfl⟩

noncomputable def Q141.f (O : List Q0) (U : Option Q5) (G : Int) (I : List Bs) (J : List Q3) (L : List Q4) (u : List Q9) (D : List (Bs × Bool)) (V : Int) (X : Int) (Z : Bs) (a0 : Int) : Option ((List Q9) × (List (Bs × Bool)) × (Option Q5) × (List Q0)) :=
 jn (
 if 200 ≤ (u.length : Int) then
 (Q20.f O U G I J L u D V X Z a0 10).bind fun a1 =>
 some (.inl a1)
 else
 some (.inl U)) (fun (a2 : Option Q5) =>
 (Q91.f O a2 G I J L u D).bind fun M =>
 (Q103.f M.2.1 M.1 G I J L u D).bind fun p =>
 jn (
 if ((mget D p.2.2.2.2.1).getD false) = true then
 some (.inl false)
 else
 some (.inl (decide (8 ≤ (D.length : Int))))) (fun (a3 : Bool) =>
 jn (
 if a3 = true then
 (Q20.f p.2.1 p.1 G I J L u D p.2.2.1 p.2.2.2.1 p.2.2.2.2.1 p.2.2.2.2.2 10).bind fun a4 =>
 some (.inl a4)
 else
 some (.inl p.1)) (fun (a5 : Option Q5) =>
 (Q91.f p.2.1 a5 G I J L u D).bind fun q =>
 jn (
 if q.1.isNone = true then
 (Q149.f u M.2.2.1 p.2.2.2.2.1 q.2.2.1).bind fun a6 =>
 some (.inl a6)
 else
 some (.inl false)) (fun (a7 : Bool) =>
 jn (
 if a7 = true then
 (Q20.f q.2.1 q.1 G I J L u D q.2.2.2.1 q.2.2.2.2.1 q.2.2.2.2.2.1 q.2.2.2.2.2.2 9).bind fun a8 =>
 some (.inl a8)
 else
 some (.inl q.1)) (fun (a9 : Option Q5) =>
 (Q116.f q.2.1 a9 G I J L u D).bind fun b2 =>
 if (u.length + ([(⟨M.2.2.1, p.2.2.2.2.1, q.2.2.1⟩ : Q9)] : List Q9).length) * 32 ≤ 140737488355328 then
 some ((u ++ ([(⟨M.2.2.1, p.2.2.2.2.1, q.2.2.1⟩ : Q9)] : List Q9)), (mset D p.2.2.2.2.1 true), b2, q.2.1)
 else none)))))
theorem Q141.callee : Callee Tryz.prog 59 := ⟨_, Tryz.func59, by kernel_rfl, by kernel_rfl⟩
theorem Q141.spec {a2 : List Q0} {b7 : Option Q5} {M a3 a4 a5 : Int} {p : List Bs} {q : List Q3} {u : List Q4} {G : List Q9} {L : List (Bs × Bool)} {a6 : Bs} (a7 : Option Nat) (hr0_0 : RdS Q0.fl.rep R.heap A0_0 a2) (hn0_0 : a2.length = n0_0) (hc0_0 : n0_0 ≤ c0_0) (hn0_3 : p.length = n0_3) (hn0_4 : q.length = n0_4) (hn0_5 : u.length = n0_5) (hn0_6 : G.length = n0_6) {r : (List Q9) × (List (Bs × Bool)) × (Option Q5) × (List Q0)} (j : Q141.f a2 b7 M p q u G L a3 a4 a6 a5 = some r) :
 Spec Tryz.prog 59 [bp b0, .agg #[i6 a3, i6 a4, .string ⟨(a6).toArray⟩, i6 a5]] R (pc b0 [.slice A0_0 n0_0 c0_0, optp a7, i6 M, .slice A0_3 n0_3 c0_3, .slice A0_4 n0_4 c0_4, .slice A0_5 n0_5 c0_5, .slice A0_6 n0_6 c0_6, .map (some b0_7)] 113 :: optb (Ow.fl Q5.fl) 121 a7 b7 :: row Fl.bs 9 A0_3 n0_3 c0_3 p :: row Q3.fl 48 A0_4 n0_4 c0_4 q :: grow Q4.ow 41 A0_5 n0_5 c0_5 u :: row Q9.fl 169 A0_6 n0_6 c0_6 G :: mapo Fl.bs.ov Fl.bool.ov b0_7 L :: Fr) (fun v l' => ∃ (b8 : Nat) (d2 : Option Addr) (d3 : Nat) (d4 : Option Nat) (d5 : Option Addr) (b9 : Nat) (d6 : Nat), v = .tuple #[] ∧ optb (Ow.fl Q5.fl) 121 d4 r.2.2.1 :: pc b0 [.slice d5 b9 d6, optp d4, i6 M, .slice A0_3 n0_3 c0_3, .slice A0_4 n0_4 c0_4, .slice A0_5 n0_5 c0_5, .slice d2 b8 d3, .map (some b0_7)] 113 :: row Fl.bs 9 A0_3 n0_3 c0_3 p :: row Q3.fl 48 A0_4 n0_4 c0_4 q :: grow Q4.ow 41 A0_5 n0_5 c0_5 u :: row Q9.fl 169 d2 b8 d3 r.1 :: mapo Fl.bs.ov Fl.bool.ov b0_7 r.2.1 :: Fr = l' ∧ r.1.length = b8 ∧ RdS Q0.fl.rep R.heap d5 r.2.2.2 ∧ r.2.2.2.length = b9 ∧ b9 ≤ d6) := by
 subst hn0_0; subst hn0_3; subst hn0_4; subst hn0_5; subst hn0_6; refine Spec.of Tryz.func59 rfl rfl ?_; unfold Q141.f at j; have j := brun j; refine At.seq (At.region ?_); refine At.box rfl rfl (cs := [i6 a3, i6 a4, .string ⟨(a6).toArray⟩, i6 a5]) rfl rfl (fun f0 => ?_); refine nT (At.seq (sR 3 rfl (At.y (Y.load rfl rfl (.s .z) rfl rfl rfl) rfl rfl rfl (At.run 2 rfl ?_)))); refine nT ?_; obtain ⟨f3, f4, m8, j⟩ := bjoin j; let O : HProp := pc f0 [i6 a3, i6 a4, .string ⟨(a6).toArray⟩, i6 a5] 115; refine At.join (X := (Option Q5) × (Option Nat)) (fun s_ => [(0, bp b0)]) (fun s_ => optb (Ow.fl Q5.fl) 121 s_.2 s_.1 :: pc b0 [.slice A0_0 a2.length c0_0, optp s_.2, i6 M, .slice A0_3 p.length c0_3, .slice A0_4 q.length c0_4, .slice A0_5 u.length c0_5, .slice A0_6 G.length c0_6, .map (some b0_7)] 113 :: row Fl.bs 9 A0_3 p.length c0_3 p :: row Q3.fl 48 A0_4 q.length c0_4 q :: grow Q4.ow 41 A0_5 u.length c0_5 u :: row Q9.fl 169 A0_6 G.length c0_6 G :: mapo Fl.bs.ov Fl.bool.ov b0_7 L :: O :: Fr) (fun s_ => f3 (.inl s_.1) = some r) ?_ (fun d7 => ?_)
 ·rintro ⟨m9, g0⟩ j; have j := (f4 _).symm.trans j
  ·refine sR 1 rfl (At.f6 (At.f6 (At.f6 (At.f6 (At.f6 ?_))))); refine At.f5 (At.f6 ?_); obtain ⟨J, g1, j⟩ := bbind j; refine At.call rfl Q91.callee rfl rfl rfl (Q91.spec g0 hr0_0 rfl hc0_0 rfl rfl rfl rfl g1) ?_; rintro _ _ ⟨g2, n2, n3, n4, rfl, rfl, g3, rfl, g4⟩; refine At.run 3 rfl ?_; refine At.alloc rfl rfl rfl (fun g5 => ?_); refine At.store rfl rfl rfl rfl .z rfl rfl rfl (.c (.c (.c (.c .n)))) ?_; refine At.run 1 rfl (nT (sR 1 rfl (At.f7 (At.f7 ?_)))); refine At.f7 (At.f7 (At.f7 (At.f6 (At.f7 ?_)))); obtain ⟨D, g6, j⟩ := bbind j; refine At.call rfl Q103.callee rfl rfl rfl (Q103.spec g2 g3 rfl g4 rfl rfl rfl rfl g6) ?_; rintro _ _ ⟨a8, d8, n5, d9, rfl, rfl, e0, rfl, e1⟩; refine At.alloc rfl rfl rfl (fun Z => ?_); refine At.store rfl rfl rfl rfl .z rfl rfl rfl (.c (.c (.c (.c .n)))) ?_; refine nT (At.seq (At.seq ?_)); refine At.quiet (by kernel_rfl) ?_; refine At.Quiet.run 3 rfl ?_; refine At.Quiet.y (Y.load rfl rfl (.s (.s .z)) rfl rfl rfl) rfl rfl rfl ?_; refine At.Quiet.run 1 rfl ?_; refine At.Quiet.y (Y.load rfl rfl .z rfl rfl rfl) rfl rfl rfl ?_; refine At.Quiet.y (Y.lookup (k := D.2.2.2.2.1) (z := false) (.s (.s (.s (.s (.s (.s (.s .z))))))) rfl rfl (KeyOk.str rfl rfl) (by kernel_rfl) rfl rfl rfl) rfl rfl rfl ?_; refine At.Quiet.run 2 rfl ?_; obtain ⟨g7, g8, n6, j⟩ := bjoin j; let U : HProp := pc Z [i6 D.2.2.1, i6 D.2.2.2.1, .string ⟨(D.2.2.2.2.1).toArray⟩, i6 D.2.2.2.2.2] 115; let g9 : HProp := pc b0 [.slice d8 D.2.1.length d9, optp a8, i6 M, .slice A0_3 p.length c0_3, .slice A0_4 q.length c0_4, .slice A0_5 u.length c0_5, .slice A0_6 G.length c0_6, .map (some b0_7)] 113; let V : HProp := pc g5 [i6 J.2.2.2.1, i6 J.2.2.2.2.1, .string ⟨(J.2.2.2.2.2.1).toArray⟩, i6 J.2.2.2.2.2.2] 115; refine At.Quiet.joinO 7 (X := Bool) (fun a0 => [(0, bp b0), (5, i6 J.2.2.1), (6, bp Z), (41, .bool a0)]) (fun a0 => U :: optb (Ow.fl Q5.fl) 121 a8 D.1 :: g9 :: row Fl.bs 9 A0_3 p.length c0_3 p :: row Q3.fl 48 A0_4 q.length c0_4 q :: grow Q4.ow 41 A0_5 u.length c0_5 u :: row Q9.fl 169 A0_6 G.length c0_6 G :: mapo Fl.bs.ov Fl.bool.ov b0_7 L :: V :: O :: Fr) (fun a0 => g7 (.inl a0) = some r) ?_ (fun e2 => ?_)
   ·rintro a0 j; have j := (g8 _).symm.trans j
    ·refine At.Quiet.nil (At.thn ?_); obtain ⟨h0, h1, n7, j⟩ := bjoin j; refine At.join (X := (Option Q5) × (Option Nat)) (fun s_ => [(0, bp b0), (5, i6 J.2.2.1), (6, bp Z)]) (fun s_ => optb (Ow.fl Q5.fl) 121 s_.2 s_.1 :: pc b0 [.slice d8 D.2.1.length d9, optp s_.2, i6 M, .slice A0_3 p.length c0_3, .slice A0_4 q.length c0_4, .slice A0_5 u.length c0_5, .slice A0_6 G.length c0_6, .map (some b0_7)] 113 :: row Fl.bs 9 A0_3 p.length c0_3 p :: row Q3.fl 48 A0_4 q.length c0_4 q :: grow Q4.ow 41 A0_5 u.length c0_5 u :: row Q9.fl 169 A0_6 G.length c0_6 G :: mapo Fl.bs.ov Fl.bool.ov b0_7 L :: U :: V :: O :: Fr) (fun s_ => h0 (.inl s_.1) = some r) ?_ (fun e3 => ?_)
     ·rintro ⟨n8, h2⟩ j; have j := (h1 _).symm.trans j
      ·refine sR 1 rfl (At.f6 (At.f6 (At.f6 (At.f6 (At.f6 ?_))))); refine At.f5 (At.f6 ?_); obtain ⟨I, h3, j⟩ := bbind j; refine At.call rfl Q91.callee rfl rfl rfl (Q91.spec h2 e0 rfl e1 rfl rfl rfl rfl h3) ?_; rintro _ _ ⟨a9, b2, n9, b3, rfl, rfl, c4, rfl, c5⟩; refine At.run 3 rfl ?_; refine At.alloc rfl rfl rfl (fun e4 => ?_); refine At.store rfl rfl rfl rfl .z rfl rfl rfl (.c (.c (.c (.c .n)))) ?_; refine At.run 1 rfl (nT (sR 2 rfl ?_)); refine At.y (Y.load rfl rfl (.s (.s (.s (.s (.s (.s (.s (.s .z)))))))) rfl rfl rfl) rfl rfl rfl ?_; refine At.run 1 rfl ?_; refine At.y (Y.build (is := [0, 1, 2]) (xo := [.tmp 50, .tmp 52, .tmp 53]) (vs := [i6 J.2.2.1, .string ⟨(D.2.2.2.2.1).toArray⟩, i6 I.2.2.1]) (cs := [i6 J.2.2.1, .string ⟨(D.2.2.2.2.1).toArray⟩, i6 I.2.2.1]) rfl rfl rfl rfl rfl rfl) rfl rfl rfl ?_; refine At.alloc rfl rfl rfl (fun c6 => ?_); refine At.store rfl rfl rfl rfl .z rfl rfl rfl (.c (.c (.c .n))) ?_; refine nT (At.seq (At.seq ?_)); refine At.freeze (.s (.s (.s (.s (.s (.s (.s .z))))))) fun o0 h4 h5 h6 o7 h7 => ?_; refine At.quiet (by kernel_rfl) ?_; refine At.Quiet.run 3 rfl ?_; refine At.Quiet.y (Y.load rfl rfl (.s (.s (.s .z))) rfl rfl rfl) rfl rfl rfl ?_; refine At.Quiet.y (Y.eqOpt (.s (.s .z)) rfl rfl rfl rfl) rfl rfl rfl ?_; refine At.Quiet.run 1 rfl ?_; obtain ⟨h8, h9, o8, j⟩ := bjoin j; let b4 : HProp := pc c6 [i6 J.2.2.1, .string ⟨(D.2.2.2.2.1).toArray⟩, i6 I.2.2.1] 169; let b5 : HProp := pc e4 [i6 I.2.2.2.1, i6 I.2.2.2.2.1, .string ⟨(I.2.2.2.2.2.1).toArray⟩, i6 I.2.2.2.2.2.2] 115; let k0 : HProp := pc b0 [.slice b2 I.2.1.length b3, optp a9, i6 M, .slice A0_3 p.length c0_3, .slice A0_4 q.length c0_4, .slice A0_5 u.length c0_5, .slice A0_6 G.length c0_6, .map (some b0_7)] 113; refine At.Quiet.joinO 7 (X := Bool) (fun a1 => [(0, bp b0), (6, bp Z), (7, bp e4), (9, bp c6), (67, .bool a1)]) (fun a1 => b4 :: b5 :: optb (Ow.fl Q5.fl) 121 a9 I.1 :: k0 :: row Fl.bs 9 A0_3 p.length c0_3 p :: row Q3.fl 48 A0_4 q.length c0_4 q :: grow Q4.ow 41 A0_5 u.length c0_5 u :: mapo Fl.bs.ov Fl.bool.ov b0_7 L :: U :: V :: O :: Fr) (fun a1 => h8 (.inl a1) = some r) ?_ (fun e5 => ?_)
       ·rintro a1 j; have j := (h9 _).symm.trans j
        ·refine At.Quiet.nil (At.thn ?_); refine At.thaw h7 ?_; obtain ⟨k1, k2, o9, j⟩ := bjoin j; refine At.join (X := (Option Q5) × (Option Nat)) (fun s_ => [(0, bp b0), (6, bp Z), (9, bp c6)]) (fun s_ => optb (Ow.fl Q5.fl) 121 s_.2 s_.1 :: pc b0 [.slice b2 I.2.1.length b3, optp s_.2, i6 M, .slice A0_3 p.length c0_3, .slice A0_4 q.length c0_4, .slice A0_5 u.length c0_5, .slice A0_6 G.length c0_6, .map (some b0_7)] 113 :: row Fl.bs 9 A0_3 p.length c0_3 p :: row Q3.fl 48 A0_4 q.length c0_4 q :: grow Q4.ow 41 A0_5 u.length c0_5 u :: row Q9.fl 169 A0_6 G.length c0_6 G :: mapo Fl.bs.ov Fl.bool.ov b0_7 L :: b4 :: b5 :: U :: V :: O :: Fr) (fun s_ => k1 (.inl s_.1) = some r) ?_ (fun e6 => ?_)
         ·rintro ⟨p0, k3⟩ j; have j := (k2 _).symm.trans j
          ·refine sR 1 rfl (At.f6 (At.f6 (At.f6 (At.f6 (At.f6 ?_))))); refine At.f5 (At.f6 ?_); obtain ⟨e7, k4, j⟩ := bbind j; refine At.call rfl Q116.callee rfl rfl rfl (Q116.spec k3 c4 rfl c5 rfl rfl rfl rfl k4) ?_; rintro _ _ ⟨b6, rfl, rfl⟩; refine nT (At.seq ?_); refine At.still 6 (by kernel_rfl) ?_; refine At.Still.run 3 rfl ?_; refine At.Still.y (Y.load rfl rfl .z rfl rfl rfl) rfl rfl rfl ?_; refine At.Still.run 1 rfl ?_; refine At.Still.y (Y.load rfl rfl (.s (.s (.s (.s (.s (.s (.s (.s (.s .z))))))))) rfl rfl rfl) rfl rfl rfl ?_; refine At.Still.nil ?_; refine At.mapUpdate (k := D.2.2.2.2.1) (v := true) rfl (.s (.s (.s (.s (.s (.s .z)))))) rfl rfl (KeyOk.str rfl rfl) rfl rfl rfl rfl rfl ?_; refine nT ?_; refine At.held [mapo Fl.bs.ov Fl.bool.ov b0_7 (mset L D.2.2.2.2.1 true), optb (Ow.fl Q5.fl) 121 b6 e7, row Fl.bs 9 A0_3 p.length c0_3 p, row Q3.fl 48 A0_4 q.length c0_4 q, grow Q4.ow 41 A0_5 u.length c0_5 u, b4, b5, U, V, O] 11 rfl ?_; refine At.H.pw 0 rfl rfl rfl rfl rfl (.c .z (.c (.s .z) (.c (.s .z) (.c (.s .z) (.c (.s .z) (.c (.s (.s .z)) (.c (.s (.s .z)) (.c (.s (.s .z)) (.c (.s (.s .z)) (.c (.s (.s .z)) .n)))))))))) ?_; refine At.H.pw 1 rfl rfl rfl rfl rfl (.c .z (.c (.s .z) (.c (.s .z) (.c (.s .z) (.c (.s .z) (.c (.s (.s .z)) (.c (.s (.s .z)) (.c (.s (.s .z)) (.c (.s (.s .z)) (.c (.s (.s .z)) .n)))))))))) ?_; refine At.H.pw 2 rfl rfl rfl rfl rfl (.c .z (.c (.s .z) (.c (.s .z) (.c (.s .z) (.c (.s .z) (.c (.s (.s .z)) (.c (.s (.s .z)) (.c (.s (.s .z)) (.c (.s (.s .z)) (.c (.s (.s .z)) .n)))))))))) ?_; refine At.H.pw 3 rfl rfl rfl rfl rfl (.c .z (.c (.s .z) (.c (.s .z) (.c (.s .z) (.c (.s .z) (.c (.s (.s .z)) (.c (.s (.s .z)) (.c (.s (.s .z)) (.c (.s (.s .z)) (.c (.s (.s .z)) .n)))))))))) ?_; refine At.H.tw 5 rfl (Y.load rfl rfl (.s (.s (.s (.s (.s .z))))) rfl rfl rfl) rfl rfl rfl (.c .z (.c (.s .z) (.c (.s .z) (.c (.s .z) (.c (.s .z) (.c (.s (.s .z)) (.c (.s (.s .z)) (.c (.s (.s .z)) (.c (.s (.s .z)) (.c (.s (.s .z)) .n)))))))))) ?_; obtain ⟨e8, j⟩ := bnone j; let k5 : HProp := mapo Fl.bs.ov Fl.bool.ov b0_7 (mset L D.2.2.2.2.1 true); refine At.H.joinK (X := (Option Addr) × Nat) (fun s_ => []) (fun s_ => pc b0 [.slice b2 I.2.1.length b3, optp b6, i6 M, .slice A0_3 p.length c0_3, .slice A0_4 q.length c0_4, .slice A0_5 u.length c0_5, .slice s_.1 ((G ++ ([(⟨J.2.2.1, D.2.2.2.2.1, I.2.2.1⟩ : Q9)] : List Q9)).length) s_.2, .map (some b0_7)] 113 :: row Q9.fl 169 s_.1 ((G ++ ([(⟨J.2.2.1, D.2.2.2.2.1, I.2.2.1⟩ : Q9)] : List Q9)).length) s_.2 (G ++ ([(⟨J.2.2.1, D.2.2.2.2.1, I.2.2.1⟩ : Q9)] : List Q9)) :: k5 :: optb (Ow.fl Q5.fl) 121 b6 e7 :: row Fl.bs 9 A0_3 p.length c0_3 p :: row Q3.fl 48 A0_4 q.length c0_4 q :: grow Q4.ow 41 A0_5 u.length c0_5 u :: b4 :: b5 :: U :: V :: O :: Fr) (fun s_ => True) ?_ (fun e9 => ?_)
           ·rintro ⟨k6, k7⟩ -
            ·refine At.drop (.s (.s (.s (.s (.s (.s (.s .z))))))) (At.drop (.s (.s (.s (.s (.s (.s (.s .z))))))) (At.drop (.s (.s (.s (.s (.s (.s (.s .z))))))) (At.drop (.s (.s (.s (.s (.s (.s (.s .z))))))) (At.drop (.s (.s (.s (.s (.s (.s (.s .z))))))) (At.f2 (At.f2 (At.f6 ?_))))))); refine At.f6 (At.f6 (At.f5 (At.f6 ?_))); cases bret j; exact At.res (.inr rfl) rfl rfl ⟨(G ++ ([(⟨J.2.2.1, D.2.2.2.2.1, I.2.2.1⟩ : Q9)] : List Q9)).length, k6, k7, b6, b2, I.2.1.length, b3, rfl, rfl, rfl, c4, rfl, c5⟩
           ·refine At.H.al [4, 6] (Q6 ?_ (Q6 ?_ Q8))
            ··refine At.HO.op rfl ?_
              refine At.y (Y.load rfl rfl (.s .z) rfl rfl rfl) rfl rfl rfl ?_; refine At.HO.back (.c .z (.c (.s .z) (.c (.s .z) (.c (.s .z) (.c (.s .z) (.c (.s (.s .z)) (.c (.s (.s .z)) (.c (.s (.s .z)) (.c (.s (.s .z)) (.c (.s (.s .z)) .n)))))))))) ?_; refine At.H.al [6] (Q6 ?_ Q8)
              ··refine At.HO.op rfl ?_
                refine At.lit rfl (xo := [.tmp 84]) (ys := ([(⟨J.2.2.1, D.2.2.2.2.1, I.2.2.1⟩ : Q9)] : List Q9)) Q9.fl rfl rfl rfl rfl rfl rfl rfl rfl rfl rfl rfl (fun p1 p2 => ?_); refine At.HO.back (.c (.s .z) (.c (.s (.s .z)) (.c (.s (.s .z)) (.c (.s (.s .z)) (.c (.s (.s .z)) (.c (.s (.s (.s .z))) (.c (.s (.s (.s .z))) (.c (.s (.s (.s .z))) (.c (.s (.s (.s .z))) (.c (.s (.s (.s .z))) .n)))))))))) ?_; refine At.H.al [7] (Q6 ?_ Q8)
                ··refine At.HO.op rfl ?_
                  refine At.append rfl (.s (.s (.s (.s (.s (.s (.s .z))))))) (Src.own .z (by simp)) rfl rfl rfl rfl rfl rfl rfl rfl e8 (by decide) rfl (fun k8 k9 => ?_); refine At.drop (.s .z) ?_; refine At.HO.back (.c (.s .z) (.c (.s (.s .z)) (.c (.s (.s .z)) (.c (.s (.s .z)) (.c (.s (.s .z)) (.c (.s (.s .z)) (.c (.s (.s .z)) (.c (.s (.s .z)) (.c (.s (.s .z)) (.c (.s (.s .z)) .n)))))))))) ?_; refine At.H.pw 8 rfl rfl rfl rfl rfl (.c (.s .z) (.c (.s (.s .z)) (.c (.s (.s .z)) (.c (.s (.s .z)) (.c (.s (.s .z)) (.c (.s (.s .z)) (.c (.s (.s .z)) (.c (.s (.s .z)) (.c (.s (.s .z)) (.c (.s (.s .z)) .n)))))))))) ?_; refine At.H.pw 9 rfl rfl rfl rfl rfl (.c (.s .z) (.c (.s (.s .z)) (.c (.s (.s .z)) (.c (.s (.s .z)) (.c (.s (.s .z)) (.c (.s (.s .z)) (.c (.s (.s .z)) (.c (.s (.s .z)) (.c (.s (.s .z)) (.c (.s (.s .z)) .n)))))))))) ?_; refine At.H.al [10] (Q6 ?_ Q8)
                  ··refine At.HO.op rfl ?_
                    refine At.store rfl rfl rfl rfl (.s (.s .z)) rfl rfl rfl (.s (.s (.s (.s (.s (.s (.c .n))))))) ?_; refine At.HO.back (.c (.s (.s .z)) (.c (.s (.s .z)) (.c (.s (.s .z)) (.c (.s (.s .z)) (.c (.s (.s .z)) (.c (.s (.s .z)) (.c (.s (.s .z)) (.c (.s (.s .z)) (.c (.s (.s .z)) (.c (.s (.s .z)) .n)))))))))) ?_; refine At.H.done (by kernel_rfl) ?_; exact At.of (e9 (k8, k9) trivial) trivial
            ··refine At.HO.op rfl ?_
              refine At.lit rfl (xo := [.tmp 84]) (ys := ([(⟨J.2.2.1, D.2.2.2.2.1, I.2.2.1⟩ : Q9)] : List Q9)) Q9.fl rfl rfl rfl rfl rfl rfl rfl rfl rfl rfl rfl (fun p3 p4 => ?_); refine At.HO.back (.c (.s .z) (.c (.s (.s .z)) (.c (.s (.s .z)) (.c (.s (.s .z)) (.c (.s (.s .z)) (.c (.s (.s (.s .z))) (.c (.s (.s (.s .z))) (.c (.s (.s (.s .z))) (.c (.s (.s (.s .z))) (.c (.s (.s (.s .z))) .n)))))))))) ?_; refine At.H.al [4] (Q6 ?_ Q8)
              ··refine At.HO.op rfl ?_
                refine At.y (Y.load rfl rfl (.s (.s .z)) rfl rfl rfl) rfl rfl rfl ?_; refine At.HO.back (.c (.s .z) (.c (.s (.s .z)) (.c (.s (.s .z)) (.c (.s (.s .z)) (.c (.s (.s .z)) (.c (.s (.s (.s .z))) (.c (.s (.s (.s .z))) (.c (.s (.s (.s .z))) (.c (.s (.s (.s .z))) (.c (.s (.s (.s .z))) .n)))))))))) ?_; refine At.H.al [7] (Q6 ?_ Q8)
                ··refine At.HO.op rfl ?_
                  refine At.append rfl (.s (.s (.s (.s (.s (.s (.s .z))))))) (Src.own .z (by simp)) rfl rfl rfl rfl rfl rfl rfl rfl e8 (by decide) rfl (fun l5 l6 => ?_); refine At.drop (.s .z) ?_; refine At.HO.back (.c (.s .z) (.c (.s (.s .z)) (.c (.s (.s .z)) (.c (.s (.s .z)) (.c (.s (.s .z)) (.c (.s (.s .z)) (.c (.s (.s .z)) (.c (.s (.s .z)) (.c (.s (.s .z)) (.c (.s (.s .z)) .n)))))))))) ?_; refine At.H.pw 8 rfl rfl rfl rfl rfl (.c (.s .z) (.c (.s (.s .z)) (.c (.s (.s .z)) (.c (.s (.s .z)) (.c (.s (.s .z)) (.c (.s (.s .z)) (.c (.s (.s .z)) (.c (.s (.s .z)) (.c (.s (.s .z)) (.c (.s (.s .z)) .n)))))))))) ?_; refine At.H.pw 9 rfl rfl rfl rfl rfl (.c (.s .z) (.c (.s (.s .z)) (.c (.s (.s .z)) (.c (.s (.s .z)) (.c (.s (.s .z)) (.c (.s (.s .z)) (.c (.s (.s .z)) (.c (.s (.s .z)) (.c (.s (.s .z)) (.c (.s (.s .z)) .n)))))))))) ?_; refine At.H.al [10] (Q6 ?_ Q8)
                  ··refine At.HO.op rfl ?_
                    refine At.store rfl rfl rfl rfl (.s (.s .z)) rfl rfl rfl (.s (.s (.s (.s (.s (.s (.c .n))))))) ?_; refine At.HO.back (.c (.s (.s .z)) (.c (.s (.s .z)) (.c (.s (.s .z)) (.c (.s (.s .z)) (.c (.s (.s .z)) (.c (.s (.s .z)) (.c (.s (.s .z)) (.c (.s (.s .z)) (.c (.s (.s .z)) (.c (.s (.s .z)) .n)))))))))) ?_; refine At.H.done (by kernel_rfl) ?_; exact At.of (e9 (l5, l6) trivial) trivial
         ··rcases bite j with ⟨c7, j⟩ | ⟨c7, j⟩
           ··refine At.condT rfl c7 ?_
             refine At.region (At.run 1 rfl (At.y (Y.load rfl rfl (.s (.s .z)) rfl rfl rfl) rfl rfl rfl (At.f8 (At.f1 (At.f8 (At.f8 (At.f8 ?_))))))); refine At.f7 (At.f8 ?_); obtain ⟨l7, l8, j⟩ := bbind j; refine At.call rfl Q20.callee rfl rfl rfl (Q20.spec a9 c4 rfl c5 rfl rfl rfl rfl l8) ?_; rintro _ _ ⟨l9, rfl, rfl⟩; refine nT ?_; exact fun a w e hs => e6 (l7, l9) j a w (e.sub ⟨rfl, rfl, rfl, trivial⟩) hs
           ··refine At.condF rfl (bn c7) ?_
             refine At.skip (At.thn (At.f11 (At.f11 (At.f11 (At.f5 (At.f5 (At.f11 ?_))))))); refine At.f6 (At.f11 (At.f11 (At.f11 (At.f11 (At.f11 ?_))))); exact fun a w e hs => e6 (I.1, a9) j a w (e.sub ⟨rfl, rfl, rfl, trivial⟩) hs
       ··rcases bite j with ⟨c8, j⟩ | ⟨c8, j⟩
         ··refine At.Quiet.know (t := 60) rfl c8 ?_
           refine At.Quiet.run 3 rfl ?_; refine At.Quiet.y (Y.load rfl rfl (.s (.s (.s .z))) rfl rfl rfl) rfl rfl rfl ?_; refine At.Quiet.y (Y.load rfl rfl .z rfl rfl rfl) rfl rfl rfl ?_; obtain ⟨m0, m1, j⟩ := bbind j; refine At.Quiet.call rfl Q149.callee rfl rfl rfl (Q149.spec h4 h5 h6 m1) (fun _ _ h_ => ⟨h_.1, fun _ hs => h_.2 ▸ hs⟩) ?_; refine At.Quiet.run 1 rfl ?_; exact At.Quiet.of (e5 m0 j) ⟨rfl, rfl, rfl, rfl, rfl, trivial⟩
         ··refine At.Quiet.know (t := 60) rfl (bn c8) ?_
           refine At.Quiet.run 7 rfl ?_; exact At.Quiet.of (e5 false j) ⟨rfl, rfl, rfl, rfl, rfl, trivial⟩
     ··rcases bite j with ⟨c9, j⟩ | ⟨c9, j⟩
       ··refine At.condT rfl c9 ?_
         refine At.region (At.run 1 rfl (At.y (Y.load rfl rfl .z rfl rfl rfl) rfl rfl rfl (At.f7 (At.f7 (At.f7 (At.f7 (At.f7 ?_))))))); refine At.f6 (At.f7 ?_); obtain ⟨m2, m3, j⟩ := bbind j; refine At.call rfl Q20.callee rfl rfl rfl (Q20.spec a8 e0 rfl e1 rfl rfl rfl rfl m3) ?_; rintro _ _ ⟨m4, rfl, rfl⟩; refine nT ?_; exact fun a w e hs => e3 (m2, m4) j a w (e.sub ⟨rfl, rfl, rfl, trivial⟩) hs
       ··refine At.condF rfl (bn c9) ?_
         refine At.skip (At.thn (At.f9 (At.f9 (At.f2 (At.f9 (At.f9 (At.f9 ?_))))))); refine At.f9 (At.f9 (At.f9 (At.f9 ?_))); exact fun a w e hs => e3 (D.1, a8) j a w (e.sub ⟨rfl, rfl, rfl, trivial⟩) hs
   ··rcases bite j with ⟨d0, j⟩ | ⟨d0, j⟩
     ··refine At.Quiet.know (t := 34) rfl (nf d0) ?_
       refine At.Quiet.run 7 rfl ?_; exact At.Quiet.of (e2 false j) ⟨rfl, rfl, rfl, rfl, trivial⟩
     ··refine At.Quiet.know (t := 34) rfl (nt (bn d0)) ?_
       refine At.Quiet.run 3 rfl ?_; refine At.Quiet.y (Y.load rfl rfl (.s (.s .z)) rfl rfl rfl) rfl rfl rfl ?_; refine At.Quiet.y (Y.lenMap (.s (.s (.s (.s (.s (.s (.s .z))))))) rfl rfl rfl) rfl rfl rfl ?_; refine At.Quiet.run 2 rfl ?_; exact At.Quiet.of (e2 (decide (8 ≤ (L.length : Int))) j) ⟨rfl, rfl, rfl, rfl, trivial⟩
 ··rcases bite j with ⟨d1, j⟩ | ⟨d1, j⟩
   ··refine At.condT rfl (decide_eq_true d1) ?_
     refine At.region (At.run 1 rfl (At.y (Y.load rfl rfl .z rfl rfl rfl) rfl rfl rfl (At.f7 (At.f7 (At.f7 (At.f7 (At.f7 ?_))))))); refine At.f7 (At.f7 ?_); obtain ⟨m5, m6, j⟩ := bbind j; refine At.call rfl Q20.callee rfl rfl rfl (Q20.spec a7 hr0_0 rfl hc0_0 rfl rfl rfl rfl m6) ?_; rintro _ _ ⟨m7, rfl, rfl⟩; refine nT ?_; exact fun a w e hs => d7 (m5, m7) j a w (e.sub ⟨rfl, trivial⟩) hs
   ··refine At.condF rfl (decide_eq_false d1) ?_
     refine At.skip (At.thn (At.f7 (At.f7 (At.f7 (At.f7 (At.f7 (At.f6 ?_))))))); refine At.f7 ?_; exact fun a w e hs => d7 (b7, a7) j a w (e.sub ⟨rfl, trivial⟩) hs

noncomputable def Q151.f (p : Bs) (u : List Int) (D G : Int) (q : Bs) (I : Int) : Option Bool :=
 some (bseq p q)
theorem Q151.callee : Callee Tryz.prog 115 := ⟨_, Tryz.func115, by kernel_rfl, by kernel_rfl⟩
theorem Q151.spec {q u : Bs} {p : List Int} {D G I : Int} (hr0_1 : RdS (Fl.int .i64).rep R.heap A0_1 p) (hn0_1 : p.length = n0_1) (hc0_1 : n0_1 ≤ c0_1) {r : Bool} (j : Q151.f q p D G u I = some r) :
 Spec Tryz.prog 115 [.agg #[.string ⟨(q).toArray⟩, .slice A0_1 n0_1 c0_1], bp b1] R (pc b1 [i6 D, i6 G, .string ⟨(u).toArray⟩, i6 I] 115 :: Fr) (fun v l' => v = .bool r ∧ pc b1 [i6 D, i6 G, .string ⟨(u).toArray⟩, i6 I] 115 :: Fr = l') := by
 subst hn0_1; refine Spec.of Tryz.func115 rfl rfl ?_; unfold Q151.f at j; have j := brun j; refine At.seq (At.region ?_); refine At.box rfl rfl (cs := [.string ⟨(q).toArray⟩, .slice A0_1 p.length c0_1]) rfl rfl (fun J => ?_); refine At.run 1 rfl (nT (sR 1 rfl (At.y (Y.load rfl rfl .z rfl rfl rfl) rfl rfl rfl (At.run 1 rfl ?_)))); refine At.y (Y.load rfl rfl (.s .z) rfl rfl rfl) rfl rfl rfl (At.run 2 rfl (nT (At.ret (At.drop .z ?_)))); cases bret j; exact At.res (.inl rfl) rfl rfl ⟨rfl, rfl⟩

noncomputable def Q80.l0b (a0 : List Q4) (a1_c0_0 a1_c0_1 : Int) (a1_c0_2 : Bs) (a1_c0_3 p : Int) : Option ((Int) ⊕ ((Unit) ⊕ (Int))) :=
 if p < (a0.length : Int) then
 if (0 : Int) ≤ p ∧ p < (a0.length : Int) then
 (Q151.f ((gt a0 p).Name) ((gt a0 p).States) a1_c0_0 a1_c0_1 a1_c0_2 a1_c0_3).bind fun q =>
 if q = true then
 upL (some p)
 else
 nx (IntKind.i64.wrap (p + 1))
 else none
 else
 dn (.inl ())
noncomputable def Q80.l0 (a0 : List Q4) (a1_c0_0 a1_c0_1 : Int) (a1_c0_2 : Bs) (a1_c0_3 p : Int) : Option ((Unit) ⊕ (Int)) := iter (fun t_ : Int => Q80.l0b a0 a1_c0_0 a1_c0_1 a1_c0_2 a1_c0_3 t_) p
noncomputable def Q80.f (a0 : List Q4) (a1_c0_0 a1_c0_1 : Int) (a1_c0_2 : Bs) (a1_c0_3 : Int) : Option Int :=
 jn (Q80.l0 a0 a1_c0_0 a1_c0_1 a1_c0_2 a1_c0_3 0) (fun (_ : Unit) =>
 some (-1))
theorem Q80.callee : Callee Tryz.prog 148 := ⟨_, Tryz.func148, by kernel_rfl, by kernel_rfl⟩
theorem Q80.spec {a0 : List Q4} {a1_c0_0 a1_c0_1 a1_c0_3 : Int} {a1_c0_2 : Bs} (hr0 : RdS Q4.rep R.heap A0 a0) (hn0 : a0.length = n0) (hc0 : n0 ≤ c0) {r : Int} (j : Q80.f a0 a1_c0_0 a1_c0_1 a1_c0_2 a1_c0_3 = some r) :
 Spec Tryz.prog 148 [.slice A0 n0 c0, .func (.func 115) #[] #[bp b1_c0]] R (pc b1_c0 [i6 a1_c0_0, i6 a1_c0_1, .string ⟨(a1_c0_2).toArray⟩, i6 a1_c0_3] 115 :: Fr) (fun v l' => v = i6 r ∧ pc b1_c0 [i6 a1_c0_0, i6 a1_c0_1, .string ⟨(a1_c0_2).toArray⟩, i6 a1_c0_3] 115 :: Fr = l') := by
 subst hn0; refine Spec.of Tryz.func148 rfl rfl ?_; unfold Q80.f at j; have j := brun j; refine sR 1 rfl (nT (At.seq (At.seq (At.region ?_)))); refine At.run 3 rfl (nT ?_); refine At.block ?_; obtain ⟨U, V, Z, j⟩ := bjoin j; obtain ⟨L, D, M⟩ := bsome j; clear j; unfold Q80.l0 at D; obtain ⟨G, q⟩ := Q18.1 D; clear D; let O : HProp := pc b1_c0 [i6 a1_c0_0, i6 a1_c0_1, .string ⟨(a1_c0_2).toArray⟩, i6 a1_c0_3] 115; refine At.loopJ (X := Int) (Y := Unit) (e0 := 0) (fun p => [(0, .slice A0 a0.length c0), (1, .func (.func 115) #[] #[bp b1_c0]), (7, i6 (a0.length : Int)), (8, i6 p)]) (fun p => O :: Fr) (fun m_ => fun p => iterN (fun t_ : Int => Q80.l0b a0 a1_c0_0 a1_c0_1 a1_c0_2 a1_c0_3 t_) m_ p = some L) G 0 q (fun _ => []) (fun _ => O :: Fr) (fun _ => U (.inl ()) = some r) (fun a w e hs => ⟨e.sub ⟨rfl, rfl, rfl, rfl, trivial⟩, (by exact hs)⟩) ?_ (fun a1 => ?_)
 ·rintro _ j; have j := (V _).symm.trans j
  ·refine At.ibx ?_; refine At.thn (sR 1 rfl (nT (At.ret ?_))); cases bret j; exact At.res (.inl rfl) rfl rfl ⟨rfl, rfl⟩
 ·clear q G; rintro G p q; obtain ⟨a2, f_, a3, hf_, j⟩ := bit q; clear q; have j : (Q80.l0b a0 a1_c0_0 a1_c0_1 a1_c0_2 a1_c0_3 p).bind _ = some L := j; unfold Q80.l0b at j
  ·refine sR 1 rfl (nT (At.seq ?_)); rcases bite j with ⟨I, j⟩ | ⟨I, j⟩
   ··refine At.condT rfl (decide_eq_true I) ?_
     refine At.skip (At.thn (At.seq ?_)); refine At.block ?_; refine sR 2 rfl (nT (sR 3 rfl ?_)); obtain ⟨u, j⟩ := bnone j; refine At.y (Y.ixRd hr0 rfl rfl rfl rfl rfl rfl rfl u.1 u.2) rfl rfl rfl ?_; obtain ⟨a9, a4, a5⟩ := RdS.whole (P := Tryz.prog) hr0 (Sub.refl _) rfl u.1 u.2; obtain ⟨_, _, rfl, rfl, ⟨b2, b3, rfl, a6, a7⟩⟩ := a4; refine At.y (a5 rfl rfl rfl rfl) rfl rfl rfl ?_; obtain ⟨b4, a8, j⟩ := bbind j; refine At.call rfl Q151.callee rfl rfl rfl (Q151.spec a7 rfl a6 a8) ?_; rintro _ _ ⟨rfl, rfl⟩; refine nT ?_; rcases bite j with ⟨J, j⟩ | ⟨J, j⟩
     ··refine At.condT rfl J ?_
       refine sR 2 rfl (nT (At.ret ?_)); refine At.ibr ?_; refine At.thr ?_; have j := bupL Z M j; refine At.thr ?_; refine At.ibr ?_; refine At.thr ?_; cases bret j; exact At.res (.inl rfl) rfl rfl ⟨rfl, rfl⟩
     ··refine At.condF rfl (bn J) ?_
       refine At.skip ?_; refine At.ibn ?_; refine At.thn (At.region (At.run 2 rfl (At.nil ?_))); have j := bnx hf_ j; exact fun a w e hs => ⟨a2, (IntKind.i64.wrap (p + 1)), a3, j, e.sub ⟨rfl, rfl, rfl, rfl, trivial⟩, hs⟩
   ··refine At.condF rfl (decide_eq_false I) ?_
     refine At.exit ?_; refine At.the ?_; refine At.the ?_; exact fun a w e hs => a1 () (bdn j M) a w (e.sub trivial) hs

noncomputable def Q131.f (a0 : List Q4) (a1_c0_0 a1_c0_1 : Int) (a1_c0_2 : Bs) (a1_c0_3 : Int) : Option Bool :=
 (Q80.f a0 a1_c0_0 a1_c0_1 a1_c0_2 a1_c0_3).bind fun p =>
 some (decide (0 ≤ p))
theorem Q131.callee : Callee Tryz.prog 114 := ⟨_, Tryz.func114, by kernel_rfl, by kernel_rfl⟩
theorem Q131.spec {a0 : List Q4} {a1_c0_0 a1_c0_1 a1_c0_3 : Int} {a1_c0_2 : Bs} (hr0 : RdS Q4.rep R.heap A0 a0) (hn0 : a0.length = n0) (hc0 : n0 ≤ c0) {r : Bool} (j : Q131.f a0 a1_c0_0 a1_c0_1 a1_c0_2 a1_c0_3 = some r) :
 Spec Tryz.prog 114 [.slice A0 n0 c0, .func (.func 115) #[] #[bp b1_c0]] R (pc b1_c0 [i6 a1_c0_0, i6 a1_c0_1, .string ⟨(a1_c0_2).toArray⟩, i6 a1_c0_3] 115 :: Fr) (fun v l' => v = .bool r ∧ pc b1_c0 [i6 a1_c0_0, i6 a1_c0_1, .string ⟨(a1_c0_2).toArray⟩, i6 a1_c0_3] 115 :: Fr = l') := by
 subst hn0; refine Spec.of Tryz.func114 rfl rfl ?_; unfold Q131.f at j; have j := brun j; refine sR 1 rfl (nT (sR 2 rfl ?_)); obtain ⟨q, p, j⟩ := bbind j; refine At.call rfl Q80.callee rfl rfl rfl (Q80.spec hr0 rfl hc0 p) ?_; rintro _ _ ⟨rfl, rfl⟩; refine At.run 2 rfl (nT (At.ret ?_)); cases bret j; exact At.res (.inl rfl) rfl rfl ⟨rfl, rfl⟩

noncomputable def Q79.l0b (a0 : List Int) (a1 p : Int) : Option ((Int) ⊕ ((Unit) ⊕ (Int))) :=
 if p < (a0.length : Int) then
 if (0 : Int) ≤ p ∧ p < (a0.length : Int) then
 if a1 = gt a0 p then
 upL (some p)
 else
 nx (IntKind.i64.wrap (p + 1))
 else none
 else
 dn (.inl ())
noncomputable def Q79.l0 (a0 : List Int) (a1 p : Int) : Option ((Unit) ⊕ (Int)) := iter (fun t_ : Int => Q79.l0b a0 a1 t_) p
noncomputable def Q79.f (a0 : List Int) (a1 : Int) : Option Int :=
 jn (Q79.l0 a0 a1 0) (fun (_ : Unit) =>
 some (-1))
theorem Q79.callee : Callee Tryz.prog 149 := ⟨_, Tryz.func149, by kernel_rfl, by kernel_rfl⟩
theorem Q79.spec {a0 : List Int} {a1 : Int} (hr0 : RdS (Fl.int .i64).rep R.heap A0 a0) (hn0 : a0.length = n0) (hc0 : n0 ≤ c0) {r : Int} (j : Q79.f a0 a1 = some r) :
 Spec Tryz.prog 149 [.slice A0 n0 c0, i6 a1] R (Fr) (fun v l' => v = i6 r ∧ Fr = l') := by
 subst hn0; refine Spec.of Tryz.func149 rfl rfl ?_; unfold Q79.f at j; have j := brun j; refine sR 1 rfl (nT (At.seq (At.seq (At.region ?_)))); refine At.run 3 rfl (nT ?_); refine At.block ?_; obtain ⟨U, V, Z, j⟩ := bjoin j; obtain ⟨M, G, O⟩ := bsome j; clear j; unfold Q79.l0 at G; obtain ⟨I, u⟩ := Q18.1 G; clear G; refine At.loopJ (X := Int) (Y := Unit) (e0 := 0) (fun p => [(0, .slice A0 a0.length c0), (1, i6 a1), (7, i6 (a0.length : Int)), (8, i6 p)]) (fun p => Fr) (fun m_ => fun p => iterN (fun t_ : Int => Q79.l0b a0 a1 t_) m_ p = some M) I 0 u (fun _ => []) (fun _ => Fr) (fun _ => U (.inl ()) = some r) (fun a w e hs => ⟨e.sub ⟨rfl, rfl, rfl, rfl, trivial⟩, (by exact hs)⟩) ?_ (fun a2 => ?_)
 ·rintro _ j; have j := (V _).symm.trans j
  ·refine At.ibx ?_; refine At.thn (sR 1 rfl (nT (At.ret ?_))); cases bret j; exact At.res (.inl rfl) rfl rfl ⟨rfl, rfl⟩
 ·clear u I; rintro I p u; obtain ⟨a3, f_, a4, hf_, j⟩ := bit u; clear u; have j : (Q79.l0b a0 a1 p).bind _ = some M := j; unfold Q79.l0b at j
  ·refine sR 1 rfl (nT (At.seq ?_)); rcases bite j with ⟨J, j⟩ | ⟨J, j⟩
   ··refine At.condT rfl (decide_eq_true J) ?_
     refine At.skip (At.thn (At.seq ?_)); refine At.block ?_; refine sR 2 rfl (nT (sR 3 rfl ?_)); obtain ⟨D, j⟩ := bnone j; refine At.y (Y.ixRd hr0 rfl rfl rfl rfl rfl rfl rfl D.1 D.2) rfl rfl rfl (At.y (Y.ldFl hr0 rfl (q := 0) rfl rfl D.1 D.2 rfl rfl rfl) rfl rfl rfl (At.run 1 rfl (nT ?_))); rcases bite j with ⟨L, j⟩ | ⟨L, j⟩
     ··refine At.condT rfl (decide_eq_true L) ?_
       refine sR 2 rfl (nT (At.ret ?_)); refine At.ibr ?_; refine At.thr ?_; have j := bupL Z O j; refine At.thr ?_; refine At.ibr ?_; refine At.thr ?_; cases bret j; exact At.res (.inl rfl) rfl rfl ⟨rfl, rfl⟩
     ··refine At.condF rfl (decide_eq_false L) ?_
       refine At.skip ?_; refine At.ibn ?_; refine At.thn (At.region (At.run 2 rfl (At.nil ?_))); have j := bnx hf_ j; exact fun a w e hs => ⟨a3, (IntKind.i64.wrap (p + 1)), a4, j, e.sub ⟨rfl, rfl, rfl, rfl, trivial⟩, hs⟩
   ··refine At.condF rfl (decide_eq_false J) ?_
     refine At.exit ?_; refine At.the ?_; refine At.the ?_; exact fun a w e hs => a2 () (bdn j O) a w (e.sub trivial) hs

noncomputable def Q148.f (a0 : List Int) (a1 : Int) : Option Bool :=
 (Q79.f a0 a1).bind fun p =>
 some (decide (0 ≤ p))
theorem Q148.callee : Callee Tryz.prog 117 := ⟨_, Tryz.func117, by kernel_rfl, by kernel_rfl⟩
theorem Q148.spec {a0 : List Int} {a1 : Int} (hr0 : RdS (Fl.int .i64).rep R.heap A0 a0) (hn0 : a0.length = n0) (hc0 : n0 ≤ c0) {r : Bool} (j : Q148.f a0 a1 = some r) :
 Spec Tryz.prog 117 [.slice A0 n0 c0, i6 a1] R (Fr) (fun v l' => v = .bool r ∧ Fr = l') := by
 subst hn0; refine Spec.of Tryz.func117 rfl rfl ?_; unfold Q148.f at j; have j := brun j; refine sR 1 rfl (nT (sR 2 rfl ?_)); obtain ⟨q, p, j⟩ := bbind j; refine At.call rfl Q79.callee rfl rfl rfl (Q79.spec hr0 rfl hc0 p) ?_; rintro _ _ ⟨rfl, rfl⟩; refine At.run 2 rfl (nT (At.ret ?_)); cases bret j; exact At.res (.inl rfl) rfl rfl ⟨rfl, rfl⟩

noncomputable def Q84.f (a0 : List Int) : Option (List Int) := if a0.length < 4611686018427387904 then some (a0.mergeSort fun x y => decide (x ≤ y)) else none
theorem Q84.callee : Callee Tryz.prog 118 := ⟨_, Tryz.func118, by kernel_rfl, by kernel_rfl⟩
theorem Q84.spec {a0 : List Int} (hn0 : a0.length = n0) {r : List Int} (j : Q84.f a0 = some r) :
 Spec Tryz.prog 118 [.slice A0 n0 c0] R (row (Fl.int .i64) 3 A0 n0 c0 a0 :: Fr) (fun v l' => v = .tuple #[] ∧ row (Fl.int .i64) 3 A0 n0 c0 r :: Fr = l') := by
 unfold Q84.f at j; split at j
 ·rename_i hb; cases j; exact Q294 Tryz.sort118 R Fr hb
 ·cases j

noncomputable def Q38.l0b (D : Int) (G : List Bs) (I : List Q3) (J : List Q4) (L : List Q9) (M : List (Bs × Bool)) (q : List Int) (u : Option Q5) (O : List Q0) : Option (((List Int) × (Option Q5) × (List Q0)) ⊕ (((Option Q5) × (List Int) × (List Q0)) ⊕ ((List Q4) × (Option Q5) × (List Q0)))) :=
 jn (
 if u.isNone = true then
 (Q110.f O u D G I J L M).bind fun U =>
 some (.inl (!U))
 else
 some (.inl false)) (fun (V : Bool) =>
 if V = true then
 (Q91.f O u D G I J L M).bind fun p =>
 jn (
 if p.1.isNone = true then
 (Q148.f q p.2.2.1).bind fun X =>
 some (.inl X)
 else
 some (.inl false)) (fun (Z : Bool) =>
 jn (
 if Z = true then
 (Q20.f p.2.1 p.1 D G I J L M p.2.2.2.1 p.2.2.2.2.1 p.2.2.2.2.2.1 p.2.2.2.2.2.2 9).bind fun a0 =>
 some (.inl a0)
 else
 some (.inl p.1)) (fun (a1 : Option Q5) =>
 if (q.length + ([p.2.2.1] : List Int).length) * 8 ≤ 140737488355328 then
 nx ((q ++ ([p.2.2.1] : List Int)), a1, p.2.1)
 else none))
 else
 dn (.inl (u, q, O)))
noncomputable def Q38.l0 (p : Int) (q : List Bs) (u : List Q3) (D : List Q4) (G : List Q9) (I : List (Bs × Bool)) (J : List Int) (L : Option Q5) (M : List Q0) : Option (((Option Q5) × (List Int) × (List Q0)) ⊕ ((List Q4) × (Option Q5) × (List Q0))) := iter (fun t_ : (List Int) × (Option Q5) × (List Q0) => Q38.l0b p q u D G I t_.1 t_.2.1 t_.2.2) (J, L, M)
noncomputable def Q38.f (L : List Q0) (M : Option Q5) (u : Int) (D : List Bs) (G : List Q3) (q : List Q4) (I : List Q9) (J : List (Bs × Bool)) : Option ((List Q4) × (Option Q5) × (List Q0)) :=
 (Q103.f L M u D G q I J).bind fun p =>
 jn (
 if p.1.isNone = true then
 if 8 ≤ (q.length : Int) then
 (Q20.f p.2.1 p.1 u D G q I J p.2.2.1 p.2.2.2.1 p.2.2.2.2.1 p.2.2.2.2.2 10).bind fun O =>
 some (.inl O)
 else
 (Q131.f q p.2.2.1 p.2.2.2.1 p.2.2.2.2.1 p.2.2.2.2.2).bind fun U =>
 if U = true then
 (Q20.f p.2.1 p.1 u D G q I J p.2.2.1 p.2.2.2.1 p.2.2.2.2.1 p.2.2.2.2.2 9).bind fun V =>
 some (.inl V)
 else
 some (.inl p.1)
 else
 up (some (q, p.1, p.2.1))) (fun (X : Option Q5) =>
 jn (Q38.l0 u D G q I J ([] : List Int) X p.2.1) (fun (s_ : (Option Q5) × (List Int) × (List Q0)) =>
 (Q84.f s_.2.1).bind fun Z =>
 if (q.length + 1) * 40 ≤ 140737488355328 then
 some ((q ++ [(⟨p.2.2.2.2.1, Z⟩ : Q4)]), s_.1, s_.2.2)
 else none))
theorem Q38.callee : Callee Tryz.prog 60 := ⟨_, Tryz.func60, by kernel_rfl, by kernel_rfl⟩
theorem Q38.spec {c6 : List Q0} {f0 : Option Q5} {L : Int} {q : List Bs} {u : List Q3} {p : List Q4} {D : List Q9} {O : List (Bs × Bool)} (c7 : Option Nat) (hr0_0 : RdS Q0.fl.rep R.heap A0_0 c6) (hn0_0 : c6.length = n0_0) (hc0_0 : n0_0 ≤ c0_0) (hn0_3 : q.length = n0_3) (hn0_4 : u.length = n0_4) (hn0_5 : p.length = n0_5) (hn0_6 : D.length = n0_6) {r : (List Q4) × (Option Q5) × (List Q0)} (j : Q38.f c6 f0 L q u p D O = some r) :
 Spec Tryz.prog 60 [bp b0] R (pc b0 [.slice A0_0 n0_0 c0_0, optp c7, i6 L, .slice A0_3 n0_3 c0_3, .slice A0_4 n0_4 c0_4, .slice A0_5 n0_5 c0_5, .slice A0_6 n0_6 c0_6, .map (some b0_7)] 113 :: optb (Ow.fl Q5.fl) 121 c7 f0 :: row Fl.bs 9 A0_3 n0_3 c0_3 q :: row Q3.fl 48 A0_4 n0_4 c0_4 u :: grow Q4.ow 41 A0_5 n0_5 c0_5 p :: row Q9.fl 169 A0_6 n0_6 c0_6 D :: mapo Fl.bs.ov Fl.bool.ov b0_7 O :: Fr) (fun v l' => ∃ (c8 : Nat) (f4 : Option Addr) (g0 : Nat) (g1 : Option Nat) (g2 : Option Addr) (c9 : Nat) (g3 : Nat), v = .tuple #[] ∧ optb (Ow.fl Q5.fl) 121 g1 r.2.1 :: pc b0 [.slice g2 c9 g3, optp g1, i6 L, .slice A0_3 n0_3 c0_3, .slice A0_4 n0_4 c0_4, .slice f4 c8 g0, .slice A0_6 n0_6 c0_6, .map (some b0_7)] 113 :: row Fl.bs 9 A0_3 n0_3 c0_3 q :: row Q3.fl 48 A0_4 n0_4 c0_4 u :: grow Q4.ow 41 f4 c8 g0 r.1 :: row Q9.fl 169 A0_6 n0_6 c0_6 D :: mapo Fl.bs.ov Fl.bool.ov b0_7 O :: Fr = l' ∧ r.1.length = c8 ∧ RdS Q0.fl.rep R.heap g2 r.2.2 ∧ r.2.2.length = c9 ∧ c9 ≤ g3) := by
 subst hn0_0; subst hn0_3; subst hn0_4; subst hn0_5; subst hn0_6; refine Spec.of Tryz.func60 rfl rfl ?_; unfold Q38.f at j; have j := brun j; refine sR 1 rfl ?_; obtain ⟨G, h9, j⟩ := bbind j; refine At.call rfl Q103.callee rfl rfl rfl (Q103.spec c7 hr0_0 rfl hc0_0 rfl rfl rfl rfl h9) ?_; rintro _ _ ⟨b4, d0, r6, d1, rfl, rfl, b5, rfl, b6⟩; refine At.alloc rfl rfl rfl (fun U => ?_); refine At.store rfl rfl rfl rfl .z rfl rfl rfl (.c (.c (.c (.c .n)))) ?_; refine nT (At.seq ?_); obtain ⟨k0, k1, k2, j⟩ := bjoin j; let M : HProp := pc U [i6 G.2.2.1, i6 G.2.2.2.1, .string ⟨(G.2.2.2.2.1).toArray⟩, i6 G.2.2.2.2.2] 115; refine At.join (X := (Option Q5) × (Option Nat)) (fun s_ => [(0, bp b0), (2, bp U)]) (fun s_ => optb (Ow.fl Q5.fl) 121 s_.2 s_.1 :: pc b0 [.slice d0 G.2.1.length d1, optp s_.2, i6 L, .slice A0_3 q.length c0_3, .slice A0_4 u.length c0_4, .slice A0_5 p.length c0_5, .slice A0_6 D.length c0_6, .map (some b0_7)] 113 :: row Fl.bs 9 A0_3 q.length c0_3 q :: row Q3.fl 48 A0_4 u.length c0_4 u :: grow Q4.ow 41 A0_5 p.length c0_5 p :: row Q9.fl 169 A0_6 D.length c0_6 D :: mapo Fl.bs.ov Fl.bool.ov b0_7 O :: M :: Fr) (fun s_ => k0 (.inl s_.1) = some r) ?_ (fun d2 => ?_)
 ·rintro ⟨k3, k4⟩ j; have j := (k1 _).symm.trans j
  ·refine sR 1 rfl (nT (At.seq ?_)); refine At.block ?_; obtain ⟨k5, k6, r7, j⟩ := bjoin j; obtain ⟨a4, d3, k7⟩ := bsome j; clear j; unfold Q38.l0 at d3; obtain ⟨d4, a5⟩ := Q18.1 d3; clear d3; refine At.nilRow (Fl.int .i64) 3 ?_; let V : HProp := row Fl.bs 9 A0_3 q.length c0_3 q; let Z : HProp := row Q3.fl 48 A0_4 u.length c0_4 u; let a6 : HProp := grow Q4.ow 41 A0_5 p.length c0_5 p; let a0 : HProp := row Q9.fl 169 A0_6 D.length c0_6 D; let a1 : HProp := mapo Fl.bs.ov Fl.bool.ov b0_7 O; refine At.loopJ (X := (List Int) × (Option Q5) × (List Q0) × Nat × (Option Addr) × Nat × (Option Nat) × (Option Addr) × Nat × Nat) (Y := (Option Q5) × (List Int) × (List Q0) × (Option Nat) × Nat × (Option Addr) × Nat × (Option Addr) × Nat × Nat) (e0 := 1) (fun s_ => [(0, bp b0), (2, bp U), (3, .slice s_.2.2.2.2.1 s_.2.2.2.1 s_.2.2.2.2.2.1)]) (fun s_ => row (Fl.int .i64) 3 s_.2.2.2.2.1 s_.2.2.2.1 s_.2.2.2.2.2.1 s_.1 :: optb (Ow.fl Q5.fl) 121 s_.2.2.2.2.2.2.1 s_.2.1 :: pc b0 [.slice s_.2.2.2.2.2.2.2.1 (d8 s_).1 (d8 s_).2, optp s_.2.2.2.2.2.2.1, i6 L, .slice A0_3 q.length c0_3, .slice A0_4 u.length c0_4, .slice A0_5 p.length c0_5, .slice A0_6 D.length c0_6, .map (some b0_7)] 113 :: V :: Z :: a6 :: a0 :: a1 :: M :: Fr) (fun m_ => fun s_ => iterN (fun t_ : (List Int) × (Option Q5) × (List Q0) => Q38.l0b L q u p D O t_.1 t_.2.1 t_.2.2) m_ (s_.1, s_.2.1, s_.2.2.1) = some a4 ∧ s_.1.length = s_.2.2.2.1 ∧ RdS Q0.fl.rep R.heap s_.2.2.2.2.2.2.2.1 s_.2.2.1 ∧ s_.2.2.1.length = (d8 s_).1 ∧ (d8 s_).1 ≤ (d8 s_).2) d4 (([] : List Int), k3, G.2.1, 0, none, 0, k4, d0, G.2.1.length, d1) ⟨a5, rfl, b5, rfl, b6⟩ (fun s_ => [(0, bp b0), (2, bp U), (3, .slice s_.2.2.2.2.2.1 s_.2.2.2.2.1 s_.2.2.2.2.2.2.1)]) (fun s_ => pc b0 [.slice s_.2.2.2.2.2.2.2.1 (d8 s_).1 (d8 s_).2, optp s_.2.2.2.1, i6 L, .slice A0_3 q.length c0_3, .slice A0_4 u.length c0_4, .slice A0_5 p.length c0_5, .slice A0_6 D.length c0_6, .map (some b0_7)] 113 :: optb (Ow.fl Q5.fl) 121 s_.2.2.2.1 s_.1 :: V :: Z :: a6 :: a0 :: a1 :: row (Fl.int .i64) 3 s_.2.2.2.2.2.1 s_.2.2.2.2.1 s_.2.2.2.2.2.2.1 s_.2.1 :: M :: Fr) (fun s_ => k5 (.inl (s_.1, s_.2.1, s_.2.2.1)) = some r ∧ s_.2.1.length = s_.2.2.2.2.1 ∧ RdS Q0.fl.rep R.heap s_.2.2.2.2.2.2.2.1 s_.2.2.1 ∧ s_.2.2.1.length = (d8 s_).1 ∧ (d8 s_).1 ≤ (d8 s_).2) (fun a w e hs => ⟨e.sub ⟨rfl, rfl, rfl, trivial⟩, (by exact hs)⟩) ?_ (fun k8 => ?_)
   ·rintro ⟨g4, a7, d5, b7, k9, b8, b9, g5, l5, g6⟩ ⟨j, l6, l7, l8, l9⟩; obtain rfl : a7.length = k9 := l6; obtain rfl : d5.length = l5 := l8; have j := (k6 _).symm.trans j
    ·refine At.ibx ?_; refine At.thn (sR 1 rfl (At.f7 ?_)); obtain ⟨c4, m0, j⟩ := bbind j; refine At.call rfl Q84.callee rfl rfl rfl (Q84.spec rfl m0) ?_; rintro _ _ ⟨rfl, rfl⟩; refine nT ?_; refine At.held [optb (Ow.fl Q5.fl) 121 b7 g4, V, Z, a0, a1, M] 16 rfl ?_; refine At.H.pw 0 rfl rfl rfl rfl rfl (.c (.s (.s .z)) (.c (.s (.s .z)) (.c (.s (.s .z)) (.c (.s (.s (.s .z))) (.c (.s (.s (.s .z))) (.c (.s (.s (.s .z))) .n)))))) ?_; refine At.H.pw 1 rfl rfl rfl rfl rfl (.c (.s (.s .z)) (.c (.s (.s .z)) (.c (.s (.s .z)) (.c (.s (.s (.s .z))) (.c (.s (.s (.s .z))) (.c (.s (.s (.s .z))) .n)))))) ?_; refine At.H.pw 2 rfl rfl rfl rfl rfl (.c (.s (.s .z)) (.c (.s (.s .z)) (.c (.s (.s .z)) (.c (.s (.s (.s .z))) (.c (.s (.s (.s .z))) (.c (.s (.s (.s .z))) .n)))))) ?_; refine At.H.pw 3 rfl rfl rfl rfl rfl (.c (.s (.s .z)) (.c (.s (.s .z)) (.c (.s (.s .z)) (.c (.s (.s (.s .z))) (.c (.s (.s (.s .z))) (.c (.s (.s (.s .z))) .n)))))) ?_; refine At.H.pw 4 rfl rfl rfl rfl rfl (.c (.s (.s .z)) (.c (.s (.s .z)) (.c (.s (.s .z)) (.c (.s (.s (.s .z))) (.c (.s (.s (.s .z))) (.c (.s (.s (.s .z))) .n)))))) ?_; refine At.H.pw 6 rfl rfl rfl rfl rfl (.c (.s (.s .z)) (.c (.s (.s .z)) (.c (.s (.s .z)) (.c (.s (.s (.s .z))) (.c (.s (.s (.s .z))) (.c (.s (.s (.s .z))) .n)))))) ?_; refine At.H.tw 7 rfl (Y.load rfl rfl (.s (.s (.s (.s (.s .z))))) rfl rfl rfl) rfl rfl rfl (.c (.s (.s .z)) (.c (.s (.s .z)) (.c (.s (.s .z)) (.c (.s (.s (.s .z))) (.c (.s (.s (.s .z))) (.c (.s (.s (.s .z))) .n)))))) ?_; refine At.H.pw 8 rfl rfl rfl rfl rfl (.c (.s (.s .z)) (.c (.s (.s .z)) (.c (.s (.s .z)) (.c (.s (.s (.s .z))) (.c (.s (.s (.s .z))) (.c (.s (.s (.s .z))) .n)))))) ?_; refine At.H.tw 9 rfl (Y.build (is := [0, 1]) (xo := [.tmp 77, .tmp 78]) (vs := [.string ⟨(G.2.2.2.2.1).toArray⟩, .slice b8 a7.length b9]) (cs := [.string ⟨(G.2.2.2.2.1).toArray⟩, .slice b8 a7.length b9]) rfl rfl rfl rfl rfl rfl) rfl rfl rfl (.c (.s (.s .z)) (.c (.s (.s .z)) (.c (.s (.s .z)) (.c (.s (.s (.s .z))) (.c (.s (.s (.s .z))) (.c (.s (.s (.s .z))) .n)))))) ?_; obtain ⟨g7, j⟩ := bnone j; refine At.H.joinK (X := (Option Addr) × Nat) (fun s_ => []) (fun s_ => pc b0 [.slice g5 d5.length g6, optp b7, i6 L, .slice A0_3 q.length c0_3, .slice A0_4 u.length c0_4, .slice s_.1 ((p ++ [(⟨G.2.2.2.2.1, c4⟩ : Q4)]).length) s_.2, .slice A0_6 D.length c0_6, .map (some b0_7)] 113 :: grow Q4.ow 41 s_.1 ((p ++ [(⟨G.2.2.2.2.1, c4⟩ : Q4)]).length) s_.2 (p ++ [(⟨G.2.2.2.2.1, c4⟩ : Q4)]) :: optb (Ow.fl Q5.fl) 121 b7 g4 :: V :: Z :: a0 :: a1 :: M :: Fr) (fun s_ => True) ?_ (fun g8 => ?_)
     ·rintro ⟨m1, m2⟩ -
      ·refine At.drop (.s (.s (.s (.s (.s (.s (.s .z))))))) (At.f6 (At.f6 (At.f3 (At.f6 (At.f6 (At.f5 (At.f6 ?_))))))); cases bret j; exact At.res (.inr rfl) rfl rfl ⟨(p ++ [(⟨G.2.2.2.2.1, c4⟩ : Q4)]).length, m1, m2, b7, g5, d5.length, g6, rfl, rfl, rfl, l7, rfl, l9⟩
     ·refine At.H.al [5, 10] (Q6 ?_ (Q6 ?_ Q8))
      ··refine At.HO.op rfl ?_
        refine At.y (Y.load rfl rfl (.s .z) rfl rfl rfl) rfl rfl rfl ?_; refine At.HO.back (.c (.s (.s .z)) (.c (.s (.s .z)) (.c (.s (.s .z)) (.c (.s (.s (.s .z))) (.c (.s (.s (.s .z))) (.c (.s (.s (.s .z))) .n)))))) ?_; refine At.H.al [10] (Q6 ?_ Q8)
        ··refine At.HO.op rfl ?_
          refine At.lit rfl (xo := [.tmp 79]) (ys := ([rawOf (Q4.ow).sz [.string ⟨(G.2.2.2.2.1).toArray⟩, .slice b8 a7.length b9] rfl rfl] : List (Raw (Q4.ow).sz))) (Fl.raw (Q4.ow).sz (Q4.ow).pos) rfl rfl rfl rfl rfl rfl rfl rfl rfl rfl rfl (fun r8 r9 => ?_); refine At.HO.back (.c (.s (.s (.s .z))) (.c (.s (.s (.s .z))) (.c (.s (.s (.s .z))) (.c (.s (.s (.s (.s .z)))) (.c (.s (.s (.s (.s .z)))) (.c (.s (.s (.s (.s .z)))) .n)))))) ?_; refine At.H.al [11] (Q6 ?_ Q8)
          ··refine At.HO.op rfl ?_
            refine At.f1 (At.f1 (At.f6 ?_)); refine At.appendGrow (T := Q4.ow) rfl rfl Q4.ent rfl rfl rfl rfl rfl rfl rfl rfl rfl g7 (by decide) rfl (fun m3 m4 => ?_); refine At.HO.back (.c (.s (.s .z)) (.c (.s (.s .z)) (.c (.s (.s .z)) (.c (.s (.s .z)) (.c (.s (.s .z)) (.c (.s (.s .z)) .n)))))) ?_; refine At.H.pw 12 rfl rfl rfl rfl rfl (.c (.s (.s .z)) (.c (.s (.s .z)) (.c (.s (.s .z)) (.c (.s (.s .z)) (.c (.s (.s .z)) (.c (.s (.s .z)) .n)))))) ?_; refine At.H.pw 13 rfl rfl rfl rfl rfl (.c (.s (.s .z)) (.c (.s (.s .z)) (.c (.s (.s .z)) (.c (.s (.s .z)) (.c (.s (.s .z)) (.c (.s (.s .z)) .n)))))) ?_; refine At.H.pw 14 rfl rfl rfl rfl rfl (.c (.s (.s .z)) (.c (.s (.s .z)) (.c (.s (.s .z)) (.c (.s (.s .z)) (.c (.s (.s .z)) (.c (.s (.s .z)) .n)))))) ?_; refine At.H.al [15] (Q6 ?_ Q8)
            ··refine At.HO.op rfl ?_
              refine At.store rfl rfl rfl rfl (.s .z) rfl rfl rfl (.s (.s (.s (.s (.s (.c .n)))))) ?_; refine At.HO.back (.c (.s (.s .z)) (.c (.s (.s .z)) (.c (.s (.s .z)) (.c (.s (.s .z)) (.c (.s (.s .z)) (.c (.s (.s .z)) .n)))))) ?_; refine At.H.done (by kernel_rfl) ?_; exact At.of (g8 (m3, m4) trivial) trivial
      ··refine At.HO.op rfl ?_
        refine At.lit rfl (xo := [.tmp 79]) (ys := ([rawOf (Q4.ow).sz [.string ⟨(G.2.2.2.2.1).toArray⟩, .slice b8 a7.length b9] rfl rfl] : List (Raw (Q4.ow).sz))) (Fl.raw (Q4.ow).sz (Q4.ow).pos) rfl rfl rfl rfl rfl rfl rfl rfl rfl rfl rfl (fun s0 s1 => ?_); refine At.HO.back (.c (.s (.s (.s .z))) (.c (.s (.s (.s .z))) (.c (.s (.s (.s .z))) (.c (.s (.s (.s (.s .z)))) (.c (.s (.s (.s (.s .z)))) (.c (.s (.s (.s (.s .z)))) .n)))))) ?_; refine At.H.al [5] (Q6 ?_ Q8)
        ··refine At.HO.op rfl ?_
          refine At.y (Y.load rfl rfl (.s (.s .z)) rfl rfl rfl) rfl rfl rfl ?_; refine At.HO.back (.c (.s (.s (.s .z))) (.c (.s (.s (.s .z))) (.c (.s (.s (.s .z))) (.c (.s (.s (.s (.s .z)))) (.c (.s (.s (.s (.s .z)))) (.c (.s (.s (.s (.s .z)))) .n)))))) ?_; refine At.H.al [11] (Q6 ?_ Q8)
          ··refine At.HO.op rfl ?_
            refine At.f1 (At.f1 (At.f6 ?_)); refine At.appendGrow (T := Q4.ow) rfl rfl Q4.ent rfl rfl rfl rfl rfl rfl rfl rfl rfl g7 (by decide) rfl (fun m5 m6 => ?_); refine At.HO.back (.c (.s (.s .z)) (.c (.s (.s .z)) (.c (.s (.s .z)) (.c (.s (.s .z)) (.c (.s (.s .z)) (.c (.s (.s .z)) .n)))))) ?_; refine At.H.pw 12 rfl rfl rfl rfl rfl (.c (.s (.s .z)) (.c (.s (.s .z)) (.c (.s (.s .z)) (.c (.s (.s .z)) (.c (.s (.s .z)) (.c (.s (.s .z)) .n)))))) ?_; refine At.H.pw 13 rfl rfl rfl rfl rfl (.c (.s (.s .z)) (.c (.s (.s .z)) (.c (.s (.s .z)) (.c (.s (.s .z)) (.c (.s (.s .z)) (.c (.s (.s .z)) .n)))))) ?_; refine At.H.pw 14 rfl rfl rfl rfl rfl (.c (.s (.s .z)) (.c (.s (.s .z)) (.c (.s (.s .z)) (.c (.s (.s .z)) (.c (.s (.s .z)) (.c (.s (.s .z)) .n)))))) ?_; refine At.H.al [15] (Q6 ?_ Q8)
            ··refine At.HO.op rfl ?_
              refine At.store rfl rfl rfl rfl (.s .z) rfl rfl rfl (.s (.s (.s (.s (.s (.c .n)))))) ?_; refine At.HO.back (.c (.s (.s .z)) (.c (.s (.s .z)) (.c (.s (.s .z)) (.c (.s (.s .z)) (.c (.s (.s .z)) (.c (.s (.s .z)) .n)))))) ?_; refine At.H.done (by kernel_rfl) ?_; exact At.of (g8 (m5, m6) trivial) trivial
   ·clear a5 d4; rintro d4 ⟨I, d6, a8, m7, a2, a3, a9, g9, m8, h0⟩ ⟨a5, m9, d7, n2, d9⟩; obtain rfl : I.length = m7 := m9; obtain rfl : a8.length = m8 := n2; obtain ⟨n3, f_, n4, hf_, j⟩ := bit a5; clear a5; have j : (Q38.l0b L q u p D O I d6 a8).bind _ = some a4 := j; unfold Q38.l0b at j
    ·refine At.seq (sR 3 rfl (At.y (Y.load rfl rfl (.s (.s .z)) rfl rfl rfl) rfl rfl rfl ?_)); refine At.y (Y.eqOpt (.s .z) rfl rfl rfl rfl) rfl rfl rfl ?_; refine At.run 1 rfl ?_; obtain ⟨n5, n6, s2, j⟩ := bjoin j; let n7 : HProp := pc b0 [.slice g9 a8.length h0, optp a9, i6 L, .slice A0_3 q.length c0_3, .slice A0_4 u.length c0_4, .slice A0_5 p.length c0_5, .slice A0_6 D.length c0_6, .map (some b0_7)] 113; refine At.joinO 4 (X := Bool) (fun b2 => [(0, bp b0), (2, bp U), (3, .slice a2 I.length a3), (45, .bool b2)]) (fun b2 => n7 :: optb (Ow.fl Q5.fl) 121 a9 d6 :: V :: Z :: a6 :: a0 :: a1 :: row (Fl.int .i64) 3 a2 I.length a3 I :: M :: Fr) (fun b2 => n5 (.inl b2) = some a4) ?_ (fun h1 => ?_)
     ·rintro b2 j; have j := (n6 _).symm.trans j
      ·refine nT ?_; rcases bite j with ⟨e1, j⟩ | ⟨e1, j⟩
       ··refine At.condT rfl e1 ?_
         refine At.skip (At.thn ?_); refine At.block ?_; refine sR 1 rfl ?_; obtain ⟨J, n8, j⟩ := bbind j; refine At.call rfl Q91.callee rfl rfl rfl (Q91.spec a9 d7 rfl d9 rfl rfl rfl rfl n8) ?_; rintro _ _ ⟨c5, e2, s3, e3, rfl, rfl, h2, rfl, h3⟩; refine At.run 3 rfl ?_; refine At.alloc rfl rfl rfl (fun h4 => ?_); refine At.store rfl rfl rfl rfl .z rfl rfl rfl (.c (.c (.c (.c .n)))) ?_; refine At.run 1 rfl (nT (At.seq (sR 3 rfl (At.y (Y.load rfl rfl (.s (.s .z)) rfl rfl rfl) rfl rfl rfl ?_)))); refine At.y (Y.eqOpt (.s .z) rfl rfl rfl rfl) rfl rfl rfl ?_; refine At.run 1 rfl ?_; obtain ⟨n9, o0, s4, j⟩ := bjoin j; let h5 : HProp := pc h4 [i6 J.2.2.2.1, i6 J.2.2.2.2.1, .string ⟨(J.2.2.2.2.2.1).toArray⟩, i6 J.2.2.2.2.2.2] 115; let o7 : HProp := pc b0 [.slice e2 J.2.1.length e3, optp c5, i6 L, .slice A0_3 q.length c0_3, .slice A0_4 u.length c0_4, .slice A0_5 p.length c0_5, .slice A0_6 D.length c0_6, .map (some b0_7)] 113; refine At.joinO 4 (X := Bool) (fun b3 => [(0, bp b0), (2, bp U), (3, .slice a2 I.length a3), (4, bp h4), (5, i6 J.2.2.1), (60, .bool b3)]) (fun b3 => row (Fl.int .i64) 3 a2 I.length a3 I :: h5 :: optb (Ow.fl Q5.fl) 121 c5 J.1 :: o7 :: V :: Z :: a6 :: a0 :: a1 :: M :: Fr) (fun b3 => n9 (.inl b3) = some a4) ?_ (fun h6 => ?_)
         ·rintro b3 j; have j := (o0 _).symm.trans j
          ·refine nT ?_; obtain ⟨o8, o9, s5, j⟩ := bjoin j; refine At.join (X := (Option Q5) × (Option Nat)) (fun s_ => [(0, bp b0), (2, bp U), (3, .slice a2 I.length a3), (5, i6 J.2.2.1)]) (fun s_ => optb (Ow.fl Q5.fl) 121 s_.2 s_.1 :: pc b0 [.slice e2 J.2.1.length e3, optp s_.2, i6 L, .slice A0_3 q.length c0_3, .slice A0_4 u.length c0_4, .slice A0_5 p.length c0_5, .slice A0_6 D.length c0_6, .map (some b0_7)] 113 :: V :: Z :: a6 :: a0 :: a1 :: row (Fl.int .i64) 3 a2 I.length a3 I :: h5 :: M :: Fr) (fun s_ => o8 (.inl s_.1) = some a4) ?_ (fun h7 => ?_)
           ·rintro ⟨p0, p1⟩ j; have j := (o9 _).symm.trans j
            ·refine At.region (At.run 2 rfl ?_); refine At.lit rfl (xo := [.tmp 65]) (ys := ([J.2.2.1] : List Int)) (Fl.int .i64) rfl rfl rfl rfl rfl rfl rfl rfl rfl rfl rfl (fun s6 s7 => ?_); obtain ⟨p2, j⟩ := bnone j; refine At.append rfl (.s (.s (.s (.s (.s (.s (.s (.s .z)))))))) (Src.own .z (by simp)) rfl rfl rfl rfl rfl rfl rfl rfl p2 (by decide) rfl (fun p3 p4 => ?_); refine At.drop (.s .z) (At.run 1 rfl (At.nil ?_)); refine At.ibn ?_; refine At.drop (.s (.s (.s (.s (.s (.s (.s (.s .z)))))))) ?_; have j := bnx hf_ j; exact fun a w e hs => ⟨n3, ((I ++ ([J.2.2.1] : List Int)), p0, J.2.1, (I ++ ([J.2.2.1] : List Int)).length, p3, p4, p1, e2, J.2.1.length, e3), n4, ⟨j, rfl, h2, rfl, h3⟩, e.sub ⟨rfl, rfl, rfl, trivial⟩, hs⟩
           ··rcases bite j with ⟨e4, j⟩ | ⟨e4, j⟩
             ··refine At.condT rfl e4 ?_
               refine At.region (At.run 1 rfl (At.y (Y.load rfl rfl (.s .z) rfl rfl rfl) rfl rfl rfl (At.f8 (At.f8 (At.f8 (At.f8 (At.f8 ?_))))))); refine At.f7 (At.f8 ?_); obtain ⟨p5, p6, j⟩ := bbind j; refine At.call rfl Q20.callee rfl rfl rfl (Q20.spec c5 h2 rfl h3 rfl rfl rfl rfl p6) ?_; rintro _ _ ⟨p7, rfl, rfl⟩; refine nT ?_; exact fun a w e hs => h7 (p5, p7) j a w (e.sub ⟨rfl, rfl, rfl, rfl, trivial⟩) hs
             ··refine At.condF rfl (bn e4) ?_
               refine At.skip (At.thn (At.f9 (At.f2 (At.f2 (At.f9 (At.f9 (At.f9 ?_))))))); refine At.f9 (At.f9 (At.f9 (At.f9 ?_))); exact fun a w e hs => h7 (J.1, c5) j a w (e.sub ⟨rfl, rfl, rfl, rfl, trivial⟩) hs
         ··rcases bite j with ⟨e5, j⟩ | ⟨e5, j⟩
           ··refine At.know (t := 56) rfl e5 ?_
             refine At.run 2 rfl ?_; refine At.freeze (.s (.s (.s (.s (.s (.s (.s (.s .z)))))))) fun s8 p8 p9 q0 s9 q1 => ?_; obtain ⟨q2, q3, j⟩ := bbind j; refine At.call rfl Q148.callee rfl rfl rfl (Q148.spec p8 p9 q0 q3) ?_; rintro _ _ ⟨rfl, rfl⟩; refine At.run 1 rfl ?_; refine At.thaw q1 ?_; exact At.of (h6 q2 j) ⟨rfl, rfl, rfl, rfl, rfl, rfl, trivial⟩
           ··refine At.know (t := 56) rfl (bn e5) ?_
             refine At.run 4 rfl (At.f9 (At.f8 (At.f8 (At.f8 (At.f8 (At.f8 (At.f8 ?_))))))); refine At.f8 (At.f8 (At.f9 ?_)); exact At.of (h6 false j) ⟨rfl, rfl, rfl, rfl, rfl, rfl, trivial⟩
       ··refine At.condF rfl (bn e1) ?_
         refine At.exit ?_; refine At.the ?_; refine At.the ?_; exact fun a w e hs => k8 (d6, I, a8, a9, I.length, a2, a3, g9, a8.length, h0) ⟨(bdn j k7), rfl, d7, rfl, d9⟩ a w (e.sub ⟨rfl, rfl, rfl, trivial⟩) hs
     ··rcases bite j with ⟨e6, j⟩ | ⟨e6, j⟩
       ··refine At.know (t := 41) rfl e6 ?_
         refine At.run 1 rfl (At.f7 (At.f7 (At.f7 (At.f7 (At.f7 (At.f6 (At.f7 ?_))))))); obtain ⟨q4, q5, j⟩ := bbind j; refine At.call rfl Q110.callee rfl rfl rfl (Q110.spec a9 d7 rfl d9 rfl rfl rfl rfl q5) ?_; rintro _ _ ⟨rfl, rfl⟩; refine At.run 2 rfl ?_; exact At.of (h1 (!q4) j) ⟨rfl, rfl, rfl, rfl, trivial⟩
       ··refine At.know (t := 41) rfl (bn e6) ?_
         refine At.run 4 rfl (At.f8 (At.f1 (At.f8 (At.f8 (At.f8 (At.f8 (At.f8 ?_))))))); refine At.f7 (At.f8 ?_); exact At.of (h1 false j) ⟨rfl, rfl, rfl, rfl, trivial⟩
 ··refine At.block ?_
   refine sR 3 rfl (At.y (Y.load rfl rfl (.s (.s .z)) rfl rfl rfl) rfl rfl rfl ?_); refine At.y (Y.neOpt (.s .z) rfl rfl rfl rfl) rfl rfl rfl ?_; refine At.run 1 rfl (nT ?_); rcases bite j with ⟨e7, j⟩ | ⟨e7, j⟩
   ··refine At.condF rfl (nf e7) ?_
     refine sR 4 rfl (At.y (Y.load rfl rfl (.s (.s .z)) rfl rfl rfl) rfl rfl rfl (At.run 3 rfl (nT ?_))); rcases bite j with ⟨e8, j⟩ | ⟨e8, j⟩
     ··refine At.condT rfl (decide_eq_true e8) ?_
       refine At.region (At.run 1 rfl (At.y (Y.load rfl rfl .z rfl rfl rfl) rfl rfl rfl (At.f7 (At.f7 (At.f7 (At.f7 (At.f7 ?_))))))); refine At.f6 (At.f7 ?_); obtain ⟨q6, q7, j⟩ := bbind j; refine At.call rfl Q20.callee rfl rfl rfl (Q20.spec b4 b5 rfl b6 rfl rfl rfl rfl q7) ?_; rintro _ _ ⟨q8, rfl, rfl⟩; refine At.nil ?_; refine At.ibn ?_; refine At.thn ?_; exact fun a w e hs => d2 (q6, q8) j a w (e.sub ⟨rfl, rfl, trivial⟩) hs
     ··refine At.condF rfl (decide_eq_false e8) ?_
       refine sR 4 rfl (At.y (Y.load rfl rfl (.s (.s .z)) rfl rfl rfl) rfl rfl rfl (At.run 1 rfl ?_)); refine At.freezeGrow (.s (.s (.s (.s (.s .z))))) fun t0 q9 r0 r1 t1 h8 => ?_; obtain ⟨t3, r2, j⟩ := bbind j; refine At.call rfl Q131.callee rfl rfl rfl (Q131.spec q9 r0 r1 r2) ?_; rintro _ _ ⟨rfl, rfl⟩; refine At.run 1 rfl (nT ?_); rcases bite j with ⟨e9, j⟩ | ⟨e9, j⟩
       ··refine At.condT rfl e9 ?_
         refine At.region (At.run 1 rfl (At.y (Y.load rfl rfl .z rfl rfl rfl) rfl rfl rfl ?_)); refine At.thaw h8 ?_; refine At.f7 (At.f7 (At.f2 (At.f7 (At.f7 (At.f6 (At.f7 ?_)))))); obtain ⟨r3, r4, j⟩ := bbind j; refine At.call rfl Q20.callee rfl rfl rfl (Q20.spec b4 b5 rfl b6 rfl rfl rfl rfl r4) ?_; rintro _ _ ⟨r5, rfl, rfl⟩; refine At.nil ?_; refine At.ibn ?_; refine At.thn ?_; exact fun a w e hs => d2 (r3, r5) j a w (e.sub ⟨rfl, rfl, trivial⟩) hs
       ··refine At.condF rfl (bn e9) ?_
         refine At.skip ?_; refine At.ibn ?_; refine At.thn ?_; refine At.thaw h8 ?_; refine At.f1 (At.f7 (At.f7 (At.f3 (At.f7 (At.f7 (At.f7 (At.f7 ?_))))))); exact fun a w e hs => d2 (G.1, b4) j a w (e.sub ⟨rfl, rfl, trivial⟩) hs
   ··refine At.condT rfl (nt (bn e7)) ?_
     refine At.ret ?_; refine At.ibr ?_; have j := bup k2 j; refine At.thr (At.drop .z ?_); cases bret j; exact At.res (.inl rfl) rfl rfl ⟨p.length, A0_5, c0_5, b4, d0, G.2.1.length, d1, rfl, rfl, rfl, b5, rfl, b6⟩

noncomputable def Q72.f (a0 : List Bs) : Option (List Bs) := if a0.length < 4611686018427387904 then some (a0.mergeSort fun x y => decide (x ≤ y)) else none
theorem Q72.callee : Callee Tryz.prog 119 := ⟨_, Tryz.func119, by kernel_rfl, by kernel_rfl⟩
theorem Q72.spec {a0 : List Bs} (hn0 : a0.length = n0) {r : List Bs} (j : Q72.f a0 = some r) :
 Spec Tryz.prog 119 [.slice A0 n0 c0] R (row Fl.bs 9 A0 n0 c0 a0 :: Fr) (fun v l' => v = .tuple #[] ∧ row Fl.bs 9 A0 n0 c0 r :: Fr = l') := by
 unfold Q72.f at j; split at j
 ·rename_i hb; cases j; exact Q330 Tryz.sort119 R Fr hb
 ·cases j

noncomputable def Q58.l0b (a0 : List Bs) (a1 : Bs) (p : Int) : Option ((Int) ⊕ ((Unit) ⊕ (Int))) :=
 if p < (a0.length : Int) then
 if (0 : Int) ≤ p ∧ p < (a0.length : Int) then
 if bseq a1 (gt a0 p) = true then
 upL (some p)
 else
 nx (IntKind.i64.wrap (p + 1))
 else none
 else
 dn (.inl ())
noncomputable def Q58.l0 (a0 : List Bs) (a1 : Bs) (p : Int) : Option ((Unit) ⊕ (Int)) := iter (fun t_ : Int => Q58.l0b a0 a1 t_) p
noncomputable def Q58.f (a0 : List Bs) (a1 : Bs) : Option Int :=
 jn (Q58.l0 a0 a1 0) (fun (_ : Unit) =>
 some (-1))
theorem Q58.callee : Callee Tryz.prog 120 := ⟨_, Tryz.func120, by kernel_rfl, by kernel_rfl⟩
theorem Q58.spec {a0 : List Bs} {a1 : Bs} (hr0 : RdS Fl.bs.rep R.heap A0 a0) (hn0 : a0.length = n0) (hc0 : n0 ≤ c0) {r : Int} (j : Q58.f a0 a1 = some r) :
 Spec Tryz.prog 120 [.slice A0 n0 c0, .string ⟨(a1).toArray⟩] R (Fr) (fun v l' => v = i6 r ∧ Fr = l') := by
 subst hn0; refine Spec.of Tryz.func120 rfl rfl ?_; unfold Q58.f at j; have j := brun j; refine sR 1 rfl (nT (At.seq (At.seq (At.region ?_)))); refine At.run 3 rfl (nT ?_); refine At.block ?_; obtain ⟨U, V, Z, j⟩ := bjoin j; obtain ⟨M, G, O⟩ := bsome j; clear j; unfold Q58.l0 at G; obtain ⟨I, u⟩ := Q18.1 G; clear G; refine At.loopJ (X := Int) (Y := Unit) (e0 := 0) (fun p => [(0, .slice A0 a0.length c0), (1, .string ⟨(a1).toArray⟩), (7, i6 (a0.length : Int)), (8, i6 p)]) (fun p => Fr) (fun m_ => fun p => iterN (fun t_ : Int => Q58.l0b a0 a1 t_) m_ p = some M) I 0 u (fun _ => []) (fun _ => Fr) (fun _ => U (.inl ()) = some r) (fun a w e hs => ⟨e.sub ⟨rfl, rfl, rfl, rfl, trivial⟩, (by exact hs)⟩) ?_ (fun a2 => ?_)
 ·rintro _ j; have j := (V _).symm.trans j
  ·refine At.ibx ?_; refine At.thn (sR 1 rfl (nT (At.ret ?_))); cases bret j; exact At.res (.inl rfl) rfl rfl ⟨rfl, rfl⟩
 ·clear u I; rintro I p u; obtain ⟨a3, f_, a4, hf_, j⟩ := bit u; clear u; have j : (Q58.l0b a0 a1 p).bind _ = some M := j; unfold Q58.l0b at j
  ·refine sR 1 rfl (nT (At.seq ?_)); rcases bite j with ⟨J, j⟩ | ⟨J, j⟩
   ··refine At.condT rfl (decide_eq_true J) ?_
     refine At.skip (At.thn (At.seq ?_)); refine At.block ?_; refine sR 2 rfl (nT (sR 3 rfl ?_)); obtain ⟨D, j⟩ := bnone j; refine At.y (Y.ixRd hr0 rfl rfl rfl rfl rfl rfl rfl D.1 D.2) rfl rfl rfl (At.y (Y.ldFl hr0 rfl (q := 0) rfl rfl D.1 D.2 rfl rfl rfl) rfl rfl rfl (At.run 1 rfl (nT ?_))); rcases bite j with ⟨L, j⟩ | ⟨L, j⟩
     ··refine At.condT rfl L ?_
       refine sR 2 rfl (nT (At.ret ?_)); refine At.ibr ?_; refine At.thr ?_; have j := bupL Z O j; refine At.thr ?_; refine At.ibr ?_; refine At.thr ?_; cases bret j; exact At.res (.inl rfl) rfl rfl ⟨rfl, rfl⟩
     ··refine At.condF rfl (bn L) ?_
       refine At.skip ?_; refine At.ibn ?_; refine At.thn (At.region (At.run 2 rfl (At.nil ?_))); have j := bnx hf_ j; exact fun a w e hs => ⟨a3, (IntKind.i64.wrap (p + 1)), a4, j, e.sub ⟨rfl, rfl, rfl, rfl, trivial⟩, hs⟩
   ··refine At.condF rfl (decide_eq_false J) ?_
     refine At.exit ?_; refine At.the ?_; refine At.the ?_; exact fun a w e hs => a2 () (bdn j O) a w (e.sub trivial) hs

noncomputable def Q37.cmp (x y : Q3) : Option Int := Q97.f x.From x.Action x.To y.From y.Action y.To
open Classical in
noncomputable def Q37.f (a0 : List Q3) : Option (List Q3) := if a0.length < 4611686018427387904 ∧ CmpTot Q37.cmp then some (byCmp Q37.cmp a0) else none
theorem Q37.callee : Callee Tryz.prog 121 := ⟨_, Tryz.func121, by kernel_rfl, by kernel_rfl⟩
theorem Q37.spec {a0 : List Q3} (hn0 : a0.length = n0) {r : List Q3} (j : Q37.f a0 = some r) :
 Spec Tryz.prog 121 [.slice A0 n0 c0, .func (.func 77) #[] #[]] R (row Q3.fl 48 A0 n0 c0 a0 :: Fr) (fun v l' => v = .tuple #[] ∧ row Q3.fl 48 A0 n0 c0 r :: Fr = l') := by
 unfold Q37.f at j; split at j
 ·rename_i hb; cases j; refine Q328 Tryz.sort121 Q3.fl (fun w => (Q14 (P := Tryz.prog) (t := 48) (i := Tryz.ti48) rfl).run_isAgg w) (fun w => (Q14 (P := Tryz.prog) (t := 48) (i := Tryz.ti48) rfl).run_sizeOf w) (gcf Q37.cmp) hb.2.1.2 hb.2.2 77 (enters_of Tryz.func77 (by kernel_rfl) rfl) (fun R x y => Q97.spec (gcf_eq hb.2.1 x y)) R Fr hb.1
 ·cases j

noncomputable def Q41.cmp (x y : Q4) : Option Int := Q114.f x.Name x.States y.Name y.States
open Classical in
noncomputable def Q41.f (a0 : List Q4) : Option (List Q4) := if a0.length < 4611686018427387904 ∧ CmpSwo Q41.cmp ∧ CmpParts Q41.cmp a0 then some (byCmp Q41.cmp a0) else none
theorem Q41.callee : Callee Tryz.prog 122 := ⟨_, Tryz.func122, by kernel_rfl, by kernel_rfl⟩
theorem Q41.spec {a0 : List Q4} (hn0 : a0.length = n0) {r : List Q4} (j : Q41.f a0 = some r) :
 Spec Tryz.prog 122 [.slice A0 n0 c0, .func (.func 81) #[] #[]] R (grow Q4.ow 41 A0 n0 c0 a0 :: Fr) (fun v l' => v = .tuple #[] ∧ grow Q4.ow 41 A0 n0 c0 r :: Fr = l') := by
 unfold Q41.f at j; split at j
 ·rename_i hb; cases j; refine Q301 Tryz.sort122 Q4.ow (fun w => (Q14 (P := Tryz.prog) (t := 41) (i := Tryz.ti41) rfl).run_isAgg w) (fun w => (Q14 (P := Tryz.prog) (t := 41) (i := Tryz.ti41) rfl).run_sizeOf w) (gcf Q41.cmp) hb.2.1.2 81 (enters_of Tryz.func81 (by kernel_rfl) rfl) ?_ R Fr hb.1 hb.2.2; rintro R x y cs cs' ⟨_, _, rfl, rfl, ⟨_, _, rfl, hc0_1, hr0_1⟩⟩ ⟨_, _, rfl, rfl, ⟨_, _, rfl, hc1_1, hr1_1⟩⟩; exact Q114.spec hr0_1 rfl hc0_1 hr1_1 rfl hc1_1 (gcf_eq hb.2.1 x y)
 ·cases j

end Go.Bw
namespace Go.Bw
open Go Go.RowKit

noncomputable def anyOrder {α β : Type} (xs : List α) (F : List α → Option β) : Option β :=
 open Classical in if h : ∃ r, ∀ ys, ys.Perm xs → F ys = some r then some h.choose else none
theorem Q243 {α β : Type} {xs : List α} {F : List α → Option β} {r : β} : anyOrder xs F = some r ↔ ∀ ys, ys.Perm xs → F ys = some r := by
 unfold anyOrder
 constructor
 ·intro h
  split at h
  ·rename_i hx
   have := Option.some.inj h
   intro ys hy
   rw [← this]
   exact hx.choose_spec ys hy
  ·cases h
 ·intro h
  have hx : ∃ r, ∀ ys, ys.Perm xs → F ys = some r := ⟨r, h⟩
  rw [dif_pos hx]
  have h1 := hx.choose_spec xs (List.Perm.refl _)
  rw [h xs (List.Perm.refl _)] at h1
  exact h1.symm
theorem banyOrder {α β ω : Type} {xs : List α} {F : List α → Option β} {G : β → Option ω} {r : ω} (h : (anyOrder xs F).bind G = some r) : ∀ ys, ys.Perm xs → (F ys).bind G = some r := by
 obtain ⟨t, h1, h2⟩ := bsome h
 intro ys hy
 rw [Q243.1 h1 ys hy]
 exact h2
def foldO {σ α : Type} (step : σ → α → Option σ) : σ → List α → Option σ
 | s, [] => some s
 | s, x :: xs => (step s x).bind fun t => foldO step t xs
theorem Q226 {σ α : Type} {step : σ → α → Option σ} : ∀ {xs ys : List α} {s : σ}, foldO step s (xs ++ ys) = (foldO step s xs).bind fun t => foldO step t ys
 | [], _, _ => rfl
 | x :: xs, ys, s => by
  show (step s x).bind _ = ((step s x).bind _).bind _
  cases step s x with
  | none => rfl
  | some t => exact Q226 (xs := xs)
theorem foldO_go {σ α ω : Type} {step : σ → α → Option σ} {kvs : List α} {done rest : List α} {x : α} {s0 s : σ} {G : σ → Option ω} {r : ω} (h : ∀ ys, ys.Perm kvs → (foldO step s0 ys).bind G = some r) (hs : foldO step s0 done = some s) (hp : (done ++ x :: rest).Perm kvs) :
 ∃ t, step s x = some t ∧ foldO step s0 (done ++ [x]) = some t := by
 have := h _ hp
 rw [Q226, hs] at this
 obtain ⟨u, h1, _⟩ := bsome this
 obtain ⟨t, h2, _⟩ := bsome (show (step s x).bind (fun t => foldO step t rest) = some u from h1)
 refine ⟨t, h2, ?_⟩
 rw [Q226, hs]
 show (step s x).bind (fun t => foldO step t []) = _
 rw [h2]
 rfl
theorem foldO_end {σ α ω : Type} {step : σ → α → Option σ} {kvs : List α} {done : List α} {s0 s : σ} {G : σ → Option ω} {r : ω} (h : ∀ ys, ys.Perm kvs → (foldO step s0 ys).bind G = some r) (hs : foldO step s0 done = some s) (hp : done.Perm kvs) : G s = some r := by
 have := h _ hp
 rw [hs] at this
 exact this
noncomputable def ordered {σ τ α β : Type} (kvs : List α) (step : σ → α → Option σ) (s0 : σ) (out : σ → τ) (f : τ → Option β) : Option β := anyOrder kvs fun ys => (foldO step s0 ys).bind fun s => f (out s)
theorem bordered {σ τ α β ω : Type} {kvs : List α} {step : σ → α → Option σ} {s0 : σ} {out : σ → τ} {f : τ → Option β} {G0 : β → Option ω} {r : ω} (h : (ordered kvs step s0 out f).bind G0 = some r) :
 ∃ G : τ → Option ω, (∀ y, G y = (f y).bind G0) ∧ ∀ ys, ys.Perm kvs → (foldO step s0 ys).bind (fun s => G (out s)) = some r :=
 ⟨fun y => (f y).bind G0, fun _ => rfl, fun ys hy => by
  have := banyOrder h ys hy
  rwa [Option.bind_assoc] at this⟩
theorem rng_lt {α : Type} {kvs done tl : List α} {z : α} {m : Nat} (hp : (done ++ z :: tl).Perm kvs) (hm : m + done.length = kvs.length) : tl.length < m ∧ tl.length + (done ++ [z]).length = kvs.length := by
 have := hp.length_eq
 simp at this ⊢
 omega
theorem Q288 {α : Type} (xs : List α) : (List.range xs.length).filterMap (fun i => xs[i]?) = xs := by
 induction xs with
 | nil => rfl
 | cons x xs ih =>
  rw [List.length_cons, List.range_succ_eq_map, List.filterMap_cons, List.filterMap_map]
  simp only [List.getElem?_cons_zero, Function.comp_def, List.getElem?_cons_succ]
  rw [ih]
theorem Q267 {α : Type} {xs done : List α} {is : List Nat} (hd : done.map some = is.map fun i => xs[i]?) : done = is.filterMap fun i => xs[i]? := by
 induction is generalizing done with
 | nil => cases done <;> simp at hd ⊢
 | cons i is ih =>
  cases done with
  | nil => simp at hd
  | cons x done =>
   simp only [List.map_cons, List.cons.injEq] at hd
   rw [List.filterMap_cons, ← hd.1, ← ih hd.2]
theorem idx_perm {α : Type} {xs done : List α} {is : List Nat} (hn : is.Nodup) (hl : ∀ i ∈ is, i < xs.length) (hd : done.map some = is.map fun i => xs[i]?) : ∃ rest, (done ++ rest).Perm xs := by
 refine ⟨((List.range xs.length).filter fun i => !is.contains i).filterMap fun i => xs[i]?, ?_⟩
 rw [Q267 hd, ← List.filterMap_append]
 have hp : (is ++ (List.range xs.length).filter fun i => !is.contains i).Perm (List.range xs.length) := by
  refine (List.perm_ext_iff_of_nodup ?_ List.nodup_range).2 fun a => ?_
  ·rw [List.nodup_append]
   refine ⟨hn, List.nodup_range.filter _, fun a ha b hb hab => ?_⟩
   subst hab
   simp at hb
   exact hb.2 ha
  ·simp only [List.mem_append, List.mem_filter, List.mem_range]
   constructor
   ·rintro (h | h)
    ·exact hl a h
    ·exact h.1
   ·intro h
    by_cases ha : a ∈ is
    ·exact .inl ha
    ·exact .inr ⟨h, by simpa using ha⟩
 have := hp.filterMap fun i => xs[i]?
 rwa [Q288] at this
theorem idx_full {α : Type} {xs done : List α} {is : List Nat} (hn : is.Nodup) (hl : ∀ i ∈ is, i < xs.length) (hf : ∀ i < xs.length, i ∈ is) (hd : done.map some = is.map fun i => xs[i]?) : done.Perm xs := by
 rw [Q267 hd]
 have hp : is.Perm (List.range xs.length) := (List.perm_ext_iff_of_nodup hn List.nodup_range).2 fun a => by
  rw [List.mem_range]
  exact ⟨hl a, hf a⟩
 have := hp.filterMap fun i => xs[i]?
 rwa [Q288] at this
section
variable {κ ν : Type}
def rngo (kv : κ → Value) (vv : ν → Value) (b r : Nat) (kvs done : List (κ × ν)) : HProp := fun h =>
 ∃ (es : List MapEntry) (clock since stp : Nat) (seen : Array Nat) (is : List Nat), h b = some (.map es.toArray clock) ∧ h r = some (.mapIter (some b) since seen stp) ∧ b ≠ r ∧
  es.map (fun e => (e.key, e.val)) = kvs.map (fun p => (kv p.1, vv p.2)) ∧ es.Pairwise (fun x y => x.born < y.born) ∧ (∀ e ∈ es, e.born < clock) ∧ since = clock ∧ stp = clock ∧
  is.Nodup ∧ (∀ i ∈ is, i < kvs.length) ∧ (done.map some = is.map fun i => kvs[i]?) ∧ seen.toList.map some = is.map fun i => es[i]?.map (·.born)
end
section
variable {P : Program} [Tys P] {os : List Oper} {Q : Exit → Act → World → Prop} {rest : List Oper} {n : Nat} {ds : List Deferred} {R : Res} {env : List (Nat × Value)} {l l' : List HProp}
variable {d ty t : Nat} {pos : String} {af : Array Edge} {g : Option (Nat × Bool)} {κ ν : Type} [DecidableEq κ] {kv : κ → Value} {vv : ν → Value} {kvs done : List (κ × ν)} {b r kt et : Nat} {K : Act → World → Prop}
theorem At.rangeMap {x : Operand} {ii : TI} (f : Frt l (mapo kv vv b kvs) l') (hg : grd os env g = some true) (hi : ti P t = some ii) (hk : ii.k = .map kt et) (hx : ev env x = some (.map (some b))) (hd : Nat.blt d n = true)
 (h : ∀ r, At n ds R ((d, .pointer (some ⟨r, 0, none⟩)) :: env) (rngo kv vv b r kvs [] :: l') (wpList P os.toArray Q rest)) :
 At n ds R env l (wpList P os.toArray Q (⟨some d, .range t x, ty, pos, af, g⟩ :: rest)) := Q76 hg rfl hd fun a w e hs => by
 have hs1 := hs.frt f
 obtain ⟨es, clock, hb, _⟩ := Q189 hs1
 have hgo : (getObj b).run P w = .ok (.map es.toArray clock) w := MapKept.run_getObj_map hb
 have h1 := hs1.alloc (.mapIter (some b) clock #[] clock)
 refine ⟨_, w.alloc (.mapIter (some b) clock #[] clock), rngo kv vv b w.heap.size kvs [] :: l', ?_, ?_, h w.heap.size⟩
 ·simp [execOp, Instr.range, e.ev hx, run_underlying ((Q14 hi).map hk), hgo, Result.andThen]
 ·obtain ⟨ok, h0, ⟨k1, k2, p1, ⟨k3, k4, m1, st, d2, s3, s4⟩, d1, s1, s2⟩, dR, ss⟩ := h1
  have d13 : Disj k1 k3 := d1.sub (Sub.refl _) s3
  refine ⟨ok, h0, ⟨uni k1 k3, k4, ?_, st, Disj.uni_l (d1.sub (Sub.refl _) s4) d2, Q112 s1 (s3.trans s2), s4.trans s2⟩, dR, ss⟩
  obtain ⟨es', clock', hb', hm, hp, hc⟩ := m1
  have hne : b ≠ w.heap.size := fun e => by subst e; exact d13 _ _ _ p1 hb'
  have hbb : w.heap[b]? = some (.map es.toArray clock) := hb
  have heq : Obj.map es'.toArray clock' = .map es.toArray clock := by
   have h5 : (w.alloc (.mapIter (some b) clock #[] clock)).heap[b]? = some (.map es'.toArray clock') := ss _ _ (s2 _ _ (s3 _ _ hb'))
   rw [Below.heap_alloc _ _ _ (Array.getElem?_eq_some_iff.1 hb).1, hbb] at h5
   exact (Option.some.inj h5).symm
  cases heq
  exact ⟨es, clock, clock, clock, #[], [], Q87 d13 _ _ hb', Q88 k1 k3 _ _ p1, hne, hm, hp, hc, rfl, rfl, List.nodup_nil, by simp, by simp, by simp⟩
theorem sat_rng {w : World} (hs : sat R (rngo kv vv b r kvs done :: l) w) : ∃ (es : List MapEntry) (clock : Nat) (seen : Array Nat) (is : List Nat), w.heap[b]? = some (.map es.toArray clock) ∧ w.heap[r]? = some (.mapIter (some b) clock seen clock) ∧ b ≠ r ∧
 es.map (fun e => (e.key, e.val)) = kvs.map (fun p => (kv p.1, vv p.2)) ∧ es.Pairwise (fun x y => x.born < y.born) ∧ (∀ e ∈ es, e.born < clock) ∧
 is.Nodup ∧ (∀ i ∈ is, i < kvs.length) ∧ (done.map some = is.map fun i => kvs[i]?) ∧ seen.toList.map some = is.map fun i => es[i]?.map (·.born) := by
 obtain ⟨h1, ⟨es, clock, since, stp, seen, is, a1, a2, a3, a4, a5, a6, rfl, rfl, a7⟩, s⟩ := hs.head
 exact ⟨es, _, seen, is, s _ _ a1, s _ _ a2, a3, a4, a5, a6, a7⟩
theorem At.nextMap {x : Operand} (hg : grd os env g = some true) (hx : ev env x = some (.pointer (some ⟨r, 0, none⟩))) (f : Frt l (rngo kv vv b r kvs done) l') (hd : Nat.blt d n = true)
 (hF : done.Perm kvs → At n ds R ((d, .tuple #[.bool false]) :: env) (rngo kv vv b r kvs done :: l') (wpList P os.toArray Q rest))
 (hT : ∀ (z : κ × ν) tl, (done ++ z :: tl).Perm kvs → At n ds R ((d, .tuple #[.bool true, kv z.1, vv z.2]) :: env) (rngo kv vv b r kvs (done ++ [z]) :: l') (wpList P os.toArray Q rest)) :
 At n ds R env l (wpList P os.toArray Q (⟨some d, .next x false, ty, pos, af, g⟩ :: rest)) := Q76 hg rfl hd fun a w e hs => by
 have hs1 := hs.frt f
 obtain ⟨es, clock, seen, is, hb, hr, hne, hm, hbn, hcl, hn, hl, hdn, hsn⟩ := sat_rng hs1
 have hlen : es.length = kvs.length := Q199 hm
 have hinj : ∀ i j, i < es.length → j < es.length → es[i]?.map (·.born) = es[j]?.map (·.born) → i = j := fun i j hi hj he => by
  rw [List.getElem?_eq_getElem hi, List.getElem?_eq_getElem hj] at he
  simp at he
  have hp := List.pairwise_iff_getElem.1 hbn
  rcases Nat.lt_trichotomy i j with h3 | h3 | h3
  ·have := hp i j hi hj h3; omega
  ·exact h3
  ·have := hp j i hj hi h3; omega
 have hseen : ∀ i, i < es.length → (seen.contains (es[i]?.map (·.born)).get! = true ↔ i ∈ is) := fun i hi => by
  rw [List.getElem?_eq_getElem hi]
  simp only [Option.map_some, Option.get!_some]
  rw [Array.contains_iff_mem, ← Array.mem_toList_iff]
  constructor
  ·intro h
   have : some es[i].born ∈ seen.toList.map some := List.mem_map_of_mem h
   rw [hsn] at this
   obtain ⟨j, hj, hje⟩ := List.mem_map.1 this
   have := hinj j i (by rw [hlen]; exact hl j hj) hi (by rw [hje, List.getElem?_eq_getElem hi]; rfl)
   subst this; exact hj
  ·intro h
   have : es[i]?.map (·.born) ∈ seen.toList.map some := by rw [hsn]; exact List.mem_map_of_mem (f := fun i => es[i]?.map (·.born)) h
   obtain ⟨q, hq, hqe⟩ := List.mem_map.1 this
   rw [List.getElem?_eq_getElem hi] at hqe
   simp at hqe
   rw [← hqe]; exact hq
 rcases run_next_at (P := P) w ty r b clock clock seen es.toArray clock hr hb (fun x hx => hcl x (by simpa using hx)) (Nat.le_refl _) with ⟨h0, hrun⟩ | ⟨e1, he, w1, hal, hrun⟩
 ·refine ⟨.tuple #[.bool false], w, rngo kv vv b r kvs done :: l', ?_, hs1, hF ?_⟩
  ·simp only [execOp, e.ev hx, Sem.run_bind, hrun, Result.andThen, Sem.run_pure]
  ·refine idx_full hn hl (fun i hi => ?_) hdn
   have hi' : i < es.length := by omega
   have := all_seen es.toArray seen h0 es[i] (by simp)
   refine (hseen i hi').1 ?_
   rw [List.getElem?_eq_getElem hi']
   simpa using this
 ·obtain ⟨hem, hes⟩ := mem_left he
  have hem' : e1 ∈ es := by simpa using hem
  obtain ⟨i, hi, hie⟩ := List.getElem_of_mem hem'
  have hi' : i < kvs.length := by omega
  have hnot : i ∉ is := fun h => by
   have := (hseen i hi).2 h
   rw [List.getElem?_eq_getElem hi, hie] at this
   simp at this hes
   exact hes this
  have hkv : (e1.key, e1.val) = (kv kvs[i].1, vv kvs[i].2) := by
   have := congrArg (fun l => l[i]?) hm
   simp only [List.getElem?_map, List.getElem?_eq_getElem hi, List.getElem?_eq_getElem hi', Option.map_some, hie] at this
   exact Option.some.inj this
  obtain ⟨hk1, hk2⟩ := Prod.mk.inj hkv
  have hn' : (is ++ [i]).Nodup := by
   rw [List.nodup_append]
   exact ⟨hn, by simp, fun a ha c hc hac => by simp at hc; subst hc hac; exact hnot ha⟩
  have hl' : ∀ j ∈ is ++ [i], j < kvs.length := fun j hj => by
   rcases List.mem_append.1 hj with h | h
   ·exact hl j h
   ·simp at h; subst h; exact hi'
  have hdn' : (done ++ [kvs[i]]).map some = (is ++ [i]).map fun j => kvs[j]? := by
   rw [List.map_append, List.map_append, hdn]
   simp [hi']
  obtain ⟨tl, htl⟩ := idx_perm hn' hl' hdn'
  refine ⟨.tuple #[.bool true, kv kvs[i].1, vv kvs[i].2], ChangeMaps.setBlock w1 r (.mapIter (some b) clock (seen.push e1.born) clock), rngo kv vv b r kvs (done ++ [kvs[i]]) :: l', ?_, ?_, hT kvs[i] tl (by simpa using htl)⟩
  ·simp only [execOp, e.ev hx, Sem.run_bind, hrun, Result.andThen, Sem.run_pure, hk1, hk2]
  ·have hs2 : sat R (rngo kv vv b r kvs done :: l') w1 := by rcases hal with rfl | rfl <;> first | exact hs1 | exact hs1.drew
   have hb1 : w1.heap[b]? = some (.map es.toArray clock) := by rcases hal with rfl | rfl <;> exact hb
   have hr1 : w1.heap[r]? = some (.mapIter (some b) clock seen clock) := by rcases hal with rfl | rfl <;> exact hr
   obtain ⟨h1, ⟨es2, c2, s2, q2, seen2, is2, a1, a2, _⟩, s, kk⟩ := hs2.upd
   have hset := MapKept.heap_set (o' := .mapIter (some b) clock (seen.push e1.born) clock) hr1
   refine kk _ (fun x => if x = r then some (.mapIter (some b) clock (seen.push e1.born) clock) else h1 x) _ ⟨es, clock, clock, clock, seen.push e1.born, is ++ [i], ?_, if_pos rfl, hne, hm, hbn, hcl, rfl, rfl, hn', hl', hdn', ?_⟩ rfl rfl rfl (Nat.le_refl _) (fun x o hx hnn => ?_) (fun x o hx => ?_) (fun x o hx => ?_)
   ·show (if b = r then _ else h1 b) = _
    rw [if_neg hne]
    have := s _ _ a1
    simp only [wh] at this
    rw [hb1] at this
    rw [a1]; exact this.symm
   ·rw [Array.toList_push, List.map_append, hsn, List.map_append]
    simp [hi, hie]
   ·have hxr : x ≠ r := fun h => by subst h; rw [a2] at hnn; cases hnn
    show (w1.heap.setIfInBounds r _)[x]? = _
    rw [hset.2 x hxr]; exact hx
   ·by_cases hxr : x = r
    ·subst hxr
     have hx : (if x = x then some (Obj.mapIter (some b) clock (seen.push e1.born) clock) else h1 x) = some o := hx
     rw [if_pos rfl] at hx
     cases hx
     exact hset.1
    ·have hx : (if x = r then some (Obj.mapIter (some b) clock (seen.push e1.born) clock) else h1 x) = some o := hx
     rw [if_neg hxr] at hx
     show (w1.heap.setIfInBounds r _)[x]? = _
     rw [hset.2 x hxr]
     exact s x o hx
   ·by_cases hxr : x = r
    ·subst hxr; exact .inl ⟨_, a2⟩
    ·have hx : (if x = r then some (Obj.mapIter (some b) clock (seen.push e1.born) clock) else h1 x) = some o := hx
     rw [if_neg hxr] at hx; exact .inl ⟨o, hx⟩
theorem Y.entry {x : Operand} {z : κ × ν} {dd : Option Nat} (f : Frt l (rngo kv vv b r kvs (done ++ [z])) l') (hx : ev env x = some (.pointer (some ⟨r, 0, none⟩))) : Y P n ds R env l ⟨dd, .entry x, ty, pos, af, g⟩ (.tuple #[kv z.1, vv z.2]) := fun a w e hs => by
 have hs1 := hs.frt f
 obtain ⟨es, clock, seen, is, hb, hr, hne, hm, hbn, hcl, hn, hl, hdn, hsn⟩ := sat_rng hs1
 have hlen : es.length = kvs.length := Q199 hm
 rcases List.eq_nil_or_concat is with rfl | ⟨is0, i, rfl⟩
 ·simp at hdn
 ·rw [List.concat_eq_append] at *
  simp only [List.map_append, List.map_cons, List.map_nil] at hdn hsn
  have hi : i < kvs.length := hl i (by simp)
  have hie : i < es.length := by omega
  have hz : some z = kvs[i]? := by
   have := List.append_inj_right' hdn rfl
   simpa using this
  rw [List.getElem?_eq_getElem hi] at hz
  have hz' := Option.some.inj hz
  have hkv : (es[i].key, es[i].val) = (kv z.1, vv z.2) := by
   have := congrArg (fun l => l[i]?) hm
   simp only [List.getElem?_map, List.getElem?_eq_getElem hie, List.getElem?_eq_getElem hi, Option.map_some] at this
   rw [hz']
   exact Option.some.inj this
  obtain ⟨hk1, hk2⟩ := Prod.mk.inj hkv
  have hsz : seen.toList ≠ [] := fun h => by rw [h] at hsn; simp at hsn
  have hseen : ∃ s0 : Array Nat, seen = s0.push es[i].born := by
   refine ⟨⟨seen.toList.dropLast⟩, ?_⟩
   apply Array.ext'
   rw [Array.toList_push]
   show seen.toList = seen.toList.dropLast ++ [es[i].born]
   have h1 := List.dropLast_concat_getLast hsz
   have h2 : seen.toList.getLast hsz = es[i].born := by
    have h3 : (seen.toList.map some).getLast? = some (some es[i].born) := by rw [hsn]; simp [hie]
    rw [List.getLast?_map, List.getLast?_eq_some_getLast hsz] at h3
    simpa using h3
   rw [← h2]; exact h1.symm
  obtain ⟨s0, hs0⟩ := hseen
  rw [hs0] at hr
  have := run_entry_at (P := P) w r b clock s0 es.toArray clock es[i] hr hb (by simp) (by
   show (es.map (·.born)).Nodup
   exact List.pairwise_map.2 (hbn.imp fun h => Nat.ne_of_lt h))
  simp only [execOp, e.ev hx, this, Sem.run_bind, Result.andThen, Sem.run_pure, hk1, hk2]
theorem At.rngEnd (f : Frt l (rngo kv vv b r kvs done) l') (h : At n ds R env (mapo kv vv b kvs :: l') K) : At n ds R env l K := fun a w e hs => h a w e ((hs.frt f).imp fun h ⟨es, clock, _, _, _, _, a1, _, _, a4, a5, a6, _⟩ => ⟨es, clock, a1, a4, a5, a6⟩)
end
end Go.Bw
namespace Go.Bw
open Go Go.RowKit Go.Proofs
variable {R : Res} {Fr : List HProp} {b0 n0_0 c0_0 n0_3 c0_3 n0_4 c0_4 n0_5 c0_5 n0_6 c0_6 b0_7 : Nat} {A0_0 A0_3 A0_4 A0_5 A0_6 : Option Addr}
noncomputable def Q29.l1b (q : List Q9) (G : List Bs) (u : List Q3) (p : Int) : Option (((List Q3) × Int) ⊕ (((List Q3)) ⊕ ((List Q4) × (List Q3) × (List Bs) × Int))) :=
 if p < (q.length : Int) then
 if (0 : Int) ≤ p ∧ p < (q.length : Int) then
 (Q58.f G ((gt q p).action)).bind fun D =>
 if (u.length + ([(⟨(gt q p).from_, D, (gt q p).to⟩ : Q3)] : List Q3).length) * 24 ≤ 140737488355328 then
 nx ((u ++ ([(⟨(gt q p).from_, D, (gt q p).to⟩ : Q3)] : List Q3)), IntKind.i64.wrap (p + 1))
 else none
 else none
 else
 dn (.inl u)
noncomputable def Q29.l1 (p : List Q9) (q : List Bs) (u : List Q3) (D : Int) : Option (((List Q3)) ⊕ ((List Q4) × (List Q3) × (List Bs) × Int)) := iter (fun t_ : (List Q3) × Int => Q29.l1b p q t_.1 t_.2) (u, D)
noncomputable def Q29.l0b  (p : Bs × Bool) (q : List Bs) : Option ((List Bs)) :=
 if (q.length + ([p.1] : List Bs).length) * 16 ≤ 140737488355328 then
 some (q ++ ([p.1] : List Bs))
 else none
noncomputable def Q29.f (X : List Q0) (Z : Option Q5) (q : Int) (u : List Bs) (D : List Q3) (G : List Q4) (I : List Q9) (J : List (Bs × Bool)) : Option ((List Q4) × (List Q3) × (List Bs) × Int) :=
 ordered J (fun (t_ : (List Bs)) (z_ : Bs × Bool) => Q29.l0b  z_ t_) u (fun L => L) (fun (M : List Bs) =>
 (Q72.f M).bind fun p =>
 jn (Q29.l1 I p D 0) (fun (O : List Q3) =>
 (Q37.f O).bind fun U =>
 (Q41.f G).bind fun V =>
 some (V, U, p, q)))
theorem Q29.callee : Callee Tryz.prog 62 := ⟨_, Tryz.func62, by kernel_rfl, by kernel_rfl⟩
theorem Q29.spec {O : List Q0} {a9 : Option Q5} {I : Int} {Z : List Bs} {J : List Q3} {D : List Q4} {p : List Q9} {V : List (Bs × Bool)} (L : Option Nat) (hr0_0 : RdS Q0.fl.rep R.heap A0_0 O) (hn0_0 : O.length = n0_0) (hc0_0 : n0_0 ≤ c0_0) (hn0_3 : Z.length = n0_3) (hn0_4 : J.length = n0_4) (hn0_5 : D.length = n0_5) (hn0_6 : p.length = n0_6) {r : (List Q4) × (List Q3) × (List Bs) × Int} (j : Q29.f O a9 I Z J D p V = some r) :
 Spec Tryz.prog 62 [bp b0] R (pc b0 [.slice A0_0 n0_0 c0_0, optp L, i6 I, .slice A0_3 n0_3 c0_3, .slice A0_4 n0_4 c0_4, .slice A0_5 n0_5 c0_5, .slice A0_6 n0_6 c0_6, .map (some b0_7)] 113 :: optb (Ow.fl Q5.fl) 121 L a9 :: row Fl.bs 9 A0_3 n0_3 c0_3 Z :: row Q3.fl 48 A0_4 n0_4 c0_4 J :: grow Q4.ow 41 A0_5 n0_5 c0_5 D :: row Q9.fl 169 A0_6 n0_6 c0_6 p :: mapo Fl.bs.ov Fl.bool.ov b0_7 V :: Fr) (fun v l' => ∃ (b6 : Nat) (d0 : Option Addr) (d1 : Nat) (b7 : Nat) (d2 : Option Addr) (d3 : Nat) (e2 : Value) (e3 : Value), v = .agg #[i6 r.2.2.2, .slice d2 b7 d3, .slice d0 b6 d1, .slice A0_5 n0_5 c0_5] ∧ pc b0 [.slice A0_0 n0_0 c0_0, optp L, i6 I, e2, e3, .slice A0_5 n0_5 c0_5, .slice A0_6 n0_6 c0_6, .map (some b0_7)] 113 :: optb (Ow.fl Q5.fl) 121 L a9 :: row Fl.bs 9 d2 b7 d3 r.2.2.1 :: row Q3.fl 48 d0 b6 d1 r.2.1 :: grow Q4.ow 41 A0_5 n0_5 c0_5 r.1 :: row Q9.fl 169 A0_6 n0_6 c0_6 p :: mapo Fl.bs.ov Fl.bool.ov b0_7 V :: Fr = l' ∧ r.2.1.length = b6 ∧ r.2.2.1.length = b7) := by
 subst hn0_0; subst hn0_3; subst hn0_4; subst hn0_5; subst hn0_6; refine Spec.of Tryz.func62 rfl rfl ?_; unfold Q29.f at j; have j := brun j; refine At.seq (At.region ?_); refine At.alloc rfl rfl rfl (fun a0 => ?_); refine nT (sR 3 rfl (At.y (Y.load rfl rfl (.s .z) rfl rfl rfl) rfl rfl rfl ?_)); refine At.alloc rfl rfl rfl (fun M => ?_); refine At.store rfl rfl rfl rfl .z rfl rfl rfl (.c (.c (.c (.c .n)))) ?_; refine nT (At.seq (sR 3 rfl (At.y (Y.load rfl rfl (.s (.s .z)) rfl rfl rfl) rfl rfl rfl ?_))); refine At.rangeMap (.s (.s (.s (.s (.s (.s (.s (.s .z)))))))) rfl rfl rfl rfl rfl (fun d4 => ?_); refine nT ?_; refine At.block ?_; obtain ⟨e4, e5, hall1092⟩ := bordered j; clear j; let T1 : HProp := pc a0 [i6 0, .slice none 0 0, .slice none 0 0, .slice none 0 0] 26; let T2 : HProp := optb (Ow.fl Q5.fl) 121 L a9; let T3 : HProp := row Q3.fl 48 A0_4 J.length c0_4 J; let T4 : HProp := grow Q4.ow 41 A0_5 D.length c0_5 D; let T5 : HProp := row Q9.fl 169 A0_6 p.length c0_6 p; refine At.loopJ (X := (List Bs) × (List (Bs × Bool)) × Nat × (Option Addr) × Nat × Value) (Y := (List Bs) × Nat × (Option Addr) × Nat × Value) (e0 := 0) (fun s_ => [(0, bp b0), (2, bp a0), (3, bp M), (15, bp d4)]) (fun s_ => rngo Fl.bs.ov Fl.bool.ov b0_7 d4 V s_.2.1 :: pc M [i6 I, .slice s_.2.2.2.1 s_.2.2.1 s_.2.2.2.2.1, .slice A0_4 J.length c0_4, .slice A0_5 D.length c0_5] 26 :: T1 :: pc b0 [.slice A0_0 O.length c0_0, optp L, i6 I, s_.2.2.2.2.2, .slice A0_4 J.length c0_4, .slice A0_5 D.length c0_5, .slice A0_6 p.length c0_6, .map (some b0_7)] 113 :: T2 :: row Fl.bs 9 s_.2.2.2.1 s_.2.2.1 s_.2.2.2.2.1 s_.1 :: T3 :: T4 :: T5 :: Fr) (fun m_ => fun s_ => (foldO (fun (t_ : (List Bs)) (z_ : Bs × Bool) => Q29.l0b  z_ t_) Z s_.2.1 = some s_.1 ∧ m_ + (s_.2.1).length = (V).length) ∧ s_.1.length = s_.2.2.1) (V).length (Z, [], Z.length, A0_3, c0_3, .slice A0_3 Z.length c0_3) ⟨⟨rfl, rfl⟩, rfl⟩ (fun s_ => [(0, bp b0), (2, bp a0), (3, bp M)]) (fun s_ => mapo Fl.bs.ov Fl.bool.ov b0_7 V :: pc M [i6 I, .slice s_.2.2.1 s_.2.1 s_.2.2.2.1, .slice A0_4 J.length c0_4, .slice A0_5 D.length c0_5] 26 :: T1 :: pc b0 [.slice A0_0 O.length c0_0, optp L, i6 I, s_.2.2.2.2, .slice A0_4 J.length c0_4, .slice A0_5 D.length c0_5, .slice A0_6 p.length c0_6, .map (some b0_7)] 113 :: T2 :: row Fl.bs 9 s_.2.2.1 s_.2.1 s_.2.2.2.1 s_.1 :: T3 :: T4 :: T5 :: Fr) (fun s_ => e4 s_.1 = some r ∧ s_.1.length = s_.2.1) (fun a w e hs => ⟨e.sub ⟨rfl, rfl, rfl, rfl, trivial⟩, hs⟩) ?_ (fun e6 => ?_)
 ·rintro ⟨a1, e7, a3, a4, a5⟩ ⟨j, e8⟩; obtain rfl : a1.length = e7 := e8; have j := (e5 _).symm.trans j
  ·refine At.ibx ?_; refine At.thn (sR 1 rfl (At.y (Y.load rfl rfl (.s .z) rfl rfl rfl) rfl rfl rfl (At.f5 ?_))); obtain ⟨b8, e9, j⟩ := bbind j; refine At.call rfl Q72.callee rfl rfl rfl (Q72.spec rfl e9) ?_; rintro _ _ ⟨rfl, rfl⟩; refine nT (At.seq (sR 3 rfl ?_)); refine At.y (Y.load rfl rfl (.s (.s (.s (.s .z)))) rfl rfl rfl) rfl rfl rfl ?_; refine At.run 2 rfl (nT ?_); refine At.block ?_; obtain ⟨f0, f1, m4, j⟩ := bjoin j; obtain ⟨d5, b9, f9⟩ := bsome j; clear j; unfold Q29.l1 at b9; obtain ⟨c4, a6⟩ := Q18.1 b9; clear b9; let T6 : HProp := row Fl.bs 9 a3 a1.length a4 b8; let T7 : HProp := mapo Fl.bs.ov Fl.bool.ov b0_7 V; refine At.loopJ (X := (List Q3) × Int × Nat × (Option Addr) × Nat × Value) (Y := (List Q3) × Nat × (Option Addr) × Nat × Value) (e0 := 2) (fun s_ => [(2, bp a0), (3, bp M), (32, .slice A0_6 p.length c0_6), (33, i6 (p.length : Int)), (34, i6 s_.2.1)]) (fun s_ => T6 :: T7 :: pc M [i6 I, .slice a3 a1.length a4, .slice s_.2.2.2.1 s_.2.2.1 s_.2.2.2.2.1, .slice A0_5 D.length c0_5] 26 :: T1 :: pc b0 [.slice A0_0 O.length c0_0, optp L, i6 I, a5, s_.2.2.2.2.2, .slice A0_5 D.length c0_5, .slice A0_6 p.length c0_6, .map (some b0_7)] 113 :: T2 :: row Q3.fl 48 s_.2.2.2.1 s_.2.2.1 s_.2.2.2.2.1 s_.1 :: T4 :: T5 :: Fr) (fun m_ => fun s_ => iterN (fun t_ : (List Q3) × Int => Q29.l1b p b8 t_.1 t_.2) m_ (s_.1, s_.2.1) = some d5 ∧ s_.1.length = s_.2.2.1) c4 (J, 0, J.length, A0_4, c0_4, .slice A0_4 J.length c0_4) ⟨a6, rfl⟩ (fun s_ => [(2, bp a0), (3, bp M)]) (fun s_ => T6 :: T7 :: pc M [i6 I, .slice a3 a1.length a4, .slice s_.2.2.1 s_.2.1 s_.2.2.2.1, .slice A0_5 D.length c0_5] 26 :: T1 :: pc b0 [.slice A0_0 O.length c0_0, optp L, i6 I, a5, s_.2.2.2.2, .slice A0_5 D.length c0_5, .slice A0_6 p.length c0_6, .map (some b0_7)] 113 :: T2 :: row Q3.fl 48 s_.2.2.1 s_.2.1 s_.2.2.2.1 s_.1 :: T4 :: T5 :: Fr) (fun s_ => f0 (.inl s_.1) = some r ∧ s_.1.length = s_.2.1) (fun a w e hs => ⟨e.sub ⟨rfl, rfl, rfl, rfl, rfl, trivial⟩, (by exact hs)⟩) ?_ (fun g0 => ?_)
   ·rintro ⟨d6, g1, g2, g3, g4⟩ ⟨j, g5⟩; obtain rfl : d6.length = g1 := g5; have j := (f1 _).symm.trans j
    ·refine At.ibx ?_; refine At.thn (sR 1 rfl (At.y (Y.load rfl rfl (.s (.s .z)) rfl rfl rfl) rfl rfl rfl (At.f6 ?_))); obtain ⟨m5, g6, j⟩ := bbind j; refine At.call rfl Q37.callee rfl rfl rfl (Q37.spec rfl g6) ?_; rintro _ _ ⟨rfl, rfl⟩; refine nT (sR 1 rfl (At.y (Y.load rfl rfl (.s (.s (.s .z))) rfl rfl rfl) rfl rfl rfl (At.f7 ?_))); obtain ⟨m6, g7, j⟩ := bbind j; refine At.call rfl Q41.callee rfl rfl rfl (Q41.spec rfl g7) ?_; rintro _ _ ⟨rfl, rfl⟩; refine nT (At.seq (At.region ?_)); refine At.y (Y.load rfl rfl (.s (.s (.s (.s .z)))) rfl rfl rfl) rfl rfl rfl ?_; refine At.store rfl rfl rfl rfl (.s (.s (.s (.s (.s .z))))) rfl rfl rfl (.c (.c (.c (.c .n)))) ?_; refine nT (At.ret ?_); refine At.rowLen (.s (.s .z)) fun g8 => ?_; refine At.rowLen (.s (.s (.s .z))) fun g9 => ?_; refine At.resM (.inl rfl) rfl (RV.cell rfl rfl .z rfl rfl rfl RV.nil) ?_; refine At.drop .z (At.drop (.s (.s (.s (.s .z)))) (At.f3 (At.f6 (At.f2 (At.f3 (At.f4 (At.f6 ?_))))))); refine At.f6 ?_; cases bret j; exact fun a w e hs => ⟨_, ⟨d6.length, g2, g3, a1.length, a3, a4, a5, g4, rfl, rfl, g8, g9⟩, hs⟩
   ·clear a6 c4; rintro c4 ⟨U, u, h0, h1, h2, b2⟩ ⟨a6, h3⟩; obtain rfl : U.length = h0 := h3; obtain ⟨h4, f_, h5, hf_, j⟩ := bit a6; clear a6; have j : (Q29.l1b p b8 U u).bind _ = some d5 := j; unfold Q29.l1b at j
    ·refine sR 1 rfl (nT (At.seq ?_)); rcases bite j with ⟨c5, j⟩ | ⟨c5, j⟩
     ··refine At.condT rfl (decide_eq_true c5) ?_
       refine At.skip (At.thn (At.seq ?_)); refine At.block ?_; refine At.seq (At.region ?_); obtain ⟨b3, j⟩ := bnone j; refine At.y (Y.ix (.s (.s (.s (.s (.s (.s (.s (.s .z)))))))) rfl rfl rfl rfl rfl rfl b3.1 b3.2) rfl rfl rfl ?_; refine At.y (Y.ld (.s (.s (.s (.s (.s (.s (.s (.s .z)))))))) (q := 0) rfl rfl b3.1 b3.2 rfl rfl rfl) rfl rfl rfl ?_; refine At.alloc rfl rfl rfl (fun d7 => ?_); refine At.store rfl rfl rfl rfl .z rfl rfl rfl (.c (.c (.c .n))) ?_; refine nT ?_; refine At.freeze (.s .z) fun m7 c6 c7 c8 m8 h6 => ?_; refine At.held [pc d7 [i6 ((gt p u).from_), .string ⟨((gt p u).action).toArray⟩, i6 ((gt p u).to)] 169, T7, T1, pc b0 [.slice A0_0 O.length c0_0, optp L, i6 I, a5, b2, .slice A0_5 D.length c0_5, .slice A0_6 p.length c0_6, .map (some b0_7)] 113, T2, T4, T5] 16 rfl ?_; refine At.H.pw 0 rfl rfl rfl rfl rfl (.c .z (.c .z (.c (.s .z) (.c (.s .z) (.c (.s .z) (.c (.s (.s .z)) (.c (.s (.s .z)) .n))))))) ?_; refine At.H.pw 2 rfl rfl rfl rfl rfl (.c .z (.c .z (.c (.s .z) (.c (.s .z) (.c (.s .z) (.c (.s (.s .z)) (.c (.s (.s .z)) .n))))))) ?_; refine At.H.tw 3 rfl (Y.load rfl rfl .z rfl rfl rfl) rfl rfl rfl (.c .z (.c .z (.c (.s .z) (.c (.s .z) (.c (.s .z) (.c (.s (.s .z)) (.c (.s (.s .z)) .n))))))) ?_; refine At.H.pw 4 rfl rfl rfl rfl rfl (.c .z (.c .z (.c (.s .z) (.c (.s .z) (.c (.s .z) (.c (.s (.s .z)) (.c (.s (.s .z)) .n))))))) ?_; refine At.H.pw 6 rfl rfl rfl rfl rfl (.c .z (.c .z (.c (.s .z) (.c (.s .z) (.c (.s .z) (.c (.s (.s .z)) (.c (.s (.s .z)) .n))))))) ?_; refine At.H.tw 7 rfl (Y.load rfl rfl .z rfl rfl rfl) rfl rfl rfl (.c .z (.c .z (.c (.s .z) (.c (.s .z) (.c (.s .z) (.c (.s (.s .z)) (.c (.s (.s .z)) .n))))))) ?_; refine At.H.pw 9 rfl rfl rfl rfl rfl (.c .z (.c .z (.c (.s .z) (.c (.s .z) (.c (.s .z) (.c (.s (.s .z)) (.c (.s (.s .z)) .n))))))) ?_; refine At.H.tw 10 rfl (Y.load rfl rfl .z rfl rfl rfl) rfl rfl rfl (.c .z (.c .z (.c (.s .z) (.c (.s .z) (.c (.s .z) (.c (.s (.s .z)) (.c (.s (.s .z)) .n))))))) ?_; obtain ⟨G, c9, j⟩ := bbind j; obtain ⟨b4, j⟩ := bnone j; let T8 : HProp := pc d7 [i6 ((gt p u).from_), .string ⟨((gt p u).action).toArray⟩, i6 ((gt p u).to)] 169; let T9 : HProp := pc b0 [.slice A0_0 O.length c0_0, optp L, i6 I, a5, b2, .slice A0_5 D.length c0_5, .slice A0_6 p.length c0_6, .map (some b0_7)] 113; refine At.H.joinK (X := (Option Addr) × Nat) (fun s_ => [(2, bp a0), (3, bp M), (32, .slice A0_6 p.length c0_6), (33, i6 (p.length : Int)), (34, i6 u)]) (fun s_ => pc M [i6 I, .slice a3 a1.length a4, .slice s_.1 ((U ++ ([(⟨(gt p u).from_, G, (gt p u).to⟩ : Q3)] : List Q3)).length) s_.2, .slice A0_5 D.length c0_5] 26 :: row Q3.fl 48 s_.1 ((U ++ ([(⟨(gt p u).from_, G, (gt p u).to⟩ : Q3)] : List Q3)).length) s_.2 (U ++ ([(⟨(gt p u).from_, G, (gt p u).to⟩ : Q3)] : List Q3)) :: T8 :: T7 :: T1 :: T9 :: T2 :: T4 :: T5 :: Fr) (fun s_ => True) ?_ (fun b5 => ?_)
       ·rintro ⟨h7, h8⟩ -
        ·refine At.ibn ?_; refine At.thn (At.region (At.run 2 rfl (At.nil ?_))); refine At.thaw h6 ?_; refine At.drop (.s (.s (.s .z))) (At.f8 (At.f8 (At.f4 (At.f8 (At.f8 (At.f8 (At.f7 ?_))))))); refine At.f8 (At.f8 ?_); have j := bnx hf_ j; exact fun a w e hs => ⟨h4, ((U ++ ([(⟨(gt p u).from_, G, (gt p u).to⟩ : Q3)] : List Q3)), IntKind.i64.wrap (u + 1), (U ++ ([(⟨(gt p u).from_, G, (gt p u).to⟩ : Q3)] : List Q3)).length, h7, h8, b2), h5, ⟨j, rfl⟩, e.sub ⟨rfl, rfl, rfl, rfl, rfl, trivial⟩, hs⟩
       ·refine At.H.al [1, 5] (Q6 ?_ (Q6 ?_ Q8))
        ··refine At.HO.op rfl ?_
          refine At.y (Y.load rfl rfl (.s (.s .z)) rfl rfl rfl) rfl rfl rfl ?_; refine At.HO.back (.c .z (.c .z (.c (.s .z) (.c (.s .z) (.c (.s .z) (.c (.s (.s .z)) (.c (.s (.s .z)) .n))))))) ?_; refine At.H.al [5] (Q6 ?_ Q8)
          ··refine At.HO.op rfl ?_
            refine At.y (Y.load rfl rfl (.s (.s .z)) rfl rfl rfl) rfl rfl rfl ?_; refine At.HO.back (.c .z (.c .z (.c (.s .z) (.c (.s .z) (.c (.s .z) (.c (.s (.s .z)) (.c (.s (.s .z)) .n))))))) ?_; refine At.H.al [8] (Q6 ?_ Q8)
            ··refine At.HO.op rfl ?_
              refine At.call rfl Q58.callee rfl rfl rfl (Q58.spec c6 c7 c8 c9) ?_; rintro _ _ ⟨rfl, rfl⟩; refine At.HO.back (.c .z (.c .z (.c (.s .z) (.c (.s .z) (.c (.s .z) (.c (.s (.s .z)) (.c (.s (.s .z)) .n))))))) ?_; refine At.H.tw 11 rfl (Y.build (is := [0, 1, 2]) (xo := [.tmp 41, .tmp 46, .tmp 48]) (vs := [i6 ((gt p u).from_), i6 G, i6 ((gt p u).to)]) (cs := [i6 ((gt p u).from_), i6 G, i6 ((gt p u).to)]) rfl rfl rfl rfl rfl rfl) rfl rfl rfl (.c .z (.c .z (.c (.s .z) (.c (.s .z) (.c (.s .z) (.c (.s (.s .z)) (.c (.s (.s .z)) .n))))))) ?_; refine At.H.al [12] (Q6 ?_ Q8)
              ··refine At.HO.op rfl ?_
                refine At.lit rfl (xo := [.tmp 49]) (ys := ([(⟨(gt p u).from_, G, (gt p u).to⟩ : Q3)] : List Q3)) Q3.fl rfl rfl rfl rfl rfl rfl rfl rfl rfl rfl rfl (fun m9 n2 => ?_); refine At.HO.back (.c (.s .z) (.c (.s .z) (.c (.s (.s .z)) (.c (.s (.s .z)) (.c (.s (.s .z)) (.c (.s (.s (.s .z))) (.c (.s (.s (.s .z))) .n))))))) ?_; refine At.H.al [13] (Q6 ?_ Q8)
                ··refine At.HO.op rfl ?_
                  refine At.append rfl (.s (.s (.s (.s (.s (.s (.s .z))))))) (Src.own .z (by simp)) rfl rfl rfl rfl rfl rfl rfl rfl b4 (by decide) rfl (fun h9 k0 => ?_); refine At.drop (.s .z) ?_; refine At.HO.back (.c (.s .z) (.c (.s .z) (.c (.s (.s .z)) (.c (.s (.s .z)) (.c (.s (.s .z)) (.c (.s (.s .z)) (.c (.s (.s .z)) .n))))))) ?_; refine At.H.pw 14 rfl rfl rfl rfl rfl (.c (.s .z) (.c (.s .z) (.c (.s (.s .z)) (.c (.s (.s .z)) (.c (.s (.s .z)) (.c (.s (.s .z)) (.c (.s (.s .z)) .n))))))) ?_; refine At.H.al [15] (Q6 ?_ Q8)
                  ··refine At.HO.op rfl ?_
                    refine At.store rfl rfl rfl rfl (.s (.s (.s .z))) rfl rfl rfl (.s (.s (.c .n))) ?_; refine At.HO.back (.c (.s (.s .z)) (.c (.s (.s .z)) (.c (.s (.s .z)) (.c (.s (.s .z)) (.c (.s (.s .z)) (.c (.s (.s .z)) (.c (.s (.s .z)) .n))))))) ?_; refine At.H.done (by kernel_rfl) ?_; exact At.of (b5 (h9, k0) trivial) ⟨rfl, rfl, rfl, rfl, rfl, trivial⟩
        ··refine At.HO.op rfl ?_
          refine At.y (Y.load rfl rfl (.s (.s .z)) rfl rfl rfl) rfl rfl rfl ?_; refine At.HO.back (.c .z (.c .z (.c (.s .z) (.c (.s .z) (.c (.s .z) (.c (.s (.s .z)) (.c (.s (.s .z)) .n))))))) ?_; refine At.H.al [1, 8] (Q6 ?_ (Q6 ?_ Q8))
          ··refine At.HO.op rfl ?_
            refine At.y (Y.load rfl rfl (.s (.s .z)) rfl rfl rfl) rfl rfl rfl ?_; refine At.HO.back (.c .z (.c .z (.c (.s .z) (.c (.s .z) (.c (.s .z) (.c (.s (.s .z)) (.c (.s (.s .z)) .n))))))) ?_; refine At.H.al [8] (Q6 ?_ Q8)
            ··refine At.HO.op rfl ?_
              refine At.call rfl Q58.callee rfl rfl rfl (Q58.spec c6 c7 c8 c9) ?_; rintro _ _ ⟨rfl, rfl⟩; refine At.HO.back (.c .z (.c .z (.c (.s .z) (.c (.s .z) (.c (.s .z) (.c (.s (.s .z)) (.c (.s (.s .z)) .n))))))) ?_; refine At.H.tw 11 rfl (Y.build (is := [0, 1, 2]) (xo := [.tmp 41, .tmp 46, .tmp 48]) (vs := [i6 ((gt p u).from_), i6 G, i6 ((gt p u).to)]) (cs := [i6 ((gt p u).from_), i6 G, i6 ((gt p u).to)]) rfl rfl rfl rfl rfl rfl) rfl rfl rfl (.c .z (.c .z (.c (.s .z) (.c (.s .z) (.c (.s .z) (.c (.s (.s .z)) (.c (.s (.s .z)) .n))))))) ?_; refine At.H.al [12] (Q6 ?_ Q8)
              ··refine At.HO.op rfl ?_
                refine At.lit rfl (xo := [.tmp 49]) (ys := ([(⟨(gt p u).from_, G, (gt p u).to⟩ : Q3)] : List Q3)) Q3.fl rfl rfl rfl rfl rfl rfl rfl rfl rfl rfl rfl (fun n3 n4 => ?_); refine At.HO.back (.c (.s .z) (.c (.s .z) (.c (.s (.s .z)) (.c (.s (.s .z)) (.c (.s (.s .z)) (.c (.s (.s (.s .z))) (.c (.s (.s (.s .z))) .n))))))) ?_; refine At.H.al [13] (Q6 ?_ Q8)
                ··refine At.HO.op rfl ?_
                  refine At.append rfl (.s (.s (.s (.s (.s (.s (.s .z))))))) (Src.own .z (by simp)) rfl rfl rfl rfl rfl rfl rfl rfl b4 (by decide) rfl (fun k1 k2 => ?_); refine At.drop (.s .z) ?_; refine At.HO.back (.c (.s .z) (.c (.s .z) (.c (.s (.s .z)) (.c (.s (.s .z)) (.c (.s (.s .z)) (.c (.s (.s .z)) (.c (.s (.s .z)) .n))))))) ?_; refine At.H.pw 14 rfl rfl rfl rfl rfl (.c (.s .z) (.c (.s .z) (.c (.s (.s .z)) (.c (.s (.s .z)) (.c (.s (.s .z)) (.c (.s (.s .z)) (.c (.s (.s .z)) .n))))))) ?_; refine At.H.al [15] (Q6 ?_ Q8)
                  ··refine At.HO.op rfl ?_
                    refine At.store rfl rfl rfl rfl (.s (.s (.s .z))) rfl rfl rfl (.s (.s (.c .n))) ?_; refine At.HO.back (.c (.s (.s .z)) (.c (.s (.s .z)) (.c (.s (.s .z)) (.c (.s (.s .z)) (.c (.s (.s .z)) (.c (.s (.s .z)) (.c (.s (.s .z)) .n))))))) ?_; refine At.H.done (by kernel_rfl) ?_; exact At.of (b5 (k1, k2) trivial) ⟨rfl, rfl, rfl, rfl, rfl, trivial⟩
          ··refine At.HO.op rfl ?_
            refine At.call rfl Q58.callee rfl rfl rfl (Q58.spec c6 c7 c8 c9) ?_; rintro _ _ ⟨rfl, rfl⟩; refine At.HO.back (.c .z (.c .z (.c (.s .z) (.c (.s .z) (.c (.s .z) (.c (.s (.s .z)) (.c (.s (.s .z)) .n))))))) ?_; refine At.H.tw 11 rfl (Y.build (is := [0, 1, 2]) (xo := [.tmp 41, .tmp 46, .tmp 48]) (vs := [i6 ((gt p u).from_), i6 G, i6 ((gt p u).to)]) (cs := [i6 ((gt p u).from_), i6 G, i6 ((gt p u).to)]) rfl rfl rfl rfl rfl rfl) rfl rfl rfl (.c .z (.c .z (.c (.s .z) (.c (.s .z) (.c (.s .z) (.c (.s (.s .z)) (.c (.s (.s .z)) .n))))))) ?_; refine At.H.al [1, 12] (Q6 ?_ (Q6 ?_ Q8))
            ··refine At.HO.op rfl ?_
              refine At.y (Y.load rfl rfl (.s (.s .z)) rfl rfl rfl) rfl rfl rfl ?_; refine At.HO.back (.c .z (.c .z (.c (.s .z) (.c (.s .z) (.c (.s .z) (.c (.s (.s .z)) (.c (.s (.s .z)) .n))))))) ?_; refine At.H.al [12] (Q6 ?_ Q8)
              ··refine At.HO.op rfl ?_
                refine At.lit rfl (xo := [.tmp 49]) (ys := ([(⟨(gt p u).from_, G, (gt p u).to⟩ : Q3)] : List Q3)) Q3.fl rfl rfl rfl rfl rfl rfl rfl rfl rfl rfl rfl (fun n5 n6 => ?_); refine At.HO.back (.c (.s .z) (.c (.s .z) (.c (.s (.s .z)) (.c (.s (.s .z)) (.c (.s (.s .z)) (.c (.s (.s (.s .z))) (.c (.s (.s (.s .z))) .n))))))) ?_; refine At.H.al [13] (Q6 ?_ Q8)
                ··refine At.HO.op rfl ?_
                  refine At.append rfl (.s (.s (.s (.s (.s (.s (.s .z))))))) (Src.own .z (by simp)) rfl rfl rfl rfl rfl rfl rfl rfl b4 (by decide) rfl (fun k3 k4 => ?_); refine At.drop (.s .z) ?_; refine At.HO.back (.c (.s .z) (.c (.s .z) (.c (.s (.s .z)) (.c (.s (.s .z)) (.c (.s (.s .z)) (.c (.s (.s .z)) (.c (.s (.s .z)) .n))))))) ?_; refine At.H.pw 14 rfl rfl rfl rfl rfl (.c (.s .z) (.c (.s .z) (.c (.s (.s .z)) (.c (.s (.s .z)) (.c (.s (.s .z)) (.c (.s (.s .z)) (.c (.s (.s .z)) .n))))))) ?_; refine At.H.al [15] (Q6 ?_ Q8)
                  ··refine At.HO.op rfl ?_
                    refine At.store rfl rfl rfl rfl (.s (.s (.s .z))) rfl rfl rfl (.s (.s (.c .n))) ?_; refine At.HO.back (.c (.s (.s .z)) (.c (.s (.s .z)) (.c (.s (.s .z)) (.c (.s (.s .z)) (.c (.s (.s .z)) (.c (.s (.s .z)) (.c (.s (.s .z)) .n))))))) ?_; refine At.H.done (by kernel_rfl) ?_; exact At.of (b5 (k3, k4) trivial) ⟨rfl, rfl, rfl, rfl, rfl, trivial⟩
            ··refine At.HO.op rfl ?_
              refine At.lit rfl (xo := [.tmp 49]) (ys := ([(⟨(gt p u).from_, G, (gt p u).to⟩ : Q3)] : List Q3)) Q3.fl rfl rfl rfl rfl rfl rfl rfl rfl rfl rfl rfl (fun n7 n8 => ?_); refine At.HO.back (.c (.s .z) (.c (.s .z) (.c (.s (.s .z)) (.c (.s (.s .z)) (.c (.s (.s .z)) (.c (.s (.s (.s .z))) (.c (.s (.s (.s .z))) .n))))))) ?_; refine At.H.al [1] (Q6 ?_ Q8)
              ··refine At.HO.op rfl ?_
                refine At.y (Y.load rfl rfl (.s (.s (.s .z))) rfl rfl rfl) rfl rfl rfl ?_; refine At.HO.back (.c (.s .z) (.c (.s .z) (.c (.s (.s .z)) (.c (.s (.s .z)) (.c (.s (.s .z)) (.c (.s (.s (.s .z))) (.c (.s (.s (.s .z))) .n))))))) ?_; refine At.H.al [13] (Q6 ?_ Q8)
                ··refine At.HO.op rfl ?_
                  refine At.append rfl (.s (.s (.s (.s (.s (.s (.s .z))))))) (Src.own .z (by simp)) rfl rfl rfl rfl rfl rfl rfl rfl b4 (by decide) rfl (fun k5 k6 => ?_); refine At.drop (.s .z) ?_; refine At.HO.back (.c (.s .z) (.c (.s .z) (.c (.s (.s .z)) (.c (.s (.s .z)) (.c (.s (.s .z)) (.c (.s (.s .z)) (.c (.s (.s .z)) .n))))))) ?_; refine At.H.pw 14 rfl rfl rfl rfl rfl (.c (.s .z) (.c (.s .z) (.c (.s (.s .z)) (.c (.s (.s .z)) (.c (.s (.s .z)) (.c (.s (.s .z)) (.c (.s (.s .z)) .n))))))) ?_; refine At.H.al [15] (Q6 ?_ Q8)
                  ··refine At.HO.op rfl ?_
                    refine At.store rfl rfl rfl rfl (.s (.s (.s .z))) rfl rfl rfl (.s (.s (.c .n))) ?_; refine At.HO.back (.c (.s (.s .z)) (.c (.s (.s .z)) (.c (.s (.s .z)) (.c (.s (.s .z)) (.c (.s (.s .z)) (.c (.s (.s .z)) (.c (.s (.s .z)) .n))))))) ?_; refine At.H.done (by kernel_rfl) ?_; exact At.of (b5 (k5, k6) trivial) ⟨rfl, rfl, rfl, rfl, rfl, trivial⟩
     ··refine At.condF rfl (decide_eq_false c5) ?_
       refine At.exit ?_; refine At.the ?_; refine At.the ?_; exact fun a w e hs => g0 (U, U.length, h1, h2, b2) ⟨(bdn j f9), rfl⟩ a w (e.sub ⟨rfl, rfl, trivial⟩) hs
 ·rintro n9 ⟨a2, k7, k8, k9, l5, d8⟩ ⟨⟨d9, e1⟩, l6⟩; obtain rfl : a2.length = k8 := l6
  ·refine At.seq (At.region ?_); refine At.nextMap rfl rfl .z rfl (fun a7 => ?_) (fun a8 l7 a7 => ?_)
   ·have j := foldO_end hall1092 d9 a7; refine At.run 1 rfl (nT (At.seq ?_)); refine At.condF rfl rfl ?_; refine At.exit ?_; refine At.the ?_; refine At.the ?_; refine At.rngEnd .z ?_; exact fun a w e hs => e6 (a2, a2.length, k9, l5, d8) ⟨j, rfl⟩ a w (e.sub ⟨rfl, rfl, rfl, trivial⟩) hs
   ·obtain ⟨l8, l9, m0⟩ := foldO_go hall1092 d9 a7; have j := brun (show Q29.l0b  a8 a2 = some l8 from l9); unfold Q29.l0b at j; refine At.run 1 rfl (nT (At.seq ?_)); refine At.condT rfl rfl ?_; refine At.skip (At.thn ?_); refine At.block ?_; refine At.seq (At.region ?_); refine At.y (Y.entry .z rfl) rfl rfl rfl ?_; refine At.run 2 rfl (nT (At.region (At.run 1 rfl (At.y (Y.load rfl rfl (.s .z) rfl rfl rfl) rfl rfl rfl (At.run 1 rfl ?_))))); refine At.lit rfl (xo := [.tmp 22]) (ys := ([a8.1] : List Bs)) Fl.bs rfl rfl rfl rfl rfl rfl rfl rfl rfl rfl rfl (fun o0 o7 => ?_); obtain ⟨m1, j⟩ := bnone j; refine At.append rfl (.s (.s (.s (.s (.s (.s .z)))))) (Src.own .z (by simp)) rfl rfl rfl rfl rfl rfl rfl rfl m1 (by decide) rfl (fun m2 m3 => ?_); refine At.drop (.s .z) (At.run 1 rfl ?_); refine At.store rfl rfl rfl rfl (.s (.s .z)) rfl rfl rfl (.s (.c .n)) ?_; refine At.nil ?_; refine At.ibn ?_; refine At.f8 (At.f8 (At.f8 (At.f4 (At.f8 (At.f8 (At.f8 (At.f7 ?_))))))); refine At.f8 ?_; obtain rfl := bret j; exact fun a w e hs => ⟨l7.length, ((a2 ++ ([a8.1] : List Bs)), (k7 ++ [a8]), (a2 ++ ([a8.1] : List Bs)).length, m2, m3, d8), (rng_lt a7 e1).1, ⟨⟨m0, (rng_lt a7 e1).2⟩, rfl⟩, e.sub ⟨rfl, rfl, rfl, rfl, trivial⟩, hs⟩

noncomputable def Q23.l0b (G : (Option Q5) × (List Q0) × Int) (I : Option Q5) (q : List Q4) (u : List Q9) (D : List (Bs × Bool)) (O : List Q0) : Option (((Option Q5) × (List Q4) × (List Q9) × (List (Bs × Bool)) × (List Q0)) ⊕ (((Option Q5) × (List Q4) × (List Q9) × (List (Bs × Bool)) × (List Q0)) ⊕ ((Option Q5) × (List Bs) × (List Q3) × (List Q4) × Int))) :=
 if I.isNone = true then
 (Q59.f O I G.2.2 ([] : List Bs) ([] : List Q3) q u D).bind fun J =>
 if (0 : Int) ≤ 0 ∧ 0 < (J.length : Int) then
 if (gt J 0).Kind = 0 then
 dn (.inl (I, q, u, D, J))
 else
 (Q49.f J I G.2.2 ([] : List Bs) ([] : List Q3) q u D 2).bind fun p =>
 if p.1.isNone = true then
 if bseq p.2.2.2.2.1 ([101, 100, 103, 101] : Bs) = true then
 (Q141.f p.2.1 p.1 G.2.2 ([] : List Bs) ([] : List Q3) q u D p.2.2.1 p.2.2.2.1 p.2.2.2.2.1 p.2.2.2.2.2).bind fun L =>
 nx (L.2.2.1, q, L.1, L.2.1, L.2.2.2)
 else
 if bseq p.2.2.2.2.1 ([109, 97, 114, 107] : Bs) = true then
 (Q38.f p.2.1 p.1 G.2.2 ([] : List Bs) ([] : List Q3) q u D).bind fun M =>
 nx (M.2.1, M.1, u, D, M.2.2)
 else
 (Q20.f p.2.1 p.1 G.2.2 ([] : List Bs) ([] : List Q3) q u D p.2.2.1 p.2.2.2.1 p.2.2.2.2.1 p.2.2.2.2.2 7).bind fun U =>
 nx (U, q, u, D, p.2.1)
 else
 nx (p.1, q, u, D, p.2.1)
 else none
 else
 dn (.inl (I, q, u, D, O))
noncomputable def Q23.l0 (p : (Option Q5) × (List Q0) × Int) (q : Option Q5) (u : List Q4) (D : List Q9) (G : List (Bs × Bool)) (I : List Q0) : Option (((Option Q5) × (List Q4) × (List Q9) × (List (Bs × Bool)) × (List Q0)) ⊕ ((Option Q5) × (List Bs) × (List Q3) × (List Q4) × Int)) := iter (fun t_ : (Option Q5) × (List Q4) × (List Q9) × (List (Bs × Bool)) × (List Q0) => Q23.l0b p t_.1 t_.2.1 t_.2.2.1 t_.2.2.2.1 t_.2.2.2.2) (q, u, D, G, I)
noncomputable def Q23.f (a0 : Bs) : Option ((Option Q5) × (List Bs) × (List Q3) × (List Q4) × Int) :=
 (Q63.f a0).bind fun u =>
 if u.1.isNone = true then
 (Q134.f u.2 (none : Option Q5) 0 ([] : List Bs) ([] : List Q3) ([] : List Q4) ([] : List Q9) ([] : List (Bs × Bool))).bind fun p =>
 jn (Q23.l0 p p.1 ([] : List Q4) ([] : List Q9) ([] : List (Bs × Bool)) p.2.1) (fun (s_ : (Option Q5) × (List Q4) × (List Q9) × (List (Bs × Bool)) × (List Q0)) =>
 if s_.1.isNone = true then
 (Q29.f s_.2.2.2.2 s_.1 p.2.2 ([] : List Bs) ([] : List Q3) s_.2.1 s_.2.2.1 s_.2.2.2.1).bind fun q =>
 some (none, q.2.2.1, q.2.1, q.1, q.2.2.2)
 else
 some ((some (⟨(s_.1.getD default).At, (s_.1.getD default).Err⟩ : Q5)), ([] : List Bs), ([] : List Q3), ([] : List Q4), 0))
 else
 some (u.1, ([] : List Bs), ([] : List Q3), ([] : List Q4), 0)
theorem Q23.callee : Callee Tryz.prog 30 := ⟨_, Tryz.func30, by kernel_rfl, by kernel_rfl⟩
theorem Q23.spec {a0 : Bs} {r : (Option Q5) × (List Bs) × (List Q3) × (List Q4) × Int} (j : Q23.f a0 = some r) :
 Spec Tryz.prog 30 [.string ⟨(a0).toArray⟩] R (Fr) (fun v l' => ∃ (e7 : Option Nat) (b9 : Nat) (e8 : Option Addr) (e9 : Nat) (c4 : Nat) (f0 : Option Addr) (f9 : Nat) (c5 : Nat) (g0 : Option Addr) (g1 : Nat), v = .tuple #[.agg #[i6 r.2.2.2.2, .slice e8 b9 e9, .slice f0 c4 f9, .slice g0 c5 g1], opti 110 e7] ∧ row Fl.bs 9 e8 b9 e9 r.2.1 :: row Q3.fl 48 f0 c4 f9 r.2.2.1 :: grow Q4.ow 41 g0 c5 g1 r.2.2.2.1 :: optb (Ow.fl Q5.fl) 121 e7 r.1 :: Fr = l' ∧ r.2.1.length = b9 ∧ r.2.2.1.length = c4 ∧ r.2.2.2.1.length = c5) := by
 refine Spec.of Tryz.func30 rfl rfl ?_; unfold Q23.f at j; have j := brun j; refine At.seq (At.region ?_); refine At.alloc rfl rfl rfl (fun c6 => ?_); refine At.run 1 rfl (nT (sR 1 rfl ?_)); obtain ⟨a9, h8, j⟩ := bbind j; refine At.call rfl Q63.callee rfl rfl rfl (Q63.spec h8) ?_; rintro _ _ ⟨g2, r4, c7, c8, rfl, rfl, rfl⟩; refine At.run 5 rfl (nT (At.seq (sR 1 rfl ?_))); refine At.y (Y.neOptI (.s .z) rfl rfl rfl) rfl rfl rfl ?_; refine nT ?_; rcases bite j with ⟨c9, j⟩ | ⟨c9, j⟩
 ··refine At.condF rfl (nf c9) ?_
   refine At.skip (At.thn (sR 1 rfl ?_)); refine At.makeMap Fl.bs.ov Fl.bool.ov rfl rfl (fun D => ?_); refine At.y (Y.build (is := [0, 4]) (xo := [.tmp 17, .tmp 18]) (vs := [.slice c7 a9.2.length c8, .map (some D)]) (cs := [.slice c7 a9.2.length c8, .pointer none, i6 0, .slice none 0 0, .slice none 0 0, .slice none 0 0, .slice none 0 0, .map (some D)]) rfl rfl rfl rfl rfl rfl) rfl rfl rfl ?_; refine At.box rfl rfl (cs := [.slice c7 a9.2.length c8, .pointer none, i6 0, .slice none 0 0, .slice none 0 0, .slice none 0 0, .slice none 0 0, .map (some D)]) rfl rfl (fun O => ?_); refine At.run 1 rfl (nT (sR 1 rfl ?_)); refine At.optNone (Ow.fl Q5.fl) 121 ?_; refine At.nilRow Fl.bs 9 ?_; refine At.nilRow Q3.fl 48 ?_; refine At.nilGrow Q4.ow 41 ?_; refine At.nilRow Q9.fl 169 ?_; refine At.freeze (.s (.s (.s (.s (.s (.s (.s .z))))))) fun g3 h9 k0 k1 r5 g4 => ?_; refine At.f6 (At.f1 (At.f2 (At.f3 (At.f4 (At.f5 (At.f6 ?_)))))); obtain ⟨G, k2, j⟩ := bbind j; refine At.call rfl Q134.callee rfl rfl rfl (Q134.spec none h9 k0 k1 rfl rfl rfl rfl k2) ?_; rintro _ _ ⟨k3, k4, r6, k5, rfl, rfl, k6, rfl, k7⟩; refine nT (At.seq ?_); refine At.block ?_; obtain ⟨k8, k9, r7, j⟩ := bjoin j; obtain ⟨g5, d0, g6⟩ := bsome j; clear j; unfold Q23.l0 at d0; obtain ⟨d1, U⟩ := Q18.1 d0; clear d0; let d2 : HProp := row Fl.bs 9 none 0 0 ([] : List Bs); let d3 : HProp := row Q3.fl 48 none 0 0 ([] : List Q3); let d4 : HProp := optb (Ow.fl Q5.fl) 121 g2 a9.1; let d5 : HProp := pc c6 [i6 0, .slice none 0 0, .slice none 0 0, .slice none 0 0] 26; refine At.loopJ (X := (Option Q5) × (List Q4) × (List Q9) × (List (Bs × Bool)) × (List Q0) × (Option Nat) × Nat × (Option Addr) × Nat × Nat × (Option Addr) × Nat × (Option Addr) × Nat × Nat) (Y := (Option Q5) × (List Q4) × (List Q9) × (List (Bs × Bool)) × (List Q0) × (Option Nat) × Nat × (Option Addr) × Nat × Nat × (Option Addr) × Nat × (Option Addr) × Nat × Nat) (e0 := 0) (fun s_ => [(2, bp c6), (6, bp O)]) (fun s_ => optb (Ow.fl Q5.fl) 121 s_.2.2.2.2.2.1 s_.1 :: pc O [.slice (d8 s_).2.2.2.2.1 (d8 s_).2.2.2.2.2.1 (d8 s_).2.2.2.2.2.2, optp s_.2.2.2.2.2.1, i6 G.2.2, .slice none 0 0, .slice none 0 0, .slice s_.2.2.2.2.2.2.2.1 s_.2.2.2.2.2.2.1 (d8 s_).1, .slice (d8 s_).2.2.1 (d8 s_).2.1 (d8 s_).2.2.2.1, .map (some D)] 113 :: d2 :: d3 :: grow Q4.ow 41 s_.2.2.2.2.2.2.2.1 s_.2.2.2.2.2.2.1 (d8 s_).1 s_.2.1 :: row Q9.fl 169 (d8 s_).2.2.1 (d8 s_).2.1 (d8 s_).2.2.2.1 s_.2.2.1 :: mapo Fl.bs.ov Fl.bool.ov D s_.2.2.2.1 :: d4 :: d5 :: Fr) (fun m_ => fun s_ => iterN (fun t_ : (Option Q5) × (List Q4) × (List Q9) × (List (Bs × Bool)) × (List Q0) => Q23.l0b G t_.1 t_.2.1 t_.2.2.1 t_.2.2.2.1 t_.2.2.2.2) m_ (s_.1, s_.2.1, s_.2.2.1, s_.2.2.2.1, s_.2.2.2.2.1) = some g5 ∧ s_.2.1.length = s_.2.2.2.2.2.2.1 ∧ s_.2.2.1.length = (d8 s_).2.1 ∧ RdS Q0.fl.rep g3.heap (d8 s_).2.2.2.2.1 s_.2.2.2.2.1 ∧ s_.2.2.2.2.1.length = (d8 s_).2.2.2.2.2.1 ∧ (d8 s_).2.2.2.2.2.1 ≤ (d8 s_).2.2.2.2.2.2) d1 (G.1, ([] : List Q4), ([] : List Q9), ([] : List (Bs × Bool)), G.2.1, k3, 0, none, 0, 0, none, 0, k4, G.2.1.length, k5) ⟨U, rfl, rfl, k6, rfl, k7⟩ (fun s_ => [(2, bp c6), (6, bp O)]) (fun s_ => pc O [.slice (d8 s_).2.2.2.2.1 (d8 s_).2.2.2.2.2.1 (d8 s_).2.2.2.2.2.2, optp s_.2.2.2.2.2.1, i6 G.2.2, .slice none 0 0, .slice none 0 0, .slice s_.2.2.2.2.2.2.2.1 s_.2.2.2.2.2.2.1 (d8 s_).1, .slice (d8 s_).2.2.1 (d8 s_).2.1 (d8 s_).2.2.2.1, .map (some D)] 113 :: optb (Ow.fl Q5.fl) 121 s_.2.2.2.2.2.1 s_.1 :: d2 :: d3 :: grow Q4.ow 41 s_.2.2.2.2.2.2.2.1 s_.2.2.2.2.2.2.1 (d8 s_).1 s_.2.1 :: row Q9.fl 169 (d8 s_).2.2.1 (d8 s_).2.1 (d8 s_).2.2.2.1 s_.2.2.1 :: mapo Fl.bs.ov Fl.bool.ov D s_.2.2.2.1 :: d4 :: d5 :: Fr) (fun s_ => k8 (.inl (s_.1, s_.2.1, s_.2.2.1, s_.2.2.2.1, s_.2.2.2.2.1)) = some r ∧ s_.2.1.length = s_.2.2.2.2.2.2.1 ∧ s_.2.2.1.length = (d8 s_).2.1 ∧ RdS Q0.fl.rep g3.heap (d8 s_).2.2.2.2.1 s_.2.2.2.2.1 ∧ s_.2.2.2.2.1.length = (d8 s_).2.2.2.2.2.1 ∧ (d8 s_).2.2.2.2.2.1 ≤ (d8 s_).2.2.2.2.2.2) (fun a w e hs => ⟨e.sub ⟨rfl, rfl, trivial⟩, (by exact hs)⟩) ?_ (fun g7 => ?_)
   ·rintro ⟨I, V, b2, l5, g8, l6, l7, d6, d7, l8, g9, h0, l9, m0, m1⟩ ⟨j, m2, m3, m4, m5, m6⟩; obtain rfl : V.length = l7 := m2; obtain rfl : b2.length = l8 := m3; obtain rfl : g8.length = m0 := m5; have j := (k9 _).symm.trans j
    ·refine At.ibx ?_; refine At.thn (At.seq (sR 3 rfl (At.y (Y.load rfl rfl .z rfl rfl rfl) rfl rfl rfl ?_))); refine At.y (Y.neOpt (.s .z) rfl rfl rfl rfl) rfl rfl rfl ?_; refine nT ?_; rcases bite j with ⟨b3, j⟩ | ⟨b3, j⟩
     ··refine At.condF rfl (nf b3) ?_
       refine At.skip (At.thn (sR 1 rfl ?_)); obtain ⟨h1, m7, j⟩ := bbind j; refine At.call rfl Q29.callee rfl rfl rfl (Q29.spec l6 m4 rfl m6 rfl rfl rfl rfl m7) ?_; rintro _ _ ⟨r8, m8, m9, r9, n2, n3, s0, s1, rfl, rfl, rfl, rfl⟩; refine At.store rfl rfl rfl rfl (.s (.s (.s (.s (.s (.s (.s (.s .z)))))))) rfl rfl rfl (.c (.c (.c (.c .n)))) ?_; refine At.run 1 rfl (nT (At.ret ?_)); refine At.thaw g4 ?_; refine At.optNone (Ow.fl Q5.fl) 121 ?_; refine At.growLen (.s (.s (.s (.s (.s (.s (.s .z))))))) fun n4 _ => ?_; refine At.resM (.inl rfl) rfl (RV.cell rfl rfl (.s (.s .z)) rfl rfl rfl (RV.tmp rfl RV.nil)) ?_; refine At.drop (.s .z) (At.drop (.s .z) (At.drop (.s .z) (At.drop (.s .z) (At.drop (.s (.s (.s (.s .z)))) (At.drop (.s (.s (.s (.s .z)))) (At.drop (.s (.s (.s (.s .z)))) (At.f3 ?_))))))); refine At.f3 (At.f3 ?_); cases bret j; exact fun a w e hs => ⟨_, ⟨none, h1.2.2.1.length, n2, n3, h1.2.1.length, m8, m9, V.length, d6, d7, rfl, rfl, rfl, rfl, n4⟩, hs⟩
     ··refine At.condT rfl (nt (bn b3)) ?_
       refine At.seq ?_; refine At.optOpen (.s .z) (bn b3) (fun d9 n5 s2 => ?_); have n6 := j; subst n5; have j := n6; refine At.ownFl (.s .z) ?_; rintro rfl; refine At.held [pc d9 [i6 ((I.getD default).At), i6 ((I.getD default).Err)] 121, pc O [.slice l9 g8.length m1, bp d9, i6 G.2.2, .slice none 0 0, .slice none 0 0, .slice d6 V.length d7, .slice g9 b2.length h0, .map (some D)] 113, d2, d3, grow Q4.ow 41 d6 V.length d7 V, row Q9.fl 169 g9 b2.length h0 b2, mapo Fl.bs.ov Fl.bool.ov D l5, d4, d5] 8 rfl ?_; refine At.H.tw 0 rfl (Y.build (is := []) (xo := []) (vs := []) (cs := [i6 0, .slice none 0 0, .slice none 0 0, .slice none 0 0]) rfl rfl rfl rfl rfl rfl) rfl rfl rfl (.c .z (.c .z (.c .z (.c .z (.c .z (.c .z (.c .z (.c .z (.c .z .n))))))))) ?_; refine At.H.pw 1 rfl rfl rfl rfl rfl (.c .z (.c .z (.c .z (.c .z (.c .z (.c .z (.c .z (.c .z (.c .z .n))))))))) ?_; refine At.H.pw 2 rfl rfl rfl rfl rfl (.c .z (.c .z (.c .z (.c .z (.c .z (.c .z (.c .z (.c .z (.c .z .n))))))))) ?_; refine At.H.pw 3 rfl rfl rfl rfl rfl (.c .z (.c .z (.c .z (.c .z (.c .z (.c .z (.c .z (.c .z (.c .z .n))))))))) ?_; refine At.H.tw 4 rfl (Y.load rfl rfl (.s .z) rfl rfl rfl) rfl rfl rfl (.c .z (.c .z (.c .z (.c .z (.c .z (.c .z (.c .z (.c .z (.c .z .n))))))))) ?_; refine At.H.pw 5 rfl rfl rfl rfl rfl (.c .z (.c .z (.c .z (.c .z (.c .z (.c .z (.c .z (.c .z (.c .z .n))))))))) ?_; refine At.H.al [6] (Q6 ?_ Q8)
       ··refine At.HO.op rfl ?_
         refine At.store rfl rfl rfl rfl (.s (.s (.s (.s (.s (.s (.s (.s .z)))))))) rfl rfl rfl (.c (.c (.c (.c .n)))) ?_; refine At.HO.back (.c (.s .z) (.c (.s .z) (.c (.s .z) (.c (.s .z) (.c (.s .z) (.c (.s .z) (.c (.s .z) (.c (.s .z) (.c .z .n))))))))) ?_; refine At.H.pw 7 rfl rfl rfl rfl rfl (.c (.s .z) (.c (.s .z) (.c (.s .z) (.c (.s .z) (.c (.s .z) (.c (.s .z) (.c (.s .z) (.c (.s .z) (.c .z .n))))))))) ?_; refine At.H.done (by kernel_rfl) ?_; refine At.thn (At.ret (At.thr ?_)); refine At.thaw g4 ?_; refine At.f2 ?_; refine At.optSome (x := (⟨(I.getD default).At, (I.getD default).Err⟩ : Q5)) (Ent.fl Q5.fl (x := (⟨(I.getD default).At, (I.getD default).Err⟩ : Q5)) rfl) ?_; refine At.nilRow Fl.bs 9 ?_; refine At.nilRow Q3.fl 48 ?_; refine At.nilGrow Q4.ow 41 ?_; refine At.resM (.inl rfl) rfl (RV.cell rfl rfl (.s (.s (.s (.s (.s .z))))) rfl rfl rfl (RV.tmp rfl RV.nil)) ?_; refine At.drop (.s (.s (.s (.s .z)))) (At.drop (.s (.s (.s (.s .z)))) (At.drop (.s (.s (.s (.s .z)))) (At.drop (.s (.s (.s (.s .z)))) (At.drop (.s (.s (.s (.s .z)))) (At.drop (.s (.s (.s (.s .z)))) (At.drop (.s (.s (.s (.s .z)))) (At.drop (.s (.s (.s (.s .z)))) ?_))))))); refine At.drop (.s (.s (.s (.s .z)))) (At.f3 (At.f1 (At.f2 (At.f3 ?_)))); cases bret j; exact fun a w e hs => ⟨_, ⟨(some d9), 0, none, 0, 0, none, 0, 0, none, 0, rfl, rfl, rfl, rfl, rfl⟩, hs⟩
   ·clear U d1; rintro d1 ⟨e1, p, u, J, b4, b5, n7, Z, a1, n8, a2, a3, n9, o0, o7⟩ ⟨U, o8, o9, h2, p0, h3⟩; obtain rfl : p.length = n7 := o8; obtain rfl : u.length = n8 := o9; obtain rfl : b4.length = o0 := p0; obtain ⟨b6, f_, b7, hf_, j⟩ := bit U; clear U; have j : (Q23.l0b G e1 p u J b4).bind _ = some g5 := j; unfold Q23.l0b at j
    ·refine At.seq (sR 3 rfl (At.y (Y.load rfl rfl (.s .z) rfl rfl rfl) rfl rfl rfl ?_)); refine At.y (Y.eqOpt .z rfl rfl rfl rfl) rfl rfl rfl ?_; refine nT ?_; rcases bite j with ⟨e2, j⟩ | ⟨e2, j⟩
     ··refine At.condT rfl e2 ?_
       refine At.skip (At.thn ?_); refine At.block ?_; refine sR 1 rfl (At.f6 (At.f6 (At.f6 (At.f6 (At.f6 ?_))))); refine At.f5 (At.f6 ?_); obtain ⟨h4, p1, j⟩ := bbind j; refine At.call rfl Q59.callee rfl rfl rfl (Q59.spec b5 h2 rfl h3 rfl rfl rfl rfl p1) ?_; rintro _ _ ⟨p2, s3, p3, rfl, rfl, a4, rfl, h5⟩; refine nT (At.seq (sR 3 rfl (At.y (Y.load rfl rfl .z rfl rfl rfl) rfl rfl rfl ?_))); obtain ⟨L, j⟩ := bnone j; refine At.y (Y.ixRd a4 rfl rfl rfl rfl rfl rfl rfl L.1 L.2) rfl rfl rfl ?_; refine At.y (Y.fa (RdS.some_ a4 rfl L.1 L.2) rfl rfl rfl rfl rfl rfl) rfl rfl rfl ?_; refine At.y (Y.ldFl a4 rfl (q := 0) rfl rfl L.1 L.2 rfl rfl rfl) rfl rfl rfl (At.run 1 rfl (nT ?_)); rcases bite j with ⟨e3, j⟩ | ⟨e3, j⟩
       ··refine At.condT rfl (decide_eq_true e3) ?_
         refine At.exit ?_; refine At.the ?_; refine At.ibo rfl ?_; refine At.the ?_; exact fun a w e hs => g7 (e1, p, u, J, h4, b5, p.length, Z, a1, u.length, a2, a3, p2, h4.length, p3) ⟨(bdn j g6), rfl, rfl, a4, rfl, h5⟩ a w (e.sub ⟨rfl, rfl, trivial⟩) hs
       ··refine At.condF rfl (decide_eq_false e3) ?_
         refine At.skip (At.thn (sR 1 rfl ?_)); obtain ⟨a5, p4, j⟩ := bbind j; refine At.call rfl Q49.callee rfl rfl rfl (Q49.spec b5 a4 rfl h5 rfl rfl rfl rfl p4) ?_; rintro _ _ ⟨b8, h6, s4, h7, rfl, rfl, a6, rfl, a7⟩; refine At.alloc rfl rfl rfl (fun s5 => ?_); refine At.store rfl rfl rfl rfl .z rfl rfl rfl (.c (.c (.c (.c .n)))) ?_; refine nT ?_; refine At.block ?_; refine sR 3 rfl (At.y (Y.load rfl rfl (.s (.s .z)) rfl rfl rfl) rfl rfl rfl ?_); refine At.y (Y.neOpt (.s .z) rfl rfl rfl rfl) rfl rfl rfl ?_; refine At.run 1 rfl (nT ?_); rcases bite j with ⟨e4, j⟩ | ⟨e4, j⟩
         ··refine At.condF rfl (nf e4) ?_
           refine sR 1 rfl (At.y (Y.load rfl rfl .z rfl rfl rfl) rfl rfl rfl (At.run 2 rfl (nT ?_))); rcases bite j with ⟨e5, j⟩ | ⟨e5, j⟩
           ··refine At.condT rfl e5 ?_
             refine At.region (At.run 1 rfl (At.y (Y.load rfl rfl .z rfl rfl rfl) rfl rfl rfl (At.f7 (At.f7 (At.f7 (At.f7 (At.f7 ?_))))))); refine At.f6 (At.f7 ?_); obtain ⟨M, p5, j⟩ := bbind j; refine At.call rfl Q141.callee rfl rfl rfl (Q141.spec b8 a6 rfl a7 rfl rfl rfl rfl p5) ?_; rintro _ _ ⟨s6, p6, p7, p8, p9, s7, q0, rfl, rfl, rfl, q1, rfl, q2⟩; refine At.nil ?_; refine At.ibn ?_; refine At.ibn ?_; refine At.drop (.s (.s (.s (.s (.s (.s (.s .z))))))) ?_; have j := bnx hf_ j; exact fun a w e hs => ⟨b6, (M.2.2.1, p, M.1, M.2.1, M.2.2.2, p8, p.length, Z, a1, M.1.length, p6, p7, p9, M.2.2.2.length, q0), b7, ⟨j, rfl, rfl, q1, rfl, q2⟩, e.sub ⟨rfl, rfl, trivial⟩, hs⟩
           ··refine At.condF rfl (bn e5) ?_
             refine sR 1 rfl (At.y (Y.load rfl rfl .z rfl rfl rfl) rfl rfl rfl (At.run 2 rfl (nT ?_))); rcases bite j with ⟨e6, j⟩ | ⟨e6, j⟩
             ··refine At.condT rfl e6 ?_
               refine At.region (At.run 1 rfl (At.f7 (At.f7 (At.f7 (At.f7 (At.f7 (At.f6 ?_))))))); refine At.f7 ?_; obtain ⟨a8, q3, j⟩ := bbind j; refine At.call rfl Q38.callee rfl rfl rfl (Q38.spec b8 a6 rfl a7 rfl rfl rfl rfl q3) ?_; rintro _ _ ⟨s8, q4, q5, q6, q7, s9, q8, rfl, rfl, rfl, q9, rfl, r0⟩; refine At.nil ?_; refine At.ibn ?_; refine At.ibn ?_; refine At.drop (.s (.s (.s (.s (.s (.s (.s .z))))))) ?_; have j := bnx hf_ j; exact fun a w e hs => ⟨b6, (a8.2.1, a8.1, u, J, a8.2.2, q6, a8.1.length, q4, q5, u.length, a2, a3, q7, a8.2.2.length, q8), b7, ⟨j, rfl, rfl, q9, rfl, r0⟩, e.sub ⟨rfl, rfl, trivial⟩, hs⟩
             ··refine At.condF rfl (bn e6) ?_
               refine At.region (At.run 1 rfl (At.y (Y.load rfl rfl .z rfl rfl rfl) rfl rfl rfl (At.f7 (At.f7 (At.f7 (At.f7 (At.f7 ?_))))))); refine At.f6 (At.f7 ?_); obtain ⟨r1, r2, j⟩ := bbind j; refine At.call rfl Q20.callee rfl rfl rfl (Q20.spec b8 a6 rfl a7 rfl rfl rfl rfl r2) ?_; rintro _ _ ⟨r3, rfl, rfl⟩; refine At.nil ?_; refine At.ibn ?_; refine At.ibn ?_; refine At.drop (.s (.s (.s (.s (.s (.s (.s .z))))))) ?_; have j := bnx hf_ j; exact fun a w e hs => ⟨b6, (r1, p, u, J, a5.2.1, r3, p.length, Z, a1, u.length, a2, a3, h6, a5.2.1.length, h7), b7, ⟨j, rfl, rfl, a6, rfl, a7⟩, e.sub ⟨rfl, rfl, trivial⟩, hs⟩
         ··refine At.condT rfl (nt (bn e4)) ?_
           refine At.skip ?_; refine At.ibn ?_; refine At.ibn ?_; refine At.drop .z ?_; have j := bnx hf_ j; exact fun a w e hs => ⟨b6, (a5.1, p, u, J, a5.2.1, b8, p.length, Z, a1, u.length, a2, a3, h6, a5.2.1.length, h7), b7, ⟨j, rfl, rfl, a6, rfl, a7⟩, e.sub ⟨rfl, rfl, trivial⟩, hs⟩
     ··refine At.condF rfl (bn e2) ?_
       refine At.exit ?_; refine At.the ?_; refine At.the ?_; refine At.f8 (At.f8 (At.f8 (At.f8 (At.f8 (At.f8 (At.f8 (At.f7 ?_))))))); refine At.f8 ?_; exact fun a w e hs => g7 (e1, p, u, J, b4, b5, p.length, Z, a1, u.length, a2, a3, n9, b4.length, o7) ⟨(bdn j g6), rfl, rfl, h2, rfl, h3⟩ a w (e.sub ⟨rfl, rfl, trivial⟩) hs
 ··refine At.condT rfl (nt (bn c9)) ?_
   refine At.seq (At.region ?_); refine At.y (Y.build (is := []) (xo := []) (vs := []) (cs := [i6 0, .slice none 0 0, .slice none 0 0, .slice none 0 0]) rfl rfl rfl rfl rfl rfl) rfl rfl rfl ?_; refine At.run 1 rfl ?_; refine At.store rfl rfl rfl rfl (.s (.s .z)) rfl rfl rfl (.c (.c (.c (.c .n)))) ?_; refine At.run 1 rfl (nT (At.ret (At.thr ?_))); refine At.nilRow Fl.bs 9 ?_; refine At.nilRow Q3.fl 48 ?_; refine At.nilGrow Q4.ow 41 ?_; refine At.resM (.inl rfl) rfl (RV.cell rfl rfl (.s (.s (.s .z))) rfl rfl rfl (RV.tmp rfl RV.nil)) ?_; refine At.drop (.s (.s (.s .z))) (At.drop (.s (.s (.s .z))) (At.f3 (At.f1 (At.f2 (At.f3 ?_))))); cases bret j; exact fun a w e hs => ⟨_, ⟨g2, 0, none, 0, 0, none, 0, 0, none, 0, rfl, rfl, rfl, rfl, rfl⟩, hs⟩

end Go.Bw
namespace Go.Bw
open Go Go.RowKit

abbrev PostE := Ending → List HProp → Prop
def SpecE (P : Program) (f : Nat) (args : List Value) (R : Res) (l : List HProp) (post : PostE) : Prop :=
 ∀ w, sat R l w → Calls P f args.toArray w fun e w' => ∃ l', post e l' ∧ sat R l' w'
def PostBD (P : Program) (fn : Func) (R : Res) (post : PostE) : Exit → Act → World → Prop := bodyPostD P fn fun e w' => ∃ l', post e l' ∧ sat R l' w'
theorem Q242 {n : Nat} {args : List Value} (hn : Nat.ble args.length n = true) : Env n [] (envA 0 args) { tmps := args.toArray ++ Array.replicate (n - args.toArray.size) undef, defers := [] } := by
 refine ⟨?_, rfl, fun t v hv => ?_⟩
 ·have : args.length ≤ n := by simpa using hn
  simp; omega
 ·obtain ⟨j, rfl, hj⟩ := Q210 hv
  show (args.toArray ++ Array.replicate _ undef).getD (0 + j) undef = v
  have hlt := (List.getElem?_eq_some_iff.1 hj).1
  rw [Nat.zero_add, Array.getD_eq_getD_getElem?, Array.getElem?_append_left (by simpa using hlt), List.getElem?_toArray, hj]
  rfl
theorem SpecE.ofD {P : Program} {f : Nat} {fn : Func} {c : Code} {args : List Value} {R : Res} {l : List HProp} {post : PostE} (hf : P.funcs[f]? = some fn) (hb : fn.body = some c) (hn : Nat.ble args.length fn.ntmps = true)
 (h : At fn.ntmps [] R (envA 0 args) l (c.wp P (PostBD P fn R post))) : SpecE P f args R l post := fun w hs =>
 calls_of_wp_defers hf hb (h _ w (Q242 hn) hs)
theorem SpecE.ret {P : Program} {f : Nat} {args : List Value} {R : Res} {l : List HProp} {post : Post} (h : SpecE P f args R l (fun e l' => ∃ v, e = .returned v ∧ post v l')) : Spec P f args R l post := fun w hs =>
 (h w hs).mono fun e w' ⟨l', ⟨v, he, hp⟩, hs'⟩ => ⟨v, l', he, hp, hs'⟩
theorem Spec.toE {P : Program} {f : Nat} {args : List Value} {R : Res} {l : List HProp} {post : Post} (h : Spec P f args R l post) : SpecE P f args R l (fun e l' => ∃ v, e = .returned v ∧ post v l') := fun w hs =>
 (h w hs).mono fun e w' ⟨v, l', he, hp, hs'⟩ => ⟨l', ⟨v, he, hp⟩, hs'⟩
def SpecD (P : Program) (f : Nat) (args : List Value) (u : FrameMode) (R : Res) (l : List HProp) (post : FrameMode → List HProp → Prop) : Prop :=
 ∀ w, sat R l w → CallsD P f args.toArray u w fun e u' w' => ∃ v l', e = .returned v ∧ post u' l' ∧ sat R l' w'
section
variable {P : Program} [Tys P] {os : List Oper} {Q : Exit → Act → World → Prop} {rest : List Oper} {n : Nat} {ds : List Deferred} {R : Res} {env : List (Nat × Value)} {l l' : List HProp} {next : Act → World → Prop}
variable {d ty : Nat} {pos : String} {af : Array Edge} {g : Option (Nat × Bool)}
theorem Q332 {a : Act} {w : World} {x : Operand} {xs : List Operand} {ts : Array Nat} {f : Nat} {fs cap : List Value} {vs : List Value} {dd : Option Nat} (e : Env n ds env a)
 (hx : ev env x = some (.func (.func f) fs.toArray cap.toArray)) (hv : vals env xs = some vs) (c : Callee P f) :
 (execOp a.eval ⟨dd, .call ⟨.value x, xs.toArray, ts⟩, ty, pos, af, g⟩).run P w = .ok (.enter f (fs ++ vs ++ cap).toArray) w := by
 have := Q130 e hv
 simp [execOp, resolve, Deferred.ofValue, invoke, e.ev hx, Q201 c, this]
theorem At.callF (hg : grd os env g = some true) {x : Operand} {xs : List Operand} {ts : Array Nat} {f : Nat} {fs cap : List Value} {vs : List Value} {post : Post} (c : Callee P f)
 (hx : ev env x = some (.func (.func f) fs.toArray cap.toArray)) (hv : vals env xs = some vs) (hd : Nat.blt d n = true)
 (s : Spec P f (fs ++ vs ++ cap) R l post) (h : ∀ v l', post v l' → At n ds R ((d, v) :: env) l' (wpList P os.toArray Q rest)) :
 At n ds R env l (wpList P os.toArray Q (⟨some d, .call ⟨.value x, xs.toArray, ts⟩, ty, pos, af, g⟩ :: rest)) := fun a w e hs => by
 refine wpList_step fun K hK => ?_
 rw [if_pos (Q67 e hg)]
 unfold Oper.wp
 rw [Q332 e hx hv c, Oper.upon_enter]
 refine (s w hs).mono fun e' w' ⟨v, l', he, hp, hs'⟩ => ?_
 subst he
 exact hK _ _ (h v l' hp _ _ (e.put hd v) hs')
theorem At.defer (hg : grd os env g = some true) {x : Operand} {ts : Array Nat} {f : Nat} {cap : List Value} (hx : ev env x = some (.func (.func f) #[] cap.toArray))
 (h : At n (⟨.fn (.func f) cap.toArray, #[]⟩ :: ds) R env l (wpList P os.toArray Q rest)) :
 At n ds R env l (wpList P os.toArray Q (⟨none, .defer ⟨.value x, #[], ts⟩, ty, pos, af, g⟩ :: rest)) := fun a w e hs => by
 refine wpList_step fun K hK => ?_
 rw [if_pos (Q67 e hg)]
 unfold Oper.wp
 have hr : (execOp a.eval ⟨none, .defer ⟨.value x, #[], ts⟩, ty, pos, af, g⟩).run P w = .ok (.defer ⟨.fn (.func f) cap.toArray, #[]⟩) w := by
  simp [execOp, resolve, Deferred.ofValue, e.ev hx]
 rw [hr, Oper.upon_defer]
 exact hK _ _ (h _ _ ⟨e.size, by show _ :: a.defers = _; rw [e.defs], e.get⟩ hs)
theorem Q248 {fn : Func} {r : List ResultVar} {vs : List Value} {a : Act} {w : World} (hr : fn.results = r.toArray) (h : (r.mapM (resF a.tmps)).run P w = .ok vs w) : (results fn a.tmps).run P w = .ok (resT vs) w := by
 rw [Q214, hr, List.mapM_toArray]
 simp only [Sem.run_bind, Sem.run_map, h, Result.andThen, Sem.run_pure]
 cases vs with
 | nil => rfl
 | cons v vs =>
  cases vs with
  | nil => rfl
  | cons u vs => simp [resT]
theorem At.resMD {fn : Func} {post : PostE} {x : Exit} {r : List ResultVar} {vs : List Value} (hx : x = .ret ∨ x = .normal) (hr : fn.results = r.toArray) (hv : RV P n R env l r vs) (k : At n [] R env l (fun a w => ∃ l', post (.returned (resT vs)) l' ∧ sat R l' w)) : At n [] R env l (PostBD P fn R post x) := fun a w e hs => by
 obtain ⟨l2, hp, hs'⟩ := k a w e hs
 have key : Leaves P fn a.tmps (fun e w' => ∃ l', post e l' ∧ sat R l' w') a.defers .returning w := by
  rw [e.defs]
  exact ⟨_, Q248 hr (hv a w e hs), l2, hp, hs'⟩
 rcases hx with rfl | rfl <;> exact key
theorem At.leaveD {fn : Func} {post : PostE} {x : Exit} {u : FrameMode} {r : List ResultVar} {f : Nat} {cap : List Value} {pd : FrameMode → List HProp → Prop}
 (hx : (x = .ret ∨ x = .normal) ∧ u = .returning ∨ ∃ ch, x = .panic ch ∧ u = .panicking ch) (hr : fn.results = r.toArray) (c : Callee P f) (s : SpecD P f cap u R l pd)
 (k : ∀ u' l', pd u' l' → settle u' = .returning ∧ ∃ vs, RV P n R env l' r vs ∧ At n [] R env l' (fun a w => ∃ l2, post (.returned (resT vs)) l2 ∧ sat R l2 w)) :
 At n [⟨.fn (.func f) cap.toArray, #[]⟩] R env l (PostBD P fn R post x) := fun a w e hs => by
 have key : Leaves P fn a.tmps (fun e w' => ∃ l', post e l' ∧ sat R l' w') a.defers u w := by
  rw [e.defs]
  refine leaves_cons (f := f) (args := cap.toArray) ?_ ?_ ?_
  ·rcases hx with ⟨_, rfl⟩ | ⟨ch, _, rfl⟩ <;> simp
  ·show (callFunc f (#[] ++ cap.toArray)).run P w = _
   rw [Q201 c]
   simp
  ·refine (s w hs).mono ?_
   rintro e' u' w' ⟨v, l', rfl, hp, hs'⟩
   obtain ⟨hu, vs, hv, k2⟩ := k u' l' hp
   have e2 : Env n [] env { a with defers := [] } := ⟨e.size, rfl, e.get⟩
   have h1 := hv _ w' e2 hs'
   obtain ⟨l2, hp2, hs2⟩ := k2 _ w' e2 hs'
   show Leaves P fn a.tmps _ [] (settle u') w'
   rw [hu]
   exact ⟨_, Q248 (a := { a with defers := [] }) hr h1, l2, hp2, hs2⟩
 rcases hx with ⟨rfl | rfl, rfl⟩ | ⟨ch, rfl, rfl⟩ <;> exact key
end
theorem Q259 (t : Nat) (p : Option Nat) : (opti t p).cells.toList = [opti t p] := by cases p <;> rfl
theorem Q232 (t : Nat) (p : Option Nat) : [opti t p].all (·.oneCell') = true := by cases p <;> rfl
def recM : FrameMode → Value × FrameMode
 | .panicking ({ v, recovered := false, goexit := false } :: older) => (v, .panicking ({ v, recovered := true } :: older))
 | u => (.nilIface, u)
section
variable {P : Program} [Tys P]
theorem SpecD.of {f : Nat} {fn : Func} {id : Nat} {d ty : Nat} {pos : String} {af : Array Edge} {ts : Array Nat} {c2 : Code} {args : List Value} {R : Res} {l : List HProp} {u u' : FrameMode} {v : Value} {post : FrameMode → List HProp → Prop}
 (hf : P.funcs[f]? = some fn) (hb : fn.body = some (.seq (.region id #[⟨some d, .call ⟨.builtin .recover, #[], ts⟩, ty, pos, af, none⟩] false) c2)) (hn : Nat.ble args.length fn.ntmps = true) (hd : Nat.blt d fn.ntmps = true) (hu : recM u = (v, u'))
 (h : At fn.ntmps [] R ((d, v) :: envA 0 args) l (c2.wp P (PostB P fn R fun _ l' => post u' l'))) : SpecD P f args u R l post := fun w hs => by
 refine callsD_of_wpS hf hb fun c₀ cs hc => ?_
 refine wpS_seq (wpS_region ?_)
 have e0 := Q242 (n := fn.ntmps) (args := args) hn
 have hx := h _ w (e0.put hd v) hs
 have fin : ∀ c1 : Frame, c1 = { c₀ with mode := u' } → c2.wpS P (bodyPostS P fn c₀ cs fun e u' w' => ∃ v l', e = .returned v ∧ post u' l' ∧ sat R l' w')
  (({ tmps := args.toArray ++ Array.replicate (fn.ntmps - args.toArray.size) undef, defers := [] } : Act).put (some d) v) (c1 :: cs) w := by
  rintro c1 rfl
  refine wpS_of_wp (fun b k cs => ?_)
  obtain ⟨e, a', w', hq, harr⟩ := hx b k cs
  refine ⟨e, a', w', ?_, harr⟩
  cases e with
  | normal => obtain ⟨h1, v', h2, h3⟩ := hq; exact ⟨h1, u', rfl, v', h2, h3⟩
  | ret => obtain ⟨h1, v', h2, h3⟩ := hq; exact ⟨h1, u', rfl, v', h2, h3⟩
  | panic ch => obtain ⟨h1, h3⟩ := hq; exact ⟨h1, u', rfl, h3⟩
  | outgrown => exact ⟨u', hq⟩
  | exit id => exact hq
  | goto l => exact hq
 have hrun : (execOp (({ tmps := args.toArray ++ Array.replicate (fn.ntmps - args.toArray.size) undef, defers := [] } : Act).eval) ⟨some d, .call ⟨.builtin .recover, #[], ts⟩, ty, pos, af, none⟩).run P w = .ok .recover w := by
  simp [execOp, resolve, invoke, builtin]
 show wpOpsS P _ _ [0] _ _ _
 have hw : Region.wanted (⟨some d, .call ⟨.builtin .recover, #[], ts⟩, ty, pos, af, none⟩ : Oper) (yielded #[⟨some d, .call ⟨.builtin .recover, #[], ts⟩, ty, pos, af, none⟩] (args.toArray ++ Array.replicate (fn.ntmps - args.toArray.size) undef)) = true := rfl
 have hrd : (recoverD (c₀ :: cs) = none ∧ v = .nilIface ∧ u' = u) ∨ recoverD (c₀ :: cs) = some (v, { c₀ with mode := u' } :: cs) := by
  unfold recM at hu
  split at hu
  ·cases hu; exact .inr (by simp [recoverD, hc])
  ·rename_i hne
   cases hu
   refine .inl ⟨?_, rfl, rfl⟩
   unfold recoverD
   dsimp only
   split
   ·rename_i v older hm
    rw [hc] at hm
    exact (hne _ _ hm).elim
   ·rfl
 simp only [wpOpsS, hw, if_true, List.getElem?_toArray, List.getElem?_cons_zero, hrun]
 rcases hrd with ⟨h1, rfl, rfl⟩ | h1
 ·rw [h1]
  exact fin c₀ (by cases c₀; simp_all)
 ·rw [h1]
  exact fin _ rfl
end
end Go.Bw
namespace Go.Bw
open Go Go.RowKit

def sufA (A : Option Addr) (c k sz : Nat) : Option Addr := if c = k then A else A.map (·.add (k * sz))
section
variable {P : Program} [Tys P] {os : List Oper} {Q : Exit → Act → World → Prop} {rest : List Oper} {n : Nat} {ds : List Deferred} {R : Res} {env : List (Nat × Value)} {l l' : List HProp}
variable {d ty : Nat} {pos : String} {af : Array Edge} {g : Option (Nat × Bool)} {α : Type} [Inhabited α] {F : Fl α} {e t t2 : Nat} {A : Option Addr} {c m : Nat} {xs : List α} {K : Act → World → Prop} {dd : Option Nat}
theorem op_v0 {o : Oper} (hg : grd os env o.guard = some true) (hdst : o.dst = none)
 (h : ∀ a w, Env n ds env a → sat R l w → ∃ v w' l', (execOp a.eval o).run P w = .ok (.value v) w' ∧ sat R l' w' ∧ At n ds R env l' (wpList P os.toArray Q rest)) :
 At n ds R env l (wpList P os.toArray Q (o :: rest)) := fun a w e hs => by
 refine wpList_step fun K hK => ?_
 rw [if_pos (Q67 e hg)]
 obtain ⟨v, w', l', hr, hs', k⟩ := h a w e hs
 unfold Oper.wp
 rw [hr]
 show K (a.put o.dst v) w'
 rw [hdst]
 exact hK _ _ (k _ _ e hs')
theorem Y.slSuf (f : Frt l (row F e A m c xs) l') {x y : Operand} {k : Int} {ki : IntKind} {ii : TI} (hi : ti P t = some ii) (hk : ii.k = .slice e) {j : TI} (hj : ti P e = some j) (hjs : j.size = F.sz) (hx : ev env x = some (.slice A m c)) (hy : ev env y = some (.int ki k)) (h0 : 0 ≤ k) (h1 : k ≤ (m : Int)) :
 Y P n ds R env l ⟨dd, .slice t x (some y) none none, ty, pos, af, g⟩ (.slice (sufA A c k.toNat F.sz) (m - k.toNat) (c - k.toNat)) := fun a w e0 hs => by
 have hu := (Q14 hi).slice hk
 have hu' : P.underlying t = some (.slice (P.elem t)) := by rw [hu]; simp [Program.elem, hu]
 have he : P.elem t = e := by rw [hu] at hu'; injection hu' with h; injection h with h; exact h.symm
 have hr := run_slice_l (P := P) (w := w) t A m c hu' ki k h0 h1
 rw [he, (Q14 hj).run_sizeOf] at hr
 simp only [execOp, e0.ev hx, e0.ev hy, Option.map_none, Option.map_some, Sem.run_bind, run_sliceAt_slice w t _ _ _ _ hu', hr, Result.andThen, Sem.run_pure, sliced, hjs, sufA]
theorem zero_flat (F : Fl α) (z : α) (k : Nat) {cs : Array Value} (hcs : cs.toList = F.enc z) : (Builtin.zeroCells cs k).toList = (List.replicate k z).flatMap F.enc := by
 have hsz : cs.size = F.sz := by rw [← Array.length_toList, hcs, F.len]
 unfold Builtin.zeroCells
 rw [hsz]
 simp only [Array.toList_map, Array.toList_range]
 apply List.ext_getElem?
 intro q
 have hp := F.pos
 by_cases hq : q < k * F.sz
 ·have h1 : q / F.sz < k := Nat.div_lt_of_lt_mul (by rw [Nat.mul_comm]; exact hq)
  have h2 : q % F.sz < F.sz := Nat.mod_lt _ hp
  have := Q143 F (xs := List.replicate k z) (i := q / F.sz) (x := z) (j := q % F.sz) (by simp [h1]) h2
  rw [Nat.mul_comm, Nat.div_add_mod] at this
  rw [this, ← hcs]
  simp [hq, hsz, h2]
 ·rw [List.getElem?_eq_none (by simp; omega), List.getElem?_eq_none (by rw [Q50]; simp; omega)]
theorem At.clearSuf (hg : grd os env g = some true) (f : Frt l (row F e A m c xs) l') {x : Operand} {k : Int} {z : α} {ii j : TI} (hi : ti P t = some ii) (hk : ii.k = .slice e) (hj : ti P e = some j) (hjz : j.zero = F.enc z)
 (hx : ev env x = some (.slice (sufA A c k.toNat F.sz) (m - k.toNat) (c - k.toNat))) (hk0 : 0 ≤ k) (hk1 : k ≤ (m : Int))
 (h : At n ds R env (row F e A m c (xs.take k.toNat ++ List.replicate (m - k.toNat) z) :: l') (wpList P os.toArray Q rest)) :
 At n ds R env l (wpList P os.toArray Q (⟨none, .call ⟨.builtin .clear, #[x], #[t]⟩, ty, pos, af, g⟩ :: rest)) := op_v0 hg rfl fun a w e0 hs => by
 have hs1 := hs.frt f
 have hm : xs.length = m := let ⟨_, o, _⟩ := hs1.head; Q113 o
 subst hm
 obtain ⟨xi, zv, hxi, hsz, hby, hze, hzc⟩ := (Q14 hj).info
 have hu := (Q14 hi).slice hk
 have hzr : ∀ w, (zeroValue e).run P w = .ok zv w := fun w => by simp [zeroValue, typeInfo, hxi, hze]
 by_cases hlt : k.toNat < xs.length
 ·obtain ⟨h', o, s, kk⟩ := hs1.upd
  obtain ⟨gb, cur, rfl, hgb, h3, h4, h5, h6⟩ := Q174 o (by omega)
  have hA : sufA (some ⟨gb, 0, none⟩) c k.toNat F.sz = some ⟨gb, k.toNat * F.sz, none⟩ := by
   unfold sufA; rw [if_neg (by omega)]; simp [Q127]
  rw [hA] at hx
  have hgw : w.heap[gb]? = some (.cells cur e (0, 0)) := s gb _ hgb
  have hzl : zv.cells.toList = F.enc z := by rw [← hjz, hzc]
  have hzs : (Builtin.zeroCells zv.cells (xs.length - k.toNat)).toList = (List.replicate (xs.length - k.toNat) z).flatMap F.enc := zero_flat F z _ hzl
  have hfl : ((List.replicate (xs.length - k.toNat) z).flatMap F.enc).length = (xs.length - k.toNat) * F.sz := by rw [Q50, List.length_replicate]
  have hmul : k.toNat * F.sz + (xs.length - k.toNat) * F.sz = xs.length * F.sz := by rw [← Nat.add_mul]; congr 1; omega
  have hle : xs.length * F.sz ≤ c * F.sz := Nat.mul_le_mul_right _ h3
  have hst := run_storeCells_at (P := P) gb (k.toNat * F.sz) e ((List.replicate (xs.length - k.toNat) z).flatMap F.enc) 0 cur w hgw (by rw [hfl, h5]; omega) (Q266 F _)
  rw [Nat.add_zero, hfl, hmul] at hst
  obtain ⟨q, hq⟩ : ∃ q, xs.length - k.toNat = q + 1 := ⟨xs.length - k.toNat - 1, by omega⟩
  refine ⟨.tuple #[], w.setRow gb (cur.toList.take (k.toNat * F.sz) ++ (List.replicate (xs.length - k.toNat) z).flatMap F.enc ++ cur.toList.drop (xs.length * F.sz)).toArray, _, ?_, ?_, h⟩
  ·have hrun : (Builtin.clear_ #[t] ty #[.slice (some ⟨gb, k.toNat * F.sz, none⟩) (xs.length - k.toNat) (c - k.toNat)]).run P w = .ok (.tuple #[]) (w.setRow gb (cur.toList.take (k.toNat * F.sz) ++ (List.replicate (xs.length - k.toNat) z).flatMap F.enc ++ cur.toList.drop (xs.length * F.sz)).toArray) := by
    rw [hq] at hzs hst ⊢
    simp [Builtin.clear_, run_underlying hu, hzr, hzs, hst]
   simp only [execOp, resolve, invoke, builtin, Sem.run_bind, Sem.run_pure, Result.andThen_ok, List.map_toArray, List.map_cons, List.map_nil, e0.ev hx, hrun]
  ·have hnew := setRow_heap w gb cur (cur.toList.take (k.toNat * F.sz) ++ (List.replicate (xs.length - k.toNat) z).flatMap F.enc ++ cur.toList.drop (xs.length * F.sz)).toArray e (0, 0) hgw
   have hcl5 : cur.toList.length = c * F.sz := by rw [Array.length_toList, h5]
   have htk : (cur.toList.take (k.toNat * F.sz)).length = k.toNat * F.sz := by rw [List.length_take, hcl5]; omega
   have hll : (cur.toList.take (k.toNat * F.sz) ++ (List.replicate (xs.length - k.toNat) z).flatMap F.enc ++ cur.toList.drop (xs.length * F.sz)).length = cur.size := by
    rw [List.length_append, List.length_append, List.length_drop, htk, hfl, hcl5, h5]; omega
   refine kk _ (single gb (.cells (cur.toList.take (k.toNat * F.sz) ++ (List.replicate (xs.length - k.toNat) z).flatMap F.enc ++ cur.toList.drop (xs.length * F.sz)).toArray e)) _ ?_ rfl rfl rfl (Nat.le_refl _) (fun x o' hx hn => ?_) (fun x o' hx => ?_) (fun x o' hx => ?_)
   ·have hsl : (xs.take k.toNat ++ List.replicate (xs.length - k.toNat) z).length = xs.length := by simp; omega
    refine ⟨by rw [Q50, hsl], .inr ⟨gb, _, rfl, Q205 _ _, h3, h4, by rw [List.size_toArray, hll, h5], ?_⟩⟩
    rw [List.flatMap_append]
    have hpre : (xs.take k.toNat).flatMap F.enc = cur.toList.take (k.toNat * F.sz) := by
     have e1 : xs.flatMap F.enc = (xs.take k.toNat).flatMap F.enc ++ (xs.drop k.toNat).flatMap F.enc := by rw [← List.flatMap_append, List.take_append_drop]
     have e2 : ((xs.take k.toNat).flatMap F.enc).length = k.toNat * F.sz := by rw [Q50, List.length_take]; congr 1; omega
     have e3 : cur.toList.take (k.toNat * F.sz) = (cur.toList.take (xs.length * F.sz)).take (k.toNat * F.sz) := by rw [List.take_take]; congr 1; omega
     rw [e3, h6, e1, List.take_append_of_le_length (Nat.le_of_eq e2.symm), List.take_of_length_le (Nat.le_of_eq e2)]
    rw [hpre]
    simp only [List.toList_toArray]
    rw [List.take_append_of_le_length (by rw [List.length_append, htk, hfl]; omega), List.take_of_length_le (by rw [List.length_append, htk, hfl]; omega)]
   ·rw [setRow_other w gb x _ (fun hxg => by subst hxg; rw [hgb] at hn; cases hn)]; exact hx
   ·obtain ⟨rfl, rfl⟩ := Q111 hx; exact hnew
   ·obtain ⟨rfl, rfl⟩ := Q111 hx; exact .inl ⟨_, hgb⟩
 ·have hz0 : xs.length - k.toNat = 0 := by omega
  have hsame : xs.take k.toNat ++ List.replicate (xs.length - k.toNat) z = xs := by
   rw [hz0, List.take_of_length_le (by omega)]; simp
  rw [hsame] at h
  refine ⟨.tuple #[], w, _, ?_, hs1, h⟩
  have hrun : (Builtin.clear_ #[t] ty #[.slice (sufA A c k.toNat F.sz) (xs.length - k.toNat) (c - k.toNat)]).run P w = .ok (.tuple #[]) w := by
   rw [hz0]
   cases sufA A c k.toNat F.sz <;> simp [Builtin.clear_, run_underlying hu]
  simp only [execOp, resolve, invoke, builtin, Sem.run_bind, Sem.run_pure, Result.andThen_ok, List.map_toArray, List.map_cons, List.map_nil, e0.ev hx, hrun]
end
end Go.Bw
