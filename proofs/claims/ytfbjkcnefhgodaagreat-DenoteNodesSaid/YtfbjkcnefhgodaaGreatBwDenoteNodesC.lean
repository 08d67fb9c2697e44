/- DenoteNodes, part 3: walks and plain laws. Conditions: none. -/
import Derived.Test.YtfbjkcnefhgodaaGreatProg
import Derived.Deep.QuietTactic
import Derived.Maps.RangeRun
import Derived.Defers
import Derived.Recover
import Derived.Laws.CopyRow
import Derived.Test.YtfbjkcnefhgodaaGreatBwDenoteNodesB
set_option linter.unusedVariables false
set_option linter.unusedSimpArgs false
set_option linter.unusedSectionVars false
set_option maxRecDepth 100000
set_option maxHeartbeats 2000000
namespace Go.Bw
open Go Go.RowKit Go.Proofs
variable {R : Res} {Fr : List HProp} {b0 n0_0 c0_0 n0_3 c0_3 n0_4 c0_4 n0_5 c0_5 n0_6 c0_6 b0_7 n0 c0 n0_1 c0_1 b1 b1_c0 : Nat} {A0_0 A0_3 A0_4 A0_5 A0_6 A0 A0_1 : Option Addr}
structure Q1 where
 Kind : Int
 At : Int
 Text : Bs
 Number : Int
deriving Inhabited, DecidableEq
def Q1.fl : Fl Q1 := ⟨4, fun x => [i6 x.Kind, i6 x.At, .string ⟨(x.Text).toArray⟩, i6 x.Number], fun _ => rfl, fun x u hu => by simp at hu; rcases hu with rfl | rfl | rfl | rfl <;> rfl, by decide⟩
structure Q5 where
 At : Int
 Err : Int
deriving Inhabited, DecidableEq
def Q5.fl : Fl Q5 := ⟨2, fun x => [i6 x.At, i6 x.Err], fun _ => rfl, fun x u hu => by simp at hu; rcases hu with rfl | rfl <;> rfl, by decide⟩
structure Q9 where
 from_ : Int
 action : Bs
 to : Int
deriving Inhabited, DecidableEq
def Q9.fl : Fl Q9 := ⟨3, fun x => [i6 x.from_, .string ⟨(x.action).toArray⟩, i6 x.to], fun _ => rfl, fun x u hu => by simp at hu; rcases hu with rfl | rfl | rfl <;> rfl, by decide⟩
theorem bytealg_IndexByteString.ext : ExtOk Tryz.prog 142 Extern.BytealgIndexByte.indexByte := ⟨_, Tryz.func142, by kernel_rfl, by kernel_rfl, by kernel_rfl, by kernel_rfl⟩

noncomputable def Q142.f (a0 : Bs) (a1 : Int) : Option Int :=
 some (Lib.indexByte a0 a1.toNat.toUInt8)
theorem Q142.callee : Callee Tryz.prog 118 := ⟨_, Tryz.func118, by kernel_rfl, by kernel_rfl⟩
theorem Q142.spec {a0 : Bs} {a1 : Int} {r : Int} (j : Q142.f a0 a1 = some r) :
 Spec Tryz.prog 118 [.string ⟨(a0).toArray⟩, .int .u8 a1] R (Fr) (fun v l' => v = i6 r ∧ Fr = l') := by
 refine Spec.of Tryz.func118 rfl rfl ?_; unfold Q142.f at j; have j := brun j; refine sR 1 rfl (nT (sR 2 rfl ?_)); refine At.y (Y.ext bytealg_IndexByteString.ext rfl rfl (fun w => Q282 _ _ w)) rfl rfl rfl ?_; refine At.run 1 rfl (nT (At.ret ?_)); cases bret j; exact At.res (.inl rfl) rfl rfl ⟨rfl, rfl⟩

noncomputable def Q149.f (a0 : Bs) (a1 : Int) : Option Int :=
 (Q142.f a0 a1).bind fun p =>
 some p
theorem Q149.callee : Callee Tryz.prog 83 := ⟨_, Tryz.func83, by kernel_rfl, by kernel_rfl⟩
theorem Q149.spec {a0 : Bs} {a1 : Int} {r : Int} (j : Q149.f a0 a1 = some r) :
 Spec Tryz.prog 83 [.string ⟨(a0).toArray⟩, .int .u8 a1] R (Fr) (fun v l' => v = i6 r ∧ Fr = l') := by
 refine Spec.of Tryz.func83 rfl rfl ?_; unfold Q149.f at j; have j := brun j; refine sR 1 rfl (nT (sR 2 rfl ?_)); obtain ⟨q, p, j⟩ := bbind j; refine At.call rfl Q142.callee rfl rfl rfl (Q142.spec p) ?_; rintro _ _ ⟨rfl, rfl⟩; refine At.run 1 rfl (nT (At.ret ?_)); cases bret j; exact At.res (.inl rfl) rfl rfl ⟨rfl, rfl⟩

noncomputable def Q139.f (a0 : Int) : Option Int :=
 if a0 = 10 then
 some 1
 else
 jn (
 if 97 ≤ a0 then
 some (.inl (decide (a0 ≤ 122)))
 else
 some (.inl false)) (fun (p : Bool) =>
 if p = true then
 some 2
 else
 jn (
 if 65 ≤ a0 then
 some (.inl (decide (a0 ≤ 90)))
 else
 some (.inl false)) (fun (q : Bool) =>
 if q = true then
 some 3
 else
 jn (
 if 48 ≤ a0 then
 some (.inl (decide (a0 ≤ 57)))
 else
 some (.inl false)) (fun (u : Bool) =>
 if u = true then
 some 4
 else
 jn (
 if 32 < a0 then
 some (.inl (decide (a0 < 127)))
 else
 some (.inl false)) (fun (x : Bool) =>
 jn (
 if x = true then
 some (.inl (!(decide (a0 = 95))))
 else
 some (.inl false)) (fun (D : Bool) =>
 if D = true then
 some 5
 else
 some 0)))))
theorem Q139.callee : Callee Tryz.prog 119 := ⟨_, Tryz.func119, by kernel_rfl, by kernel_rfl⟩
theorem Q139.spec {a0 : Int} {r : Int} (j : Q139.f a0 = some r) :
 Spec Tryz.prog 119 [.int .u8 a0] R (Fr) (fun v l' => v = i6 r ∧ Fr = l') := by
 refine Spec.of Tryz.func119 rfl rfl ?_; unfold Q139.f at j; have j := brun j; refine sR 1 rfl (nT (At.seq ?_)); refine At.block ?_; refine sR 3 rfl (nT ?_); rcases bite j with ⟨G, j⟩ | ⟨G, j⟩
 ··refine At.condT rfl (decide_eq_true G) ?_
   refine sR 1 rfl (nT (At.ret ?_)); refine At.ibr ?_; refine At.thr ?_; cases bret j; exact At.res (.inl rfl) rfl rfl ⟨rfl, rfl⟩
 ··refine At.condF rfl (decide_eq_false G) ?_
   refine sR 3 rfl ?_; obtain ⟨a7, a8, b9, j⟩ := bjoin j; refine At.joinO 3 (X := Bool) (fun p => [(0, .int .u8 a0), (12, .bool p)]) (fun p => Fr) (fun p => a7 (.inl p) = some r) ?_ (fun a2 => ?_)
   ·rintro p j; have j := (a8 _).symm.trans j
    ·refine At.run 1 rfl (nT ?_); rcases bite j with ⟨I, j⟩ | ⟨I, j⟩
     ··refine At.condT rfl I ?_
       refine sR 1 rfl (nT (At.ret ?_)); refine At.ibr ?_; refine At.thr ?_; cases bret j; exact At.res (.inl rfl) rfl rfl ⟨rfl, rfl⟩
     ··refine At.condF rfl (bn I) ?_
       refine sR 3 rfl ?_; obtain ⟨a9, b2, c4, j⟩ := bjoin j; refine At.joinO 3 (X := Bool) (fun q => [(0, .int .u8 a0), (19, .bool q)]) (fun q => Fr) (fun q => a9 (.inl q) = some r) ?_ (fun a3 => ?_)
       ·rintro q j; have j := (b2 _).symm.trans j
        ·refine At.run 1 rfl (nT ?_); rcases bite j with ⟨J, j⟩ | ⟨J, j⟩
         ··refine At.condT rfl J ?_
           refine sR 1 rfl (nT (At.ret ?_)); refine At.ibr ?_; refine At.thr ?_; cases bret j; exact At.res (.inl rfl) rfl rfl ⟨rfl, rfl⟩
         ··refine At.condF rfl (bn J) ?_
           refine sR 3 rfl ?_; obtain ⟨b3, b4, c5, j⟩ := bjoin j; refine At.joinO 3 (X := Bool) (fun u => [(0, .int .u8 a0), (26, .bool u)]) (fun u => Fr) (fun u => b3 (.inl u) = some r) ?_ (fun a4 => ?_)
           ·rintro u j; have j := (b4 _).symm.trans j
            ·refine At.run 1 rfl (nT ?_); rcases bite j with ⟨L, j⟩ | ⟨L, j⟩
             ··refine At.condT rfl L ?_
               refine sR 1 rfl (nT (At.ret ?_)); refine At.ibr ?_; refine At.thr ?_; cases bret j; exact At.res (.inl rfl) rfl rfl ⟨rfl, rfl⟩
             ··refine At.condF rfl (bn L) ?_
               refine sR 3 rfl ?_; obtain ⟨b5, b6, c6, j⟩ := bjoin j; refine At.joinO 3 (X := Bool) (fun x => [(0, .int .u8 a0), (33, .bool x)]) (fun x => Fr) (fun x => b5 (.inl x) = some r) ?_ (fun a5 => ?_)
               ·rintro x j; have j := (b6 _).symm.trans j
                ·refine At.run 1 rfl ?_; obtain ⟨b7, b8, c7, j⟩ := bjoin j; refine At.joinO 3 (X := Bool) (fun D => [(37, .bool D)]) (fun D => Fr) (fun D => b7 (.inl D) = some r) ?_ (fun a6 => ?_)
                 ·rintro D j; have j := (b8 _).symm.trans j
                  ·refine At.run 1 rfl (nT ?_); rcases bite j with ⟨M, j⟩ | ⟨M, j⟩
                   ··refine At.condT rfl M ?_
                     refine sR 1 rfl (nT (At.ret ?_)); refine At.ibr ?_; refine At.thr ?_; cases bret j; exact At.res (.inl rfl) rfl rfl ⟨rfl, rfl⟩
                   ··refine At.condF rfl (bn M) ?_
                     refine At.skip ?_; refine At.ibn ?_; refine At.thn (sR 1 rfl (nT (At.ret ?_))); cases bret j; exact At.res (.inl rfl) rfl rfl ⟨rfl, rfl⟩
                 ··rcases bite j with ⟨O, j⟩ | ⟨O, j⟩
                   ··refine At.know (t := 34) rfl O ?_
                     refine At.run 3 rfl ?_; exact At.of (a6 (!(decide (a0 = 95))) j) ⟨rfl, trivial⟩
                   ··refine At.know (t := 34) rfl (bn O) ?_
                     refine At.run 3 rfl ?_; exact At.of (a6 false j) ⟨rfl, trivial⟩
               ··rcases bite j with ⟨U, j⟩ | ⟨U, j⟩
                 ··refine At.know (t := 30) rfl (decide_eq_true U) ?_
                   refine At.run 3 rfl ?_; exact At.of (a5 (decide (a0 < 127)) j) ⟨rfl, rfl, trivial⟩
                 ··refine At.know (t := 30) rfl (decide_eq_false U) ?_
                   refine At.run 3 rfl ?_; exact At.of (a5 false j) ⟨rfl, rfl, trivial⟩
           ··rcases bite j with ⟨V, j⟩ | ⟨V, j⟩
             ··refine At.know (t := 23) rfl (decide_eq_true V) ?_
               refine At.run 3 rfl ?_; exact At.of (a4 (decide (a0 ≤ 57)) j) ⟨rfl, rfl, trivial⟩
             ··refine At.know (t := 23) rfl (decide_eq_false V) ?_
               refine At.run 3 rfl ?_; exact At.of (a4 false j) ⟨rfl, rfl, trivial⟩
       ··rcases bite j with ⟨Z, j⟩ | ⟨Z, j⟩
         ··refine At.know (t := 16) rfl (decide_eq_true Z) ?_
           refine At.run 3 rfl ?_; exact At.of (a3 (decide (a0 ≤ 90)) j) ⟨rfl, rfl, trivial⟩
         ··refine At.know (t := 16) rfl (decide_eq_false Z) ?_
           refine At.run 3 rfl ?_; exact At.of (a3 false j) ⟨rfl, rfl, trivial⟩
   ··rcases bite j with ⟨a1, j⟩ | ⟨a1, j⟩
     ··refine At.know (t := 9) rfl (decide_eq_true a1) ?_
       refine At.run 3 rfl ?_; exact At.of (a2 (decide (a0 ≤ 122)) j) ⟨rfl, rfl, trivial⟩
     ··refine At.know (t := 9) rfl (decide_eq_false a1) ?_
       refine At.run 3 rfl ?_; exact At.of (a2 false j) ⟨rfl, rfl, trivial⟩

noncomputable def Q40.l0b (a1 : Bs) (p : Int) : Option ((Int) ⊕ ((Int) ⊕ ((Int) ⊕ (Int)))) :=
 jn (
 if p < (a1.length : Int) then
 if (0 : Int) ≤ p ∧ p < (a1.length : Int) then
 some (.inl (decide (48 ≤ bat a1 p)))
 else none
 else
 some (.inl false)) (fun (q : Bool) =>
 jn (
 if q = true then
 if (0 : Int) ≤ p ∧ p < (a1.length : Int) then
 some (.inl (decide (bat a1 p ≤ 57)))
 else none
 else
 some (.inl false)) (fun (u : Bool) =>
 if u = true then
 nx (IntKind.i64.wrap (p + 1))
 else
 dn (.inl p)))
noncomputable def Q40.l0 (a1 : Bs) (p : Int) : Option ((Int) ⊕ ((Int) ⊕ (Int))) := iter (fun t_ : Int => Q40.l0b a1 t_) p
noncomputable def Q40.l1b (a1 : Bs) (p : Int) : Option ((Int) ⊕ ((Int) ⊕ ((Int) ⊕ (Int)))) :=
 jn (
 if p < (a1.length : Int) then
 if (0 : Int) ≤ p ∧ p < (a1.length : Int) then
 jn (
 if bat a1 p = 95 then
 some (.inl (true, true))
 else
 jn (
 if 97 ≤ bat a1 p then
 some (.inl (true, decide (bat a1 p ≤ 122)))
 else
 some (.inl (false, false))) (fun (s_ : Bool × Bool) =>
 some (.inl (false, s_.2)))) (fun (s_ : Bool × Bool) =>
 jn (
 if s_.2 = true then
 some (.inl (true, true))
 else
 jn (
 if 65 ≤ bat a1 p then
 some (.inl (true, decide (bat a1 p ≤ 90)))
 else
 some (.inl (false, false))) (fun (s_ : Bool × Bool) =>
 some (.inl (false, s_.2)))) (fun (s_ : Bool × Bool) =>
 jn (
 if s_.2 = true then
 some (.inl (true, true))
 else
 jn (
 if 48 ≤ bat a1 p then
 some (.inl (true, decide (bat a1 p ≤ 57)))
 else
 some (.inl (false, false))) (fun (s_ : Bool × Bool) =>
 some (.inl (false, s_.2)))) (fun (s_ : Bool × Bool) =>
 some (.inl s_.2))))
 else none
 else
 some (.inl false)) (fun (q : Bool) =>
 if q = true then
 nx (IntKind.i64.wrap (p + 1))
 else
 dn (.inl p))
noncomputable def Q40.l1 (a1 : Bs) (p : Int) : Option ((Int) ⊕ ((Int) ⊕ (Int))) := iter (fun t_ : Int => Q40.l1b a1 t_) p
noncomputable def Q40.f (a0 : Int) (a1 : Bs) : Option Int :=
 jn (
 if a0 = 4 then
 jn (Q40.l0 a1 1) (fun (p : Int) =>
 some (.inl p))
 else
 jn (
 if a0 = 2 then
 some (.inl (decide (a0 = 2)))
 else
 some (.inl (decide (a0 = 3)))) (fun (q : Bool) =>
 if q = true then
 jn (Q40.l1 a1 1) (fun (u : Int) =>
 some (.inl u))
 else
 some (.inl 1))) (fun (x : Int) =>
 some x)
theorem Q40.callee : Callee Tryz.prog 120 := ⟨_, Tryz.func120, by kernel_rfl, by kernel_rfl⟩
theorem Q40.spec {a0 : Int} {a1 : Bs} {r : Int} (j : Q40.f a0 a1 = some r) :
 Spec Tryz.prog 120 [i6 a0, .string ⟨(a1).toArray⟩] R (Fr) (fun v l' => v = i6 r ∧ Fr = l') := by
 refine Spec.of Tryz.func120 rfl rfl ?_; unfold Q40.f at j; have j := brun j; refine sR 1 rfl (nT (sR 1 rfl ?_)); refine nT (At.seq (sR 1 rfl (nT ?_))); obtain ⟨e4, e5, k2, j⟩ := bjoin j; refine At.join (X := Int) (fun I => [(5, i6 I)]) (fun I => Fr) (fun I => e4 (.inl I) = some r) ?_ (fun a4 => ?_)
 ·rintro I j; have j := (e5 _).symm.trans j
  ·refine sR 2 rfl (nT (At.ret ?_)); cases bret j; exact At.res (.inl rfl) rfl rfl ⟨rfl, rfl⟩
 ··refine At.block ?_
   refine sR 2 rfl (nT ?_); rcases bite j with ⟨a5, j⟩ | ⟨a5, j⟩
   ··refine At.condT rfl (decide_eq_true a5) ?_
     refine At.block ?_; obtain ⟨e6, e7, k3, j⟩ := bjoin j; obtain ⟨Z, a6, e8⟩ := bsome j; clear j; unfold Q40.l0 at a6; obtain ⟨a7, J⟩ := Q17.1 a6; clear a6; refine At.loopJ (X := Int) (Y := Int) (e0 := 1) (fun u => [(1, .string ⟨(a1).toArray⟩), (5, i6 u)]) (fun u => Fr) (fun m_ => fun u => iterN (fun t_ : Int => Q40.l0b a1 t_) m_ u = some Z) a7 1 J (fun D => [(5, i6 D)]) (fun D => Fr) (fun D => e6 (.inl D) = some r) (fun a w e hs => ⟨e.sub ⟨rfl, rfl, trivial⟩, (by exact hs)⟩) ?_ (fun e9 => ?_)
     ·rintro D j; have j := (e7 _).symm.trans j
      ·refine At.ibx ?_; refine At.ibn ?_; refine At.thn ?_; exact fun a w e hs => a4 D j a w (e.sub ⟨rfl, trivial⟩) hs
     ·clear J a7; rintro a7 u J; obtain ⟨f0, f_, f1, hf_, j⟩ := bit J; clear J; have j : (Q40.l0b a1 u).bind _ = some Z := j; unfold Q40.l0b at j
      ·refine At.seq (sR 5 rfl ?_); obtain ⟨f2, f3, k4, j⟩ := bjoin j; refine At.joinO 5 (X := Bool) (fun L => [(1, .string ⟨(a1).toArray⟩), (5, i6 u), (18, .bool L)]) (fun L => Fr) (fun L => f2 (.inl L) = some Z) ?_ (fun c9 => ?_)
       ·rintro L j; have j := (f3 _).symm.trans j
        ·refine At.run 1 rfl ?_; obtain ⟨f4, f5, k5, j⟩ := bjoin j; refine At.joinO 5 (X := Bool) (fun M => [(1, .string ⟨(a1).toArray⟩), (5, i6 u), (24, .bool M)]) (fun M => Fr) (fun M => f4 (.inl M) = some Z) ?_ (fun d0 => ?_)
         ·rintro M j; have j := (f5 _).symm.trans j
          ·refine nT ?_; rcases bite j with ⟨a8, j⟩ | ⟨a8, j⟩
           ··refine At.condT rfl a8 ?_
             refine At.skip (At.thn ?_); refine At.block ?_; refine At.region (At.run 3 rfl (At.nil ?_)); refine At.ibn ?_; have j := bnx hf_ j; exact fun a w e hs => ⟨f0, (IntKind.i64.wrap (u + 1)), f1, j, e.sub ⟨rfl, rfl, trivial⟩, hs⟩
           ··refine At.condF rfl (bn a8) ?_
             refine At.exit ?_; refine At.the ?_; refine At.the ?_; exact fun a w e hs => e9 u (bdn j e8) a w (e.sub ⟨rfl, trivial⟩) hs
         ··rcases bite j with ⟨a9, j⟩ | ⟨a9, j⟩
           ··refine At.know (t := 19) rfl a9 ?_
             refine At.run 2 rfl ?_; obtain ⟨d1, j⟩ := bnone j; refine At.y (Y.ixStr rfl rfl rfl rfl d1.1 d1.2) rfl rfl rfl (At.run 2 rfl ?_); exact At.of (d0 (decide (bat a1 u ≤ 57)) j) ⟨rfl, rfl, rfl, trivial⟩
           ··refine At.know (t := 19) rfl (bn a9) ?_
             refine At.run 5 rfl ?_; exact At.of (d0 false j) ⟨rfl, rfl, rfl, trivial⟩
       ··rcases bite j with ⟨b2, j⟩ | ⟨b2, j⟩
         ··refine At.know (t := 13) rfl (decide_eq_true b2) ?_
           refine At.run 2 rfl ?_; obtain ⟨d2, j⟩ := bnone j; refine At.y (Y.ixStr rfl rfl rfl rfl d2.1 d2.2) rfl rfl rfl (At.run 2 rfl ?_); exact At.of (c9 (decide (48 ≤ bat a1 u)) j) ⟨rfl, rfl, rfl, trivial⟩
         ··refine At.know (t := 13) rfl (decide_eq_false b2) ?_
           refine At.run 5 rfl ?_; exact At.of (c9 false j) ⟨rfl, rfl, rfl, trivial⟩
   ··refine At.condF rfl (decide_eq_false a5) ?_
     refine At.seq (sR 2 rfl (nT ?_)); obtain ⟨f6, f7, k6, j⟩ := bjoin j; refine At.join (X := Bool) (fun O => [(1, .string ⟨(a1).toArray⟩), (5, i6 1), (27, .bool O)]) (fun O => Fr) (fun O => f6 (.inl O) = some r) ?_ (fun d3 => ?_)
     ·rintro O j; have j := (f7 _).symm.trans j
      ·rcases bite j with ⟨b3, j⟩ | ⟨b3, j⟩
       ··refine At.condT rfl b3 ?_
         refine At.block ?_; obtain ⟨f8, f9, k7, j⟩ := bjoin j; obtain ⟨x, b4, g0⟩ := bsome j; clear j; unfold Q40.l1 at b4; obtain ⟨b5, U⟩ := Q17.1 b4; clear b4; refine At.loopJ (X := Int) (Y := Int) (e0 := 3) (fun p => [(1, .string ⟨(a1).toArray⟩), (5, i6 p)]) (fun p => Fr) (fun m_ => fun p => iterN (fun t_ : Int => Q40.l1b a1 t_) m_ p = some x) b5 1 U (fun G => [(5, i6 G)]) (fun G => Fr) (fun G => f8 (.inl G) = some r) (fun a w e hs => ⟨e.sub ⟨rfl, rfl, trivial⟩, (by exact hs)⟩) ?_ (fun g1 => ?_)
         ·rintro G j; have j := (f9 _).symm.trans j
          ·refine At.ibx ?_; refine At.ibn ?_; refine At.thn ?_; exact fun a w e hs => a4 G j a w (e.sub ⟨rfl, trivial⟩) hs
         ·clear U b5; rintro b5 p U; obtain ⟨g2, f_, g3, hf_, j⟩ := bit U; clear U; have j : (Q40.l1b a1 p).bind _ = some x := j; unfold Q40.l1b at j
          ·refine At.seq (sR 5 rfl ?_); obtain ⟨g4, g5, k8, j⟩ := bjoin j; refine At.joinO 41 (X := Bool) (fun V => [(1, .string ⟨(a1).toArray⟩), (5, i6 p), (75, .bool V)]) (fun V => Fr) (fun V => g4 (.inl V) = some x) ?_ (fun d4 => ?_)
           ·rintro V j; have j := (g5 _).symm.trans j
            ·refine nT ?_; rcases bite j with ⟨b6, j⟩ | ⟨b6, j⟩
             ··refine At.condT rfl b6 ?_
               refine At.skip (At.thn ?_); refine At.block ?_; refine At.region (At.run 3 rfl (At.nil ?_)); refine At.ibn ?_; have j := bnx hf_ j; exact fun a w e hs => ⟨g2, (IntKind.i64.wrap (p + 1)), g3, j, e.sub ⟨rfl, rfl, trivial⟩, hs⟩
             ··refine At.condF rfl (bn b6) ?_
               refine At.exit ?_; refine At.the ?_; refine At.the ?_; exact fun a w e hs => g1 p (bdn j g0) a w (e.sub ⟨rfl, trivial⟩) hs
           ··rcases bite j with ⟨b7, j⟩ | ⟨b7, j⟩
             ··refine At.know (t := 34) rfl (decide_eq_true b7) ?_
               refine At.run 2 rfl ?_; obtain ⟨q, j⟩ := bnone j; refine At.y (Y.ixStr rfl rfl rfl rfl q.1 q.2) rfl rfl rfl (At.run 2 rfl ?_); obtain ⟨g6, g7, k9, j⟩ := bjoin j; refine At.joinO 11 (X := Bool × Bool) (fun s_ => [(1, .string ⟨(a1).toArray⟩), (5, i6 p), (34, .bool true), (35, .string ⟨(a1).toArray⟩), (36, i6 p), (37, .int .u8 (bat a1 p)), (38, .bool (decide (bat a1 p = 95))), (39, .bool s_.1), (50, .bool s_.2)]) (fun s_ => Fr) (fun s_ => g6 (.inl (s_.1, s_.2)) = some x) ?_ (fun d5 => ?_)
               ·rintro ⟨a2, a3⟩ j; have j := (g7 _).symm.trans j
                ·refine At.run 1 rfl ?_; obtain ⟨g8, g9, l4, j⟩ := bjoin j; refine At.joinO 11 (X := Bool × Bool) (fun s_ => [(1, .string ⟨(a1).toArray⟩), (5, i6 p), (34, .bool true), (35, .string ⟨(a1).toArray⟩), (36, i6 p), (37, .int .u8 (bat a1 p)), (38, .bool (decide (bat a1 p = 95))), (39, .bool a2), (50, .bool a3), (51, .bool s_.1), (62, .bool s_.2)]) (fun s_ => Fr) (fun s_ => g8 (.inl (s_.1, s_.2)) = some x) ?_ (fun d6 => ?_)
                 ·rintro ⟨d7, d8⟩ j; have j := (g9 _).symm.trans j
                  ·refine At.run 1 rfl ?_; obtain ⟨h0, h1, l5, j⟩ := bjoin j; refine At.joinO 11 (X := Bool × Bool) (fun s_ => [(1, .string ⟨(a1).toArray⟩), (5, i6 p), (34, .bool true), (35, .string ⟨(a1).toArray⟩), (36, i6 p), (37, .int .u8 (bat a1 p)), (38, .bool (decide (bat a1 p = 95))), (39, .bool a2), (50, .bool a3), (51, .bool d7), (62, .bool d8), (63, .bool s_.1), (74, .bool s_.2)]) (fun s_ => Fr) (fun s_ => h0 (.inl (s_.1, s_.2)) = some x) ?_ (fun d9 => ?_)
                   ·rintro ⟨l6, h2⟩ j; have j := (h1 _).symm.trans j
                    ·refine At.run 1 rfl ?_; exact At.of (d4 h2 j) ⟨rfl, rfl, rfl, trivial⟩
                   ··rcases bite j with ⟨b8, j⟩ | ⟨b8, j⟩
                     ··refine At.know (t := 63) rfl b8 ?_
                       refine At.run 11 rfl ?_; exact At.of (d9 (true, true) j) ⟨rfl, rfl, rfl, rfl, rfl, rfl, rfl, rfl, rfl, rfl, rfl, rfl, rfl, trivial⟩
                     ··refine At.know (t := 63) rfl (bn b8) ?_
                       refine At.run 2 rfl (At.y (Y.ixStr rfl rfl rfl rfl q.1 q.2) rfl rfl rfl (At.run 2 rfl ?_)); obtain ⟨h3, h4, l7, j⟩ := bjoin j; refine At.joinO 5 (X := Bool × Bool) (fun s_ => [(1, .string ⟨(a1).toArray⟩), (5, i6 p), (34, .bool true), (35, .string ⟨(a1).toArray⟩), (36, i6 p), (37, .int .u8 (bat a1 p)), (38, .bool (decide (bat a1 p = 95))), (39, .bool a2), (50, .bool a3), (51, .bool d7), (62, .bool d8), (63, .bool false), (64, .string ⟨(a1).toArray⟩), (65, i6 p), (66, .int .u8 (bat a1 p)), (67, .bool (decide (48 ≤ bat a1 p))), (68, .bool s_.1), (73, .bool s_.2)]) (fun s_ => Fr) (fun s_ => h3 (.inl (s_.1, s_.2)) = some x) ?_ (fun e1 => ?_)
                       ·rintro ⟨l8, h5⟩ j; have j := (h4 _).symm.trans j
                        ·refine At.run 1 rfl ?_; exact At.of (d9 (false, h5) j) ⟨rfl, rfl, rfl, rfl, rfl, rfl, rfl, rfl, rfl, rfl, rfl, rfl, rfl, trivial⟩
                       ··rcases bite j with ⟨b9, j⟩ | ⟨b9, j⟩
                         ··refine At.know (t := 68) rfl (decide_eq_true b9) ?_
                           refine At.run 2 rfl (At.y (Y.ixStr rfl rfl rfl rfl q.1 q.2) rfl rfl rfl (At.run 2 rfl ?_)); exact At.of (e1 (true, decide (bat a1 p ≤ 57)) j) ⟨rfl, rfl, rfl, rfl, rfl, rfl, rfl, rfl, rfl, rfl, rfl, rfl, rfl, rfl, rfl, rfl, rfl, rfl, trivial⟩
                         ··refine At.know (t := 68) rfl (decide_eq_false b9) ?_
                           refine At.run 5 rfl ?_; exact At.of (e1 (false, false) j) ⟨rfl, rfl, rfl, rfl, rfl, rfl, rfl, rfl, rfl, rfl, rfl, rfl, rfl, rfl, rfl, rfl, rfl, rfl, trivial⟩
                 ··rcases bite j with ⟨c4, j⟩ | ⟨c4, j⟩
                   ··refine At.know (t := 51) rfl c4 ?_
                     refine At.run 11 rfl ?_; exact At.of (d6 (true, true) j) ⟨rfl, rfl, rfl, rfl, rfl, rfl, rfl, rfl, rfl, rfl, rfl, trivial⟩
                   ··refine At.know (t := 51) rfl (bn c4) ?_
                     refine At.run 2 rfl (At.y (Y.ixStr rfl rfl rfl rfl q.1 q.2) rfl rfl rfl (At.run 2 rfl ?_)); obtain ⟨h6, h7, l9, j⟩ := bjoin j; refine At.joinO 5 (X := Bool × Bool) (fun s_ => [(1, .string ⟨(a1).toArray⟩), (5, i6 p), (34, .bool true), (35, .string ⟨(a1).toArray⟩), (36, i6 p), (37, .int .u8 (bat a1 p)), (38, .bool (decide (bat a1 p = 95))), (39, .bool a2), (50, .bool a3), (51, .bool false), (52, .string ⟨(a1).toArray⟩), (53, i6 p), (54, .int .u8 (bat a1 p)), (55, .bool (decide (65 ≤ bat a1 p))), (56, .bool s_.1), (61, .bool s_.2)]) (fun s_ => Fr) (fun s_ => h6 (.inl (s_.1, s_.2)) = some x) ?_ (fun e2 => ?_)
                     ·rintro ⟨m0, h8⟩ j; have j := (h7 _).symm.trans j
                      ·refine At.run 1 rfl ?_; exact At.of (d6 (false, h8) j) ⟨rfl, rfl, rfl, rfl, rfl, rfl, rfl, rfl, rfl, rfl, rfl, trivial⟩
                     ··rcases bite j with ⟨c5, j⟩ | ⟨c5, j⟩
                       ··refine At.know (t := 56) rfl (decide_eq_true c5) ?_
                         refine At.run 2 rfl (At.y (Y.ixStr rfl rfl rfl rfl q.1 q.2) rfl rfl rfl (At.run 2 rfl ?_)); exact At.of (e2 (true, decide (bat a1 p ≤ 90)) j) ⟨rfl, rfl, rfl, rfl, rfl, rfl, rfl, rfl, rfl, rfl, rfl, rfl, rfl, rfl, rfl, rfl, trivial⟩
                       ··refine At.know (t := 56) rfl (decide_eq_false c5) ?_
                         refine At.run 5 rfl ?_; exact At.of (e2 (false, false) j) ⟨rfl, rfl, rfl, rfl, rfl, rfl, rfl, rfl, rfl, rfl, rfl, rfl, rfl, rfl, rfl, rfl, trivial⟩
               ··rcases bite j with ⟨c6, j⟩ | ⟨c6, j⟩
                 ··refine At.know (t := 39) rfl (decide_eq_true c6) ?_
                   refine At.run 11 rfl ?_; exact At.of (d5 (true, true) j) ⟨rfl, rfl, rfl, rfl, rfl, rfl, rfl, rfl, rfl, trivial⟩
                 ··refine At.know (t := 39) rfl (decide_eq_false c6) ?_
                   refine At.run 2 rfl (At.y (Y.ixStr rfl rfl rfl rfl q.1 q.2) rfl rfl rfl (At.run 2 rfl ?_)); obtain ⟨h9, k0, m1, j⟩ := bjoin j; refine At.joinO 5 (X := Bool × Bool) (fun s_ => [(1, .string ⟨(a1).toArray⟩), (5, i6 p), (34, .bool true), (35, .string ⟨(a1).toArray⟩), (36, i6 p), (37, .int .u8 (bat a1 p)), (38, .bool (decide (bat a1 p = 95))), (39, .bool false), (40, .string ⟨(a1).toArray⟩), (41, i6 p), (42, .int .u8 (bat a1 p)), (43, .bool (decide (97 ≤ bat a1 p))), (44, .bool s_.1), (49, .bool s_.2)]) (fun s_ => Fr) (fun s_ => h9 (.inl (s_.1, s_.2)) = some x) ?_ (fun e3 => ?_)
                   ·rintro ⟨m2, k1⟩ j; have j := (k0 _).symm.trans j
                    ·refine At.run 1 rfl ?_; exact At.of (d5 (false, k1) j) ⟨rfl, rfl, rfl, rfl, rfl, rfl, rfl, rfl, rfl, trivial⟩
                   ··rcases bite j with ⟨c7, j⟩ | ⟨c7, j⟩
                     ··refine At.know (t := 44) rfl (decide_eq_true c7) ?_
                       refine At.run 2 rfl (At.y (Y.ixStr rfl rfl rfl rfl q.1 q.2) rfl rfl rfl (At.run 2 rfl ?_)); exact At.of (e3 (true, decide (bat a1 p ≤ 122)) j) ⟨rfl, rfl, rfl, rfl, rfl, rfl, rfl, rfl, rfl, rfl, rfl, rfl, rfl, rfl, trivial⟩
                     ··refine At.know (t := 44) rfl (decide_eq_false c7) ?_
                       refine At.run 5 rfl ?_; exact At.of (e3 (false, false) j) ⟨rfl, rfl, rfl, rfl, rfl, rfl, rfl, rfl, rfl, rfl, rfl, rfl, rfl, rfl, trivial⟩
             ··refine At.know (t := 34) rfl (decide_eq_false b7) ?_
               refine At.run 41 rfl ?_; exact At.of (d4 false j) ⟨rfl, rfl, rfl, trivial⟩
       ··refine At.condF rfl (bn b3) ?_
         refine At.skip ?_; refine At.ibn ?_; refine At.thn ?_; exact fun a w e hs => a4 1 j a w (e.sub ⟨rfl, trivial⟩) hs
     ··rcases bite j with ⟨c8, j⟩ | ⟨c8, j⟩
       ··refine At.condT rfl (decide_eq_true c8) ?_
         refine At.skip (At.thn ?_); exact fun a w e hs => d3 (decide (a0 = 2)) j a w (e.sub ⟨rfl, rfl, rfl, trivial⟩) hs
       ··refine At.condF rfl (decide_eq_false c8) ?_
         refine At.region (At.run 2 rfl (nT ?_)); exact fun a w e hs => d3 (decide (a0 = 3)) j a w (e.sub ⟨rfl, rfl, rfl, trivial⟩) hs

noncomputable def Q86.l0b (a0 : Bs) (q p : Int) : Option ((Int × Int) ⊕ ((Int) ⊕ (Bool × Int))) :=
 if p < (a0.length : Int) then
 if (0 : Int) ≤ p ∧ p < (a0.length : Int) then
 nx (IntKind.i64.wrap (IntKind.i64.wrap (10 * q) + (IntKind.i64.wrap (IntKind.u8.wrap (bat a0 p - 48)))), IntKind.i64.wrap (p + 1))
 else none
 else
 dn (.inl q)
noncomputable def Q86.l0 (a0 : Bs) (p q : Int) : Option ((Int) ⊕ (Bool × Int)) := iter (fun t_ : Int × Int => Q86.l0b a0 t_.1 t_.2) (p, q)
noncomputable def Q86.f (a0 : Bs) : Option (Bool × Int) :=
 jn (
 if 4 < (a0.length : Int) then
 some (.inl true)
 else
 jn (
 if 1 < (a0.length : Int) then
 if (0 : Int) ≤ 0 ∧ 0 < (a0.length : Int) then
 some (.inl (decide (bat a0 0 = 48)))
 else none
 else
 some (.inl false)) (fun (q : Bool) =>
 some (.inl q))) (fun (u : Bool) =>
 if u = true then
 some (false, 0)
 else
 jn (Q86.l0 a0 0 0) (fun (p : Int) =>
 some (decide (p ≤ 9999), p)))
theorem Q86.callee : Callee Tryz.prog 121 := ⟨_, Tryz.func121, by kernel_rfl, by kernel_rfl⟩
theorem Q86.spec {a0 : Bs} {r : Bool × Int} (j : Q86.f a0 = some r) :
 Spec Tryz.prog 121 [.string ⟨(a0).toArray⟩] R (Fr) (fun v l' => v = .tuple #[i6 r.2, .bool r.1] ∧ Fr = l') := by
 refine Spec.of Tryz.func121 rfl rfl ?_; unfold Q86.f at j; have j := brun j; refine sR 2 rfl (nT (At.seq (At.seq (At.region ?_)))); refine At.run 4 rfl ?_; obtain ⟨a4, a5, b6, j⟩ := bjoin j; refine At.joinO 9 (X := Bool) (fun q => [(0, .string ⟨(a0).toArray⟩), (18, .bool q)]) (fun q => Fr) (fun q => a4 (.inl q) = some r) ?_ (fun V => ?_)
 ·rintro q j; have j := (a5 _).symm.trans j
  ·refine nT ?_; rcases bite j with ⟨D, j⟩ | ⟨D, j⟩
   ··refine At.condT rfl D ?_
     refine sR 2 rfl (nT (At.ret (At.thr ?_))); cases bret j; exact At.res (.inl rfl) rfl rfl ⟨rfl, rfl⟩
   ··refine At.condF rfl (bn D) ?_
     refine At.skip (At.thn (sR 1 rfl (nT (At.seq ?_)))); refine sR 3 rfl (nT ?_); refine At.block ?_; obtain ⟨a6, a7, b7, j⟩ := bjoin j; obtain ⟨Z, G, a8⟩ := bsome j; clear j; unfold Q86.l0 at G; obtain ⟨I, u⟩ := Q17.1 G; clear G; refine At.loopJ (X := Int × Int) (Y := Int) (e0 := 0) (fun s_ => [(0, .string ⟨(a0).toArray⟩), (4, i6 s_.1), (20, i6 (a0.length : Int)), (21, i6 s_.2)]) (fun s_ => Fr) (fun m_ => fun s_ => iterN (fun t_ : Int × Int => Q86.l0b a0 t_.1 t_.2) m_ (s_.1, s_.2) = some Z) I (0, 0) u (fun x => [(4, i6 x)]) (fun x => Fr) (fun x => a6 (.inl x) = some r) (fun a w e hs => ⟨e.sub ⟨rfl, rfl, rfl, rfl, trivial⟩, (by exact hs)⟩) ?_ (fun a9 => ?_)
     ·rintro x j; have j := (a7 _).symm.trans j
      ·refine At.ibx ?_; refine At.thn (sR 5 rfl (nT (At.ret ?_))); cases bret j; exact At.res (.inl rfl) rfl rfl ⟨rfl, rfl⟩
     ·clear u I; rintro I ⟨J, L⟩ u; obtain ⟨b2, f_, b3, hf_, j⟩ := bit u; clear u; have j : (Q86.l0b a0 J L).bind _ = some Z := j; unfold Q86.l0b at j
      ·refine sR 1 rfl (nT (At.seq ?_)); rcases bite j with ⟨M, j⟩ | ⟨M, j⟩
       ··refine At.condT rfl (decide_eq_true M) ?_
         refine At.skip (At.thn (At.seq ?_)); refine At.block ?_; refine sR 2 rfl (nT (At.region (At.run 4 rfl ?_))); obtain ⟨a1, j⟩ := bnone j; refine At.y (Y.ixStr rfl rfl rfl rfl a1.1 a1.2) rfl rfl rfl (At.run 4 rfl (At.nil ?_)); refine At.ibn ?_; refine At.thn (At.region (At.run 2 rfl (At.nil ?_))); have j := bnx hf_ j; exact fun a w e hs => ⟨b2, (IntKind.i64.wrap (IntKind.i64.wrap (10 * J) + (IntKind.i64.wrap (IntKind.u8.wrap (bat a0 L - 48)))), IntKind.i64.wrap (L + 1)), b3, j, e.sub ⟨rfl, rfl, rfl, rfl, trivial⟩, hs⟩
       ··refine At.condF rfl (decide_eq_false M) ?_
         refine At.exit ?_; refine At.the ?_; refine At.the ?_; exact fun a w e hs => a9 J (bdn j a8) a w (e.sub ⟨rfl, trivial⟩) hs
 ··rcases bite j with ⟨O, j⟩ | ⟨O, j⟩
   ··refine At.know (t := 9) rfl (decide_eq_true O) ?_
     refine At.run 9 rfl ?_; exact At.of (V true j) ⟨rfl, rfl, trivial⟩
   ··refine At.know (t := 9) rfl (decide_eq_false O) ?_
     refine At.run 4 rfl ?_; obtain ⟨b4, b5, b8, j⟩ := bjoin j; refine At.joinO 4 (X := Bool) (fun p => [(0, .string ⟨(a0).toArray⟩), (9, .bool false), (17, .bool p)]) (fun p => Fr) (fun p => b4 (.inl p) = some r) ?_ (fun a2 => ?_)
     ·rintro p j; have j := (b5 _).symm.trans j
      ·refine At.run 1 rfl ?_; exact At.of (V p j) ⟨rfl, rfl, trivial⟩
     ··rcases bite j with ⟨U, j⟩ | ⟨U, j⟩
       ··refine At.know (t := 13) rfl (decide_eq_true U) ?_
         refine At.run 1 rfl ?_; obtain ⟨a3, j⟩ := bnone j; refine At.y (Y.ixStr rfl rfl rfl rfl a3.1 a3.2) rfl rfl rfl (At.run 2 rfl ?_); exact At.of (a2 (decide (bat a0 0 = 48)) j) ⟨rfl, rfl, rfl, trivial⟩
       ··refine At.know (t := 13) rfl (decide_eq_false U) ?_
         refine At.run 4 rfl ?_; exact At.of (a2 false j) ⟨rfl, rfl, rfl, trivial⟩

noncomputable def Q140.f (a0 : Bs) (a1 : Int) : Option (Int × Int × Int × Bs × Int) :=
 if (0 : Int) ≤ a1 ∧ a1 < (a0.length : Int) then
 (Q139.f (bat a0 a1)).bind fun p =>
 if (0 : Int) ≤ a1 ∧ a1 ≤ (a0.length : Int) then
 (Q40.f p (a0.drop a1.toNat)).bind fun q =>
 if (0 : Int) ≤ a1 ∧ a1 ≤ IntKind.i64.wrap (a1 + q) ∧ IntKind.i64.wrap (a1 + q) ≤ (a0.length : Int) then
 jn (
 if p = 0 then
 up (some (3, p, a1, (bsl a0 a1 (IntKind.i64.wrap (a1 + q))), 0))
 else
 jn (
 if p = 2 then
 some (.inl (decide (p = 2)))
 else
 some (.inl (decide (p = 3)))) (fun (x : Bool) =>
 if x = true then
 if 8 < ((bsl a0 a1 (IntKind.i64.wrap (a1 + q))).length : Int) then
 up (some (5, p, a1, (bsl a0 a1 (IntKind.i64.wrap (a1 + q))), 0))
 else
 some (.inl 0)
 else
 if p = 4 then
 (Q86.f (bsl a0 a1 (IntKind.i64.wrap (a1 + q)))).bind fun u =>
 if u.1 = true then
 some (.inl u.2)
 else
 up (some (4, p, a1, (bsl a0 a1 (IntKind.i64.wrap (a1 + q))), 0))
 else
 some (.inl 0))) (fun (D : Int) =>
 some (0, p, a1, (bsl a0 a1 (IntKind.i64.wrap (a1 + q))), D))
 else none
 else none
 else none
theorem Q140.callee : Callee Tryz.prog 84 := ⟨_, Tryz.func84, by kernel_rfl, by kernel_rfl⟩
theorem Q140.spec {a0 : Bs} {a1 : Int} {r : Int × Int × Int × Bs × Int} (j : Q140.f a0 a1 = some r) :
 Spec Tryz.prog 84 [.string ⟨(a0).toArray⟩, i6 a1] R (Fr) (fun v l' => v = .tuple #[.agg #[i6 r.2.1, i6 r.2.2.1, .string ⟨(r.2.2.2.1).toArray⟩, i6 r.2.2.2.2], i6 r.1] ∧ Fr = l') := by
 refine Spec.of Tryz.func84 rfl rfl ?_; unfold Q140.f at j; have j := brun j; refine At.seq (At.region ?_); refine At.alloc rfl rfl rfl (fun x => ?_); refine At.run 1 rfl (nT (sR 2 rfl ?_)); obtain ⟨a2, j⟩ := bnone j; refine At.y (Y.ixStr rfl rfl rfl rfl a2.1 a2.2) rfl rfl rfl ?_; obtain ⟨p, a6, j⟩ := bbind j; refine At.call rfl Q139.callee rfl rfl rfl (Q139.spec a6) ?_; rintro _ _ ⟨rfl, rfl⟩; refine At.run 1 rfl ?_; refine At.y (Y.build (is := [0, 1]) (xo := [.tmp 12, .tmp 13]) (vs := [i6 p, i6 a1]) (cs := [i6 p, i6 a1, .string ⟨(([] : Bs)).toArray⟩, i6 0]) rfl rfl rfl rfl rfl rfl) rfl rfl rfl ?_; refine At.alloc rfl rfl rfl (fun D => ?_); refine At.store rfl rfl rfl rfl .z rfl rfl rfl (.c (.c (.c (.c .n)))) ?_; refine nT (At.seq ?_); refine At.held [pc x [i6 0, i6 0, .string ⟨(([] : Bs)).toArray⟩, i6 0] 101] 13 rfl ?_; refine At.H.pw 0 rfl rfl rfl rfl rfl (.c (.s .z) .n) ?_; refine At.H.pw 1 rfl rfl rfl rfl rfl (.c (.s .z) .n) ?_; refine At.H.pw 2 rfl rfl rfl rfl rfl (.c (.s .z) .n) ?_; refine At.H.pw 3 rfl rfl rfl rfl rfl (.c (.s .z) .n) ?_; refine At.H.pw 5 rfl rfl rfl rfl rfl (.c (.s .z) .n) ?_; refine At.H.pw 6 rfl rfl rfl rfl rfl (.c (.s .z) .n) ?_; obtain ⟨a3, j⟩ := bnone j; refine At.H.tw 7 rfl (Y.slStrL rfl rfl rfl rfl a3.1 a3.2) rfl rfl rfl (.c (.s .z) .n) ?_; refine At.H.al [4] (Q6 ?_ Q7)
 ··refine At.HO.op rfl ?_
   refine At.y (Y.load rfl rfl .z rfl rfl rfl) rfl rfl rfl ?_; refine At.HO.back (.c (.s .z) .n) ?_; refine At.H.al [8] (Q6 ?_ Q7)
   ··refine At.HO.op rfl ?_
     obtain ⟨a4, a7, j⟩ := bbind j; refine At.call rfl Q40.callee rfl rfl rfl (Q40.spec a7) ?_; rintro _ _ ⟨rfl, rfl⟩; refine At.HO.back (.c (.s .z) .n) ?_; refine At.H.pw 9 rfl rfl rfl rfl rfl (.c (.s .z) .n) ?_; obtain ⟨G, j⟩ := bnone j; refine At.H.tw 10 rfl (Y.slStrLH rfl rfl rfl rfl rfl G.1 G.2.1 G.2.2) rfl rfl rfl (.c (.s .z) .n) ?_; refine At.H.pw 11 rfl rfl rfl rfl rfl (.c (.s .z) .n) ?_; refine At.H.al [12] (Q6 ?_ Q7)
     ··refine At.HO.op rfl ?_
       refine At.store rfl rfl rfl rfl .z rfl rfl rfl (.s (.s (.c .n))) ?_; refine At.HO.back (.c (.s .z) .n) ?_; refine At.H.done (by kernel_rfl) ?_; refine At.thn (At.seq (sR 1 rfl (At.y (Y.load rfl rfl .z rfl rfl rfl) rfl rfl rfl (nT ?_)))); obtain ⟨a8, a9, I, j⟩ := bjoin j; let T1 : HProp := pc x [i6 0, i6 0, .string ⟨(([] : Bs)).toArray⟩, i6 0] 101; refine At.join (X := Int) (fun q => [(4, bp x), (6, bp D)]) (fun q => pc D [i6 p, i6 a1, .string ⟨((bsl a0 a1 (IntKind.i64.wrap (a1 + a4)))).toArray⟩, i6 q] 101 :: T1 :: Fr) (fun q => a8 (.inl q) = some r) ?_ (fun J => ?_)
       ·rintro q j; have j := (a9 _).symm.trans j
        ·refine At.seq (At.region (At.y (Y.load rfl rfl .z rfl rfl rfl) rfl rfl rfl ?_)); refine At.store rfl rfl rfl rfl (.s .z) rfl rfl rfl (.c (.c (.c (.c .n)))) ?_; refine At.run 1 rfl (nT (At.ret ?_)); refine At.resM (.inl rfl) rfl (RV.cell rfl rfl .z rfl rfl rfl (RV.tmp rfl RV.nil)) ?_; refine At.drop .z (At.drop .z ?_); cases bret j; exact fun a w e hs => ⟨_, ⟨rfl, rfl⟩, hs⟩
       ··refine At.block ?_
         refine sR 2 rfl (nT ?_); rcases bite j with ⟨L, j⟩ | ⟨L, j⟩
         ··refine At.condT rfl (decide_eq_true L) ?_
           refine At.seq (At.region (At.y (Y.load rfl rfl .z rfl rfl rfl) rfl rfl rfl ?_)); refine At.store rfl rfl rfl rfl (.s .z) rfl rfl rfl (.c (.c (.c (.c .n)))) ?_; refine At.run 1 rfl (nT (At.ret ?_)); refine At.ibr ?_; have j := bup I j; refine At.thr ?_; refine At.resM (.inl rfl) rfl (RV.cell rfl rfl .z rfl rfl rfl (RV.tmp rfl RV.nil)) ?_; refine At.drop .z (At.drop .z ?_); cases bret j; exact fun a w e hs => ⟨_, ⟨rfl, rfl⟩, hs⟩
         ··refine At.condF rfl (decide_eq_false L) ?_
           refine At.seq (sR 2 rfl (nT ?_)); obtain ⟨b2, b3, b6, j⟩ := bjoin j; let T2 : HProp := pc D [i6 p, i6 a1, .string ⟨((bsl a0 a1 (IntKind.i64.wrap (a1 + a4)))).toArray⟩, i6 0] 101; refine At.join (X := Bool) (fun u => [(4, bp x), (6, bp D), (28, i6 p), (32, .bool u)]) (fun u => T2 :: T1 :: Fr) (fun u => b2 (.inl u) = some r) ?_ (fun a5 => ?_)
           ·rintro u j; have j := (b3 _).symm.trans j
            ·rcases bite j with ⟨M, j⟩ | ⟨M, j⟩
             ··refine At.condT rfl M ?_
               refine sR 1 rfl (At.y (Y.load rfl rfl .z rfl rfl rfl) rfl rfl rfl (At.run 2 rfl (nT ?_))); rcases bite j with ⟨O, j⟩ | ⟨O, j⟩
               ··refine At.condT rfl (decide_eq_true O) ?_
                 refine At.seq (At.region (At.y (Y.load rfl rfl .z rfl rfl rfl) rfl rfl rfl ?_)); refine At.store rfl rfl rfl rfl (.s .z) rfl rfl rfl (.c (.c (.c (.c .n)))) ?_; refine At.run 1 rfl (nT (At.ret ?_)); refine At.ibr ?_; have j := bup I j; refine At.thr ?_; refine At.resM (.inl rfl) rfl (RV.cell rfl rfl .z rfl rfl rfl (RV.tmp rfl RV.nil)) ?_; refine At.drop .z (At.drop .z ?_); cases bret j; exact fun a w e hs => ⟨_, ⟨rfl, rfl⟩, hs⟩
               ··refine At.condF rfl (decide_eq_false O) ?_
                 refine At.skip ?_; refine At.ibn ?_; refine At.thn ?_; exact fun a w e hs => J 0 j a w (e.sub ⟨rfl, rfl, trivial⟩) hs
             ··refine At.condF rfl (bn M) ?_
               refine sR 2 rfl (nT ?_); rcases bite j with ⟨U, j⟩ | ⟨U, j⟩
               ··refine At.condT rfl (decide_eq_true U) ?_
                 refine sR 1 rfl (At.y (Y.load rfl rfl .z rfl rfl rfl) rfl rfl rfl ?_); obtain ⟨b4, b5, j⟩ := bbind j; refine At.call rfl Q86.callee rfl rfl rfl (Q86.spec b5) ?_; rintro _ _ ⟨rfl, rfl⟩; refine At.run 5 rfl (nT (At.seq (sR 2 rfl (At.nil ?_)))); refine At.thn ?_; rcases bite j with ⟨V, j⟩ | ⟨V, j⟩
                 ··refine At.condF rfl (nf V) ?_
                   refine At.skip (At.thn (At.region (At.run 2 rfl ?_))); refine At.store rfl rfl rfl rfl .z rfl rfl rfl (.s (.s (.s (.c .n)))) ?_; refine At.nil ?_; refine At.ibn ?_; refine At.thn ?_; exact fun a w e hs => J b4.2 j a w (e.sub ⟨rfl, rfl, trivial⟩) hs
                 ··refine At.condT rfl (nt (bn V)) ?_
                   refine At.seq (At.region (At.y (Y.load rfl rfl .z rfl rfl rfl) rfl rfl rfl ?_)); refine At.store rfl rfl rfl rfl (.s .z) rfl rfl rfl (.c (.c (.c (.c .n)))) ?_; refine At.run 1 rfl (nT (At.ret (At.thr ?_))); refine At.ibr ?_; have j := bup I j; refine At.thr ?_; refine At.resM (.inl rfl) rfl (RV.cell rfl rfl .z rfl rfl rfl (RV.tmp rfl RV.nil)) ?_; refine At.drop .z (At.drop .z ?_); cases bret j; exact fun a w e hs => ⟨_, ⟨rfl, rfl⟩, hs⟩
               ··refine At.condF rfl (decide_eq_false U) ?_
                 refine At.skip ?_; refine At.ibn ?_; refine At.thn ?_; exact fun a w e hs => J 0 j a w (e.sub ⟨rfl, rfl, trivial⟩) hs
           ··rcases bite j with ⟨Z, j⟩ | ⟨Z, j⟩
             ··refine At.condT rfl (decide_eq_true Z) ?_
               refine At.skip (At.thn ?_); exact fun a w e hs => a5 (decide (p = 2)) j a w (e.sub ⟨rfl, rfl, rfl, rfl, trivial⟩) hs
             ··refine At.condF rfl (decide_eq_false Z) ?_
               refine At.region (At.run 2 rfl (nT ?_)); exact fun a w e hs => a5 (decide (p = 3)) j a w (e.sub ⟨rfl, rfl, rfl, rfl, trivial⟩) hs

noncomputable def Q61.l0b (a0 : Bs) (u : List Q1) (p : Int) : Option (((List Q1) × Int) ⊕ (((List Q1)) ⊕ ((Option Q5) × (List Q1)))) :=
 if p < (a0.length : Int) then
 if (0 : Int) ≤ p ∧ p < (a0.length : Int) then
 jn (
 if bat a0 p = 32 then
 some (.inl true)
 else
 some (.inl (decide (bat a0 p = 9)))) (fun (D : Bool) =>
 if D = true then
 nx (u, IntKind.i64.wrap (p + 1))
 else
 if bat a0 p = 35 then
 if (0 : Int) ≤ p ∧ p ≤ (a0.length : Int) then
 (Q149.f (a0.drop p.toNat) 10).bind fun x =>
 jn (
 if x < 0 then
 some (.inl (IntKind.i64.wrap ((a0.length : Int) - p)))
 else
 some (.inl x)) (fun (G : Int) =>
 nx (u, IntKind.i64.wrap (p + G)))
 else none
 else
 (Q140.f a0 p).bind fun q =>
 if q.1 = 0 then
 if (u.length + ([(⟨q.2.1, q.2.2.1, q.2.2.2.1, q.2.2.2.2⟩ : Q1)] : List Q1).length) * 40 ≤ 140737488355328 then
 nx ((u ++ ([(⟨q.2.1, q.2.2.1, q.2.2.2.1, q.2.2.2.2⟩ : Q1)] : List Q1)), IntKind.i64.wrap (p + (q.2.2.2.1.length : Int)))
 else none
 else
 upL (some ((some (⟨p, q.1⟩ : Q5)), ([] : List Q1))))
 else none
 else
 dn (.inl u)
noncomputable def Q61.l0 (a0 : Bs) (p : List Q1) (q : Int) : Option (((List Q1)) ⊕ ((Option Q5) × (List Q1))) := iter (fun t_ : (List Q1) × Int => Q61.l0b a0 t_.1 t_.2) (p, q)
noncomputable def Q61.f (a0 : Bs) : Option ((Option Q5) × (List Q1)) :=
 if 262144 < (a0.length : Int) then
 some ((some (⟨262144, 2⟩ : Q5)), ([] : List Q1))
 else
 jn (Q61.l0 a0 ([] : List Q1) 0) (fun (p : List Q1) =>
 if (p.length + ([(⟨0, (a0.length : Int), ([] : Bs), 0⟩ : Q1)] : List Q1).length) * 40 ≤ 140737488355328 then
 some (none, (p ++ ([(⟨0, (a0.length : Int), ([] : Bs), 0⟩ : Q1)] : List Q1)))
 else none)
theorem Q61.callee : Callee Tryz.prog 41 := ⟨_, Tryz.func41, by kernel_rfl, by kernel_rfl⟩
theorem Q61.spec {a0 : Bs} {r : (Option Q5) × (List Q1)} (j : Q61.f a0 = some r) :
 Spec Tryz.prog 41 [.string ⟨(a0).toArray⟩] R (Fr) (fun v l' => ∃ (a9 : Option Nat) (O : Nat) (b2 : Option Addr) (b3 : Nat), v = .tuple #[.slice b2 O b3, opti 96 a9] ∧ row Q1.fl 101 b2 O b3 r.2 :: optb (Ow.fl Q5.fl) 107 a9 r.1 :: Fr = l' ∧ r.2.length = O) := by
 refine Spec.of Tryz.func41 rfl rfl ?_; unfold Q61.f at j; have j := brun j; refine sR 2 rfl (nT (At.seq (At.seq (At.region ?_)))); refine At.run 3 rfl (nT ?_); rcases bite j with ⟨U, j⟩ | ⟨U, j⟩
 ··refine At.condT rfl (decide_eq_true U) ?_
   refine At.seq (At.region ?_); refine At.y (Y.build (is := [0, 1]) (xo := [.const (i6 262144), .const (i6 2)]) (vs := [i6 262144, i6 2]) (cs := [i6 262144, i6 2]) rfl rfl rfl rfl rfl rfl) rfl rfl rfl ?_; refine At.box rfl rfl (cs := [i6 262144, i6 2]) rfl rfl (fun c4 => ?_); refine At.run 3 rfl (nT (At.ret (At.thr ?_))); refine At.nilRow Q1.fl 101 ?_; refine At.f1 ?_; refine At.optSome (x := (⟨262144, 2⟩ : Q5)) (Ent.fl Q5.fl (x := (⟨262144, 2⟩ : Q5)) rfl) ?_; refine At.f1 ?_; cases bret j; exact At.res (.inl rfl) rfl rfl ⟨(some c4), 0, none, 0, rfl, rfl, rfl⟩
 ··refine At.condF rfl (decide_eq_false U) ?_
   refine At.skip (At.thn (sR 1 rfl (nT (At.seq ?_)))); refine sR 1 rfl (nT ?_); refine At.block ?_; obtain ⟨c5, c6, c7, j⟩ := bjoin j; obtain ⟨M, V, b4⟩ := bsome j; clear j; unfold Q61.l0 at V; obtain ⟨Z, J⟩ := Q17.1 V; clear V; refine At.nilRow Q1.fl 101 ?_; refine At.loopJ (X := (List Q1) × Int × Nat × (Option Addr) × Nat) (Y := (List Q1) × Nat × (Option Addr) × Nat) (e0 := 0) (fun s_ => [(0, .string ⟨(a0).toArray⟩), (4, .slice s_.2.2.2.1 s_.2.2.1 s_.2.2.2.2), (5, i6 s_.2.1)]) (fun s_ => row Q1.fl 101 s_.2.2.2.1 s_.2.2.1 s_.2.2.2.2 s_.1 :: Fr) (fun m_ => fun s_ => iterN (fun t_ : (List Q1) × Int => Q61.l0b a0 t_.1 t_.2) m_ (s_.1, s_.2.1) = some M ∧ s_.1.length = s_.2.2.1) Z (([] : List Q1), 0, 0, none, 0) ⟨J, rfl⟩ (fun s_ => [(0, .string ⟨(a0).toArray⟩), (4, .slice s_.2.2.1 s_.2.1 s_.2.2.2)]) (fun s_ => row Q1.fl 101 s_.2.2.1 s_.2.1 s_.2.2.2 s_.1 :: Fr) (fun s_ => c5 (.inl s_.1) = some r ∧ s_.1.length = s_.2.1) (fun a w e hs => ⟨e.sub ⟨rfl, rfl, rfl, trivial⟩, (by exact hs)⟩) ?_ (fun c8 => ?_)
   ·rintro ⟨b5, c9, e8, e9⟩ ⟨j, d0⟩; obtain rfl : b5.length = c9 := d0; have j := (c6 _).symm.trans j
    ·refine At.ibx ?_; refine At.thn (sR 3 rfl ?_); refine At.y (Y.build (is := [0, 1]) (xo := [.const (i6 0), .tmp 72]) (vs := [i6 0, i6 (a0.length : Int)]) (cs := [i6 0, i6 (a0.length : Int), .string ⟨(([] : Bs)).toArray⟩, i6 0]) rfl rfl rfl rfl rfl rfl) rfl rfl rfl ?_; refine At.lit rfl (xo := [.tmp 73]) (ys := ([(⟨0, (a0.length : Int), ([] : Bs), 0⟩ : Q1)] : List Q1)) Q1.fl rfl rfl rfl rfl rfl rfl rfl rfl rfl rfl rfl (fun f0 f2 => ?_); obtain ⟨d1, j⟩ := bnone j; refine At.append rfl (.s .z) (Src.own .z (by simp)) rfl rfl rfl rfl rfl rfl rfl rfl d1 (by decide) rfl (fun d2 d3 => ?_); refine At.drop (.s .z) (At.run 2 rfl (nT (At.ret ?_))); refine At.optNone (Ow.fl Q5.fl) 107 ?_; refine At.f1 ?_; cases bret j; exact At.res (.inl rfl) rfl rfl ⟨none, (b5 ++ ([(⟨0, (a0.length : Int), ([] : Bs), 0⟩ : Q1)] : List Q1)).length, d2, d3, rfl, rfl, rfl⟩
   ·clear J Z; rintro Z ⟨q, u, d4, D, G⟩ ⟨J, d5⟩; obtain rfl : q.length = d4 := d5; obtain ⟨a1, f_, a2, hf_, j⟩ := bit J; clear J; have j : (Q61.l0b a0 q u).bind _ = some M := j; unfold Q61.l0b at j
    ·refine At.seq (sR 4 rfl (nT ?_)); rcases bite j with ⟨a3, j⟩ | ⟨a3, j⟩
     ··refine At.condT rfl (decide_eq_true a3) ?_
       refine At.skip (At.thn ?_); refine At.block ?_; refine sR 2 rfl ?_; obtain ⟨b6, j⟩ := bnone j; refine At.y (Y.ixStr rfl rfl rfl rfl b6.1 b6.2) rfl rfl rfl (At.run 1 rfl (nT ?_)); refine At.block ?_; refine sR 3 rfl ?_; obtain ⟨d6, d7, f3, j⟩ := bjoin j; refine At.joinO 3 (X := Bool) (fun L => [(0, .string ⟨(a0).toArray⟩), (4, .slice D q.length G), (5, i6 u), (6, .int .u8 (bat a0 u)), (51, .bool L)]) (fun L => row Q1.fl 101 D q.length G q :: Fr) (fun L => d6 (.inl L) = some M) ?_ (fun b7 => ?_)
       ·rintro L j; have j := (d7 _).symm.trans j
        ·refine At.run 1 rfl (nT ?_); rcases bite j with ⟨a4, j⟩ | ⟨a4, j⟩
         ··refine At.condT rfl a4 ?_
           refine At.region (At.run 3 rfl (At.nil ?_)); refine At.ibn ?_; refine At.ibn ?_; have j := bnx hf_ j; exact fun a w e hs => ⟨a1, (q, IntKind.i64.wrap (u + 1), q.length, D, G), a2, ⟨j, rfl⟩, e.sub ⟨rfl, rfl, rfl, trivial⟩, hs⟩
         ··refine At.condF rfl (bn a4) ?_
           refine sR 3 rfl (nT ?_); rcases bite j with ⟨a5, j⟩ | ⟨a5, j⟩
           ··refine At.condT rfl (decide_eq_true a5) ?_
             refine sR 2 rfl ?_; obtain ⟨b8, j⟩ := bnone j; refine At.y (Y.slStrL rfl rfl rfl rfl b8.1 b8.2) rfl rfl rfl ?_; obtain ⟨d8, d9, j⟩ := bbind j; refine At.call rfl Q149.callee rfl rfl rfl (Q149.spec d9) ?_; rintro _ _ ⟨rfl, rfl⟩; refine At.run 1 rfl (nT (At.seq (sR 2 rfl (At.nil ?_)))); refine At.thn ?_; obtain ⟨e1, e2, f4, j⟩ := bjoin j; refine At.join (X := Int) (fun I => [(0, .string ⟨(a0).toArray⟩), (4, .slice D q.length G), (5, i6 u), (7, i6 I)]) (fun I => row Q1.fl 101 D q.length G q :: Fr) (fun I => e1 (.inl I) = some M) ?_ (fun b9 => ?_)
             ·rintro I j; have j := (e2 _).symm.trans j
              ·refine At.region (At.run 4 rfl (At.nil ?_)); refine At.ibn ?_; refine At.ibn ?_; have j := bnx hf_ j; exact fun a w e hs => ⟨a1, (q, IntKind.i64.wrap (u + I), q.length, D, G), a2, ⟨j, rfl⟩, e.sub ⟨rfl, rfl, rfl, trivial⟩, hs⟩
             ··rcases bite j with ⟨a6, j⟩ | ⟨a6, j⟩
               ··refine At.condT rfl (decide_eq_true a6) ?_
                 refine At.region (At.run 5 rfl (nT ?_)); exact fun a w e hs => b9 (IntKind.i64.wrap ((a0.length : Int) - u)) j a w (e.sub ⟨rfl, rfl, rfl, rfl, trivial⟩) hs
               ··refine At.condF rfl (decide_eq_false a6) ?_
                 refine At.skip (At.thn ?_); exact fun a w e hs => b9 d8 j a w (e.sub ⟨rfl, rfl, rfl, rfl, trivial⟩) hs
           ··refine At.condF rfl (decide_eq_false a5) ?_
             refine sR 2 rfl ?_; obtain ⟨p, e3, j⟩ := bbind j; refine At.call rfl Q140.callee rfl rfl rfl (Q140.spec e3) ?_; rintro _ _ ⟨rfl, rfl⟩; refine At.run 3 rfl ?_; refine At.alloc rfl rfl rfl (fun f5 => ?_); refine At.store rfl rfl rfl rfl .z rfl rfl rfl (.c (.c (.c (.c .n)))) ?_; refine At.run 1 rfl (nT (At.seq (sR 2 rfl (At.nil ?_)))); refine At.thn ?_; rcases bite j with ⟨a7, j⟩ | ⟨a7, j⟩
             ··refine At.condF rfl (nf (decide_eq_true a7)) ?_
               refine At.skip (At.thn (sR 1 rfl (At.y (Y.load rfl rfl .z rfl rfl rfl) rfl rfl rfl ?_))); refine At.lit rfl (xo := [.tmp 37]) (ys := ([(⟨p.2.1, p.2.2.1, p.2.2.2.1, p.2.2.2.2⟩ : Q1)] : List Q1)) Q1.fl rfl rfl rfl rfl rfl rfl rfl rfl rfl rfl rfl (fun f6 f7 => ?_); obtain ⟨e4, j⟩ := bnone j; refine At.append rfl (.s (.s .z)) (Src.own .z (by simp)) rfl rfl rfl rfl rfl rfl rfl rfl e4 (by decide) rfl (fun e5 e6 => ?_); refine At.drop (.s .z) (At.run 1 rfl (nT (At.region (At.run 2 rfl (At.y (Y.load rfl rfl (.s .z) rfl rfl rfl) rfl rfl rfl (At.run 3 rfl ?_)))))); refine At.nil ?_; refine At.ibn ?_; refine At.ibn ?_; refine At.drop (.s .z) ?_; have j := bnx hf_ j; exact fun a w e hs => ⟨a1, ((q ++ ([(⟨p.2.1, p.2.2.1, p.2.2.2.1, p.2.2.2.2⟩ : Q1)] : List Q1)), IntKind.i64.wrap (u + (p.2.2.2.1.length : Int)), (q ++ ([(⟨p.2.1, p.2.2.1, p.2.2.2.1, p.2.2.2.2⟩ : Q1)] : List Q1)).length, e5, e6), a2, ⟨j, rfl⟩, e.sub ⟨rfl, rfl, rfl, trivial⟩, hs⟩
             ··refine At.condT rfl (nt (decide_eq_false a7)) ?_
               refine sR 2 rfl ?_; refine At.y (Y.build (is := [0, 1]) (xo := [.tmp 31, .tmp 32]) (vs := [i6 u, i6 p.1]) (cs := [i6 u, i6 p.1]) rfl rfl rfl rfl rfl rfl) rfl rfl rfl ?_; refine At.box rfl rfl (cs := [i6 u, i6 p.1]) rfl rfl (fun e7 => ?_); refine At.run 3 rfl (nT (At.ret (At.thr ?_))); refine At.ibr ?_; refine At.ibr ?_; have j := bupL c7 b4 j; refine At.thr ?_; refine At.ibr ?_; refine At.thr ?_; refine At.nilRow Q1.fl 101 ?_; refine At.f1 ?_; refine At.optSome (x := (⟨u, p.1⟩ : Q5)) (Ent.fl Q5.fl (x := (⟨u, p.1⟩ : Q5)) rfl) ?_; refine At.drop (.s (.s .z)) (At.drop (.s (.s .z)) (At.f1 ?_)); cases bret j; exact At.res (.inl rfl) rfl rfl ⟨(some e7), 0, none, 0, rfl, rfl, rfl⟩
       ··rcases bite j with ⟨a8, j⟩ | ⟨a8, j⟩
         ··refine At.know (t := 48) rfl (decide_eq_true a8) ?_
           refine At.run 3 rfl ?_; exact At.of (b7 true j) ⟨rfl, rfl, rfl, rfl, rfl, trivial⟩
         ··refine At.know (t := 48) rfl (decide_eq_false a8) ?_
           refine At.run 3 rfl ?_; exact At.of (b7 (decide (bat a0 u = 9)) j) ⟨rfl, rfl, rfl, rfl, rfl, trivial⟩
     ··refine At.condF rfl (decide_eq_false a3) ?_
       refine At.exit ?_; refine At.the ?_; refine At.the ?_; exact fun a w e hs => c8 (q, q.length, D, G) ⟨(bdn j b4), rfl⟩ a w (e.sub ⟨rfl, rfl, trivial⟩) hs

noncomputable def Q50.l0b  (p : List Q1) : Option (((List Q1)) ⊕ (((List Q1)) ⊕ ((List Q1)))) :=
 if (0 : Int) ≤ 0 ∧ 0 < (p.length : Int) then
 if (gt p 0).Kind = 1 then
 if (0 : Int) ≤ 1 ∧ 1 ≤ (p.length : Int) then
 nx (p.drop (1 : Int).toNat)
 else none
 else
 dn (.inl p)
 else none
noncomputable def Q50.l0  (p : List Q1) : Option (((List Q1)) ⊕ ((List Q1))) := iter (fun t_ : (List Q1) => Q50.l0b  t_) p
noncomputable def Q50.f (p : List Q1) (u : Option Q5) (x : Int) (D : List Bs) (G : List Q3) (I : List Q4) (J : List Q9) (L : List (Bs × Bool)) : Option (List Q1) :=
 jn (Q50.l0  p) (fun (q : List Q1) =>
 some q)
theorem Q50.callee : Callee Tryz.prog 43 := ⟨_, Tryz.func43, by kernel_rfl, by kernel_rfl⟩
theorem Q50.spec {L : List Q1} {V : Option Q5} {M : Int} {p : List Bs} {u : List Q3} {x : List Q4} {D : List Q9} {Z : List (Bs × Bool)} (G : Option Nat) (hr0_0 : RdS Q1.fl.rep R.heap A0_0 L) (hn0_0 : L.length = n0_0) (hc0_0 : n0_0 ≤ c0_0) (hn0_3 : p.length = n0_3) (hn0_4 : u.length = n0_4) (hn0_5 : x.length = n0_5) (hn0_6 : D.length = n0_6) {r : (List Q1)} (j : Q50.f L V M p u x D Z = some r) :
 Spec Tryz.prog 43 [bp b0] R (pc b0 [.slice A0_0 n0_0 c0_0, optp G, i6 M, .slice A0_3 n0_3 c0_3, .slice A0_4 n0_4 c0_4, .slice A0_5 n0_5 c0_5, .slice A0_6 n0_6 c0_6, .map (some b0_7)] 99 :: optb (Ow.fl Q5.fl) 107 G V :: row Fl.bs 9 A0_3 n0_3 c0_3 p :: row Q3.fl 32 A0_4 n0_4 c0_4 u :: grow Q4.ow 35 A0_5 n0_5 c0_5 x :: row Q9.fl 144 A0_6 n0_6 c0_6 D :: mapo Fl.bs.ov Fl.bool.ov b0_7 Z :: Fr) (fun v l' => ∃ (a4 : Option Addr) (a0 : Nat) (a5 : Nat), v = .tuple #[] ∧ pc b0 [.slice a4 a0 a5, optp G, i6 M, .slice A0_3 n0_3 c0_3, .slice A0_4 n0_4 c0_4, .slice A0_5 n0_5 c0_5, .slice A0_6 n0_6 c0_6, .map (some b0_7)] 99 :: optb (Ow.fl Q5.fl) 107 G V :: row Fl.bs 9 A0_3 n0_3 c0_3 p :: row Q3.fl 32 A0_4 n0_4 c0_4 u :: grow Q4.ow 35 A0_5 n0_5 c0_5 x :: row Q9.fl 144 A0_6 n0_6 c0_6 D :: mapo Fl.bs.ov Fl.bool.ov b0_7 Z :: Fr = l' ∧ RdS Q1.fl.rep R.heap a4 r ∧ r.length = a0 ∧ a0 ≤ a5) := by
 subst hn0_0; subst hn0_3; subst hn0_4; subst hn0_5; subst hn0_6; refine Spec.of Tryz.func43 rfl rfl ?_; unfold Q50.f at j; have j := brun j; refine At.block ?_; obtain ⟨b3, b4, d6, j⟩ := bjoin j; obtain ⟨a6, a1, b5⟩ := bsome j; clear j; unfold Q50.l0 at a1; obtain ⟨a2, O⟩ := Q17.1 a1; clear a1; let T3 : HProp := optb (Ow.fl Q5.fl) 107 G V; let T4 : HProp := row Fl.bs 9 A0_3 p.length c0_3 p; let T5 : HProp := row Q3.fl 32 A0_4 u.length c0_4 u; let T6 : HProp := grow Q4.ow 35 A0_5 x.length c0_5 x; let T7 : HProp := row Q9.fl 144 A0_6 D.length c0_6 D; let T8 : HProp := mapo Fl.bs.ov Fl.bool.ov b0_7 Z; refine At.loopJ (X := (List Q1) × (Option Addr) × Nat × Nat) (Y := (List Q1) × (Option Addr) × Nat × Nat) (e0 := 0) (fun s_ => [(0, bp b0)]) (fun s_ => pc b0 [.slice s_.2.1 s_.2.2.1 s_.2.2.2, optp G, i6 M, .slice A0_3 p.length c0_3, .slice A0_4 u.length c0_4, .slice A0_5 x.length c0_5, .slice A0_6 D.length c0_6, .map (some b0_7)] 99 :: T3 :: T4 :: T5 :: T6 :: T7 :: T8 :: Fr) (fun m_ => fun s_ => iterN (fun t_ : (List Q1) => Q50.l0b  t_) m_ s_.1 = some a6 ∧ RdS Q1.fl.rep R.heap s_.2.1 s_.1 ∧ s_.1.length = s_.2.2.1 ∧ s_.2.2.1 ≤ s_.2.2.2) a2 (L, A0_0, L.length, c0_0) ⟨O, hr0_0, rfl, hc0_0⟩ (fun s_ => []) (fun s_ => pc b0 [.slice s_.2.1 s_.2.2.1 s_.2.2.2, optp G, i6 M, .slice A0_3 p.length c0_3, .slice A0_4 u.length c0_4, .slice A0_5 x.length c0_5, .slice A0_6 D.length c0_6, .map (some b0_7)] 99 :: T3 :: T4 :: T5 :: T6 :: T7 :: T8 :: Fr) (fun s_ => b3 (.inl s_.1) = some r ∧ RdS Q1.fl.rep R.heap s_.2.1 s_.1 ∧ s_.1.length = s_.2.2.1 ∧ s_.2.2.1 ≤ s_.2.2.2) (fun a w e hs => ⟨e.sub ⟨rfl, trivial⟩, (by exact hs)⟩) ?_ (fun b6 => ?_)
 ·rintro ⟨a7, b7, b8, b9⟩ ⟨j, c4, c5, c6⟩; obtain rfl : a7.length = b8 := c5; have j := (b4 _).symm.trans j
  ·refine At.ibx ?_; cases bret j; exact At.res (.inr rfl) rfl rfl ⟨b7, a7.length, b9, rfl, rfl, c4, rfl, c6⟩
 ·clear O a2; rintro a2 ⟨I, c7, c8, a8⟩ ⟨O, U, c9, a9⟩; obtain rfl : I.length = c8 := c9; obtain ⟨d0, f_, d1, hf_, j⟩ := bit O; clear O; have j : (Q50.l0b  I).bind _ = some a6 := j; unfold Q50.l0b at j
  ·refine At.seq (sR 3 rfl (At.y (Y.load rfl rfl .z rfl rfl rfl) rfl rfl rfl ?_)); obtain ⟨J, j⟩ := bnone j; refine At.y (Y.ixRd U rfl rfl rfl rfl rfl rfl rfl J.1 J.2) rfl rfl rfl ?_; refine At.y (Y.fa (RdS.some_ U rfl J.1 J.2) rfl rfl rfl rfl rfl rfl) rfl rfl rfl ?_; refine At.y (Y.ldFl U rfl (q := 0) rfl rfl J.1 J.2 rfl rfl rfl) rfl rfl rfl (At.run 1 rfl (nT ?_)); rcases bite j with ⟨a3, j⟩ | ⟨a3, j⟩
   ··refine At.condT rfl (decide_eq_true a3) ?_
     refine At.skip (At.thn ?_); refine At.block ?_; refine At.region (At.run 4 rfl (At.y (Y.load rfl rfl .z rfl rfl rfl) rfl rfl rfl ?_)); obtain ⟨b2, j⟩ := bnone j; obtain ⟨d2, d3, d4, d5⟩ := Y.slFromAt (P := Tryz.prog) (R := R) rfl U a9 b2.1 b2.2; refine At.y (d5 rfl rfl rfl rfl rfl rfl) rfl rfl rfl ?_; refine At.run 2 rfl ?_; refine At.store rfl rfl rfl rfl .z rfl rfl rfl (.c .n) ?_; refine At.nil ?_; refine At.ibn ?_; have j := bnx hf_ j; exact fun a w e hs => ⟨d0, ((I.drop (1 : Int).toNat), d2, (I.drop (1 : Int).toNat).length, (a8 - (1 : Int).toNat)), d1, ⟨j, d3, rfl, d4⟩, e.sub ⟨rfl, trivial⟩, hs⟩
   ··refine At.condF rfl (decide_eq_false a3) ?_
     refine At.exit ?_; refine At.the ?_; refine At.the ?_; exact fun a w e hs => b6 (I, c7, I.length, a8) ⟨(bdn j b5), U, rfl, a9⟩ a w (e.sub trivial) hs

noncomputable def Q16.f (u : List Q1) (p : Option Q5) (x : Int) (D : List Bs) (G : List Q3) (I : List Q4) (J : List Q9) (L : List (Bs × Bool)) (M : Int) (q : Int) (O : Bs) (U : Int) (a2 : Int) : Option (Option Q5) :=
 if p.isNone = true then
 some (some (⟨q, a2⟩ : Q5))
 else
 some p
theorem Q16.callee : Callee Tryz.prog 47 := ⟨_, Tryz.func47, by kernel_rfl, by kernel_rfl⟩
theorem Q16.spec {I : List Q1} {Z : Option Q5} {J L p M a2 : Int} {q : List Bs} {u : List Q3} {D : List Q4} {G : List Q9} {O : List (Bs × Bool)} {U : Bs} (V : Option Nat) (hr0_0 : RdS Q1.fl.rep R.heap A0_0 I) (hn0_0 : I.length = n0_0) (hc0_0 : n0_0 ≤ c0_0) (hn0_3 : q.length = n0_3) (hn0_4 : u.length = n0_4) (hn0_5 : D.length = n0_5) (hn0_6 : G.length = n0_6) {r : (Option Q5)} (j : Q16.f I Z J q u D G O L p U M a2 = some r) :
 Spec Tryz.prog 47 [bp b0, .agg #[i6 L, i6 p, .string ⟨(U).toArray⟩, i6 M], i6 a2] R (pc b0 [.slice A0_0 n0_0 c0_0, optp V, i6 J, .slice A0_3 n0_3 c0_3, .slice A0_4 n0_4 c0_4, .slice A0_5 n0_5 c0_5, .slice A0_6 n0_6 c0_6, .map (some b0_7)] 99 :: optb (Ow.fl Q5.fl) 107 V Z :: row Fl.bs 9 A0_3 n0_3 c0_3 q :: row Q3.fl 32 A0_4 n0_4 c0_4 u :: grow Q4.ow 35 A0_5 n0_5 c0_5 D :: row Q9.fl 144 A0_6 n0_6 c0_6 G :: mapo Fl.bs.ov Fl.bool.ov b0_7 O :: Fr) (fun v l' => ∃ (a0 : Option Nat), v = .tuple #[] ∧ optb (Ow.fl Q5.fl) 107 a0 r :: pc b0 [.slice A0_0 n0_0 c0_0, optp a0, i6 J, .slice A0_3 n0_3 c0_3, .slice A0_4 n0_4 c0_4, .slice A0_5 n0_5 c0_5, .slice A0_6 n0_6 c0_6, .map (some b0_7)] 99 :: row Fl.bs 9 A0_3 n0_3 c0_3 q :: row Q3.fl 32 A0_4 n0_4 c0_4 u :: grow Q4.ow 35 A0_5 n0_5 c0_5 D :: row Q9.fl 144 A0_6 n0_6 c0_6 G :: mapo Fl.bs.ov Fl.bool.ov b0_7 O :: Fr = l') := by
 subst hn0_0; subst hn0_3; subst hn0_4; subst hn0_5; subst hn0_6; refine Spec.of Tryz.func47 rfl rfl ?_; unfold Q16.f at j; have j := brun j; refine At.seq (At.region ?_); refine At.box rfl rfl (cs := [i6 L, i6 p, .string ⟨(U).toArray⟩, i6 M]) rfl rfl (fun a3 => ?_); refine nT (sR 3 rfl (At.y (Y.load rfl rfl (.s .z) rfl rfl rfl) rfl rfl rfl ?_)); refine At.y (Y.eqOpt (.s (.s .z)) rfl rfl rfl rfl) rfl rfl rfl ?_; refine nT ?_; rcases bite j with ⟨X, j⟩ | ⟨X, j⟩
 ··refine At.condT rfl X ?_
   refine At.region (At.run 2 rfl (At.y (Y.load rfl rfl .z rfl rfl rfl) rfl rfl rfl (At.run 1 rfl ?_))); refine At.y (Y.build (is := [0, 1]) (xo := [.tmp 13, .tmp 14]) (vs := [i6 p, i6 a2]) (cs := [i6 p, i6 a2]) rfl rfl rfl rfl rfl rfl) rfl rfl rfl ?_; refine At.box rfl rfl (cs := [i6 p, i6 a2]) rfl rfl (fun a1 => ?_); refine At.run 2 rfl ?_; refine At.store rfl rfl rfl rfl (.s (.s .z)) rfl rfl rfl (.s (.c .n)) ?_; refine At.nil (At.f1 ?_); refine At.optSome (x := (⟨p, a2⟩ : Q5)) (Ent.fl Q5.fl (x := (⟨p, a2⟩ : Q5)) rfl) ?_; refine At.drop (.s (.s .z)) (At.drop (.s (.s .z)) ?_); cases bret j; exact At.res (.inr rfl) rfl rfl ⟨(some a1), rfl, rfl⟩
 ··refine At.condF rfl (bn X) ?_
   refine At.skip (At.drop .z (At.f6 (At.f6 (At.f6 (At.f6 (At.f6 (At.f5 ?_))))))); refine At.f6 ?_; cases bret j; exact At.res (.inr rfl) rfl rfl ⟨V, rfl, rfl⟩

noncomputable def Q46.f (p : List Q1) (q : Option Q5) (u : Int) (x : List Bs) (D : List Q3) (G : List Q4) (I : List Q9) (J : List (Bs × Bool)) (a1 : Int) : Option ((Option Q5) × (List Q1) × Int × Int × Bs × Int) :=
 if q.isNone = true then
 if (0 : Int) ≤ 0 ∧ 0 < (p.length : Int) then
 jn (
 if (gt p 0).Kind = a1 then
 if (0 : Int) ≤ 1 ∧ 1 ≤ (p.length : Int) then
 up (some (q, (p.drop (1 : Int).toNat), (gt p 0).Kind, (gt p 0).At, (gt p 0).Text, (gt p 0).Number))
 else none
 else
 if (gt p 0).Kind = 0 then
 (Q16.f p q u x D G I J ((gt p 0).Kind) ((gt p 0).At) ((gt p 0).Text) ((gt p 0).Number) 6).bind fun L =>
 some (.inl L)
 else
 (Q16.f p q u x D G I J ((gt p 0).Kind) ((gt p 0).At) ((gt p 0).Text) ((gt p 0).Number) 7).bind fun M =>
 some (.inl M)) (fun (O : Option Q5) =>
 some (O, p, 0, 0, ([] : Bs), 0))
 else none
 else
 some (q, p, 0, 0, ([] : Bs), 0)
theorem Q46.callee : Callee Tryz.prog 44 := ⟨_, Tryz.func44, by kernel_rfl, by kernel_rfl⟩
theorem Q46.spec {p : List Q1} {a0 : Option Q5} {J a1 : Int} {u : List Bs} {x : List Q3} {D : List Q4} {G : List Q9} {L : List (Bs × Bool)} (I : Option Nat) (hr0_0 : RdS Q1.fl.rep R.heap A0_0 p) (hn0_0 : p.length = n0_0) (hc0_0 : n0_0 ≤ c0_0) (hn0_3 : u.length = n0_3) (hn0_4 : x.length = n0_4) (hn0_5 : D.length = n0_5) (hn0_6 : G.length = n0_6) {r : (Option Q5) × (List Q1) × Int × Int × Bs × Int} (j : Q46.f p a0 J u x D G L a1 = some r) :
 Spec Tryz.prog 44 [bp b0, i6 a1] R (pc b0 [.slice A0_0 n0_0 c0_0, optp I, i6 J, .slice A0_3 n0_3 c0_3, .slice A0_4 n0_4 c0_4, .slice A0_5 n0_5 c0_5, .slice A0_6 n0_6 c0_6, .map (some b0_7)] 99 :: optb (Ow.fl Q5.fl) 107 I a0 :: row Fl.bs 9 A0_3 n0_3 c0_3 u :: row Q3.fl 32 A0_4 n0_4 c0_4 x :: grow Q4.ow 35 A0_5 n0_5 c0_5 D :: row Q9.fl 144 A0_6 n0_6 c0_6 G :: mapo Fl.bs.ov Fl.bool.ov b0_7 L :: Fr) (fun v l' => ∃ (a2 : Option Nat) (a3 : Option Addr) (O : Nat) (a4 : Nat), v = .agg #[i6 r.2.2.1, i6 r.2.2.2.1, .string ⟨(r.2.2.2.2.1).toArray⟩, i6 r.2.2.2.2.2] ∧ optb (Ow.fl Q5.fl) 107 a2 r.1 :: pc b0 [.slice a3 O a4, optp a2, i6 J, .slice A0_3 n0_3 c0_3, .slice A0_4 n0_4 c0_4, .slice A0_5 n0_5 c0_5, .slice A0_6 n0_6 c0_6, .map (some b0_7)] 99 :: row Fl.bs 9 A0_3 n0_3 c0_3 u :: row Q3.fl 32 A0_4 n0_4 c0_4 x :: grow Q4.ow 35 A0_5 n0_5 c0_5 D :: row Q9.fl 144 A0_6 n0_6 c0_6 G :: mapo Fl.bs.ov Fl.bool.ov b0_7 L :: Fr = l' ∧ RdS Q1.fl.rep R.heap a3 r.2.1 ∧ r.2.1.length = O ∧ O ≤ a4) := by
 subst hn0_0; subst hn0_3; subst hn0_4; subst hn0_5; subst hn0_6; refine Spec.of Tryz.func44 rfl rfl ?_; unfold Q46.f at j; have j := brun j; refine At.seq (At.region ?_); refine At.alloc rfl rfl rfl (fun a5 => ?_); refine nT (At.seq (sR 3 rfl (At.y (Y.load rfl rfl (.s .z) rfl rfl rfl) rfl rfl rfl ?_))); refine At.y (Y.neOpt (.s (.s .z)) rfl rfl rfl rfl) rfl rfl rfl ?_; refine nT ?_; rcases bite j with ⟨U, j⟩ | ⟨U, j⟩
 ··refine At.condF rfl (nf U) ?_
   refine At.skip (At.thn (sR 3 rfl (At.y (Y.load rfl rfl (.s .z) rfl rfl rfl) rfl rfl rfl ?_))); obtain ⟨M, j⟩ := bnone j; refine At.y (Y.ixRd hr0_0 rfl rfl rfl rfl rfl rfl rfl M.1 M.2) rfl rfl rfl (At.y (Y.ldFl hr0_0 rfl (q := 0) rfl rfl M.1 M.2 rfl rfl rfl) rfl rfl rfl ?_); refine At.store rfl rfl rfl rfl .z rfl rfl rfl (.c (.c (.c (.c .n)))) ?_; refine nT (At.seq ?_); obtain ⟨a8, a9, b2, j⟩ := bjoin j; let T9 : HProp := pc a5 [i6 ((gt p 0).Kind), i6 ((gt p 0).At), .string ⟨((gt p 0).Text).toArray⟩, i6 ((gt p 0).Number)] 101; refine At.join (X := (Option Q5) × (Option Nat)) (fun s_ => [(4, bp a5)]) (fun s_ => optb (Ow.fl Q5.fl) 107 s_.2 s_.1 :: pc b0 [.slice A0_0 p.length c0_0, optp s_.2, i6 J, .slice A0_3 u.length c0_3, .slice A0_4 x.length c0_4, .slice A0_5 D.length c0_5, .slice A0_6 G.length c0_6, .map (some b0_7)] 99 :: row Fl.bs 9 A0_3 u.length c0_3 u :: row Q3.fl 32 A0_4 x.length c0_4 x :: grow Q4.ow 35 A0_5 D.length c0_5 D :: row Q9.fl 144 A0_6 G.length c0_6 G :: mapo Fl.bs.ov Fl.bool.ov b0_7 L :: T9 :: Fr) (fun s_ => a8 (.inl s_.1) = some r) ?_ (fun a6 => ?_)
   ·rintro ⟨c8, b3⟩ j; have j := (a9 _).symm.trans j
    ·refine At.seq (At.region ?_); refine At.y (Y.build (is := []) (xo := []) (vs := []) (cs := [i6 0, i6 0, .string ⟨(([] : Bs)).toArray⟩, i6 0]) rfl rfl rfl rfl rfl rfl) rfl rfl rfl ?_; refine At.store rfl rfl rfl rfl (.s (.s (.s (.s (.s (.s (.s .z))))))) rfl rfl rfl (.c (.c (.c (.c .n)))) ?_; refine nT (At.ret ?_); refine At.resM (.inl rfl) rfl (RV.cell rfl rfl .z rfl rfl rfl RV.nil) ?_; refine At.drop .z ?_; cases bret j; exact fun a w e hs => ⟨_, ⟨b3, A0_0, p.length, c0_0, rfl, rfl, hr0_0, rfl, hc0_0⟩, hs⟩
   ··refine At.block ?_
     refine sR 1 rfl (At.y (Y.load rfl rfl .z rfl rfl rfl) rfl rfl rfl (At.run 3 rfl (nT ?_))); rcases bite j with ⟨V, j⟩ | ⟨V, j⟩
     ··refine At.condT rfl (decide_eq_true V) ?_
       refine sR 4 rfl (At.y (Y.load rfl rfl (.s .z) rfl rfl rfl) rfl rfl rfl ?_); obtain ⟨a7, j⟩ := bnone j; obtain ⟨b4, b5, b6, b7⟩ := Y.slFromAt (P := Tryz.prog) (R := R) rfl hr0_0 hc0_0 a7.1 a7.2; refine At.y (b7 rfl rfl rfl rfl rfl rfl) rfl rfl rfl ?_; refine At.run 2 rfl ?_; refine At.store rfl rfl rfl rfl (.s .z) rfl rfl rfl (.c .n) ?_; refine nT (At.seq (At.region (At.y (Y.load rfl rfl (.s .z) rfl rfl rfl) rfl rfl rfl ?_))); refine At.store rfl rfl rfl rfl (.s .z) rfl rfl rfl (.c (.c (.c (.c .n)))) ?_; refine nT (At.ret ?_); refine At.ibr ?_; have j := bup b2 j; refine At.thr ?_; refine At.resM (.inl rfl) rfl (RV.cell rfl rfl .z rfl rfl rfl RV.nil) ?_; refine At.drop .z (At.f6 (At.f6 (At.f6 (At.f6 (At.f6 (At.f5 (At.f6 ?_))))))); cases bret j; exact fun a w e hs => ⟨_, ⟨I, b4, (p.drop (1 : Int).toNat).length, (c0_0 - (1 : Int).toNat), rfl, rfl, b5, rfl, b6⟩, hs⟩
     ··refine At.condF rfl (decide_eq_false V) ?_
       refine sR 1 rfl (At.y (Y.load rfl rfl .z rfl rfl rfl) rfl rfl rfl (At.run 2 rfl (nT ?_))); rcases bite j with ⟨Z, j⟩ | ⟨Z, j⟩
       ··refine At.condT rfl (decide_eq_true Z) ?_
         refine At.region (At.run 1 rfl (At.y (Y.load rfl rfl .z rfl rfl rfl) rfl rfl rfl (At.f7 (At.f7 (At.f7 (At.f7 (At.f7 ?_))))))); refine At.f7 (At.f7 ?_); obtain ⟨b8, b9, j⟩ := bbind j; refine At.call rfl Q16.callee rfl rfl rfl (Q16.spec I hr0_0 rfl hc0_0 rfl rfl rfl rfl b9) ?_; rintro _ _ ⟨c4, rfl, rfl⟩; refine At.nil ?_; refine At.ibn ?_; refine At.thn ?_; exact fun a w e hs => a6 (b8, c4) j a w (e.sub ⟨rfl, trivial⟩) hs
       ··refine At.condF rfl (decide_eq_false Z) ?_
         refine At.region (At.run 1 rfl (At.y (Y.load rfl rfl .z rfl rfl rfl) rfl rfl rfl (At.f7 (At.f7 (At.f7 (At.f7 (At.f7 ?_))))))); refine At.f7 (At.f7 ?_); obtain ⟨c5, c6, j⟩ := bbind j; refine At.call rfl Q16.callee rfl rfl rfl (Q16.spec I hr0_0 rfl hc0_0 rfl rfl rfl rfl c6) ?_; rintro _ _ ⟨c7, rfl, rfl⟩; refine At.nil ?_; refine At.ibn ?_; refine At.thn ?_; exact fun a w e hs => a6 (c5, c7) j a w (e.sub ⟨rfl, trivial⟩) hs
 ··refine At.condT rfl (nt (bn U)) ?_
   refine At.seq (At.region (At.y (Y.load rfl rfl .z rfl rfl rfl) rfl rfl rfl ?_)); refine At.store rfl rfl rfl rfl .z rfl rfl rfl (.c (.c (.c (.c .n)))) ?_; refine nT (At.ret (At.thr ?_)); refine At.resM (.inl rfl) rfl (RV.cell rfl rfl .z rfl rfl rfl RV.nil) ?_; refine At.drop .z (At.f6 (At.f6 (At.f6 (At.f6 (At.f6 (At.f5 (At.f6 ?_))))))); cases bret j; exact fun a w e hs => ⟨_, ⟨I, A0_0, p.length, c0_0, rfl, rfl, hr0_0, rfl, hc0_0⟩, hs⟩

noncomputable def Q108.f (p : List Q1) (u : Option Q5) (x : Int) (D : List Bs) (G : List Q3) (I : List Q4) (J : List Q9) (L : List (Bs × Bool)) : Option Bool :=
 if (0 : Int) ≤ 0 ∧ 0 < (p.length : Int) then
 jn (
 if (gt p 0).Kind = 0 then
 some (.inl true)
 else
 some (.inl (decide ((gt p 0).Kind = 1)))) (fun (q : Bool) =>
 some q)
 else none
theorem Q108.callee : Callee Tryz.prog 91 := ⟨_, Tryz.func91, by kernel_rfl, by kernel_rfl⟩
theorem Q108.spec {J : List Q1} {M : Option Q5} {O : Int} {u : List Bs} {x : List Q3} {D : List Q4} {G : List Q9} {U : List (Bs × Bool)} (I : Option Nat) (hr0_0 : RdS Q1.fl.rep R.heap A0_0 J) (hn0_0 : J.length = n0_0) (hc0_0 : n0_0 ≤ c0_0) (hn0_3 : u.length = n0_3) (hn0_4 : x.length = n0_4) (hn0_5 : D.length = n0_5) (hn0_6 : G.length = n0_6) {r : Bool} (j : Q108.f J M O u x D G U = some r) :
 Spec Tryz.prog 91 [bp b0] R (pc b0 [.slice A0_0 n0_0 c0_0, optp I, i6 O, .slice A0_3 n0_3 c0_3, .slice A0_4 n0_4 c0_4, .slice A0_5 n0_5 c0_5, .slice A0_6 n0_6 c0_6, .map (some b0_7)] 99 :: optb (Ow.fl Q5.fl) 107 I M :: row Fl.bs 9 A0_3 n0_3 c0_3 u :: row Q3.fl 32 A0_4 n0_4 c0_4 x :: grow Q4.ow 35 A0_5 n0_5 c0_5 D :: row Q9.fl 144 A0_6 n0_6 c0_6 G :: mapo Fl.bs.ov Fl.bool.ov b0_7 U :: Fr) (fun v l' => v = .bool r ∧ pc b0 [.slice A0_0 n0_0 c0_0, optp I, i6 O, .slice A0_3 n0_3 c0_3, .slice A0_4 n0_4 c0_4, .slice A0_5 n0_5 c0_5, .slice A0_6 n0_6 c0_6, .map (some b0_7)] 99 :: optb (Ow.fl Q5.fl) 107 I M :: row Fl.bs 9 A0_3 n0_3 c0_3 u :: row Q3.fl 32 A0_4 n0_4 c0_4 x :: grow Q4.ow 35 A0_5 n0_5 c0_5 D :: row Q9.fl 144 A0_6 n0_6 c0_6 G :: mapo Fl.bs.ov Fl.bool.ov b0_7 U :: Fr = l') := by
 subst hn0_0; subst hn0_3; subst hn0_4; subst hn0_5; subst hn0_6; refine Spec.of Tryz.func91 rfl rfl ?_; unfold Q108.f at j; have j := brun j; refine sR 1 rfl (nT (sR 3 rfl ?_)); refine At.y (Y.load rfl rfl .z rfl rfl rfl) rfl rfl rfl ?_; obtain ⟨p, j⟩ := bnone j; refine At.y (Y.ixRd hr0_0 rfl rfl rfl rfl rfl rfl rfl p.1 p.2) rfl rfl rfl ?_; refine At.y (Y.fa (RdS.some_ hr0_0 rfl p.1 p.2) rfl rfl rfl rfl rfl rfl) rfl rfl rfl ?_; refine At.y (Y.ldFl hr0_0 rfl (q := 0) rfl rfl p.1 p.2 rfl rfl rfl) rfl rfl rfl (At.run 2 rfl ?_); obtain ⟨a0, a1, a3, j⟩ := bjoin j; let a2 : HProp := pc b0 [.slice A0_0 J.length c0_0, optp I, i6 O, .slice A0_3 u.length c0_3, .slice A0_4 x.length c0_4, .slice A0_5 D.length c0_5, .slice A0_6 G.length c0_6, .map (some b0_7)] 99; refine At.joinO 9 (X := Bool) (fun L => [(20, .bool L)]) (fun L => a2 :: optb (Ow.fl Q5.fl) 107 I M :: row Fl.bs 9 A0_3 u.length c0_3 u :: row Q3.fl 32 A0_4 x.length c0_4 x :: grow Q4.ow 35 A0_5 D.length c0_5 D :: row Q9.fl 144 A0_6 G.length c0_6 G :: mapo Fl.bs.ov Fl.bool.ov b0_7 U :: Fr) (fun L => a0 (.inl L) = some r) ?_ (fun Z => ?_)
 ·rintro L j; have j := (a1 _).symm.trans j
  ·refine At.run 1 rfl (nT (At.ret ?_)); cases bret j; exact At.res (.inl rfl) rfl rfl ⟨rfl, rfl⟩
 ··rcases bite j with ⟨V, j⟩ | ⟨V, j⟩
   ··refine At.know (t := 11) rfl (decide_eq_true V) ?_
     refine At.run 9 rfl ?_; exact At.of (Z true j) ⟨rfl, trivial⟩
   ··refine At.know (t := 11) rfl (decide_eq_false V) ?_
     refine At.run 3 rfl (At.y (Y.load rfl rfl .z rfl rfl rfl) rfl rfl rfl (At.y (Y.ixRd hr0_0 rfl rfl rfl rfl rfl rfl rfl p.1 p.2) rfl rfl rfl ?_)); refine At.y (Y.fa (RdS.some_ hr0_0 rfl p.1 p.2) rfl rfl rfl rfl rfl rfl) rfl rfl rfl ?_; refine At.y (Y.ldFl hr0_0 rfl (q := 0) rfl rfl p.1 p.2 rfl rfl rfl) rfl rfl rfl (At.run 2 rfl ?_); exact At.of (Z (decide ((gt J 0).Kind = 1)) j) ⟨rfl, trivial⟩

noncomputable def Q111.f (p : List Q1) (q : Option Q5) (u : Int) (x : List Bs) (D : List Q3) (G : List Q4) (I : List Q9) (J : List (Bs × Bool)) : Option (Option Q5) :=
 (Q108.f p q u x D G I J).bind fun L =>
 if L = true then
 some q
 else
 if (0 : Int) ≤ 0 ∧ 0 < (p.length : Int) then
 (Q16.f p q u x D G I J ((gt p 0).Kind) ((gt p 0).At) ((gt p 0).Text) ((gt p 0).Number) 7).bind fun M =>
 some M
 else none
theorem Q111.callee : Callee Tryz.prog 85 := ⟨_, Tryz.func85, by kernel_rfl, by kernel_rfl⟩
theorem Q111.spec {J : List Q1} {U : Option Q5} {L : Int} {u : List Bs} {x : List Q3} {D : List Q4} {G : List Q9} {M : List (Bs × Bool)} (p : Option Nat) (hr0_0 : RdS Q1.fl.rep R.heap A0_0 J) (hn0_0 : J.length = n0_0) (hc0_0 : n0_0 ≤ c0_0) (hn0_3 : u.length = n0_3) (hn0_4 : x.length = n0_4) (hn0_5 : D.length = n0_5) (hn0_6 : G.length = n0_6) {r : (Option Q5)} (j : Q111.f J U L u x D G M = some r) :
 Spec Tryz.prog 85 [bp b0] R (pc b0 [.slice A0_0 n0_0 c0_0, optp p, i6 L, .slice A0_3 n0_3 c0_3, .slice A0_4 n0_4 c0_4, .slice A0_5 n0_5 c0_5, .slice A0_6 n0_6 c0_6, .map (some b0_7)] 99 :: optb (Ow.fl Q5.fl) 107 p U :: row Fl.bs 9 A0_3 n0_3 c0_3 u :: row Q3.fl 32 A0_4 n0_4 c0_4 x :: grow Q4.ow 35 A0_5 n0_5 c0_5 D :: row Q9.fl 144 A0_6 n0_6 c0_6 G :: mapo Fl.bs.ov Fl.bool.ov b0_7 M :: Fr) (fun v l' => ∃ (V : Option Nat), v = .tuple #[] ∧ pc b0 [.slice A0_0 n0_0 c0_0, optp V, i6 L, .slice A0_3 n0_3 c0_3, .slice A0_4 n0_4 c0_4, .slice A0_5 n0_5 c0_5, .slice A0_6 n0_6 c0_6, .map (some b0_7)] 99 :: optb (Ow.fl Q5.fl) 107 V r :: row Fl.bs 9 A0_3 n0_3 c0_3 u :: row Q3.fl 32 A0_4 n0_4 c0_4 x :: grow Q4.ow 35 A0_5 n0_5 c0_5 D :: row Q9.fl 144 A0_6 n0_6 c0_6 G :: mapo Fl.bs.ov Fl.bool.ov b0_7 M :: Fr = l') := by
 subst hn0_0; subst hn0_3; subst hn0_4; subst hn0_5; subst hn0_6; refine Spec.of Tryz.func85 rfl rfl ?_; unfold Q111.f at j; have j := brun j; refine sR 1 rfl ?_; obtain ⟨a1, X, j⟩ := bbind j; refine At.call rfl Q108.callee rfl rfl rfl (Q108.spec p hr0_0 rfl hc0_0 rfl rfl rfl rfl X) ?_; rintro _ _ ⟨rfl, rfl⟩; refine At.run 1 rfl (nT ?_); rcases bite j with ⟨O, j⟩ | ⟨O, j⟩
 ··refine At.condF rfl (nf O) ?_
   refine At.skip ?_; cases bret j; exact At.res (.inr rfl) rfl rfl ⟨p, rfl, rfl⟩
 ··refine At.condT rfl (nt (bn O)) ?_
   refine At.region (At.run 4 rfl (At.y (Y.load rfl rfl .z rfl rfl rfl) rfl rfl rfl ?_)); obtain ⟨I, j⟩ := bnone j; refine At.y (Y.ixRd hr0_0 rfl rfl rfl rfl rfl rfl rfl I.1 I.2) rfl rfl rfl (At.y (Y.ldFl hr0_0 rfl (q := 0) rfl rfl I.1 I.2 rfl rfl rfl) rfl rfl rfl ?_); obtain ⟨a2, Z, j⟩ := bbind j; refine At.call rfl Q16.callee rfl rfl rfl (Q16.spec p hr0_0 rfl hc0_0 rfl rfl rfl rfl Z) ?_; rintro _ _ ⟨a0, rfl, rfl⟩; refine At.nil (At.f6 (At.f6 (At.f6 (At.f6 (At.f6 (At.f5 (At.f6 ?_))))))); cases bret j; exact At.res (.inr rfl) rfl rfl ⟨a0, rfl, rfl⟩

noncomputable def Q126.f (M : List Q1) (L : Option Q5) (J : Int) (u : List Bs) (x : List Q3) (D : List Q4) (G : List Q9) (I : List (Bs × Bool)) : Option ((Option Q5) × (List Q1) × Int) :=
 (Q50.f M L J u x D G I).bind fun O =>
 (Q46.f O L J u x D G I 2).bind fun q =>
 jn (
 if q.1.isNone = true then
 some (.inl (!(bseq q.2.2.2.2.1 ([115, 116, 97, 116, 101, 115] : Bs))))
 else
 some (.inl false)) (fun (U : Bool) =>
 jn (
 if U = true then
 (Q16.f q.2.1 q.1 J u x D G I q.2.2.1 q.2.2.2.1 q.2.2.2.2.1 q.2.2.2.2.2 7).bind fun V =>
 some (.inl V)
 else
 some (.inl q.1)) (fun (X : Option Q5) =>
 (Q46.f q.2.1 X J u x D G I 4).bind fun p =>
 jn (
 if p.1.isNone = true then
 jn (
 if p.2.2.2.2.2 < 1 then
 some (.inl true)
 else
 some (.inl (decide (24 < p.2.2.2.2.2)))) (fun (Z : Bool) =>
 some (.inl Z))
 else
 some (.inl false)) (fun (a0 : Bool) =>
 jn (
 if a0 = true then
 (Q16.f p.2.1 p.1 p.2.2.2.2.2 u x D G I p.2.2.1 p.2.2.2.1 p.2.2.2.2.1 p.2.2.2.2.2 8).bind fun a1 =>
 some (.inl a1)
 else
 some (.inl p.1)) (fun (a2 : Option Q5) =>
 (Q111.f p.2.1 a2 p.2.2.2.2.2 u x D G I).bind fun a3 =>
 some (a3, p.2.1, p.2.2.2.2.2)))))
theorem Q126.callee : Callee Tryz.prog 42 := ⟨_, Tryz.func42, by kernel_rfl, by kernel_rfl⟩
theorem Q126.spec {a1 : List Q1} {b6 : Option Q5} {V : Int} {p : List Bs} {q : List Q3} {u : List Q4} {x : List Q9} {I : List (Bs × Bool)} (Z : Option Nat) (hr0_0 : RdS Q1.fl.rep R.heap A0_0 a1) (hn0_0 : a1.length = n0_0) (hc0_0 : n0_0 ≤ c0_0) (hn0_3 : p.length = n0_3) (hn0_4 : q.length = n0_4) (hn0_5 : u.length = n0_5) (hn0_6 : x.length = n0_6) {r : (Option Q5) × (List Q1) × Int} (j : Q126.f a1 b6 V p q u x I = some r) :
 Spec Tryz.prog 42 [bp b0] R (pc b0 [.slice A0_0 n0_0 c0_0, optp Z, i6 V, .slice A0_3 n0_3 c0_3, .slice A0_4 n0_4 c0_4, .slice A0_5 n0_5 c0_5, .slice A0_6 n0_6 c0_6, .map (some b0_7)] 99 :: optb (Ow.fl Q5.fl) 107 Z b6 :: row Fl.bs 9 A0_3 n0_3 c0_3 p :: row Q3.fl 32 A0_4 n0_4 c0_4 q :: grow Q4.ow 35 A0_5 n0_5 c0_5 u :: row Q9.fl 144 A0_6 n0_6 c0_6 x :: mapo Fl.bs.ov Fl.bool.ov b0_7 I :: Fr) (fun v l' => ∃ (b7 : Option Nat) (b8 : Option Addr) (a2 : Nat) (b9 : Nat), v = .tuple #[] ∧ optb (Ow.fl Q5.fl) 107 b7 r.1 :: pc b0 [.slice b8 a2 b9, optp b7, i6 r.2.2, .slice A0_3 n0_3 c0_3, .slice A0_4 n0_4 c0_4, .slice A0_5 n0_5 c0_5, .slice A0_6 n0_6 c0_6, .map (some b0_7)] 99 :: row Fl.bs 9 A0_3 n0_3 c0_3 p :: row Q3.fl 32 A0_4 n0_4 c0_4 q :: grow Q4.ow 35 A0_5 n0_5 c0_5 u :: row Q9.fl 144 A0_6 n0_6 c0_6 x :: mapo Fl.bs.ov Fl.bool.ov b0_7 I :: Fr = l' ∧ RdS Q1.fl.rep R.heap b8 r.2.1 ∧ r.2.1.length = a2 ∧ a2 ≤ b9) := by
 subst hn0_0; subst hn0_3; subst hn0_4; subst hn0_5; subst hn0_6; refine Spec.of Tryz.func42 rfl rfl ?_; unfold Q126.f at j; have j := brun j; refine sR 1 rfl ?_; obtain ⟨g6, d5, j⟩ := bbind j; refine At.call rfl Q50.callee rfl rfl rfl (Q50.spec Z hr0_0 rfl hc0_0 rfl rfl rfl rfl d5) ?_; rintro _ _ ⟨g7, g8, g9, rfl, rfl, d6, rfl, d7⟩; refine nT (At.seq (sR 1 rfl ?_)); obtain ⟨G, d8, j⟩ := bbind j; refine At.call rfl Q46.callee rfl rfl rfl (Q46.spec Z d6 rfl d7 rfl rfl rfl rfl d8) ?_; rintro _ _ ⟨a0, c4, h0, c5, rfl, rfl, c6, rfl, c7⟩; refine At.alloc rfl rfl rfl (fun c8 => ?_); refine At.store rfl rfl rfl rfl .z rfl rfl rfl (.c (.c (.c (.c .n)))) ?_; refine nT (sR 3 rfl (At.y (Y.load rfl rfl (.s (.s .z)) rfl rfl rfl) rfl rfl rfl ?_)); refine At.y (Y.eqOpt (.s .z) rfl rfl rfl rfl) rfl rfl rfl ?_; refine At.run 1 rfl ?_; obtain ⟨d9, e0, h1, j⟩ := bjoin j; let L : HProp := pc c8 [i6 G.2.2.1, i6 G.2.2.2.1, .string ⟨(G.2.2.2.2.1).toArray⟩, i6 G.2.2.2.2.2] 101; let e1 : HProp := pc b0 [.slice c4 G.2.1.length c5, optp a0, i6 V, .slice A0_3 p.length c0_3, .slice A0_4 q.length c0_4, .slice A0_5 u.length c0_5, .slice A0_6 x.length c0_6, .map (some b0_7)] 99; refine At.joinO 4 (X := Bool) (fun M => [(0, bp b0), (2, bp c8), (17, .bool M)]) (fun M => L :: optb (Ow.fl Q5.fl) 107 a0 G.1 :: e1 :: row Fl.bs 9 A0_3 p.length c0_3 p :: row Q3.fl 32 A0_4 q.length c0_4 q :: grow Q4.ow 35 A0_5 u.length c0_5 u :: row Q9.fl 144 A0_6 x.length c0_6 x :: mapo Fl.bs.ov Fl.bool.ov b0_7 I :: Fr) (fun M => d9 (.inl M) = some r) ?_ (fun c9 => ?_)
 ·rintro M j; have j := (e0 _).symm.trans j
  ·refine nT ?_; obtain ⟨e2, e3, h2, j⟩ := bjoin j; refine At.join (X := (Option Q5) × (Option Nat)) (fun s_ => [(0, bp b0)]) (fun s_ => optb (Ow.fl Q5.fl) 107 s_.2 s_.1 :: pc b0 [.slice c4 G.2.1.length c5, optp s_.2, i6 V, .slice A0_3 p.length c0_3, .slice A0_4 q.length c0_4, .slice A0_5 u.length c0_5, .slice A0_6 x.length c0_6, .map (some b0_7)] 99 :: row Fl.bs 9 A0_3 p.length c0_3 p :: row Q3.fl 32 A0_4 q.length c0_4 q :: grow Q4.ow 35 A0_5 u.length c0_5 u :: row Q9.fl 144 A0_6 x.length c0_6 x :: mapo Fl.bs.ov Fl.bool.ov b0_7 I :: L :: Fr) (fun s_ => e2 (.inl s_.1) = some r) ?_ (fun d0 => ?_)
   ·rintro ⟨h3, e4⟩ j; have j := (e3 _).symm.trans j
    ·refine sR 1 rfl (At.f6 (At.f6 (At.f6 (At.f6 (At.f6 ?_))))); refine At.f5 (At.f6 ?_); obtain ⟨D, e5, j⟩ := bbind j; refine At.call rfl Q46.callee rfl rfl rfl (Q46.spec e4 c6 rfl c7 rfl rfl rfl rfl e5) ?_; rintro _ _ ⟨O, a3, h4, a4, rfl, rfl, a5, rfl, a6⟩; refine At.alloc rfl rfl rfl (fun a7 => ?_); refine At.store rfl rfl rfl rfl .z rfl rfl rfl (.c (.c (.c (.c .n)))) ?_; refine nT (sR 2 rfl (At.y (Y.load rfl rfl .z rfl rfl rfl) rfl rfl rfl (At.run 3 rfl ?_))); refine At.store rfl rfl rfl rfl (.s (.s .z)) rfl rfl rfl (.s (.s (.c .n))) ?_; refine nT (At.seq (sR 3 rfl (At.y (Y.load rfl rfl .z rfl rfl rfl) rfl rfl rfl ?_))); refine At.y (Y.eqOpt (.s (.s .z)) rfl rfl rfl rfl) rfl rfl rfl ?_; refine At.run 1 rfl ?_; obtain ⟨e6, e7, h5, j⟩ := bjoin j; let d1 : HProp := pc b0 [.slice a3 D.2.1.length a4, optp O, i6 D.2.2.2.2.2, .slice A0_3 p.length c0_3, .slice A0_4 q.length c0_4, .slice A0_5 u.length c0_5, .slice A0_6 x.length c0_6, .map (some b0_7)] 99; let a8 : HProp := pc a7 [i6 D.2.2.1, i6 D.2.2.2.1, .string ⟨(D.2.2.2.2.1).toArray⟩, i6 D.2.2.2.2.2] 101; refine At.joinO 9 (X := Bool) (fun U => [(0, bp b0), (3, bp a7), (43, .bool U)]) (fun U => d1 :: a8 :: optb (Ow.fl Q5.fl) 107 O D.1 :: row Fl.bs 9 A0_3 p.length c0_3 p :: row Q3.fl 32 A0_4 q.length c0_4 q :: grow Q4.ow 35 A0_5 u.length c0_5 u :: row Q9.fl 144 A0_6 x.length c0_6 x :: mapo Fl.bs.ov Fl.bool.ov b0_7 I :: L :: Fr) (fun U => e6 (.inl U) = some r) ?_ (fun d2 => ?_)
     ·rintro U j; have j := (e7 _).symm.trans j
      ·refine nT ?_; obtain ⟨e8, e9, h6, j⟩ := bjoin j; refine At.join (X := (Option Q5) × (Option Nat)) (fun s_ => [(0, bp b0)]) (fun s_ => optb (Ow.fl Q5.fl) 107 s_.2 s_.1 :: pc b0 [.slice a3 D.2.1.length a4, optp s_.2, i6 D.2.2.2.2.2, .slice A0_3 p.length c0_3, .slice A0_4 q.length c0_4, .slice A0_5 u.length c0_5, .slice A0_6 x.length c0_6, .map (some b0_7)] 99 :: row Fl.bs 9 A0_3 p.length c0_3 p :: row Q3.fl 32 A0_4 q.length c0_4 q :: grow Q4.ow 35 A0_5 u.length c0_5 u :: row Q9.fl 144 A0_6 x.length c0_6 x :: mapo Fl.bs.ov Fl.bool.ov b0_7 I :: a8 :: L :: Fr) (fun s_ => e8 (.inl s_.1) = some r) ?_ (fun d3 => ?_)
       ·rintro ⟨h7, f0⟩ j; have j := (e9 _).symm.trans j
        ·refine At.region (At.run 1 rfl (At.f6 (At.f6 (At.f6 (At.f6 (At.f6 (At.f5 ?_))))))); refine At.f6 ?_; obtain ⟨h8, f1, j⟩ := bbind j; refine At.call rfl Q111.callee rfl rfl rfl (Q111.spec f0 a5 rfl a6 rfl rfl rfl rfl f1) ?_; rintro _ _ ⟨f3, rfl, rfl⟩; refine At.nil (At.drop (.s (.s (.s (.s (.s (.s (.s .z))))))) (At.drop (.s (.s (.s (.s (.s (.s (.s .z))))))) (At.f6 (At.f6 (At.f6 (At.f6 (At.f6 ?_))))))); refine At.f5 (At.f6 ?_); cases bret j; exact At.res (.inr rfl) rfl rfl ⟨f3, a3, D.2.1.length, a4, rfl, rfl, a5, rfl, a6⟩
       ··rcases bite j with ⟨a9, j⟩ | ⟨a9, j⟩
         ··refine At.condT rfl a9 ?_
           refine At.region (At.run 1 rfl (At.y (Y.load rfl rfl (.s .z) rfl rfl rfl) rfl rfl rfl (At.f7 (At.f7 (At.f7 (At.f7 (At.f7 ?_))))))); refine At.f7 (At.f6 ?_); obtain ⟨f4, f9, j⟩ := bbind j; refine At.call rfl Q16.callee rfl rfl rfl (Q16.spec O a5 rfl a6 rfl rfl rfl rfl f9) ?_; rintro _ _ ⟨g0, rfl, rfl⟩; refine nT ?_; exact fun a w e hs => d3 (f4, g0) j a w (e.sub ⟨rfl, trivial⟩) hs
         ··refine At.condF rfl (bn a9) ?_
           refine At.skip (At.thn (At.f8 (At.f2 (At.f8 (At.f8 (At.f8 (At.f8 ?_))))))); refine At.f8 (At.f7 (At.f8 ?_)); exact fun a w e hs => d3 (D.1, O) j a w (e.sub ⟨rfl, trivial⟩) hs
     ··rcases bite j with ⟨b2, j⟩ | ⟨b2, j⟩
       ··refine At.know (t := 34) rfl b2 ?_
         refine At.run 1 rfl (At.y (Y.load rfl rfl (.s .z) rfl rfl rfl) rfl rfl rfl (At.run 2 rfl ?_)); obtain ⟨g1, g2, h9, j⟩ := bjoin j; refine At.joinO 4 (X := Bool) (fun J => [(0, bp b0), (3, bp a7), (34, .bool true), (42, .bool J)]) (fun J => d1 :: a8 :: optb (Ow.fl Q5.fl) 107 O D.1 :: row Fl.bs 9 A0_3 p.length c0_3 p :: row Q3.fl 32 A0_4 q.length c0_4 q :: grow Q4.ow 35 A0_5 u.length c0_5 u :: row Q9.fl 144 A0_6 x.length c0_6 x :: mapo Fl.bs.ov Fl.bool.ov b0_7 I :: L :: Fr) (fun J => g1 (.inl J) = some r) ?_ (fun d4 => ?_)
         ·rintro J j; have j := (g2 _).symm.trans j
          ·refine At.run 1 rfl ?_; exact At.of (d2 J j) ⟨rfl, rfl, rfl, trivial⟩
         ··rcases bite j with ⟨b3, j⟩ | ⟨b3, j⟩
           ··refine At.know (t := 38) rfl (decide_eq_true b3) ?_
             refine At.run 4 rfl ?_; exact At.of (d4 true j) ⟨rfl, rfl, rfl, rfl, trivial⟩
           ··refine At.know (t := 38) rfl (decide_eq_false b3) ?_
             refine At.run 1 rfl (At.y (Y.load rfl rfl (.s .z) rfl rfl rfl) rfl rfl rfl (At.run 2 rfl ?_)); exact At.of (d4 (decide (24 < D.2.2.2.2.2)) j) ⟨rfl, rfl, rfl, rfl, trivial⟩
       ··refine At.know (t := 34) rfl (bn b2) ?_
         refine At.run 9 rfl ?_; exact At.of (d2 false j) ⟨rfl, rfl, rfl, trivial⟩
   ··rcases bite j with ⟨b4, j⟩ | ⟨b4, j⟩
     ··refine At.condT rfl b4 ?_
       refine At.region (At.run 1 rfl (At.y (Y.load rfl rfl .z rfl rfl rfl) rfl rfl rfl (At.f7 (At.f7 (At.f7 (At.f7 (At.f7 ?_))))))); refine At.f6 (At.f7 ?_); obtain ⟨g3, g4, j⟩ := bbind j; refine At.call rfl Q16.callee rfl rfl rfl (Q16.spec a0 c6 rfl c7 rfl rfl rfl rfl g4) ?_; rintro _ _ ⟨g5, rfl, rfl⟩; refine nT ?_; exact fun a w e hs => d0 (g3, g5) j a w (e.sub ⟨rfl, trivial⟩) hs
     ··refine At.condF rfl (bn b4) ?_
       refine At.skip (At.thn (At.f7 (At.f7 (At.f7 (At.f7 (At.f7 (At.f7 ?_))))))); refine At.f7 ?_; exact fun a w e hs => d0 (G.1, a0) j a w (e.sub ⟨rfl, trivial⟩) hs
 ··rcases bite j with ⟨b5, j⟩ | ⟨b5, j⟩
   ··refine At.know (t := 13) rfl b5 ?_
     refine At.run 1 rfl (At.y (Y.load rfl rfl .z rfl rfl rfl) rfl rfl rfl (At.run 2 rfl ?_)); exact At.of (c9 (!(bseq G.2.2.2.2.1 ([115, 116, 97, 116, 101, 115] : Bs))) j) ⟨rfl, rfl, rfl, trivial⟩
   ··refine At.know (t := 13) rfl (bn b5) ?_
     refine At.run 4 rfl ?_; exact At.of (c9 false j) ⟨rfl, rfl, rfl, trivial⟩

noncomputable def Q90.f (J : List Q1) (L : Option Q5) (q : Int) (u : List Bs) (x : List Q3) (D : List Q4) (G : List Q9) (I : List (Bs × Bool)) : Option ((Option Q5) × (List Q1) × Int × Int × Int × Bs × Int) :=
 (Q46.f J L q u x D G I 4).bind fun p =>
 jn (
 if p.1.isNone = true then
 some (.inl (decide (q ≤ p.2.2.2.2.2)))
 else
 some (.inl false)) (fun (M : Bool) =>
 jn (
 if M = true then
 (Q16.f p.2.1 p.1 q u x D G I p.2.2.1 p.2.2.2.1 p.2.2.2.2.1 p.2.2.2.2.2 8).bind fun O =>
 some (.inl O)
 else
 some (.inl p.1)) (fun (U : Option Q5) =>
 some (U, p.2.1, p.2.2.2.2.2, p.2.2.1, p.2.2.2.1, p.2.2.2.2.1, p.2.2.2.2.2)))
theorem Q90.callee : Callee Tryz.prog 86 := ⟨_, Tryz.func86, by kernel_rfl, by kernel_rfl⟩
theorem Q90.spec {U : List Q1} {a6 : Option Q5} {G : Int} {p : List Bs} {q : List Q3} {u : List Q4} {x : List Q9} {I : List (Bs × Bool)} (V : Option Nat) (hr0_0 : RdS Q1.fl.rep R.heap A0_0 U) (hn0_0 : U.length = n0_0) (hc0_0 : n0_0 ≤ c0_0) (hn0_3 : p.length = n0_3) (hn0_4 : q.length = n0_4) (hn0_5 : u.length = n0_5) (hn0_6 : x.length = n0_6) {r : (Option Q5) × (List Q1) × Int × Int × Int × Bs × Int} (j : Q90.f U a6 G p q u x I = some r) :
 Spec Tryz.prog 86 [bp b0] R (pc b0 [.slice A0_0 n0_0 c0_0, optp V, i6 G, .slice A0_3 n0_3 c0_3, .slice A0_4 n0_4 c0_4, .slice A0_5 n0_5 c0_5, .slice A0_6 n0_6 c0_6, .map (some b0_7)] 99 :: optb (Ow.fl Q5.fl) 107 V a6 :: row Fl.bs 9 A0_3 n0_3 c0_3 p :: row Q3.fl 32 A0_4 n0_4 c0_4 q :: grow Q4.ow 35 A0_5 n0_5 c0_5 u :: row Q9.fl 144 A0_6 n0_6 c0_6 x :: mapo Fl.bs.ov Fl.bool.ov b0_7 I :: Fr) (fun v l' => ∃ (a7 : Option Nat) (a8 : Option Addr) (Z : Nat) (a9 : Nat), v = .tuple #[.agg #[i6 r.2.2.2.1, i6 r.2.2.2.2.1, .string ⟨(r.2.2.2.2.2.1).toArray⟩, i6 r.2.2.2.2.2.2], i6 r.2.2.1] ∧ optb (Ow.fl Q5.fl) 107 a7 r.1 :: pc b0 [.slice a8 Z a9, optp a7, i6 G, .slice A0_3 n0_3 c0_3, .slice A0_4 n0_4 c0_4, .slice A0_5 n0_5 c0_5, .slice A0_6 n0_6 c0_6, .map (some b0_7)] 99 :: row Fl.bs 9 A0_3 n0_3 c0_3 p :: row Q3.fl 32 A0_4 n0_4 c0_4 q :: grow Q4.ow 35 A0_5 n0_5 c0_5 u :: row Q9.fl 144 A0_6 n0_6 c0_6 x :: mapo Fl.bs.ov Fl.bool.ov b0_7 I :: Fr = l' ∧ RdS Q1.fl.rep R.heap a8 r.2.1 ∧ r.2.1.length = Z ∧ Z ≤ a9) := by
 subst hn0_0; subst hn0_3; subst hn0_4; subst hn0_5; subst hn0_6; refine Spec.of Tryz.func86 rfl rfl ?_; unfold Q90.f at j; have j := brun j; refine At.seq (At.region ?_); refine At.alloc rfl rfl rfl (fun a0 => ?_); refine At.run 1 rfl (nT (sR 1 rfl (At.f7 (At.f7 ?_)))); refine At.f7 (At.f7 (At.f7 (At.f7 (At.f7 ?_)))); obtain ⟨D, b7, j⟩ := bbind j; refine At.call rfl Q46.callee rfl rfl rfl (Q46.spec V hr0_0 rfl hc0_0 rfl rfl rfl rfl b7) ?_; rintro _ _ ⟨L, M, d1, O, rfl, rfl, b2, rfl, b3⟩; refine At.alloc rfl rfl rfl (fun a1 => ?_); refine At.store rfl rfl rfl rfl .z rfl rfl rfl (.c (.c (.c (.c .n)))) ?_; refine nT (At.seq (At.seq ?_)); refine At.quiet (by kernel_rfl) ?_; refine At.Quiet.run 3 rfl ?_; refine At.Quiet.y (Y.load rfl rfl (.s (.s .z)) rfl rfl rfl) rfl rfl rfl ?_; refine At.Quiet.y (Y.eqOpt (.s .z) rfl rfl rfl rfl) rfl rfl rfl ?_; refine At.Quiet.run 1 rfl ?_; obtain ⟨b8, b9, d2, j⟩ := bjoin j; let a2 : HProp := pc a1 [i6 D.2.2.1, i6 D.2.2.2.1, .string ⟨(D.2.2.2.2.1).toArray⟩, i6 D.2.2.2.2.2] 101; let c4 : HProp := pc b0 [.slice M D.2.1.length O, optp L, i6 G, .slice A0_3 p.length c0_3, .slice A0_4 q.length c0_4, .slice A0_5 u.length c0_5, .slice A0_6 x.length c0_6, .map (some b0_7)] 99; let b4 : HProp := pc a0 [i6 0, i6 0, .string ⟨(([] : Bs)).toArray⟩, i6 0] 101; refine At.Quiet.joinO 9 (X := Bool) (fun J => [(0, bp b0), (2, bp a0), (4, bp a1), (21, .bool J)]) (fun J => a2 :: optb (Ow.fl Q5.fl) 107 L D.1 :: c4 :: row Fl.bs 9 A0_3 p.length c0_3 p :: row Q3.fl 32 A0_4 q.length c0_4 q :: grow Q4.ow 35 A0_5 u.length c0_5 u :: row Q9.fl 144 A0_6 x.length c0_6 x :: mapo Fl.bs.ov Fl.bool.ov b0_7 I :: b4 :: Fr) (fun J => b8 (.inl J) = some r) ?_ (fun b5 => ?_)
 ·rintro J j; have j := (b9 _).symm.trans j
  ·refine At.Quiet.nil (At.thn ?_); obtain ⟨c5, c6, d3, j⟩ := bjoin j; refine At.join (X := (Option Q5) × (Option Nat)) (fun s_ => [(2, bp a0), (4, bp a1)]) (fun s_ => optb (Ow.fl Q5.fl) 107 s_.2 s_.1 :: pc b0 [.slice M D.2.1.length O, optp s_.2, i6 G, .slice A0_3 p.length c0_3, .slice A0_4 q.length c0_4, .slice A0_5 u.length c0_5, .slice A0_6 x.length c0_6, .map (some b0_7)] 99 :: row Fl.bs 9 A0_3 p.length c0_3 p :: row Q3.fl 32 A0_4 q.length c0_4 q :: grow Q4.ow 35 A0_5 u.length c0_5 u :: row Q9.fl 144 A0_6 x.length c0_6 x :: mapo Fl.bs.ov Fl.bool.ov b0_7 I :: a2 :: b4 :: Fr) (fun s_ => c5 (.inl s_.1) = some r) ?_ (fun b6 => ?_)
   ·rintro ⟨c7, a3⟩ j; have j := (c6 _).symm.trans j
    ·refine At.seq ?_; refine At.held [optb (Ow.fl Q5.fl) 107 a3 c7, pc b0 [.slice M D.2.1.length O, optp a3, i6 G, .slice A0_3 p.length c0_3, .slice A0_4 q.length c0_4, .slice A0_5 u.length c0_5, .slice A0_6 x.length c0_6, .map (some b0_7)] 99, row Fl.bs 9 A0_3 p.length c0_3 p, row Q3.fl 32 A0_4 q.length c0_4 q, grow Q4.ow 35 A0_5 u.length c0_5 u, row Q9.fl 144 A0_6 x.length c0_6 x, mapo Fl.bs.ov Fl.bool.ov b0_7 I, a2] 5 rfl ?_; refine At.H.tw 0 rfl (Y.load rfl rfl (.s (.s (.s (.s (.s (.s (.s .z))))))) rfl rfl rfl) rfl rfl rfl (.c .z (.c .z (.c .z (.c .z (.c .z (.c .z (.c .z (.c .z .n)))))))) ?_; refine At.H.pw 1 rfl rfl rfl rfl rfl (.c .z (.c .z (.c .z (.c .z (.c .z (.c .z (.c .z (.c .z .n)))))))) ?_; refine At.H.tw 2 rfl (Y.load rfl rfl (.s (.s (.s (.s (.s (.s (.s .z))))))) rfl rfl rfl) rfl rfl rfl (.c .z (.c .z (.c .z (.c .z (.c .z (.c .z (.c .z (.c .z .n)))))))) ?_; refine At.H.al [3] (Q6 ?_ Q7)
     ··refine At.HO.op rfl ?_
       refine At.store rfl rfl rfl rfl (.s (.s (.s (.s (.s (.s (.s (.s .z)))))))) rfl rfl rfl (.c (.c (.c (.c .n)))) ?_; refine At.HO.back (.c (.s .z) (.c (.s .z) (.c (.s .z) (.c (.s .z) (.c (.s .z) (.c (.s .z) (.c (.s .z) (.c (.s .z) .n)))))))) ?_; refine At.H.pw 4 rfl rfl rfl rfl rfl (.c (.s .z) (.c (.s .z) (.c (.s .z) (.c (.s .z) (.c (.s .z) (.c (.s .z) (.c (.s .z) (.c (.s .z) .n)))))))) ?_; refine At.H.done (by kernel_rfl) ?_; refine At.thn (At.ret ?_); refine At.resM (.inl rfl) rfl (RV.cell rfl rfl .z rfl rfl rfl (RV.tmp rfl RV.nil)) ?_; refine At.drop .z (At.drop (.s (.s (.s (.s (.s (.s (.s .z))))))) ?_); cases bret j; exact fun a w e hs => ⟨_, ⟨a3, M, D.2.1.length, O, rfl, rfl, b2, rfl, b3⟩, hs⟩
   ··rcases bite j with ⟨a4, j⟩ | ⟨a4, j⟩
     ··refine At.condT rfl a4 ?_
       refine At.region (At.run 1 rfl (At.y (Y.load rfl rfl .z rfl rfl rfl) rfl rfl rfl (At.f7 (At.f7 (At.f7 (At.f7 (At.f7 ?_))))))); refine At.f6 (At.f7 ?_); obtain ⟨c8, c9, j⟩ := bbind j; refine At.call rfl Q16.callee rfl rfl rfl (Q16.spec L b2 rfl b3 rfl rfl rfl rfl c9) ?_; rintro _ _ ⟨d0, rfl, rfl⟩; refine nT ?_; exact fun a w e hs => b6 (c8, d0) j a w (e.sub ⟨rfl, rfl, trivial⟩) hs
     ··refine At.condF rfl (bn a4) ?_
       refine At.skip (At.thn (At.f8 (At.f1 (At.f8 (At.f8 (At.f8 (At.f8 ?_))))))); refine At.f8 (At.f8 (At.f8 ?_)); exact fun a w e hs => b6 (D.1, L) j a w (e.sub ⟨rfl, rfl, trivial⟩) hs
 ··rcases bite j with ⟨a5, j⟩ | ⟨a5, j⟩
   ··refine At.Quiet.know (t := 12) rfl a5 ?_
     refine At.Quiet.run 1 rfl ?_; refine At.Quiet.y (Y.load rfl rfl .z rfl rfl rfl) rfl rfl rfl ?_; refine At.Quiet.run 4 rfl ?_; refine At.Quiet.y (Y.load rfl rfl (.s (.s .z)) rfl rfl rfl) rfl rfl rfl ?_; refine At.Quiet.run 2 rfl ?_; exact At.Quiet.of (b5 (decide (G ≤ D.2.2.2.2.2)) j) ⟨rfl, rfl, rfl, rfl, trivial⟩
   ··refine At.Quiet.know (t := 12) rfl (bn a5) ?_
     refine At.Quiet.run 9 rfl ?_; exact At.Quiet.of (b5 false j) ⟨rfl, rfl, rfl, rfl, trivial⟩

noncomputable def Q106.f (J : List Q1) (L : Option Q5) (q : Int) (u : List Bs) (x : List Q3) (D : List Q4) (G : List Q9) (I : List (Bs × Bool)) : Option ((Option Q5) × (List Q1) × Int × Int × Bs × Int) :=
 (Q46.f J L q u x D G I 2).bind fun p =>
 jn (
 if p.1.isNone = true then
 (Q82.f p.2.2.2.2.1).bind fun M =>
 some (.inl (!M))
 else
 some (.inl false)) (fun (O : Bool) =>
 jn (
 if O = true then
 (Q16.f p.2.1 p.1 q u x D G I p.2.2.1 p.2.2.2.1 p.2.2.2.2.1 p.2.2.2.2.2 7).bind fun U =>
 some (.inl U)
 else
 some (.inl p.1)) (fun (V : Option Q5) =>
 some (V, p.2.1, p.2.2.1, p.2.2.2.1, p.2.2.2.2.1, p.2.2.2.2.2)))
theorem Q106.callee : Callee Tryz.prog 87 := ⟨_, Tryz.func87, by kernel_rfl, by kernel_rfl⟩
theorem Q106.spec {M : List Q1} {a4 : Option Q5} {G : Int} {p : List Bs} {q : List Q3} {u : List Q4} {x : List Q9} {I : List (Bs × Bool)} (O : Option Nat) (hr0_0 : RdS Q1.fl.rep R.heap A0_0 M) (hn0_0 : M.length = n0_0) (hc0_0 : n0_0 ≤ c0_0) (hn0_3 : p.length = n0_3) (hn0_4 : q.length = n0_4) (hn0_5 : u.length = n0_5) (hn0_6 : x.length = n0_6) {r : (Option Q5) × (List Q1) × Int × Int × Bs × Int} (j : Q106.f M a4 G p q u x I = some r) :
 Spec Tryz.prog 87 [bp b0] R (pc b0 [.slice A0_0 n0_0 c0_0, optp O, i6 G, .slice A0_3 n0_3 c0_3, .slice A0_4 n0_4 c0_4, .slice A0_5 n0_5 c0_5, .slice A0_6 n0_6 c0_6, .map (some b0_7)] 99 :: optb (Ow.fl Q5.fl) 107 O a4 :: row Fl.bs 9 A0_3 n0_3 c0_3 p :: row Q3.fl 32 A0_4 n0_4 c0_4 q :: grow Q4.ow 35 A0_5 n0_5 c0_5 u :: row Q9.fl 144 A0_6 n0_6 c0_6 x :: mapo Fl.bs.ov Fl.bool.ov b0_7 I :: Fr) (fun v l' => ∃ (a5 : Option Nat) (a6 : Option Addr) (U : Nat) (a7 : Nat), v = .agg #[i6 r.2.2.1, i6 r.2.2.2.1, .string ⟨(r.2.2.2.2.1).toArray⟩, i6 r.2.2.2.2.2] ∧ optb (Ow.fl Q5.fl) 107 a5 r.1 :: pc b0 [.slice a6 U a7, optp a5, i6 G, .slice A0_3 n0_3 c0_3, .slice A0_4 n0_4 c0_4, .slice A0_5 n0_5 c0_5, .slice A0_6 n0_6 c0_6, .map (some b0_7)] 99 :: row Fl.bs 9 A0_3 n0_3 c0_3 p :: row Q3.fl 32 A0_4 n0_4 c0_4 q :: grow Q4.ow 35 A0_5 n0_5 c0_5 u :: row Q9.fl 144 A0_6 n0_6 c0_6 x :: mapo Fl.bs.ov Fl.bool.ov b0_7 I :: Fr = l' ∧ RdS Q1.fl.rep R.heap a6 r.2.1 ∧ r.2.1.length = U ∧ U ≤ a7) := by
 subst hn0_0; subst hn0_3; subst hn0_4; subst hn0_5; subst hn0_6; refine Spec.of Tryz.func87 rfl rfl ?_; unfold Q106.f at j; have j := brun j; refine At.seq (At.region ?_); refine At.alloc rfl rfl rfl (fun V => ?_); refine nT (sR 1 rfl (At.f7 (At.f7 (At.f7 ?_)))); refine At.f7 (At.f7 (At.f7 (At.f7 ?_))); obtain ⟨D, b6, j⟩ := bbind j; refine At.call rfl Q46.callee rfl rfl rfl (Q46.spec O hr0_0 rfl hc0_0 rfl rfl rfl rfl b6) ?_; rintro _ _ ⟨L, Z, d2, a0, rfl, rfl, a8, rfl, a9⟩; refine At.alloc rfl rfl rfl (fun a1 => ?_); refine At.store rfl rfl rfl rfl .z rfl rfl rfl (.c (.c (.c (.c .n)))) ?_; refine nT (At.seq (sR 3 rfl (At.y (Y.load rfl rfl (.s (.s .z)) rfl rfl rfl) rfl rfl rfl ?_))); refine At.y (Y.eqOpt (.s .z) rfl rfl rfl rfl) rfl rfl rfl ?_; refine At.run 1 rfl ?_; obtain ⟨b7, b8, d3, j⟩ := bjoin j; let b2 : HProp := pc a1 [i6 D.2.2.1, i6 D.2.2.2.1, .string ⟨(D.2.2.2.2.1).toArray⟩, i6 D.2.2.2.2.2] 101; let b9 : HProp := pc b0 [.slice Z D.2.1.length a0, optp L, i6 G, .slice A0_3 p.length c0_3, .slice A0_4 q.length c0_4, .slice A0_5 u.length c0_5, .slice A0_6 x.length c0_6, .map (some b0_7)] 99; let b3 : HProp := pc V [i6 0, i6 0, .string ⟨(([] : Bs)).toArray⟩, i6 0] 101; refine At.joinO 5 (X := Bool) (fun J => [(0, bp b0), (2, bp V), (3, bp a1), (16, .bool J)]) (fun J => b2 :: optb (Ow.fl Q5.fl) 107 L D.1 :: b9 :: row Fl.bs 9 A0_3 p.length c0_3 p :: row Q3.fl 32 A0_4 q.length c0_4 q :: grow Q4.ow 35 A0_5 u.length c0_5 u :: row Q9.fl 144 A0_6 x.length c0_6 x :: mapo Fl.bs.ov Fl.bool.ov b0_7 I :: b3 :: Fr) (fun J => b7 (.inl J) = some r) ?_ (fun b4 => ?_)
 ·rintro J j; have j := (b8 _).symm.trans j
  ·refine nT ?_; obtain ⟨c4, c5, d4, j⟩ := bjoin j; refine At.join (X := (Option Q5) × (Option Nat)) (fun s_ => [(2, bp V), (3, bp a1)]) (fun s_ => optb (Ow.fl Q5.fl) 107 s_.2 s_.1 :: pc b0 [.slice Z D.2.1.length a0, optp s_.2, i6 G, .slice A0_3 p.length c0_3, .slice A0_4 q.length c0_4, .slice A0_5 u.length c0_5, .slice A0_6 x.length c0_6, .map (some b0_7)] 99 :: row Fl.bs 9 A0_3 p.length c0_3 p :: row Q3.fl 32 A0_4 q.length c0_4 q :: grow Q4.ow 35 A0_5 u.length c0_5 u :: row Q9.fl 144 A0_6 x.length c0_6 x :: mapo Fl.bs.ov Fl.bool.ov b0_7 I :: b2 :: b3 :: Fr) (fun s_ => c4 (.inl s_.1) = some r) ?_ (fun b5 => ?_)
   ·rintro ⟨d5, c6⟩ j; have j := (c5 _).symm.trans j
    ·refine At.seq (At.region ?_); refine At.y (Y.load rfl rfl (.s (.s (.s (.s (.s (.s (.s .z))))))) rfl rfl rfl) rfl rfl rfl ?_; refine At.store rfl rfl rfl rfl (.s (.s (.s (.s (.s (.s (.s (.s .z)))))))) rfl rfl rfl (.c (.c (.c (.c .n)))) ?_; refine nT (At.ret ?_); refine At.resM (.inl rfl) rfl (RV.cell rfl rfl .z rfl rfl rfl RV.nil) ?_; refine At.drop .z (At.drop (.s (.s (.s (.s (.s (.s (.s .z))))))) ?_); cases bret j; exact fun a w e hs => ⟨_, ⟨c6, Z, D.2.1.length, a0, rfl, rfl, a8, rfl, a9⟩, hs⟩
   ··rcases bite j with ⟨a2, j⟩ | ⟨a2, j⟩
     ··refine At.condT rfl a2 ?_
       refine At.region (At.run 1 rfl (At.y (Y.load rfl rfl .z rfl rfl rfl) rfl rfl rfl (At.f7 (At.f7 (At.f7 (At.f7 (At.f7 ?_))))))); refine At.f6 (At.f7 ?_); obtain ⟨c7, c8, j⟩ := bbind j; refine At.call rfl Q16.callee rfl rfl rfl (Q16.spec L a8 rfl a9 rfl rfl rfl rfl c8) ?_; rintro _ _ ⟨c9, rfl, rfl⟩; refine nT ?_; exact fun a w e hs => b5 (c7, c9) j a w (e.sub ⟨rfl, rfl, trivial⟩) hs
     ··refine At.condF rfl (bn a2) ?_
       refine At.skip (At.thn (At.f8 (At.f1 (At.f8 (At.f8 (At.f8 (At.f8 ?_))))))); refine At.f8 (At.f8 (At.f8 ?_)); exact fun a w e hs => b5 (D.1, L) j a w (e.sub ⟨rfl, rfl, trivial⟩) hs
 ··rcases bite j with ⟨a3, j⟩ | ⟨a3, j⟩
   ··refine At.know (t := 11) rfl a3 ?_
     refine At.run 1 rfl (At.y (Y.load rfl rfl .z rfl rfl rfl) rfl rfl rfl ?_); obtain ⟨d0, d1, j⟩ := bbind j; refine At.call rfl Q82.callee rfl rfl rfl (Q82.spec d1) ?_; rintro _ _ ⟨rfl, rfl⟩; refine At.run 2 rfl ?_; exact At.of (b4 (!d0) j) ⟨rfl, rfl, rfl, rfl, trivial⟩
   ··refine At.know (t := 11) rfl (bn a3) ?_
     refine At.run 5 rfl ?_; exact At.of (b4 false j) ⟨rfl, rfl, rfl, rfl, trivial⟩

noncomputable def Q72.l0b (a0 : List Q9) (q : Int) (u : Bs) (x p : Int) : Option ((Int) ⊕ ((Unit) ⊕ (Int))) :=
 if p < (a0.length : Int) then
 if (0 : Int) ≤ p ∧ p < (a0.length : Int) then
 if (decide (q = (gt a0 p).from_) && (bseq u ((gt a0 p).action) && (decide (x = (gt a0 p).to) && true))) = true then
 upL (some p)
 else
 nx (IntKind.i64.wrap (p + 1))
 else none
 else
 dn (.inl ())
noncomputable def Q72.l0 (a0 : List Q9) (p : Int) (q : Bs) (u x : Int) : Option ((Unit) ⊕ (Int)) := iter (fun t_ : Int => Q72.l0b a0 p q u t_) x
noncomputable def Q72.f (a0 : List Q9) (p : Int) (q : Bs) (u : Int) : Option Int :=
 jn (Q72.l0 a0 p q u 0) (fun (_ : Unit) =>
 some (-1))
theorem Q72.callee : Callee Tryz.prog 122 := ⟨_, Tryz.func122, by kernel_rfl, by kernel_rfl⟩
theorem Q72.spec {a0 : List Q9} {u x : Int} {D : Bs} (hr0 : RdS Q9.fl.rep R.heap A0 a0) (hn0 : a0.length = n0) (hc0 : n0 ≤ c0) {r : Int} (j : Q72.f a0 u D x = some r) :
 Spec Tryz.prog 122 [.slice A0 n0 c0, .agg #[i6 u, .string ⟨(D).toArray⟩, i6 x]] R (Fr) (fun v l' => v = i6 r ∧ Fr = l') := by
 subst hn0; refine Spec.of Tryz.func122 rfl rfl ?_; unfold Q72.f at j; have j := brun j; refine At.seq (At.region ?_); refine At.box rfl rfl (cs := [i6 u, .string ⟨(D).toArray⟩, i6 x]) rfl rfl (fun U => ?_); refine At.run 1 rfl (nT (At.seq (sR 3 rfl (At.nil ?_)))); refine At.thn ?_; refine At.block ?_; obtain ⟨a2, a3, a4, j⟩ := bjoin j; obtain ⟨V, J, Z⟩ := bsome j; clear j; unfold Q72.l0 at J; obtain ⟨L, G⟩ := Q17.1 J; clear J; let a1 : HProp := pc U [i6 u, .string ⟨(D).toArray⟩, i6 x] 144; refine At.loopJ (X := Int) (Y := Unit) (e0 := 0) (fun p => [(0, .slice A0 a0.length c0), (3, bp U), (7, i6 (a0.length : Int)), (8, i6 p)]) (fun p => a1 :: Fr) (fun m_ => fun p => iterN (fun t_ : Int => Q72.l0b a0 u D x t_) m_ p = some V) L 0 G (fun _ => []) (fun _ => a1 :: Fr) (fun _ => a2 (.inl ()) = some r) (fun a w e hs => ⟨e.sub ⟨rfl, rfl, rfl, rfl, trivial⟩, (by exact hs)⟩) ?_ (fun a5 => ?_)
 ·rintro _ j; have j := (a3 _).symm.trans j
  ·refine At.ibx ?_; refine At.thn (sR 1 rfl (nT (At.ret (At.drop .z ?_)))); cases bret j; exact At.res (.inl rfl) rfl rfl ⟨rfl, rfl⟩
 ·clear G L; rintro L p G; obtain ⟨a6, f_, a7, hf_, j⟩ := bit G; clear G; have j : (Q72.l0b a0 u D x p).bind _ = some V := j; unfold Q72.l0b at j
  ·refine sR 1 rfl (nT (At.seq ?_)); rcases bite j with ⟨M, j⟩ | ⟨M, j⟩
   ··refine At.condT rfl (decide_eq_true M) ?_
     refine At.skip (At.thn (At.seq ?_)); refine At.block ?_; refine sR 2 rfl (nT (At.seq ?_)); refine At.quiet (by kernel_rfl) ?_; refine At.Quiet.y (Y.load rfl rfl .z rfl rfl rfl) rfl rfl rfl ?_; refine At.Quiet.run 2 rfl ?_; obtain ⟨I, j⟩ := bnone j; refine At.Quiet.y (Y.ixRd hr0 rfl rfl rfl rfl rfl rfl rfl I.1 I.2) rfl rfl rfl ?_; refine At.Quiet.y (Y.ldFl hr0 rfl (q := 0) rfl rfl I.1 I.2 rfl rfl rfl) rfl rfl rfl ?_; refine At.Quiet.y (Y.eqSt (xs := [i6 u, .string ⟨(D).toArray⟩, i6 x]) (ys := [i6 ((gt a0 p).from_), .string ⟨((gt a0 p).action).toArray⟩, i6 ((gt a0 p).to)]) rfl rfl rfl rfl (by kernel_rfl) (by kernel_rfl) (by kernel_rfl) rfl) rfl rfl rfl ?_; refine At.Quiet.nil (At.thn ?_); rcases bite j with ⟨O, j⟩ | ⟨O, j⟩
     ··refine At.condT rfl O ?_
       refine sR 2 rfl (nT (At.ret ?_)); refine At.ibr ?_; refine At.thr ?_; have j := bupL a4 Z j; refine At.thr ?_; refine At.ibr ?_; refine At.thr (At.drop .z ?_); cases bret j; exact At.res (.inl rfl) rfl rfl ⟨rfl, rfl⟩
     ··refine At.condF rfl (bn O) ?_
       refine At.skip ?_; refine At.ibn ?_; refine At.thn (At.region (At.run 2 rfl (At.nil ?_))); have j := bnx hf_ j; exact fun a w e hs => ⟨a6, (IntKind.i64.wrap (p + 1)), a7, j, e.sub ⟨rfl, rfl, rfl, rfl, trivial⟩, hs⟩
   ··refine At.condF rfl (decide_eq_false M) ?_
     refine At.exit ?_; refine At.the ?_; refine At.the ?_; exact fun a w e hs => a5 () (bdn j Z) a w (e.sub trivial) hs

noncomputable def Q148.f (a0 : List Q9) (p : Int) (q : Bs) (u : Int) : Option Bool :=
 (Q72.f a0 p q u).bind fun x =>
 some (decide (0 ≤ x))
theorem Q148.callee : Callee Tryz.prog 88 := ⟨_, Tryz.func88, by kernel_rfl, by kernel_rfl⟩
theorem Q148.spec {a0 : List Q9} {p q : Int} {u : Bs} (hr0 : RdS Q9.fl.rep R.heap A0 a0) (hn0 : a0.length = n0) (hc0 : n0 ≤ c0) {r : Bool} (j : Q148.f a0 p u q = some r) :
 Spec Tryz.prog 88 [.slice A0 n0 c0, .agg #[i6 p, .string ⟨(u).toArray⟩, i6 q]] R (Fr) (fun v l' => v = .bool r ∧ Fr = l') := by
 subst hn0; refine Spec.of Tryz.func88 rfl rfl ?_; unfold Q148.f at j; have j := brun j; refine At.seq (At.region ?_); refine At.box rfl rfl (cs := [i6 p, .string ⟨(u).toArray⟩, i6 q]) rfl rfl (fun D => ?_); refine At.run 1 rfl (nT (sR 1 rfl (At.y (Y.load rfl rfl .z rfl rfl rfl) rfl rfl rfl ?_))); obtain ⟨G, x, j⟩ := bbind j; refine At.call rfl Q72.callee rfl rfl rfl (Q72.spec hr0 rfl hc0 x) ?_; rintro _ _ ⟨rfl, rfl⟩; refine At.run 2 rfl (nT (At.ret (At.drop .z ?_))); cases bret j; exact At.res (.inl rfl) rfl rfl ⟨rfl, rfl⟩

noncomputable def Q129.f (M : List Q1) (O : Option Q5) (D : Int) (G : List Bs) (I : List Q3) (J : List Q4) (u : List Q9) (x : List (Bs × Bool)) (U : Int) (V : Int) (X : Bs) (Z : Int) : Option ((List Q9) × (List (Bs × Bool)) × (Option Q5) × (List Q1)) :=
 jn (
 if 200 ≤ (u.length : Int) then
 (Q16.f M O D G I J u x U V X Z 10).bind fun a0 =>
 some (.inl a0)
 else
 some (.inl O)) (fun (a1 : Option Q5) =>
 (Q90.f M a1 D G I J u x).bind fun L =>
 (Q106.f L.2.1 L.1 D G I J u x).bind fun p =>
 jn (
 if ((mget x p.2.2.2.2.1).getD false) = true then
 some (.inl false)
 else
 some (.inl (decide (8 ≤ (x.length : Int))))) (fun (a2 : Bool) =>
 jn (
 if a2 = true then
 (Q16.f p.2.1 p.1 D G I J u x p.2.2.1 p.2.2.2.1 p.2.2.2.2.1 p.2.2.2.2.2 10).bind fun a3 =>
 some (.inl a3)
 else
 some (.inl p.1)) (fun (a4 : Option Q5) =>
 (Q90.f p.2.1 a4 D G I J u x).bind fun q =>
 jn (
 if q.1.isNone = true then
 (Q148.f u L.2.2.1 p.2.2.2.2.1 q.2.2.1).bind fun a5 =>
 some (.inl a5)
 else
 some (.inl false)) (fun (a6 : Bool) =>
 jn (
 if a6 = true then
 (Q16.f q.2.1 q.1 D G I J u x q.2.2.2.1 q.2.2.2.2.1 q.2.2.2.2.2.1 q.2.2.2.2.2.2 9).bind fun a7 =>
 some (.inl a7)
 else
 some (.inl q.1)) (fun (a8 : Option Q5) =>
 (Q111.f q.2.1 a8 D G I J u x).bind fun a9 =>
 if (u.length + ([(⟨L.2.2.1, p.2.2.2.2.1, q.2.2.1⟩ : Q9)] : List Q9).length) * 32 ≤ 140737488355328 then
 some ((u ++ ([(⟨L.2.2.1, p.2.2.2.2.1, q.2.2.1⟩ : Q9)] : List Q9)), (mset x p.2.2.2.2.1 true), a9, q.2.1)
 else none)))))
theorem Q129.callee : Callee Tryz.prog 45 := ⟨_, Tryz.func45, by kernel_rfl, by kernel_rfl⟩
theorem Q129.spec {a1 : List Q1} {b6 : Option Q5} {L a2 a3 a4 : Int} {p : List Bs} {q : List Q3} {u : List Q4} {D : List Q9} {J : List (Bs × Bool)} {a5 : Bs} (a6 : Option Nat) (hr0_0 : RdS Q1.fl.rep R.heap A0_0 a1) (hn0_0 : a1.length = n0_0) (hc0_0 : n0_0 ≤ c0_0) (hn0_3 : p.length = n0_3) (hn0_4 : q.length = n0_4) (hn0_5 : u.length = n0_5) (hn0_6 : D.length = n0_6) {r : (List Q9) × (List (Bs × Bool)) × (Option Q5) × (List Q1)} (j : Q129.f a1 b6 L p q u D J a2 a3 a5 a4 = some r) :
 Spec Tryz.prog 45 [bp b0, .agg #[i6 a2, i6 a3, .string ⟨(a5).toArray⟩, i6 a4]] R (pc b0 [.slice A0_0 n0_0 c0_0, optp a6, i6 L, .slice A0_3 n0_3 c0_3, .slice A0_4 n0_4 c0_4, .slice A0_5 n0_5 c0_5, .slice A0_6 n0_6 c0_6, .map (some b0_7)] 99 :: optb (Ow.fl Q5.fl) 107 a6 b6 :: row Fl.bs 9 A0_3 n0_3 c0_3 p :: row Q3.fl 32 A0_4 n0_4 c0_4 q :: grow Q4.ow 35 A0_5 n0_5 c0_5 u :: row Q9.fl 144 A0_6 n0_6 c0_6 D :: mapo Fl.bs.ov Fl.bool.ov b0_7 J :: Fr) (fun v l' => ∃ (b7 : Nat) (d1 : Option Addr) (d2 : Nat) (d3 : Option Nat) (d4 : Option Addr) (b8 : Nat) (d5 : Nat), v = .tuple #[] ∧ optb (Ow.fl Q5.fl) 107 d3 r.2.2.1 :: pc b0 [.slice d4 b8 d5, optp d3, i6 L, .slice A0_3 n0_3 c0_3, .slice A0_4 n0_4 c0_4, .slice A0_5 n0_5 c0_5, .slice d1 b7 d2, .map (some b0_7)] 99 :: row Fl.bs 9 A0_3 n0_3 c0_3 p :: row Q3.fl 32 A0_4 n0_4 c0_4 q :: grow Q4.ow 35 A0_5 n0_5 c0_5 u :: row Q9.fl 144 d1 b7 d2 r.1 :: mapo Fl.bs.ov Fl.bool.ov b0_7 r.2.1 :: Fr = l' ∧ r.1.length = b7 ∧ RdS Q1.fl.rep R.heap d4 r.2.2.2 ∧ r.2.2.2.length = b8 ∧ b8 ≤ d5) := by
 subst hn0_0; subst hn0_3; subst hn0_4; subst hn0_5; subst hn0_6; refine Spec.of Tryz.func45 rfl rfl ?_; unfold Q129.f at j; have j := brun j; refine At.seq (At.region ?_); refine At.box rfl rfl (cs := [i6 a2, i6 a3, .string ⟨(a5).toArray⟩, i6 a4]) rfl rfl (fun e9 => ?_); refine nT (At.seq (sR 3 rfl (At.y (Y.load rfl rfl (.s .z) rfl rfl rfl) rfl rfl rfl (At.run 2 rfl ?_)))); refine nT ?_; obtain ⟨f0, f3, m6, j⟩ := bjoin j; let M : HProp := pc e9 [i6 a2, i6 a3, .string ⟨(a5).toArray⟩, i6 a4] 101; refine At.join (X := (Option Q5) × (Option Nat)) (fun s_ => [(0, bp b0)]) (fun s_ => optb (Ow.fl Q5.fl) 107 s_.2 s_.1 :: pc b0 [.slice A0_0 a1.length c0_0, optp s_.2, i6 L, .slice A0_3 p.length c0_3, .slice A0_4 q.length c0_4, .slice A0_5 u.length c0_5, .slice A0_6 D.length c0_6, .map (some b0_7)] 99 :: row Fl.bs 9 A0_3 p.length c0_3 p :: row Q3.fl 32 A0_4 q.length c0_4 q :: grow Q4.ow 35 A0_5 u.length c0_5 u :: row Q9.fl 144 A0_6 D.length c0_6 D :: mapo Fl.bs.ov Fl.bool.ov b0_7 J :: M :: Fr) (fun s_ => f0 (.inl s_.1) = some r) ?_ (fun d6 => ?_)
 ·rintro ⟨m7, f4⟩ j; have j := (f3 _).symm.trans j
  ·refine sR 1 rfl (At.f6 (At.f6 (At.f6 (At.f6 (At.f6 ?_))))); refine At.f5 (At.f6 ?_); obtain ⟨I, g0, j⟩ := bbind j; refine At.call rfl Q90.callee rfl rfl rfl (Q90.spec f4 hr0_0 rfl hc0_0 rfl rfl rfl rfl g0) ?_; rintro _ _ ⟨g1, m8, m9, n2, rfl, rfl, g2, rfl, g3⟩; refine At.run 3 rfl ?_; refine At.alloc rfl rfl rfl (fun g4 => ?_); refine At.store rfl rfl rfl rfl .z rfl rfl rfl (.c (.c (.c (.c .n)))) ?_; refine At.run 1 rfl (nT (sR 1 rfl (At.f7 (At.f7 ?_)))); refine At.f7 (At.f7 (At.f7 (At.f6 (At.f7 ?_)))); obtain ⟨x, g5, j⟩ := bbind j; refine At.call rfl Q106.callee rfl rfl rfl (Q106.spec g1 g2 rfl g3 rfl rfl rfl rfl g5) ?_; rintro _ _ ⟨a7, d7, n3, d8, rfl, rfl, d9, rfl, e0⟩; refine At.alloc rfl rfl rfl (fun V => ?_); refine At.store rfl rfl rfl rfl .z rfl rfl rfl (.c (.c (.c (.c .n)))) ?_; refine nT (At.seq (At.seq ?_)); refine At.quiet (by kernel_rfl) ?_; refine At.Quiet.run 3 rfl ?_; refine At.Quiet.y (Y.load rfl rfl (.s (.s .z)) rfl rfl rfl) rfl rfl rfl ?_; refine At.Quiet.run 1 rfl ?_; refine At.Quiet.y (Y.load rfl rfl .z rfl rfl rfl) rfl rfl rfl ?_; refine At.Quiet.y (Y.lookup (k := x.2.2.2.2.1) (z := false) (.s (.s (.s (.s (.s (.s (.s .z))))))) rfl rfl (KeyOk.str rfl rfl) (by kernel_rfl) rfl rfl rfl) rfl rfl rfl ?_; refine At.Quiet.run 2 rfl ?_; obtain ⟨g6, g7, n4, j⟩ := bjoin j; let O : HProp := pc V [i6 x.2.2.1, i6 x.2.2.2.1, .string ⟨(x.2.2.2.2.1).toArray⟩, i6 x.2.2.2.2.2] 101; let g8 : HProp := pc b0 [.slice d7 x.2.1.length d8, optp a7, i6 L, .slice A0_3 p.length c0_3, .slice A0_4 q.length c0_4, .slice A0_5 u.length c0_5, .slice A0_6 D.length c0_6, .map (some b0_7)] 99; let U : HProp := pc g4 [i6 I.2.2.2.1, i6 I.2.2.2.2.1, .string ⟨(I.2.2.2.2.2.1).toArray⟩, i6 I.2.2.2.2.2.2] 101; refine At.Quiet.joinO 7 (X := Bool) (fun Z => [(0, bp b0), (5, i6 I.2.2.1), (6, bp V), (41, .bool Z)]) (fun Z => O :: optb (Ow.fl Q5.fl) 107 a7 x.1 :: g8 :: row Fl.bs 9 A0_3 p.length c0_3 p :: row Q3.fl 32 A0_4 q.length c0_4 q :: grow Q4.ow 35 A0_5 u.length c0_5 u :: row Q9.fl 144 A0_6 D.length c0_6 D :: mapo Fl.bs.ov Fl.bool.ov b0_7 J :: U :: M :: Fr) (fun Z => g6 (.inl Z) = some r) ?_ (fun e1 => ?_)
   ·rintro Z j; have j := (g7 _).symm.trans j
    ·refine At.Quiet.nil (At.thn ?_); obtain ⟨g9, h0, n5, j⟩ := bjoin j; refine At.join (X := (Option Q5) × (Option Nat)) (fun s_ => [(0, bp b0), (5, i6 I.2.2.1), (6, bp V)]) (fun s_ => optb (Ow.fl Q5.fl) 107 s_.2 s_.1 :: pc b0 [.slice d7 x.2.1.length d8, optp s_.2, i6 L, .slice A0_3 p.length c0_3, .slice A0_4 q.length c0_4, .slice A0_5 u.length c0_5, .slice A0_6 D.length c0_6, .map (some b0_7)] 99 :: row Fl.bs 9 A0_3 p.length c0_3 p :: row Q3.fl 32 A0_4 q.length c0_4 q :: grow Q4.ow 35 A0_5 u.length c0_5 u :: row Q9.fl 144 A0_6 D.length c0_6 D :: mapo Fl.bs.ov Fl.bool.ov b0_7 J :: O :: U :: M :: Fr) (fun s_ => g9 (.inl s_.1) = some r) ?_ (fun e2 => ?_)
     ·rintro ⟨n6, h1⟩ j; have j := (h0 _).symm.trans j
      ·refine sR 1 rfl (At.f6 (At.f6 (At.f6 (At.f6 (At.f6 ?_))))); refine At.f5 (At.f6 ?_); obtain ⟨G, h2, j⟩ := bbind j; refine At.call rfl Q90.callee rfl rfl rfl (Q90.spec h1 d9 rfl e0 rfl rfl rfl rfl h2) ?_; rintro _ _ ⟨a8, a9, n7, b2, rfl, rfl, b9, rfl, c4⟩; refine At.run 3 rfl ?_; refine At.alloc rfl rfl rfl (fun e3 => ?_); refine At.store rfl rfl rfl rfl .z rfl rfl rfl (.c (.c (.c (.c .n)))) ?_; refine At.run 1 rfl (nT (sR 2 rfl ?_)); refine At.y (Y.load rfl rfl (.s (.s (.s (.s (.s (.s (.s (.s .z)))))))) rfl rfl rfl) rfl rfl rfl ?_; refine At.run 1 rfl ?_; refine At.y (Y.build (is := [0, 1, 2]) (xo := [.tmp 50, .tmp 52, .tmp 53]) (vs := [i6 I.2.2.1, .string ⟨(x.2.2.2.2.1).toArray⟩, i6 G.2.2.1]) (cs := [i6 I.2.2.1, .string ⟨(x.2.2.2.2.1).toArray⟩, i6 G.2.2.1]) rfl rfl rfl rfl rfl rfl) rfl rfl rfl ?_; refine At.alloc rfl rfl rfl (fun c5 => ?_); refine At.store rfl rfl rfl rfl .z rfl rfl rfl (.c (.c (.c .n))) ?_; refine nT (At.seq (At.seq ?_)); refine At.freeze (.s (.s (.s (.s (.s (.s (.s .z))))))) fun n8 h3 h4 h5 n9 h6 => ?_; refine At.quiet (by kernel_rfl) ?_; refine At.Quiet.run 3 rfl ?_; refine At.Quiet.y (Y.load rfl rfl (.s (.s (.s .z))) rfl rfl rfl) rfl rfl rfl ?_; refine At.Quiet.y (Y.eqOpt (.s (.s .z)) rfl rfl rfl rfl) rfl rfl rfl ?_; refine At.Quiet.run 1 rfl ?_; obtain ⟨h7, h8, o0, j⟩ := bjoin j; let b3 : HProp := pc c5 [i6 I.2.2.1, .string ⟨(x.2.2.2.2.1).toArray⟩, i6 G.2.2.1] 144; let b4 : HProp := pc e3 [i6 G.2.2.2.1, i6 G.2.2.2.2.1, .string ⟨(G.2.2.2.2.2.1).toArray⟩, i6 G.2.2.2.2.2.2] 101; let h9 : HProp := pc b0 [.slice a9 G.2.1.length b2, optp a8, i6 L, .slice A0_3 p.length c0_3, .slice A0_4 q.length c0_4, .slice A0_5 u.length c0_5, .slice A0_6 D.length c0_6, .map (some b0_7)] 99; refine At.Quiet.joinO 7 (X := Bool) (fun a0 => [(0, bp b0), (6, bp V), (7, bp e3), (9, bp c5), (67, .bool a0)]) (fun a0 => b3 :: b4 :: optb (Ow.fl Q5.fl) 107 a8 G.1 :: h9 :: row Fl.bs 9 A0_3 p.length c0_3 p :: row Q3.fl 32 A0_4 q.length c0_4 q :: grow Q4.ow 35 A0_5 u.length c0_5 u :: mapo Fl.bs.ov Fl.bool.ov b0_7 J :: O :: U :: M :: Fr) (fun a0 => h7 (.inl a0) = some r) ?_ (fun e4 => ?_)
       ·rintro a0 j; have j := (h8 _).symm.trans j
        ·refine At.Quiet.nil (At.thn ?_); refine At.thaw h6 ?_; obtain ⟨k0, k1, o7, j⟩ := bjoin j; refine At.join (X := (Option Q5) × (Option Nat)) (fun s_ => [(0, bp b0), (6, bp V), (9, bp c5)]) (fun s_ => optb (Ow.fl Q5.fl) 107 s_.2 s_.1 :: pc b0 [.slice a9 G.2.1.length b2, optp s_.2, i6 L, .slice A0_3 p.length c0_3, .slice A0_4 q.length c0_4, .slice A0_5 u.length c0_5, .slice A0_6 D.length c0_6, .map (some b0_7)] 99 :: row Fl.bs 9 A0_3 p.length c0_3 p :: row Q3.fl 32 A0_4 q.length c0_4 q :: grow Q4.ow 35 A0_5 u.length c0_5 u :: row Q9.fl 144 A0_6 D.length c0_6 D :: mapo Fl.bs.ov Fl.bool.ov b0_7 J :: b3 :: b4 :: O :: U :: M :: Fr) (fun s_ => k0 (.inl s_.1) = some r) ?_ (fun e5 => ?_)
         ·rintro ⟨o8, k2⟩ j; have j := (k1 _).symm.trans j
          ·refine sR 1 rfl (At.f6 (At.f6 (At.f6 (At.f6 (At.f6 ?_))))); refine At.f5 (At.f6 ?_); obtain ⟨e6, k3, j⟩ := bbind j; refine At.call rfl Q111.callee rfl rfl rfl (Q111.spec k2 b9 rfl c4 rfl rfl rfl rfl k3) ?_; rintro _ _ ⟨b5, rfl, rfl⟩; refine nT (At.seq ?_); refine At.still 6 (by kernel_rfl) ?_; refine At.Still.run 3 rfl ?_; refine At.Still.y (Y.load rfl rfl .z rfl rfl rfl) rfl rfl rfl ?_; refine At.Still.run 1 rfl ?_; refine At.Still.y (Y.load rfl rfl (.s (.s (.s (.s (.s (.s (.s (.s (.s .z))))))))) rfl rfl rfl) rfl rfl rfl ?_; refine At.Still.nil ?_; refine At.mapUpdate (k := x.2.2.2.2.1) (v := true) rfl (.s (.s (.s (.s (.s (.s .z)))))) rfl rfl (KeyOk.str rfl rfl) rfl rfl rfl rfl rfl ?_; refine nT ?_; refine At.held [mapo Fl.bs.ov Fl.bool.ov b0_7 (mset J x.2.2.2.2.1 true), optb (Ow.fl Q5.fl) 107 b5 e6, row Fl.bs 9 A0_3 p.length c0_3 p, row Q3.fl 32 A0_4 q.length c0_4 q, grow Q4.ow 35 A0_5 u.length c0_5 u, b3, b4, O, U, M] 11 rfl ?_; refine At.H.pw 0 rfl rfl rfl rfl rfl (.c .z (.c (.s .z) (.c (.s .z) (.c (.s .z) (.c (.s .z) (.c (.s (.s .z)) (.c (.s (.s .z)) (.c (.s (.s .z)) (.c (.s (.s .z)) (.c (.s (.s .z)) .n)))))))))) ?_; refine At.H.pw 1 rfl rfl rfl rfl rfl (.c .z (.c (.s .z) (.c (.s .z) (.c (.s .z) (.c (.s .z) (.c (.s (.s .z)) (.c (.s (.s .z)) (.c (.s (.s .z)) (.c (.s (.s .z)) (.c (.s (.s .z)) .n)))))))))) ?_; refine At.H.pw 2 rfl rfl rfl rfl rfl (.c .z (.c (.s .z) (.c (.s .z) (.c (.s .z) (.c (.s .z) (.c (.s (.s .z)) (.c (.s (.s .z)) (.c (.s (.s .z)) (.c (.s (.s .z)) (.c (.s (.s .z)) .n)))))))))) ?_; refine At.H.pw 3 rfl rfl rfl rfl rfl (.c .z (.c (.s .z) (.c (.s .z) (.c (.s .z) (.c (.s .z) (.c (.s (.s .z)) (.c (.s (.s .z)) (.c (.s (.s .z)) (.c (.s (.s .z)) (.c (.s (.s .z)) .n)))))))))) ?_; refine At.H.tw 5 rfl (Y.load rfl rfl (.s (.s (.s (.s (.s .z))))) rfl rfl rfl) rfl rfl rfl (.c .z (.c (.s .z) (.c (.s .z) (.c (.s .z) (.c (.s .z) (.c (.s (.s .z)) (.c (.s (.s .z)) (.c (.s (.s .z)) (.c (.s (.s .z)) (.c (.s (.s .z)) .n)))))))))) ?_; obtain ⟨e7, j⟩ := bnone j; let k4 : HProp := mapo Fl.bs.ov Fl.bool.ov b0_7 (mset J x.2.2.2.2.1 true); refine At.H.joinK (X := (Option Addr) × Nat) (fun s_ => []) (fun s_ => pc b0 [.slice a9 G.2.1.length b2, optp b5, i6 L, .slice A0_3 p.length c0_3, .slice A0_4 q.length c0_4, .slice A0_5 u.length c0_5, .slice s_.1 ((D ++ ([(⟨I.2.2.1, x.2.2.2.2.1, G.2.2.1⟩ : Q9)] : List Q9)).length) s_.2, .map (some b0_7)] 99 :: row Q9.fl 144 s_.1 ((D ++ ([(⟨I.2.2.1, x.2.2.2.2.1, G.2.2.1⟩ : Q9)] : List Q9)).length) s_.2 (D ++ ([(⟨I.2.2.1, x.2.2.2.2.1, G.2.2.1⟩ : Q9)] : List Q9)) :: k4 :: optb (Ow.fl Q5.fl) 107 b5 e6 :: row Fl.bs 9 A0_3 p.length c0_3 p :: row Q3.fl 32 A0_4 q.length c0_4 q :: grow Q4.ow 35 A0_5 u.length c0_5 u :: b3 :: b4 :: O :: U :: M :: Fr) (fun s_ => True) ?_ (fun e8 => ?_)
           ·rintro ⟨k5, k6⟩ -
            ·refine At.drop (.s (.s (.s (.s (.s (.s (.s .z))))))) (At.drop (.s (.s (.s (.s (.s (.s (.s .z))))))) (At.drop (.s (.s (.s (.s (.s (.s (.s .z))))))) (At.drop (.s (.s (.s (.s (.s (.s (.s .z))))))) (At.drop (.s (.s (.s (.s (.s (.s (.s .z))))))) (At.f2 (At.f2 (At.f6 ?_))))))); refine At.f6 (At.f6 (At.f5 (At.f6 ?_))); cases bret j; exact At.res (.inr rfl) rfl rfl ⟨(D ++ ([(⟨I.2.2.1, x.2.2.2.2.1, G.2.2.1⟩ : Q9)] : List Q9)).length, k5, k6, b5, a9, G.2.1.length, b2, rfl, rfl, rfl, b9, rfl, c4⟩
           ·refine At.H.al [4, 6] (Q6 ?_ (Q6 ?_ Q7))
            ··refine At.HO.op rfl ?_
              refine At.y (Y.load rfl rfl (.s .z) rfl rfl rfl) rfl rfl rfl ?_; refine At.HO.back (.c .z (.c (.s .z) (.c (.s .z) (.c (.s .z) (.c (.s .z) (.c (.s (.s .z)) (.c (.s (.s .z)) (.c (.s (.s .z)) (.c (.s (.s .z)) (.c (.s (.s .z)) .n)))))))))) ?_; refine At.H.al [6] (Q6 ?_ Q7)
              ··refine At.HO.op rfl ?_
                refine At.lit rfl (xo := [.tmp 84]) (ys := ([(⟨I.2.2.1, x.2.2.2.2.1, G.2.2.1⟩ : Q9)] : List Q9)) Q9.fl rfl rfl rfl rfl rfl rfl rfl rfl rfl rfl rfl (fun o9 p0 => ?_); refine At.HO.back (.c (.s .z) (.c (.s (.s .z)) (.c (.s (.s .z)) (.c (.s (.s .z)) (.c (.s (.s .z)) (.c (.s (.s (.s .z))) (.c (.s (.s (.s .z))) (.c (.s (.s (.s .z))) (.c (.s (.s (.s .z))) (.c (.s (.s (.s .z))) .n)))))))))) ?_; refine At.H.al [7] (Q6 ?_ Q7)
                ··refine At.HO.op rfl ?_
                  refine At.append rfl (.s (.s (.s (.s (.s (.s (.s .z))))))) (Src.own .z (by simp)) rfl rfl rfl rfl rfl rfl rfl rfl e7 (by decide) rfl (fun k7 k8 => ?_); refine At.drop (.s .z) ?_; refine At.HO.back (.c (.s .z) (.c (.s (.s .z)) (.c (.s (.s .z)) (.c (.s (.s .z)) (.c (.s (.s .z)) (.c (.s (.s .z)) (.c (.s (.s .z)) (.c (.s (.s .z)) (.c (.s (.s .z)) (.c (.s (.s .z)) .n)))))))))) ?_; refine At.H.pw 8 rfl rfl rfl rfl rfl (.c (.s .z) (.c (.s (.s .z)) (.c (.s (.s .z)) (.c (.s (.s .z)) (.c (.s (.s .z)) (.c (.s (.s .z)) (.c (.s (.s .z)) (.c (.s (.s .z)) (.c (.s (.s .z)) (.c (.s (.s .z)) .n)))))))))) ?_; refine At.H.pw 9 rfl rfl rfl rfl rfl (.c (.s .z) (.c (.s (.s .z)) (.c (.s (.s .z)) (.c (.s (.s .z)) (.c (.s (.s .z)) (.c (.s (.s .z)) (.c (.s (.s .z)) (.c (.s (.s .z)) (.c (.s (.s .z)) (.c (.s (.s .z)) .n)))))))))) ?_; refine At.H.al [10] (Q6 ?_ Q7)
                  ··refine At.HO.op rfl ?_
                    refine At.store rfl rfl rfl rfl (.s (.s .z)) rfl rfl rfl (.s (.s (.s (.s (.s (.s (.c .n))))))) ?_; refine At.HO.back (.c (.s (.s .z)) (.c (.s (.s .z)) (.c (.s (.s .z)) (.c (.s (.s .z)) (.c (.s (.s .z)) (.c (.s (.s .z)) (.c (.s (.s .z)) (.c (.s (.s .z)) (.c (.s (.s .z)) (.c (.s (.s .z)) .n)))))))))) ?_; refine At.H.done (by kernel_rfl) ?_; exact At.of (e8 (k7, k8) trivial) trivial
            ··refine At.HO.op rfl ?_
              refine At.lit rfl (xo := [.tmp 84]) (ys := ([(⟨I.2.2.1, x.2.2.2.2.1, G.2.2.1⟩ : Q9)] : List Q9)) Q9.fl rfl rfl rfl rfl rfl rfl rfl rfl rfl rfl rfl (fun p1 p2 => ?_); refine At.HO.back (.c (.s .z) (.c (.s (.s .z)) (.c (.s (.s .z)) (.c (.s (.s .z)) (.c (.s (.s .z)) (.c (.s (.s (.s .z))) (.c (.s (.s (.s .z))) (.c (.s (.s (.s .z))) (.c (.s (.s (.s .z))) (.c (.s (.s (.s .z))) .n)))))))))) ?_; refine At.H.al [4] (Q6 ?_ Q7)
              ··refine At.HO.op rfl ?_
                refine At.y (Y.load rfl rfl (.s (.s .z)) rfl rfl rfl) rfl rfl rfl ?_; refine At.HO.back (.c (.s .z) (.c (.s (.s .z)) (.c (.s (.s .z)) (.c (.s (.s .z)) (.c (.s (.s .z)) (.c (.s (.s (.s .z))) (.c (.s (.s (.s .z))) (.c (.s (.s (.s .z))) (.c (.s (.s (.s .z))) (.c (.s (.s (.s .z))) .n)))))))))) ?_; refine At.H.al [7] (Q6 ?_ Q7)
                ··refine At.HO.op rfl ?_
                  refine At.append rfl (.s (.s (.s (.s (.s (.s (.s .z))))))) (Src.own .z (by simp)) rfl rfl rfl rfl rfl rfl rfl rfl e7 (by decide) rfl (fun k9 l4 => ?_); refine At.drop (.s .z) ?_; refine At.HO.back (.c (.s .z) (.c (.s (.s .z)) (.c (.s (.s .z)) (.c (.s (.s .z)) (.c (.s (.s .z)) (.c (.s (.s .z)) (.c (.s (.s .z)) (.c (.s (.s .z)) (.c (.s (.s .z)) (.c (.s (.s .z)) .n)))))))))) ?_; refine At.H.pw 8 rfl rfl rfl rfl rfl (.c (.s .z) (.c (.s (.s .z)) (.c (.s (.s .z)) (.c (.s (.s .z)) (.c (.s (.s .z)) (.c (.s (.s .z)) (.c (.s (.s .z)) (.c (.s (.s .z)) (.c (.s (.s .z)) (.c (.s (.s .z)) .n)))))))))) ?_; refine At.H.pw 9 rfl rfl rfl rfl rfl (.c (.s .z) (.c (.s (.s .z)) (.c (.s (.s .z)) (.c (.s (.s .z)) (.c (.s (.s .z)) (.c (.s (.s .z)) (.c (.s (.s .z)) (.c (.s (.s .z)) (.c (.s (.s .z)) (.c (.s (.s .z)) .n)))))))))) ?_; refine At.H.al [10] (Q6 ?_ Q7)
                  ··refine At.HO.op rfl ?_
                    refine At.store rfl rfl rfl rfl (.s (.s .z)) rfl rfl rfl (.s (.s (.s (.s (.s (.s (.c .n))))))) ?_; refine At.HO.back (.c (.s (.s .z)) (.c (.s (.s .z)) (.c (.s (.s .z)) (.c (.s (.s .z)) (.c (.s (.s .z)) (.c (.s (.s .z)) (.c (.s (.s .z)) (.c (.s (.s .z)) (.c (.s (.s .z)) (.c (.s (.s .z)) .n)))))))))) ?_; refine At.H.done (by kernel_rfl) ?_; exact At.of (e8 (k9, l4) trivial) trivial
         ··rcases bite j with ⟨c6, j⟩ | ⟨c6, j⟩
           ··refine At.condT rfl c6 ?_
             refine At.region (At.run 1 rfl (At.y (Y.load rfl rfl (.s (.s .z)) rfl rfl rfl) rfl rfl rfl (At.f8 (At.f1 (At.f8 (At.f8 (At.f8 ?_))))))); refine At.f7 (At.f8 ?_); obtain ⟨l5, l6, j⟩ := bbind j; refine At.call rfl Q16.callee rfl rfl rfl (Q16.spec a8 b9 rfl c4 rfl rfl rfl rfl l6) ?_; rintro _ _ ⟨l7, rfl, rfl⟩; refine nT ?_; exact fun a w e hs => e5 (l5, l7) j a w (e.sub ⟨rfl, rfl, rfl, trivial⟩) hs
           ··refine At.condF rfl (bn c6) ?_
             refine At.skip (At.thn (At.f11 (At.f11 (At.f11 (At.f5 (At.f5 (At.f11 ?_))))))); refine At.f6 (At.f11 (At.f11 (At.f11 (At.f11 (At.f11 ?_))))); exact fun a w e hs => e5 (G.1, a8) j a w (e.sub ⟨rfl, rfl, rfl, trivial⟩) hs
       ··rcases bite j with ⟨c7, j⟩ | ⟨c7, j⟩
         ··refine At.Quiet.know (t := 60) rfl c7 ?_
           refine At.Quiet.run 3 rfl ?_; refine At.Quiet.y (Y.load rfl rfl (.s (.s (.s .z))) rfl rfl rfl) rfl rfl rfl ?_; refine At.Quiet.y (Y.load rfl rfl .z rfl rfl rfl) rfl rfl rfl ?_; obtain ⟨l8, l9, j⟩ := bbind j; refine At.Quiet.call rfl Q148.callee rfl rfl rfl (Q148.spec h3 h4 h5 l9) (fun _ _ h_ => ⟨h_.1, fun _ hs => h_.2 ▸ hs⟩) ?_; refine At.Quiet.run 1 rfl ?_; exact At.Quiet.of (e4 l8 j) ⟨rfl, rfl, rfl, rfl, rfl, trivial⟩
         ··refine At.Quiet.know (t := 60) rfl (bn c7) ?_
           refine At.Quiet.run 7 rfl ?_; exact At.Quiet.of (e4 false j) ⟨rfl, rfl, rfl, rfl, rfl, trivial⟩
     ··rcases bite j with ⟨c8, j⟩ | ⟨c8, j⟩
       ··refine At.condT rfl c8 ?_
         refine At.region (At.run 1 rfl (At.y (Y.load rfl rfl .z rfl rfl rfl) rfl rfl rfl (At.f7 (At.f7 (At.f7 (At.f7 (At.f7 ?_))))))); refine At.f6 (At.f7 ?_); obtain ⟨m0, m1, j⟩ := bbind j; refine At.call rfl Q16.callee rfl rfl rfl (Q16.spec a7 d9 rfl e0 rfl rfl rfl rfl m1) ?_; rintro _ _ ⟨m2, rfl, rfl⟩; refine nT ?_; exact fun a w e hs => e2 (m0, m2) j a w (e.sub ⟨rfl, rfl, rfl, trivial⟩) hs
       ··refine At.condF rfl (bn c8) ?_
         refine At.skip (At.thn (At.f9 (At.f9 (At.f2 (At.f9 (At.f9 (At.f9 ?_))))))); refine At.f9 (At.f9 (At.f9 (At.f9 ?_))); exact fun a w e hs => e2 (x.1, a7) j a w (e.sub ⟨rfl, rfl, rfl, trivial⟩) hs
   ··rcases bite j with ⟨c9, j⟩ | ⟨c9, j⟩
     ··refine At.Quiet.know (t := 34) rfl (nf c9) ?_
       refine At.Quiet.run 7 rfl ?_; exact At.Quiet.of (e1 false j) ⟨rfl, rfl, rfl, rfl, trivial⟩
     ··refine At.Quiet.know (t := 34) rfl (nt (bn c9)) ?_
       refine At.Quiet.run 3 rfl ?_; refine At.Quiet.y (Y.load rfl rfl (.s (.s .z)) rfl rfl rfl) rfl rfl rfl ?_; refine At.Quiet.y (Y.lenMap (.s (.s (.s (.s (.s (.s (.s .z))))))) rfl rfl rfl) rfl rfl rfl ?_; refine At.Quiet.run 2 rfl ?_; exact At.Quiet.of (e1 (decide (8 ≤ (J.length : Int))) j) ⟨rfl, rfl, rfl, rfl, trivial⟩
 ··rcases bite j with ⟨d0, j⟩ | ⟨d0, j⟩
   ··refine At.condT rfl (decide_eq_true d0) ?_
     refine At.region (At.run 1 rfl (At.y (Y.load rfl rfl .z rfl rfl rfl) rfl rfl rfl (At.f7 (At.f7 (At.f7 (At.f7 (At.f7 ?_))))))); refine At.f7 (At.f7 ?_); obtain ⟨m3, m4, j⟩ := bbind j; refine At.call rfl Q16.callee rfl rfl rfl (Q16.spec a6 hr0_0 rfl hc0_0 rfl rfl rfl rfl m4) ?_; rintro _ _ ⟨m5, rfl, rfl⟩; refine nT ?_; exact fun a w e hs => d6 (m3, m5) j a w (e.sub ⟨rfl, trivial⟩) hs
   ··refine At.condF rfl (decide_eq_false d0) ?_
     refine At.skip (At.thn (At.f7 (At.f7 (At.f7 (At.f7 (At.f7 (At.f6 ?_))))))); refine At.f7 ?_; exact fun a w e hs => d6 (b6, a6) j a w (e.sub ⟨rfl, trivial⟩) hs

noncomputable def Q141.f (p : Bs) (u : List Int) (x D : Int) (q : Bs) (G : Int) : Option Bool :=
 some (bseq p q)
theorem Q141.callee : Callee Tryz.prog 90 := ⟨_, Tryz.func90, by kernel_rfl, by kernel_rfl⟩
theorem Q141.spec {q u : Bs} {p : List Int} {x D G : Int} (hr0_1 : RdS (Fl.int .i64).rep R.heap A0_1 p) (hn0_1 : p.length = n0_1) (hc0_1 : n0_1 ≤ c0_1) {r : Bool} (j : Q141.f q p x D u G = some r) :
 Spec Tryz.prog 90 [.agg #[.string ⟨(q).toArray⟩, .slice A0_1 n0_1 c0_1], bp b1] R (pc b1 [i6 x, i6 D, .string ⟨(u).toArray⟩, i6 G] 101 :: Fr) (fun v l' => v = .bool r ∧ pc b1 [i6 x, i6 D, .string ⟨(u).toArray⟩, i6 G] 101 :: Fr = l') := by
 subst hn0_1; refine Spec.of Tryz.func90 rfl rfl ?_; unfold Q141.f at j; have j := brun j; refine At.seq (At.region ?_); refine At.box rfl rfl (cs := [.string ⟨(q).toArray⟩, .slice A0_1 p.length c0_1]) rfl rfl (fun I => ?_); refine At.run 1 rfl (nT (sR 1 rfl (At.y (Y.load rfl rfl .z rfl rfl rfl) rfl rfl rfl (At.run 1 rfl ?_)))); refine At.y (Y.load rfl rfl (.s .z) rfl rfl rfl) rfl rfl rfl (At.run 2 rfl (nT (At.ret (At.drop .z ?_)))); cases bret j; exact At.res (.inl rfl) rfl rfl ⟨rfl, rfl⟩

noncomputable def Q79.l0b (a0 : List Q4) (a1_c0_0 a1_c0_1 : Int) (a1_c0_2 : Bs) (a1_c0_3 p : Int) : Option ((Int) ⊕ ((Unit) ⊕ (Int))) :=
 if p < (a0.length : Int) then
 if (0 : Int) ≤ p ∧ p < (a0.length : Int) then
 (Q141.f ((gt a0 p).Name) ((gt a0 p).States) a1_c0_0 a1_c0_1 a1_c0_2 a1_c0_3).bind fun q =>
 if q = true then
 upL (some p)
 else
 nx (IntKind.i64.wrap (p + 1))
 else none
 else
 dn (.inl ())
noncomputable def Q79.l0 (a0 : List Q4) (a1_c0_0 a1_c0_1 : Int) (a1_c0_2 : Bs) (a1_c0_3 p : Int) : Option ((Unit) ⊕ (Int)) := iter (fun t_ : Int => Q79.l0b a0 a1_c0_0 a1_c0_1 a1_c0_2 a1_c0_3 t_) p
noncomputable def Q79.f (a0 : List Q4) (a1_c0_0 a1_c0_1 : Int) (a1_c0_2 : Bs) (a1_c0_3 : Int) : Option Int :=
 jn (Q79.l0 a0 a1_c0_0 a1_c0_1 a1_c0_2 a1_c0_3 0) (fun (_ : Unit) =>
 some (-1))
theorem Q79.callee : Callee Tryz.prog 123 := ⟨_, Tryz.func123, by kernel_rfl, by kernel_rfl⟩
theorem Q79.spec {a0 : List Q4} {a1_c0_0 a1_c0_1 a1_c0_3 : Int} {a1_c0_2 : Bs} (hr0 : RdS Q4.rep R.heap A0 a0) (hn0 : a0.length = n0) (hc0 : n0 ≤ c0) {r : Int} (j : Q79.f a0 a1_c0_0 a1_c0_1 a1_c0_2 a1_c0_3 = some r) :
 Spec Tryz.prog 123 [.slice A0 n0 c0, .func (.func 90) #[] #[bp b1_c0]] R (pc b1_c0 [i6 a1_c0_0, i6 a1_c0_1, .string ⟨(a1_c0_2).toArray⟩, i6 a1_c0_3] 101 :: Fr) (fun v l' => v = i6 r ∧ pc b1_c0 [i6 a1_c0_0, i6 a1_c0_1, .string ⟨(a1_c0_2).toArray⟩, i6 a1_c0_3] 101 :: Fr = l') := by
 subst hn0; refine Spec.of Tryz.func123 rfl rfl ?_; unfold Q79.f at j; have j := brun j; refine sR 1 rfl (nT (At.seq (At.seq (At.region ?_)))); refine At.run 3 rfl (nT ?_); refine At.block ?_; obtain ⟨O, U, V, j⟩ := bjoin j; obtain ⟨J, x, L⟩ := bsome j; clear j; unfold Q79.l0 at x; obtain ⟨D, q⟩ := Q17.1 x; clear x; let M : HProp := pc b1_c0 [i6 a1_c0_0, i6 a1_c0_1, .string ⟨(a1_c0_2).toArray⟩, i6 a1_c0_3] 101; refine At.loopJ (X := Int) (Y := Unit) (e0 := 0) (fun p => [(0, .slice A0 a0.length c0), (1, .func (.func 90) #[] #[bp b1_c0]), (7, i6 (a0.length : Int)), (8, i6 p)]) (fun p => M :: Fr) (fun m_ => fun p => iterN (fun t_ : Int => Q79.l0b a0 a1_c0_0 a1_c0_1 a1_c0_2 a1_c0_3 t_) m_ p = some J) D 0 q (fun _ => []) (fun _ => M :: Fr) (fun _ => O (.inl ()) = some r) (fun a w e hs => ⟨e.sub ⟨rfl, rfl, rfl, rfl, trivial⟩, (by exact hs)⟩) ?_ (fun Z => ?_)
 ·rintro _ j; have j := (U _).symm.trans j
  ·refine At.ibx ?_; refine At.thn (sR 1 rfl (nT (At.ret ?_))); cases bret j; exact At.res (.inl rfl) rfl rfl ⟨rfl, rfl⟩
 ·clear q D; rintro D p q; obtain ⟨a1, f_, a2, hf_, j⟩ := bit q; clear q; have j : (Q79.l0b a0 a1_c0_0 a1_c0_1 a1_c0_2 a1_c0_3 p).bind _ = some J := j; unfold Q79.l0b at j
  ·refine sR 1 rfl (nT (At.seq ?_)); rcases bite j with ⟨G, j⟩ | ⟨G, j⟩
   ··refine At.condT rfl (decide_eq_true G) ?_
     refine At.skip (At.thn (At.seq ?_)); refine At.block ?_; refine sR 2 rfl (nT (sR 3 rfl ?_)); obtain ⟨u, j⟩ := bnone j; refine At.y (Y.ixRd hr0 rfl rfl rfl rfl rfl rfl rfl u.1 u.2) rfl rfl rfl ?_; obtain ⟨a8, a3, a4⟩ := RdS.whole (P := Tryz.prog) hr0 (Sub.refl _) rfl u.1 u.2; obtain ⟨_, _, rfl, rfl, ⟨a9, b2, rfl, a5, a6⟩⟩ := a3; refine At.y (a4 rfl rfl rfl rfl) rfl rfl rfl ?_; obtain ⟨b3, a7, j⟩ := bbind j; refine At.call rfl Q141.callee rfl rfl rfl (Q141.spec a6 rfl a5 a7) ?_; rintro _ _ ⟨rfl, rfl⟩; refine nT ?_; rcases bite j with ⟨I, j⟩ | ⟨I, j⟩
     ··refine At.condT rfl I ?_
       refine sR 2 rfl (nT (At.ret ?_)); refine At.ibr ?_; refine At.thr ?_; have j := bupL V L j; refine At.thr ?_; refine At.ibr ?_; refine At.thr ?_; cases bret j; exact At.res (.inl rfl) rfl rfl ⟨rfl, rfl⟩
     ··refine At.condF rfl (bn I) ?_
       refine At.skip ?_; refine At.ibn ?_; refine At.thn (At.region (At.run 2 rfl (At.nil ?_))); have j := bnx hf_ j; exact fun a w e hs => ⟨a1, (IntKind.i64.wrap (p + 1)), a2, j, e.sub ⟨rfl, rfl, rfl, rfl, trivial⟩, hs⟩
   ··refine At.condF rfl (decide_eq_false G) ?_
     refine At.exit ?_; refine At.the ?_; refine At.the ?_; exact fun a w e hs => Z () (bdn j L) a w (e.sub trivial) hs

noncomputable def Q134.f (a0 : List Q4) (a1_c0_0 a1_c0_1 : Int) (a1_c0_2 : Bs) (a1_c0_3 : Int) : Option Bool :=
 (Q79.f a0 a1_c0_0 a1_c0_1 a1_c0_2 a1_c0_3).bind fun p =>
 some (decide (0 ≤ p))
theorem Q134.callee : Callee Tryz.prog 89 := ⟨_, Tryz.func89, by kernel_rfl, by kernel_rfl⟩
theorem Q134.spec {a0 : List Q4} {a1_c0_0 a1_c0_1 a1_c0_3 : Int} {a1_c0_2 : Bs} (hr0 : RdS Q4.rep R.heap A0 a0) (hn0 : a0.length = n0) (hc0 : n0 ≤ c0) {r : Bool} (j : Q134.f a0 a1_c0_0 a1_c0_1 a1_c0_2 a1_c0_3 = some r) :
 Spec Tryz.prog 89 [.slice A0 n0 c0, .func (.func 90) #[] #[bp b1_c0]] R (pc b1_c0 [i6 a1_c0_0, i6 a1_c0_1, .string ⟨(a1_c0_2).toArray⟩, i6 a1_c0_3] 101 :: Fr) (fun v l' => v = .bool r ∧ pc b1_c0 [i6 a1_c0_0, i6 a1_c0_1, .string ⟨(a1_c0_2).toArray⟩, i6 a1_c0_3] 101 :: Fr = l') := by
 subst hn0; refine Spec.of Tryz.func89 rfl rfl ?_; unfold Q134.f at j; have j := brun j; refine sR 1 rfl (nT (sR 2 rfl ?_)); obtain ⟨q, p, j⟩ := bbind j; refine At.call rfl Q79.callee rfl rfl rfl (Q79.spec hr0 rfl hc0 p) ?_; rintro _ _ ⟨rfl, rfl⟩; refine At.run 2 rfl (nT (At.ret ?_)); cases bret j; exact At.res (.inl rfl) rfl rfl ⟨rfl, rfl⟩

noncomputable def Q76.l0b (a0 : List Int) (a1 p : Int) : Option ((Int) ⊕ ((Unit) ⊕ (Int))) :=
 if p < (a0.length : Int) then
 if (0 : Int) ≤ p ∧ p < (a0.length : Int) then
 if a1 = gt a0 p then
 upL (some p)
 else
 nx (IntKind.i64.wrap (p + 1))
 else none
 else
 dn (.inl ())
noncomputable def Q76.l0 (a0 : List Int) (a1 p : Int) : Option ((Unit) ⊕ (Int)) := iter (fun t_ : Int => Q76.l0b a0 a1 t_) p
noncomputable def Q76.f (a0 : List Int) (a1 : Int) : Option Int :=
 jn (Q76.l0 a0 a1 0) (fun (_ : Unit) =>
 some (-1))
theorem Q76.callee : Callee Tryz.prog 124 := ⟨_, Tryz.func124, by kernel_rfl, by kernel_rfl⟩
theorem Q76.spec {a0 : List Int} {a1 : Int} (hr0 : RdS (Fl.int .i64).rep R.heap A0 a0) (hn0 : a0.length = n0) (hc0 : n0 ≤ c0) {r : Int} (j : Q76.f a0 a1 = some r) :
 Spec Tryz.prog 124 [.slice A0 n0 c0, i6 a1] R (Fr) (fun v l' => v = i6 r ∧ Fr = l') := by
 subst hn0; refine Spec.of Tryz.func124 rfl rfl ?_; unfold Q76.f at j; have j := brun j; refine sR 1 rfl (nT (At.seq (At.seq (At.region ?_)))); refine At.run 3 rfl (nT ?_); refine At.block ?_; obtain ⟨O, U, V, j⟩ := bjoin j; obtain ⟨L, D, M⟩ := bsome j; clear j; unfold Q76.l0 at D; obtain ⟨G, u⟩ := Q17.1 D; clear D; refine At.loopJ (X := Int) (Y := Unit) (e0 := 0) (fun p => [(0, .slice A0 a0.length c0), (1, i6 a1), (7, i6 (a0.length : Int)), (8, i6 p)]) (fun p => Fr) (fun m_ => fun p => iterN (fun t_ : Int => Q76.l0b a0 a1 t_) m_ p = some L) G 0 u (fun _ => []) (fun _ => Fr) (fun _ => O (.inl ()) = some r) (fun a w e hs => ⟨e.sub ⟨rfl, rfl, rfl, rfl, trivial⟩, (by exact hs)⟩) ?_ (fun Z => ?_)
 ·rintro _ j; have j := (U _).symm.trans j
  ·refine At.ibx ?_; refine At.thn (sR 1 rfl (nT (At.ret ?_))); cases bret j; exact At.res (.inl rfl) rfl rfl ⟨rfl, rfl⟩
 ·clear u G; rintro G p u; obtain ⟨a2, f_, a3, hf_, j⟩ := bit u; clear u; have j : (Q76.l0b a0 a1 p).bind _ = some L := j; unfold Q76.l0b at j
  ·refine sR 1 rfl (nT (At.seq ?_)); rcases bite j with ⟨I, j⟩ | ⟨I, j⟩
   ··refine At.condT rfl (decide_eq_true I) ?_
     refine At.skip (At.thn (At.seq ?_)); refine At.block ?_; refine sR 2 rfl (nT (sR 3 rfl ?_)); obtain ⟨x, j⟩ := bnone j; refine At.y (Y.ixRd hr0 rfl rfl rfl rfl rfl rfl rfl x.1 x.2) rfl rfl rfl (At.y (Y.ldFl hr0 rfl (q := 0) rfl rfl x.1 x.2 rfl rfl rfl) rfl rfl rfl (At.run 1 rfl (nT ?_))); rcases bite j with ⟨J, j⟩ | ⟨J, j⟩
     ··refine At.condT rfl (decide_eq_true J) ?_
       refine sR 2 rfl (nT (At.ret ?_)); refine At.ibr ?_; refine At.thr ?_; have j := bupL V M j; refine At.thr ?_; refine At.ibr ?_; refine At.thr ?_; cases bret j; exact At.res (.inl rfl) rfl rfl ⟨rfl, rfl⟩
     ··refine At.condF rfl (decide_eq_false J) ?_
       refine At.skip ?_; refine At.ibn ?_; refine At.thn (At.region (At.run 2 rfl (At.nil ?_))); have j := bnx hf_ j; exact fun a w e hs => ⟨a2, (IntKind.i64.wrap (p + 1)), a3, j, e.sub ⟨rfl, rfl, rfl, rfl, trivial⟩, hs⟩
   ··refine At.condF rfl (decide_eq_false I) ?_
     refine At.exit ?_; refine At.the ?_; refine At.the ?_; exact fun a w e hs => Z () (bdn j M) a w (e.sub trivial) hs

noncomputable def Q138.f (a0 : List Int) (a1 : Int) : Option Bool :=
 (Q76.f a0 a1).bind fun p =>
 some (decide (0 ≤ p))
theorem Q138.callee : Callee Tryz.prog 92 := ⟨_, Tryz.func92, by kernel_rfl, by kernel_rfl⟩
theorem Q138.spec {a0 : List Int} {a1 : Int} (hr0 : RdS (Fl.int .i64).rep R.heap A0 a0) (hn0 : a0.length = n0) (hc0 : n0 ≤ c0) {r : Bool} (j : Q138.f a0 a1 = some r) :
 Spec Tryz.prog 92 [.slice A0 n0 c0, i6 a1] R (Fr) (fun v l' => v = .bool r ∧ Fr = l') := by
 subst hn0; refine Spec.of Tryz.func92 rfl rfl ?_; unfold Q138.f at j; have j := brun j; refine sR 1 rfl (nT (sR 2 rfl ?_)); obtain ⟨q, p, j⟩ := bbind j; refine At.call rfl Q76.callee rfl rfl rfl (Q76.spec hr0 rfl hc0 p) ?_; rintro _ _ ⟨rfl, rfl⟩; refine At.run 2 rfl (nT (At.ret ?_)); cases bret j; exact At.res (.inl rfl) rfl rfl ⟨rfl, rfl⟩

noncomputable def Q71.f (a0 : List Int) : Option (List Int) := if a0.length < 4611686018427387904 then some (a0.mergeSort fun x y => decide (x ≤ y)) else none
theorem Q71.callee : Callee Tryz.prog 93 := ⟨_, Tryz.func93, by kernel_rfl, by kernel_rfl⟩
theorem Q71.spec {a0 : List Int} (hn0 : a0.length = n0) {r : List Int} (j : Q71.f a0 = some r) :
 Spec Tryz.prog 93 [.slice A0 n0 c0] R (row (Fl.int .i64) 3 A0 n0 c0 a0 :: Fr) (fun v l' => v = .tuple #[] ∧ row (Fl.int .i64) 3 A0 n0 c0 r :: Fr = l') := by
 unfold Q71.f at j; split at j
 ·rename_i hb; cases j; exact Q306 Tryz.sort93 R Fr hb
 ·cases j

noncomputable def Q35.l0b (x : Int) (D : List Bs) (G : List Q3) (I : List Q4) (J : List Q9) (L : List (Bs × Bool)) (q : List Int) (u : Option Q5) (M : List Q1) : Option (((List Int) × (Option Q5) × (List Q1)) ⊕ (((Option Q5) × (List Int) × (List Q1)) ⊕ ((List Q4) × (Option Q5) × (List Q1)))) :=
 jn (
 if u.isNone = true then
 (Q108.f M u x D G I J L).bind fun O =>
 some (.inl (!O))
 else
 some (.inl false)) (fun (U : Bool) =>
 if U = true then
 (Q90.f M u x D G I J L).bind fun p =>
 jn (
 if p.1.isNone = true then
 (Q138.f q p.2.2.1).bind fun V =>
 some (.inl V)
 else
 some (.inl false)) (fun (X : Bool) =>
 jn (
 if X = true then
 (Q16.f p.2.1 p.1 x D G I J L p.2.2.2.1 p.2.2.2.2.1 p.2.2.2.2.2.1 p.2.2.2.2.2.2 9).bind fun Z =>
 some (.inl Z)
 else
 some (.inl p.1)) (fun (a0 : Option Q5) =>
 if (q.length + ([p.2.2.1] : List Int).length) * 8 ≤ 140737488355328 then
 nx ((q ++ ([p.2.2.1] : List Int)), a0, p.2.1)
 else none))
 else
 dn (.inl (u, q, M)))
noncomputable def Q35.l0 (p : Int) (q : List Bs) (u : List Q3) (x : List Q4) (D : List Q9) (G : List (Bs × Bool)) (I : List Int) (J : Option Q5) (L : List Q1) : Option (((Option Q5) × (List Int) × (List Q1)) ⊕ ((List Q4) × (Option Q5) × (List Q1))) := iter (fun t_ : (List Int) × (Option Q5) × (List Q1) => Q35.l0b p q u x D G t_.1 t_.2.1 t_.2.2) (I, J, L)
noncomputable def Q35.f (J : List Q1) (L : Option Q5) (u : Int) (x : List Bs) (D : List Q3) (q : List Q4) (G : List Q9) (I : List (Bs × Bool)) : Option ((List Q4) × (Option Q5) × (List Q1)) :=
 (Q106.f J L u x D q G I).bind fun p =>
 jn (
 if p.1.isNone = true then
 if 8 ≤ (q.length : Int) then
 (Q16.f p.2.1 p.1 u x D q G I p.2.2.1 p.2.2.2.1 p.2.2.2.2.1 p.2.2.2.2.2 10).bind fun M =>
 some (.inl M)
 else
 (Q134.f q p.2.2.1 p.2.2.2.1 p.2.2.2.2.1 p.2.2.2.2.2).bind fun O =>
 if O = true then
 (Q16.f p.2.1 p.1 u x D q G I p.2.2.1 p.2.2.2.1 p.2.2.2.2.1 p.2.2.2.2.2 9).bind fun U =>
 some (.inl U)
 else
 some (.inl p.1)
 else
 up (some (q, p.1, p.2.1))) (fun (V : Option Q5) =>
 jn (Q35.l0 u x D q G I ([] : List Int) V p.2.1) (fun (s_ : (Option Q5) × (List Int) × (List Q1)) =>
 (Q71.f s_.2.1).bind fun X =>
 if (q.length + 1) * 40 ≤ 140737488355328 then
 some ((q ++ [(⟨p.2.2.2.2.1, X⟩ : Q4)]), s_.1, s_.2.2)
 else none))
theorem Q35.callee : Callee Tryz.prog 46 := ⟨_, Tryz.func46, by kernel_rfl, by kernel_rfl⟩
theorem Q35.spec {c5 : List Q1} {e9 : Option Q5} {J : Int} {q : List Bs} {u : List Q3} {p : List Q4} {x : List Q9} {M : List (Bs × Bool)} (c6 : Option Nat) (hr0_0 : RdS Q1.fl.rep R.heap A0_0 c5) (hn0_0 : c5.length = n0_0) (hc0_0 : n0_0 ≤ c0_0) (hn0_3 : q.length = n0_3) (hn0_4 : u.length = n0_4) (hn0_5 : p.length = n0_5) (hn0_6 : x.length = n0_6) {r : (List Q4) × (Option Q5) × (List Q1)} (j : Q35.f c5 e9 J q u p x M = some r) :
 Spec Tryz.prog 46 [bp b0] R (pc b0 [.slice A0_0 n0_0 c0_0, optp c6, i6 J, .slice A0_3 n0_3 c0_3, .slice A0_4 n0_4 c0_4, .slice A0_5 n0_5 c0_5, .slice A0_6 n0_6 c0_6, .map (some b0_7)] 99 :: optb (Ow.fl Q5.fl) 107 c6 e9 :: row Fl.bs 9 A0_3 n0_3 c0_3 q :: row Q3.fl 32 A0_4 n0_4 c0_4 u :: grow Q4.ow 35 A0_5 n0_5 c0_5 p :: row Q9.fl 144 A0_6 n0_6 c0_6 x :: mapo Fl.bs.ov Fl.bool.ov b0_7 M :: Fr) (fun v l' => ∃ (c7 : Nat) (f0 : Option Addr) (f4 : Nat) (g0 : Option Nat) (g1 : Option Addr) (c8 : Nat) (g2 : Nat), v = .tuple #[] ∧ optb (Ow.fl Q5.fl) 107 g0 r.2.1 :: pc b0 [.slice g1 c8 g2, optp g0, i6 J, .slice A0_3 n0_3 c0_3, .slice A0_4 n0_4 c0_4, .slice f0 c7 f4, .slice A0_6 n0_6 c0_6, .map (some b0_7)] 99 :: row Fl.bs 9 A0_3 n0_3 c0_3 q :: row Q3.fl 32 A0_4 n0_4 c0_4 u :: grow Q4.ow 35 f0 c7 f4 r.1 :: row Q9.fl 144 A0_6 n0_6 c0_6 x :: mapo Fl.bs.ov Fl.bool.ov b0_7 M :: Fr = l' ∧ r.1.length = c7 ∧ RdS Q1.fl.rep R.heap g1 r.2.2 ∧ r.2.2.length = c8 ∧ c8 ≤ g2) := by
 subst hn0_0; subst hn0_3; subst hn0_4; subst hn0_5; subst hn0_6; refine Spec.of Tryz.func46 rfl rfl ?_; unfold Q35.f at j; have j := brun j; refine sR 1 rfl ?_; obtain ⟨D, h8, j⟩ := bbind j; refine At.call rfl Q106.callee rfl rfl rfl (Q106.spec c6 hr0_0 rfl hc0_0 rfl rfl rfl rfl h8) ?_; rintro _ _ ⟨b3, c9, r4, d0, rfl, rfl, b4, rfl, b5⟩; refine At.alloc rfl rfl rfl (fun O => ?_); refine At.store rfl rfl rfl rfl .z rfl rfl rfl (.c (.c (.c (.c .n)))) ?_; refine nT (At.seq ?_); obtain ⟨h9, k0, k1, j⟩ := bjoin j; let L : HProp := pc O [i6 D.2.2.1, i6 D.2.2.2.1, .string ⟨(D.2.2.2.2.1).toArray⟩, i6 D.2.2.2.2.2] 101; refine At.join (X := (Option Q5) × (Option Nat)) (fun s_ => [(0, bp b0), (2, bp O)]) (fun s_ => optb (Ow.fl Q5.fl) 107 s_.2 s_.1 :: pc b0 [.slice c9 D.2.1.length d0, optp s_.2, i6 J, .slice A0_3 q.length c0_3, .slice A0_4 u.length c0_4, .slice A0_5 p.length c0_5, .slice A0_6 x.length c0_6, .map (some b0_7)] 99 :: row Fl.bs 9 A0_3 q.length c0_3 q :: row Q3.fl 32 A0_4 u.length c0_4 u :: grow Q4.ow 35 A0_5 p.length c0_5 p :: row Q9.fl 144 A0_6 x.length c0_6 x :: mapo Fl.bs.ov Fl.bool.ov b0_7 M :: L :: Fr) (fun s_ => h9 (.inl s_.1) = some r) ?_ (fun d1 => ?_)
 ·rintro ⟨k2, k3⟩ j; have j := (k0 _).symm.trans j
  ·refine sR 1 rfl (nT (At.seq ?_)); refine At.block ?_; obtain ⟨k4, k5, r5, j⟩ := bjoin j; obtain ⟨a3, d2, k6⟩ := bsome j; clear j; unfold Q35.l0 at d2; obtain ⟨d3, a4⟩ := Q17.1 d2; clear d2; refine At.nilRow (Fl.int .i64) 3 ?_; let U : HProp := row Fl.bs 9 A0_3 q.length c0_3 q; let V : HProp := row Q3.fl 32 A0_4 u.length c0_4 u; let a5 : HProp := grow Q4.ow 35 A0_5 p.length c0_5 p; let Z : HProp := row Q9.fl 144 A0_6 x.length c0_6 x; let a0 : HProp := mapo Fl.bs.ov Fl.bool.ov b0_7 M; refine At.loopJ (X := (List Int) × (Option Q5) × (List Q1) × Nat × (Option Addr) × Nat × (Option Nat) × (Option Addr) × Nat × Nat) (Y := (Option Q5) × (List Int) × (List Q1) × (Option Nat) × Nat × (Option Addr) × Nat × (Option Addr) × Nat × Nat) (e0 := 1) (fun s_ => [(0, bp b0), (2, bp O), (3, .slice s_.2.2.2.2.1 s_.2.2.2.1 s_.2.2.2.2.2.1)]) (fun s_ => row (Fl.int .i64) 3 s_.2.2.2.2.1 s_.2.2.2.1 s_.2.2.2.2.2.1 s_.1 :: optb (Ow.fl Q5.fl) 107 s_.2.2.2.2.2.2.1 s_.2.1 :: pc b0 [.slice s_.2.2.2.2.2.2.2.1 (d8 s_).1 (d8 s_).2, optp s_.2.2.2.2.2.2.1, i6 J, .slice A0_3 q.length c0_3, .slice A0_4 u.length c0_4, .slice A0_5 p.length c0_5, .slice A0_6 x.length c0_6, .map (some b0_7)] 99 :: U :: V :: a5 :: Z :: a0 :: L :: Fr) (fun m_ => fun s_ => iterN (fun t_ : (List Int) × (Option Q5) × (List Q1) => Q35.l0b J q u p x M t_.1 t_.2.1 t_.2.2) m_ (s_.1, s_.2.1, s_.2.2.1) = some a3 ∧ s_.1.length = s_.2.2.2.1 ∧ RdS Q1.fl.rep R.heap s_.2.2.2.2.2.2.2.1 s_.2.2.1 ∧ s_.2.2.1.length = (d8 s_).1 ∧ (d8 s_).1 ≤ (d8 s_).2) d3 (([] : List Int), k2, D.2.1, 0, none, 0, k3, c9, D.2.1.length, d0) ⟨a4, rfl, b4, rfl, b5⟩ (fun s_ => [(0, bp b0), (2, bp O), (3, .slice s_.2.2.2.2.2.1 s_.2.2.2.2.1 s_.2.2.2.2.2.2.1)]) (fun s_ => pc b0 [.slice s_.2.2.2.2.2.2.2.1 (d8 s_).1 (d8 s_).2, optp s_.2.2.2.1, i6 J, .slice A0_3 q.length c0_3, .slice A0_4 u.length c0_4, .slice A0_5 p.length c0_5, .slice A0_6 x.length c0_6, .map (some b0_7)] 99 :: optb (Ow.fl Q5.fl) 107 s_.2.2.2.1 s_.1 :: U :: V :: a5 :: Z :: a0 :: row (Fl.int .i64) 3 s_.2.2.2.2.2.1 s_.2.2.2.2.1 s_.2.2.2.2.2.2.1 s_.2.1 :: L :: Fr) (fun s_ => k4 (.inl (s_.1, s_.2.1, s_.2.2.1)) = some r ∧ s_.2.1.length = s_.2.2.2.2.1 ∧ RdS Q1.fl.rep R.heap s_.2.2.2.2.2.2.2.1 s_.2.2.1 ∧ s_.2.2.1.length = (d8 s_).1 ∧ (d8 s_).1 ≤ (d8 s_).2) (fun a w e hs => ⟨e.sub ⟨rfl, rfl, rfl, trivial⟩, (by exact hs)⟩) ?_ (fun k7 => ?_)
   ·rintro ⟨g3, a6, d4, b6, k8, b7, b8, g4, k9, g5⟩ ⟨j, l4, l5, l6, l7⟩; obtain rfl : a6.length = k8 := l4; obtain rfl : d4.length = k9 := l6; have j := (k5 _).symm.trans j
    ·refine At.ibx ?_; refine At.thn (sR 1 rfl (At.f7 ?_)); obtain ⟨b9, l8, j⟩ := bbind j; refine At.call rfl Q71.callee rfl rfl rfl (Q71.spec rfl l8) ?_; rintro _ _ ⟨rfl, rfl⟩; refine nT ?_; refine At.held [optb (Ow.fl Q5.fl) 107 b6 g3, U, V, Z, a0, L] 16 rfl ?_; refine At.H.pw 0 rfl rfl rfl rfl rfl (.c (.s (.s .z)) (.c (.s (.s .z)) (.c (.s (.s .z)) (.c (.s (.s (.s .z))) (.c (.s (.s (.s .z))) (.c (.s (.s (.s .z))) .n)))))) ?_; refine At.H.pw 1 rfl rfl rfl rfl rfl (.c (.s (.s .z)) (.c (.s (.s .z)) (.c (.s (.s .z)) (.c (.s (.s (.s .z))) (.c (.s (.s (.s .z))) (.c (.s (.s (.s .z))) .n)))))) ?_; refine At.H.pw 2 rfl rfl rfl rfl rfl (.c (.s (.s .z)) (.c (.s (.s .z)) (.c (.s (.s .z)) (.c (.s (.s (.s .z))) (.c (.s (.s (.s .z))) (.c (.s (.s (.s .z))) .n)))))) ?_; refine At.H.pw 3 rfl rfl rfl rfl rfl (.c (.s (.s .z)) (.c (.s (.s .z)) (.c (.s (.s .z)) (.c (.s (.s (.s .z))) (.c (.s (.s (.s .z))) (.c (.s (.s (.s .z))) .n)))))) ?_; refine At.H.pw 4 rfl rfl rfl rfl rfl (.c (.s (.s .z)) (.c (.s (.s .z)) (.c (.s (.s .z)) (.c (.s (.s (.s .z))) (.c (.s (.s (.s .z))) (.c (.s (.s (.s .z))) .n)))))) ?_; refine At.H.pw 6 rfl rfl rfl rfl rfl (.c (.s (.s .z)) (.c (.s (.s .z)) (.c (.s (.s .z)) (.c (.s (.s (.s .z))) (.c (.s (.s (.s .z))) (.c (.s (.s (.s .z))) .n)))))) ?_; refine At.H.tw 7 rfl (Y.load rfl rfl (.s (.s (.s (.s (.s .z))))) rfl rfl rfl) rfl rfl rfl (.c (.s (.s .z)) (.c (.s (.s .z)) (.c (.s (.s .z)) (.c (.s (.s (.s .z))) (.c (.s (.s (.s .z))) (.c (.s (.s (.s .z))) .n)))))) ?_; refine At.H.pw 8 rfl rfl rfl rfl rfl (.c (.s (.s .z)) (.c (.s (.s .z)) (.c (.s (.s .z)) (.c (.s (.s (.s .z))) (.c (.s (.s (.s .z))) (.c (.s (.s (.s .z))) .n)))))) ?_; refine At.H.tw 9 rfl (Y.build (is := [0, 1]) (xo := [.tmp 77, .tmp 78]) (vs := [.string ⟨(D.2.2.2.2.1).toArray⟩, .slice b7 a6.length b8]) (cs := [.string ⟨(D.2.2.2.2.1).toArray⟩, .slice b7 a6.length b8]) rfl rfl rfl rfl rfl rfl) rfl rfl rfl (.c (.s (.s .z)) (.c (.s (.s .z)) (.c (.s (.s .z)) (.c (.s (.s (.s .z))) (.c (.s (.s (.s .z))) (.c (.s (.s (.s .z))) .n)))))) ?_; obtain ⟨g6, j⟩ := bnone j; refine At.H.joinK (X := (Option Addr) × Nat) (fun s_ => []) (fun s_ => pc b0 [.slice g4 d4.length g5, optp b6, i6 J, .slice A0_3 q.length c0_3, .slice A0_4 u.length c0_4, .slice s_.1 ((p ++ [(⟨D.2.2.2.2.1, b9⟩ : Q4)]).length) s_.2, .slice A0_6 x.length c0_6, .map (some b0_7)] 99 :: grow Q4.ow 35 s_.1 ((p ++ [(⟨D.2.2.2.2.1, b9⟩ : Q4)]).length) s_.2 (p ++ [(⟨D.2.2.2.2.1, b9⟩ : Q4)]) :: optb (Ow.fl Q5.fl) 107 b6 g3 :: U :: V :: Z :: a0 :: L :: Fr) (fun s_ => True) ?_ (fun g7 => ?_)
     ·rintro ⟨l9, m0⟩ -
      ·refine At.drop (.s (.s (.s (.s (.s (.s (.s .z))))))) (At.f6 (At.f6 (At.f3 (At.f6 (At.f6 (At.f5 (At.f6 ?_))))))); cases bret j; exact At.res (.inr rfl) rfl rfl ⟨(p ++ [(⟨D.2.2.2.2.1, b9⟩ : Q4)]).length, l9, m0, b6, g4, d4.length, g5, rfl, rfl, rfl, l5, rfl, l7⟩
     ·refine At.H.al [5, 10] (Q6 ?_ (Q6 ?_ Q7))
      ··refine At.HO.op rfl ?_
        refine At.y (Y.load rfl rfl (.s .z) rfl rfl rfl) rfl rfl rfl ?_; refine At.HO.back (.c (.s (.s .z)) (.c (.s (.s .z)) (.c (.s (.s .z)) (.c (.s (.s (.s .z))) (.c (.s (.s (.s .z))) (.c (.s (.s (.s .z))) .n)))))) ?_; refine At.H.al [10] (Q6 ?_ Q7)
        ··refine At.HO.op rfl ?_
          refine At.lit rfl (xo := [.tmp 79]) (ys := ([rawOf (Q4.ow).sz [.string ⟨(D.2.2.2.2.1).toArray⟩, .slice b7 a6.length b8] rfl rfl] : List (Raw (Q4.ow).sz))) (Fl.raw (Q4.ow).sz (Q4.ow).pos) rfl rfl rfl rfl rfl rfl rfl rfl rfl rfl rfl (fun r6 r7 => ?_); refine At.HO.back (.c (.s (.s (.s .z))) (.c (.s (.s (.s .z))) (.c (.s (.s (.s .z))) (.c (.s (.s (.s (.s .z)))) (.c (.s (.s (.s (.s .z)))) (.c (.s (.s (.s (.s .z)))) .n)))))) ?_; refine At.H.al [11] (Q6 ?_ Q7)
          ··refine At.HO.op rfl ?_
            refine At.f1 (At.f1 (At.f6 ?_)); refine At.appendGrow (T := Q4.ow) rfl rfl Q4.ent rfl rfl rfl rfl rfl rfl rfl rfl rfl g6 (by decide) rfl (fun m1 m2 => ?_); refine At.HO.back (.c (.s (.s .z)) (.c (.s (.s .z)) (.c (.s (.s .z)) (.c (.s (.s .z)) (.c (.s (.s .z)) (.c (.s (.s .z)) .n)))))) ?_; refine At.H.pw 12 rfl rfl rfl rfl rfl (.c (.s (.s .z)) (.c (.s (.s .z)) (.c (.s (.s .z)) (.c (.s (.s .z)) (.c (.s (.s .z)) (.c (.s (.s .z)) .n)))))) ?_; refine At.H.pw 13 rfl rfl rfl rfl rfl (.c (.s (.s .z)) (.c (.s (.s .z)) (.c (.s (.s .z)) (.c (.s (.s .z)) (.c (.s (.s .z)) (.c (.s (.s .z)) .n)))))) ?_; refine At.H.pw 14 rfl rfl rfl rfl rfl (.c (.s (.s .z)) (.c (.s (.s .z)) (.c (.s (.s .z)) (.c (.s (.s .z)) (.c (.s (.s .z)) (.c (.s (.s .z)) .n)))))) ?_; refine At.H.al [15] (Q6 ?_ Q7)
            ··refine At.HO.op rfl ?_
              refine At.store rfl rfl rfl rfl (.s .z) rfl rfl rfl (.s (.s (.s (.s (.s (.c .n)))))) ?_; refine At.HO.back (.c (.s (.s .z)) (.c (.s (.s .z)) (.c (.s (.s .z)) (.c (.s (.s .z)) (.c (.s (.s .z)) (.c (.s (.s .z)) .n)))))) ?_; refine At.H.done (by kernel_rfl) ?_; exact At.of (g7 (m1, m2) trivial) trivial
      ··refine At.HO.op rfl ?_
        refine At.lit rfl (xo := [.tmp 79]) (ys := ([rawOf (Q4.ow).sz [.string ⟨(D.2.2.2.2.1).toArray⟩, .slice b7 a6.length b8] rfl rfl] : List (Raw (Q4.ow).sz))) (Fl.raw (Q4.ow).sz (Q4.ow).pos) rfl rfl rfl rfl rfl rfl rfl rfl rfl rfl rfl (fun r8 r9 => ?_); refine At.HO.back (.c (.s (.s (.s .z))) (.c (.s (.s (.s .z))) (.c (.s (.s (.s .z))) (.c (.s (.s (.s (.s .z)))) (.c (.s (.s (.s (.s .z)))) (.c (.s (.s (.s (.s .z)))) .n)))))) ?_; refine At.H.al [5] (Q6 ?_ Q7)
        ··refine At.HO.op rfl ?_
          refine At.y (Y.load rfl rfl (.s (.s .z)) rfl rfl rfl) rfl rfl rfl ?_; refine At.HO.back (.c (.s (.s (.s .z))) (.c (.s (.s (.s .z))) (.c (.s (.s (.s .z))) (.c (.s (.s (.s (.s .z)))) (.c (.s (.s (.s (.s .z)))) (.c (.s (.s (.s (.s .z)))) .n)))))) ?_; refine At.H.al [11] (Q6 ?_ Q7)
          ··refine At.HO.op rfl ?_
            refine At.f1 (At.f1 (At.f6 ?_)); refine At.appendGrow (T := Q4.ow) rfl rfl Q4.ent rfl rfl rfl rfl rfl rfl rfl rfl rfl g6 (by decide) rfl (fun m3 m4 => ?_); refine At.HO.back (.c (.s (.s .z)) (.c (.s (.s .z)) (.c (.s (.s .z)) (.c (.s (.s .z)) (.c (.s (.s .z)) (.c (.s (.s .z)) .n)))))) ?_; refine At.H.pw 12 rfl rfl rfl rfl rfl (.c (.s (.s .z)) (.c (.s (.s .z)) (.c (.s (.s .z)) (.c (.s (.s .z)) (.c (.s (.s .z)) (.c (.s (.s .z)) .n)))))) ?_; refine At.H.pw 13 rfl rfl rfl rfl rfl (.c (.s (.s .z)) (.c (.s (.s .z)) (.c (.s (.s .z)) (.c (.s (.s .z)) (.c (.s (.s .z)) (.c (.s (.s .z)) .n)))))) ?_; refine At.H.pw 14 rfl rfl rfl rfl rfl (.c (.s (.s .z)) (.c (.s (.s .z)) (.c (.s (.s .z)) (.c (.s (.s .z)) (.c (.s (.s .z)) (.c (.s (.s .z)) .n)))))) ?_; refine At.H.al [15] (Q6 ?_ Q7)
            ··refine At.HO.op rfl ?_
              refine At.store rfl rfl rfl rfl (.s .z) rfl rfl rfl (.s (.s (.s (.s (.s (.c .n)))))) ?_; refine At.HO.back (.c (.s (.s .z)) (.c (.s (.s .z)) (.c (.s (.s .z)) (.c (.s (.s .z)) (.c (.s (.s .z)) (.c (.s (.s .z)) .n)))))) ?_; refine At.H.done (by kernel_rfl) ?_; exact At.of (g7 (m3, m4) trivial) trivial
   ·clear a4 d3; rintro d3 ⟨G, d5, a7, m5, a1, a2, a8, g8, m6, g9⟩ ⟨a4, m7, d6, m8, d7⟩; obtain rfl : G.length = m5 := m7; obtain rfl : a7.length = m6 := m8; obtain ⟨m9, f_, n2, hf_, j⟩ := bit a4; clear a4; have j : (Q35.l0b J q u p x M G d5 a7).bind _ = some a3 := j; unfold Q35.l0b at j
    ·refine At.seq (sR 3 rfl (At.y (Y.load rfl rfl (.s (.s .z)) rfl rfl rfl) rfl rfl rfl ?_)); refine At.y (Y.eqOpt (.s .z) rfl rfl rfl rfl) rfl rfl rfl ?_; refine At.run 1 rfl ?_; obtain ⟨n3, n4, s0, j⟩ := bjoin j; let n5 : HProp := pc b0 [.slice g8 a7.length g9, optp a8, i6 J, .slice A0_3 q.length c0_3, .slice A0_4 u.length c0_4, .slice A0_5 p.length c0_5, .slice A0_6 x.length c0_6, .map (some b0_7)] 99; refine At.joinO 4 (X := Bool) (fun a9 => [(0, bp b0), (2, bp O), (3, .slice a1 G.length a2), (45, .bool a9)]) (fun a9 => n5 :: optb (Ow.fl Q5.fl) 107 a8 d5 :: U :: V :: a5 :: Z :: a0 :: row (Fl.int .i64) 3 a1 G.length a2 G :: L :: Fr) (fun a9 => n3 (.inl a9) = some a3) ?_ (fun h0 => ?_)
     ·rintro a9 j; have j := (n4 _).symm.trans j
      ·refine nT ?_; rcases bite j with ⟨d9, j⟩ | ⟨d9, j⟩
       ··refine At.condT rfl d9 ?_
         refine At.skip (At.thn ?_); refine At.block ?_; refine sR 1 rfl ?_; obtain ⟨I, n6, j⟩ := bbind j; refine At.call rfl Q90.callee rfl rfl rfl (Q90.spec a8 d6 rfl d7 rfl rfl rfl rfl n6) ?_; rintro _ _ ⟨c4, e1, s1, e2, rfl, rfl, h1, rfl, h2⟩; refine At.run 3 rfl ?_; refine At.alloc rfl rfl rfl (fun h3 => ?_); refine At.store rfl rfl rfl rfl .z rfl rfl rfl (.c (.c (.c (.c .n)))) ?_; refine At.run 1 rfl (nT (At.seq (sR 3 rfl (At.y (Y.load rfl rfl (.s (.s .z)) rfl rfl rfl) rfl rfl rfl ?_)))); refine At.y (Y.eqOpt (.s .z) rfl rfl rfl rfl) rfl rfl rfl ?_; refine At.run 1 rfl ?_; obtain ⟨n7, n8, s2, j⟩ := bjoin j; let h4 : HProp := pc h3 [i6 I.2.2.2.1, i6 I.2.2.2.2.1, .string ⟨(I.2.2.2.2.2.1).toArray⟩, i6 I.2.2.2.2.2.2] 101; let n9 : HProp := pc b0 [.slice e1 I.2.1.length e2, optp c4, i6 J, .slice A0_3 q.length c0_3, .slice A0_4 u.length c0_4, .slice A0_5 p.length c0_5, .slice A0_6 x.length c0_6, .map (some b0_7)] 99; refine At.joinO 4 (X := Bool) (fun b2 => [(0, bp b0), (2, bp O), (3, .slice a1 G.length a2), (4, bp h3), (5, i6 I.2.2.1), (60, .bool b2)]) (fun b2 => row (Fl.int .i64) 3 a1 G.length a2 G :: h4 :: optb (Ow.fl Q5.fl) 107 c4 I.1 :: n9 :: U :: V :: a5 :: Z :: a0 :: L :: Fr) (fun b2 => n7 (.inl b2) = some a3) ?_ (fun h5 => ?_)
         ·rintro b2 j; have j := (n8 _).symm.trans j
          ·refine nT ?_; obtain ⟨o0, o7, s3, j⟩ := bjoin j; refine At.join (X := (Option Q5) × (Option Nat)) (fun s_ => [(0, bp b0), (2, bp O), (3, .slice a1 G.length a2), (5, i6 I.2.2.1)]) (fun s_ => optb (Ow.fl Q5.fl) 107 s_.2 s_.1 :: pc b0 [.slice e1 I.2.1.length e2, optp s_.2, i6 J, .slice A0_3 q.length c0_3, .slice A0_4 u.length c0_4, .slice A0_5 p.length c0_5, .slice A0_6 x.length c0_6, .map (some b0_7)] 99 :: U :: V :: a5 :: Z :: a0 :: row (Fl.int .i64) 3 a1 G.length a2 G :: h4 :: L :: Fr) (fun s_ => o0 (.inl s_.1) = some a3) ?_ (fun h6 => ?_)
           ·rintro ⟨o8, o9⟩ j; have j := (o7 _).symm.trans j
            ·refine At.region (At.run 2 rfl ?_); refine At.lit rfl (xo := [.tmp 65]) (ys := ([I.2.2.1] : List Int)) (Fl.int .i64) rfl rfl rfl rfl rfl rfl rfl rfl rfl rfl rfl (fun s4 s5 => ?_); obtain ⟨p0, j⟩ := bnone j; refine At.append rfl (.s (.s (.s (.s (.s (.s (.s (.s .z)))))))) (Src.own .z (by simp)) rfl rfl rfl rfl rfl rfl rfl rfl p0 (by decide) rfl (fun p1 p2 => ?_); refine At.drop (.s .z) (At.run 1 rfl (At.nil ?_)); refine At.ibn ?_; refine At.drop (.s (.s (.s (.s (.s (.s (.s (.s .z)))))))) ?_; have j := bnx hf_ j; exact fun a w e hs => ⟨m9, ((G ++ ([I.2.2.1] : List Int)), o8, I.2.1, (G ++ ([I.2.2.1] : List Int)).length, p1, p2, o9, e1, I.2.1.length, e2), n2, ⟨j, rfl, h1, rfl, h2⟩, e.sub ⟨rfl, rfl, rfl, trivial⟩, hs⟩
           ··rcases bite j with ⟨e3, j⟩ | ⟨e3, j⟩
             ··refine At.condT rfl e3 ?_
               refine At.region (At.run 1 rfl (At.y (Y.load rfl rfl (.s .z) rfl rfl rfl) rfl rfl rfl (At.f8 (At.f8 (At.f8 (At.f8 (At.f8 ?_))))))); refine At.f7 (At.f8 ?_); obtain ⟨p3, p4, j⟩ := bbind j; refine At.call rfl Q16.callee rfl rfl rfl (Q16.spec c4 h1 rfl h2 rfl rfl rfl rfl p4) ?_; rintro _ _ ⟨p5, rfl, rfl⟩; refine nT ?_; exact fun a w e hs => h6 (p3, p5) j a w (e.sub ⟨rfl, rfl, rfl, rfl, trivial⟩) hs
             ··refine At.condF rfl (bn e3) ?_
               refine At.skip (At.thn (At.f9 (At.f2 (At.f2 (At.f9 (At.f9 (At.f9 ?_))))))); refine At.f9 (At.f9 (At.f9 (At.f9 ?_))); exact fun a w e hs => h6 (I.1, c4) j a w (e.sub ⟨rfl, rfl, rfl, rfl, trivial⟩) hs
         ··rcases bite j with ⟨e4, j⟩ | ⟨e4, j⟩
           ··refine At.know (t := 56) rfl e4 ?_
             refine At.run 2 rfl ?_; refine At.freeze (.s (.s (.s (.s (.s (.s (.s (.s .z)))))))) fun s6 p6 p7 p8 s7 p9 => ?_; obtain ⟨q0, q1, j⟩ := bbind j; refine At.call rfl Q138.callee rfl rfl rfl (Q138.spec p6 p7 p8 q1) ?_; rintro _ _ ⟨rfl, rfl⟩; refine At.run 1 rfl ?_; refine At.thaw p9 ?_; exact At.of (h5 q0 j) ⟨rfl, rfl, rfl, rfl, rfl, rfl, trivial⟩
           ··refine At.know (t := 56) rfl (bn e4) ?_
             refine At.run 4 rfl (At.f9 (At.f8 (At.f8 (At.f8 (At.f8 (At.f8 (At.f8 ?_))))))); refine At.f8 (At.f8 (At.f9 ?_)); exact At.of (h5 false j) ⟨rfl, rfl, rfl, rfl, rfl, rfl, trivial⟩
       ··refine At.condF rfl (bn d9) ?_
         refine At.exit ?_; refine At.the ?_; refine At.the ?_; exact fun a w e hs => k7 (d5, G, a7, a8, G.length, a1, a2, g8, a7.length, g9) ⟨(bdn j k6), rfl, d6, rfl, d7⟩ a w (e.sub ⟨rfl, rfl, rfl, trivial⟩) hs
     ··rcases bite j with ⟨e5, j⟩ | ⟨e5, j⟩
       ··refine At.know (t := 41) rfl e5 ?_
         refine At.run 1 rfl (At.f7 (At.f7 (At.f7 (At.f7 (At.f7 (At.f6 (At.f7 ?_))))))); obtain ⟨q2, q3, j⟩ := bbind j; refine At.call rfl Q108.callee rfl rfl rfl (Q108.spec a8 d6 rfl d7 rfl rfl rfl rfl q3) ?_; rintro _ _ ⟨rfl, rfl⟩; refine At.run 2 rfl ?_; exact At.of (h0 (!q2) j) ⟨rfl, rfl, rfl, rfl, trivial⟩
       ··refine At.know (t := 41) rfl (bn e5) ?_
         refine At.run 4 rfl (At.f8 (At.f1 (At.f8 (At.f8 (At.f8 (At.f8 (At.f8 ?_))))))); refine At.f7 (At.f8 ?_); exact At.of (h0 false j) ⟨rfl, rfl, rfl, rfl, trivial⟩
 ··refine At.block ?_
   refine sR 3 rfl (At.y (Y.load rfl rfl (.s (.s .z)) rfl rfl rfl) rfl rfl rfl ?_); refine At.y (Y.neOpt (.s .z) rfl rfl rfl rfl) rfl rfl rfl ?_; refine At.run 1 rfl (nT ?_); rcases bite j with ⟨e6, j⟩ | ⟨e6, j⟩
   ··refine At.condF rfl (nf e6) ?_
     refine sR 4 rfl (At.y (Y.load rfl rfl (.s (.s .z)) rfl rfl rfl) rfl rfl rfl (At.run 3 rfl (nT ?_))); rcases bite j with ⟨e7, j⟩ | ⟨e7, j⟩
     ··refine At.condT rfl (decide_eq_true e7) ?_
       refine At.region (At.run 1 rfl (At.y (Y.load rfl rfl .z rfl rfl rfl) rfl rfl rfl (At.f7 (At.f7 (At.f7 (At.f7 (At.f7 ?_))))))); refine At.f6 (At.f7 ?_); obtain ⟨q4, q5, j⟩ := bbind j; refine At.call rfl Q16.callee rfl rfl rfl (Q16.spec b3 b4 rfl b5 rfl rfl rfl rfl q5) ?_; rintro _ _ ⟨q6, rfl, rfl⟩; refine At.nil ?_; refine At.ibn ?_; refine At.thn ?_; exact fun a w e hs => d1 (q4, q6) j a w (e.sub ⟨rfl, rfl, trivial⟩) hs
     ··refine At.condF rfl (decide_eq_false e7) ?_
       refine sR 4 rfl (At.y (Y.load rfl rfl (.s (.s .z)) rfl rfl rfl) rfl rfl rfl (At.run 1 rfl ?_)); refine At.freezeGrow (.s (.s (.s (.s (.s .z))))) fun s8 q7 q8 q9 s9 h7 => ?_; obtain ⟨t0, r0, j⟩ := bbind j; refine At.call rfl Q134.callee rfl rfl rfl (Q134.spec q7 q8 q9 r0) ?_; rintro _ _ ⟨rfl, rfl⟩; refine At.run 1 rfl (nT ?_); rcases bite j with ⟨e8, j⟩ | ⟨e8, j⟩
       ··refine At.condT rfl e8 ?_
         refine At.region (At.run 1 rfl (At.y (Y.load rfl rfl .z rfl rfl rfl) rfl rfl rfl ?_)); refine At.thaw h7 ?_; refine At.f7 (At.f7 (At.f2 (At.f7 (At.f7 (At.f6 (At.f7 ?_)))))); obtain ⟨r1, r2, j⟩ := bbind j; refine At.call rfl Q16.callee rfl rfl rfl (Q16.spec b3 b4 rfl b5 rfl rfl rfl rfl r2) ?_; rintro _ _ ⟨r3, rfl, rfl⟩; refine At.nil ?_; refine At.ibn ?_; refine At.thn ?_; exact fun a w e hs => d1 (r1, r3) j a w (e.sub ⟨rfl, rfl, trivial⟩) hs
       ··refine At.condF rfl (bn e8) ?_
         refine At.skip ?_; refine At.ibn ?_; refine At.thn ?_; refine At.thaw h7 ?_; refine At.f1 (At.f7 (At.f7 (At.f3 (At.f7 (At.f7 (At.f7 (At.f7 ?_))))))); exact fun a w e hs => d1 (D.1, b3) j a w (e.sub ⟨rfl, rfl, trivial⟩) hs
   ··refine At.condT rfl (nt (bn e6)) ?_
     refine At.ret ?_; refine At.ibr ?_; have j := bup k1 j; refine At.thr (At.drop .z ?_); cases bret j; exact At.res (.inl rfl) rfl rfl ⟨p.length, A0_5, c0_5, b3, c9, D.2.1.length, d0, rfl, rfl, rfl, b4, rfl, b5⟩

noncomputable def Q83.f (a0 : List Bs) : Option (List Bs) := if a0.length < 4611686018427387904 then some (a0.mergeSort fun x y => decide (x ≤ y)) else none
theorem Q83.callee : Callee Tryz.prog 94 := ⟨_, Tryz.func94, by kernel_rfl, by kernel_rfl⟩
theorem Q83.spec {a0 : List Bs} (hn0 : a0.length = n0) {r : List Bs} (j : Q83.f a0 = some r) :
 Spec Tryz.prog 94 [.slice A0 n0 c0] R (row Fl.bs 9 A0 n0 c0 a0 :: Fr) (fun v l' => v = .tuple #[] ∧ row Fl.bs 9 A0 n0 c0 r :: Fr = l') := by
 unfold Q83.f at j; split at j
 ·rename_i hb; cases j; exact Q298 Tryz.sort94 R Fr hb
 ·cases j

noncomputable def Q52.l0b (a0 : List Bs) (a1 : Bs) (p : Int) : Option ((Int) ⊕ ((Unit) ⊕ (Int))) :=
 if p < (a0.length : Int) then
 if (0 : Int) ≤ p ∧ p < (a0.length : Int) then
 if bseq a1 (gt a0 p) = true then
 upL (some p)
 else
 nx (IntKind.i64.wrap (p + 1))
 else none
 else
 dn (.inl ())
noncomputable def Q52.l0 (a0 : List Bs) (a1 : Bs) (p : Int) : Option ((Unit) ⊕ (Int)) := iter (fun t_ : Int => Q52.l0b a0 a1 t_) p
noncomputable def Q52.f (a0 : List Bs) (a1 : Bs) : Option Int :=
 jn (Q52.l0 a0 a1 0) (fun (_ : Unit) =>
 some (-1))
theorem Q52.callee : Callee Tryz.prog 95 := ⟨_, Tryz.func95, by kernel_rfl, by kernel_rfl⟩
theorem Q52.spec {a0 : List Bs} {a1 : Bs} (hr0 : RdS Fl.bs.rep R.heap A0 a0) (hn0 : a0.length = n0) (hc0 : n0 ≤ c0) {r : Int} (j : Q52.f a0 a1 = some r) :
 Spec Tryz.prog 95 [.slice A0 n0 c0, .string ⟨(a1).toArray⟩] R (Fr) (fun v l' => v = i6 r ∧ Fr = l') := by
 subst hn0; refine Spec.of Tryz.func95 rfl rfl ?_; unfold Q52.f at j; have j := brun j; refine sR 1 rfl (nT (At.seq (At.seq (At.region ?_)))); refine At.run 3 rfl (nT ?_); refine At.block ?_; obtain ⟨O, U, V, j⟩ := bjoin j; obtain ⟨L, D, M⟩ := bsome j; clear j; unfold Q52.l0 at D; obtain ⟨G, u⟩ := Q17.1 D; clear D; refine At.loopJ (X := Int) (Y := Unit) (e0 := 0) (fun p => [(0, .slice A0 a0.length c0), (1, .string ⟨(a1).toArray⟩), (7, i6 (a0.length : Int)), (8, i6 p)]) (fun p => Fr) (fun m_ => fun p => iterN (fun t_ : Int => Q52.l0b a0 a1 t_) m_ p = some L) G 0 u (fun _ => []) (fun _ => Fr) (fun _ => O (.inl ()) = some r) (fun a w e hs => ⟨e.sub ⟨rfl, rfl, rfl, rfl, trivial⟩, (by exact hs)⟩) ?_ (fun Z => ?_)
 ·rintro _ j; have j := (U _).symm.trans j
  ·refine At.ibx ?_; refine At.thn (sR 1 rfl (nT (At.ret ?_))); cases bret j; exact At.res (.inl rfl) rfl rfl ⟨rfl, rfl⟩
 ·clear u G; rintro G p u; obtain ⟨a2, f_, a3, hf_, j⟩ := bit u; clear u; have j : (Q52.l0b a0 a1 p).bind _ = some L := j; unfold Q52.l0b at j
  ·refine sR 1 rfl (nT (At.seq ?_)); rcases bite j with ⟨I, j⟩ | ⟨I, j⟩
   ··refine At.condT rfl (decide_eq_true I) ?_
     refine At.skip (At.thn (At.seq ?_)); refine At.block ?_; refine sR 2 rfl (nT (sR 3 rfl ?_)); obtain ⟨x, j⟩ := bnone j; refine At.y (Y.ixRd hr0 rfl rfl rfl rfl rfl rfl rfl x.1 x.2) rfl rfl rfl (At.y (Y.ldFl hr0 rfl (q := 0) rfl rfl x.1 x.2 rfl rfl rfl) rfl rfl rfl (At.run 1 rfl (nT ?_))); rcases bite j with ⟨J, j⟩ | ⟨J, j⟩
     ··refine At.condT rfl J ?_
       refine sR 2 rfl (nT (At.ret ?_)); refine At.ibr ?_; refine At.thr ?_; have j := bupL V M j; refine At.thr ?_; refine At.ibr ?_; refine At.thr ?_; cases bret j; exact At.res (.inl rfl) rfl rfl ⟨rfl, rfl⟩
     ··refine At.condF rfl (bn J) ?_
       refine At.skip ?_; refine At.ibn ?_; refine At.thn (At.region (At.run 2 rfl (At.nil ?_))); have j := bnx hf_ j; exact fun a w e hs => ⟨a2, (IntKind.i64.wrap (p + 1)), a3, j, e.sub ⟨rfl, rfl, rfl, rfl, trivial⟩, hs⟩
   ··refine At.condF rfl (decide_eq_false I) ?_
     refine At.exit ?_; refine At.the ?_; refine At.the ?_; exact fun a w e hs => Z () (bdn j M) a w (e.sub trivial) hs

noncomputable def Q36.cmp (x y : Q3) : Option Int := Q96.f x.From x.Action x.To y.From y.Action y.To
open Classical in
noncomputable def Q36.f (a0 : List Q3) : Option (List Q3) := if a0.length < 4611686018427387904 ∧ CmpTot Q36.cmp then some (byCmp Q36.cmp a0) else none
theorem Q36.callee : Callee Tryz.prog 96 := ⟨_, Tryz.func96, by kernel_rfl, by kernel_rfl⟩
theorem Q36.spec {a0 : List Q3} (hn0 : a0.length = n0) {r : List Q3} (j : Q36.f a0 = some r) :
 Spec Tryz.prog 96 [.slice A0 n0 c0, .func (.func 63) #[] #[]] R (row Q3.fl 32 A0 n0 c0 a0 :: Fr) (fun v l' => v = .tuple #[] ∧ row Q3.fl 32 A0 n0 c0 r :: Fr = l') := by
 unfold Q36.f at j; split at j
 ·rename_i hb; cases j; refine Q291 Tryz.sort96 Q3.fl (fun w => (Q12 (P := Tryz.prog) (t := 32) (i := Tryz.ti32) rfl).run_isAgg w) (fun w => (Q12 (P := Tryz.prog) (t := 32) (i := Tryz.ti32) rfl).run_sizeOf w) (gcf Q36.cmp) hb.2.1.2 hb.2.2 63 (enters_of Tryz.func63 (by kernel_rfl) rfl) (fun R x y => Q96.spec (gcf_eq hb.2.1 x y)) R Fr hb.1
 ·cases j

noncomputable def Q39.cmp (x y : Q4) : Option Int := Q107.f x.Name x.States y.Name y.States
open Classical in
noncomputable def Q39.f (a0 : List Q4) : Option (List Q4) := if a0.length < 4611686018427387904 ∧ CmpSwo Q39.cmp ∧ CmpParts Q39.cmp a0 then some (byCmp Q39.cmp a0) else none
theorem Q39.callee : Callee Tryz.prog 97 := ⟨_, Tryz.func97, by kernel_rfl, by kernel_rfl⟩
theorem Q39.spec {a0 : List Q4} (hn0 : a0.length = n0) {r : List Q4} (j : Q39.f a0 = some r) :
 Spec Tryz.prog 97 [.slice A0 n0 c0, .func (.func 67) #[] #[]] R (grow Q4.ow 35 A0 n0 c0 a0 :: Fr) (fun v l' => v = .tuple #[] ∧ grow Q4.ow 35 A0 n0 c0 r :: Fr = l') := by
 unfold Q39.f at j; split at j
 ·rename_i hb; cases j; refine Q302 Tryz.sort97 Q4.ow (fun w => (Q12 (P := Tryz.prog) (t := 35) (i := Tryz.ti35) rfl).run_isAgg w) (fun w => (Q12 (P := Tryz.prog) (t := 35) (i := Tryz.ti35) rfl).run_sizeOf w) (gcf Q39.cmp) hb.2.1.2 67 (enters_of Tryz.func67 (by kernel_rfl) rfl) ?_ R Fr hb.1 hb.2.2; rintro R x y cs cs' ⟨_, _, rfl, rfl, ⟨_, _, rfl, hc0_1, hr0_1⟩⟩ ⟨_, _, rfl, rfl, ⟨_, _, rfl, hc1_1, hr1_1⟩⟩; exact Q107.spec hr0_1 rfl hc0_1 hr1_1 rfl hc1_1 (gcf_eq hb.2.1 x y)
 ·cases j

end Go.Bw
namespace Go.Bw
open Go Go.RowKit

noncomputable def anyOrder {α β : Type} (xs : List α) (F : List α → Option β) : Option β :=
 open Classical in if h : ∃ r, ∀ ys, ys.Perm xs → F ys = some r then some h.choose else none
theorem Q248 {α β : Type} {xs : List α} {F : List α → Option β} {r : β} : anyOrder xs F = some r ↔ ∀ ys, ys.Perm xs → F ys = some r := by
 unfold anyOrder
 constructor
 ·intro h
  split at h
  ·rename_i hx
   have := Option.some.inj h
   intro ys hy
   rw [← this]
   exact hx.choose_spec ys hy
  ·cases h
 ·intro h
  have hx : ∃ r, ∀ ys, ys.Perm xs → F ys = some r := ⟨r, h⟩
  rw [dif_pos hx]
  have h1 := hx.choose_spec xs (List.Perm.refl _)
  rw [h xs (List.Perm.refl _)] at h1
  exact h1.symm
theorem banyOrder {α β ω : Type} {xs : List α} {F : List α → Option β} {G : β → Option ω} {r : ω} (h : (anyOrder xs F).bind G = some r) : ∀ ys, ys.Perm xs → (F ys).bind G = some r := by
 obtain ⟨t, h1, h2⟩ := bsome h
 intro ys hy
 rw [Q248.1 h1 ys hy]
 exact h2
def foldO {σ α : Type} (step : σ → α → Option σ) : σ → List α → Option σ
 | s, [] => some s
 | s, x :: xs => (step s x).bind fun t => foldO step t xs
theorem Q216 {σ α : Type} {step : σ → α → Option σ} : ∀ {xs ys : List α} {s : σ}, foldO step s (xs ++ ys) = (foldO step s xs).bind fun t => foldO step t ys
 | [], _, _ => rfl
 | x :: xs, ys, s => by
  show (step s x).bind _ = ((step s x).bind _).bind _
  cases step s x with
  | none => rfl
  | some t => exact Q216 (xs := xs)
theorem foldO_go {σ α ω : Type} {step : σ → α → Option σ} {kvs : List α} {done rest : List α} {x : α} {s0 s : σ} {G : σ → Option ω} {r : ω} (h : ∀ ys, ys.Perm kvs → (foldO step s0 ys).bind G = some r) (hs : foldO step s0 done = some s) (hp : (done ++ x :: rest).Perm kvs) :
 ∃ t, step s x = some t ∧ foldO step s0 (done ++ [x]) = some t := by
 have := h _ hp
 rw [Q216, hs] at this
 obtain ⟨u, h1, _⟩ := bsome this
 obtain ⟨t, h2, _⟩ := bsome (show (step s x).bind (fun t => foldO step t rest) = some u from h1)
 refine ⟨t, h2, ?_⟩
 rw [Q216, hs]
 show (step s x).bind (fun t => foldO step t []) = _
 rw [h2]
 rfl
theorem foldO_end {σ α ω : Type} {step : σ → α → Option σ} {kvs : List α} {done : List α} {s0 s : σ} {G : σ → Option ω} {r : ω} (h : ∀ ys, ys.Perm kvs → (foldO step s0 ys).bind G = some r) (hs : foldO step s0 done = some s) (hp : done.Perm kvs) : G s = some r := by
 have := h _ hp
 rw [hs] at this
 exact this
noncomputable def ordered {σ τ α β : Type} (kvs : List α) (step : σ → α → Option σ) (s0 : σ) (out : σ → τ) (f : τ → Option β) : Option β := anyOrder kvs fun ys => (foldO step s0 ys).bind fun s => f (out s)
theorem bordered {σ τ α β ω : Type} {kvs : List α} {step : σ → α → Option σ} {s0 : σ} {out : σ → τ} {f : τ → Option β} {G0 : β → Option ω} {r : ω} (h : (ordered kvs step s0 out f).bind G0 = some r) :
 ∃ G : τ → Option ω, (∀ y, G y = (f y).bind G0) ∧ ∀ ys, ys.Perm kvs → (foldO step s0 ys).bind (fun s => G (out s)) = some r :=
 ⟨fun y => (f y).bind G0, fun _ => rfl, fun ys hy => by
  have := banyOrder h ys hy
  rwa [Option.bind_assoc] at this⟩
theorem rng_lt {α : Type} {kvs done tl : List α} {z : α} {m : Nat} (hp : (done ++ z :: tl).Perm kvs) (hm : m + done.length = kvs.length) : tl.length < m ∧ tl.length + (done ++ [z]).length = kvs.length := by
 have := hp.length_eq
 simp at this ⊢
 omega
theorem Q253 {α : Type} (xs : List α) : (List.range xs.length).filterMap (fun i => xs[i]?) = xs := by
 induction xs with
 | nil => rfl
 | cons x xs ih =>
  rw [List.length_cons, List.range_succ_eq_map, List.filterMap_cons, List.filterMap_map]
  simp only [List.getElem?_cons_zero, Function.comp_def, List.getElem?_cons_succ]
  rw [ih]
theorem Q229 {α : Type} {xs done : List α} {is : List Nat} (hd : done.map some = is.map fun i => xs[i]?) : done = is.filterMap fun i => xs[i]? := by
 induction is generalizing done with
 | nil => cases done <;> simp at hd ⊢
 | cons i is ih =>
  cases done with
  | nil => simp at hd
  | cons x done =>
   simp only [List.map_cons, List.cons.injEq] at hd
   rw [List.filterMap_cons, ← hd.1, ← ih hd.2]
theorem idx_perm {α : Type} {xs done : List α} {is : List Nat} (hn : is.Nodup) (hl : ∀ i ∈ is, i < xs.length) (hd : done.map some = is.map fun i => xs[i]?) : ∃ rest, (done ++ rest).Perm xs := by
 refine ⟨((List.range xs.length).filter fun i => !is.contains i).filterMap fun i => xs[i]?, ?_⟩
 rw [Q229 hd, ← List.filterMap_append]
 have hp : (is ++ (List.range xs.length).filter fun i => !is.contains i).Perm (List.range xs.length) := by
  refine (List.perm_ext_iff_of_nodup ?_ List.nodup_range).2 fun a => ?_
  ·rw [List.nodup_append]
   refine ⟨hn, List.nodup_range.filter _, fun a ha b hb hab => ?_⟩
   subst hab
   simp at hb
   exact hb.2 ha
  ·simp only [List.mem_append, List.mem_filter, List.mem_range]
   constructor
   ·rintro (h | h)
    ·exact hl a h
    ·exact h.1
   ·intro h
    by_cases ha : a ∈ is
    ·exact .inl ha
    ·exact .inr ⟨h, by simpa using ha⟩
 have := hp.filterMap fun i => xs[i]?
 rwa [Q253] at this
theorem idx_full {α : Type} {xs done : List α} {is : List Nat} (hn : is.Nodup) (hl : ∀ i ∈ is, i < xs.length) (hf : ∀ i < xs.length, i ∈ is) (hd : done.map some = is.map fun i => xs[i]?) : done.Perm xs := by
 rw [Q229 hd]
 have hp : is.Perm (List.range xs.length) := (List.perm_ext_iff_of_nodup hn List.nodup_range).2 fun a => by
  rw [List.mem_range]
  exact ⟨hl a, hf a⟩
 have := hp.filterMap fun i => xs[i]?
 rwa [Q253] at this
section
variable {κ ν : Type}
def rngo (kv : κ → Value) (vv : ν → Value) (b r : Nat) (kvs done : List (κ × ν)) : HProp := fun h =>
 ∃ (es : List MapEntry) (clock since stp : Nat) (seen : Array Nat) (is : List Nat), h b = some (.map es.toArray clock) ∧ h r = some (.mapIter (some b) since seen stp) ∧ b ≠ r ∧
  es.map (fun e => (e.key, e.val)) = kvs.map (fun p => (kv p.1, vv p.2)) ∧ es.Pairwise (fun x y => x.born < y.born) ∧ (∀ e ∈ es, e.born < clock) ∧ since = clock ∧ stp = clock ∧
  is.Nodup ∧ (∀ i ∈ is, i < kvs.length) ∧ (done.map some = is.map fun i => kvs[i]?) ∧ seen.toList.map some = is.map fun i => es[i]?.map (·.born)
end
section
variable {P : Program} [Tys P] {os : List Oper} {Q : Exit → Act → World → Prop} {rest : List Oper} {n : Nat} {ds : List Deferred} {R : Res} {env : List (Nat × Value)} {l l' : List HProp}
variable {d ty t : Nat} {pos : String} {af : Array Edge} {g : Option (Nat × Bool)} {κ ν : Type} [DecidableEq κ] {kv : κ → Value} {vv : ν → Value} {kvs done : List (κ × ν)} {b r kt et : Nat} {K : Act → World → Prop}
theorem At.rangeMap {x : Operand} {ii : TI} (f : Frt l (mapo kv vv b kvs) l') (hg : grd os env g = some true) (hi : ti P t = some ii) (hk : ii.k = .map kt et) (hx : ev env x = some (.map (some b))) (hd : Nat.blt d n = true)
 (h : ∀ r, At n ds R ((d, .pointer (some ⟨r, 0, none⟩)) :: env) (rngo kv vv b r kvs [] :: l') (wpList P os.toArray Q rest)) :
 At n ds R env l (wpList P os.toArray Q (⟨some d, .range t x, ty, pos, af, g⟩ :: rest)) := Q85 hg rfl hd fun a w e hs => by
 have hs1 := hs.frt f
 obtain ⟨es, clock, hb, _⟩ := Q192 hs1
 have hgo : (getObj b).run P w = .ok (.map es.toArray clock) w := MapKept.run_getObj_map hb
 have h1 := hs1.alloc (.mapIter (some b) clock #[] clock)
 refine ⟨_, w.alloc (.mapIter (some b) clock #[] clock), rngo kv vv b w.heap.size kvs [] :: l', ?_, ?_, h w.heap.size⟩
 ·simp [execOp, Instr.range, e.ev hx, run_underlying ((Q12 hi).map hk), hgo, Result.andThen]
 ·obtain ⟨ok, h0, ⟨k1, k2, p1, ⟨k3, k4, m1, st, d2, s3, s4⟩, d1, s1, s2⟩, dR, ss⟩ := h1
  have d13 : Disj k1 k3 := d1.sub (Sub.refl _) s3
  refine ⟨ok, h0, ⟨uni k1 k3, k4, ?_, st, Disj.uni_l (d1.sub (Sub.refl _) s4) d2, Q110 s1 (s3.trans s2), s4.trans s2⟩, dR, ss⟩
  obtain ⟨es', clock', hb', hm, hp, hc⟩ := m1
  have hne : b ≠ w.heap.size := fun e => by subst e; exact d13 _ _ _ p1 hb'
  have hbb : w.heap[b]? = some (.map es.toArray clock) := hb
  have heq : Obj.map es'.toArray clock' = .map es.toArray clock := by
   have h5 : (w.alloc (.mapIter (some b) clock #[] clock)).heap[b]? = some (.map es'.toArray clock') := ss _ _ (s2 _ _ (s3 _ _ hb'))
   rw [Below.heap_alloc _ _ _ (Array.getElem?_eq_some_iff.1 hb).1, hbb] at h5
   exact (Option.some.inj h5).symm
  cases heq
  exact ⟨es, clock, clock, clock, #[], [], Q88 d13 _ _ hb', Q89 k1 k3 _ _ p1, hne, hm, hp, hc, rfl, rfl, List.nodup_nil, by simp, by simp, by simp⟩
theorem sat_rng {w : World} (hs : sat R (rngo kv vv b r kvs done :: l) w) : ∃ (es : List MapEntry) (clock : Nat) (seen : Array Nat) (is : List Nat), w.heap[b]? = some (.map es.toArray clock) ∧ w.heap[r]? = some (.mapIter (some b) clock seen clock) ∧ b ≠ r ∧
 es.map (fun e => (e.key, e.val)) = kvs.map (fun p => (kv p.1, vv p.2)) ∧ es.Pairwise (fun x y => x.born < y.born) ∧ (∀ e ∈ es, e.born < clock) ∧
 is.Nodup ∧ (∀ i ∈ is, i < kvs.length) ∧ (done.map some = is.map fun i => kvs[i]?) ∧ seen.toList.map some = is.map fun i => es[i]?.map (·.born) := by
 obtain ⟨h1, ⟨es, clock, since, stp, seen, is, a1, a2, a3, a4, a5, a6, rfl, rfl, a7⟩, s⟩ := hs.head
 exact ⟨es, _, seen, is, s _ _ a1, s _ _ a2, a3, a4, a5, a6, a7⟩
theorem At.nextMap {x : Operand} (hg : grd os env g = some true) (hx : ev env x = some (.pointer (some ⟨r, 0, none⟩))) (f : Frt l (rngo kv vv b r kvs done) l') (hd : Nat.blt d n = true)
 (hF : done.Perm kvs → At n ds R ((d, .tuple #[.bool false]) :: env) (rngo kv vv b r kvs done :: l') (wpList P os.toArray Q rest))
 (hT : ∀ (z : κ × ν) tl, (done ++ z :: tl).Perm kvs → At n ds R ((d, .tuple #[.bool true, kv z.1, vv z.2]) :: env) (rngo kv vv b r kvs (done ++ [z]) :: l') (wpList P os.toArray Q rest)) :
 At n ds R env l (wpList P os.toArray Q (⟨some d, .next x false, ty, pos, af, g⟩ :: rest)) := Q85 hg rfl hd fun a w e hs => by
 have hs1 := hs.frt f
 obtain ⟨es, clock, seen, is, hb, hr, hne, hm, hbn, hcl, hn, hl, hdn, hsn⟩ := sat_rng hs1
 have hlen : es.length = kvs.length := Q174 hm
 have hinj : ∀ i j, i < es.length → j < es.length → es[i]?.map (·.born) = es[j]?.map (·.born) → i = j := fun i j hi hj he => by
  rw [List.getElem?_eq_getElem hi, List.getElem?_eq_getElem hj] at he
  simp at he
  have hp := List.pairwise_iff_getElem.1 hbn
  rcases Nat.lt_trichotomy i j with h3 | h3 | h3
  ·have := hp i j hi hj h3; omega
  ·exact h3
  ·have := hp j i hj hi h3; omega
 have hseen : ∀ i, i < es.length → (seen.contains (es[i]?.map (·.born)).get! = true ↔ i ∈ is) := fun i hi => by
  rw [List.getElem?_eq_getElem hi]
  simp only [Option.map_some, Option.get!_some]
  rw [Array.contains_iff_mem, ← Array.mem_toList_iff]
  constructor
  ·intro h
   have : some es[i].born ∈ seen.toList.map some := List.mem_map_of_mem h
   rw [hsn] at this
   obtain ⟨j, hj, hje⟩ := List.mem_map.1 this
   have := hinj j i (by rw [hlen]; exact hl j hj) hi (by rw [hje, List.getElem?_eq_getElem hi]; rfl)
   subst this; exact hj
  ·intro h
   have : es[i]?.map (·.born) ∈ seen.toList.map some := by rw [hsn]; exact List.mem_map_of_mem (f := fun i => es[i]?.map (·.born)) h
   obtain ⟨q, hq, hqe⟩ := List.mem_map.1 this
   rw [List.getElem?_eq_getElem hi] at hqe
   simp at hqe
   rw [← hqe]; exact hq
 rcases run_next_at (P := P) w ty r b clock clock seen es.toArray clock hr hb (fun x hx => hcl x (by simpa using hx)) (Nat.le_refl _) with ⟨h0, hrun⟩ | ⟨e1, he, w1, hal, hrun⟩
 ·refine ⟨.tuple #[.bool false], w, rngo kv vv b r kvs done :: l', ?_, hs1, hF ?_⟩
  ·simp only [execOp, e.ev hx, Sem.run_bind, hrun, Result.andThen, Sem.run_pure]
  ·refine idx_full hn hl (fun i hi => ?_) hdn
   have hi' : i < es.length := by omega
   have := all_seen es.toArray seen h0 es[i] (by simp)
   refine (hseen i hi').1 ?_
   rw [List.getElem?_eq_getElem hi']
   simpa using this
 ·obtain ⟨hem, hes⟩ := mem_left he
  have hem' : e1 ∈ es := by simpa using hem
  obtain ⟨i, hi, hie⟩ := List.getElem_of_mem hem'
  have hi' : i < kvs.length := by omega
  have hnot : i ∉ is := fun h => by
   have := (hseen i hi).2 h
   rw [List.getElem?_eq_getElem hi, hie] at this
   simp at this hes
   exact hes this
  have hkv : (e1.key, e1.val) = (kv kvs[i].1, vv kvs[i].2) := by
   have := congrArg (fun l => l[i]?) hm
   simp only [List.getElem?_map, List.getElem?_eq_getElem hi, List.getElem?_eq_getElem hi', Option.map_some, hie] at this
   exact Option.some.inj this
  obtain ⟨hk1, hk2⟩ := Prod.mk.inj hkv
  have hn' : (is ++ [i]).Nodup := by
   rw [List.nodup_append]
   exact ⟨hn, by simp, fun a ha c hc hac => by simp at hc; subst hc hac; exact hnot ha⟩
  have hl' : ∀ j ∈ is ++ [i], j < kvs.length := fun j hj => by
   rcases List.mem_append.1 hj with h | h
   ·exact hl j h
   ·simp at h; subst h; exact hi'
  have hdn' : (done ++ [kvs[i]]).map some = (is ++ [i]).map fun j => kvs[j]? := by
   rw [List.map_append, List.map_append, hdn]
   simp [hi']
  obtain ⟨tl, htl⟩ := idx_perm hn' hl' hdn'
  refine ⟨.tuple #[.bool true, kv kvs[i].1, vv kvs[i].2], ChangeMaps.setBlock w1 r (.mapIter (some b) clock (seen.push e1.born) clock), rngo kv vv b r kvs (done ++ [kvs[i]]) :: l', ?_, ?_, hT kvs[i] tl (by simpa using htl)⟩
  ·simp only [execOp, e.ev hx, Sem.run_bind, hrun, Result.andThen, Sem.run_pure, hk1, hk2]
  ·have hs2 : sat R (rngo kv vv b r kvs done :: l') w1 := by rcases hal with rfl | rfl <;> first | exact hs1 | exact hs1.drew
   have hb1 : w1.heap[b]? = some (.map es.toArray clock) := by rcases hal with rfl | rfl <;> exact hb
   have hr1 : w1.heap[r]? = some (.mapIter (some b) clock seen clock) := by rcases hal with rfl | rfl <;> exact hr
   obtain ⟨h1, ⟨es2, c2, s2, q2, seen2, is2, a1, a2, _⟩, s, kk⟩ := hs2.upd
   have hset := MapKept.heap_set (o' := .mapIter (some b) clock (seen.push e1.born) clock) hr1
   refine kk _ (fun x => if x = r then some (.mapIter (some b) clock (seen.push e1.born) clock) else h1 x) _ ⟨es, clock, clock, clock, seen.push e1.born, is ++ [i], ?_, if_pos rfl, hne, hm, hbn, hcl, rfl, rfl, hn', hl', hdn', ?_⟩ rfl rfl rfl (Nat.le_refl _) (fun x o hx hnn => ?_) (fun x o hx => ?_) (fun x o hx => ?_)
   ·show (if b = r then _ else h1 b) = _
    rw [if_neg hne]
    have := s _ _ a1
    simp only [wh] at this
    rw [hb1] at this
    rw [a1]; exact this.symm
   ·rw [Array.toList_push, List.map_append, hsn, List.map_append]
    simp [hi, hie]
   ·have hxr : x ≠ r := fun h => by subst h; rw [a2] at hnn; cases hnn
    show (w1.heap.setIfInBounds r _)[x]? = _
    rw [hset.2 x hxr]; exact hx
   ·by_cases hxr : x = r
    ·subst hxr
     have hx : (if x = x then some (Obj.mapIter (some b) clock (seen.push e1.born) clock) else h1 x) = some o := hx
     rw [if_pos rfl] at hx
     cases hx
     exact hset.1
    ·have hx : (if x = r then some (Obj.mapIter (some b) clock (seen.push e1.born) clock) else h1 x) = some o := hx
     rw [if_neg hxr] at hx
     show (w1.heap.setIfInBounds r _)[x]? = _
     rw [hset.2 x hxr]
     exact s x o hx
   ·by_cases hxr : x = r
    ·subst hxr; exact .inl ⟨_, a2⟩
    ·have hx : (if x = r then some (Obj.mapIter (some b) clock (seen.push e1.born) clock) else h1 x) = some o := hx
     rw [if_neg hxr] at hx; exact .inl ⟨o, hx⟩
theorem Y.entry {x : Operand} {z : κ × ν} {dd : Option Nat} (f : Frt l (rngo kv vv b r kvs (done ++ [z])) l') (hx : ev env x = some (.pointer (some ⟨r, 0, none⟩))) : Y P n ds R env l ⟨dd, .entry x, ty, pos, af, g⟩ (.tuple #[kv z.1, vv z.2]) := fun a w e hs => by
 have hs1 := hs.frt f
 obtain ⟨es, clock, seen, is, hb, hr, hne, hm, hbn, hcl, hn, hl, hdn, hsn⟩ := sat_rng hs1
 have hlen : es.length = kvs.length := Q174 hm
 rcases List.eq_nil_or_concat is with rfl | ⟨is0, i, rfl⟩
 ·simp at hdn
 ·rw [List.concat_eq_append] at *
  simp only [List.map_append, List.map_cons, List.map_nil] at hdn hsn
  have hi : i < kvs.length := hl i (by simp)
  have hie : i < es.length := by omega
  have hz : some z = kvs[i]? := by
   have := List.append_inj_right' hdn rfl
   simpa using this
  rw [List.getElem?_eq_getElem hi] at hz
  have hz' := Option.some.inj hz
  have hkv : (es[i].key, es[i].val) = (kv z.1, vv z.2) := by
   have := congrArg (fun l => l[i]?) hm
   simp only [List.getElem?_map, List.getElem?_eq_getElem hie, List.getElem?_eq_getElem hi, Option.map_some] at this
   rw [hz']
   exact Option.some.inj this
  obtain ⟨hk1, hk2⟩ := Prod.mk.inj hkv
  have hsz : seen.toList ≠ [] := fun h => by rw [h] at hsn; simp at hsn
  have hseen : ∃ s0 : Array Nat, seen = s0.push es[i].born := by
   refine ⟨⟨seen.toList.dropLast⟩, ?_⟩
   apply Array.ext'
   rw [Array.toList_push]
   show seen.toList = seen.toList.dropLast ++ [es[i].born]
   have h1 := List.dropLast_concat_getLast hsz
   have h2 : seen.toList.getLast hsz = es[i].born := by
    have h3 : (seen.toList.map some).getLast? = some (some es[i].born) := by rw [hsn]; simp [hie]
    rw [List.getLast?_map, List.getLast?_eq_some_getLast hsz] at h3
    simpa using h3
   rw [← h2]; exact h1.symm
  obtain ⟨s0, hs0⟩ := hseen
  rw [hs0] at hr
  have := run_entry_at (P := P) w r b clock s0 es.toArray clock es[i] hr hb (by simp) (by
   show (es.map (·.born)).Nodup
   exact List.pairwise_map.2 (hbn.imp fun h => Nat.ne_of_lt h))
  simp only [execOp, e.ev hx, this, Sem.run_bind, Result.andThen, Sem.run_pure, hk1, hk2]
theorem At.rngEnd (f : Frt l (rngo kv vv b r kvs done) l') (h : At n ds R env (mapo kv vv b kvs :: l') K) : At n ds R env l K := fun a w e hs => h a w e ((hs.frt f).imp fun h ⟨es, clock, _, _, _, _, a1, _, _, a4, a5, a6, _⟩ => ⟨es, clock, a1, a4, a5, a6⟩)
end
end Go.Bw
namespace Go.Bw
open Go Go.RowKit Go.Proofs
variable {R : Res} {Fr : List HProp} {b0 n0_0 c0_0 n0_3 c0_3 n0_4 c0_4 n0_5 c0_5 n0_6 c0_6 b0_7 : Nat} {A0_0 A0_3 A0_4 A0_5 A0_6 : Option Addr}
noncomputable def Q26.l1b (q : List Q9) (D : List Bs) (u : List Q3) (p : Int) : Option (((List Q3) × Int) ⊕ (((List Q3)) ⊕ ((List Q4) × (List Q3) × (List Bs) × Int))) :=
 if p < (q.length : Int) then
 if (0 : Int) ≤ p ∧ p < (q.length : Int) then
 (Q52.f D ((gt q p).action)).bind fun x =>
 if (u.length + ([(⟨(gt q p).from_, x, (gt q p).to⟩ : Q3)] : List Q3).length) * 24 ≤ 140737488355328 then
 nx ((u ++ ([(⟨(gt q p).from_, x, (gt q p).to⟩ : Q3)] : List Q3)), IntKind.i64.wrap (p + 1))
 else none
 else none
 else
 dn (.inl u)
noncomputable def Q26.l1 (p : List Q9) (q : List Bs) (u : List Q3) (x : Int) : Option (((List Q3)) ⊕ ((List Q4) × (List Q3) × (List Bs) × Int)) := iter (fun t_ : (List Q3) × Int => Q26.l1b p q t_.1 t_.2) (u, x)
noncomputable def Q26.l0b  (p : Bs × Bool) (q : List Bs) : Option ((List Bs)) :=
 if (q.length + ([p.1] : List Bs).length) * 16 ≤ 140737488355328 then
 some (q ++ ([p.1] : List Bs))
 else none
noncomputable def Q26.f (V : List Q1) (X : Option Q5) (q : Int) (u : List Bs) (x : List Q3) (D : List Q4) (G : List Q9) (I : List (Bs × Bool)) : Option ((List Q4) × (List Q3) × (List Bs) × Int) :=
 ordered I (fun (t_ : (List Bs)) (z_ : Bs × Bool) => Q26.l0b  z_ t_) u (fun J => J) (fun (L : List Bs) =>
 (Q83.f L).bind fun p =>
 jn (Q26.l1 G p x 0) (fun (M : List Q3) =>
 (Q36.f M).bind fun O =>
 (Q39.f D).bind fun U =>
 some (U, O, p, q)))
theorem Q26.callee : Callee Tryz.prog 48 := ⟨_, Tryz.func48, by kernel_rfl, by kernel_rfl⟩
theorem Q26.spec {M : List Q1} {a8 : Option Q5} {G : Int} {V : List Bs} {I : List Q3} {x : List Q4} {p : List Q9} {U : List (Bs × Bool)} (J : Option Nat) (hr0_0 : RdS Q1.fl.rep R.heap A0_0 M) (hn0_0 : M.length = n0_0) (hc0_0 : n0_0 ≤ c0_0) (hn0_3 : V.length = n0_3) (hn0_4 : I.length = n0_4) (hn0_5 : x.length = n0_5) (hn0_6 : p.length = n0_6) {r : (List Q4) × (List Q3) × (List Bs) × Int} (j : Q26.f M a8 G V I x p U = some r) :
 Spec Tryz.prog 48 [bp b0] R (pc b0 [.slice A0_0 n0_0 c0_0, optp J, i6 G, .slice A0_3 n0_3 c0_3, .slice A0_4 n0_4 c0_4, .slice A0_5 n0_5 c0_5, .slice A0_6 n0_6 c0_6, .map (some b0_7)] 99 :: optb (Ow.fl Q5.fl) 107 J a8 :: row Fl.bs 9 A0_3 n0_3 c0_3 V :: row Q3.fl 32 A0_4 n0_4 c0_4 I :: grow Q4.ow 35 A0_5 n0_5 c0_5 x :: row Q9.fl 144 A0_6 n0_6 c0_6 p :: mapo Fl.bs.ov Fl.bool.ov b0_7 U :: Fr) (fun v l' => ∃ (b5 : Nat) (c9 : Option Addr) (d0 : Nat) (b6 : Nat) (d1 : Option Addr) (d2 : Nat) (e1 : Value) (e2 : Value), v = .agg #[i6 r.2.2.2, .slice d1 b6 d2, .slice c9 b5 d0, .slice A0_5 n0_5 c0_5] ∧ pc b0 [.slice A0_0 n0_0 c0_0, optp J, i6 G, e1, e2, .slice A0_5 n0_5 c0_5, .slice A0_6 n0_6 c0_6, .map (some b0_7)] 99 :: optb (Ow.fl Q5.fl) 107 J a8 :: row Fl.bs 9 d1 b6 d2 r.2.2.1 :: row Q3.fl 32 c9 b5 d0 r.2.1 :: grow Q4.ow 35 A0_5 n0_5 c0_5 r.1 :: row Q9.fl 144 A0_6 n0_6 c0_6 p :: mapo Fl.bs.ov Fl.bool.ov b0_7 U :: Fr = l' ∧ r.2.1.length = b5 ∧ r.2.2.1.length = b6) := by
 subst hn0_0; subst hn0_3; subst hn0_4; subst hn0_5; subst hn0_6; refine Spec.of Tryz.func48 rfl rfl ?_; unfold Q26.f at j; have j := brun j; refine At.seq (At.region ?_); refine At.alloc rfl rfl rfl (fun Z => ?_); refine nT (sR 3 rfl (At.y (Y.load rfl rfl (.s .z) rfl rfl rfl) rfl rfl rfl ?_)); refine At.alloc rfl rfl rfl (fun L => ?_); refine At.store rfl rfl rfl rfl .z rfl rfl rfl (.c (.c (.c (.c .n)))) ?_; refine nT (At.seq (sR 3 rfl (At.y (Y.load rfl rfl (.s (.s .z)) rfl rfl rfl) rfl rfl rfl ?_))); refine At.rangeMap (.s (.s (.s (.s (.s (.s (.s (.s .z)))))))) rfl rfl rfl rfl rfl (fun d3 => ?_); refine nT ?_; refine At.block ?_; obtain ⟨e3, e4, hall1092⟩ := bordered j; clear j; let T1 : HProp := pc Z [i6 0, .slice none 0 0, .slice none 0 0, .slice none 0 0] 26; let T2 : HProp := optb (Ow.fl Q5.fl) 107 J a8; let T3 : HProp := row Q3.fl 32 A0_4 I.length c0_4 I; let T4 : HProp := grow Q4.ow 35 A0_5 x.length c0_5 x; let T5 : HProp := row Q9.fl 144 A0_6 p.length c0_6 p; refine At.loopJ (X := (List Bs) × (List (Bs × Bool)) × Nat × (Option Addr) × Nat × Value) (Y := (List Bs) × Nat × (Option Addr) × Nat × Value) (e0 := 0) (fun s_ => [(0, bp b0), (2, bp Z), (3, bp L), (15, bp d3)]) (fun s_ => rngo Fl.bs.ov Fl.bool.ov b0_7 d3 U s_.2.1 :: pc L [i6 G, .slice s_.2.2.2.1 s_.2.2.1 s_.2.2.2.2.1, .slice A0_4 I.length c0_4, .slice A0_5 x.length c0_5] 26 :: T1 :: pc b0 [.slice A0_0 M.length c0_0, optp J, i6 G, s_.2.2.2.2.2, .slice A0_4 I.length c0_4, .slice A0_5 x.length c0_5, .slice A0_6 p.length c0_6, .map (some b0_7)] 99 :: T2 :: row Fl.bs 9 s_.2.2.2.1 s_.2.2.1 s_.2.2.2.2.1 s_.1 :: T3 :: T4 :: T5 :: Fr) (fun m_ => fun s_ => (foldO (fun (t_ : (List Bs)) (z_ : Bs × Bool) => Q26.l0b  z_ t_) V s_.2.1 = some s_.1 ∧ m_ + (s_.2.1).length = (U).length) ∧ s_.1.length = s_.2.2.1) (U).length (V, [], V.length, A0_3, c0_3, .slice A0_3 V.length c0_3) ⟨⟨rfl, rfl⟩, rfl⟩ (fun s_ => [(0, bp b0), (2, bp Z), (3, bp L)]) (fun s_ => mapo Fl.bs.ov Fl.bool.ov b0_7 U :: pc L [i6 G, .slice s_.2.2.1 s_.2.1 s_.2.2.2.1, .slice A0_4 I.length c0_4, .slice A0_5 x.length c0_5] 26 :: T1 :: pc b0 [.slice A0_0 M.length c0_0, optp J, i6 G, s_.2.2.2.2, .slice A0_4 I.length c0_4, .slice A0_5 x.length c0_5, .slice A0_6 p.length c0_6, .map (some b0_7)] 99 :: T2 :: row Fl.bs 9 s_.2.2.1 s_.2.1 s_.2.2.2.1 s_.1 :: T3 :: T4 :: T5 :: Fr) (fun s_ => e3 s_.1 = some r ∧ s_.1.length = s_.2.1) (fun a w e hs => ⟨e.sub ⟨rfl, rfl, rfl, rfl, trivial⟩, hs⟩) ?_ (fun e5 => ?_)
 ·rintro ⟨a0, e6, a2, a3, a4⟩ ⟨j, e7⟩; obtain rfl : a0.length = e6 := e7; have j := (e4 _).symm.trans j
  ·refine At.ibx ?_; refine At.thn (sR 1 rfl (At.y (Y.load rfl rfl (.s .z) rfl rfl rfl) rfl rfl rfl (At.f5 ?_))); obtain ⟨b7, e8, j⟩ := bbind j; refine At.call rfl Q83.callee rfl rfl rfl (Q83.spec rfl e8) ?_; rintro _ _ ⟨rfl, rfl⟩; refine nT (At.seq (sR 3 rfl ?_)); refine At.y (Y.load rfl rfl (.s (.s (.s (.s .z)))) rfl rfl rfl) rfl rfl rfl ?_; refine At.run 2 rfl (nT ?_); refine At.block ?_; obtain ⟨e9, f0, m2, j⟩ := bjoin j; obtain ⟨d4, b8, f1⟩ := bsome j; clear j; unfold Q26.l1 at b8; obtain ⟨b9, a5⟩ := Q17.1 b8; clear b8; let T6 : HProp := row Fl.bs 9 a2 a0.length a3 b7; let T7 : HProp := mapo Fl.bs.ov Fl.bool.ov b0_7 U; refine At.loopJ (X := (List Q3) × Int × Nat × (Option Addr) × Nat × Value) (Y := (List Q3) × Nat × (Option Addr) × Nat × Value) (e0 := 2) (fun s_ => [(2, bp Z), (3, bp L), (32, .slice A0_6 p.length c0_6), (33, i6 (p.length : Int)), (34, i6 s_.2.1)]) (fun s_ => T6 :: T7 :: pc L [i6 G, .slice a2 a0.length a3, .slice s_.2.2.2.1 s_.2.2.1 s_.2.2.2.2.1, .slice A0_5 x.length c0_5] 26 :: T1 :: pc b0 [.slice A0_0 M.length c0_0, optp J, i6 G, a4, s_.2.2.2.2.2, .slice A0_5 x.length c0_5, .slice A0_6 p.length c0_6, .map (some b0_7)] 99 :: T2 :: row Q3.fl 32 s_.2.2.2.1 s_.2.2.1 s_.2.2.2.2.1 s_.1 :: T4 :: T5 :: Fr) (fun m_ => fun s_ => iterN (fun t_ : (List Q3) × Int => Q26.l1b p b7 t_.1 t_.2) m_ (s_.1, s_.2.1) = some d4 ∧ s_.1.length = s_.2.2.1) b9 (I, 0, I.length, A0_4, c0_4, .slice A0_4 I.length c0_4) ⟨a5, rfl⟩ (fun s_ => [(2, bp Z), (3, bp L)]) (fun s_ => T6 :: T7 :: pc L [i6 G, .slice a2 a0.length a3, .slice s_.2.2.1 s_.2.1 s_.2.2.2.1, .slice A0_5 x.length c0_5] 26 :: T1 :: pc b0 [.slice A0_0 M.length c0_0, optp J, i6 G, a4, s_.2.2.2.2, .slice A0_5 x.length c0_5, .slice A0_6 p.length c0_6, .map (some b0_7)] 99 :: T2 :: row Q3.fl 32 s_.2.2.1 s_.2.1 s_.2.2.2.1 s_.1 :: T4 :: T5 :: Fr) (fun s_ => e9 (.inl s_.1) = some r ∧ s_.1.length = s_.2.1) (fun a w e hs => ⟨e.sub ⟨rfl, rfl, rfl, rfl, rfl, trivial⟩, (by exact hs)⟩) ?_ (fun f9 => ?_)
   ·rintro ⟨d5, g0, g1, g2, g3⟩ ⟨j, g4⟩; obtain rfl : d5.length = g0 := g4; have j := (f0 _).symm.trans j
    ·refine At.ibx ?_; refine At.thn (sR 1 rfl (At.y (Y.load rfl rfl (.s (.s .z)) rfl rfl rfl) rfl rfl rfl (At.f6 ?_))); obtain ⟨m3, g5, j⟩ := bbind j; refine At.call rfl Q36.callee rfl rfl rfl (Q36.spec rfl g5) ?_; rintro _ _ ⟨rfl, rfl⟩; refine nT (sR 1 rfl (At.y (Y.load rfl rfl (.s (.s (.s .z))) rfl rfl rfl) rfl rfl rfl (At.f7 ?_))); obtain ⟨m4, g6, j⟩ := bbind j; refine At.call rfl Q39.callee rfl rfl rfl (Q39.spec rfl g6) ?_; rintro _ _ ⟨rfl, rfl⟩; refine nT (At.seq (At.region ?_)); refine At.y (Y.load rfl rfl (.s (.s (.s (.s .z)))) rfl rfl rfl) rfl rfl rfl ?_; refine At.store rfl rfl rfl rfl (.s (.s (.s (.s (.s .z))))) rfl rfl rfl (.c (.c (.c (.c .n)))) ?_; refine nT (At.ret ?_); refine At.rowLen (.s (.s .z)) fun g7 => ?_; refine At.rowLen (.s (.s (.s .z))) fun g8 => ?_; refine At.resM (.inl rfl) rfl (RV.cell rfl rfl .z rfl rfl rfl RV.nil) ?_; refine At.drop .z (At.drop (.s (.s (.s (.s .z)))) (At.f3 (At.f6 (At.f2 (At.f3 (At.f4 (At.f6 ?_))))))); refine At.f6 ?_; cases bret j; exact fun a w e hs => ⟨_, ⟨d5.length, g1, g2, a0.length, a2, a3, a4, g3, rfl, rfl, g7, g8⟩, hs⟩
   ·clear a5 b9; rintro b9 ⟨O, u, g9, h0, h1, a9⟩ ⟨a5, h2⟩; obtain rfl : O.length = g9 := h2; obtain ⟨h3, f_, h4, hf_, j⟩ := bit a5; clear a5; have j : (Q26.l1b p b7 O u).bind _ = some d4 := j; unfold Q26.l1b at j
    ·refine sR 1 rfl (nT (At.seq ?_)); rcases bite j with ⟨c4, j⟩ | ⟨c4, j⟩
     ··refine At.condT rfl (decide_eq_true c4) ?_
       refine At.skip (At.thn (At.seq ?_)); refine At.block ?_; refine At.seq (At.region ?_); obtain ⟨b2, j⟩ := bnone j; refine At.y (Y.ix (.s (.s (.s (.s (.s (.s (.s (.s .z)))))))) rfl rfl rfl rfl rfl rfl b2.1 b2.2) rfl rfl rfl ?_; refine At.y (Y.ld (.s (.s (.s (.s (.s (.s (.s (.s .z)))))))) (q := 0) rfl rfl b2.1 b2.2 rfl rfl rfl) rfl rfl rfl ?_; refine At.alloc rfl rfl rfl (fun d6 => ?_); refine At.store rfl rfl rfl rfl .z rfl rfl rfl (.c (.c (.c .n))) ?_; refine nT ?_; refine At.freeze (.s .z) fun m5 c5 c6 c7 m6 h5 => ?_; refine At.held [pc d6 [i6 ((gt p u).from_), .string ⟨((gt p u).action).toArray⟩, i6 ((gt p u).to)] 144, T7, T1, pc b0 [.slice A0_0 M.length c0_0, optp J, i6 G, a4, a9, .slice A0_5 x.length c0_5, .slice A0_6 p.length c0_6, .map (some b0_7)] 99, T2, T4, T5] 16 rfl ?_; refine At.H.pw 0 rfl rfl rfl rfl rfl (.c .z (.c .z (.c (.s .z) (.c (.s .z) (.c (.s .z) (.c (.s (.s .z)) (.c (.s (.s .z)) .n))))))) ?_; refine At.H.pw 2 rfl rfl rfl rfl rfl (.c .z (.c .z (.c (.s .z) (.c (.s .z) (.c (.s .z) (.c (.s (.s .z)) (.c (.s (.s .z)) .n))))))) ?_; refine At.H.tw 3 rfl (Y.load rfl rfl .z rfl rfl rfl) rfl rfl rfl (.c .z (.c .z (.c (.s .z) (.c (.s .z) (.c (.s .z) (.c (.s (.s .z)) (.c (.s (.s .z)) .n))))))) ?_; refine At.H.pw 4 rfl rfl rfl rfl rfl (.c .z (.c .z (.c (.s .z) (.c (.s .z) (.c (.s .z) (.c (.s (.s .z)) (.c (.s (.s .z)) .n))))))) ?_; refine At.H.pw 6 rfl rfl rfl rfl rfl (.c .z (.c .z (.c (.s .z) (.c (.s .z) (.c (.s .z) (.c (.s (.s .z)) (.c (.s (.s .z)) .n))))))) ?_; refine At.H.tw 7 rfl (Y.load rfl rfl .z rfl rfl rfl) rfl rfl rfl (.c .z (.c .z (.c (.s .z) (.c (.s .z) (.c (.s .z) (.c (.s (.s .z)) (.c (.s (.s .z)) .n))))))) ?_; refine At.H.pw 9 rfl rfl rfl rfl rfl (.c .z (.c .z (.c (.s .z) (.c (.s .z) (.c (.s .z) (.c (.s (.s .z)) (.c (.s (.s .z)) .n))))))) ?_; refine At.H.tw 10 rfl (Y.load rfl rfl .z rfl rfl rfl) rfl rfl rfl (.c .z (.c .z (.c (.s .z) (.c (.s .z) (.c (.s .z) (.c (.s (.s .z)) (.c (.s (.s .z)) .n))))))) ?_; obtain ⟨D, c8, j⟩ := bbind j; obtain ⟨b3, j⟩ := bnone j; let T8 : HProp := pc d6 [i6 ((gt p u).from_), .string ⟨((gt p u).action).toArray⟩, i6 ((gt p u).to)] 144; let T9 : HProp := pc b0 [.slice A0_0 M.length c0_0, optp J, i6 G, a4, a9, .slice A0_5 x.length c0_5, .slice A0_6 p.length c0_6, .map (some b0_7)] 99; refine At.H.joinK (X := (Option Addr) × Nat) (fun s_ => [(2, bp Z), (3, bp L), (32, .slice A0_6 p.length c0_6), (33, i6 (p.length : Int)), (34, i6 u)]) (fun s_ => pc L [i6 G, .slice a2 a0.length a3, .slice s_.1 ((O ++ ([(⟨(gt p u).from_, D, (gt p u).to⟩ : Q3)] : List Q3)).length) s_.2, .slice A0_5 x.length c0_5] 26 :: row Q3.fl 32 s_.1 ((O ++ ([(⟨(gt p u).from_, D, (gt p u).to⟩ : Q3)] : List Q3)).length) s_.2 (O ++ ([(⟨(gt p u).from_, D, (gt p u).to⟩ : Q3)] : List Q3)) :: T8 :: T7 :: T1 :: T9 :: T2 :: T4 :: T5 :: Fr) (fun s_ => True) ?_ (fun b4 => ?_)
       ·rintro ⟨h6, h7⟩ -
        ·refine At.ibn ?_; refine At.thn (At.region (At.run 2 rfl (At.nil ?_))); refine At.thaw h5 ?_; refine At.drop (.s (.s (.s .z))) (At.f8 (At.f8 (At.f4 (At.f8 (At.f8 (At.f8 (At.f7 ?_))))))); refine At.f8 (At.f8 ?_); have j := bnx hf_ j; exact fun a w e hs => ⟨h3, ((O ++ ([(⟨(gt p u).from_, D, (gt p u).to⟩ : Q3)] : List Q3)), IntKind.i64.wrap (u + 1), (O ++ ([(⟨(gt p u).from_, D, (gt p u).to⟩ : Q3)] : List Q3)).length, h6, h7, a9), h4, ⟨j, rfl⟩, e.sub ⟨rfl, rfl, rfl, rfl, rfl, trivial⟩, hs⟩
       ·refine At.H.al [1, 5] (Q6 ?_ (Q6 ?_ Q7))
        ··refine At.HO.op rfl ?_
          refine At.y (Y.load rfl rfl (.s (.s .z)) rfl rfl rfl) rfl rfl rfl ?_; refine At.HO.back (.c .z (.c .z (.c (.s .z) (.c (.s .z) (.c (.s .z) (.c (.s (.s .z)) (.c (.s (.s .z)) .n))))))) ?_; refine At.H.al [5] (Q6 ?_ Q7)
          ··refine At.HO.op rfl ?_
            refine At.y (Y.load rfl rfl (.s (.s .z)) rfl rfl rfl) rfl rfl rfl ?_; refine At.HO.back (.c .z (.c .z (.c (.s .z) (.c (.s .z) (.c (.s .z) (.c (.s (.s .z)) (.c (.s (.s .z)) .n))))))) ?_; refine At.H.al [8] (Q6 ?_ Q7)
            ··refine At.HO.op rfl ?_
              refine At.call rfl Q52.callee rfl rfl rfl (Q52.spec c5 c6 c7 c8) ?_; rintro _ _ ⟨rfl, rfl⟩; refine At.HO.back (.c .z (.c .z (.c (.s .z) (.c (.s .z) (.c (.s .z) (.c (.s (.s .z)) (.c (.s (.s .z)) .n))))))) ?_; refine At.H.tw 11 rfl (Y.build (is := [0, 1, 2]) (xo := [.tmp 41, .tmp 46, .tmp 48]) (vs := [i6 ((gt p u).from_), i6 D, i6 ((gt p u).to)]) (cs := [i6 ((gt p u).from_), i6 D, i6 ((gt p u).to)]) rfl rfl rfl rfl rfl rfl) rfl rfl rfl (.c .z (.c .z (.c (.s .z) (.c (.s .z) (.c (.s .z) (.c (.s (.s .z)) (.c (.s (.s .z)) .n))))))) ?_; refine At.H.al [12] (Q6 ?_ Q7)
              ··refine At.HO.op rfl ?_
                refine At.lit rfl (xo := [.tmp 49]) (ys := ([(⟨(gt p u).from_, D, (gt p u).to⟩ : Q3)] : List Q3)) Q3.fl rfl rfl rfl rfl rfl rfl rfl rfl rfl rfl rfl (fun m7 m8 => ?_); refine At.HO.back (.c (.s .z) (.c (.s .z) (.c (.s (.s .z)) (.c (.s (.s .z)) (.c (.s (.s .z)) (.c (.s (.s (.s .z))) (.c (.s (.s (.s .z))) .n))))))) ?_; refine At.H.al [13] (Q6 ?_ Q7)
                ··refine At.HO.op rfl ?_
                  refine At.append rfl (.s (.s (.s (.s (.s (.s (.s .z))))))) (Src.own .z (by simp)) rfl rfl rfl rfl rfl rfl rfl rfl b3 (by decide) rfl (fun h8 h9 => ?_); refine At.drop (.s .z) ?_; refine At.HO.back (.c (.s .z) (.c (.s .z) (.c (.s (.s .z)) (.c (.s (.s .z)) (.c (.s (.s .z)) (.c (.s (.s .z)) (.c (.s (.s .z)) .n))))))) ?_; refine At.H.pw 14 rfl rfl rfl rfl rfl (.c (.s .z) (.c (.s .z) (.c (.s (.s .z)) (.c (.s (.s .z)) (.c (.s (.s .z)) (.c (.s (.s .z)) (.c (.s (.s .z)) .n))))))) ?_; refine At.H.al [15] (Q6 ?_ Q7)
                  ··refine At.HO.op rfl ?_
                    refine At.store rfl rfl rfl rfl (.s (.s (.s .z))) rfl rfl rfl (.s (.s (.c .n))) ?_; refine At.HO.back (.c (.s (.s .z)) (.c (.s (.s .z)) (.c (.s (.s .z)) (.c (.s (.s .z)) (.c (.s (.s .z)) (.c (.s (.s .z)) (.c (.s (.s .z)) .n))))))) ?_; refine At.H.done (by kernel_rfl) ?_; exact At.of (b4 (h8, h9) trivial) ⟨rfl, rfl, rfl, rfl, rfl, trivial⟩
        ··refine At.HO.op rfl ?_
          refine At.y (Y.load rfl rfl (.s (.s .z)) rfl rfl rfl) rfl rfl rfl ?_; refine At.HO.back (.c .z (.c .z (.c (.s .z) (.c (.s .z) (.c (.s .z) (.c (.s (.s .z)) (.c (.s (.s .z)) .n))))))) ?_; refine At.H.al [1, 8] (Q6 ?_ (Q6 ?_ Q7))
          ··refine At.HO.op rfl ?_
            refine At.y (Y.load rfl rfl (.s (.s .z)) rfl rfl rfl) rfl rfl rfl ?_; refine At.HO.back (.c .z (.c .z (.c (.s .z) (.c (.s .z) (.c (.s .z) (.c (.s (.s .z)) (.c (.s (.s .z)) .n))))))) ?_; refine At.H.al [8] (Q6 ?_ Q7)
            ··refine At.HO.op rfl ?_
              refine At.call rfl Q52.callee rfl rfl rfl (Q52.spec c5 c6 c7 c8) ?_; rintro _ _ ⟨rfl, rfl⟩; refine At.HO.back (.c .z (.c .z (.c (.s .z) (.c (.s .z) (.c (.s .z) (.c (.s (.s .z)) (.c (.s (.s .z)) .n))))))) ?_; refine At.H.tw 11 rfl (Y.build (is := [0, 1, 2]) (xo := [.tmp 41, .tmp 46, .tmp 48]) (vs := [i6 ((gt p u).from_), i6 D, i6 ((gt p u).to)]) (cs := [i6 ((gt p u).from_), i6 D, i6 ((gt p u).to)]) rfl rfl rfl rfl rfl rfl) rfl rfl rfl (.c .z (.c .z (.c (.s .z) (.c (.s .z) (.c (.s .z) (.c (.s (.s .z)) (.c (.s (.s .z)) .n))))))) ?_; refine At.H.al [12] (Q6 ?_ Q7)
              ··refine At.HO.op rfl ?_
                refine At.lit rfl (xo := [.tmp 49]) (ys := ([(⟨(gt p u).from_, D, (gt p u).to⟩ : Q3)] : List Q3)) Q3.fl rfl rfl rfl rfl rfl rfl rfl rfl rfl rfl rfl (fun m9 n2 => ?_); refine At.HO.back (.c (.s .z) (.c (.s .z) (.c (.s (.s .z)) (.c (.s (.s .z)) (.c (.s (.s .z)) (.c (.s (.s (.s .z))) (.c (.s (.s (.s .z))) .n))))))) ?_; refine At.H.al [13] (Q6 ?_ Q7)
                ··refine At.HO.op rfl ?_
                  refine At.append rfl (.s (.s (.s (.s (.s (.s (.s .z))))))) (Src.own .z (by simp)) rfl rfl rfl rfl rfl rfl rfl rfl b3 (by decide) rfl (fun k0 k1 => ?_); refine At.drop (.s .z) ?_; refine At.HO.back (.c (.s .z) (.c (.s .z) (.c (.s (.s .z)) (.c (.s (.s .z)) (.c (.s (.s .z)) (.c (.s (.s .z)) (.c (.s (.s .z)) .n))))))) ?_; refine At.H.pw 14 rfl rfl rfl rfl rfl (.c (.s .z) (.c (.s .z) (.c (.s (.s .z)) (.c (.s (.s .z)) (.c (.s (.s .z)) (.c (.s (.s .z)) (.c (.s (.s .z)) .n))))))) ?_; refine At.H.al [15] (Q6 ?_ Q7)
                  ··refine At.HO.op rfl ?_
                    refine At.store rfl rfl rfl rfl (.s (.s (.s .z))) rfl rfl rfl (.s (.s (.c .n))) ?_; refine At.HO.back (.c (.s (.s .z)) (.c (.s (.s .z)) (.c (.s (.s .z)) (.c (.s (.s .z)) (.c (.s (.s .z)) (.c (.s (.s .z)) (.c (.s (.s .z)) .n))))))) ?_; refine At.H.done (by kernel_rfl) ?_; exact At.of (b4 (k0, k1) trivial) ⟨rfl, rfl, rfl, rfl, rfl, trivial⟩
          ··refine At.HO.op rfl ?_
            refine At.call rfl Q52.callee rfl rfl rfl (Q52.spec c5 c6 c7 c8) ?_; rintro _ _ ⟨rfl, rfl⟩; refine At.HO.back (.c .z (.c .z (.c (.s .z) (.c (.s .z) (.c (.s .z) (.c (.s (.s .z)) (.c (.s (.s .z)) .n))))))) ?_; refine At.H.tw 11 rfl (Y.build (is := [0, 1, 2]) (xo := [.tmp 41, .tmp 46, .tmp 48]) (vs := [i6 ((gt p u).from_), i6 D, i6 ((gt p u).to)]) (cs := [i6 ((gt p u).from_), i6 D, i6 ((gt p u).to)]) rfl rfl rfl rfl rfl rfl) rfl rfl rfl (.c .z (.c .z (.c (.s .z) (.c (.s .z) (.c (.s .z) (.c (.s (.s .z)) (.c (.s (.s .z)) .n))))))) ?_; refine At.H.al [1, 12] (Q6 ?_ (Q6 ?_ Q7))
            ··refine At.HO.op rfl ?_
              refine At.y (Y.load rfl rfl (.s (.s .z)) rfl rfl rfl) rfl rfl rfl ?_; refine At.HO.back (.c .z (.c .z (.c (.s .z) (.c (.s .z) (.c (.s .z) (.c (.s (.s .z)) (.c (.s (.s .z)) .n))))))) ?_; refine At.H.al [12] (Q6 ?_ Q7)
              ··refine At.HO.op rfl ?_
                refine At.lit rfl (xo := [.tmp 49]) (ys := ([(⟨(gt p u).from_, D, (gt p u).to⟩ : Q3)] : List Q3)) Q3.fl rfl rfl rfl rfl rfl rfl rfl rfl rfl rfl rfl (fun n3 n4 => ?_); refine At.HO.back (.c (.s .z) (.c (.s .z) (.c (.s (.s .z)) (.c (.s (.s .z)) (.c (.s (.s .z)) (.c (.s (.s (.s .z))) (.c (.s (.s (.s .z))) .n))))))) ?_; refine At.H.al [13] (Q6 ?_ Q7)
                ··refine At.HO.op rfl ?_
                  refine At.append rfl (.s (.s (.s (.s (.s (.s (.s .z))))))) (Src.own .z (by simp)) rfl rfl rfl rfl rfl rfl rfl rfl b3 (by decide) rfl (fun k2 k3 => ?_); refine At.drop (.s .z) ?_; refine At.HO.back (.c (.s .z) (.c (.s .z) (.c (.s (.s .z)) (.c (.s (.s .z)) (.c (.s (.s .z)) (.c (.s (.s .z)) (.c (.s (.s .z)) .n))))))) ?_; refine At.H.pw 14 rfl rfl rfl rfl rfl (.c (.s .z) (.c (.s .z) (.c (.s (.s .z)) (.c (.s (.s .z)) (.c (.s (.s .z)) (.c (.s (.s .z)) (.c (.s (.s .z)) .n))))))) ?_; refine At.H.al [15] (Q6 ?_ Q7)
                  ··refine At.HO.op rfl ?_
                    refine At.store rfl rfl rfl rfl (.s (.s (.s .z))) rfl rfl rfl (.s (.s (.c .n))) ?_; refine At.HO.back (.c (.s (.s .z)) (.c (.s (.s .z)) (.c (.s (.s .z)) (.c (.s (.s .z)) (.c (.s (.s .z)) (.c (.s (.s .z)) (.c (.s (.s .z)) .n))))))) ?_; refine At.H.done (by kernel_rfl) ?_; exact At.of (b4 (k2, k3) trivial) ⟨rfl, rfl, rfl, rfl, rfl, trivial⟩
            ··refine At.HO.op rfl ?_
              refine At.lit rfl (xo := [.tmp 49]) (ys := ([(⟨(gt p u).from_, D, (gt p u).to⟩ : Q3)] : List Q3)) Q3.fl rfl rfl rfl rfl rfl rfl rfl rfl rfl rfl rfl (fun n5 n6 => ?_); refine At.HO.back (.c (.s .z) (.c (.s .z) (.c (.s (.s .z)) (.c (.s (.s .z)) (.c (.s (.s .z)) (.c (.s (.s (.s .z))) (.c (.s (.s (.s .z))) .n))))))) ?_; refine At.H.al [1] (Q6 ?_ Q7)
              ··refine At.HO.op rfl ?_
                refine At.y (Y.load rfl rfl (.s (.s (.s .z))) rfl rfl rfl) rfl rfl rfl ?_; refine At.HO.back (.c (.s .z) (.c (.s .z) (.c (.s (.s .z)) (.c (.s (.s .z)) (.c (.s (.s .z)) (.c (.s (.s (.s .z))) (.c (.s (.s (.s .z))) .n))))))) ?_; refine At.H.al [13] (Q6 ?_ Q7)
                ··refine At.HO.op rfl ?_
                  refine At.append rfl (.s (.s (.s (.s (.s (.s (.s .z))))))) (Src.own .z (by simp)) rfl rfl rfl rfl rfl rfl rfl rfl b3 (by decide) rfl (fun k4 k5 => ?_); refine At.drop (.s .z) ?_; refine At.HO.back (.c (.s .z) (.c (.s .z) (.c (.s (.s .z)) (.c (.s (.s .z)) (.c (.s (.s .z)) (.c (.s (.s .z)) (.c (.s (.s .z)) .n))))))) ?_; refine At.H.pw 14 rfl rfl rfl rfl rfl (.c (.s .z) (.c (.s .z) (.c (.s (.s .z)) (.c (.s (.s .z)) (.c (.s (.s .z)) (.c (.s (.s .z)) (.c (.s (.s .z)) .n))))))) ?_; refine At.H.al [15] (Q6 ?_ Q7)
                  ··refine At.HO.op rfl ?_
                    refine At.store rfl rfl rfl rfl (.s (.s (.s .z))) rfl rfl rfl (.s (.s (.c .n))) ?_; refine At.HO.back (.c (.s (.s .z)) (.c (.s (.s .z)) (.c (.s (.s .z)) (.c (.s (.s .z)) (.c (.s (.s .z)) (.c (.s (.s .z)) (.c (.s (.s .z)) .n))))))) ?_; refine At.H.done (by kernel_rfl) ?_; exact At.of (b4 (k4, k5) trivial) ⟨rfl, rfl, rfl, rfl, rfl, trivial⟩
     ··refine At.condF rfl (decide_eq_false c4) ?_
       refine At.exit ?_; refine At.the ?_; refine At.the ?_; exact fun a w e hs => f9 (O, O.length, h0, h1, a9) ⟨(bdn j f1), rfl⟩ a w (e.sub ⟨rfl, rfl, trivial⟩) hs
 ·rintro n7 ⟨a1, k6, k7, k8, k9, d7⟩ ⟨⟨d8, d9⟩, l4⟩; obtain rfl : a1.length = k7 := l4
  ·refine At.seq (At.region ?_); refine At.nextMap rfl rfl .z rfl (fun a6 => ?_) (fun a7 l5 a6 => ?_)
   ·have j := foldO_end hall1092 d8 a6; refine At.run 1 rfl (nT (At.seq ?_)); refine At.condF rfl rfl ?_; refine At.exit ?_; refine At.the ?_; refine At.the ?_; refine At.rngEnd .z ?_; exact fun a w e hs => e5 (a1, a1.length, k8, k9, d7) ⟨j, rfl⟩ a w (e.sub ⟨rfl, rfl, rfl, trivial⟩) hs
   ·obtain ⟨l6, l7, l8⟩ := foldO_go hall1092 d8 a6; have j := brun (show Q26.l0b  a7 a1 = some l6 from l7); unfold Q26.l0b at j; refine At.run 1 rfl (nT (At.seq ?_)); refine At.condT rfl rfl ?_; refine At.skip (At.thn ?_); refine At.block ?_; refine At.seq (At.region ?_); refine At.y (Y.entry .z rfl) rfl rfl rfl ?_; refine At.run 2 rfl (nT (At.region (At.run 1 rfl (At.y (Y.load rfl rfl (.s .z) rfl rfl rfl) rfl rfl rfl (At.run 1 rfl ?_))))); refine At.lit rfl (xo := [.tmp 22]) (ys := ([a7.1] : List Bs)) Fl.bs rfl rfl rfl rfl rfl rfl rfl rfl rfl rfl rfl (fun n8 n9 => ?_); obtain ⟨l9, j⟩ := bnone j; refine At.append rfl (.s (.s (.s (.s (.s (.s .z)))))) (Src.own .z (by simp)) rfl rfl rfl rfl rfl rfl rfl rfl l9 (by decide) rfl (fun m0 m1 => ?_); refine At.drop (.s .z) (At.run 1 rfl ?_); refine At.store rfl rfl rfl rfl (.s (.s .z)) rfl rfl rfl (.s (.c .n)) ?_; refine At.nil ?_; refine At.ibn ?_; refine At.f8 (At.f8 (At.f8 (At.f4 (At.f8 (At.f8 (At.f8 (At.f7 ?_))))))); refine At.f8 ?_; obtain rfl := bret j; exact fun a w e hs => ⟨l5.length, ((a1 ++ ([a7.1] : List Bs)), (k6 ++ [a7]), (a1 ++ ([a7.1] : List Bs)).length, m0, m1, d7), (rng_lt a6 d9).1, ⟨⟨l8, (rng_lt a6 d9).2⟩, rfl⟩, e.sub ⟨rfl, rfl, rfl, rfl, trivial⟩, hs⟩

noncomputable def Q20.l0b (D : (Option Q5) × (List Q1) × Int) (G : Option Q5) (q : List Q4) (u : List Q9) (x : List (Bs × Bool)) (M : List Q1) : Option (((Option Q5) × (List Q4) × (List Q9) × (List (Bs × Bool)) × (List Q1)) ⊕ (((Option Q5) × (List Q4) × (List Q9) × (List (Bs × Bool)) × (List Q1)) ⊕ ((Option Q5) × (List Bs) × (List Q3) × (List Q4) × Int))) :=
 if G.isNone = true then
 (Q50.f M G D.2.2 ([] : List Bs) ([] : List Q3) q u x).bind fun I =>
 if (0 : Int) ≤ 0 ∧ 0 < (I.length : Int) then
 if (gt I 0).Kind = 0 then
 dn (.inl (G, q, u, x, I))
 else
 (Q46.f I G D.2.2 ([] : List Bs) ([] : List Q3) q u x 2).bind fun p =>
 if p.1.isNone = true then
 if bseq p.2.2.2.2.1 ([101, 100, 103, 101] : Bs) = true then
 (Q129.f p.2.1 p.1 D.2.2 ([] : List Bs) ([] : List Q3) q u x p.2.2.1 p.2.2.2.1 p.2.2.2.2.1 p.2.2.2.2.2).bind fun J =>
 nx (J.2.2.1, q, J.1, J.2.1, J.2.2.2)
 else
 if bseq p.2.2.2.2.1 ([109, 97, 114, 107] : Bs) = true then
 (Q35.f p.2.1 p.1 D.2.2 ([] : List Bs) ([] : List Q3) q u x).bind fun L =>
 nx (L.2.1, L.1, u, x, L.2.2)
 else
 (Q16.f p.2.1 p.1 D.2.2 ([] : List Bs) ([] : List Q3) q u x p.2.2.1 p.2.2.2.1 p.2.2.2.2.1 p.2.2.2.2.2 7).bind fun O =>
 nx (O, q, u, x, p.2.1)
 else
 nx (p.1, q, u, x, p.2.1)
 else none
 else
 dn (.inl (G, q, u, x, M))
noncomputable def Q20.l0 (p : (Option Q5) × (List Q1) × Int) (q : Option Q5) (u : List Q4) (x : List Q9) (D : List (Bs × Bool)) (G : List Q1) : Option (((Option Q5) × (List Q4) × (List Q9) × (List (Bs × Bool)) × (List Q1)) ⊕ ((Option Q5) × (List Bs) × (List Q3) × (List Q4) × Int)) := iter (fun t_ : (Option Q5) × (List Q4) × (List Q9) × (List (Bs × Bool)) × (List Q1) => Q20.l0b p t_.1 t_.2.1 t_.2.2.1 t_.2.2.2.1 t_.2.2.2.2) (q, u, x, D, G)
noncomputable def Q20.f (a0 : Bs) : Option ((Option Q5) × (List Bs) × (List Q3) × (List Q4) × Int) :=
 (Q61.f a0).bind fun u =>
 if u.1.isNone = true then
 (Q126.f u.2 (none : Option Q5) 0 ([] : List Bs) ([] : List Q3) ([] : List Q4) ([] : List Q9) ([] : List (Bs × Bool))).bind fun p =>
 jn (Q20.l0 p p.1 ([] : List Q4) ([] : List Q9) ([] : List (Bs × Bool)) p.2.1) (fun (s_ : (Option Q5) × (List Q4) × (List Q9) × (List (Bs × Bool)) × (List Q1)) =>
 if s_.1.isNone = true then
 (Q26.f s_.2.2.2.2 s_.1 p.2.2 ([] : List Bs) ([] : List Q3) s_.2.1 s_.2.2.1 s_.2.2.2.1).bind fun q =>
 some (none, q.2.2.1, q.2.1, q.1, q.2.2.2)
 else
 some ((some (⟨(s_.1.getD default).At, (s_.1.getD default).Err⟩ : Q5)), ([] : List Bs), ([] : List Q3), ([] : List Q4), 0))
 else
 some (u.1, ([] : List Bs), ([] : List Q3), ([] : List Q4), 0)
theorem Q20.callee : Callee Tryz.prog 27 := ⟨_, Tryz.func27, by kernel_rfl, by kernel_rfl⟩
theorem Q20.spec {a0 : Bs} {r : (Option Q5) × (List Bs) × (List Q3) × (List Q4) × Int} (j : Q20.f a0 = some r) :
 Spec Tryz.prog 27 [.string ⟨(a0).toArray⟩] R (Fr) (fun v l' => ∃ (e7 : Option Nat) (b9 : Nat) (e8 : Option Addr) (e9 : Nat) (c4 : Nat) (f0 : Option Addr) (f9 : Nat) (c5 : Nat) (g0 : Option Addr) (g1 : Nat), v = .tuple #[.agg #[i6 r.2.2.2.2, .slice e8 b9 e9, .slice f0 c4 f9, .slice g0 c5 g1], opti 96 e7] ∧ row Fl.bs 9 e8 b9 e9 r.2.1 :: row Q3.fl 32 f0 c4 f9 r.2.2.1 :: grow Q4.ow 35 g0 c5 g1 r.2.2.2.1 :: optb (Ow.fl Q5.fl) 107 e7 r.1 :: Fr = l' ∧ r.2.1.length = b9 ∧ r.2.2.1.length = c4 ∧ r.2.2.2.1.length = c5) := by
 refine Spec.of Tryz.func27 rfl rfl ?_; unfold Q20.f at j; have j := brun j; refine At.seq (At.region ?_); refine At.alloc rfl rfl rfl (fun c6 => ?_); refine At.run 1 rfl (nT (sR 1 rfl ?_)); obtain ⟨a9, h8, j⟩ := bbind j; refine At.call rfl Q61.callee rfl rfl rfl (Q61.spec h8) ?_; rintro _ _ ⟨g2, r3, c7, c8, rfl, rfl, rfl⟩; refine At.run 5 rfl (nT (At.seq (sR 1 rfl ?_))); refine At.y (Y.neOptI (.s .z) rfl rfl rfl) rfl rfl rfl ?_; refine nT ?_; rcases bite j with ⟨c9, j⟩ | ⟨c9, j⟩
 ··refine At.condF rfl (nf c9) ?_
   refine At.skip (At.thn (sR 1 rfl ?_)); refine At.makeMap Fl.bs.ov Fl.bool.ov rfl rfl (fun D => ?_); refine At.y (Y.build (is := [0, 4]) (xo := [.tmp 17, .tmp 18]) (vs := [.slice c7 a9.2.length c8, .map (some D)]) (cs := [.slice c7 a9.2.length c8, .pointer none, i6 0, .slice none 0 0, .slice none 0 0, .slice none 0 0, .slice none 0 0, .map (some D)]) rfl rfl rfl rfl rfl rfl) rfl rfl rfl ?_; refine At.box rfl rfl (cs := [.slice c7 a9.2.length c8, .pointer none, i6 0, .slice none 0 0, .slice none 0 0, .slice none 0 0, .slice none 0 0, .map (some D)]) rfl rfl (fun O => ?_); refine At.run 1 rfl (nT (sR 1 rfl ?_)); refine At.optNone (Ow.fl Q5.fl) 107 ?_; refine At.nilRow Fl.bs 9 ?_; refine At.nilRow Q3.fl 32 ?_; refine At.nilGrow Q4.ow 35 ?_; refine At.nilRow Q9.fl 144 ?_; refine At.freeze (.s (.s (.s (.s (.s (.s (.s .z))))))) fun g3 h9 k0 k1 r4 g4 => ?_; refine At.f6 (At.f1 (At.f2 (At.f3 (At.f4 (At.f5 (At.f6 ?_)))))); obtain ⟨G, k2, j⟩ := bbind j; refine At.call rfl Q126.callee rfl rfl rfl (Q126.spec none h9 k0 k1 rfl rfl rfl rfl k2) ?_; rintro _ _ ⟨k3, k4, r5, k5, rfl, rfl, k6, rfl, k7⟩; refine nT (At.seq ?_); refine At.block ?_; obtain ⟨k8, k9, r6, j⟩ := bjoin j; obtain ⟨g5, d0, g6⟩ := bsome j; clear j; unfold Q20.l0 at d0; obtain ⟨d1, U⟩ := Q17.1 d0; clear d0; let d2 : HProp := row Fl.bs 9 none 0 0 ([] : List Bs); let d3 : HProp := row Q3.fl 32 none 0 0 ([] : List Q3); let d4 : HProp := optb (Ow.fl Q5.fl) 107 g2 a9.1; let d5 : HProp := pc c6 [i6 0, .slice none 0 0, .slice none 0 0, .slice none 0 0] 26; refine At.loopJ (X := (Option Q5) × (List Q4) × (List Q9) × (List (Bs × Bool)) × (List Q1) × (Option Nat) × Nat × (Option Addr) × Nat × Nat × (Option Addr) × Nat × (Option Addr) × Nat × Nat) (Y := (Option Q5) × (List Q4) × (List Q9) × (List (Bs × Bool)) × (List Q1) × (Option Nat) × Nat × (Option Addr) × Nat × Nat × (Option Addr) × Nat × (Option Addr) × Nat × Nat) (e0 := 0) (fun s_ => [(2, bp c6), (6, bp O)]) (fun s_ => optb (Ow.fl Q5.fl) 107 s_.2.2.2.2.2.1 s_.1 :: pc O [.slice (d8 s_).2.2.2.2.1 (d8 s_).2.2.2.2.2.1 (d8 s_).2.2.2.2.2.2, optp s_.2.2.2.2.2.1, i6 G.2.2, .slice none 0 0, .slice none 0 0, .slice s_.2.2.2.2.2.2.2.1 s_.2.2.2.2.2.2.1 (d8 s_).1, .slice (d8 s_).2.2.1 (d8 s_).2.1 (d8 s_).2.2.2.1, .map (some D)] 99 :: d2 :: d3 :: grow Q4.ow 35 s_.2.2.2.2.2.2.2.1 s_.2.2.2.2.2.2.1 (d8 s_).1 s_.2.1 :: row Q9.fl 144 (d8 s_).2.2.1 (d8 s_).2.1 (d8 s_).2.2.2.1 s_.2.2.1 :: mapo Fl.bs.ov Fl.bool.ov D s_.2.2.2.1 :: d4 :: d5 :: Fr) (fun m_ => fun s_ => iterN (fun t_ : (Option Q5) × (List Q4) × (List Q9) × (List (Bs × Bool)) × (List Q1) => Q20.l0b G t_.1 t_.2.1 t_.2.2.1 t_.2.2.2.1 t_.2.2.2.2) m_ (s_.1, s_.2.1, s_.2.2.1, s_.2.2.2.1, s_.2.2.2.2.1) = some g5 ∧ s_.2.1.length = s_.2.2.2.2.2.2.1 ∧ s_.2.2.1.length = (d8 s_).2.1 ∧ RdS Q1.fl.rep g3.heap (d8 s_).2.2.2.2.1 s_.2.2.2.2.1 ∧ s_.2.2.2.2.1.length = (d8 s_).2.2.2.2.2.1 ∧ (d8 s_).2.2.2.2.2.1 ≤ (d8 s_).2.2.2.2.2.2) d1 (G.1, ([] : List Q4), ([] : List Q9), ([] : List (Bs × Bool)), G.2.1, k3, 0, none, 0, 0, none, 0, k4, G.2.1.length, k5) ⟨U, rfl, rfl, k6, rfl, k7⟩ (fun s_ => [(2, bp c6), (6, bp O)]) (fun s_ => pc O [.slice (d8 s_).2.2.2.2.1 (d8 s_).2.2.2.2.2.1 (d8 s_).2.2.2.2.2.2, optp s_.2.2.2.2.2.1, i6 G.2.2, .slice none 0 0, .slice none 0 0, .slice s_.2.2.2.2.2.2.2.1 s_.2.2.2.2.2.2.1 (d8 s_).1, .slice (d8 s_).2.2.1 (d8 s_).2.1 (d8 s_).2.2.2.1, .map (some D)] 99 :: optb (Ow.fl Q5.fl) 107 s_.2.2.2.2.2.1 s_.1 :: d2 :: d3 :: grow Q4.ow 35 s_.2.2.2.2.2.2.2.1 s_.2.2.2.2.2.2.1 (d8 s_).1 s_.2.1 :: row Q9.fl 144 (d8 s_).2.2.1 (d8 s_).2.1 (d8 s_).2.2.2.1 s_.2.2.1 :: mapo Fl.bs.ov Fl.bool.ov D s_.2.2.2.1 :: d4 :: d5 :: Fr) (fun s_ => k8 (.inl (s_.1, s_.2.1, s_.2.2.1, s_.2.2.2.1, s_.2.2.2.2.1)) = some r ∧ s_.2.1.length = s_.2.2.2.2.2.2.1 ∧ s_.2.2.1.length = (d8 s_).2.1 ∧ RdS Q1.fl.rep g3.heap (d8 s_).2.2.2.2.1 s_.2.2.2.2.1 ∧ s_.2.2.2.2.1.length = (d8 s_).2.2.2.2.2.1 ∧ (d8 s_).2.2.2.2.2.1 ≤ (d8 s_).2.2.2.2.2.2) (fun a w e hs => ⟨e.sub ⟨rfl, rfl, trivial⟩, (by exact hs)⟩) ?_ (fun g7 => ?_)
   ·rintro ⟨I, V, b2, l4, g8, l5, l6, d6, d7, l7, g9, h0, l8, l9, m0⟩ ⟨j, m1, m2, m3, m4, m5⟩; obtain rfl : V.length = l6 := m1; obtain rfl : b2.length = l7 := m2; obtain rfl : g8.length = l9 := m4; have j := (k9 _).symm.trans j
    ·refine At.ibx ?_; refine At.thn (At.seq (sR 3 rfl (At.y (Y.load rfl rfl .z rfl rfl rfl) rfl rfl rfl ?_))); refine At.y (Y.neOpt (.s .z) rfl rfl rfl rfl) rfl rfl rfl ?_; refine nT ?_; rcases bite j with ⟨b3, j⟩ | ⟨b3, j⟩
     ··refine At.condF rfl (nf b3) ?_
       refine At.skip (At.thn (sR 1 rfl ?_)); obtain ⟨h1, m6, j⟩ := bbind j; refine At.call rfl Q26.callee rfl rfl rfl (Q26.spec l5 m3 rfl m5 rfl rfl rfl rfl m6) ?_; rintro _ _ ⟨r7, m7, m8, r8, m9, n2, r9, s0, rfl, rfl, rfl, rfl⟩; refine At.store rfl rfl rfl rfl (.s (.s (.s (.s (.s (.s (.s (.s .z)))))))) rfl rfl rfl (.c (.c (.c (.c .n)))) ?_; refine At.run 1 rfl (nT (At.ret ?_)); refine At.thaw g4 ?_; refine At.optNone (Ow.fl Q5.fl) 107 ?_; refine At.growLen (.s (.s (.s (.s (.s (.s (.s .z))))))) fun n3 _ => ?_; refine At.resM (.inl rfl) rfl (RV.cell rfl rfl (.s (.s .z)) rfl rfl rfl (RV.tmp rfl RV.nil)) ?_; refine At.drop (.s .z) (At.drop (.s .z) (At.drop (.s .z) (At.drop (.s .z) (At.drop (.s (.s (.s (.s .z)))) (At.drop (.s (.s (.s (.s .z)))) (At.drop (.s (.s (.s (.s .z)))) (At.f3 ?_))))))); refine At.f3 (At.f3 ?_); cases bret j; exact fun a w e hs => ⟨_, ⟨none, h1.2.2.1.length, m9, n2, h1.2.1.length, m7, m8, V.length, d6, d7, rfl, rfl, rfl, rfl, n3⟩, hs⟩
     ··refine At.condT rfl (nt (bn b3)) ?_
       refine At.seq ?_; refine At.optOpen (.s .z) (bn b3) (fun d9 n4 s1 => ?_); have n5 := j; subst n4; have j := n5; refine At.ownFl (.s .z) ?_; rintro rfl; refine At.held [pc d9 [i6 ((I.getD default).At), i6 ((I.getD default).Err)] 107, pc O [.slice l8 g8.length m0, bp d9, i6 G.2.2, .slice none 0 0, .slice none 0 0, .slice d6 V.length d7, .slice g9 b2.length h0, .map (some D)] 99, d2, d3, grow Q4.ow 35 d6 V.length d7 V, row Q9.fl 144 g9 b2.length h0 b2, mapo Fl.bs.ov Fl.bool.ov D l4, d4, d5] 8 rfl ?_; refine At.H.tw 0 rfl (Y.build (is := []) (xo := []) (vs := []) (cs := [i6 0, .slice none 0 0, .slice none 0 0, .slice none 0 0]) rfl rfl rfl rfl rfl rfl) rfl rfl rfl (.c .z (.c .z (.c .z (.c .z (.c .z (.c .z (.c .z (.c .z (.c .z .n))))))))) ?_; refine At.H.pw 1 rfl rfl rfl rfl rfl (.c .z (.c .z (.c .z (.c .z (.c .z (.c .z (.c .z (.c .z (.c .z .n))))))))) ?_; refine At.H.pw 2 rfl rfl rfl rfl rfl (.c .z (.c .z (.c .z (.c .z (.c .z (.c .z (.c .z (.c .z (.c .z .n))))))))) ?_; refine At.H.pw 3 rfl rfl rfl rfl rfl (.c .z (.c .z (.c .z (.c .z (.c .z (.c .z (.c .z (.c .z (.c .z .n))))))))) ?_; refine At.H.tw 4 rfl (Y.load rfl rfl (.s .z) rfl rfl rfl) rfl rfl rfl (.c .z (.c .z (.c .z (.c .z (.c .z (.c .z (.c .z (.c .z (.c .z .n))))))))) ?_; refine At.H.pw 5 rfl rfl rfl rfl rfl (.c .z (.c .z (.c .z (.c .z (.c .z (.c .z (.c .z (.c .z (.c .z .n))))))))) ?_; refine At.H.al [6] (Q6 ?_ Q7)
       ··refine At.HO.op rfl ?_
         refine At.store rfl rfl rfl rfl (.s (.s (.s (.s (.s (.s (.s (.s .z)))))))) rfl rfl rfl (.c (.c (.c (.c .n)))) ?_; refine At.HO.back (.c (.s .z) (.c (.s .z) (.c (.s .z) (.c (.s .z) (.c (.s .z) (.c (.s .z) (.c (.s .z) (.c (.s .z) (.c .z .n))))))))) ?_; refine At.H.pw 7 rfl rfl rfl rfl rfl (.c (.s .z) (.c (.s .z) (.c (.s .z) (.c (.s .z) (.c (.s .z) (.c (.s .z) (.c (.s .z) (.c (.s .z) (.c .z .n))))))))) ?_; refine At.H.done (by kernel_rfl) ?_; refine At.thn (At.ret (At.thr ?_)); refine At.thaw g4 ?_; refine At.f2 ?_; refine At.optSome (x := (⟨(I.getD default).At, (I.getD default).Err⟩ : Q5)) (Ent.fl Q5.fl (x := (⟨(I.getD default).At, (I.getD default).Err⟩ : Q5)) rfl) ?_; refine At.nilRow Fl.bs 9 ?_; refine At.nilRow Q3.fl 32 ?_; refine At.nilGrow Q4.ow 35 ?_; refine At.resM (.inl rfl) rfl (RV.cell rfl rfl (.s (.s (.s (.s (.s .z))))) rfl rfl rfl (RV.tmp rfl RV.nil)) ?_; refine At.drop (.s (.s (.s (.s .z)))) (At.drop (.s (.s (.s (.s .z)))) (At.drop (.s (.s (.s (.s .z)))) (At.drop (.s (.s (.s (.s .z)))) (At.drop (.s (.s (.s (.s .z)))) (At.drop (.s (.s (.s (.s .z)))) (At.drop (.s (.s (.s (.s .z)))) (At.drop (.s (.s (.s (.s .z)))) ?_))))))); refine At.drop (.s (.s (.s (.s .z)))) (At.f3 (At.f1 (At.f2 (At.f3 ?_)))); cases bret j; exact fun a w e hs => ⟨_, ⟨(some d9), 0, none, 0, 0, none, 0, 0, none, 0, rfl, rfl, rfl, rfl, rfl⟩, hs⟩
   ·clear U d1; rintro d1 ⟨e1, p, u, J, b4, b5, n6, Z, a1, n7, a2, a3, n8, n9, o0⟩ ⟨U, o7, o8, h2, o9, h3⟩; obtain rfl : p.length = n6 := o7; obtain rfl : u.length = n7 := o8; obtain rfl : b4.length = n9 := o9; obtain ⟨b6, f_, b7, hf_, j⟩ := bit U; clear U; have j : (Q20.l0b G e1 p u J b4).bind _ = some g5 := j; unfold Q20.l0b at j
    ·refine At.seq (sR 3 rfl (At.y (Y.load rfl rfl (.s .z) rfl rfl rfl) rfl rfl rfl ?_)); refine At.y (Y.eqOpt .z rfl rfl rfl rfl) rfl rfl rfl ?_; refine nT ?_; rcases bite j with ⟨e2, j⟩ | ⟨e2, j⟩
     ··refine At.condT rfl e2 ?_
       refine At.skip (At.thn ?_); refine At.block ?_; refine sR 1 rfl (At.f6 (At.f6 (At.f6 (At.f6 (At.f6 ?_))))); refine At.f5 (At.f6 ?_); obtain ⟨h4, p0, j⟩ := bbind j; refine At.call rfl Q50.callee rfl rfl rfl (Q50.spec b5 h2 rfl h3 rfl rfl rfl rfl p0) ?_; rintro _ _ ⟨p1, s2, p2, rfl, rfl, a4, rfl, h5⟩; refine nT (At.seq (sR 3 rfl (At.y (Y.load rfl rfl .z rfl rfl rfl) rfl rfl rfl ?_))); obtain ⟨L, j⟩ := bnone j; refine At.y (Y.ixRd a4 rfl rfl rfl rfl rfl rfl rfl L.1 L.2) rfl rfl rfl ?_; refine At.y (Y.fa (RdS.some_ a4 rfl L.1 L.2) rfl rfl rfl rfl rfl rfl) rfl rfl rfl ?_; refine At.y (Y.ldFl a4 rfl (q := 0) rfl rfl L.1 L.2 rfl rfl rfl) rfl rfl rfl (At.run 1 rfl (nT ?_)); rcases bite j with ⟨e3, j⟩ | ⟨e3, j⟩
       ··refine At.condT rfl (decide_eq_true e3) ?_
         refine At.exit ?_; refine At.the ?_; refine At.ibo rfl ?_; refine At.the ?_; exact fun a w e hs => g7 (e1, p, u, J, h4, b5, p.length, Z, a1, u.length, a2, a3, p1, h4.length, p2) ⟨(bdn j g6), rfl, rfl, a4, rfl, h5⟩ a w (e.sub ⟨rfl, rfl, trivial⟩) hs
       ··refine At.condF rfl (decide_eq_false e3) ?_
         refine At.skip (At.thn (sR 1 rfl ?_)); obtain ⟨a5, p3, j⟩ := bbind j; refine At.call rfl Q46.callee rfl rfl rfl (Q46.spec b5 a4 rfl h5 rfl rfl rfl rfl p3) ?_; rintro _ _ ⟨b8, h6, s3, h7, rfl, rfl, a6, rfl, a7⟩; refine At.alloc rfl rfl rfl (fun s4 => ?_); refine At.store rfl rfl rfl rfl .z rfl rfl rfl (.c (.c (.c (.c .n)))) ?_; refine nT ?_; refine At.block ?_; refine sR 3 rfl (At.y (Y.load rfl rfl (.s (.s .z)) rfl rfl rfl) rfl rfl rfl ?_); refine At.y (Y.neOpt (.s .z) rfl rfl rfl rfl) rfl rfl rfl ?_; refine At.run 1 rfl (nT ?_); rcases bite j with ⟨e4, j⟩ | ⟨e4, j⟩
         ··refine At.condF rfl (nf e4) ?_
           refine sR 1 rfl (At.y (Y.load rfl rfl .z rfl rfl rfl) rfl rfl rfl (At.run 2 rfl (nT ?_))); rcases bite j with ⟨e5, j⟩ | ⟨e5, j⟩
           ··refine At.condT rfl e5 ?_
             refine At.region (At.run 1 rfl (At.y (Y.load rfl rfl .z rfl rfl rfl) rfl rfl rfl (At.f7 (At.f7 (At.f7 (At.f7 (At.f7 ?_))))))); refine At.f6 (At.f7 ?_); obtain ⟨M, p4, j⟩ := bbind j; refine At.call rfl Q129.callee rfl rfl rfl (Q129.spec b8 a6 rfl a7 rfl rfl rfl rfl p4) ?_; rintro _ _ ⟨s5, p5, p6, p7, p8, s6, p9, rfl, rfl, rfl, q0, rfl, q1⟩; refine At.nil ?_; refine At.ibn ?_; refine At.ibn ?_; refine At.drop (.s (.s (.s (.s (.s (.s (.s .z))))))) ?_; have j := bnx hf_ j; exact fun a w e hs => ⟨b6, (M.2.2.1, p, M.1, M.2.1, M.2.2.2, p7, p.length, Z, a1, M.1.length, p5, p6, p8, M.2.2.2.length, p9), b7, ⟨j, rfl, rfl, q0, rfl, q1⟩, e.sub ⟨rfl, rfl, trivial⟩, hs⟩
           ··refine At.condF rfl (bn e5) ?_
             refine sR 1 rfl (At.y (Y.load rfl rfl .z rfl rfl rfl) rfl rfl rfl (At.run 2 rfl (nT ?_))); rcases bite j with ⟨e6, j⟩ | ⟨e6, j⟩
             ··refine At.condT rfl e6 ?_
               refine At.region (At.run 1 rfl (At.f7 (At.f7 (At.f7 (At.f7 (At.f7 (At.f6 ?_))))))); refine At.f7 ?_; obtain ⟨a8, q2, j⟩ := bbind j; refine At.call rfl Q35.callee rfl rfl rfl (Q35.spec b8 a6 rfl a7 rfl rfl rfl rfl q2) ?_; rintro _ _ ⟨s7, q3, q4, q5, q6, s8, q7, rfl, rfl, rfl, q8, rfl, q9⟩; refine At.nil ?_; refine At.ibn ?_; refine At.ibn ?_; refine At.drop (.s (.s (.s (.s (.s (.s (.s .z))))))) ?_; have j := bnx hf_ j; exact fun a w e hs => ⟨b6, (a8.2.1, a8.1, u, J, a8.2.2, q5, a8.1.length, q3, q4, u.length, a2, a3, q6, a8.2.2.length, q7), b7, ⟨j, rfl, rfl, q8, rfl, q9⟩, e.sub ⟨rfl, rfl, trivial⟩, hs⟩
             ··refine At.condF rfl (bn e6) ?_
               refine At.region (At.run 1 rfl (At.y (Y.load rfl rfl .z rfl rfl rfl) rfl rfl rfl (At.f7 (At.f7 (At.f7 (At.f7 (At.f7 ?_))))))); refine At.f6 (At.f7 ?_); obtain ⟨r0, r1, j⟩ := bbind j; refine At.call rfl Q16.callee rfl rfl rfl (Q16.spec b8 a6 rfl a7 rfl rfl rfl rfl r1) ?_; rintro _ _ ⟨r2, rfl, rfl⟩; refine At.nil ?_; refine At.ibn ?_; refine At.ibn ?_; refine At.drop (.s (.s (.s (.s (.s (.s (.s .z))))))) ?_; have j := bnx hf_ j; exact fun a w e hs => ⟨b6, (r0, p, u, J, a5.2.1, r2, p.length, Z, a1, u.length, a2, a3, h6, a5.2.1.length, h7), b7, ⟨j, rfl, rfl, a6, rfl, a7⟩, e.sub ⟨rfl, rfl, trivial⟩, hs⟩
         ··refine At.condT rfl (nt (bn e4)) ?_
           refine At.skip ?_; refine At.ibn ?_; refine At.ibn ?_; refine At.drop .z ?_; have j := bnx hf_ j; exact fun a w e hs => ⟨b6, (a5.1, p, u, J, a5.2.1, b8, p.length, Z, a1, u.length, a2, a3, h6, a5.2.1.length, h7), b7, ⟨j, rfl, rfl, a6, rfl, a7⟩, e.sub ⟨rfl, rfl, trivial⟩, hs⟩
     ··refine At.condF rfl (bn e2) ?_
       refine At.exit ?_; refine At.the ?_; refine At.the ?_; refine At.f8 (At.f8 (At.f8 (At.f8 (At.f8 (At.f8 (At.f8 (At.f7 ?_))))))); refine At.f8 ?_; exact fun a w e hs => g7 (e1, p, u, J, b4, b5, p.length, Z, a1, u.length, a2, a3, n8, b4.length, o0) ⟨(bdn j g6), rfl, rfl, h2, rfl, h3⟩ a w (e.sub ⟨rfl, rfl, trivial⟩) hs
 ··refine At.condT rfl (nt (bn c9)) ?_
   refine At.seq (At.region ?_); refine At.y (Y.build (is := []) (xo := []) (vs := []) (cs := [i6 0, .slice none 0 0, .slice none 0 0, .slice none 0 0]) rfl rfl rfl rfl rfl rfl) rfl rfl rfl ?_; refine At.run 1 rfl ?_; refine At.store rfl rfl rfl rfl (.s (.s .z)) rfl rfl rfl (.c (.c (.c (.c .n)))) ?_; refine At.run 1 rfl (nT (At.ret (At.thr ?_))); refine At.nilRow Fl.bs 9 ?_; refine At.nilRow Q3.fl 32 ?_; refine At.nilGrow Q4.ow 35 ?_; refine At.resM (.inl rfl) rfl (RV.cell rfl rfl (.s (.s (.s .z))) rfl rfl rfl (RV.tmp rfl RV.nil)) ?_; refine At.drop (.s (.s (.s .z))) (At.drop (.s (.s (.s .z))) (At.f3 (At.f1 (At.f2 (At.f3 ?_))))); cases bret j; exact fun a w e hs => ⟨_, ⟨g2, 0, none, 0, 0, none, 0, 0, none, 0, rfl, rfl, rfl, rfl, rfl⟩, hs⟩

end Go.Bw
namespace Go.Bw
open Go Go.RowKit

abbrev PostE := Ending → List HProp → Prop
def SpecE (P : Program) (f : Nat) (args : List Value) (R : Res) (l : List HProp) (post : PostE) : Prop :=
 ∀ w, sat R l w → Calls P f args.toArray w fun e w' => ∃ l', post e l' ∧ sat R l' w'
def PostBD (P : Program) (fn : Func) (R : Res) (post : PostE) : Exit → Act → World → Prop := bodyPostD P fn fun e w' => ∃ l', post e l' ∧ sat R l' w'
theorem Q243 {n : Nat} {args : List Value} (hn : Nat.ble args.length n = true) : Env n [] (envA 0 args) { tmps := args.toArray ++ Array.replicate (n - args.toArray.size) undef, defers := [] } := by
 refine ⟨?_, rfl, fun t v hv => ?_⟩
 ·have : args.length ≤ n := by simpa using hn
  simp; omega
 ·obtain ⟨j, rfl, hj⟩ := Q207 hv
  show (args.toArray ++ Array.replicate _ undef).getD (0 + j) undef = v
  have hlt := (List.getElem?_eq_some_iff.1 hj).1
  rw [Nat.zero_add, Array.getD_eq_getD_getElem?, Array.getElem?_append_left (by simpa using hlt), List.getElem?_toArray, hj]
  rfl
theorem SpecE.ofD {P : Program} {f : Nat} {fn : Func} {c : Code} {args : List Value} {R : Res} {l : List HProp} {post : PostE} (hf : P.funcs[f]? = some fn) (hb : fn.body = some c) (hn : Nat.ble args.length fn.ntmps = true)
 (h : At fn.ntmps [] R (envA 0 args) l (c.wp P (PostBD P fn R post))) : SpecE P f args R l post := fun w hs =>
 calls_of_wp_defers hf hb (h _ w (Q243 hn) hs)
theorem SpecE.ret {P : Program} {f : Nat} {args : List Value} {R : Res} {l : List HProp} {post : Post} (h : SpecE P f args R l (fun e l' => ∃ v, e = .returned v ∧ post v l')) : Spec P f args R l post := fun w hs =>
 (h w hs).mono fun e w' ⟨l', ⟨v, he, hp⟩, hs'⟩ => ⟨v, l', he, hp, hs'⟩
theorem Spec.toE {P : Program} {f : Nat} {args : List Value} {R : Res} {l : List HProp} {post : Post} (h : Spec P f args R l post) : SpecE P f args R l (fun e l' => ∃ v, e = .returned v ∧ post v l') := fun w hs =>
 (h w hs).mono fun e w' ⟨v, l', he, hp, hs'⟩ => ⟨l', ⟨v, he, hp⟩, hs'⟩
def SpecD (P : Program) (f : Nat) (args : List Value) (u : FrameMode) (R : Res) (l : List HProp) (post : FrameMode → List HProp → Prop) : Prop :=
 ∀ w, sat R l w → CallsD P f args.toArray u w fun e u' w' => ∃ v l', e = .returned v ∧ post u' l' ∧ sat R l' w'
section
variable {P : Program} [Tys P] {os : List Oper} {Q : Exit → Act → World → Prop} {rest : List Oper} {n : Nat} {ds : List Deferred} {R : Res} {env : List (Nat × Value)} {l l' : List HProp} {next : Act → World → Prop}
variable {d ty : Nat} {pos : String} {af : Array Edge} {g : Option (Nat × Bool)}
theorem Q303 {a : Act} {w : World} {x : Operand} {xs : List Operand} {ts : Array Nat} {f : Nat} {fs cap : List Value} {vs : List Value} {dd : Option Nat} (e : Env n ds env a)
 (hx : ev env x = some (.func (.func f) fs.toArray cap.toArray)) (hv : vals env xs = some vs) (c : Callee P f) :
 (execOp a.eval ⟨dd, .call ⟨.value x, xs.toArray, ts⟩, ty, pos, af, g⟩).run P w = .ok (.enter f (fs ++ vs ++ cap).toArray) w := by
 have := Q119 e hv
 simp [execOp, resolve, Deferred.ofValue, invoke, e.ev hx, Q215 c, this]
theorem At.callF (hg : grd os env g = some true) {x : Operand} {xs : List Operand} {ts : Array Nat} {f : Nat} {fs cap : List Value} {vs : List Value} {post : Post} (c : Callee P f)
 (hx : ev env x = some (.func (.func f) fs.toArray cap.toArray)) (hv : vals env xs = some vs) (hd : Nat.blt d n = true)
 (s : Spec P f (fs ++ vs ++ cap) R l post) (h : ∀ v l', post v l' → At n ds R ((d, v) :: env) l' (wpList P os.toArray Q rest)) :
 At n ds R env l (wpList P os.toArray Q (⟨some d, .call ⟨.value x, xs.toArray, ts⟩, ty, pos, af, g⟩ :: rest)) := fun a w e hs => by
 refine wpList_step fun K hK => ?_
 rw [if_pos (Q66 e hg)]
 unfold Oper.wp
 rw [Q303 e hx hv c, Oper.upon_enter]
 refine (s w hs).mono fun e' w' ⟨v, l', he, hp, hs'⟩ => ?_
 subst he
 exact hK _ _ (h v l' hp _ _ (e.put hd v) hs')
theorem At.defer (hg : grd os env g = some true) {x : Operand} {ts : Array Nat} {f : Nat} {cap : List Value} (hx : ev env x = some (.func (.func f) #[] cap.toArray))
 (h : At n (⟨.fn (.func f) cap.toArray, #[]⟩ :: ds) R env l (wpList P os.toArray Q rest)) :
 At n ds R env l (wpList P os.toArray Q (⟨none, .defer ⟨.value x, #[], ts⟩, ty, pos, af, g⟩ :: rest)) := fun a w e hs => by
 refine wpList_step fun K hK => ?_
 rw [if_pos (Q66 e hg)]
 unfold Oper.wp
 have hr : (execOp a.eval ⟨none, .defer ⟨.value x, #[], ts⟩, ty, pos, af, g⟩).run P w = .ok (.defer ⟨.fn (.func f) cap.toArray, #[]⟩) w := by
  simp [execOp, resolve, Deferred.ofValue, e.ev hx]
 rw [hr, Oper.upon_defer]
 exact hK _ _ (h _ _ ⟨e.size, by show _ :: a.defers = _; rw [e.defs], e.get⟩ hs)
theorem Q277 {fn : Func} {r : List ResultVar} {vs : List Value} {a : Act} {w : World} (hr : fn.results = r.toArray) (h : (r.mapM (resF a.tmps)).run P w = .ok vs w) : (results fn a.tmps).run P w = .ok (resT vs) w := by
 rw [Q210, hr, List.mapM_toArray]
 simp only [Sem.run_bind, Sem.run_map, h, Result.andThen, Sem.run_pure]
 cases vs with
 | nil => rfl
 | cons v vs =>
  cases vs with
  | nil => rfl
  | cons u vs => simp [resT]
theorem At.resMD {fn : Func} {post : PostE} {x : Exit} {r : List ResultVar} {vs : List Value} (hx : x = .ret ∨ x = .normal) (hr : fn.results = r.toArray) (hv : RV P n R env l r vs) (k : At n [] R env l (fun a w => ∃ l', post (.returned (resT vs)) l' ∧ sat R l' w)) : At n [] R env l (PostBD P fn R post x) := fun a w e hs => by
 obtain ⟨l2, hp, hs'⟩ := k a w e hs
 have key : Leaves P fn a.tmps (fun e w' => ∃ l', post e l' ∧ sat R l' w') a.defers .returning w := by
  rw [e.defs]
  exact ⟨_, Q277 hr (hv a w e hs), l2, hp, hs'⟩
 rcases hx with rfl | rfl <;> exact key
theorem At.leaveD {fn : Func} {post : PostE} {x : Exit} {u : FrameMode} {r : List ResultVar} {f : Nat} {cap : List Value} {pd : FrameMode → List HProp → Prop}
 (hx : (x = .ret ∨ x = .normal) ∧ u = .returning ∨ ∃ ch, x = .panic ch ∧ u = .panicking ch) (hr : fn.results = r.toArray) (c : Callee P f) (s : SpecD P f cap u R l pd)
 (k : ∀ u' l', pd u' l' → settle u' = .returning ∧ ∃ vs, RV P n R env l' r vs ∧ At n [] R env l' (fun a w => ∃ l2, post (.returned (resT vs)) l2 ∧ sat R l2 w)) :
 At n [⟨.fn (.func f) cap.toArray, #[]⟩] R env l (PostBD P fn R post x) := fun a w e hs => by
 have key : Leaves P fn a.tmps (fun e w' => ∃ l', post e l' ∧ sat R l' w') a.defers u w := by
  rw [e.defs]
  refine leaves_cons (f := f) (args := cap.toArray) ?_ ?_ ?_
  ·rcases hx with ⟨_, rfl⟩ | ⟨ch, _, rfl⟩ <;> simp
  ·show (callFunc f (#[] ++ cap.toArray)).run P w = _
   rw [Q215 c]
   simp
  ·refine (s w hs).mono ?_
   rintro e' u' w' ⟨v, l', rfl, hp, hs'⟩
   obtain ⟨hu, vs, hv, k2⟩ := k u' l' hp
   have e2 : Env n [] env { a with defers := [] } := ⟨e.size, rfl, e.get⟩
   have h1 := hv _ w' e2 hs'
   obtain ⟨l2, hp2, hs2⟩ := k2 _ w' e2 hs'
   show Leaves P fn a.tmps _ [] (settle u') w'
   rw [hu]
   exact ⟨_, Q277 (a := { a with defers := [] }) hr h1, l2, hp2, hs2⟩
 rcases hx with ⟨rfl | rfl, rfl⟩ | ⟨ch, rfl, rfl⟩ <;> exact key
end
theorem Q262 (t : Nat) (p : Option Nat) : (opti t p).cells.toList = [opti t p] := by cases p <;> rfl
theorem Q236 (t : Nat) (p : Option Nat) : [opti t p].all (·.oneCell') = true := by cases p <;> rfl
def recM : FrameMode → Value × FrameMode
 | .panicking ({ v, recovered := false, goexit := false } :: older) => (v, .panicking ({ v, recovered := true } :: older))
 | u => (.nilIface, u)
section
variable {P : Program} [Tys P]
theorem SpecD.of {f : Nat} {fn : Func} {id : Nat} {d ty : Nat} {pos : String} {af : Array Edge} {ts : Array Nat} {c2 : Code} {args : List Value} {R : Res} {l : List HProp} {u u' : FrameMode} {v : Value} {post : FrameMode → List HProp → Prop}
 (hf : P.funcs[f]? = some fn) (hb : fn.body = some (.seq (.region id #[⟨some d, .call ⟨.builtin .recover, #[], ts⟩, ty, pos, af, none⟩] false) c2)) (hn : Nat.ble args.length fn.ntmps = true) (hd : Nat.blt d fn.ntmps = true) (hu : recM u = (v, u'))
 (h : At fn.ntmps [] R ((d, v) :: envA 0 args) l (c2.wp P (PostB P fn R fun _ l' => post u' l'))) : SpecD P f args u R l post := fun w hs => by
 refine callsD_of_wpS hf hb fun c₀ cs hc => ?_
 refine wpS_seq (wpS_region ?_)
 have e0 := Q243 (n := fn.ntmps) (args := args) hn
 have hx := h _ w (e0.put hd v) hs
 have fin : ∀ c1 : Frame, c1 = { c₀ with mode := u' } → c2.wpS P (bodyPostS P fn c₀ cs fun e u' w' => ∃ v l', e = .returned v ∧ post u' l' ∧ sat R l' w')
  (({ tmps := args.toArray ++ Array.replicate (fn.ntmps - args.toArray.size) undef, defers := [] } : Act).put (some d) v) (c1 :: cs) w := by
  rintro c1 rfl
  refine wpS_of_wp (fun b k cs => ?_)
  obtain ⟨e, a', w', hq, harr⟩ := hx b k cs
  refine ⟨e, a', w', ?_, harr⟩
  cases e with
  | normal => obtain ⟨h1, v', h2, h3⟩ := hq; exact ⟨h1, u', rfl, v', h2, h3⟩
  | ret => obtain ⟨h1, v', h2, h3⟩ := hq; exact ⟨h1, u', rfl, v', h2, h3⟩
  | panic ch => obtain ⟨h1, h3⟩ := hq; exact ⟨h1, u', rfl, h3⟩
  | outgrown => exact ⟨u', hq⟩
  | exit id => exact hq
  | goto l => exact hq
 have hrun : (execOp (({ tmps := args.toArray ++ Array.replicate (fn.ntmps - args.toArray.size) undef, defers := [] } : Act).eval) ⟨some d, .call ⟨.builtin .recover, #[], ts⟩, ty, pos, af, none⟩).run P w = .ok .recover w := by
  simp [execOp, resolve, invoke, builtin]
 show wpOpsS P _ _ [0] _ _ _
 have hw : Region.wanted (⟨some d, .call ⟨.builtin .recover, #[], ts⟩, ty, pos, af, none⟩ : Oper) (yielded #[⟨some d, .call ⟨.builtin .recover, #[], ts⟩, ty, pos, af, none⟩] (args.toArray ++ Array.replicate (fn.ntmps - args.toArray.size) undef)) = true := rfl
 have hrd : (recoverD (c₀ :: cs) = none ∧ v = .nilIface ∧ u' = u) ∨ recoverD (c₀ :: cs) = some (v, { c₀ with mode := u' } :: cs) := by
  unfold recM at hu
  split at hu
  ·cases hu; exact .inr (by simp [recoverD, hc])
  ·rename_i hne
   cases hu
   refine .inl ⟨?_, rfl, rfl⟩
   unfold recoverD
   dsimp only
   split
   ·rename_i v older hm
    rw [hc] at hm
    exact (hne _ _ hm).elim
   ·rfl
 simp only [wpOpsS, hw, if_true, List.getElem?_toArray, List.getElem?_cons_zero, hrun]
 rcases hrd with ⟨h1, rfl, rfl⟩ | h1
 ·rw [h1]
  exact fin c₀ (by cases c₀; simp_all)
 ·rw [h1]
  exact fin _ rfl
end
end Go.Bw
namespace Go.Bw
open Go Go.RowKit

def sufA (A : Option Addr) (c k sz : Nat) : Option Addr := if c = k then A else A.map (·.add (k * sz))
section
variable {P : Program} [Tys P] {os : List Oper} {Q : Exit → Act → World → Prop} {rest : List Oper} {n : Nat} {ds : List Deferred} {R : Res} {env : List (Nat × Value)} {l l' : List HProp}
variable {d ty : Nat} {pos : String} {af : Array Edge} {g : Option (Nat × Bool)} {α : Type} [Inhabited α] {F : Fl α} {e t t2 : Nat} {A : Option Addr} {c m : Nat} {xs : List α} {K : Act → World → Prop} {dd : Option Nat}
theorem op_v0 {o : Oper} (hg : grd os env o.guard = some true) (hdst : o.dst = none)
 (h : ∀ a w, Env n ds env a → sat R l w → ∃ v w' l', (execOp a.eval o).run P w = .ok (.value v) w' ∧ sat R l' w' ∧ At n ds R env l' (wpList P os.toArray Q rest)) :
 At n ds R env l (wpList P os.toArray Q (o :: rest)) := fun a w e hs => by
 refine wpList_step fun K hK => ?_
 rw [if_pos (Q66 e hg)]
 obtain ⟨v, w', l', hr, hs', k⟩ := h a w e hs
 unfold Oper.wp
 rw [hr]
 show K (a.put o.dst v) w'
 rw [hdst]
 exact hK _ _ (k _ _ e hs')
theorem Y.slSuf (f : Frt l (row F e A m c xs) l') {x y : Operand} {k : Int} {ki : IntKind} {ii : TI} (hi : ti P t = some ii) (hk : ii.k = .slice e) {j : TI} (hj : ti P e = some j) (hjs : j.size = F.sz) (hx : ev env x = some (.slice A m c)) (hy : ev env y = some (.int ki k)) (h0 : 0 ≤ k) (h1 : k ≤ (m : Int)) :
 Y P n ds R env l ⟨dd, .slice t x (some y) none none, ty, pos, af, g⟩ (.slice (sufA A c k.toNat F.sz) (m - k.toNat) (c - k.toNat)) := fun a w e0 hs => by
 have hu := (Q12 hi).slice hk
 have hu' : P.underlying t = some (.slice (P.elem t)) := by rw [hu]; simp [Program.elem, hu]
 have he : P.elem t = e := by rw [hu] at hu'; injection hu' with h; injection h with h; exact h.symm
 have hr := run_slice_l (P := P) (w := w) t A m c hu' ki k h0 h1
 rw [he, (Q12 hj).run_sizeOf] at hr
 simp only [execOp, e0.ev hx, e0.ev hy, Option.map_none, Option.map_some, Sem.run_bind, run_sliceAt_slice w t _ _ _ _ hu', hr, Result.andThen, Sem.run_pure, sliced, hjs, sufA]
theorem zero_flat (F : Fl α) (z : α) (k : Nat) {cs : Array Value} (hcs : cs.toList = F.enc z) : (Builtin.zeroCells cs k).toList = (List.replicate k z).flatMap F.enc := by
 have hsz : cs.size = F.sz := by rw [← Array.length_toList, hcs, F.len]
 unfold Builtin.zeroCells
 rw [hsz]
 simp only [Array.toList_map, Array.toList_range]
 apply List.ext_getElem?
 intro q
 have hp := F.pos
 by_cases hq : q < k * F.sz
 ·have h1 : q / F.sz < k := Nat.div_lt_of_lt_mul (by rw [Nat.mul_comm]; exact hq)
  have h2 : q % F.sz < F.sz := Nat.mod_lt _ hp
  have := Q133 F (xs := List.replicate k z) (i := q / F.sz) (x := z) (j := q % F.sz) (by simp [h1]) h2
  rw [Nat.mul_comm, Nat.div_add_mod] at this
  rw [this, ← hcs]
  simp [hq, hsz, h2]
 ·rw [List.getElem?_eq_none (by simp; omega), List.getElem?_eq_none (by rw [Q37]; simp; omega)]
theorem At.clearSuf (hg : grd os env g = some true) (f : Frt l (row F e A m c xs) l') {x : Operand} {k : Int} {z : α} {ii j : TI} (hi : ti P t = some ii) (hk : ii.k = .slice e) (hj : ti P e = some j) (hjz : j.zero = F.enc z)
 (hx : ev env x = some (.slice (sufA A c k.toNat F.sz) (m - k.toNat) (c - k.toNat))) (hk0 : 0 ≤ k) (hk1 : k ≤ (m : Int))
 (h : At n ds R env (row F e A m c (xs.take k.toNat ++ List.replicate (m - k.toNat) z) :: l') (wpList P os.toArray Q rest)) :
 At n ds R env l (wpList P os.toArray Q (⟨none, .call ⟨.builtin .clear, #[x], #[t]⟩, ty, pos, af, g⟩ :: rest)) := op_v0 hg rfl fun a w e0 hs => by
 have hs1 := hs.frt f
 have hm : xs.length = m := let ⟨_, o, _⟩ := hs1.head; Q105 o
 subst hm
 obtain ⟨xi, zv, hxi, hsz, hby, hze, hzc⟩ := (Q12 hj).info
 have hu := (Q12 hi).slice hk
 have hzr : ∀ w, (zeroValue e).run P w = .ok zv w := fun w => by simp [zeroValue, typeInfo, hxi, hze]
 by_cases hlt : k.toNat < xs.length
 ·obtain ⟨h', o, s, kk⟩ := hs1.upd
  obtain ⟨gb, cur, rfl, hgb, h3, h4, h5, h6⟩ := Q154 o (by omega)
  have hA : sufA (some ⟨gb, 0, none⟩) c k.toNat F.sz = some ⟨gb, k.toNat * F.sz, none⟩ := by
   unfold sufA; rw [if_neg (by omega)]; simp [Q137]
  rw [hA] at hx
  have hgw : w.heap[gb]? = some (.cells cur e (0, 0)) := s gb _ hgb
  have hzl : zv.cells.toList = F.enc z := by rw [← hjz, hzc]
  have hzs : (Builtin.zeroCells zv.cells (xs.length - k.toNat)).toList = (List.replicate (xs.length - k.toNat) z).flatMap F.enc := zero_flat F z _ hzl
  have hfl : ((List.replicate (xs.length - k.toNat) z).flatMap F.enc).length = (xs.length - k.toNat) * F.sz := by rw [Q37, List.length_replicate]
  have hmul : k.toNat * F.sz + (xs.length - k.toNat) * F.sz = xs.length * F.sz := by rw [← Nat.add_mul]; congr 1; omega
  have hle : xs.length * F.sz ≤ c * F.sz := Nat.mul_le_mul_right _ h3
  have hst := run_storeCells_at (P := P) gb (k.toNat * F.sz) e ((List.replicate (xs.length - k.toNat) z).flatMap F.enc) 0 cur w hgw (by rw [hfl, h5]; omega) (Q204 F _)
  rw [Nat.add_zero, hfl, hmul] at hst
  obtain ⟨q, hq⟩ : ∃ q, xs.length - k.toNat = q + 1 := ⟨xs.length - k.toNat - 1, by omega⟩
  refine ⟨.tuple #[], w.setRow gb (cur.toList.take (k.toNat * F.sz) ++ (List.replicate (xs.length - k.toNat) z).flatMap F.enc ++ cur.toList.drop (xs.length * F.sz)).toArray, _, ?_, ?_, h⟩
  ·have hrun : (Builtin.clear_ #[t] ty #[.slice (some ⟨gb, k.toNat * F.sz, none⟩) (xs.length - k.toNat) (c - k.toNat)]).run P w = .ok (.tuple #[]) (w.setRow gb (cur.toList.take (k.toNat * F.sz) ++ (List.replicate (xs.length - k.toNat) z).flatMap F.enc ++ cur.toList.drop (xs.length * F.sz)).toArray) := by
    rw [hq] at hzs hst ⊢
    simp [Builtin.clear_, run_underlying hu, hzr, hzs, hst]
   simp only [execOp, resolve, invoke, builtin, Sem.run_bind, Sem.run_pure, Result.andThen_ok, List.map_toArray, List.map_cons, List.map_nil, e0.ev hx, hrun]
  ·have hnew := setRow_heap w gb cur (cur.toList.take (k.toNat * F.sz) ++ (List.replicate (xs.length - k.toNat) z).flatMap F.enc ++ cur.toList.drop (xs.length * F.sz)).toArray e (0, 0) hgw
   have hcl5 : cur.toList.length = c * F.sz := by rw [Array.length_toList, h5]
   have htk : (cur.toList.take (k.toNat * F.sz)).length = k.toNat * F.sz := by rw [List.length_take, hcl5]; omega
   have hll : (cur.toList.take (k.toNat * F.sz) ++ (List.replicate (xs.length - k.toNat) z).flatMap F.enc ++ cur.toList.drop (xs.length * F.sz)).length = cur.size := by
    rw [List.length_append, List.length_append, List.length_drop, htk, hfl, hcl5, h5]; omega
   refine kk _ (single gb (.cells (cur.toList.take (k.toNat * F.sz) ++ (List.replicate (xs.length - k.toNat) z).flatMap F.enc ++ cur.toList.drop (xs.length * F.sz)).toArray e)) _ ?_ rfl rfl rfl (Nat.le_refl _) (fun x o' hx hn => ?_) (fun x o' hx => ?_) (fun x o' hx => ?_)
   ·have hsl : (xs.take k.toNat ++ List.replicate (xs.length - k.toNat) z).length = xs.length := by simp; omega
    refine ⟨by rw [Q37, hsl], .inr ⟨gb, _, rfl, Q188 _ _, h3, h4, by rw [List.size_toArray, hll, h5], ?_⟩⟩
    rw [List.flatMap_append]
    have hpre : (xs.take k.toNat).flatMap F.enc = cur.toList.take (k.toNat * F.sz) := by
     have e1 : xs.flatMap F.enc = (xs.take k.toNat).flatMap F.enc ++ (xs.drop k.toNat).flatMap F.enc := by rw [← List.flatMap_append, List.take_append_drop]
     have e2 : ((xs.take k.toNat).flatMap F.enc).length = k.toNat * F.sz := by rw [Q37, List.length_take]; congr 1; omega
     have e3 : cur.toList.take (k.toNat * F.sz) = (cur.toList.take (xs.length * F.sz)).take (k.toNat * F.sz) := by rw [List.take_take]; congr 1; omega
     rw [e3, h6, e1, List.take_append_of_le_length (Nat.le_of_eq e2.symm), List.take_of_length_le (Nat.le_of_eq e2)]
    rw [hpre]
    simp only [List.toList_toArray]
    rw [List.take_append_of_le_length (by rw [List.length_append, htk, hfl]; omega), List.take_of_length_le (by rw [List.length_append, htk, hfl]; omega)]
   ·rw [setRow_other w gb x _ (fun hxg => by subst hxg; rw [hgb] at hn; cases hn)]; exact hx
   ·obtain ⟨rfl, rfl⟩ := Q93 hx; exact hnew
   ·obtain ⟨rfl, rfl⟩ := Q93 hx; exact .inl ⟨_, hgb⟩
 ·have hz0 : xs.length - k.toNat = 0 := by omega
  have hsame : xs.take k.toNat ++ List.replicate (xs.length - k.toNat) z = xs := by
   rw [hz0, List.take_of_length_le (by omega)]; simp
  rw [hsame] at h
  refine ⟨.tuple #[], w, _, ?_, hs1, h⟩
  have hrun : (Builtin.clear_ #[t] ty #[.slice (sufA A c k.toNat F.sz) (xs.length - k.toNat) (c - k.toNat)]).run P w = .ok (.tuple #[]) w := by
   rw [hz0]
   cases sufA A c k.toNat F.sz <;> simp [Builtin.clear_, run_underlying hu]
  simp only [execOp, resolve, invoke, builtin, Sem.run_bind, Sem.run_pure, Result.andThen_ok, List.map_toArray, List.map_cons, List.map_nil, e0.ev hx, hrun]
end
end Go.Bw
