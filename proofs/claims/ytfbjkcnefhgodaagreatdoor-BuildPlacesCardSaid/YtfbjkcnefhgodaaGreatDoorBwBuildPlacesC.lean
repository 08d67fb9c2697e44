/- BuildPlaces, part 3: walks and plain laws. Conditions: none. -/
import Derived.Test.YtfbjkcnefhgodaaGreatDoorProg
import Derived.Deep.QuietTactic
import Derived.Defers
import Derived.Recover
import Derived.Laws.CopyRow
import Derived.Test.YtfbjkcnefhgodaaGreatDoorBwBuildPlacesB
set_option linter.unusedVariables false
set_option linter.unusedSimpArgs false
set_option linter.unusedSectionVars false
set_option maxRecDepth 100000
set_option maxHeartbeats 2000000
namespace Go.Bw
open Go Go.RowKit Go.Proofs
variable {R : Res} {Fr : List HProp} {b0 n0_0 c0_0 n0_3 c0_3 n0_4 c0_4 n0_5 c0_5 n0_6 c0_6 b0_7 n0 c0 n0_1 c0_1 b1 b1_c0 : Nat} {A0_0 A0_3 A0_4 A0_5 A0_6 A0 A0_1 : Option Addr}
structure Q0 where
 Kind : Int
 At : Int
 Text : Bs
 Number : Int
deriving Inhabited, DecidableEq
def Q0.fl : Fl Q0 := ⟨4, fun x => [i6 x.Kind, i6 x.At, .string ⟨(x.Text).toArray⟩, i6 x.Number], fun _ => rfl, fun x u hu => by simp at hu; rcases hu with rfl | rfl | rfl | rfl <;> rfl, by decide⟩
structure Q3 where
 At : Int
 Err : Int
deriving Inhabited, DecidableEq
def Q3.fl : Fl Q3 := ⟨2, fun x => [i6 x.At, i6 x.Err], fun _ => rfl, fun x u hu => by simp at hu; rcases hu with rfl | rfl <;> rfl, by decide⟩
structure Q9 where
 from_ : Int
 action : Bs
 to : Int
deriving Inhabited, DecidableEq
def Q9.fl : Fl Q9 := ⟨3, fun x => [i6 x.from_, .string ⟨(x.action).toArray⟩, i6 x.to], fun _ => rfl, fun x u hu => by simp at hu; rcases hu with rfl | rfl | rfl <;> rfl, by decide⟩
theorem bytealg_IndexByteString.ext : ExtOk Tryz.prog 168 Extern.BytealgIndexByte.indexByte := ⟨_, Tryz.func168, by kernel_rfl, by kernel_rfl, by kernel_rfl, by kernel_rfl⟩

noncomputable def Q145.f (a0 : Bs) (a1 : Int) : Option Int :=
 some (Lib.indexByte a0 a1.toNat.toUInt8)
theorem Q145.callee : Callee Tryz.prog 143 := ⟨_, Tryz.func143, by kernel_rfl, by kernel_rfl⟩
theorem Q145.spec {a0 : Bs} {a1 : Int} {r : Int} (j : Q145.f a0 a1 = some r) :
 Spec Tryz.prog 143 [.string ⟨(a0).toArray⟩, .int .u8 a1] R (Fr) (fun v l' => v = i6 r ∧ Fr = l') := by
 refine Spec.of Tryz.func143 rfl rfl ?_; unfold Q145.f at j; have j := brun j; refine sR 1 rfl (nT (sR 2 rfl ?_)); refine At.y (Y.ext bytealg_IndexByteString.ext rfl rfl (fun w => Q254 _ _ w)) rfl rfl rfl ?_; refine At.run 1 rfl (nT (At.ret ?_)); cases bret j; exact At.res (.inl rfl) rfl rfl ⟨rfl, rfl⟩

noncomputable def Q141.f (a0 : Bs) (a1 : Int) : Option Int :=
 (Q145.f a0 a1).bind fun p =>
 some p
theorem Q141.callee : Callee Tryz.prog 108 := ⟨_, Tryz.func108, by kernel_rfl, by kernel_rfl⟩
theorem Q141.spec {a0 : Bs} {a1 : Int} {r : Int} (j : Q141.f a0 a1 = some r) :
 Spec Tryz.prog 108 [.string ⟨(a0).toArray⟩, .int .u8 a1] R (Fr) (fun v l' => v = i6 r ∧ Fr = l') := by
 refine Spec.of Tryz.func108 rfl rfl ?_; unfold Q141.f at j; have j := brun j; refine sR 1 rfl (nT (sR 2 rfl ?_)); obtain ⟨q, p, j⟩ := bbind j; refine At.call rfl Q145.callee rfl rfl rfl (Q145.spec p) ?_; rintro _ _ ⟨rfl, rfl⟩; refine At.run 1 rfl (nT (At.ret ?_)); cases bret j; exact At.res (.inl rfl) rfl rfl ⟨rfl, rfl⟩

noncomputable def Q151.f (a0 : Int) : Option Int :=
 if a0 = 10 then
 some 1
 else
 jn (
 if 97 ≤ a0 then
 some (.inl (decide (a0 ≤ 122)))
 else
 some (.inl false)) (fun (p : Bool) =>
 if p = true then
 some 2
 else
 jn (
 if 65 ≤ a0 then
 some (.inl (decide (a0 ≤ 90)))
 else
 some (.inl false)) (fun (q : Bool) =>
 if q = true then
 some 3
 else
 jn (
 if 48 ≤ a0 then
 some (.inl (decide (a0 ≤ 57)))
 else
 some (.inl false)) (fun (u : Bool) =>
 if u = true then
 some 4
 else
 jn (
 if 32 < a0 then
 some (.inl (decide (a0 < 127)))
 else
 some (.inl false)) (fun (x : Bool) =>
 jn (
 if x = true then
 some (.inl (!(decide (a0 = 95))))
 else
 some (.inl false)) (fun (C : Bool) =>
 if C = true then
 some 5
 else
 some 0)))))
theorem Q151.callee : Callee Tryz.prog 144 := ⟨_, Tryz.func144, by kernel_rfl, by kernel_rfl⟩
theorem Q151.spec {a0 : Int} {r : Int} (j : Q151.f a0 = some r) :
 Spec Tryz.prog 144 [.int .u8 a0] R (Fr) (fun v l' => v = i6 r ∧ Fr = l') := by
 refine Spec.of Tryz.func144 rfl rfl ?_; unfold Q151.f at j; have j := brun j; refine sR 1 rfl (nT (At.seq ?_)); refine At.block ?_; refine sR 3 rfl (nT ?_); rcases bite j with ⟨D, j⟩ | ⟨D, j⟩
 ··refine At.condT rfl (decide_eq_true D) ?_
   refine sR 1 rfl (nT (At.ret ?_)); refine At.ibr ?_; refine At.thr ?_; cases bret j; exact At.res (.inl rfl) rfl rfl ⟨rfl, rfl⟩
 ··refine At.condF rfl (decide_eq_false D) ?_
   refine sR 3 rfl ?_; obtain ⟨a4, a5, b6, j⟩ := bjoin j; refine At.joinO 3 (X := Bool) (fun p => [(0, .int .u8 a0), (12, .bool p)]) (fun p => Fr) (fun p => a4 (.inl p) = some r) ?_ (fun V => ?_)
   ·rintro p j; have j := (a5 _).symm.trans j
    ·refine At.run 1 rfl (nT ?_); rcases bite j with ⟨E, j⟩ | ⟨E, j⟩
     ··refine At.condT rfl E ?_
       refine sR 1 rfl (nT (At.ret ?_)); refine At.ibr ?_; refine At.thr ?_; cases bret j; exact At.res (.inl rfl) rfl rfl ⟨rfl, rfl⟩
     ··refine At.condF rfl (bn E) ?_
       refine sR 3 rfl ?_; obtain ⟨a6, a7, b7, j⟩ := bjoin j; refine At.joinO 3 (X := Bool) (fun q => [(0, .int .u8 a0), (19, .bool q)]) (fun q => Fr) (fun q => a6 (.inl q) = some r) ?_ (fun Z => ?_)
       ·rintro q j; have j := (a7 _).symm.trans j
        ·refine At.run 1 rfl (nT ?_); rcases bite j with ⟨G, j⟩ | ⟨G, j⟩
         ··refine At.condT rfl G ?_
           refine sR 1 rfl (nT (At.ret ?_)); refine At.ibr ?_; refine At.thr ?_; cases bret j; exact At.res (.inl rfl) rfl rfl ⟨rfl, rfl⟩
         ··refine At.condF rfl (bn G) ?_
           refine sR 3 rfl ?_; obtain ⟨a8, a9, b8, j⟩ := bjoin j; refine At.joinO 3 (X := Bool) (fun u => [(0, .int .u8 a0), (26, .bool u)]) (fun u => Fr) (fun u => a8 (.inl u) = some r) ?_ (fun a1 => ?_)
           ·rintro u j; have j := (a9 _).symm.trans j
            ·refine At.run 1 rfl (nT ?_); rcases bite j with ⟨I, j⟩ | ⟨I, j⟩
             ··refine At.condT rfl I ?_
               refine sR 1 rfl (nT (At.ret ?_)); refine At.ibr ?_; refine At.thr ?_; cases bret j; exact At.res (.inl rfl) rfl rfl ⟨rfl, rfl⟩
             ··refine At.condF rfl (bn I) ?_
               refine sR 3 rfl ?_; obtain ⟨b2, b3, b9, j⟩ := bjoin j; refine At.joinO 3 (X := Bool) (fun x => [(0, .int .u8 a0), (33, .bool x)]) (fun x => Fr) (fun x => b2 (.inl x) = some r) ?_ (fun a2 => ?_)
               ·rintro x j; have j := (b3 _).symm.trans j
                ·refine At.run 1 rfl ?_; obtain ⟨b4, b5, c4, j⟩ := bjoin j; refine At.joinO 3 (X := Bool) (fun C => [(37, .bool C)]) (fun C => Fr) (fun C => b4 (.inl C) = some r) ?_ (fun a3 => ?_)
                 ·rintro C j; have j := (b5 _).symm.trans j
                  ·refine At.run 1 rfl (nT ?_); rcases bite j with ⟨J, j⟩ | ⟨J, j⟩
                   ··refine At.condT rfl J ?_
                     refine sR 1 rfl (nT (At.ret ?_)); refine At.ibr ?_; refine At.thr ?_; cases bret j; exact At.res (.inl rfl) rfl rfl ⟨rfl, rfl⟩
                   ··refine At.condF rfl (bn J) ?_
                     refine At.skip ?_; refine At.ibn ?_; refine At.thn (sR 1 rfl (nT (At.ret ?_))); cases bret j; exact At.res (.inl rfl) rfl rfl ⟨rfl, rfl⟩
                 ··rcases bite j with ⟨L, j⟩ | ⟨L, j⟩
                   ··refine At.know (t := 34) rfl L ?_
                     refine At.run 3 rfl ?_; exact At.of (a3 (!(decide (a0 = 95))) j) ⟨rfl, trivial⟩
                   ··refine At.know (t := 34) rfl (bn L) ?_
                     refine At.run 3 rfl ?_; exact At.of (a3 false j) ⟨rfl, trivial⟩
               ··rcases bite j with ⟨M, j⟩ | ⟨M, j⟩
                 ··refine At.know (t := 30) rfl (decide_eq_true M) ?_
                   refine At.run 3 rfl ?_; exact At.of (a2 (decide (a0 < 127)) j) ⟨rfl, rfl, trivial⟩
                 ··refine At.know (t := 30) rfl (decide_eq_false M) ?_
                   refine At.run 3 rfl ?_; exact At.of (a2 false j) ⟨rfl, rfl, trivial⟩
           ··rcases bite j with ⟨N, j⟩ | ⟨N, j⟩
             ··refine At.know (t := 23) rfl (decide_eq_true N) ?_
               refine At.run 3 rfl ?_; exact At.of (a1 (decide (a0 ≤ 57)) j) ⟨rfl, rfl, trivial⟩
             ··refine At.know (t := 23) rfl (decide_eq_false N) ?_
               refine At.run 3 rfl ?_; exact At.of (a1 false j) ⟨rfl, rfl, trivial⟩
       ··rcases bite j with ⟨O, j⟩ | ⟨O, j⟩
         ··refine At.know (t := 16) rfl (decide_eq_true O) ?_
           refine At.run 3 rfl ?_; exact At.of (Z (decide (a0 ≤ 90)) j) ⟨rfl, rfl, trivial⟩
         ··refine At.know (t := 16) rfl (decide_eq_false O) ?_
           refine At.run 3 rfl ?_; exact At.of (Z false j) ⟨rfl, rfl, trivial⟩
   ··rcases bite j with ⟨U, j⟩ | ⟨U, j⟩
     ··refine At.know (t := 9) rfl (decide_eq_true U) ?_
       refine At.run 3 rfl ?_; exact At.of (V (decide (a0 ≤ 122)) j) ⟨rfl, rfl, trivial⟩
     ··refine At.know (t := 9) rfl (decide_eq_false U) ?_
       refine At.run 3 rfl ?_; exact At.of (V false j) ⟨rfl, rfl, trivial⟩

noncomputable def Q41.l0b (a1 : Bs) (p : Int) : Option ((Int) ⊕ ((Int) ⊕ ((Int) ⊕ (Int)))) :=
 jn (
 if p < (a1.length : Int) then
 if (0 : Int) ≤ p ∧ p < (a1.length : Int) then
 some (.inl (decide (48 ≤ bat a1 p)))
 else none
 else
 some (.inl false)) (fun (q : Bool) =>
 jn (
 if q = true then
 if (0 : Int) ≤ p ∧ p < (a1.length : Int) then
 some (.inl (decide (bat a1 p ≤ 57)))
 else none
 else
 some (.inl false)) (fun (u : Bool) =>
 if u = true then
 nx (IntKind.i64.wrap (p + 1))
 else
 dn (.inl p)))
noncomputable def Q41.l0 (a1 : Bs) (p : Int) : Option ((Int) ⊕ ((Int) ⊕ (Int))) := iter (fun t_ : Int => Q41.l0b a1 t_) p
noncomputable def Q41.l1b (a1 : Bs) (p : Int) : Option ((Int) ⊕ ((Int) ⊕ ((Int) ⊕ (Int)))) :=
 jn (
 if p < (a1.length : Int) then
 if (0 : Int) ≤ p ∧ p < (a1.length : Int) then
 jn (
 if bat a1 p = 95 then
 some (.inl (true, true))
 else
 jn (
 if 97 ≤ bat a1 p then
 some (.inl (true, decide (bat a1 p ≤ 122)))
 else
 some (.inl (false, false))) (fun (s_ : Bool × Bool) =>
 some (.inl (false, s_.2)))) (fun (s_ : Bool × Bool) =>
 jn (
 if s_.2 = true then
 some (.inl (true, true))
 else
 jn (
 if 65 ≤ bat a1 p then
 some (.inl (true, decide (bat a1 p ≤ 90)))
 else
 some (.inl (false, false))) (fun (s_ : Bool × Bool) =>
 some (.inl (false, s_.2)))) (fun (s_ : Bool × Bool) =>
 jn (
 if s_.2 = true then
 some (.inl (true, true))
 else
 jn (
 if 48 ≤ bat a1 p then
 some (.inl (true, decide (bat a1 p ≤ 57)))
 else
 some (.inl (false, false))) (fun (s_ : Bool × Bool) =>
 some (.inl (false, s_.2)))) (fun (s_ : Bool × Bool) =>
 some (.inl s_.2))))
 else none
 else
 some (.inl false)) (fun (q : Bool) =>
 if q = true then
 nx (IntKind.i64.wrap (p + 1))
 else
 dn (.inl p))
noncomputable def Q41.l1 (a1 : Bs) (p : Int) : Option ((Int) ⊕ ((Int) ⊕ (Int))) := iter (fun t_ : Int => Q41.l1b a1 t_) p
noncomputable def Q41.f (a0 : Int) (a1 : Bs) : Option Int :=
 jn (
 if a0 = 4 then
 jn (Q41.l0 a1 1) (fun (p : Int) =>
 some (.inl p))
 else
 jn (
 if a0 = 2 then
 some (.inl (decide (a0 = 2)))
 else
 some (.inl (decide (a0 = 3)))) (fun (q : Bool) =>
 if q = true then
 jn (Q41.l1 a1 1) (fun (u : Int) =>
 some (.inl u))
 else
 some (.inl 1))) (fun (x : Int) =>
 some x)
theorem Q41.callee : Callee Tryz.prog 145 := ⟨_, Tryz.func145, by kernel_rfl, by kernel_rfl⟩
theorem Q41.spec {a0 : Int} {a1 : Bs} {r : Int} (j : Q41.f a0 a1 = some r) :
 Spec Tryz.prog 145 [i6 a0, .string ⟨(a1).toArray⟩] R (Fr) (fun v l' => v = i6 r ∧ Fr = l') := by
 refine Spec.of Tryz.func145 rfl rfl ?_; unfold Q41.f at j; have j := brun j; refine sR 1 rfl (nT (sR 1 rfl ?_)); refine nT (At.seq (sR 1 rfl (nT ?_))); obtain ⟨e1, e2, h9, j⟩ := bjoin j; refine At.join (X := Int) (fun E => [(5, i6 E)]) (fun E => Fr) (fun E => e1 (.inl E) = some r) ?_ (fun Z => ?_)
 ·rintro E j; have j := (e2 _).symm.trans j
  ·refine sR 2 rfl (nT (At.ret ?_)); cases bret j; exact At.res (.inl rfl) rfl rfl ⟨rfl, rfl⟩
 ··refine At.block ?_
   refine sR 2 rfl (nT ?_); rcases bite j with ⟨a2, j⟩ | ⟨a2, j⟩
   ··refine At.condT rfl (decide_eq_true a2) ?_
     refine At.block ?_; obtain ⟨e3, e4, k0, j⟩ := bjoin j; obtain ⟨O, a3, e5⟩ := bsome j; clear j; unfold Q41.l0 at a3; obtain ⟨a4, G⟩ := Q14.1 a3; clear a3; refine At.loopJ (X := Int) (Y := Int) (e0 := 1) (fun u => [(1, .string ⟨(a1).toArray⟩), (5, i6 u)]) (fun u => Fr) (fun m_ => fun u => iterN (fun t_ : Int => Q41.l0b a1 t_) m_ u = some O) a4 1 G (fun C => [(5, i6 C)]) (fun C => Fr) (fun C => e3 (.inl C) = some r) (fun a w e hs => ⟨e.sub ⟨rfl, rfl, trivial⟩, (by exact hs)⟩) ?_ (fun e6 => ?_)
     ·rintro C j; have j := (e4 _).symm.trans j
      ·refine At.ibx ?_; refine At.ibn ?_; refine At.thn ?_; exact fun a w e hs => Z C j a w (e.sub ⟨rfl, trivial⟩) hs
     ·clear G a4; rintro a4 u G; obtain ⟨e7, f_, e8, hf_, j⟩ := bit G; clear G; have j : (Q41.l0b a1 u).bind _ = some O := j; unfold Q41.l0b at j
      ·refine At.seq (sR 5 rfl ?_); obtain ⟨e9, f0, k1, j⟩ := bjoin j; refine At.joinO 5 (X := Bool) (fun I => [(1, .string ⟨(a1).toArray⟩), (5, i6 u), (18, .bool I)]) (fun I => Fr) (fun I => e9 (.inl I) = some O) ?_ (fun c6 => ?_)
       ·rintro I j; have j := (f0 _).symm.trans j
        ·refine At.run 1 rfl ?_; obtain ⟨f1, f2, k2, j⟩ := bjoin j; refine At.joinO 5 (X := Bool) (fun J => [(1, .string ⟨(a1).toArray⟩), (5, i6 u), (24, .bool J)]) (fun J => Fr) (fun J => f1 (.inl J) = some O) ?_ (fun c7 => ?_)
         ·rintro J j; have j := (f2 _).symm.trans j
          ·refine nT ?_; rcases bite j with ⟨a5, j⟩ | ⟨a5, j⟩
           ··refine At.condT rfl a5 ?_
             refine At.skip (At.thn ?_); refine At.block ?_; refine At.region (At.run 3 rfl (At.nil ?_)); refine At.ibn ?_; have j := bnx hf_ j; exact fun a w e hs => ⟨e7, (IntKind.i64.wrap (u + 1)), e8, j, e.sub ⟨rfl, rfl, trivial⟩, hs⟩
           ··refine At.condF rfl (bn a5) ?_
             refine At.exit ?_; refine At.the ?_; refine At.the ?_; exact fun a w e hs => e6 u (bdn j e5) a w (e.sub ⟨rfl, trivial⟩) hs
         ··rcases bite j with ⟨a6, j⟩ | ⟨a6, j⟩
           ··refine At.know (t := 19) rfl a6 ?_
             refine At.run 2 rfl ?_; obtain ⟨c8, j⟩ := bnone j; refine At.y (Y.ixStr rfl rfl rfl rfl c8.1 c8.2) rfl rfl rfl (At.run 2 rfl ?_); exact At.of (c7 (decide (bat a1 u ≤ 57)) j) ⟨rfl, rfl, rfl, trivial⟩
           ··refine At.know (t := 19) rfl (bn a6) ?_
             refine At.run 5 rfl ?_; exact At.of (c7 false j) ⟨rfl, rfl, rfl, trivial⟩
       ··rcases bite j with ⟨a7, j⟩ | ⟨a7, j⟩
         ··refine At.know (t := 13) rfl (decide_eq_true a7) ?_
           refine At.run 2 rfl ?_; obtain ⟨c9, j⟩ := bnone j; refine At.y (Y.ixStr rfl rfl rfl rfl c9.1 c9.2) rfl rfl rfl (At.run 2 rfl ?_); exact At.of (c6 (decide (48 ≤ bat a1 u)) j) ⟨rfl, rfl, rfl, trivial⟩
         ··refine At.know (t := 13) rfl (decide_eq_false a7) ?_
           refine At.run 5 rfl ?_; exact At.of (c6 false j) ⟨rfl, rfl, rfl, trivial⟩
   ··refine At.condF rfl (decide_eq_false a2) ?_
     refine At.seq (sR 2 rfl (nT ?_)); obtain ⟨f3, f4, k3, j⟩ := bjoin j; refine At.join (X := Bool) (fun L => [(1, .string ⟨(a1).toArray⟩), (5, i6 1), (27, .bool L)]) (fun L => Fr) (fun L => f3 (.inl L) = some r) ?_ (fun d0 => ?_)
     ·rintro L j; have j := (f4 _).symm.trans j
      ·rcases bite j with ⟨a8, j⟩ | ⟨a8, j⟩
       ··refine At.condT rfl a8 ?_
         refine At.block ?_; obtain ⟨f5, f6, k4, j⟩ := bjoin j; obtain ⟨x, a9, f7⟩ := bsome j; clear j; unfold Q41.l1 at a9; obtain ⟨b2, M⟩ := Q14.1 a9; clear a9; refine At.loopJ (X := Int) (Y := Int) (e0 := 3) (fun p => [(1, .string ⟨(a1).toArray⟩), (5, i6 p)]) (fun p => Fr) (fun m_ => fun p => iterN (fun t_ : Int => Q41.l1b a1 t_) m_ p = some x) b2 1 M (fun D => [(5, i6 D)]) (fun D => Fr) (fun D => f5 (.inl D) = some r) (fun a w e hs => ⟨e.sub ⟨rfl, rfl, trivial⟩, (by exact hs)⟩) ?_ (fun f8 => ?_)
         ·rintro D j; have j := (f6 _).symm.trans j
          ·refine At.ibx ?_; refine At.ibn ?_; refine At.thn ?_; exact fun a w e hs => Z D j a w (e.sub ⟨rfl, trivial⟩) hs
         ·clear M b2; rintro b2 p M; obtain ⟨f9, f_, g0, hf_, j⟩ := bit M; clear M; have j : (Q41.l1b a1 p).bind _ = some x := j; unfold Q41.l1b at j
          ·refine At.seq (sR 5 rfl ?_); obtain ⟨g1, g2, k5, j⟩ := bjoin j; refine At.joinO 41 (X := Bool) (fun N => [(1, .string ⟨(a1).toArray⟩), (5, i6 p), (75, .bool N)]) (fun N => Fr) (fun N => g1 (.inl N) = some x) ?_ (fun d1 => ?_)
           ·rintro N j; have j := (g2 _).symm.trans j
            ·refine nT ?_; rcases bite j with ⟨b3, j⟩ | ⟨b3, j⟩
             ··refine At.condT rfl b3 ?_
               refine At.skip (At.thn ?_); refine At.block ?_; refine At.region (At.run 3 rfl (At.nil ?_)); refine At.ibn ?_; have j := bnx hf_ j; exact fun a w e hs => ⟨f9, (IntKind.i64.wrap (p + 1)), g0, j, e.sub ⟨rfl, rfl, trivial⟩, hs⟩
             ··refine At.condF rfl (bn b3) ?_
               refine At.exit ?_; refine At.the ?_; refine At.the ?_; exact fun a w e hs => f8 p (bdn j f7) a w (e.sub ⟨rfl, trivial⟩) hs
           ··rcases bite j with ⟨b4, j⟩ | ⟨b4, j⟩
             ··refine At.know (t := 34) rfl (decide_eq_true b4) ?_
               refine At.run 2 rfl ?_; obtain ⟨q, j⟩ := bnone j; refine At.y (Y.ixStr rfl rfl rfl rfl q.1 q.2) rfl rfl rfl (At.run 2 rfl ?_); obtain ⟨g3, g4, k6, j⟩ := bjoin j; refine At.joinO 11 (X := Bool × Bool) (fun s_ => [(1, .string ⟨(a1).toArray⟩), (5, i6 p), (34, .bool true), (35, .string ⟨(a1).toArray⟩), (36, i6 p), (37, .int .u8 (bat a1 p)), (38, .bool (decide (bat a1 p = 95))), (39, .bool s_.1), (50, .bool s_.2)]) (fun s_ => Fr) (fun s_ => g3 (.inl (s_.1, s_.2)) = some x) ?_ (fun d2 => ?_)
               ·rintro ⟨U, V⟩ j; have j := (g4 _).symm.trans j
                ·refine At.run 1 rfl ?_; obtain ⟨g5, g6, k7, j⟩ := bjoin j; refine At.joinO 11 (X := Bool × Bool) (fun s_ => [(1, .string ⟨(a1).toArray⟩), (5, i6 p), (34, .bool true), (35, .string ⟨(a1).toArray⟩), (36, i6 p), (37, .int .u8 (bat a1 p)), (38, .bool (decide (bat a1 p = 95))), (39, .bool U), (50, .bool V), (51, .bool s_.1), (62, .bool s_.2)]) (fun s_ => Fr) (fun s_ => g5 (.inl (s_.1, s_.2)) = some x) ?_ (fun d3 => ?_)
                 ·rintro ⟨d4, d5⟩ j; have j := (g6 _).symm.trans j
                  ·refine At.run 1 rfl ?_; obtain ⟨g7, g8, k8, j⟩ := bjoin j; refine At.joinO 11 (X := Bool × Bool) (fun s_ => [(1, .string ⟨(a1).toArray⟩), (5, i6 p), (34, .bool true), (35, .string ⟨(a1).toArray⟩), (36, i6 p), (37, .int .u8 (bat a1 p)), (38, .bool (decide (bat a1 p = 95))), (39, .bool U), (50, .bool V), (51, .bool d4), (62, .bool d5), (63, .bool s_.1), (74, .bool s_.2)]) (fun s_ => Fr) (fun s_ => g7 (.inl (s_.1, s_.2)) = some x) ?_ (fun d6 => ?_)
                   ·rintro ⟨k9, g9⟩ j; have j := (g8 _).symm.trans j
                    ·refine At.run 1 rfl ?_; exact At.of (d1 g9 j) ⟨rfl, rfl, rfl, trivial⟩
                   ··rcases bite j with ⟨b5, j⟩ | ⟨b5, j⟩
                     ··refine At.know (t := 63) rfl b5 ?_
                       refine At.run 11 rfl ?_; exact At.of (d6 (true, true) j) ⟨rfl, rfl, rfl, rfl, rfl, rfl, rfl, rfl, rfl, rfl, rfl, rfl, rfl, trivial⟩
                     ··refine At.know (t := 63) rfl (bn b5) ?_
                       refine At.run 2 rfl (At.y (Y.ixStr rfl rfl rfl rfl q.1 q.2) rfl rfl rfl (At.run 2 rfl ?_)); obtain ⟨h0, h1, l5, j⟩ := bjoin j; refine At.joinO 5 (X := Bool × Bool) (fun s_ => [(1, .string ⟨(a1).toArray⟩), (5, i6 p), (34, .bool true), (35, .string ⟨(a1).toArray⟩), (36, i6 p), (37, .int .u8 (bat a1 p)), (38, .bool (decide (bat a1 p = 95))), (39, .bool U), (50, .bool V), (51, .bool d4), (62, .bool d5), (63, .bool false), (64, .string ⟨(a1).toArray⟩), (65, i6 p), (66, .int .u8 (bat a1 p)), (67, .bool (decide (48 ≤ bat a1 p))), (68, .bool s_.1), (73, .bool s_.2)]) (fun s_ => Fr) (fun s_ => h0 (.inl (s_.1, s_.2)) = some x) ?_ (fun d7 => ?_)
                       ·rintro ⟨l6, h2⟩ j; have j := (h1 _).symm.trans j
                        ·refine At.run 1 rfl ?_; exact At.of (d6 (false, h2) j) ⟨rfl, rfl, rfl, rfl, rfl, rfl, rfl, rfl, rfl, rfl, rfl, rfl, rfl, trivial⟩
                       ··rcases bite j with ⟨b6, j⟩ | ⟨b6, j⟩
                         ··refine At.know (t := 68) rfl (decide_eq_true b6) ?_
                           refine At.run 2 rfl (At.y (Y.ixStr rfl rfl rfl rfl q.1 q.2) rfl rfl rfl (At.run 2 rfl ?_)); exact At.of (d7 (true, decide (bat a1 p ≤ 57)) j) ⟨rfl, rfl, rfl, rfl, rfl, rfl, rfl, rfl, rfl, rfl, rfl, rfl, rfl, rfl, rfl, rfl, rfl, rfl, trivial⟩
                         ··refine At.know (t := 68) rfl (decide_eq_false b6) ?_
                           refine At.run 5 rfl ?_; exact At.of (d7 (false, false) j) ⟨rfl, rfl, rfl, rfl, rfl, rfl, rfl, rfl, rfl, rfl, rfl, rfl, rfl, rfl, rfl, rfl, rfl, rfl, trivial⟩
                 ··rcases bite j with ⟨b7, j⟩ | ⟨b7, j⟩
                   ··refine At.know (t := 51) rfl b7 ?_
                     refine At.run 11 rfl ?_; exact At.of (d3 (true, true) j) ⟨rfl, rfl, rfl, rfl, rfl, rfl, rfl, rfl, rfl, rfl, rfl, trivial⟩
                   ··refine At.know (t := 51) rfl (bn b7) ?_
                     refine At.run 2 rfl (At.y (Y.ixStr rfl rfl rfl rfl q.1 q.2) rfl rfl rfl (At.run 2 rfl ?_)); obtain ⟨h3, h4, l7, j⟩ := bjoin j; refine At.joinO 5 (X := Bool × Bool) (fun s_ => [(1, .string ⟨(a1).toArray⟩), (5, i6 p), (34, .bool true), (35, .string ⟨(a1).toArray⟩), (36, i6 p), (37, .int .u8 (bat a1 p)), (38, .bool (decide (bat a1 p = 95))), (39, .bool U), (50, .bool V), (51, .bool false), (52, .string ⟨(a1).toArray⟩), (53, i6 p), (54, .int .u8 (bat a1 p)), (55, .bool (decide (65 ≤ bat a1 p))), (56, .bool s_.1), (61, .bool s_.2)]) (fun s_ => Fr) (fun s_ => h3 (.inl (s_.1, s_.2)) = some x) ?_ (fun d8 => ?_)
                     ·rintro ⟨l8, h5⟩ j; have j := (h4 _).symm.trans j
                      ·refine At.run 1 rfl ?_; exact At.of (d3 (false, h5) j) ⟨rfl, rfl, rfl, rfl, rfl, rfl, rfl, rfl, rfl, rfl, rfl, trivial⟩
                     ··rcases bite j with ⟨b8, j⟩ | ⟨b8, j⟩
                       ··refine At.know (t := 56) rfl (decide_eq_true b8) ?_
                         refine At.run 2 rfl (At.y (Y.ixStr rfl rfl rfl rfl q.1 q.2) rfl rfl rfl (At.run 2 rfl ?_)); exact At.of (d8 (true, decide (bat a1 p ≤ 90)) j) ⟨rfl, rfl, rfl, rfl, rfl, rfl, rfl, rfl, rfl, rfl, rfl, rfl, rfl, rfl, rfl, rfl, trivial⟩
                       ··refine At.know (t := 56) rfl (decide_eq_false b8) ?_
                         refine At.run 5 rfl ?_; exact At.of (d8 (false, false) j) ⟨rfl, rfl, rfl, rfl, rfl, rfl, rfl, rfl, rfl, rfl, rfl, rfl, rfl, rfl, rfl, rfl, trivial⟩
               ··rcases bite j with ⟨b9, j⟩ | ⟨b9, j⟩
                 ··refine At.know (t := 39) rfl (decide_eq_true b9) ?_
                   refine At.run 11 rfl ?_; exact At.of (d2 (true, true) j) ⟨rfl, rfl, rfl, rfl, rfl, rfl, rfl, rfl, rfl, trivial⟩
                 ··refine At.know (t := 39) rfl (decide_eq_false b9) ?_
                   refine At.run 2 rfl (At.y (Y.ixStr rfl rfl rfl rfl q.1 q.2) rfl rfl rfl (At.run 2 rfl ?_)); obtain ⟨h6, h7, l9, j⟩ := bjoin j; refine At.joinO 5 (X := Bool × Bool) (fun s_ => [(1, .string ⟨(a1).toArray⟩), (5, i6 p), (34, .bool true), (35, .string ⟨(a1).toArray⟩), (36, i6 p), (37, .int .u8 (bat a1 p)), (38, .bool (decide (bat a1 p = 95))), (39, .bool false), (40, .string ⟨(a1).toArray⟩), (41, i6 p), (42, .int .u8 (bat a1 p)), (43, .bool (decide (97 ≤ bat a1 p))), (44, .bool s_.1), (49, .bool s_.2)]) (fun s_ => Fr) (fun s_ => h6 (.inl (s_.1, s_.2)) = some x) ?_ (fun d9 => ?_)
                   ·rintro ⟨m0, h8⟩ j; have j := (h7 _).symm.trans j
                    ·refine At.run 1 rfl ?_; exact At.of (d2 (false, h8) j) ⟨rfl, rfl, rfl, rfl, rfl, rfl, rfl, rfl, rfl, trivial⟩
                   ··rcases bite j with ⟨c4, j⟩ | ⟨c4, j⟩
                     ··refine At.know (t := 44) rfl (decide_eq_true c4) ?_
                       refine At.run 2 rfl (At.y (Y.ixStr rfl rfl rfl rfl q.1 q.2) rfl rfl rfl (At.run 2 rfl ?_)); exact At.of (d9 (true, decide (bat a1 p ≤ 122)) j) ⟨rfl, rfl, rfl, rfl, rfl, rfl, rfl, rfl, rfl, rfl, rfl, rfl, rfl, rfl, trivial⟩
                     ··refine At.know (t := 44) rfl (decide_eq_false c4) ?_
                       refine At.run 5 rfl ?_; exact At.of (d9 (false, false) j) ⟨rfl, rfl, rfl, rfl, rfl, rfl, rfl, rfl, rfl, rfl, rfl, rfl, rfl, rfl, trivial⟩
             ··refine At.know (t := 34) rfl (decide_eq_false b4) ?_
               refine At.run 41 rfl ?_; exact At.of (d1 false j) ⟨rfl, rfl, rfl, trivial⟩
       ··refine At.condF rfl (bn a8) ?_
         refine At.skip ?_; refine At.ibn ?_; refine At.thn ?_; exact fun a w e hs => Z 1 j a w (e.sub ⟨rfl, trivial⟩) hs
     ··rcases bite j with ⟨c5, j⟩ | ⟨c5, j⟩
       ··refine At.condT rfl (decide_eq_true c5) ?_
         refine At.skip (At.thn ?_); exact fun a w e hs => d0 (decide (a0 = 2)) j a w (e.sub ⟨rfl, rfl, rfl, trivial⟩) hs
       ··refine At.condF rfl (decide_eq_false c5) ?_
         refine At.region (At.run 2 rfl (nT ?_)); exact fun a w e hs => d0 (decide (a0 = 3)) j a w (e.sub ⟨rfl, rfl, rfl, trivial⟩) hs

noncomputable def Q80.l0b (a0 : Bs) (q p : Int) : Option ((Int × Int) ⊕ ((Int) ⊕ (Bool × Int))) :=
 if p < (a0.length : Int) then
 if (0 : Int) ≤ p ∧ p < (a0.length : Int) then
 nx (IntKind.i64.wrap (IntKind.i64.wrap (10 * q) + (IntKind.i64.wrap (IntKind.u8.wrap (bat a0 p - 48)))), IntKind.i64.wrap (p + 1))
 else none
 else
 dn (.inl q)
noncomputable def Q80.l0 (a0 : Bs) (p q : Int) : Option ((Int) ⊕ (Bool × Int)) := iter (fun t_ : Int × Int => Q80.l0b a0 t_.1 t_.2) (p, q)
noncomputable def Q80.f (a0 : Bs) : Option (Bool × Int) :=
 jn (
 if 4 < (a0.length : Int) then
 some (.inl true)
 else
 jn (
 if 1 < (a0.length : Int) then
 if (0 : Int) ≤ 0 ∧ 0 < (a0.length : Int) then
 some (.inl (decide (bat a0 0 = 48)))
 else none
 else
 some (.inl false)) (fun (q : Bool) =>
 some (.inl q))) (fun (u : Bool) =>
 if u = true then
 some (false, 0)
 else
 jn (Q80.l0 a0 0 0) (fun (p : Int) =>
 some (decide (p ≤ 9999), p)))
theorem Q80.callee : Callee Tryz.prog 146 := ⟨_, Tryz.func146, by kernel_rfl, by kernel_rfl⟩
theorem Q80.spec {a0 : Bs} {r : Bool × Int} (j : Q80.f a0 = some r) :
 Spec Tryz.prog 146 [.string ⟨(a0).toArray⟩] R (Fr) (fun v l' => v = .tuple #[i6 r.2, .bool r.1] ∧ Fr = l') := by
 refine Spec.of Tryz.func146 rfl rfl ?_; unfold Q80.f at j; have j := brun j; refine sR 2 rfl (nT (At.seq (At.seq (At.region ?_)))); refine At.run 4 rfl ?_; obtain ⟨a1, a2, b3, j⟩ := bjoin j; refine At.joinO 9 (X := Bool) (fun q => [(0, .string ⟨(a0).toArray⟩), (18, .bool q)]) (fun q => Fr) (fun q => a1 (.inl q) = some r) ?_ (fun N => ?_)
 ·rintro q j; have j := (a2 _).symm.trans j
  ·refine nT ?_; rcases bite j with ⟨C, j⟩ | ⟨C, j⟩
   ··refine At.condT rfl C ?_
     refine sR 2 rfl (nT (At.ret (At.thr ?_))); cases bret j; exact At.res (.inl rfl) rfl rfl ⟨rfl, rfl⟩
   ··refine At.condF rfl (bn C) ?_
     refine At.skip (At.thn (sR 1 rfl (nT (At.seq ?_)))); refine sR 3 rfl (nT ?_); refine At.block ?_; obtain ⟨a3, a4, b4, j⟩ := bjoin j; obtain ⟨O, D, a5⟩ := bsome j; clear j; unfold Q80.l0 at D; obtain ⟨E, u⟩ := Q14.1 D; clear D; refine At.loopJ (X := Int × Int) (Y := Int) (e0 := 0) (fun s_ => [(0, .string ⟨(a0).toArray⟩), (4, i6 s_.1), (20, i6 (a0.length : Int)), (21, i6 s_.2)]) (fun s_ => Fr) (fun m_ => fun s_ => iterN (fun t_ : Int × Int => Q80.l0b a0 t_.1 t_.2) m_ (s_.1, s_.2) = some O) E (0, 0) u (fun x => [(4, i6 x)]) (fun x => Fr) (fun x => a3 (.inl x) = some r) (fun a w e hs => ⟨e.sub ⟨rfl, rfl, rfl, rfl, trivial⟩, (by exact hs)⟩) ?_ (fun a6 => ?_)
     ·rintro x j; have j := (a4 _).symm.trans j
      ·refine At.ibx ?_; refine At.thn (sR 5 rfl (nT (At.ret ?_))); cases bret j; exact At.res (.inl rfl) rfl rfl ⟨rfl, rfl⟩
     ·clear u E; rintro E ⟨G, I⟩ u; obtain ⟨a7, f_, a8, hf_, j⟩ := bit u; clear u; have j : (Q80.l0b a0 G I).bind _ = some O := j; unfold Q80.l0b at j
      ·refine sR 1 rfl (nT (At.seq ?_)); rcases bite j with ⟨J, j⟩ | ⟨J, j⟩
       ··refine At.condT rfl (decide_eq_true J) ?_
         refine At.skip (At.thn (At.seq ?_)); refine At.block ?_; refine sR 2 rfl (nT (At.region (At.run 4 rfl ?_))); obtain ⟨U, j⟩ := bnone j; refine At.y (Y.ixStr rfl rfl rfl rfl U.1 U.2) rfl rfl rfl (At.run 4 rfl (At.nil ?_)); refine At.ibn ?_; refine At.thn (At.region (At.run 2 rfl (At.nil ?_))); have j := bnx hf_ j; exact fun a w e hs => ⟨a7, (IntKind.i64.wrap (IntKind.i64.wrap (10 * G) + (IntKind.i64.wrap (IntKind.u8.wrap (bat a0 I - 48)))), IntKind.i64.wrap (I + 1)), a8, j, e.sub ⟨rfl, rfl, rfl, rfl, trivial⟩, hs⟩
       ··refine At.condF rfl (decide_eq_false J) ?_
         refine At.exit ?_; refine At.the ?_; refine At.the ?_; exact fun a w e hs => a6 G (bdn j a5) a w (e.sub ⟨rfl, trivial⟩) hs
 ··rcases bite j with ⟨L, j⟩ | ⟨L, j⟩
   ··refine At.know (t := 9) rfl (decide_eq_true L) ?_
     refine At.run 9 rfl ?_; exact At.of (N true j) ⟨rfl, rfl, trivial⟩
   ··refine At.know (t := 9) rfl (decide_eq_false L) ?_
     refine At.run 4 rfl ?_; obtain ⟨a9, b2, b5, j⟩ := bjoin j; refine At.joinO 4 (X := Bool) (fun p => [(0, .string ⟨(a0).toArray⟩), (9, .bool false), (17, .bool p)]) (fun p => Fr) (fun p => a9 (.inl p) = some r) ?_ (fun V => ?_)
     ·rintro p j; have j := (b2 _).symm.trans j
      ·refine At.run 1 rfl ?_; exact At.of (N p j) ⟨rfl, rfl, trivial⟩
     ··rcases bite j with ⟨M, j⟩ | ⟨M, j⟩
       ··refine At.know (t := 13) rfl (decide_eq_true M) ?_
         refine At.run 1 rfl ?_; obtain ⟨Z, j⟩ := bnone j; refine At.y (Y.ixStr rfl rfl rfl rfl Z.1 Z.2) rfl rfl rfl (At.run 2 rfl ?_); exact At.of (V (decide (bat a0 0 = 48)) j) ⟨rfl, rfl, rfl, trivial⟩
       ··refine At.know (t := 13) rfl (decide_eq_false M) ?_
         refine At.run 4 rfl ?_; exact At.of (V false j) ⟨rfl, rfl, rfl, trivial⟩

noncomputable def Q135.f (a0 : Bs) (a1 : Int) : Option (Int × Int × Int × Bs × Int) :=
 if (0 : Int) ≤ a1 ∧ a1 < (a0.length : Int) then
 (Q151.f (bat a0 a1)).bind fun p =>
 if (0 : Int) ≤ a1 ∧ a1 ≤ (a0.length : Int) then
 (Q41.f p (a0.drop a1.toNat)).bind fun q =>
 if (0 : Int) ≤ a1 ∧ a1 ≤ IntKind.i64.wrap (a1 + q) ∧ IntKind.i64.wrap (a1 + q) ≤ (a0.length : Int) then
 jn (
 if p = 0 then
 up (some (3, p, a1, (bsl a0 a1 (IntKind.i64.wrap (a1 + q))), 0))
 else
 jn (
 if p = 2 then
 some (.inl (decide (p = 2)))
 else
 some (.inl (decide (p = 3)))) (fun (x : Bool) =>
 if x = true then
 if 8 < ((bsl a0 a1 (IntKind.i64.wrap (a1 + q))).length : Int) then
 up (some (5, p, a1, (bsl a0 a1 (IntKind.i64.wrap (a1 + q))), 0))
 else
 some (.inl 0)
 else
 if p = 4 then
 (Q80.f (bsl a0 a1 (IntKind.i64.wrap (a1 + q)))).bind fun u =>
 if u.1 = true then
 some (.inl u.2)
 else
 up (some (4, p, a1, (bsl a0 a1 (IntKind.i64.wrap (a1 + q))), 0))
 else
 some (.inl 0))) (fun (C : Int) =>
 some (0, p, a1, (bsl a0 a1 (IntKind.i64.wrap (a1 + q))), C))
 else none
 else none
 else none
theorem Q135.callee : Callee Tryz.prog 109 := ⟨_, Tryz.func109, by kernel_rfl, by kernel_rfl⟩
theorem Q135.spec {a0 : Bs} {a1 : Int} {r : Int × Int × Int × Bs × Int} (j : Q135.f a0 a1 = some r) :
 Spec Tryz.prog 109 [.string ⟨(a0).toArray⟩, i6 a1] R (Fr) (fun v l' => v = .tuple #[.agg #[i6 r.2.1, i6 r.2.2.1, .string ⟨(r.2.2.2.1).toArray⟩, i6 r.2.2.2.2], i6 r.1] ∧ Fr = l') := by
 refine Spec.of Tryz.func109 rfl rfl ?_; unfold Q135.f at j; have j := brun j; refine At.seq (At.region ?_); refine At.alloc rfl rfl rfl (fun x => ?_); refine At.run 1 rfl (nT (sR 2 rfl ?_)); obtain ⟨U, j⟩ := bnone j; refine At.y (Y.ixStr rfl rfl rfl rfl U.1 U.2) rfl rfl rfl ?_; obtain ⟨p, a3, j⟩ := bbind j; refine At.call rfl Q151.callee rfl rfl rfl (Q151.spec a3) ?_; rintro _ _ ⟨rfl, rfl⟩; refine At.run 1 rfl ?_; refine At.y (Y.build (is := [0, 1]) (xo := [.tmp 12, .tmp 13]) (vs := [i6 p, i6 a1]) (cs := [i6 p, i6 a1, .string ⟨(([] : Bs)).toArray⟩, i6 0]) rfl rfl rfl rfl rfl rfl) rfl rfl rfl ?_; refine At.alloc rfl rfl rfl (fun C => ?_); refine At.store rfl rfl rfl rfl .z rfl rfl rfl (.c (.c (.c (.c .n)))) ?_; refine nT (At.seq ?_); refine At.held [pc x [i6 0, i6 0, .string ⟨(([] : Bs)).toArray⟩, i6 0] 115] 13 rfl ?_; refine At.H.pw 0 rfl rfl rfl rfl rfl (.c (.s .z) .n) ?_; refine At.H.pw 1 rfl rfl rfl rfl rfl (.c (.s .z) .n) ?_; refine At.H.pw 2 rfl rfl rfl rfl rfl (.c (.s .z) .n) ?_; refine At.H.pw 3 rfl rfl rfl rfl rfl (.c (.s .z) .n) ?_; refine At.H.pw 5 rfl rfl rfl rfl rfl (.c (.s .z) .n) ?_; refine At.H.pw 6 rfl rfl rfl rfl rfl (.c (.s .z) .n) ?_; obtain ⟨V, j⟩ := bnone j; refine At.H.tw 7 rfl (Y.slStrL rfl rfl rfl rfl V.1 V.2) rfl rfl rfl (.c (.s .z) .n) ?_; refine At.H.al [4] (Q7 ?_ Q8)
 ··refine At.HO.op rfl ?_
   refine At.y (Y.load rfl rfl .z rfl rfl rfl) rfl rfl rfl ?_; refine At.HO.back (.c (.s .z) .n) ?_; refine At.H.al [8] (Q7 ?_ Q8)
   ··refine At.HO.op rfl ?_
     obtain ⟨Z, a4, j⟩ := bbind j; refine At.call rfl Q41.callee rfl rfl rfl (Q41.spec a4) ?_; rintro _ _ ⟨rfl, rfl⟩; refine At.HO.back (.c (.s .z) .n) ?_; refine At.H.pw 9 rfl rfl rfl rfl rfl (.c (.s .z) .n) ?_; obtain ⟨D, j⟩ := bnone j; refine At.H.tw 10 rfl (Y.slStrLH rfl rfl rfl rfl rfl D.1 D.2.1 D.2.2) rfl rfl rfl (.c (.s .z) .n) ?_; refine At.H.pw 11 rfl rfl rfl rfl rfl (.c (.s .z) .n) ?_; refine At.H.al [12] (Q7 ?_ Q8)
     ··refine At.HO.op rfl ?_
       refine At.store rfl rfl rfl rfl .z rfl rfl rfl (.s (.s (.c .n))) ?_; refine At.HO.back (.c (.s .z) .n) ?_; refine At.H.done (by kernel_rfl) ?_; refine At.thn (At.seq (sR 1 rfl (At.y (Y.load rfl rfl .z rfl rfl rfl) rfl rfl rfl (nT ?_)))); obtain ⟨a5, a6, E, j⟩ := bjoin j; let T1 : HProp := pc x [i6 0, i6 0, .string ⟨(([] : Bs)).toArray⟩, i6 0] 115; refine At.join (X := Int) (fun q => [(4, bp x), (6, bp C)]) (fun q => pc C [i6 p, i6 a1, .string ⟨((bsl a0 a1 (IntKind.i64.wrap (a1 + Z)))).toArray⟩, i6 q] 115 :: T1 :: Fr) (fun q => a5 (.inl q) = some r) ?_ (fun G => ?_)
       ·rintro q j; have j := (a6 _).symm.trans j
        ·refine At.seq (At.region (At.y (Y.load rfl rfl .z rfl rfl rfl) rfl rfl rfl ?_)); refine At.store rfl rfl rfl rfl (.s .z) rfl rfl rfl (.c (.c (.c (.c .n)))) ?_; refine At.run 1 rfl (nT (At.ret ?_)); refine At.resM (.inl rfl) rfl (RV.cell rfl rfl .z rfl rfl rfl (RV.tmp rfl RV.nil)) ?_; refine At.drop .z (At.drop .z ?_); cases bret j; exact fun a w e hs => ⟨_, ⟨rfl, rfl⟩, hs⟩
       ··refine At.block ?_
         refine sR 2 rfl (nT ?_); rcases bite j with ⟨I, j⟩ | ⟨I, j⟩
         ··refine At.condT rfl (decide_eq_true I) ?_
           refine At.seq (At.region (At.y (Y.load rfl rfl .z rfl rfl rfl) rfl rfl rfl ?_)); refine At.store rfl rfl rfl rfl (.s .z) rfl rfl rfl (.c (.c (.c (.c .n)))) ?_; refine At.run 1 rfl (nT (At.ret ?_)); refine At.ibr ?_; have j := bup E j; refine At.thr ?_; refine At.resM (.inl rfl) rfl (RV.cell rfl rfl .z rfl rfl rfl (RV.tmp rfl RV.nil)) ?_; refine At.drop .z (At.drop .z ?_); cases bret j; exact fun a w e hs => ⟨_, ⟨rfl, rfl⟩, hs⟩
         ··refine At.condF rfl (decide_eq_false I) ?_
           refine At.seq (sR 2 rfl (nT ?_)); obtain ⟨a7, a8, b3, j⟩ := bjoin j; let T2 : HProp := pc C [i6 p, i6 a1, .string ⟨((bsl a0 a1 (IntKind.i64.wrap (a1 + Z)))).toArray⟩, i6 0] 115; refine At.join (X := Bool) (fun u => [(4, bp x), (6, bp C), (28, i6 p), (32, .bool u)]) (fun u => T2 :: T1 :: Fr) (fun u => a7 (.inl u) = some r) ?_ (fun a2 => ?_)
           ·rintro u j; have j := (a8 _).symm.trans j
            ·rcases bite j with ⟨J, j⟩ | ⟨J, j⟩
             ··refine At.condT rfl J ?_
               refine sR 1 rfl (At.y (Y.load rfl rfl .z rfl rfl rfl) rfl rfl rfl (At.run 2 rfl (nT ?_))); rcases bite j with ⟨L, j⟩ | ⟨L, j⟩
               ··refine At.condT rfl (decide_eq_true L) ?_
                 refine At.seq (At.region (At.y (Y.load rfl rfl .z rfl rfl rfl) rfl rfl rfl ?_)); refine At.store rfl rfl rfl rfl (.s .z) rfl rfl rfl (.c (.c (.c (.c .n)))) ?_; refine At.run 1 rfl (nT (At.ret ?_)); refine At.ibr ?_; have j := bup E j; refine At.thr ?_; refine At.resM (.inl rfl) rfl (RV.cell rfl rfl .z rfl rfl rfl (RV.tmp rfl RV.nil)) ?_; refine At.drop .z (At.drop .z ?_); cases bret j; exact fun a w e hs => ⟨_, ⟨rfl, rfl⟩, hs⟩
               ··refine At.condF rfl (decide_eq_false L) ?_
                 refine At.skip ?_; refine At.ibn ?_; refine At.thn ?_; exact fun a w e hs => G 0 j a w (e.sub ⟨rfl, rfl, trivial⟩) hs
             ··refine At.condF rfl (bn J) ?_
               refine sR 2 rfl (nT ?_); rcases bite j with ⟨M, j⟩ | ⟨M, j⟩
               ··refine At.condT rfl (decide_eq_true M) ?_
                 refine sR 1 rfl (At.y (Y.load rfl rfl .z rfl rfl rfl) rfl rfl rfl ?_); obtain ⟨a9, b2, j⟩ := bbind j; refine At.call rfl Q80.callee rfl rfl rfl (Q80.spec b2) ?_; rintro _ _ ⟨rfl, rfl⟩; refine At.run 5 rfl (nT (At.seq (sR 2 rfl (At.nil ?_)))); refine At.thn ?_; rcases bite j with ⟨N, j⟩ | ⟨N, j⟩
                 ··refine At.condF rfl (nf N) ?_
                   refine At.skip (At.thn (At.region (At.run 2 rfl ?_))); refine At.store rfl rfl rfl rfl .z rfl rfl rfl (.s (.s (.s (.c .n)))) ?_; refine At.nil ?_; refine At.ibn ?_; refine At.thn ?_; exact fun a w e hs => G a9.2 j a w (e.sub ⟨rfl, rfl, trivial⟩) hs
                 ··refine At.condT rfl (nt (bn N)) ?_
                   refine At.seq (At.region (At.y (Y.load rfl rfl .z rfl rfl rfl) rfl rfl rfl ?_)); refine At.store rfl rfl rfl rfl (.s .z) rfl rfl rfl (.c (.c (.c (.c .n)))) ?_; refine At.run 1 rfl (nT (At.ret (At.thr ?_))); refine At.ibr ?_; have j := bup E j; refine At.thr ?_; refine At.resM (.inl rfl) rfl (RV.cell rfl rfl .z rfl rfl rfl (RV.tmp rfl RV.nil)) ?_; refine At.drop .z (At.drop .z ?_); cases bret j; exact fun a w e hs => ⟨_, ⟨rfl, rfl⟩, hs⟩
               ··refine At.condF rfl (decide_eq_false M) ?_
                 refine At.skip ?_; refine At.ibn ?_; refine At.thn ?_; exact fun a w e hs => G 0 j a w (e.sub ⟨rfl, rfl, trivial⟩) hs
           ··rcases bite j with ⟨O, j⟩ | ⟨O, j⟩
             ··refine At.condT rfl (decide_eq_true O) ?_
               refine At.skip (At.thn ?_); exact fun a w e hs => a2 (decide (p = 2)) j a w (e.sub ⟨rfl, rfl, rfl, rfl, trivial⟩) hs
             ··refine At.condF rfl (decide_eq_false O) ?_
               refine At.region (At.run 2 rfl (nT ?_)); exact fun a w e hs => a2 (decide (p = 3)) j a w (e.sub ⟨rfl, rfl, rfl, rfl, trivial⟩) hs

noncomputable def Q45.l0b (a0 : Bs) (u : List Q0) (p : Int) : Option (((List Q0) × Int) ⊕ (((List Q0)) ⊕ ((Option Q3) × (List Q0)))) :=
 if p < (a0.length : Int) then
 if (0 : Int) ≤ p ∧ p < (a0.length : Int) then
 jn (
 if bat a0 p = 32 then
 some (.inl true)
 else
 some (.inl (decide (bat a0 p = 9)))) (fun (C : Bool) =>
 if C = true then
 nx (u, IntKind.i64.wrap (p + 1))
 else
 if bat a0 p = 35 then
 if (0 : Int) ≤ p ∧ p ≤ (a0.length : Int) then
 (Q141.f (a0.drop p.toNat) 10).bind fun x =>
 jn (
 if x < 0 then
 some (.inl (IntKind.i64.wrap ((a0.length : Int) - p)))
 else
 some (.inl x)) (fun (D : Int) =>
 nx (u, IntKind.i64.wrap (p + D)))
 else none
 else
 (Q135.f a0 p).bind fun q =>
 if q.1 = 0 then
 if (u.length + ([(⟨q.2.1, q.2.2.1, q.2.2.2.1, q.2.2.2.2⟩ : Q0)] : List Q0).length) * 40 ≤ 140737488355328 then
 nx ((u ++ ([(⟨q.2.1, q.2.2.1, q.2.2.2.1, q.2.2.2.2⟩ : Q0)] : List Q0)), IntKind.i64.wrap (p + (q.2.2.2.1.length : Int)))
 else none
 else
 upL (some ((some (⟨p, q.1⟩ : Q3)), ([] : List Q0))))
 else none
 else
 dn (.inl u)
noncomputable def Q45.l0 (a0 : Bs) (p : List Q0) (q : Int) : Option (((List Q0)) ⊕ ((Option Q3) × (List Q0))) := iter (fun t_ : (List Q0) × Int => Q45.l0b a0 t_.1 t_.2) (p, q)
noncomputable def Q45.f (a0 : Bs) : Option ((Option Q3) × (List Q0)) :=
 if 262144 < (a0.length : Int) then
 some ((some (⟨262144, 2⟩ : Q3)), ([] : List Q0))
 else
 jn (Q45.l0 a0 ([] : List Q0) 0) (fun (p : List Q0) =>
 if (p.length + ([(⟨0, (a0.length : Int), ([] : Bs), 0⟩ : Q0)] : List Q0).length) * 40 ≤ 140737488355328 then
 some (none, (p ++ ([(⟨0, (a0.length : Int), ([] : Bs), 0⟩ : Q0)] : List Q0)))
 else none)
theorem Q45.callee : Callee Tryz.prog 55 := ⟨_, Tryz.func55, by kernel_rfl, by kernel_rfl⟩
theorem Q45.spec {a0 : Bs} {r : (Option Q3) × (List Q0)} (j : Q45.f a0 = some r) :
 Spec Tryz.prog 55 [.string ⟨(a0).toArray⟩] R (Fr) (fun v l' => ∃ (a6 : Option Nat) (L : Nat) (a7 : Option Addr) (a8 : Nat), v = .tuple #[.slice a7 L a8, opti 110 a6] ∧ row Q0.fl 115 a7 L a8 r.2 :: optb (Ow.fl Q3.fl) 121 a6 r.1 :: Fr = l' ∧ r.2.length = L) := by
 refine Spec.of Tryz.func55 rfl rfl ?_; unfold Q45.f at j; have j := brun j; refine sR 2 rfl (nT (At.seq (At.seq (At.region ?_)))); refine At.run 3 rfl (nT ?_); rcases bite j with ⟨M, j⟩ | ⟨M, j⟩
 ··refine At.condT rfl (decide_eq_true M) ?_
   refine At.seq (At.region ?_); refine At.y (Y.build (is := [0, 1]) (xo := [.const (i6 262144), .const (i6 2)]) (vs := [i6 262144, i6 2]) (cs := [i6 262144, i6 2]) rfl rfl rfl rfl rfl rfl) rfl rfl rfl ?_; refine At.box rfl rfl (cs := [i6 262144, i6 2]) rfl rfl (fun b7 => ?_); refine At.run 3 rfl (nT (At.ret (At.thr ?_))); refine At.nilRow Q0.fl 115 ?_; refine At.f1 ?_; refine At.optSome (x := (⟨262144, 2⟩ : Q3)) (Ent.fl Q3.fl (x := (⟨262144, 2⟩ : Q3)) rfl) ?_; refine At.f1 ?_; cases bret j; exact At.res (.inl rfl) rfl rfl ⟨(some b7), 0, none, 0, rfl, rfl, rfl⟩
 ··refine At.condF rfl (decide_eq_false M) ?_
   refine At.skip (At.thn (sR 1 rfl (nT (At.seq ?_)))); refine sR 1 rfl (nT ?_); refine At.block ?_; obtain ⟨b8, b9, c4, j⟩ := bjoin j; obtain ⟨J, N, a9⟩ := bsome j; clear j; unfold Q45.l0 at N; obtain ⟨O, G⟩ := Q14.1 N; clear N; refine At.nilRow Q0.fl 115 ?_; refine At.loopJ (X := (List Q0) × Int × Nat × (Option Addr) × Nat) (Y := (List Q0) × Nat × (Option Addr) × Nat) (e0 := 0) (fun s_ => [(0, .string ⟨(a0).toArray⟩), (4, .slice s_.2.2.2.1 s_.2.2.1 s_.2.2.2.2), (5, i6 s_.2.1)]) (fun s_ => row Q0.fl 115 s_.2.2.2.1 s_.2.2.1 s_.2.2.2.2 s_.1 :: Fr) (fun m_ => fun s_ => iterN (fun t_ : (List Q0) × Int => Q45.l0b a0 t_.1 t_.2) m_ (s_.1, s_.2.1) = some J ∧ s_.1.length = s_.2.2.1) O (([] : List Q0), 0, 0, none, 0) ⟨G, rfl⟩ (fun s_ => [(0, .string ⟨(a0).toArray⟩), (4, .slice s_.2.2.1 s_.2.1 s_.2.2.2)]) (fun s_ => row Q0.fl 115 s_.2.2.1 s_.2.1 s_.2.2.2 s_.1 :: Fr) (fun s_ => b8 (.inl s_.1) = some r ∧ s_.1.length = s_.2.1) (fun a w e hs => ⟨e.sub ⟨rfl, rfl, rfl, trivial⟩, (by exact hs)⟩) ?_ (fun c5 => ?_)
   ·rintro ⟨b2, c6, e5, e6⟩ ⟨j, c7⟩; obtain rfl : b2.length = c6 := c7; have j := (b9 _).symm.trans j
    ·refine At.ibx ?_; refine At.thn (sR 3 rfl ?_); refine At.y (Y.build (is := [0, 1]) (xo := [.const (i6 0), .tmp 72]) (vs := [i6 0, i6 (a0.length : Int)]) (cs := [i6 0, i6 (a0.length : Int), .string ⟨(([] : Bs)).toArray⟩, i6 0]) rfl rfl rfl rfl rfl rfl) rfl rfl rfl ?_; refine At.lit rfl (xo := [.tmp 73]) (ys := ([(⟨0, (a0.length : Int), ([] : Bs), 0⟩ : Q0)] : List Q0)) Q0.fl rfl rfl rfl rfl rfl rfl rfl rfl rfl rfl rfl (fun e7 e8 => ?_); obtain ⟨c8, j⟩ := bnone j; refine At.append rfl (.s .z) (Src.own .z (by simp)) rfl rfl rfl rfl rfl rfl rfl rfl c8 (by decide) rfl (fun c9 d0 => ?_); refine At.drop (.s .z) (At.run 2 rfl (nT (At.ret ?_))); refine At.optNone (Ow.fl Q3.fl) 121 ?_; refine At.f1 ?_; cases bret j; exact At.res (.inl rfl) rfl rfl ⟨none, (b2 ++ ([(⟨0, (a0.length : Int), ([] : Bs), 0⟩ : Q0)] : List Q0)).length, c9, d0, rfl, rfl, rfl⟩
   ·clear G O; rintro O ⟨q, u, d1, C, D⟩ ⟨G, d2⟩; obtain rfl : q.length = d1 := d2; obtain ⟨U, f_, V, hf_, j⟩ := bit G; clear G; have j : (Q45.l0b a0 q u).bind _ = some J := j; unfold Q45.l0b at j
    ·refine At.seq (sR 4 rfl (nT ?_)); rcases bite j with ⟨Z, j⟩ | ⟨Z, j⟩
     ··refine At.condT rfl (decide_eq_true Z) ?_
       refine At.skip (At.thn ?_); refine At.block ?_; refine sR 2 rfl ?_; obtain ⟨b3, j⟩ := bnone j; refine At.y (Y.ixStr rfl rfl rfl rfl b3.1 b3.2) rfl rfl rfl (At.run 1 rfl (nT ?_)); refine At.block ?_; refine sR 3 rfl ?_; obtain ⟨d3, d4, e9, j⟩ := bjoin j; refine At.joinO 3 (X := Bool) (fun I => [(0, .string ⟨(a0).toArray⟩), (4, .slice C q.length D), (5, i6 u), (6, .int .u8 (bat a0 u)), (51, .bool I)]) (fun I => row Q0.fl 115 C q.length D q :: Fr) (fun I => d3 (.inl I) = some J) ?_ (fun b4 => ?_)
       ·rintro I j; have j := (d4 _).symm.trans j
        ·refine At.run 1 rfl (nT ?_); rcases bite j with ⟨a1, j⟩ | ⟨a1, j⟩
         ··refine At.condT rfl a1 ?_
           refine At.region (At.run 3 rfl (At.nil ?_)); refine At.ibn ?_; refine At.ibn ?_; have j := bnx hf_ j; exact fun a w e hs => ⟨U, (q, IntKind.i64.wrap (u + 1), q.length, C, D), V, ⟨j, rfl⟩, e.sub ⟨rfl, rfl, rfl, trivial⟩, hs⟩
         ··refine At.condF rfl (bn a1) ?_
           refine sR 3 rfl (nT ?_); rcases bite j with ⟨a2, j⟩ | ⟨a2, j⟩
           ··refine At.condT rfl (decide_eq_true a2) ?_
             refine sR 2 rfl ?_; obtain ⟨b5, j⟩ := bnone j; refine At.y (Y.slStrL rfl rfl rfl rfl b5.1 b5.2) rfl rfl rfl ?_; obtain ⟨d5, d6, j⟩ := bbind j; refine At.call rfl Q141.callee rfl rfl rfl (Q141.spec d6) ?_; rintro _ _ ⟨rfl, rfl⟩; refine At.run 1 rfl (nT (At.seq (sR 2 rfl (At.nil ?_)))); refine At.thn ?_; obtain ⟨d7, d8, f0, j⟩ := bjoin j; refine At.join (X := Int) (fun E => [(0, .string ⟨(a0).toArray⟩), (4, .slice C q.length D), (5, i6 u), (7, i6 E)]) (fun E => row Q0.fl 115 C q.length D q :: Fr) (fun E => d7 (.inl E) = some J) ?_ (fun b6 => ?_)
             ·rintro E j; have j := (d8 _).symm.trans j
              ·refine At.region (At.run 4 rfl (At.nil ?_)); refine At.ibn ?_; refine At.ibn ?_; have j := bnx hf_ j; exact fun a w e hs => ⟨U, (q, IntKind.i64.wrap (u + E), q.length, C, D), V, ⟨j, rfl⟩, e.sub ⟨rfl, rfl, rfl, trivial⟩, hs⟩
             ··rcases bite j with ⟨a3, j⟩ | ⟨a3, j⟩
               ··refine At.condT rfl (decide_eq_true a3) ?_
                 refine At.region (At.run 5 rfl (nT ?_)); exact fun a w e hs => b6 (IntKind.i64.wrap ((a0.length : Int) - u)) j a w (e.sub ⟨rfl, rfl, rfl, rfl, trivial⟩) hs
               ··refine At.condF rfl (decide_eq_false a3) ?_
                 refine At.skip (At.thn ?_); exact fun a w e hs => b6 d5 j a w (e.sub ⟨rfl, rfl, rfl, rfl, trivial⟩) hs
           ··refine At.condF rfl (decide_eq_false a2) ?_
             refine sR 2 rfl ?_; obtain ⟨p, d9, j⟩ := bbind j; refine At.call rfl Q135.callee rfl rfl rfl (Q135.spec d9) ?_; rintro _ _ ⟨rfl, rfl⟩; refine At.run 3 rfl ?_; refine At.alloc rfl rfl rfl (fun f2 => ?_); refine At.store rfl rfl rfl rfl .z rfl rfl rfl (.c (.c (.c (.c .n)))) ?_; refine At.run 1 rfl (nT (At.seq (sR 2 rfl (At.nil ?_)))); refine At.thn ?_; rcases bite j with ⟨a4, j⟩ | ⟨a4, j⟩
             ··refine At.condF rfl (nf (decide_eq_true a4)) ?_
               refine At.skip (At.thn (sR 1 rfl (At.y (Y.load rfl rfl .z rfl rfl rfl) rfl rfl rfl ?_))); refine At.lit rfl (xo := [.tmp 37]) (ys := ([(⟨p.2.1, p.2.2.1, p.2.2.2.1, p.2.2.2.2⟩ : Q0)] : List Q0)) Q0.fl rfl rfl rfl rfl rfl rfl rfl rfl rfl rfl rfl (fun f3 f4 => ?_); obtain ⟨e1, j⟩ := bnone j; refine At.append rfl (.s (.s .z)) (Src.own .z (by simp)) rfl rfl rfl rfl rfl rfl rfl rfl e1 (by decide) rfl (fun e2 e3 => ?_); refine At.drop (.s .z) (At.run 1 rfl (nT (At.region (At.run 2 rfl (At.y (Y.load rfl rfl (.s .z) rfl rfl rfl) rfl rfl rfl (At.run 3 rfl ?_)))))); refine At.nil ?_; refine At.ibn ?_; refine At.ibn ?_; refine At.drop (.s .z) ?_; have j := bnx hf_ j; exact fun a w e hs => ⟨U, ((q ++ ([(⟨p.2.1, p.2.2.1, p.2.2.2.1, p.2.2.2.2⟩ : Q0)] : List Q0)), IntKind.i64.wrap (u + (p.2.2.2.1.length : Int)), (q ++ ([(⟨p.2.1, p.2.2.1, p.2.2.2.1, p.2.2.2.2⟩ : Q0)] : List Q0)).length, e2, e3), V, ⟨j, rfl⟩, e.sub ⟨rfl, rfl, rfl, trivial⟩, hs⟩
             ··refine At.condT rfl (nt (decide_eq_false a4)) ?_
               refine sR 2 rfl ?_; refine At.y (Y.build (is := [0, 1]) (xo := [.tmp 31, .tmp 32]) (vs := [i6 u, i6 p.1]) (cs := [i6 u, i6 p.1]) rfl rfl rfl rfl rfl rfl) rfl rfl rfl ?_; refine At.box rfl rfl (cs := [i6 u, i6 p.1]) rfl rfl (fun e4 => ?_); refine At.run 3 rfl (nT (At.ret (At.thr ?_))); refine At.ibr ?_; refine At.ibr ?_; have j := bupL c4 a9 j; refine At.thr ?_; refine At.ibr ?_; refine At.thr ?_; refine At.nilRow Q0.fl 115 ?_; refine At.f1 ?_; refine At.optSome (x := (⟨u, p.1⟩ : Q3)) (Ent.fl Q3.fl (x := (⟨u, p.1⟩ : Q3)) rfl) ?_; refine At.drop (.s (.s .z)) (At.drop (.s (.s .z)) (At.f1 ?_)); cases bret j; exact At.res (.inl rfl) rfl rfl ⟨(some e4), 0, none, 0, rfl, rfl, rfl⟩
       ··rcases bite j with ⟨a5, j⟩ | ⟨a5, j⟩
         ··refine At.know (t := 48) rfl (decide_eq_true a5) ?_
           refine At.run 3 rfl ?_; exact At.of (b4 true j) ⟨rfl, rfl, rfl, rfl, rfl, trivial⟩
         ··refine At.know (t := 48) rfl (decide_eq_false a5) ?_
           refine At.run 3 rfl ?_; exact At.of (b4 (decide (bat a0 u = 9)) j) ⟨rfl, rfl, rfl, rfl, rfl, trivial⟩
     ··refine At.condF rfl (decide_eq_false Z) ?_
       refine At.exit ?_; refine At.the ?_; refine At.the ?_; exact fun a w e hs => c5 (q, q.length, C, D) ⟨(bdn j a9), rfl⟩ a w (e.sub ⟨rfl, rfl, trivial⟩) hs

noncomputable def Q46.l0b  (p : List Q0) : Option (((List Q0)) ⊕ (((List Q0)) ⊕ ((List Q0)))) :=
 if (0 : Int) ≤ 0 ∧ 0 < (p.length : Int) then
 if (gt p 0).Kind = 1 then
 if (0 : Int) ≤ 1 ∧ 1 ≤ (p.length : Int) then
 nx (p.drop (1 : Int).toNat)
 else none
 else
 dn (.inl p)
 else none
noncomputable def Q46.l0  (p : List Q0) : Option (((List Q0)) ⊕ ((List Q0))) := iter (fun t_ : (List Q0) => Q46.l0b  t_) p
noncomputable def Q46.f (p : List Q0) (u : Option Q3) (x : Int) (C : List Bs) (D : List Q6) (E : List Q5) (G : List Q9) (I : List (Bs × Bool)) : Option (List Q0) :=
 jn (Q46.l0  p) (fun (q : List Q0) =>
 some q)
theorem Q46.callee : Callee Tryz.prog 57 := ⟨_, Tryz.func57, by kernel_rfl, by kernel_rfl⟩
theorem Q46.spec {I : List Q0} {N : Option Q3} {J : Int} {p : List Bs} {u : List Q6} {x : List Q5} {C : List Q9} {O : List (Bs × Bool)} (D : Option Nat) (hr0_0 : RdS Q0.fl.rep R.heap A0_0 I) (hn0_0 : I.length = n0_0) (hc0_0 : n0_0 ≤ c0_0) (hn0_3 : p.length = n0_3) (hn0_4 : u.length = n0_4) (hn0_5 : x.length = n0_5) (hn0_6 : C.length = n0_6) {r : (List Q0)} (j : Q46.f I N J p u x C O = some r) :
 Spec Tryz.prog 57 [bp b0] R (pc b0 [.slice A0_0 n0_0 c0_0, optp D, i6 J, .slice A0_3 n0_3 c0_3, .slice A0_4 n0_4 c0_4, .slice A0_5 n0_5 c0_5, .slice A0_6 n0_6 c0_6, .map (some b0_7)] 113 :: optb (Ow.fl Q3.fl) 121 D N :: row Fl.bs 9 A0_3 n0_3 c0_3 p :: row Q6.fl 48 A0_4 n0_4 c0_4 u :: grow Q5.ow 41 A0_5 n0_5 c0_5 x :: row Q9.fl 169 A0_6 n0_6 c0_6 C :: mapo Fl.bs.ov Fl.bool.ov b0_7 O :: Fr) (fun v l' => ∃ (a1 : Option Addr) (U : Nat) (a2 : Nat), v = .tuple #[] ∧ pc b0 [.slice a1 U a2, optp D, i6 J, .slice A0_3 n0_3 c0_3, .slice A0_4 n0_4 c0_4, .slice A0_5 n0_5 c0_5, .slice A0_6 n0_6 c0_6, .map (some b0_7)] 113 :: optb (Ow.fl Q3.fl) 121 D N :: row Fl.bs 9 A0_3 n0_3 c0_3 p :: row Q6.fl 48 A0_4 n0_4 c0_4 u :: grow Q5.ow 41 A0_5 n0_5 c0_5 x :: row Q9.fl 169 A0_6 n0_6 c0_6 C :: mapo Fl.bs.ov Fl.bool.ov b0_7 O :: Fr = l' ∧ RdS Q0.fl.rep R.heap a1 r ∧ r.length = U ∧ U ≤ a2) := by
 subst hn0_0; subst hn0_3; subst hn0_4; subst hn0_5; subst hn0_6; refine Spec.of Tryz.func57 rfl rfl ?_; unfold Q46.f at j; have j := brun j; refine At.block ?_; obtain ⟨a8, a9, d3, j⟩ := bjoin j; obtain ⟨a3, V, b2⟩ := bsome j; clear j; unfold Q46.l0 at V; obtain ⟨Z, L⟩ := Q14.1 V; clear V; let T3 : HProp := optb (Ow.fl Q3.fl) 121 D N; let T4 : HProp := row Fl.bs 9 A0_3 p.length c0_3 p; let T5 : HProp := row Q6.fl 48 A0_4 u.length c0_4 u; let T6 : HProp := grow Q5.ow 41 A0_5 x.length c0_5 x; let T7 : HProp := row Q9.fl 169 A0_6 C.length c0_6 C; let T8 : HProp := mapo Fl.bs.ov Fl.bool.ov b0_7 O; refine At.loopJ (X := (List Q0) × (Option Addr) × Nat × Nat) (Y := (List Q0) × (Option Addr) × Nat × Nat) (e0 := 0) (fun s_ => [(0, bp b0)]) (fun s_ => pc b0 [.slice s_.2.1 s_.2.2.1 s_.2.2.2, optp D, i6 J, .slice A0_3 p.length c0_3, .slice A0_4 u.length c0_4, .slice A0_5 x.length c0_5, .slice A0_6 C.length c0_6, .map (some b0_7)] 113 :: T3 :: T4 :: T5 :: T6 :: T7 :: T8 :: Fr) (fun m_ => fun s_ => iterN (fun t_ : (List Q0) => Q46.l0b  t_) m_ s_.1 = some a3 ∧ RdS Q0.fl.rep R.heap s_.2.1 s_.1 ∧ s_.1.length = s_.2.2.1 ∧ s_.2.2.1 ≤ s_.2.2.2) Z (I, A0_0, I.length, c0_0) ⟨L, hr0_0, rfl, hc0_0⟩ (fun s_ => []) (fun s_ => pc b0 [.slice s_.2.1 s_.2.2.1 s_.2.2.2, optp D, i6 J, .slice A0_3 p.length c0_3, .slice A0_4 u.length c0_4, .slice A0_5 x.length c0_5, .slice A0_6 C.length c0_6, .map (some b0_7)] 113 :: T3 :: T4 :: T5 :: T6 :: T7 :: T8 :: Fr) (fun s_ => a8 (.inl s_.1) = some r ∧ RdS Q0.fl.rep R.heap s_.2.1 s_.1 ∧ s_.1.length = s_.2.2.1 ∧ s_.2.2.1 ≤ s_.2.2.2) (fun a w e hs => ⟨e.sub ⟨rfl, trivial⟩, (by exact hs)⟩) ?_ (fun b3 => ?_)
 ·rintro ⟨a4, b4, b5, b6⟩ ⟨j, b7, b8, b9⟩; obtain rfl : a4.length = b5 := b8; have j := (a9 _).symm.trans j
  ·refine At.ibx ?_; cases bret j; exact At.res (.inr rfl) rfl rfl ⟨b4, a4.length, b6, rfl, rfl, b7, rfl, b9⟩
 ·clear L Z; rintro Z ⟨E, c4, c5, a5⟩ ⟨L, M, c6, a6⟩; obtain rfl : E.length = c5 := c6; obtain ⟨c7, f_, c8, hf_, j⟩ := bit L; clear L; have j : (Q46.l0b  E).bind _ = some a3 := j; unfold Q46.l0b at j
  ·refine At.seq (sR 3 rfl (At.y (Y.load rfl rfl .z rfl rfl rfl) rfl rfl rfl ?_)); obtain ⟨G, j⟩ := bnone j; refine At.y (Y.ixRd M rfl rfl rfl rfl rfl rfl rfl G.1 G.2) rfl rfl rfl ?_; refine At.y (Y.fa (RdS.some_ M rfl G.1 G.2) rfl rfl rfl rfl rfl rfl) rfl rfl rfl ?_; refine At.y (Y.ldFl M rfl (q := 0) rfl rfl G.1 G.2 rfl rfl rfl) rfl rfl rfl (At.run 1 rfl (nT ?_)); rcases bite j with ⟨a0, j⟩ | ⟨a0, j⟩
   ··refine At.condT rfl (decide_eq_true a0) ?_
     refine At.skip (At.thn ?_); refine At.block ?_; refine At.region (At.run 4 rfl (At.y (Y.load rfl rfl .z rfl rfl rfl) rfl rfl rfl ?_)); obtain ⟨a7, j⟩ := bnone j; obtain ⟨c9, d0, d1, d2⟩ := Y.slFromAt (P := Tryz.prog) (R := R) rfl M a6 a7.1 a7.2; refine At.y (d2 rfl rfl rfl rfl rfl rfl) rfl rfl rfl ?_; refine At.run 2 rfl ?_; refine At.store rfl rfl rfl rfl .z rfl rfl rfl (.c .n) ?_; refine At.nil ?_; refine At.ibn ?_; have j := bnx hf_ j; exact fun a w e hs => ⟨c7, ((E.drop (1 : Int).toNat), c9, (E.drop (1 : Int).toNat).length, (a5 - (1 : Int).toNat)), c8, ⟨j, d0, rfl, d1⟩, e.sub ⟨rfl, trivial⟩, hs⟩
   ··refine At.condF rfl (decide_eq_false a0) ?_
     refine At.exit ?_; refine At.the ?_; refine At.the ?_; exact fun a w e hs => b3 (E, c4, E.length, a5) ⟨(bdn j b2), M, rfl, a6⟩ a w (e.sub trivial) hs

noncomputable def Q15.f (u : List Q0) (p : Option Q3) (x : Int) (C : List Bs) (D : List Q6) (E : List Q5) (G : List Q9) (I : List (Bs × Bool)) (J : Int) (q : Int) (L : Bs) (M : Int) (a2 : Int) : Option (Option Q3) :=
 if p.isNone = true then
 some (some (⟨q, a2⟩ : Q3))
 else
 some p
theorem Q15.callee : Callee Tryz.prog 61 := ⟨_, Tryz.func61, by kernel_rfl, by kernel_rfl⟩
theorem Q15.spec {E : List Q0} {U : Option Q3} {G I p J a2 : Int} {q : List Bs} {u : List Q6} {C : List Q5} {D : List Q9} {L : List (Bs × Bool)} {M : Bs} (N : Option Nat) (hr0_0 : RdS Q0.fl.rep R.heap A0_0 E) (hn0_0 : E.length = n0_0) (hc0_0 : n0_0 ≤ c0_0) (hn0_3 : q.length = n0_3) (hn0_4 : u.length = n0_4) (hn0_5 : C.length = n0_5) (hn0_6 : D.length = n0_6) {r : (Option Q3)} (j : Q15.f E U G q u C D L I p M J a2 = some r) :
 Spec Tryz.prog 61 [bp b0, .agg #[i6 I, i6 p, .string ⟨(M).toArray⟩, i6 J], i6 a2] R (pc b0 [.slice A0_0 n0_0 c0_0, optp N, i6 G, .slice A0_3 n0_3 c0_3, .slice A0_4 n0_4 c0_4, .slice A0_5 n0_5 c0_5, .slice A0_6 n0_6 c0_6, .map (some b0_7)] 113 :: optb (Ow.fl Q3.fl) 121 N U :: row Fl.bs 9 A0_3 n0_3 c0_3 q :: row Q6.fl 48 A0_4 n0_4 c0_4 u :: grow Q5.ow 41 A0_5 n0_5 c0_5 C :: row Q9.fl 169 A0_6 n0_6 c0_6 D :: mapo Fl.bs.ov Fl.bool.ov b0_7 L :: Fr) (fun v l' => ∃ (V : Option Nat), v = .tuple #[] ∧ optb (Ow.fl Q3.fl) 121 V r :: pc b0 [.slice A0_0 n0_0 c0_0, optp V, i6 G, .slice A0_3 n0_3 c0_3, .slice A0_4 n0_4 c0_4, .slice A0_5 n0_5 c0_5, .slice A0_6 n0_6 c0_6, .map (some b0_7)] 113 :: row Fl.bs 9 A0_3 n0_3 c0_3 q :: row Q6.fl 48 A0_4 n0_4 c0_4 u :: grow Q5.ow 41 A0_5 n0_5 c0_5 C :: row Q9.fl 169 A0_6 n0_6 c0_6 D :: mapo Fl.bs.ov Fl.bool.ov b0_7 L :: Fr = l') := by
 subst hn0_0; subst hn0_3; subst hn0_4; subst hn0_5; subst hn0_6; refine Spec.of Tryz.func61 rfl rfl ?_; unfold Q15.f at j; have j := brun j; refine At.seq (At.region ?_); refine At.box rfl rfl (cs := [i6 I, i6 p, .string ⟨(M).toArray⟩, i6 J]) rfl rfl (fun Z => ?_); refine nT (sR 3 rfl (At.y (Y.load rfl rfl (.s .z) rfl rfl rfl) rfl rfl rfl ?_)); refine At.y (Y.eqOpt (.s (.s .z)) rfl rfl rfl rfl) rfl rfl rfl ?_; refine nT ?_; rcases bite j with ⟨O, j⟩ | ⟨O, j⟩
 ··refine At.condT rfl O ?_
   refine At.region (At.run 2 rfl (At.y (Y.load rfl rfl .z rfl rfl rfl) rfl rfl rfl (At.run 1 rfl ?_))); refine At.y (Y.build (is := [0, 1]) (xo := [.tmp 13, .tmp 14]) (vs := [i6 p, i6 a2]) (cs := [i6 p, i6 a2]) rfl rfl rfl rfl rfl rfl) rfl rfl rfl ?_; refine At.box rfl rfl (cs := [i6 p, i6 a2]) rfl rfl (fun X => ?_); refine At.run 2 rfl ?_; refine At.store rfl rfl rfl rfl (.s (.s .z)) rfl rfl rfl (.s (.c .n)) ?_; refine At.nil (At.f1 ?_); refine At.optSome (x := (⟨p, a2⟩ : Q3)) (Ent.fl Q3.fl (x := (⟨p, a2⟩ : Q3)) rfl) ?_; refine At.drop (.s (.s .z)) (At.drop (.s (.s .z)) ?_); cases bret j; exact At.res (.inr rfl) rfl rfl ⟨(some X), rfl, rfl⟩
 ··refine At.condF rfl (bn O) ?_
   refine At.skip (At.drop .z (At.f6 (At.f6 (At.f6 (At.f6 (At.f6 (At.f5 ?_))))))); refine At.f6 ?_; cases bret j; exact At.res (.inr rfl) rfl rfl ⟨N, rfl, rfl⟩

noncomputable def Q43.f (p : List Q0) (q : Option Q3) (u : Int) (x : List Bs) (C : List Q6) (D : List Q5) (E : List Q9) (G : List (Bs × Bool)) (a1 : Int) : Option ((Option Q3) × (List Q0) × Int × Int × Bs × Int) :=
 if q.isNone = true then
 if (0 : Int) ≤ 0 ∧ 0 < (p.length : Int) then
 jn (
 if (gt p 0).Kind = a1 then
 if (0 : Int) ≤ 1 ∧ 1 ≤ (p.length : Int) then
 up (some (q, (p.drop (1 : Int).toNat), (gt p 0).Kind, (gt p 0).At, (gt p 0).Text, (gt p 0).Number))
 else none
 else
 if (gt p 0).Kind = 0 then
 (Q15.f p q u x C D E G ((gt p 0).Kind) ((gt p 0).At) ((gt p 0).Text) ((gt p 0).Number) 6).bind fun I =>
 some (.inl I)
 else
 (Q15.f p q u x C D E G ((gt p 0).Kind) ((gt p 0).At) ((gt p 0).Text) ((gt p 0).Number) 7).bind fun J =>
 some (.inl J)) (fun (L : Option Q3) =>
 some (L, p, 0, 0, ([] : Bs), 0))
 else none
 else
 some (q, p, 0, 0, ([] : Bs), 0)
theorem Q43.callee : Callee Tryz.prog 58 := ⟨_, Tryz.func58, by kernel_rfl, by kernel_rfl⟩
theorem Q43.spec {p : List Q0} {U : Option Q3} {G a1 : Int} {u : List Bs} {x : List Q6} {C : List Q5} {D : List Q9} {I : List (Bs × Bool)} (E : Option Nat) (hr0_0 : RdS Q0.fl.rep R.heap A0_0 p) (hn0_0 : p.length = n0_0) (hc0_0 : n0_0 ≤ c0_0) (hn0_3 : u.length = n0_3) (hn0_4 : x.length = n0_4) (hn0_5 : C.length = n0_5) (hn0_6 : D.length = n0_6) {r : (Option Q3) × (List Q0) × Int × Int × Bs × Int} (j : Q43.f p U G u x C D I a1 = some r) :
 Spec Tryz.prog 58 [bp b0, i6 a1] R (pc b0 [.slice A0_0 n0_0 c0_0, optp E, i6 G, .slice A0_3 n0_3 c0_3, .slice A0_4 n0_4 c0_4, .slice A0_5 n0_5 c0_5, .slice A0_6 n0_6 c0_6, .map (some b0_7)] 113 :: optb (Ow.fl Q3.fl) 121 E U :: row Fl.bs 9 A0_3 n0_3 c0_3 u :: row Q6.fl 48 A0_4 n0_4 c0_4 x :: grow Q5.ow 41 A0_5 n0_5 c0_5 C :: row Q9.fl 169 A0_6 n0_6 c0_6 D :: mapo Fl.bs.ov Fl.bool.ov b0_7 I :: Fr) (fun v l' => ∃ (V : Option Nat) (Z : Option Addr) (L : Nat) (a0 : Nat), v = .agg #[i6 r.2.2.1, i6 r.2.2.2.1, .string ⟨(r.2.2.2.2.1).toArray⟩, i6 r.2.2.2.2.2] ∧ optb (Ow.fl Q3.fl) 121 V r.1 :: pc b0 [.slice Z L a0, optp V, i6 G, .slice A0_3 n0_3 c0_3, .slice A0_4 n0_4 c0_4, .slice A0_5 n0_5 c0_5, .slice A0_6 n0_6 c0_6, .map (some b0_7)] 113 :: row Fl.bs 9 A0_3 n0_3 c0_3 u :: row Q6.fl 48 A0_4 n0_4 c0_4 x :: grow Q5.ow 41 A0_5 n0_5 c0_5 C :: row Q9.fl 169 A0_6 n0_6 c0_6 D :: mapo Fl.bs.ov Fl.bool.ov b0_7 I :: Fr = l' ∧ RdS Q0.fl.rep R.heap Z r.2.1 ∧ r.2.1.length = L ∧ L ≤ a0) := by
 subst hn0_0; subst hn0_3; subst hn0_4; subst hn0_5; subst hn0_6; refine Spec.of Tryz.func58 rfl rfl ?_; unfold Q43.f at j; have j := brun j; refine At.seq (At.region ?_); refine At.alloc rfl rfl rfl (fun a2 => ?_); refine nT (At.seq (sR 3 rfl (At.y (Y.load rfl rfl (.s .z) rfl rfl rfl) rfl rfl rfl ?_))); refine At.y (Y.neOpt (.s (.s .z)) rfl rfl rfl rfl) rfl rfl rfl ?_; refine nT ?_; rcases bite j with ⟨M, j⟩ | ⟨M, j⟩
 ··refine At.condF rfl (nf M) ?_
   refine At.skip (At.thn (sR 3 rfl (At.y (Y.load rfl rfl (.s .z) rfl rfl rfl) rfl rfl rfl ?_))); obtain ⟨J, j⟩ := bnone j; refine At.y (Y.ixRd hr0_0 rfl rfl rfl rfl rfl rfl rfl J.1 J.2) rfl rfl rfl (At.y (Y.ldFl hr0_0 rfl (q := 0) rfl rfl J.1 J.2 rfl rfl rfl) rfl rfl rfl ?_); refine At.store rfl rfl rfl rfl .z rfl rfl rfl (.c (.c (.c (.c .n)))) ?_; refine nT (At.seq ?_); obtain ⟨a5, a6, a7, j⟩ := bjoin j; let T9 : HProp := pc a2 [i6 ((gt p 0).Kind), i6 ((gt p 0).At), .string ⟨((gt p 0).Text).toArray⟩, i6 ((gt p 0).Number)] 115; refine At.join (X := (Option Q3) × (Option Nat)) (fun s_ => [(4, bp a2)]) (fun s_ => optb (Ow.fl Q3.fl) 121 s_.2 s_.1 :: pc b0 [.slice A0_0 p.length c0_0, optp s_.2, i6 G, .slice A0_3 u.length c0_3, .slice A0_4 x.length c0_4, .slice A0_5 C.length c0_5, .slice A0_6 D.length c0_6, .map (some b0_7)] 113 :: row Fl.bs 9 A0_3 u.length c0_3 u :: row Q6.fl 48 A0_4 x.length c0_4 x :: grow Q5.ow 41 A0_5 C.length c0_5 C :: row Q9.fl 169 A0_6 D.length c0_6 D :: mapo Fl.bs.ov Fl.bool.ov b0_7 I :: T9 :: Fr) (fun s_ => a5 (.inl s_.1) = some r) ?_ (fun a3 => ?_)
   ·rintro ⟨c5, a8⟩ j; have j := (a6 _).symm.trans j
    ·refine At.seq (At.region ?_); refine At.y (Y.build (is := []) (xo := []) (vs := []) (cs := [i6 0, i6 0, .string ⟨(([] : Bs)).toArray⟩, i6 0]) rfl rfl rfl rfl rfl rfl) rfl rfl rfl ?_; refine At.store rfl rfl rfl rfl (.s (.s (.s (.s (.s (.s (.s .z))))))) rfl rfl rfl (.c (.c (.c (.c .n)))) ?_; refine nT (At.ret ?_); refine At.resM (.inl rfl) rfl (RV.cell rfl rfl .z rfl rfl rfl RV.nil) ?_; refine At.drop .z ?_; cases bret j; exact fun a w e hs => ⟨_, ⟨a8, A0_0, p.length, c0_0, rfl, rfl, hr0_0, rfl, hc0_0⟩, hs⟩
   ··refine At.block ?_
     refine sR 1 rfl (At.y (Y.load rfl rfl .z rfl rfl rfl) rfl rfl rfl (At.run 3 rfl (nT ?_))); rcases bite j with ⟨N, j⟩ | ⟨N, j⟩
     ··refine At.condT rfl (decide_eq_true N) ?_
       refine sR 4 rfl (At.y (Y.load rfl rfl (.s .z) rfl rfl rfl) rfl rfl rfl ?_); obtain ⟨a4, j⟩ := bnone j; obtain ⟨a9, b2, b3, b4⟩ := Y.slFromAt (P := Tryz.prog) (R := R) rfl hr0_0 hc0_0 a4.1 a4.2; refine At.y (b4 rfl rfl rfl rfl rfl rfl) rfl rfl rfl ?_; refine At.run 2 rfl ?_; refine At.store rfl rfl rfl rfl (.s .z) rfl rfl rfl (.c .n) ?_; refine nT (At.seq (At.region (At.y (Y.load rfl rfl (.s .z) rfl rfl rfl) rfl rfl rfl ?_))); refine At.store rfl rfl rfl rfl (.s .z) rfl rfl rfl (.c (.c (.c (.c .n)))) ?_; refine nT (At.ret ?_); refine At.ibr ?_; have j := bup a7 j; refine At.thr ?_; refine At.resM (.inl rfl) rfl (RV.cell rfl rfl .z rfl rfl rfl RV.nil) ?_; refine At.drop .z (At.f6 (At.f6 (At.f6 (At.f6 (At.f6 (At.f5 (At.f6 ?_))))))); cases bret j; exact fun a w e hs => ⟨_, ⟨E, a9, (p.drop (1 : Int).toNat).length, (c0_0 - (1 : Int).toNat), rfl, rfl, b2, rfl, b3⟩, hs⟩
     ··refine At.condF rfl (decide_eq_false N) ?_
       refine sR 1 rfl (At.y (Y.load rfl rfl .z rfl rfl rfl) rfl rfl rfl (At.run 2 rfl (nT ?_))); rcases bite j with ⟨O, j⟩ | ⟨O, j⟩
       ··refine At.condT rfl (decide_eq_true O) ?_
         refine At.region (At.run 1 rfl (At.y (Y.load rfl rfl .z rfl rfl rfl) rfl rfl rfl (At.f7 (At.f7 (At.f7 (At.f7 (At.f7 ?_))))))); refine At.f7 (At.f7 ?_); obtain ⟨b5, b6, j⟩ := bbind j; refine At.call rfl Q15.callee rfl rfl rfl (Q15.spec E hr0_0 rfl hc0_0 rfl rfl rfl rfl b6) ?_; rintro _ _ ⟨b7, rfl, rfl⟩; refine At.nil ?_; refine At.ibn ?_; refine At.thn ?_; exact fun a w e hs => a3 (b5, b7) j a w (e.sub ⟨rfl, trivial⟩) hs
       ··refine At.condF rfl (decide_eq_false O) ?_
         refine At.region (At.run 1 rfl (At.y (Y.load rfl rfl .z rfl rfl rfl) rfl rfl rfl (At.f7 (At.f7 (At.f7 (At.f7 (At.f7 ?_))))))); refine At.f7 (At.f7 ?_); obtain ⟨b8, b9, j⟩ := bbind j; refine At.call rfl Q15.callee rfl rfl rfl (Q15.spec E hr0_0 rfl hc0_0 rfl rfl rfl rfl b9) ?_; rintro _ _ ⟨c4, rfl, rfl⟩; refine At.nil ?_; refine At.ibn ?_; refine At.thn ?_; exact fun a w e hs => a3 (b8, c4) j a w (e.sub ⟨rfl, trivial⟩) hs
 ··refine At.condT rfl (nt (bn M)) ?_
   refine At.seq (At.region (At.y (Y.load rfl rfl .z rfl rfl rfl) rfl rfl rfl ?_)); refine At.store rfl rfl rfl rfl .z rfl rfl rfl (.c (.c (.c (.c .n)))) ?_; refine nT (At.ret (At.thr ?_)); refine At.resM (.inl rfl) rfl (RV.cell rfl rfl .z rfl rfl rfl RV.nil) ?_; refine At.drop .z (At.f6 (At.f6 (At.f6 (At.f6 (At.f6 (At.f5 (At.f6 ?_))))))); cases bret j; exact fun a w e hs => ⟨_, ⟨E, A0_0, p.length, c0_0, rfl, rfl, hr0_0, rfl, hc0_0⟩, hs⟩

noncomputable def Q112.f (p : List Q0) (u : Option Q3) (x : Int) (C : List Bs) (D : List Q6) (E : List Q5) (G : List Q9) (I : List (Bs × Bool)) : Option Bool :=
 if (0 : Int) ≤ 0 ∧ 0 < (p.length : Int) then
 jn (
 if (gt p 0).Kind = 0 then
 some (.inl true)
 else
 some (.inl (decide ((gt p 0).Kind = 1)))) (fun (q : Bool) =>
 some q)
 else none
theorem Q112.callee : Callee Tryz.prog 116 := ⟨_, Tryz.func116, by kernel_rfl, by kernel_rfl⟩
theorem Q112.spec {G : List Q0} {J : Option Q3} {L : Int} {u : List Bs} {x : List Q6} {C : List Q5} {D : List Q9} {M : List (Bs × Bool)} (E : Option Nat) (hr0_0 : RdS Q0.fl.rep R.heap A0_0 G) (hn0_0 : G.length = n0_0) (hc0_0 : n0_0 ≤ c0_0) (hn0_3 : u.length = n0_3) (hn0_4 : x.length = n0_4) (hn0_5 : C.length = n0_5) (hn0_6 : D.length = n0_6) {r : Bool} (j : Q112.f G J L u x C D M = some r) :
 Spec Tryz.prog 116 [bp b0] R (pc b0 [.slice A0_0 n0_0 c0_0, optp E, i6 L, .slice A0_3 n0_3 c0_3, .slice A0_4 n0_4 c0_4, .slice A0_5 n0_5 c0_5, .slice A0_6 n0_6 c0_6, .map (some b0_7)] 113 :: optb (Ow.fl Q3.fl) 121 E J :: row Fl.bs 9 A0_3 n0_3 c0_3 u :: row Q6.fl 48 A0_4 n0_4 c0_4 x :: grow Q5.ow 41 A0_5 n0_5 c0_5 C :: row Q9.fl 169 A0_6 n0_6 c0_6 D :: mapo Fl.bs.ov Fl.bool.ov b0_7 M :: Fr) (fun v l' => v = .bool r ∧ pc b0 [.slice A0_0 n0_0 c0_0, optp E, i6 L, .slice A0_3 n0_3 c0_3, .slice A0_4 n0_4 c0_4, .slice A0_5 n0_5 c0_5, .slice A0_6 n0_6 c0_6, .map (some b0_7)] 113 :: optb (Ow.fl Q3.fl) 121 E J :: row Fl.bs 9 A0_3 n0_3 c0_3 u :: row Q6.fl 48 A0_4 n0_4 c0_4 x :: grow Q5.ow 41 A0_5 n0_5 c0_5 C :: row Q9.fl 169 A0_6 n0_6 c0_6 D :: mapo Fl.bs.ov Fl.bool.ov b0_7 M :: Fr = l') := by
 subst hn0_0; subst hn0_3; subst hn0_4; subst hn0_5; subst hn0_6; refine Spec.of Tryz.func116 rfl rfl ?_; unfold Q112.f at j; have j := brun j; refine sR 1 rfl (nT (sR 3 rfl ?_)); refine At.y (Y.load rfl rfl .z rfl rfl rfl) rfl rfl rfl ?_; obtain ⟨p, j⟩ := bnone j; refine At.y (Y.ixRd hr0_0 rfl rfl rfl rfl rfl rfl rfl p.1 p.2) rfl rfl rfl ?_; refine At.y (Y.fa (RdS.some_ hr0_0 rfl p.1 p.2) rfl rfl rfl rfl rfl rfl) rfl rfl rfl ?_; refine At.y (Y.ldFl hr0_0 rfl (q := 0) rfl rfl p.1 p.2 rfl rfl rfl) rfl rfl rfl (At.run 2 rfl ?_); obtain ⟨U, V, a0, j⟩ := bjoin j; let Z : HProp := pc b0 [.slice A0_0 G.length c0_0, optp E, i6 L, .slice A0_3 u.length c0_3, .slice A0_4 x.length c0_4, .slice A0_5 C.length c0_5, .slice A0_6 D.length c0_6, .map (some b0_7)] 113; refine At.joinO 9 (X := Bool) (fun I => [(20, .bool I)]) (fun I => Z :: optb (Ow.fl Q3.fl) 121 E J :: row Fl.bs 9 A0_3 u.length c0_3 u :: row Q6.fl 48 A0_4 x.length c0_4 x :: grow Q5.ow 41 A0_5 C.length c0_5 C :: row Q9.fl 169 A0_6 D.length c0_6 D :: mapo Fl.bs.ov Fl.bool.ov b0_7 M :: Fr) (fun I => U (.inl I) = some r) ?_ (fun O => ?_)
 ·rintro I j; have j := (V _).symm.trans j
  ·refine At.run 1 rfl (nT (At.ret ?_)); cases bret j; exact At.res (.inl rfl) rfl rfl ⟨rfl, rfl⟩
 ··rcases bite j with ⟨N, j⟩ | ⟨N, j⟩
   ··refine At.know (t := 11) rfl (decide_eq_true N) ?_
     refine At.run 9 rfl ?_; exact At.of (O true j) ⟨rfl, trivial⟩
   ··refine At.know (t := 11) rfl (decide_eq_false N) ?_
     refine At.run 3 rfl (At.y (Y.load rfl rfl .z rfl rfl rfl) rfl rfl rfl (At.y (Y.ixRd hr0_0 rfl rfl rfl rfl rfl rfl rfl p.1 p.2) rfl rfl rfl ?_)); refine At.y (Y.fa (RdS.some_ hr0_0 rfl p.1 p.2) rfl rfl rfl rfl rfl rfl) rfl rfl rfl ?_; refine At.y (Y.ldFl hr0_0 rfl (q := 0) rfl rfl p.1 p.2 rfl rfl rfl) rfl rfl rfl (At.run 2 rfl ?_); exact At.of (O (decide ((gt G 0).Kind = 1)) j) ⟨rfl, trivial⟩

noncomputable def Q105.f (p : List Q0) (q : Option Q3) (u : Int) (x : List Bs) (C : List Q6) (D : List Q5) (E : List Q9) (G : List (Bs × Bool)) : Option (Option Q3) :=
 (Q112.f p q u x C D E G).bind fun I =>
 if I = true then
 some q
 else
 if (0 : Int) ≤ 0 ∧ 0 < (p.length : Int) then
 (Q15.f p q u x C D E G ((gt p 0).Kind) ((gt p 0).At) ((gt p 0).Text) ((gt p 0).Number) 7).bind fun J =>
 some J
 else none
theorem Q105.callee : Callee Tryz.prog 110 := ⟨_, Tryz.func110, by kernel_rfl, by kernel_rfl⟩
theorem Q105.spec {G : List Q0} {M : Option Q3} {I : Int} {u : List Bs} {x : List Q6} {C : List Q5} {D : List Q9} {J : List (Bs × Bool)} (p : Option Nat) (hr0_0 : RdS Q0.fl.rep R.heap A0_0 G) (hn0_0 : G.length = n0_0) (hc0_0 : n0_0 ≤ c0_0) (hn0_3 : u.length = n0_3) (hn0_4 : x.length = n0_4) (hn0_5 : C.length = n0_5) (hn0_6 : D.length = n0_6) {r : (Option Q3)} (j : Q105.f G M I u x C D J = some r) :
 Spec Tryz.prog 110 [bp b0] R (pc b0 [.slice A0_0 n0_0 c0_0, optp p, i6 I, .slice A0_3 n0_3 c0_3, .slice A0_4 n0_4 c0_4, .slice A0_5 n0_5 c0_5, .slice A0_6 n0_6 c0_6, .map (some b0_7)] 113 :: optb (Ow.fl Q3.fl) 121 p M :: row Fl.bs 9 A0_3 n0_3 c0_3 u :: row Q6.fl 48 A0_4 n0_4 c0_4 x :: grow Q5.ow 41 A0_5 n0_5 c0_5 C :: row Q9.fl 169 A0_6 n0_6 c0_6 D :: mapo Fl.bs.ov Fl.bool.ov b0_7 J :: Fr) (fun v l' => ∃ (N : Option Nat), v = .tuple #[] ∧ pc b0 [.slice A0_0 n0_0 c0_0, optp N, i6 I, .slice A0_3 n0_3 c0_3, .slice A0_4 n0_4 c0_4, .slice A0_5 n0_5 c0_5, .slice A0_6 n0_6 c0_6, .map (some b0_7)] 113 :: optb (Ow.fl Q3.fl) 121 N r :: row Fl.bs 9 A0_3 n0_3 c0_3 u :: row Q6.fl 48 A0_4 n0_4 c0_4 x :: grow Q5.ow 41 A0_5 n0_5 c0_5 C :: row Q9.fl 169 A0_6 n0_6 c0_6 D :: mapo Fl.bs.ov Fl.bool.ov b0_7 J :: Fr = l') := by
 subst hn0_0; subst hn0_3; subst hn0_4; subst hn0_5; subst hn0_6; refine Spec.of Tryz.func110 rfl rfl ?_; unfold Q105.f at j; have j := brun j; refine sR 1 rfl ?_; obtain ⟨X, O, j⟩ := bbind j; refine At.call rfl Q112.callee rfl rfl rfl (Q112.spec p hr0_0 rfl hc0_0 rfl rfl rfl rfl O) ?_; rintro _ _ ⟨rfl, rfl⟩; refine At.run 1 rfl (nT ?_); rcases bite j with ⟨L, j⟩ | ⟨L, j⟩
 ··refine At.condF rfl (nf L) ?_
   refine At.skip ?_; cases bret j; exact At.res (.inr rfl) rfl rfl ⟨p, rfl, rfl⟩
 ··refine At.condT rfl (nt (bn L)) ?_
   refine At.region (At.run 4 rfl (At.y (Y.load rfl rfl .z rfl rfl rfl) rfl rfl rfl ?_)); obtain ⟨E, j⟩ := bnone j; refine At.y (Y.ixRd hr0_0 rfl rfl rfl rfl rfl rfl rfl E.1 E.2) rfl rfl rfl (At.y (Y.ldFl hr0_0 rfl (q := 0) rfl rfl E.1 E.2 rfl rfl rfl) rfl rfl rfl ?_); obtain ⟨Z, U, j⟩ := bbind j; refine At.call rfl Q15.callee rfl rfl rfl (Q15.spec p hr0_0 rfl hc0_0 rfl rfl rfl rfl U) ?_; rintro _ _ ⟨V, rfl, rfl⟩; refine At.nil (At.f6 (At.f6 (At.f6 (At.f6 (At.f6 (At.f5 (At.f6 ?_))))))); cases bret j; exact At.res (.inr rfl) rfl rfl ⟨V, rfl, rfl⟩

noncomputable def Q121.f (J : List Q0) (I : Option Q3) (G : Int) (u : List Bs) (x : List Q6) (C : List Q5) (D : List Q9) (E : List (Bs × Bool)) : Option ((Option Q3) × (List Q0) × Int) :=
 (Q46.f J I G u x C D E).bind fun L =>
 (Q43.f L I G u x C D E 2).bind fun q =>
 jn (
 if q.1.isNone = true then
 some (.inl (!(bseq q.2.2.2.2.1 ([115, 116, 97, 116, 101, 115] : Bs))))
 else
 some (.inl false)) (fun (M : Bool) =>
 jn (
 if M = true then
 (Q15.f q.2.1 q.1 G u x C D E q.2.2.1 q.2.2.2.1 q.2.2.2.2.1 q.2.2.2.2.2 7).bind fun N =>
 some (.inl N)
 else
 some (.inl q.1)) (fun (O : Option Q3) =>
 (Q43.f q.2.1 O G u x C D E 4).bind fun p =>
 jn (
 if p.1.isNone = true then
 jn (
 if p.2.2.2.2.2 < 1 then
 some (.inl true)
 else
 some (.inl (decide (24 < p.2.2.2.2.2)))) (fun (U : Bool) =>
 some (.inl U))
 else
 some (.inl false)) (fun (V : Bool) =>
 jn (
 if V = true then
 (Q15.f p.2.1 p.1 p.2.2.2.2.2 u x C D E p.2.2.1 p.2.2.2.1 p.2.2.2.2.1 p.2.2.2.2.2 8).bind fun X =>
 some (.inl X)
 else
 some (.inl p.1)) (fun (Z : Option Q3) =>
 (Q105.f p.2.1 Z p.2.2.2.2.2 u x C D E).bind fun a0 =>
 some (a0, p.2.1, p.2.2.2.2.2)))))
theorem Q121.callee : Callee Tryz.prog 56 := ⟨_, Tryz.func56, by kernel_rfl, by kernel_rfl⟩
theorem Q121.spec {V : List Q0} {b3 : Option Q3} {N : Int} {p : List Bs} {q : List Q6} {u : List Q5} {x : List Q9} {E : List (Bs × Bool)} (O : Option Nat) (hr0_0 : RdS Q0.fl.rep R.heap A0_0 V) (hn0_0 : V.length = n0_0) (hc0_0 : n0_0 ≤ c0_0) (hn0_3 : p.length = n0_3) (hn0_4 : q.length = n0_4) (hn0_5 : u.length = n0_5) (hn0_6 : x.length = n0_6) {r : (Option Q3) × (List Q0) × Int} (j : Q121.f V b3 N p q u x E = some r) :
 Spec Tryz.prog 56 [bp b0] R (pc b0 [.slice A0_0 n0_0 c0_0, optp O, i6 N, .slice A0_3 n0_3 c0_3, .slice A0_4 n0_4 c0_4, .slice A0_5 n0_5 c0_5, .slice A0_6 n0_6 c0_6, .map (some b0_7)] 113 :: optb (Ow.fl Q3.fl) 121 O b3 :: row Fl.bs 9 A0_3 n0_3 c0_3 p :: row Q6.fl 48 A0_4 n0_4 c0_4 q :: grow Q5.ow 41 A0_5 n0_5 c0_5 u :: row Q9.fl 169 A0_6 n0_6 c0_6 x :: mapo Fl.bs.ov Fl.bool.ov b0_7 E :: Fr) (fun v l' => ∃ (b4 : Option Nat) (b5 : Option Addr) (Z : Nat) (b6 : Nat), v = .tuple #[] ∧ optb (Ow.fl Q3.fl) 121 b4 r.1 :: pc b0 [.slice b5 Z b6, optp b4, i6 r.2.2, .slice A0_3 n0_3 c0_3, .slice A0_4 n0_4 c0_4, .slice A0_5 n0_5 c0_5, .slice A0_6 n0_6 c0_6, .map (some b0_7)] 113 :: row Fl.bs 9 A0_3 n0_3 c0_3 p :: row Q6.fl 48 A0_4 n0_4 c0_4 q :: grow Q5.ow 41 A0_5 n0_5 c0_5 u :: row Q9.fl 169 A0_6 n0_6 c0_6 x :: mapo Fl.bs.ov Fl.bool.ov b0_7 E :: Fr = l' ∧ RdS Q0.fl.rep R.heap b5 r.2.1 ∧ r.2.1.length = Z ∧ Z ≤ b6) := by
 subst hn0_0; subst hn0_3; subst hn0_4; subst hn0_5; subst hn0_6; refine Spec.of Tryz.func56 rfl rfl ?_; unfold Q121.f at j; have j := brun j; refine sR 1 rfl ?_; obtain ⟨g3, d2, j⟩ := bbind j; refine At.call rfl Q46.callee rfl rfl rfl (Q46.spec O hr0_0 rfl hc0_0 rfl rfl rfl rfl d2) ?_; rintro _ _ ⟨g4, g5, g6, rfl, rfl, d3, rfl, d4⟩; refine nT (At.seq (sR 1 rfl ?_)); obtain ⟨D, d5, j⟩ := bbind j; refine At.call rfl Q43.callee rfl rfl rfl (Q43.spec O d3 rfl d4 rfl rfl rfl rfl d5) ?_; rintro _ _ ⟨U, b7, g7, b8, rfl, rfl, b9, rfl, c4⟩; refine At.alloc rfl rfl rfl (fun c5 => ?_); refine At.store rfl rfl rfl rfl .z rfl rfl rfl (.c (.c (.c (.c .n)))) ?_; refine nT (sR 3 rfl (At.y (Y.load rfl rfl (.s (.s .z)) rfl rfl rfl) rfl rfl rfl ?_)); refine At.y (Y.eqOpt (.s .z) rfl rfl rfl rfl) rfl rfl rfl ?_; refine At.run 1 rfl ?_; obtain ⟨d6, d7, g8, j⟩ := bjoin j; let I : HProp := pc c5 [i6 D.2.2.1, i6 D.2.2.2.1, .string ⟨(D.2.2.2.2.1).toArray⟩, i6 D.2.2.2.2.2] 115; let d8 : HProp := pc b0 [.slice b7 D.2.1.length b8, optp U, i6 N, .slice A0_3 p.length c0_3, .slice A0_4 q.length c0_4, .slice A0_5 u.length c0_5, .slice A0_6 x.length c0_6, .map (some b0_7)] 113; refine At.joinO 4 (X := Bool) (fun J => [(0, bp b0), (2, bp c5), (17, .bool J)]) (fun J => I :: optb (Ow.fl Q3.fl) 121 U D.1 :: d8 :: row Fl.bs 9 A0_3 p.length c0_3 p :: row Q6.fl 48 A0_4 q.length c0_4 q :: grow Q5.ow 41 A0_5 u.length c0_5 u :: row Q9.fl 169 A0_6 x.length c0_6 x :: mapo Fl.bs.ov Fl.bool.ov b0_7 E :: Fr) (fun J => d6 (.inl J) = some r) ?_ (fun c6 => ?_)
 ·rintro J j; have j := (d7 _).symm.trans j
  ·refine nT ?_; obtain ⟨d9, e0, g9, j⟩ := bjoin j; refine At.join (X := (Option Q3) × (Option Nat)) (fun s_ => [(0, bp b0)]) (fun s_ => optb (Ow.fl Q3.fl) 121 s_.2 s_.1 :: pc b0 [.slice b7 D.2.1.length b8, optp s_.2, i6 N, .slice A0_3 p.length c0_3, .slice A0_4 q.length c0_4, .slice A0_5 u.length c0_5, .slice A0_6 x.length c0_6, .map (some b0_7)] 113 :: row Fl.bs 9 A0_3 p.length c0_3 p :: row Q6.fl 48 A0_4 q.length c0_4 q :: grow Q5.ow 41 A0_5 u.length c0_5 u :: row Q9.fl 169 A0_6 x.length c0_6 x :: mapo Fl.bs.ov Fl.bool.ov b0_7 E :: I :: Fr) (fun s_ => d9 (.inl s_.1) = some r) ?_ (fun c7 => ?_)
   ·rintro ⟨h0, e1⟩ j; have j := (e0 _).symm.trans j
    ·refine sR 1 rfl (At.f6 (At.f6 (At.f6 (At.f6 (At.f6 ?_))))); refine At.f5 (At.f6 ?_); obtain ⟨C, e2, j⟩ := bbind j; refine At.call rfl Q43.callee rfl rfl rfl (Q43.spec e1 b9 rfl c4 rfl rfl rfl rfl e2) ?_; rintro _ _ ⟨L, a0, h1, a1, rfl, rfl, a2, rfl, a3⟩; refine At.alloc rfl rfl rfl (fun a4 => ?_); refine At.store rfl rfl rfl rfl .z rfl rfl rfl (.c (.c (.c (.c .n)))) ?_; refine nT (sR 2 rfl (At.y (Y.load rfl rfl .z rfl rfl rfl) rfl rfl rfl (At.run 3 rfl ?_))); refine At.store rfl rfl rfl rfl (.s (.s .z)) rfl rfl rfl (.s (.s (.c .n))) ?_; refine nT (At.seq (sR 3 rfl (At.y (Y.load rfl rfl .z rfl rfl rfl) rfl rfl rfl ?_))); refine At.y (Y.eqOpt (.s (.s .z)) rfl rfl rfl rfl) rfl rfl rfl ?_; refine At.run 1 rfl ?_; obtain ⟨e3, e4, h2, j⟩ := bjoin j; let c8 : HProp := pc b0 [.slice a0 C.2.1.length a1, optp L, i6 C.2.2.2.2.2, .slice A0_3 p.length c0_3, .slice A0_4 q.length c0_4, .slice A0_5 u.length c0_5, .slice A0_6 x.length c0_6, .map (some b0_7)] 113; let a5 : HProp := pc a4 [i6 C.2.2.1, i6 C.2.2.2.1, .string ⟨(C.2.2.2.2.1).toArray⟩, i6 C.2.2.2.2.2] 115; refine At.joinO 9 (X := Bool) (fun M => [(0, bp b0), (3, bp a4), (43, .bool M)]) (fun M => c8 :: a5 :: optb (Ow.fl Q3.fl) 121 L C.1 :: row Fl.bs 9 A0_3 p.length c0_3 p :: row Q6.fl 48 A0_4 q.length c0_4 q :: grow Q5.ow 41 A0_5 u.length c0_5 u :: row Q9.fl 169 A0_6 x.length c0_6 x :: mapo Fl.bs.ov Fl.bool.ov b0_7 E :: I :: Fr) (fun M => e3 (.inl M) = some r) ?_ (fun c9 => ?_)
     ·rintro M j; have j := (e4 _).symm.trans j
      ·refine nT ?_; obtain ⟨e5, e6, h3, j⟩ := bjoin j; refine At.join (X := (Option Q3) × (Option Nat)) (fun s_ => [(0, bp b0)]) (fun s_ => optb (Ow.fl Q3.fl) 121 s_.2 s_.1 :: pc b0 [.slice a0 C.2.1.length a1, optp s_.2, i6 C.2.2.2.2.2, .slice A0_3 p.length c0_3, .slice A0_4 q.length c0_4, .slice A0_5 u.length c0_5, .slice A0_6 x.length c0_6, .map (some b0_7)] 113 :: row Fl.bs 9 A0_3 p.length c0_3 p :: row Q6.fl 48 A0_4 q.length c0_4 q :: grow Q5.ow 41 A0_5 u.length c0_5 u :: row Q9.fl 169 A0_6 x.length c0_6 x :: mapo Fl.bs.ov Fl.bool.ov b0_7 E :: a5 :: I :: Fr) (fun s_ => e5 (.inl s_.1) = some r) ?_ (fun d0 => ?_)
       ·rintro ⟨h4, e7⟩ j; have j := (e6 _).symm.trans j
        ·refine At.region (At.run 1 rfl (At.f6 (At.f6 (At.f6 (At.f6 (At.f6 (At.f5 ?_))))))); refine At.f6 ?_; obtain ⟨h5, e8, j⟩ := bbind j; refine At.call rfl Q105.callee rfl rfl rfl (Q105.spec e7 a2 rfl a3 rfl rfl rfl rfl e8) ?_; rintro _ _ ⟨e9, rfl, rfl⟩; refine At.nil (At.drop (.s (.s (.s (.s (.s (.s (.s .z))))))) (At.drop (.s (.s (.s (.s (.s (.s (.s .z))))))) (At.f6 (At.f6 (At.f6 (At.f6 (At.f6 ?_))))))); refine At.f5 (At.f6 ?_); cases bret j; exact At.res (.inr rfl) rfl rfl ⟨e9, a0, C.2.1.length, a1, rfl, rfl, a2, rfl, a3⟩
       ··rcases bite j with ⟨a6, j⟩ | ⟨a6, j⟩
         ··refine At.condT rfl a6 ?_
           refine At.region (At.run 1 rfl (At.y (Y.load rfl rfl (.s .z) rfl rfl rfl) rfl rfl rfl (At.f7 (At.f7 (At.f7 (At.f7 (At.f7 ?_))))))); refine At.f7 (At.f6 ?_); obtain ⟨f0, f1, j⟩ := bbind j; refine At.call rfl Q15.callee rfl rfl rfl (Q15.spec L a2 rfl a3 rfl rfl rfl rfl f1) ?_; rintro _ _ ⟨f3, rfl, rfl⟩; refine nT ?_; exact fun a w e hs => d0 (f0, f3) j a w (e.sub ⟨rfl, trivial⟩) hs
         ··refine At.condF rfl (bn a6) ?_
           refine At.skip (At.thn (At.f8 (At.f2 (At.f8 (At.f8 (At.f8 (At.f8 ?_))))))); refine At.f8 (At.f7 (At.f8 ?_)); exact fun a w e hs => d0 (C.1, L) j a w (e.sub ⟨rfl, trivial⟩) hs
     ··rcases bite j with ⟨a7, j⟩ | ⟨a7, j⟩
       ··refine At.know (t := 34) rfl a7 ?_
         refine At.run 1 rfl (At.y (Y.load rfl rfl (.s .z) rfl rfl rfl) rfl rfl rfl (At.run 2 rfl ?_)); obtain ⟨f4, f9, h6, j⟩ := bjoin j; refine At.joinO 4 (X := Bool) (fun G => [(0, bp b0), (3, bp a4), (34, .bool true), (42, .bool G)]) (fun G => c8 :: a5 :: optb (Ow.fl Q3.fl) 121 L C.1 :: row Fl.bs 9 A0_3 p.length c0_3 p :: row Q6.fl 48 A0_4 q.length c0_4 q :: grow Q5.ow 41 A0_5 u.length c0_5 u :: row Q9.fl 169 A0_6 x.length c0_6 x :: mapo Fl.bs.ov Fl.bool.ov b0_7 E :: I :: Fr) (fun G => f4 (.inl G) = some r) ?_ (fun d1 => ?_)
         ·rintro G j; have j := (f9 _).symm.trans j
          ·refine At.run 1 rfl ?_; exact At.of (c9 G j) ⟨rfl, rfl, rfl, trivial⟩
         ··rcases bite j with ⟨a8, j⟩ | ⟨a8, j⟩
           ··refine At.know (t := 38) rfl (decide_eq_true a8) ?_
             refine At.run 4 rfl ?_; exact At.of (d1 true j) ⟨rfl, rfl, rfl, rfl, trivial⟩
           ··refine At.know (t := 38) rfl (decide_eq_false a8) ?_
             refine At.run 1 rfl (At.y (Y.load rfl rfl (.s .z) rfl rfl rfl) rfl rfl rfl (At.run 2 rfl ?_)); exact At.of (d1 (decide (24 < C.2.2.2.2.2)) j) ⟨rfl, rfl, rfl, rfl, trivial⟩
       ··refine At.know (t := 34) rfl (bn a7) ?_
         refine At.run 9 rfl ?_; exact At.of (c9 false j) ⟨rfl, rfl, rfl, trivial⟩
   ··rcases bite j with ⟨a9, j⟩ | ⟨a9, j⟩
     ··refine At.condT rfl a9 ?_
       refine At.region (At.run 1 rfl (At.y (Y.load rfl rfl .z rfl rfl rfl) rfl rfl rfl (At.f7 (At.f7 (At.f7 (At.f7 (At.f7 ?_))))))); refine At.f6 (At.f7 ?_); obtain ⟨g0, g1, j⟩ := bbind j; refine At.call rfl Q15.callee rfl rfl rfl (Q15.spec U b9 rfl c4 rfl rfl rfl rfl g1) ?_; rintro _ _ ⟨g2, rfl, rfl⟩; refine nT ?_; exact fun a w e hs => c7 (g0, g2) j a w (e.sub ⟨rfl, trivial⟩) hs
     ··refine At.condF rfl (bn a9) ?_
       refine At.skip (At.thn (At.f7 (At.f7 (At.f7 (At.f7 (At.f7 (At.f7 ?_))))))); refine At.f7 ?_; exact fun a w e hs => c7 (D.1, U) j a w (e.sub ⟨rfl, trivial⟩) hs
 ··rcases bite j with ⟨b2, j⟩ | ⟨b2, j⟩
   ··refine At.know (t := 13) rfl b2 ?_
     refine At.run 1 rfl (At.y (Y.load rfl rfl .z rfl rfl rfl) rfl rfl rfl (At.run 2 rfl ?_)); exact At.of (c6 (!(bseq D.2.2.2.2.1 ([115, 116, 97, 116, 101, 115] : Bs))) j) ⟨rfl, rfl, rfl, trivial⟩
   ··refine At.know (t := 13) rfl (bn b2) ?_
     refine At.run 4 rfl ?_; exact At.of (c6 false j) ⟨rfl, rfl, rfl, trivial⟩

noncomputable def Q87.f (G : List Q0) (I : Option Q3) (q : Int) (u : List Bs) (x : List Q6) (C : List Q5) (D : List Q9) (E : List (Bs × Bool)) : Option ((Option Q3) × (List Q0) × Int × Int × Int × Bs × Int) :=
 (Q43.f G I q u x C D E 4).bind fun p =>
 jn (
 if p.1.isNone = true then
 some (.inl (decide (q ≤ p.2.2.2.2.2)))
 else
 some (.inl false)) (fun (J : Bool) =>
 jn (
 if J = true then
 (Q15.f p.2.1 p.1 q u x C D E p.2.2.1 p.2.2.2.1 p.2.2.2.2.1 p.2.2.2.2.2 8).bind fun L =>
 some (.inl L)
 else
 some (.inl p.1)) (fun (M : Option Q3) =>
 some (M, p.2.1, p.2.2.2.2.2, p.2.2.1, p.2.2.2.1, p.2.2.2.2.1, p.2.2.2.2.2)))
theorem Q87.callee : Callee Tryz.prog 111 := ⟨_, Tryz.func111, by kernel_rfl, by kernel_rfl⟩
theorem Q87.spec {M : List Q0} {a3 : Option Q3} {D : Int} {p : List Bs} {q : List Q6} {u : List Q5} {x : List Q9} {E : List (Bs × Bool)} (N : Option Nat) (hr0_0 : RdS Q0.fl.rep R.heap A0_0 M) (hn0_0 : M.length = n0_0) (hc0_0 : n0_0 ≤ c0_0) (hn0_3 : p.length = n0_3) (hn0_4 : q.length = n0_4) (hn0_5 : u.length = n0_5) (hn0_6 : x.length = n0_6) {r : (Option Q3) × (List Q0) × Int × Int × Int × Bs × Int} (j : Q87.f M a3 D p q u x E = some r) :
 Spec Tryz.prog 111 [bp b0] R (pc b0 [.slice A0_0 n0_0 c0_0, optp N, i6 D, .slice A0_3 n0_3 c0_3, .slice A0_4 n0_4 c0_4, .slice A0_5 n0_5 c0_5, .slice A0_6 n0_6 c0_6, .map (some b0_7)] 113 :: optb (Ow.fl Q3.fl) 121 N a3 :: row Fl.bs 9 A0_3 n0_3 c0_3 p :: row Q6.fl 48 A0_4 n0_4 c0_4 q :: grow Q5.ow 41 A0_5 n0_5 c0_5 u :: row Q9.fl 169 A0_6 n0_6 c0_6 x :: mapo Fl.bs.ov Fl.bool.ov b0_7 E :: Fr) (fun v l' => ∃ (a4 : Option Nat) (a5 : Option Addr) (O : Nat) (a6 : Nat), v = .tuple #[.agg #[i6 r.2.2.2.1, i6 r.2.2.2.2.1, .string ⟨(r.2.2.2.2.2.1).toArray⟩, i6 r.2.2.2.2.2.2], i6 r.2.2.1] ∧ optb (Ow.fl Q3.fl) 121 a4 r.1 :: pc b0 [.slice a5 O a6, optp a4, i6 D, .slice A0_3 n0_3 c0_3, .slice A0_4 n0_4 c0_4, .slice A0_5 n0_5 c0_5, .slice A0_6 n0_6 c0_6, .map (some b0_7)] 113 :: row Fl.bs 9 A0_3 n0_3 c0_3 p :: row Q6.fl 48 A0_4 n0_4 c0_4 q :: grow Q5.ow 41 A0_5 n0_5 c0_5 u :: row Q9.fl 169 A0_6 n0_6 c0_6 x :: mapo Fl.bs.ov Fl.bool.ov b0_7 E :: Fr = l' ∧ RdS Q0.fl.rep R.heap a5 r.2.1 ∧ r.2.1.length = O ∧ O ≤ a6) := by
 subst hn0_0; subst hn0_3; subst hn0_4; subst hn0_5; subst hn0_6; refine Spec.of Tryz.func111 rfl rfl ?_; unfold Q87.f at j; have j := brun j; refine At.seq (At.region ?_); refine At.alloc rfl rfl rfl (fun U => ?_); refine At.run 1 rfl (nT (sR 1 rfl (At.f7 (At.f7 ?_)))); refine At.f7 (At.f7 (At.f7 (At.f7 (At.f7 ?_)))); obtain ⟨C, b4, j⟩ := bbind j; refine At.call rfl Q43.callee rfl rfl rfl (Q43.spec N hr0_0 rfl hc0_0 rfl rfl rfl rfl b4) ?_; rintro _ _ ⟨I, J, c8, L, rfl, rfl, a7, rfl, a8⟩; refine At.alloc rfl rfl rfl (fun V => ?_); refine At.store rfl rfl rfl rfl .z rfl rfl rfl (.c (.c (.c (.c .n)))) ?_; refine nT (At.seq (At.seq ?_)); refine At.quiet (by kernel_rfl) ?_; refine At.Quiet.run 3 rfl ?_; refine At.Quiet.y (Y.load rfl rfl (.s (.s .z)) rfl rfl rfl) rfl rfl rfl ?_; refine At.Quiet.y (Y.eqOpt (.s .z) rfl rfl rfl rfl) rfl rfl rfl ?_; refine At.Quiet.run 1 rfl ?_; obtain ⟨b5, b6, c9, j⟩ := bjoin j; let Z : HProp := pc V [i6 C.2.2.1, i6 C.2.2.2.1, .string ⟨(C.2.2.2.2.1).toArray⟩, i6 C.2.2.2.2.2] 115; let b7 : HProp := pc b0 [.slice J C.2.1.length L, optp I, i6 D, .slice A0_3 p.length c0_3, .slice A0_4 q.length c0_4, .slice A0_5 u.length c0_5, .slice A0_6 x.length c0_6, .map (some b0_7)] 113; let a9 : HProp := pc U [i6 0, i6 0, .string ⟨(([] : Bs)).toArray⟩, i6 0] 115; refine At.Quiet.joinO 9 (X := Bool) (fun G => [(0, bp b0), (2, bp U), (4, bp V), (21, .bool G)]) (fun G => Z :: optb (Ow.fl Q3.fl) 121 I C.1 :: b7 :: row Fl.bs 9 A0_3 p.length c0_3 p :: row Q6.fl 48 A0_4 q.length c0_4 q :: grow Q5.ow 41 A0_5 u.length c0_5 u :: row Q9.fl 169 A0_6 x.length c0_6 x :: mapo Fl.bs.ov Fl.bool.ov b0_7 E :: a9 :: Fr) (fun G => b5 (.inl G) = some r) ?_ (fun b2 => ?_)
 ·rintro G j; have j := (b6 _).symm.trans j
  ·refine At.Quiet.nil (At.thn ?_); obtain ⟨b8, b9, d0, j⟩ := bjoin j; refine At.join (X := (Option Q3) × (Option Nat)) (fun s_ => [(2, bp U), (4, bp V)]) (fun s_ => optb (Ow.fl Q3.fl) 121 s_.2 s_.1 :: pc b0 [.slice J C.2.1.length L, optp s_.2, i6 D, .slice A0_3 p.length c0_3, .slice A0_4 q.length c0_4, .slice A0_5 u.length c0_5, .slice A0_6 x.length c0_6, .map (some b0_7)] 113 :: row Fl.bs 9 A0_3 p.length c0_3 p :: row Q6.fl 48 A0_4 q.length c0_4 q :: grow Q5.ow 41 A0_5 u.length c0_5 u :: row Q9.fl 169 A0_6 x.length c0_6 x :: mapo Fl.bs.ov Fl.bool.ov b0_7 E :: Z :: a9 :: Fr) (fun s_ => b8 (.inl s_.1) = some r) ?_ (fun b3 => ?_)
   ·rintro ⟨c4, a0⟩ j; have j := (b9 _).symm.trans j
    ·refine At.seq ?_; refine At.held [optb (Ow.fl Q3.fl) 121 a0 c4, pc b0 [.slice J C.2.1.length L, optp a0, i6 D, .slice A0_3 p.length c0_3, .slice A0_4 q.length c0_4, .slice A0_5 u.length c0_5, .slice A0_6 x.length c0_6, .map (some b0_7)] 113, row Fl.bs 9 A0_3 p.length c0_3 p, row Q6.fl 48 A0_4 q.length c0_4 q, grow Q5.ow 41 A0_5 u.length c0_5 u, row Q9.fl 169 A0_6 x.length c0_6 x, mapo Fl.bs.ov Fl.bool.ov b0_7 E, Z] 5 rfl ?_; refine At.H.tw 0 rfl (Y.load rfl rfl (.s (.s (.s (.s (.s (.s (.s .z))))))) rfl rfl rfl) rfl rfl rfl (.c .z (.c .z (.c .z (.c .z (.c .z (.c .z (.c .z (.c .z .n)))))))) ?_; refine At.H.pw 1 rfl rfl rfl rfl rfl (.c .z (.c .z (.c .z (.c .z (.c .z (.c .z (.c .z (.c .z .n)))))))) ?_; refine At.H.tw 2 rfl (Y.load rfl rfl (.s (.s (.s (.s (.s (.s (.s .z))))))) rfl rfl rfl) rfl rfl rfl (.c .z (.c .z (.c .z (.c .z (.c .z (.c .z (.c .z (.c .z .n)))))))) ?_; refine At.H.al [3] (Q7 ?_ Q8)
     ··refine At.HO.op rfl ?_
       refine At.store rfl rfl rfl rfl (.s (.s (.s (.s (.s (.s (.s (.s .z)))))))) rfl rfl rfl (.c (.c (.c (.c .n)))) ?_; refine At.HO.back (.c (.s .z) (.c (.s .z) (.c (.s .z) (.c (.s .z) (.c (.s .z) (.c (.s .z) (.c (.s .z) (.c (.s .z) .n)))))))) ?_; refine At.H.pw 4 rfl rfl rfl rfl rfl (.c (.s .z) (.c (.s .z) (.c (.s .z) (.c (.s .z) (.c (.s .z) (.c (.s .z) (.c (.s .z) (.c (.s .z) .n)))))))) ?_; refine At.H.done (by kernel_rfl) ?_; refine At.thn (At.ret ?_); refine At.resM (.inl rfl) rfl (RV.cell rfl rfl .z rfl rfl rfl (RV.tmp rfl RV.nil)) ?_; refine At.drop .z (At.drop (.s (.s (.s (.s (.s (.s (.s .z))))))) ?_); cases bret j; exact fun a w e hs => ⟨_, ⟨a0, J, C.2.1.length, L, rfl, rfl, a7, rfl, a8⟩, hs⟩
   ··rcases bite j with ⟨a1, j⟩ | ⟨a1, j⟩
     ··refine At.condT rfl a1 ?_
       refine At.region (At.run 1 rfl (At.y (Y.load rfl rfl .z rfl rfl rfl) rfl rfl rfl (At.f7 (At.f7 (At.f7 (At.f7 (At.f7 ?_))))))); refine At.f6 (At.f7 ?_); obtain ⟨c5, c6, j⟩ := bbind j; refine At.call rfl Q15.callee rfl rfl rfl (Q15.spec I a7 rfl a8 rfl rfl rfl rfl c6) ?_; rintro _ _ ⟨c7, rfl, rfl⟩; refine nT ?_; exact fun a w e hs => b3 (c5, c7) j a w (e.sub ⟨rfl, rfl, trivial⟩) hs
     ··refine At.condF rfl (bn a1) ?_
       refine At.skip (At.thn (At.f8 (At.f1 (At.f8 (At.f8 (At.f8 (At.f8 ?_))))))); refine At.f8 (At.f8 (At.f8 ?_)); exact fun a w e hs => b3 (C.1, I) j a w (e.sub ⟨rfl, rfl, trivial⟩) hs
 ··rcases bite j with ⟨a2, j⟩ | ⟨a2, j⟩
   ··refine At.Quiet.know (t := 12) rfl a2 ?_
     refine At.Quiet.run 1 rfl ?_; refine At.Quiet.y (Y.load rfl rfl .z rfl rfl rfl) rfl rfl rfl ?_; refine At.Quiet.run 4 rfl ?_; refine At.Quiet.y (Y.load rfl rfl (.s (.s .z)) rfl rfl rfl) rfl rfl rfl ?_; refine At.Quiet.run 2 rfl ?_; exact At.Quiet.of (b2 (decide (D ≤ C.2.2.2.2.2)) j) ⟨rfl, rfl, rfl, rfl, trivial⟩
   ··refine At.Quiet.know (t := 12) rfl (bn a2) ?_
     refine At.Quiet.run 9 rfl ?_; exact At.Quiet.of (b2 false j) ⟨rfl, rfl, rfl, rfl, trivial⟩

noncomputable def Q95.f (G : List Q0) (I : Option Q3) (q : Int) (u : List Bs) (x : List Q6) (C : List Q5) (D : List Q9) (E : List (Bs × Bool)) : Option ((Option Q3) × (List Q0) × Int × Int × Bs × Int) :=
 (Q43.f G I q u x C D E 2).bind fun p =>
 jn (
 if p.1.isNone = true then
 (Q88.f p.2.2.2.2.1).bind fun J =>
 some (.inl (!J))
 else
 some (.inl false)) (fun (L : Bool) =>
 jn (
 if L = true then
 (Q15.f p.2.1 p.1 q u x C D E p.2.2.1 p.2.2.2.1 p.2.2.2.2.1 p.2.2.2.2.2 7).bind fun M =>
 some (.inl M)
 else
 some (.inl p.1)) (fun (N : Option Q3) =>
 some (N, p.2.1, p.2.2.1, p.2.2.2.1, p.2.2.2.2.1, p.2.2.2.2.2)))
theorem Q95.callee : Callee Tryz.prog 112 := ⟨_, Tryz.func112, by kernel_rfl, by kernel_rfl⟩
theorem Q95.spec {J : List Q0} {a1 : Option Q3} {D : Int} {p : List Bs} {q : List Q6} {u : List Q5} {x : List Q9} {E : List (Bs × Bool)} (L : Option Nat) (hr0_0 : RdS Q0.fl.rep R.heap A0_0 J) (hn0_0 : J.length = n0_0) (hc0_0 : n0_0 ≤ c0_0) (hn0_3 : p.length = n0_3) (hn0_4 : q.length = n0_4) (hn0_5 : u.length = n0_5) (hn0_6 : x.length = n0_6) {r : (Option Q3) × (List Q0) × Int × Int × Bs × Int} (j : Q95.f J a1 D p q u x E = some r) :
 Spec Tryz.prog 112 [bp b0] R (pc b0 [.slice A0_0 n0_0 c0_0, optp L, i6 D, .slice A0_3 n0_3 c0_3, .slice A0_4 n0_4 c0_4, .slice A0_5 n0_5 c0_5, .slice A0_6 n0_6 c0_6, .map (some b0_7)] 113 :: optb (Ow.fl Q3.fl) 121 L a1 :: row Fl.bs 9 A0_3 n0_3 c0_3 p :: row Q6.fl 48 A0_4 n0_4 c0_4 q :: grow Q5.ow 41 A0_5 n0_5 c0_5 u :: row Q9.fl 169 A0_6 n0_6 c0_6 x :: mapo Fl.bs.ov Fl.bool.ov b0_7 E :: Fr) (fun v l' => ∃ (a2 : Option Nat) (a3 : Option Addr) (M : Nat) (a4 : Nat), v = .agg #[i6 r.2.2.1, i6 r.2.2.2.1, .string ⟨(r.2.2.2.2.1).toArray⟩, i6 r.2.2.2.2.2] ∧ optb (Ow.fl Q3.fl) 121 a2 r.1 :: pc b0 [.slice a3 M a4, optp a2, i6 D, .slice A0_3 n0_3 c0_3, .slice A0_4 n0_4 c0_4, .slice A0_5 n0_5 c0_5, .slice A0_6 n0_6 c0_6, .map (some b0_7)] 113 :: row Fl.bs 9 A0_3 n0_3 c0_3 p :: row Q6.fl 48 A0_4 n0_4 c0_4 q :: grow Q5.ow 41 A0_5 n0_5 c0_5 u :: row Q9.fl 169 A0_6 n0_6 c0_6 x :: mapo Fl.bs.ov Fl.bool.ov b0_7 E :: Fr = l' ∧ RdS Q0.fl.rep R.heap a3 r.2.1 ∧ r.2.1.length = M ∧ M ≤ a4) := by
 subst hn0_0; subst hn0_3; subst hn0_4; subst hn0_5; subst hn0_6; refine Spec.of Tryz.func112 rfl rfl ?_; unfold Q95.f at j; have j := brun j; refine At.seq (At.region ?_); refine At.alloc rfl rfl rfl (fun N => ?_); refine nT (sR 1 rfl (At.f7 (At.f7 (At.f7 ?_)))); refine At.f7 (At.f7 (At.f7 (At.f7 ?_))); obtain ⟨C, b3, j⟩ := bbind j; refine At.call rfl Q43.callee rfl rfl rfl (Q43.spec L hr0_0 rfl hc0_0 rfl rfl rfl rfl b3) ?_; rintro _ _ ⟨I, O, c9, U, rfl, rfl, a5, rfl, a6⟩; refine At.alloc rfl rfl rfl (fun V => ?_); refine At.store rfl rfl rfl rfl .z rfl rfl rfl (.c (.c (.c (.c .n)))) ?_; refine nT (At.seq (sR 3 rfl (At.y (Y.load rfl rfl (.s (.s .z)) rfl rfl rfl) rfl rfl rfl ?_))); refine At.y (Y.eqOpt (.s .z) rfl rfl rfl rfl) rfl rfl rfl ?_; refine At.run 1 rfl ?_; obtain ⟨b4, b5, d0, j⟩ := bjoin j; let a7 : HProp := pc V [i6 C.2.2.1, i6 C.2.2.2.1, .string ⟨(C.2.2.2.2.1).toArray⟩, i6 C.2.2.2.2.2] 115; let b6 : HProp := pc b0 [.slice O C.2.1.length U, optp I, i6 D, .slice A0_3 p.length c0_3, .slice A0_4 q.length c0_4, .slice A0_5 u.length c0_5, .slice A0_6 x.length c0_6, .map (some b0_7)] 113; let a8 : HProp := pc N [i6 0, i6 0, .string ⟨(([] : Bs)).toArray⟩, i6 0] 115; refine At.joinO 5 (X := Bool) (fun G => [(0, bp b0), (2, bp N), (3, bp V), (16, .bool G)]) (fun G => a7 :: optb (Ow.fl Q3.fl) 121 I C.1 :: b6 :: row Fl.bs 9 A0_3 p.length c0_3 p :: row Q6.fl 48 A0_4 q.length c0_4 q :: grow Q5.ow 41 A0_5 u.length c0_5 u :: row Q9.fl 169 A0_6 x.length c0_6 x :: mapo Fl.bs.ov Fl.bool.ov b0_7 E :: a8 :: Fr) (fun G => b4 (.inl G) = some r) ?_ (fun a9 => ?_)
 ·rintro G j; have j := (b5 _).symm.trans j
  ·refine nT ?_; obtain ⟨b7, b8, d1, j⟩ := bjoin j; refine At.join (X := (Option Q3) × (Option Nat)) (fun s_ => [(2, bp N), (3, bp V)]) (fun s_ => optb (Ow.fl Q3.fl) 121 s_.2 s_.1 :: pc b0 [.slice O C.2.1.length U, optp s_.2, i6 D, .slice A0_3 p.length c0_3, .slice A0_4 q.length c0_4, .slice A0_5 u.length c0_5, .slice A0_6 x.length c0_6, .map (some b0_7)] 113 :: row Fl.bs 9 A0_3 p.length c0_3 p :: row Q6.fl 48 A0_4 q.length c0_4 q :: grow Q5.ow 41 A0_5 u.length c0_5 u :: row Q9.fl 169 A0_6 x.length c0_6 x :: mapo Fl.bs.ov Fl.bool.ov b0_7 E :: a7 :: a8 :: Fr) (fun s_ => b7 (.inl s_.1) = some r) ?_ (fun b2 => ?_)
   ·rintro ⟨d2, b9⟩ j; have j := (b8 _).symm.trans j
    ·refine At.seq (At.region ?_); refine At.y (Y.load rfl rfl (.s (.s (.s (.s (.s (.s (.s .z))))))) rfl rfl rfl) rfl rfl rfl ?_; refine At.store rfl rfl rfl rfl (.s (.s (.s (.s (.s (.s (.s (.s .z)))))))) rfl rfl rfl (.c (.c (.c (.c .n)))) ?_; refine nT (At.ret ?_); refine At.resM (.inl rfl) rfl (RV.cell rfl rfl .z rfl rfl rfl RV.nil) ?_; refine At.drop .z (At.drop (.s (.s (.s (.s (.s (.s (.s .z))))))) ?_); cases bret j; exact fun a w e hs => ⟨_, ⟨b9, O, C.2.1.length, U, rfl, rfl, a5, rfl, a6⟩, hs⟩
   ··rcases bite j with ⟨Z, j⟩ | ⟨Z, j⟩
     ··refine At.condT rfl Z ?_
       refine At.region (At.run 1 rfl (At.y (Y.load rfl rfl .z rfl rfl rfl) rfl rfl rfl (At.f7 (At.f7 (At.f7 (At.f7 (At.f7 ?_))))))); refine At.f6 (At.f7 ?_); obtain ⟨c4, c5, j⟩ := bbind j; refine At.call rfl Q15.callee rfl rfl rfl (Q15.spec I a5 rfl a6 rfl rfl rfl rfl c5) ?_; rintro _ _ ⟨c6, rfl, rfl⟩; refine nT ?_; exact fun a w e hs => b2 (c4, c6) j a w (e.sub ⟨rfl, rfl, trivial⟩) hs
     ··refine At.condF rfl (bn Z) ?_
       refine At.skip (At.thn (At.f8 (At.f1 (At.f8 (At.f8 (At.f8 (At.f8 ?_))))))); refine At.f8 (At.f8 (At.f8 ?_)); exact fun a w e hs => b2 (C.1, I) j a w (e.sub ⟨rfl, rfl, trivial⟩) hs
 ··rcases bite j with ⟨a0, j⟩ | ⟨a0, j⟩
   ··refine At.know (t := 11) rfl a0 ?_
     refine At.run 1 rfl (At.y (Y.load rfl rfl .z rfl rfl rfl) rfl rfl rfl ?_); obtain ⟨c7, c8, j⟩ := bbind j; refine At.call rfl Q88.callee rfl rfl rfl (Q88.spec c8) ?_; rintro _ _ ⟨rfl, rfl⟩; refine At.run 2 rfl ?_; exact At.of (a9 (!c7) j) ⟨rfl, rfl, rfl, rfl, trivial⟩
   ··refine At.know (t := 11) rfl (bn a0) ?_
     refine At.run 5 rfl ?_; exact At.of (a9 false j) ⟨rfl, rfl, rfl, rfl, trivial⟩

noncomputable def Q73.l0b (a0 : List Q9) (q : Int) (u : Bs) (x p : Int) : Option ((Int) ⊕ ((Unit) ⊕ (Int))) :=
 if p < (a0.length : Int) then
 if (0 : Int) ≤ p ∧ p < (a0.length : Int) then
 if (decide (q = (gt a0 p).from_) && (bseq u ((gt a0 p).action) && (decide (x = (gt a0 p).to) && true))) = true then
 upL (some p)
 else
 nx (IntKind.i64.wrap (p + 1))
 else none
 else
 dn (.inl ())
noncomputable def Q73.l0 (a0 : List Q9) (p : Int) (q : Bs) (u x : Int) : Option ((Unit) ⊕ (Int)) := iter (fun t_ : Int => Q73.l0b a0 p q u t_) x
noncomputable def Q73.f (a0 : List Q9) (p : Int) (q : Bs) (u : Int) : Option Int :=
 jn (Q73.l0 a0 p q u 0) (fun (_ : Unit) =>
 some (-1))
theorem Q73.callee : Callee Tryz.prog 147 := ⟨_, Tryz.func147, by kernel_rfl, by kernel_rfl⟩
theorem Q73.spec {a0 : List Q9} {u x : Int} {C : Bs} (hr0 : RdS Q9.fl.rep R.heap A0 a0) (hn0 : a0.length = n0) (hc0 : n0 ≤ c0) {r : Int} (j : Q73.f a0 u C x = some r) :
 Spec Tryz.prog 147 [.slice A0 n0 c0, .agg #[i6 u, .string ⟨(C).toArray⟩, i6 x]] R (Fr) (fun v l' => v = i6 r ∧ Fr = l') := by
 subst hn0; refine Spec.of Tryz.func147 rfl rfl ?_; unfold Q73.f at j; have j := brun j; refine At.seq (At.region ?_); refine At.box rfl rfl (cs := [i6 u, .string ⟨(C).toArray⟩, i6 x]) rfl rfl (fun M => ?_); refine At.run 1 rfl (nT (At.seq (sR 3 rfl (At.nil ?_)))); refine At.thn ?_; refine At.block ?_; obtain ⟨V, Z, a1, j⟩ := bjoin j; obtain ⟨N, G, O⟩ := bsome j; clear j; unfold Q73.l0 at G; obtain ⟨I, D⟩ := Q14.1 G; clear G; let U : HProp := pc M [i6 u, .string ⟨(C).toArray⟩, i6 x] 169; refine At.loopJ (X := Int) (Y := Unit) (e0 := 0) (fun p => [(0, .slice A0 a0.length c0), (3, bp M), (7, i6 (a0.length : Int)), (8, i6 p)]) (fun p => U :: Fr) (fun m_ => fun p => iterN (fun t_ : Int => Q73.l0b a0 u C x t_) m_ p = some N) I 0 D (fun _ => []) (fun _ => U :: Fr) (fun _ => V (.inl ()) = some r) (fun a w e hs => ⟨e.sub ⟨rfl, rfl, rfl, rfl, trivial⟩, (by exact hs)⟩) ?_ (fun a2 => ?_)
 ·rintro _ j; have j := (Z _).symm.trans j
  ·refine At.ibx ?_; refine At.thn (sR 1 rfl (nT (At.ret (At.drop .z ?_)))); cases bret j; exact At.res (.inl rfl) rfl rfl ⟨rfl, rfl⟩
 ·clear D I; rintro I p D; obtain ⟨a3, f_, a4, hf_, j⟩ := bit D; clear D; have j : (Q73.l0b a0 u C x p).bind _ = some N := j; unfold Q73.l0b at j
  ·refine sR 1 rfl (nT (At.seq ?_)); rcases bite j with ⟨J, j⟩ | ⟨J, j⟩
   ··refine At.condT rfl (decide_eq_true J) ?_
     refine At.skip (At.thn (At.seq ?_)); refine At.block ?_; refine sR 2 rfl (nT (At.seq ?_)); refine At.quiet (by kernel_rfl) ?_; refine At.Quiet.y (Y.load rfl rfl .z rfl rfl rfl) rfl rfl rfl ?_; refine At.Quiet.run 2 rfl ?_; obtain ⟨E, j⟩ := bnone j; refine At.Quiet.y (Y.ixRd hr0 rfl rfl rfl rfl rfl rfl rfl E.1 E.2) rfl rfl rfl ?_; refine At.Quiet.y (Y.ldFl hr0 rfl (q := 0) rfl rfl E.1 E.2 rfl rfl rfl) rfl rfl rfl ?_; refine At.Quiet.y (Y.eqSt (xs := [i6 u, .string ⟨(C).toArray⟩, i6 x]) (ys := [i6 ((gt a0 p).from_), .string ⟨((gt a0 p).action).toArray⟩, i6 ((gt a0 p).to)]) rfl rfl rfl rfl (by kernel_rfl) (by kernel_rfl) (by kernel_rfl) rfl) rfl rfl rfl ?_; refine At.Quiet.nil (At.thn ?_); rcases bite j with ⟨L, j⟩ | ⟨L, j⟩
     ··refine At.condT rfl L ?_
       refine sR 2 rfl (nT (At.ret ?_)); refine At.ibr ?_; refine At.thr ?_; have j := bupL a1 O j; refine At.thr ?_; refine At.ibr ?_; refine At.thr (At.drop .z ?_); cases bret j; exact At.res (.inl rfl) rfl rfl ⟨rfl, rfl⟩
     ··refine At.condF rfl (bn L) ?_
       refine At.skip ?_; refine At.ibn ?_; refine At.thn (At.region (At.run 2 rfl (At.nil ?_))); have j := bnx hf_ j; exact fun a w e hs => ⟨a3, (IntKind.i64.wrap (p + 1)), a4, j, e.sub ⟨rfl, rfl, rfl, rfl, trivial⟩, hs⟩
   ··refine At.condF rfl (decide_eq_false J) ?_
     refine At.exit ?_; refine At.the ?_; refine At.the ?_; exact fun a w e hs => a2 () (bdn j O) a w (e.sub trivial) hs

noncomputable def Q134.f (a0 : List Q9) (p : Int) (q : Bs) (u : Int) : Option Bool :=
 (Q73.f a0 p q u).bind fun x =>
 some (decide (0 ≤ x))
theorem Q134.callee : Callee Tryz.prog 113 := ⟨_, Tryz.func113, by kernel_rfl, by kernel_rfl⟩
theorem Q134.spec {a0 : List Q9} {p q : Int} {u : Bs} (hr0 : RdS Q9.fl.rep R.heap A0 a0) (hn0 : a0.length = n0) (hc0 : n0 ≤ c0) {r : Bool} (j : Q134.f a0 p u q = some r) :
 Spec Tryz.prog 113 [.slice A0 n0 c0, .agg #[i6 p, .string ⟨(u).toArray⟩, i6 q]] R (Fr) (fun v l' => v = .bool r ∧ Fr = l') := by
 subst hn0; refine Spec.of Tryz.func113 rfl rfl ?_; unfold Q134.f at j; have j := brun j; refine At.seq (At.region ?_); refine At.box rfl rfl (cs := [i6 p, .string ⟨(u).toArray⟩, i6 q]) rfl rfl (fun C => ?_); refine At.run 1 rfl (nT (sR 1 rfl (At.y (Y.load rfl rfl .z rfl rfl rfl) rfl rfl rfl ?_))); obtain ⟨D, x, j⟩ := bbind j; refine At.call rfl Q73.callee rfl rfl rfl (Q73.spec hr0 rfl hc0 x) ?_; rintro _ _ ⟨rfl, rfl⟩; refine At.run 2 rfl (nT (At.ret (At.drop .z ?_))); cases bret j; exact At.res (.inl rfl) rfl rfl ⟨rfl, rfl⟩

noncomputable def Q117.f (J : List Q0) (L : Option Q3) (C : Int) (D : List Bs) (E : List Q6) (G : List Q5) (u : List Q9) (x : List (Bs × Bool)) (M : Int) (N : Int) (O : Bs) (U : Int) : Option ((List Q9) × (List (Bs × Bool)) × (Option Q3) × (List Q0)) :=
 jn (
 if 200 ≤ (u.length : Int) then
 (Q15.f J L C D E G u x M N O U 10).bind fun V =>
 some (.inl V)
 else
 some (.inl L)) (fun (X : Option Q3) =>
 (Q87.f J X C D E G u x).bind fun I =>
 (Q95.f I.2.1 I.1 C D E G u x).bind fun p =>
 jn (
 if ((mget x p.2.2.2.2.1).getD false) = true then
 some (.inl false)
 else
 some (.inl (decide (8 ≤ (x.length : Int))))) (fun (Z : Bool) =>
 jn (
 if Z = true then
 (Q15.f p.2.1 p.1 C D E G u x p.2.2.1 p.2.2.2.1 p.2.2.2.2.1 p.2.2.2.2.2 10).bind fun a0 =>
 some (.inl a0)
 else
 some (.inl p.1)) (fun (a1 : Option Q3) =>
 (Q87.f p.2.1 a1 C D E G u x).bind fun q =>
 jn (
 if q.1.isNone = true then
 (Q134.f u I.2.2.1 p.2.2.2.2.1 q.2.2.1).bind fun a2 =>
 some (.inl a2)
 else
 some (.inl false)) (fun (a3 : Bool) =>
 jn (
 if a3 = true then
 (Q15.f q.2.1 q.1 C D E G u x q.2.2.2.1 q.2.2.2.2.1 q.2.2.2.2.2.1 q.2.2.2.2.2.2 9).bind fun a4 =>
 some (.inl a4)
 else
 some (.inl q.1)) (fun (a5 : Option Q3) =>
 (Q105.f q.2.1 a5 C D E G u x).bind fun a6 =>
 if (u.length + ([(⟨I.2.2.1, p.2.2.2.2.1, q.2.2.1⟩ : Q9)] : List Q9).length) * 32 ≤ 140737488355328 then
 some ((u ++ ([(⟨I.2.2.1, p.2.2.2.2.1, q.2.2.1⟩ : Q9)] : List Q9)), (mset x p.2.2.2.2.1 true), a6, q.2.1)
 else none)))))
theorem Q117.callee : Callee Tryz.prog 59 := ⟨_, Tryz.func59, by kernel_rfl, by kernel_rfl⟩
theorem Q117.spec {V : List Q0} {b3 : Option Q3} {I Z a0 a1 : Int} {p : List Bs} {q : List Q6} {u : List Q5} {C : List Q9} {G : List (Bs × Bool)} {a2 : Bs} (a3 : Option Nat) (hr0_0 : RdS Q0.fl.rep R.heap A0_0 V) (hn0_0 : V.length = n0_0) (hc0_0 : n0_0 ≤ c0_0) (hn0_3 : p.length = n0_3) (hn0_4 : q.length = n0_4) (hn0_5 : u.length = n0_5) (hn0_6 : C.length = n0_6) {r : (List Q9) × (List (Bs × Bool)) × (Option Q3) × (List Q0)} (j : Q117.f V b3 I p q u C G Z a0 a2 a1 = some r) :
 Spec Tryz.prog 59 [bp b0, .agg #[i6 Z, i6 a0, .string ⟨(a2).toArray⟩, i6 a1]] R (pc b0 [.slice A0_0 n0_0 c0_0, optp a3, i6 I, .slice A0_3 n0_3 c0_3, .slice A0_4 n0_4 c0_4, .slice A0_5 n0_5 c0_5, .slice A0_6 n0_6 c0_6, .map (some b0_7)] 113 :: optb (Ow.fl Q3.fl) 121 a3 b3 :: row Fl.bs 9 A0_3 n0_3 c0_3 p :: row Q6.fl 48 A0_4 n0_4 c0_4 q :: grow Q5.ow 41 A0_5 n0_5 c0_5 u :: row Q9.fl 169 A0_6 n0_6 c0_6 C :: mapo Fl.bs.ov Fl.bool.ov b0_7 G :: Fr) (fun v l' => ∃ (b4 : Nat) (c8 : Option Addr) (c9 : Nat) (d0 : Option Nat) (d1 : Option Addr) (b5 : Nat) (d2 : Nat), v = .tuple #[] ∧ optb (Ow.fl Q3.fl) 121 d0 r.2.2.1 :: pc b0 [.slice d1 b5 d2, optp d0, i6 I, .slice A0_3 n0_3 c0_3, .slice A0_4 n0_4 c0_4, .slice A0_5 n0_5 c0_5, .slice c8 b4 c9, .map (some b0_7)] 113 :: row Fl.bs 9 A0_3 n0_3 c0_3 p :: row Q6.fl 48 A0_4 n0_4 c0_4 q :: grow Q5.ow 41 A0_5 n0_5 c0_5 u :: row Q9.fl 169 c8 b4 c9 r.1 :: mapo Fl.bs.ov Fl.bool.ov b0_7 r.2.1 :: Fr = l' ∧ r.1.length = b4 ∧ RdS Q0.fl.rep R.heap d1 r.2.2.2 ∧ r.2.2.2.length = b5 ∧ b5 ≤ d2) := by
 subst hn0_0; subst hn0_3; subst hn0_4; subst hn0_5; subst hn0_6; refine Spec.of Tryz.func59 rfl rfl ?_; unfold Q117.f at j; have j := brun j; refine At.seq (At.region ?_); refine At.box rfl rfl (cs := [i6 Z, i6 a0, .string ⟨(a2).toArray⟩, i6 a1]) rfl rfl (fun e6 => ?_); refine nT (At.seq (sR 3 rfl (At.y (Y.load rfl rfl (.s .z) rfl rfl rfl) rfl rfl rfl (At.run 2 rfl ?_)))); refine nT ?_; obtain ⟨e7, e8, m4, j⟩ := bjoin j; let J : HProp := pc e6 [i6 Z, i6 a0, .string ⟨(a2).toArray⟩, i6 a1] 115; refine At.join (X := (Option Q3) × (Option Nat)) (fun s_ => [(0, bp b0)]) (fun s_ => optb (Ow.fl Q3.fl) 121 s_.2 s_.1 :: pc b0 [.slice A0_0 V.length c0_0, optp s_.2, i6 I, .slice A0_3 p.length c0_3, .slice A0_4 q.length c0_4, .slice A0_5 u.length c0_5, .slice A0_6 C.length c0_6, .map (some b0_7)] 113 :: row Fl.bs 9 A0_3 p.length c0_3 p :: row Q6.fl 48 A0_4 q.length c0_4 q :: grow Q5.ow 41 A0_5 u.length c0_5 u :: row Q9.fl 169 A0_6 C.length c0_6 C :: mapo Fl.bs.ov Fl.bool.ov b0_7 G :: J :: Fr) (fun s_ => e7 (.inl s_.1) = some r) ?_ (fun d3 => ?_)
 ·rintro ⟨m5, e9⟩ j; have j := (e8 _).symm.trans j
  ·refine sR 1 rfl (At.f6 (At.f6 (At.f6 (At.f6 (At.f6 ?_))))); refine At.f5 (At.f6 ?_); obtain ⟨E, f0, j⟩ := bbind j; refine At.call rfl Q87.callee rfl rfl rfl (Q87.spec e9 hr0_0 rfl hc0_0 rfl rfl rfl rfl f0) ?_; rintro _ _ ⟨f3, m6, m7, m8, rfl, rfl, f4, rfl, g0⟩; refine At.run 3 rfl ?_; refine At.alloc rfl rfl rfl (fun g1 => ?_); refine At.store rfl rfl rfl rfl .z rfl rfl rfl (.c (.c (.c (.c .n)))) ?_; refine At.run 1 rfl (nT (sR 1 rfl (At.f7 (At.f7 ?_)))); refine At.f7 (At.f7 (At.f7 (At.f6 (At.f7 ?_)))); obtain ⟨x, g2, j⟩ := bbind j; refine At.call rfl Q95.callee rfl rfl rfl (Q95.spec f3 f4 rfl g0 rfl rfl rfl rfl g2) ?_; rintro _ _ ⟨a4, d4, m9, d5, rfl, rfl, d6, rfl, d7⟩; refine At.alloc rfl rfl rfl (fun N => ?_); refine At.store rfl rfl rfl rfl .z rfl rfl rfl (.c (.c (.c (.c .n)))) ?_; refine nT (At.seq (At.seq ?_)); refine At.quiet (by kernel_rfl) ?_; refine At.Quiet.run 3 rfl ?_; refine At.Quiet.y (Y.load rfl rfl (.s (.s .z)) rfl rfl rfl) rfl rfl rfl ?_; refine At.Quiet.run 1 rfl ?_; refine At.Quiet.y (Y.load rfl rfl .z rfl rfl rfl) rfl rfl rfl ?_; refine At.Quiet.y (Y.lookup (k := x.2.2.2.2.1) (z := false) (.s (.s (.s (.s (.s (.s (.s .z))))))) rfl rfl (KeyOk.str rfl rfl) (by kernel_rfl) rfl rfl rfl) rfl rfl rfl ?_; refine At.Quiet.run 2 rfl ?_; obtain ⟨g3, g4, n2, j⟩ := bjoin j; let L : HProp := pc N [i6 x.2.2.1, i6 x.2.2.2.1, .string ⟨(x.2.2.2.2.1).toArray⟩, i6 x.2.2.2.2.2] 115; let g5 : HProp := pc b0 [.slice d4 x.2.1.length d5, optp a4, i6 I, .slice A0_3 p.length c0_3, .slice A0_4 q.length c0_4, .slice A0_5 u.length c0_5, .slice A0_6 C.length c0_6, .map (some b0_7)] 113; let M : HProp := pc g1 [i6 E.2.2.2.1, i6 E.2.2.2.2.1, .string ⟨(E.2.2.2.2.2.1).toArray⟩, i6 E.2.2.2.2.2.2] 115; refine At.Quiet.joinO 7 (X := Bool) (fun O => [(0, bp b0), (5, i6 E.2.2.1), (6, bp N), (41, .bool O)]) (fun O => L :: optb (Ow.fl Q3.fl) 121 a4 x.1 :: g5 :: row Fl.bs 9 A0_3 p.length c0_3 p :: row Q6.fl 48 A0_4 q.length c0_4 q :: grow Q5.ow 41 A0_5 u.length c0_5 u :: row Q9.fl 169 A0_6 C.length c0_6 C :: mapo Fl.bs.ov Fl.bool.ov b0_7 G :: M :: J :: Fr) (fun O => g3 (.inl O) = some r) ?_ (fun d8 => ?_)
   ·rintro O j; have j := (g4 _).symm.trans j
    ·refine At.Quiet.nil (At.thn ?_); obtain ⟨g6, g7, n4, j⟩ := bjoin j; refine At.join (X := (Option Q3) × (Option Nat)) (fun s_ => [(0, bp b0), (5, i6 E.2.2.1), (6, bp N)]) (fun s_ => optb (Ow.fl Q3.fl) 121 s_.2 s_.1 :: pc b0 [.slice d4 x.2.1.length d5, optp s_.2, i6 I, .slice A0_3 p.length c0_3, .slice A0_4 q.length c0_4, .slice A0_5 u.length c0_5, .slice A0_6 C.length c0_6, .map (some b0_7)] 113 :: row Fl.bs 9 A0_3 p.length c0_3 p :: row Q6.fl 48 A0_4 q.length c0_4 q :: grow Q5.ow 41 A0_5 u.length c0_5 u :: row Q9.fl 169 A0_6 C.length c0_6 C :: mapo Fl.bs.ov Fl.bool.ov b0_7 G :: L :: M :: J :: Fr) (fun s_ => g6 (.inl s_.1) = some r) ?_ (fun d9 => ?_)
     ·rintro ⟨n5, g8⟩ j; have j := (g7 _).symm.trans j
      ·refine sR 1 rfl (At.f6 (At.f6 (At.f6 (At.f6 (At.f6 ?_))))); refine At.f5 (At.f6 ?_); obtain ⟨D, g9, j⟩ := bbind j; refine At.call rfl Q87.callee rfl rfl rfl (Q87.spec g8 d6 rfl d7 rfl rfl rfl rfl g9) ?_; rintro _ _ ⟨a5, a6, n6, a7, rfl, rfl, b6, rfl, b7⟩; refine At.run 3 rfl ?_; refine At.alloc rfl rfl rfl (fun e0 => ?_); refine At.store rfl rfl rfl rfl .z rfl rfl rfl (.c (.c (.c (.c .n)))) ?_; refine At.run 1 rfl (nT (sR 2 rfl ?_)); refine At.y (Y.load rfl rfl (.s (.s (.s (.s (.s (.s (.s (.s .z)))))))) rfl rfl rfl) rfl rfl rfl ?_; refine At.run 1 rfl ?_; refine At.y (Y.build (is := [0, 1, 2]) (xo := [.tmp 50, .tmp 52, .tmp 53]) (vs := [i6 E.2.2.1, .string ⟨(x.2.2.2.2.1).toArray⟩, i6 D.2.2.1]) (cs := [i6 E.2.2.1, .string ⟨(x.2.2.2.2.1).toArray⟩, i6 D.2.2.1]) rfl rfl rfl rfl rfl rfl) rfl rfl rfl ?_; refine At.alloc rfl rfl rfl (fun b8 => ?_); refine At.store rfl rfl rfl rfl .z rfl rfl rfl (.c (.c (.c .n))) ?_; refine nT (At.seq (At.seq ?_)); refine At.freeze (.s (.s (.s (.s (.s (.s (.s .z))))))) fun n7 h0 h1 h2 n8 h3 => ?_; refine At.quiet (by kernel_rfl) ?_; refine At.Quiet.run 3 rfl ?_; refine At.Quiet.y (Y.load rfl rfl (.s (.s (.s .z))) rfl rfl rfl) rfl rfl rfl ?_; refine At.Quiet.y (Y.eqOpt (.s (.s .z)) rfl rfl rfl rfl) rfl rfl rfl ?_; refine At.Quiet.run 1 rfl ?_; obtain ⟨h4, h5, n9, j⟩ := bjoin j; let a8 : HProp := pc b8 [i6 E.2.2.1, .string ⟨(x.2.2.2.2.1).toArray⟩, i6 D.2.2.1] 169; let a9 : HProp := pc e0 [i6 D.2.2.2.1, i6 D.2.2.2.2.1, .string ⟨(D.2.2.2.2.2.1).toArray⟩, i6 D.2.2.2.2.2.2] 115; let h6 : HProp := pc b0 [.slice a6 D.2.1.length a7, optp a5, i6 I, .slice A0_3 p.length c0_3, .slice A0_4 q.length c0_4, .slice A0_5 u.length c0_5, .slice A0_6 C.length c0_6, .map (some b0_7)] 113; refine At.Quiet.joinO 7 (X := Bool) (fun U => [(0, bp b0), (6, bp N), (7, bp e0), (9, bp b8), (67, .bool U)]) (fun U => a8 :: a9 :: optb (Ow.fl Q3.fl) 121 a5 D.1 :: h6 :: row Fl.bs 9 A0_3 p.length c0_3 p :: row Q6.fl 48 A0_4 q.length c0_4 q :: grow Q5.ow 41 A0_5 u.length c0_5 u :: mapo Fl.bs.ov Fl.bool.ov b0_7 G :: L :: M :: J :: Fr) (fun U => h4 (.inl U) = some r) ?_ (fun e1 => ?_)
       ·rintro U j; have j := (h5 _).symm.trans j
        ·refine At.Quiet.nil (At.thn ?_); refine At.thaw h3 ?_; obtain ⟨h7, h8, o0, j⟩ := bjoin j; refine At.join (X := (Option Q3) × (Option Nat)) (fun s_ => [(0, bp b0), (6, bp N), (9, bp b8)]) (fun s_ => optb (Ow.fl Q3.fl) 121 s_.2 s_.1 :: pc b0 [.slice a6 D.2.1.length a7, optp s_.2, i6 I, .slice A0_3 p.length c0_3, .slice A0_4 q.length c0_4, .slice A0_5 u.length c0_5, .slice A0_6 C.length c0_6, .map (some b0_7)] 113 :: row Fl.bs 9 A0_3 p.length c0_3 p :: row Q6.fl 48 A0_4 q.length c0_4 q :: grow Q5.ow 41 A0_5 u.length c0_5 u :: row Q9.fl 169 A0_6 C.length c0_6 C :: mapo Fl.bs.ov Fl.bool.ov b0_7 G :: a8 :: a9 :: L :: M :: J :: Fr) (fun s_ => h7 (.inl s_.1) = some r) ?_ (fun e2 => ?_)
         ·rintro ⟨o7, h9⟩ j; have j := (h8 _).symm.trans j
          ·refine sR 1 rfl (At.f6 (At.f6 (At.f6 (At.f6 (At.f6 ?_))))); refine At.f5 (At.f6 ?_); obtain ⟨e3, k0, j⟩ := bbind j; refine At.call rfl Q105.callee rfl rfl rfl (Q105.spec h9 b6 rfl b7 rfl rfl rfl rfl k0) ?_; rintro _ _ ⟨b2, rfl, rfl⟩; refine nT (At.seq ?_); refine At.still 6 (by kernel_rfl) ?_; refine At.Still.run 3 rfl ?_; refine At.Still.y (Y.load rfl rfl .z rfl rfl rfl) rfl rfl rfl ?_; refine At.Still.run 1 rfl ?_; refine At.Still.y (Y.load rfl rfl (.s (.s (.s (.s (.s (.s (.s (.s (.s .z))))))))) rfl rfl rfl) rfl rfl rfl ?_; refine At.Still.nil ?_; refine At.mapUpdate (k := x.2.2.2.2.1) (v := true) rfl (.s (.s (.s (.s (.s (.s .z)))))) rfl rfl (KeyOk.str rfl rfl) rfl rfl rfl rfl rfl ?_; refine nT ?_; refine At.held [mapo Fl.bs.ov Fl.bool.ov b0_7 (mset G x.2.2.2.2.1 true), optb (Ow.fl Q3.fl) 121 b2 e3, row Fl.bs 9 A0_3 p.length c0_3 p, row Q6.fl 48 A0_4 q.length c0_4 q, grow Q5.ow 41 A0_5 u.length c0_5 u, a8, a9, L, M, J] 11 rfl ?_; refine At.H.pw 0 rfl rfl rfl rfl rfl (.c .z (.c (.s .z) (.c (.s .z) (.c (.s .z) (.c (.s .z) (.c (.s (.s .z)) (.c (.s (.s .z)) (.c (.s (.s .z)) (.c (.s (.s .z)) (.c (.s (.s .z)) .n)))))))))) ?_; refine At.H.pw 1 rfl rfl rfl rfl rfl (.c .z (.c (.s .z) (.c (.s .z) (.c (.s .z) (.c (.s .z) (.c (.s (.s .z)) (.c (.s (.s .z)) (.c (.s (.s .z)) (.c (.s (.s .z)) (.c (.s (.s .z)) .n)))))))))) ?_; refine At.H.pw 2 rfl rfl rfl rfl rfl (.c .z (.c (.s .z) (.c (.s .z) (.c (.s .z) (.c (.s .z) (.c (.s (.s .z)) (.c (.s (.s .z)) (.c (.s (.s .z)) (.c (.s (.s .z)) (.c (.s (.s .z)) .n)))))))))) ?_; refine At.H.pw 3 rfl rfl rfl rfl rfl (.c .z (.c (.s .z) (.c (.s .z) (.c (.s .z) (.c (.s .z) (.c (.s (.s .z)) (.c (.s (.s .z)) (.c (.s (.s .z)) (.c (.s (.s .z)) (.c (.s (.s .z)) .n)))))))))) ?_; refine At.H.tw 5 rfl (Y.load rfl rfl (.s (.s (.s (.s (.s .z))))) rfl rfl rfl) rfl rfl rfl (.c .z (.c (.s .z) (.c (.s .z) (.c (.s .z) (.c (.s .z) (.c (.s (.s .z)) (.c (.s (.s .z)) (.c (.s (.s .z)) (.c (.s (.s .z)) (.c (.s (.s .z)) .n)))))))))) ?_; obtain ⟨e4, j⟩ := bnone j; let k1 : HProp := mapo Fl.bs.ov Fl.bool.ov b0_7 (mset G x.2.2.2.2.1 true); refine At.H.joinK (X := (Option Addr) × Nat) (fun s_ => []) (fun s_ => pc b0 [.slice a6 D.2.1.length a7, optp b2, i6 I, .slice A0_3 p.length c0_3, .slice A0_4 q.length c0_4, .slice A0_5 u.length c0_5, .slice s_.1 ((C ++ ([(⟨E.2.2.1, x.2.2.2.2.1, D.2.2.1⟩ : Q9)] : List Q9)).length) s_.2, .map (some b0_7)] 113 :: row Q9.fl 169 s_.1 ((C ++ ([(⟨E.2.2.1, x.2.2.2.2.1, D.2.2.1⟩ : Q9)] : List Q9)).length) s_.2 (C ++ ([(⟨E.2.2.1, x.2.2.2.2.1, D.2.2.1⟩ : Q9)] : List Q9)) :: k1 :: optb (Ow.fl Q3.fl) 121 b2 e3 :: row Fl.bs 9 A0_3 p.length c0_3 p :: row Q6.fl 48 A0_4 q.length c0_4 q :: grow Q5.ow 41 A0_5 u.length c0_5 u :: a8 :: a9 :: L :: M :: J :: Fr) (fun s_ => True) ?_ (fun e5 => ?_)
           ·rintro ⟨k2, k3⟩ -
            ·refine At.drop (.s (.s (.s (.s (.s (.s (.s .z))))))) (At.drop (.s (.s (.s (.s (.s (.s (.s .z))))))) (At.drop (.s (.s (.s (.s (.s (.s (.s .z))))))) (At.drop (.s (.s (.s (.s (.s (.s (.s .z))))))) (At.drop (.s (.s (.s (.s (.s (.s (.s .z))))))) (At.f2 (At.f2 (At.f6 ?_))))))); refine At.f6 (At.f6 (At.f5 (At.f6 ?_))); cases bret j; exact At.res (.inr rfl) rfl rfl ⟨(C ++ ([(⟨E.2.2.1, x.2.2.2.2.1, D.2.2.1⟩ : Q9)] : List Q9)).length, k2, k3, b2, a6, D.2.1.length, a7, rfl, rfl, rfl, b6, rfl, b7⟩
           ·refine At.H.al [4, 6] (Q7 ?_ (Q7 ?_ Q8))
            ··refine At.HO.op rfl ?_
              refine At.y (Y.load rfl rfl (.s .z) rfl rfl rfl) rfl rfl rfl ?_; refine At.HO.back (.c .z (.c (.s .z) (.c (.s .z) (.c (.s .z) (.c (.s .z) (.c (.s (.s .z)) (.c (.s (.s .z)) (.c (.s (.s .z)) (.c (.s (.s .z)) (.c (.s (.s .z)) .n)))))))))) ?_; refine At.H.al [6] (Q7 ?_ Q8)
              ··refine At.HO.op rfl ?_
                refine At.lit rfl (xo := [.tmp 84]) (ys := ([(⟨E.2.2.1, x.2.2.2.2.1, D.2.2.1⟩ : Q9)] : List Q9)) Q9.fl rfl rfl rfl rfl rfl rfl rfl rfl rfl rfl rfl (fun o8 o9 => ?_); refine At.HO.back (.c (.s .z) (.c (.s (.s .z)) (.c (.s (.s .z)) (.c (.s (.s .z)) (.c (.s (.s .z)) (.c (.s (.s (.s .z))) (.c (.s (.s (.s .z))) (.c (.s (.s (.s .z))) (.c (.s (.s (.s .z))) (.c (.s (.s (.s .z))) .n)))))))))) ?_; refine At.H.al [7] (Q7 ?_ Q8)
                ··refine At.HO.op rfl ?_
                  refine At.append rfl (.s (.s (.s (.s (.s (.s (.s .z))))))) (Src.own .z (by simp)) rfl rfl rfl rfl rfl rfl rfl rfl e4 (by decide) rfl (fun k4 k5 => ?_); refine At.drop (.s .z) ?_; refine At.HO.back (.c (.s .z) (.c (.s (.s .z)) (.c (.s (.s .z)) (.c (.s (.s .z)) (.c (.s (.s .z)) (.c (.s (.s .z)) (.c (.s (.s .z)) (.c (.s (.s .z)) (.c (.s (.s .z)) (.c (.s (.s .z)) .n)))))))))) ?_; refine At.H.pw 8 rfl rfl rfl rfl rfl (.c (.s .z) (.c (.s (.s .z)) (.c (.s (.s .z)) (.c (.s (.s .z)) (.c (.s (.s .z)) (.c (.s (.s .z)) (.c (.s (.s .z)) (.c (.s (.s .z)) (.c (.s (.s .z)) (.c (.s (.s .z)) .n)))))))))) ?_; refine At.H.pw 9 rfl rfl rfl rfl rfl (.c (.s .z) (.c (.s (.s .z)) (.c (.s (.s .z)) (.c (.s (.s .z)) (.c (.s (.s .z)) (.c (.s (.s .z)) (.c (.s (.s .z)) (.c (.s (.s .z)) (.c (.s (.s .z)) (.c (.s (.s .z)) .n)))))))))) ?_; refine At.H.al [10] (Q7 ?_ Q8)
                  ··refine At.HO.op rfl ?_
                    refine At.store rfl rfl rfl rfl (.s (.s .z)) rfl rfl rfl (.s (.s (.s (.s (.s (.s (.c .n))))))) ?_; refine At.HO.back (.c (.s (.s .z)) (.c (.s (.s .z)) (.c (.s (.s .z)) (.c (.s (.s .z)) (.c (.s (.s .z)) (.c (.s (.s .z)) (.c (.s (.s .z)) (.c (.s (.s .z)) (.c (.s (.s .z)) (.c (.s (.s .z)) .n)))))))))) ?_; refine At.H.done (by kernel_rfl) ?_; exact At.of (e5 (k4, k5) trivial) trivial
            ··refine At.HO.op rfl ?_
              refine At.lit rfl (xo := [.tmp 84]) (ys := ([(⟨E.2.2.1, x.2.2.2.2.1, D.2.2.1⟩ : Q9)] : List Q9)) Q9.fl rfl rfl rfl rfl rfl rfl rfl rfl rfl rfl rfl (fun p0 p1 => ?_); refine At.HO.back (.c (.s .z) (.c (.s (.s .z)) (.c (.s (.s .z)) (.c (.s (.s .z)) (.c (.s (.s .z)) (.c (.s (.s (.s .z))) (.c (.s (.s (.s .z))) (.c (.s (.s (.s .z))) (.c (.s (.s (.s .z))) (.c (.s (.s (.s .z))) .n)))))))))) ?_; refine At.H.al [4] (Q7 ?_ Q8)
              ··refine At.HO.op rfl ?_
                refine At.y (Y.load rfl rfl (.s (.s .z)) rfl rfl rfl) rfl rfl rfl ?_; refine At.HO.back (.c (.s .z) (.c (.s (.s .z)) (.c (.s (.s .z)) (.c (.s (.s .z)) (.c (.s (.s .z)) (.c (.s (.s (.s .z))) (.c (.s (.s (.s .z))) (.c (.s (.s (.s .z))) (.c (.s (.s (.s .z))) (.c (.s (.s (.s .z))) .n)))))))))) ?_; refine At.H.al [7] (Q7 ?_ Q8)
                ··refine At.HO.op rfl ?_
                  refine At.append rfl (.s (.s (.s (.s (.s (.s (.s .z))))))) (Src.own .z (by simp)) rfl rfl rfl rfl rfl rfl rfl rfl e4 (by decide) rfl (fun k6 k7 => ?_); refine At.drop (.s .z) ?_; refine At.HO.back (.c (.s .z) (.c (.s (.s .z)) (.c (.s (.s .z)) (.c (.s (.s .z)) (.c (.s (.s .z)) (.c (.s (.s .z)) (.c (.s (.s .z)) (.c (.s (.s .z)) (.c (.s (.s .z)) (.c (.s (.s .z)) .n)))))))))) ?_; refine At.H.pw 8 rfl rfl rfl rfl rfl (.c (.s .z) (.c (.s (.s .z)) (.c (.s (.s .z)) (.c (.s (.s .z)) (.c (.s (.s .z)) (.c (.s (.s .z)) (.c (.s (.s .z)) (.c (.s (.s .z)) (.c (.s (.s .z)) (.c (.s (.s .z)) .n)))))))))) ?_; refine At.H.pw 9 rfl rfl rfl rfl rfl (.c (.s .z) (.c (.s (.s .z)) (.c (.s (.s .z)) (.c (.s (.s .z)) (.c (.s (.s .z)) (.c (.s (.s .z)) (.c (.s (.s .z)) (.c (.s (.s .z)) (.c (.s (.s .z)) (.c (.s (.s .z)) .n)))))))))) ?_; refine At.H.al [10] (Q7 ?_ Q8)
                  ··refine At.HO.op rfl ?_
                    refine At.store rfl rfl rfl rfl (.s (.s .z)) rfl rfl rfl (.s (.s (.s (.s (.s (.s (.c .n))))))) ?_; refine At.HO.back (.c (.s (.s .z)) (.c (.s (.s .z)) (.c (.s (.s .z)) (.c (.s (.s .z)) (.c (.s (.s .z)) (.c (.s (.s .z)) (.c (.s (.s .z)) (.c (.s (.s .z)) (.c (.s (.s .z)) (.c (.s (.s .z)) .n)))))))))) ?_; refine At.H.done (by kernel_rfl) ?_; exact At.of (e5 (k6, k7) trivial) trivial
         ··rcases bite j with ⟨b9, j⟩ | ⟨b9, j⟩
           ··refine At.condT rfl b9 ?_
             refine At.region (At.run 1 rfl (At.y (Y.load rfl rfl (.s (.s .z)) rfl rfl rfl) rfl rfl rfl (At.f8 (At.f1 (At.f8 (At.f8 (At.f8 ?_))))))); refine At.f7 (At.f8 ?_); obtain ⟨k8, k9, j⟩ := bbind j; refine At.call rfl Q15.callee rfl rfl rfl (Q15.spec a5 b6 rfl b7 rfl rfl rfl rfl k9) ?_; rintro _ _ ⟨l5, rfl, rfl⟩; refine nT ?_; exact fun a w e hs => e2 (k8, l5) j a w (e.sub ⟨rfl, rfl, rfl, trivial⟩) hs
           ··refine At.condF rfl (bn b9) ?_
             refine At.skip (At.thn (At.f11 (At.f11 (At.f11 (At.f5 (At.f5 (At.f11 ?_))))))); refine At.f6 (At.f11 (At.f11 (At.f11 (At.f11 (At.f11 ?_))))); exact fun a w e hs => e2 (D.1, a5) j a w (e.sub ⟨rfl, rfl, rfl, trivial⟩) hs
       ··rcases bite j with ⟨c4, j⟩ | ⟨c4, j⟩
         ··refine At.Quiet.know (t := 60) rfl c4 ?_
           refine At.Quiet.run 3 rfl ?_; refine At.Quiet.y (Y.load rfl rfl (.s (.s (.s .z))) rfl rfl rfl) rfl rfl rfl ?_; refine At.Quiet.y (Y.load rfl rfl .z rfl rfl rfl) rfl rfl rfl ?_; obtain ⟨l6, l7, j⟩ := bbind j; refine At.Quiet.call rfl Q134.callee rfl rfl rfl (Q134.spec h0 h1 h2 l7) (fun _ _ h_ => ⟨h_.1, fun _ hs => h_.2 ▸ hs⟩) ?_; refine At.Quiet.run 1 rfl ?_; exact At.Quiet.of (e1 l6 j) ⟨rfl, rfl, rfl, rfl, rfl, trivial⟩
         ··refine At.Quiet.know (t := 60) rfl (bn c4) ?_
           refine At.Quiet.run 7 rfl ?_; exact At.Quiet.of (e1 false j) ⟨rfl, rfl, rfl, rfl, rfl, trivial⟩
     ··rcases bite j with ⟨c5, j⟩ | ⟨c5, j⟩
       ··refine At.condT rfl c5 ?_
         refine At.region (At.run 1 rfl (At.y (Y.load rfl rfl .z rfl rfl rfl) rfl rfl rfl (At.f7 (At.f7 (At.f7 (At.f7 (At.f7 ?_))))))); refine At.f6 (At.f7 ?_); obtain ⟨l8, l9, j⟩ := bbind j; refine At.call rfl Q15.callee rfl rfl rfl (Q15.spec a4 d6 rfl d7 rfl rfl rfl rfl l9) ?_; rintro _ _ ⟨m0, rfl, rfl⟩; refine nT ?_; exact fun a w e hs => d9 (l8, m0) j a w (e.sub ⟨rfl, rfl, rfl, trivial⟩) hs
       ··refine At.condF rfl (bn c5) ?_
         refine At.skip (At.thn (At.f9 (At.f9 (At.f2 (At.f9 (At.f9 (At.f9 ?_))))))); refine At.f9 (At.f9 (At.f9 (At.f9 ?_))); exact fun a w e hs => d9 (x.1, a4) j a w (e.sub ⟨rfl, rfl, rfl, trivial⟩) hs
   ··rcases bite j with ⟨c6, j⟩ | ⟨c6, j⟩
     ··refine At.Quiet.know (t := 34) rfl (nf c6) ?_
       refine At.Quiet.run 7 rfl ?_; exact At.Quiet.of (d8 false j) ⟨rfl, rfl, rfl, rfl, trivial⟩
     ··refine At.Quiet.know (t := 34) rfl (nt (bn c6)) ?_
       refine At.Quiet.run 3 rfl ?_; refine At.Quiet.y (Y.load rfl rfl (.s (.s .z)) rfl rfl rfl) rfl rfl rfl ?_; refine At.Quiet.y (Y.lenMap (.s (.s (.s (.s (.s (.s (.s .z))))))) rfl rfl rfl) rfl rfl rfl ?_; refine At.Quiet.run 2 rfl ?_; exact At.Quiet.of (d8 (decide (8 ≤ (G.length : Int))) j) ⟨rfl, rfl, rfl, rfl, trivial⟩
 ··rcases bite j with ⟨c7, j⟩ | ⟨c7, j⟩
   ··refine At.condT rfl (decide_eq_true c7) ?_
     refine At.region (At.run 1 rfl (At.y (Y.load rfl rfl .z rfl rfl rfl) rfl rfl rfl (At.f7 (At.f7 (At.f7 (At.f7 (At.f7 ?_))))))); refine At.f7 (At.f7 ?_); obtain ⟨m1, m2, j⟩ := bbind j; refine At.call rfl Q15.callee rfl rfl rfl (Q15.spec a3 hr0_0 rfl hc0_0 rfl rfl rfl rfl m2) ?_; rintro _ _ ⟨m3, rfl, rfl⟩; refine nT ?_; exact fun a w e hs => d3 (m1, m3) j a w (e.sub ⟨rfl, trivial⟩) hs
   ··refine At.condF rfl (decide_eq_false c7) ?_
     refine At.skip (At.thn (At.f7 (At.f7 (At.f7 (At.f7 (At.f7 (At.f6 ?_))))))); refine At.f7 ?_; exact fun a w e hs => d3 (b3, a3) j a w (e.sub ⟨rfl, trivial⟩) hs

noncomputable def Q125.f (p : Bs) (u : List Int) (x C : Int) (q : Bs) (D : Int) : Option Bool :=
 some (bseq p q)
theorem Q125.callee : Callee Tryz.prog 115 := ⟨_, Tryz.func115, by kernel_rfl, by kernel_rfl⟩
theorem Q125.spec {q u : Bs} {p : List Int} {x C D : Int} (hr0_1 : RdS (Fl.int .i64).rep R.heap A0_1 p) (hn0_1 : p.length = n0_1) (hc0_1 : n0_1 ≤ c0_1) {r : Bool} (j : Q125.f q p x C u D = some r) :
 Spec Tryz.prog 115 [.agg #[.string ⟨(q).toArray⟩, .slice A0_1 n0_1 c0_1], bp b1] R (pc b1 [i6 x, i6 C, .string ⟨(u).toArray⟩, i6 D] 115 :: Fr) (fun v l' => v = .bool r ∧ pc b1 [i6 x, i6 C, .string ⟨(u).toArray⟩, i6 D] 115 :: Fr = l') := by
 subst hn0_1; refine Spec.of Tryz.func115 rfl rfl ?_; unfold Q125.f at j; have j := brun j; refine At.seq (At.region ?_); refine At.box rfl rfl (cs := [.string ⟨(q).toArray⟩, .slice A0_1 p.length c0_1]) rfl rfl (fun E => ?_); refine At.run 1 rfl (nT (sR 1 rfl (At.y (Y.load rfl rfl .z rfl rfl rfl) rfl rfl rfl (At.run 1 rfl ?_)))); refine At.y (Y.load rfl rfl (.s .z) rfl rfl rfl) rfl rfl rfl (At.run 2 rfl (nT (At.ret (At.drop .z ?_)))); cases bret j; exact At.res (.inl rfl) rfl rfl ⟨rfl, rfl⟩

noncomputable def Q66.l0b (a0 : List Q5) (a1_c0_0 a1_c0_1 : Int) (a1_c0_2 : Bs) (a1_c0_3 p : Int) : Option ((Int) ⊕ ((Unit) ⊕ (Int))) :=
 if p < (a0.length : Int) then
 if (0 : Int) ≤ p ∧ p < (a0.length : Int) then
 (Q125.f ((gt a0 p).Name) ((gt a0 p).States) a1_c0_0 a1_c0_1 a1_c0_2 a1_c0_3).bind fun q =>
 if q = true then
 upL (some p)
 else
 nx (IntKind.i64.wrap (p + 1))
 else none
 else
 dn (.inl ())
noncomputable def Q66.l0 (a0 : List Q5) (a1_c0_0 a1_c0_1 : Int) (a1_c0_2 : Bs) (a1_c0_3 p : Int) : Option ((Unit) ⊕ (Int)) := iter (fun t_ : Int => Q66.l0b a0 a1_c0_0 a1_c0_1 a1_c0_2 a1_c0_3 t_) p
noncomputable def Q66.f (a0 : List Q5) (a1_c0_0 a1_c0_1 : Int) (a1_c0_2 : Bs) (a1_c0_3 : Int) : Option Int :=
 jn (Q66.l0 a0 a1_c0_0 a1_c0_1 a1_c0_2 a1_c0_3 0) (fun (_ : Unit) =>
 some (-1))
theorem Q66.callee : Callee Tryz.prog 148 := ⟨_, Tryz.func148, by kernel_rfl, by kernel_rfl⟩
theorem Q66.spec {a0 : List Q5} {a1_c0_0 a1_c0_1 a1_c0_3 : Int} {a1_c0_2 : Bs} (hr0 : RdS Q5.rep R.heap A0 a0) (hn0 : a0.length = n0) (hc0 : n0 ≤ c0) {r : Int} (j : Q66.f a0 a1_c0_0 a1_c0_1 a1_c0_2 a1_c0_3 = some r) :
 Spec Tryz.prog 148 [.slice A0 n0 c0, .func (.func 115) #[] #[bp b1_c0]] R (pc b1_c0 [i6 a1_c0_0, i6 a1_c0_1, .string ⟨(a1_c0_2).toArray⟩, i6 a1_c0_3] 115 :: Fr) (fun v l' => v = i6 r ∧ pc b1_c0 [i6 a1_c0_0, i6 a1_c0_1, .string ⟨(a1_c0_2).toArray⟩, i6 a1_c0_3] 115 :: Fr = l') := by
 subst hn0; refine Spec.of Tryz.func148 rfl rfl ?_; unfold Q66.f at j; have j := brun j; refine sR 1 rfl (nT (At.seq (At.seq (At.region ?_)))); refine At.run 3 rfl (nT ?_); refine At.block ?_; obtain ⟨L, M, N, j⟩ := bjoin j; obtain ⟨G, x, I⟩ := bsome j; clear j; unfold Q66.l0 at x; obtain ⟨C, q⟩ := Q14.1 x; clear x; let J : HProp := pc b1_c0 [i6 a1_c0_0, i6 a1_c0_1, .string ⟨(a1_c0_2).toArray⟩, i6 a1_c0_3] 115; refine At.loopJ (X := Int) (Y := Unit) (e0 := 0) (fun p => [(0, .slice A0 a0.length c0), (1, .func (.func 115) #[] #[bp b1_c0]), (7, i6 (a0.length : Int)), (8, i6 p)]) (fun p => J :: Fr) (fun m_ => fun p => iterN (fun t_ : Int => Q66.l0b a0 a1_c0_0 a1_c0_1 a1_c0_2 a1_c0_3 t_) m_ p = some G) C 0 q (fun _ => []) (fun _ => J :: Fr) (fun _ => L (.inl ()) = some r) (fun a w e hs => ⟨e.sub ⟨rfl, rfl, rfl, rfl, trivial⟩, (by exact hs)⟩) ?_ (fun O => ?_)
 ·rintro _ j; have j := (M _).symm.trans j
  ·refine At.ibx ?_; refine At.thn (sR 1 rfl (nT (At.ret ?_))); cases bret j; exact At.res (.inl rfl) rfl rfl ⟨rfl, rfl⟩
 ·clear q C; rintro C p q; obtain ⟨U, f_, V, hf_, j⟩ := bit q; clear q; have j : (Q66.l0b a0 a1_c0_0 a1_c0_1 a1_c0_2 a1_c0_3 p).bind _ = some G := j; unfold Q66.l0b at j
  ·refine sR 1 rfl (nT (At.seq ?_)); rcases bite j with ⟨D, j⟩ | ⟨D, j⟩
   ··refine At.condT rfl (decide_eq_true D) ?_
     refine At.skip (At.thn (At.seq ?_)); refine At.block ?_; refine sR 2 rfl (nT (sR 3 rfl ?_)); obtain ⟨u, j⟩ := bnone j; refine At.y (Y.ixRd hr0 rfl rfl rfl rfl rfl rfl rfl u.1 u.2) rfl rfl rfl ?_; obtain ⟨a5, Z, a1⟩ := RdS.whole (P := Tryz.prog) hr0 (Sub.refl _) rfl u.1 u.2; obtain ⟨_, _, rfl, rfl, ⟨a6, a7, rfl, a2, a3⟩⟩ := Z; refine At.y (a1 rfl rfl rfl rfl) rfl rfl rfl ?_; obtain ⟨a8, a4, j⟩ := bbind j; refine At.call rfl Q125.callee rfl rfl rfl (Q125.spec a3 rfl a2 a4) ?_; rintro _ _ ⟨rfl, rfl⟩; refine nT ?_; rcases bite j with ⟨E, j⟩ | ⟨E, j⟩
     ··refine At.condT rfl E ?_
       refine sR 2 rfl (nT (At.ret ?_)); refine At.ibr ?_; refine At.thr ?_; have j := bupL N I j; refine At.thr ?_; refine At.ibr ?_; refine At.thr ?_; cases bret j; exact At.res (.inl rfl) rfl rfl ⟨rfl, rfl⟩
     ··refine At.condF rfl (bn E) ?_
       refine At.skip ?_; refine At.ibn ?_; refine At.thn (At.region (At.run 2 rfl (At.nil ?_))); have j := bnx hf_ j; exact fun a w e hs => ⟨U, (IntKind.i64.wrap (p + 1)), V, j, e.sub ⟨rfl, rfl, rfl, rfl, trivial⟩, hs⟩
   ··refine At.condF rfl (decide_eq_false D) ?_
     refine At.exit ?_; refine At.the ?_; refine At.the ?_; exact fun a w e hs => O () (bdn j I) a w (e.sub trivial) hs

noncomputable def Q120.f (a0 : List Q5) (a1_c0_0 a1_c0_1 : Int) (a1_c0_2 : Bs) (a1_c0_3 : Int) : Option Bool :=
 (Q66.f a0 a1_c0_0 a1_c0_1 a1_c0_2 a1_c0_3).bind fun p =>
 some (decide (0 ≤ p))
theorem Q120.callee : Callee Tryz.prog 114 := ⟨_, Tryz.func114, by kernel_rfl, by kernel_rfl⟩
theorem Q120.spec {a0 : List Q5} {a1_c0_0 a1_c0_1 a1_c0_3 : Int} {a1_c0_2 : Bs} (hr0 : RdS Q5.rep R.heap A0 a0) (hn0 : a0.length = n0) (hc0 : n0 ≤ c0) {r : Bool} (j : Q120.f a0 a1_c0_0 a1_c0_1 a1_c0_2 a1_c0_3 = some r) :
 Spec Tryz.prog 114 [.slice A0 n0 c0, .func (.func 115) #[] #[bp b1_c0]] R (pc b1_c0 [i6 a1_c0_0, i6 a1_c0_1, .string ⟨(a1_c0_2).toArray⟩, i6 a1_c0_3] 115 :: Fr) (fun v l' => v = .bool r ∧ pc b1_c0 [i6 a1_c0_0, i6 a1_c0_1, .string ⟨(a1_c0_2).toArray⟩, i6 a1_c0_3] 115 :: Fr = l') := by
 subst hn0; refine Spec.of Tryz.func114 rfl rfl ?_; unfold Q120.f at j; have j := brun j; refine sR 1 rfl (nT (sR 2 rfl ?_)); obtain ⟨q, p, j⟩ := bbind j; refine At.call rfl Q66.callee rfl rfl rfl (Q66.spec hr0 rfl hc0 p) ?_; rintro _ _ ⟨rfl, rfl⟩; refine At.run 2 rfl (nT (At.ret ?_)); cases bret j; exact At.res (.inl rfl) rfl rfl ⟨rfl, rfl⟩

noncomputable def Q69.l0b (a0 : List Int) (a1 p : Int) : Option ((Int) ⊕ ((Unit) ⊕ (Int))) :=
 if p < (a0.length : Int) then
 if (0 : Int) ≤ p ∧ p < (a0.length : Int) then
 if a1 = gt a0 p then
 upL (some p)
 else
 nx (IntKind.i64.wrap (p + 1))
 else none
 else
 dn (.inl ())
noncomputable def Q69.l0 (a0 : List Int) (a1 p : Int) : Option ((Unit) ⊕ (Int)) := iter (fun t_ : Int => Q69.l0b a0 a1 t_) p
noncomputable def Q69.f (a0 : List Int) (a1 : Int) : Option Int :=
 jn (Q69.l0 a0 a1 0) (fun (_ : Unit) =>
 some (-1))
theorem Q69.callee : Callee Tryz.prog 149 := ⟨_, Tryz.func149, by kernel_rfl, by kernel_rfl⟩
theorem Q69.spec {a0 : List Int} {a1 : Int} (hr0 : RdS (Fl.int .i64).rep R.heap A0 a0) (hn0 : a0.length = n0) (hc0 : n0 ≤ c0) {r : Int} (j : Q69.f a0 a1 = some r) :
 Spec Tryz.prog 149 [.slice A0 n0 c0, i6 a1] R (Fr) (fun v l' => v = i6 r ∧ Fr = l') := by
 subst hn0; refine Spec.of Tryz.func149 rfl rfl ?_; unfold Q69.f at j; have j := brun j; refine sR 1 rfl (nT (At.seq (At.seq (At.region ?_)))); refine At.run 3 rfl (nT ?_); refine At.block ?_; obtain ⟨L, M, N, j⟩ := bjoin j; obtain ⟨I, C, J⟩ := bsome j; clear j; unfold Q69.l0 at C; obtain ⟨D, u⟩ := Q14.1 C; clear C; refine At.loopJ (X := Int) (Y := Unit) (e0 := 0) (fun p => [(0, .slice A0 a0.length c0), (1, i6 a1), (7, i6 (a0.length : Int)), (8, i6 p)]) (fun p => Fr) (fun m_ => fun p => iterN (fun t_ : Int => Q69.l0b a0 a1 t_) m_ p = some I) D 0 u (fun _ => []) (fun _ => Fr) (fun _ => L (.inl ()) = some r) (fun a w e hs => ⟨e.sub ⟨rfl, rfl, rfl, rfl, trivial⟩, (by exact hs)⟩) ?_ (fun O => ?_)
 ·rintro _ j; have j := (M _).symm.trans j
  ·refine At.ibx ?_; refine At.thn (sR 1 rfl (nT (At.ret ?_))); cases bret j; exact At.res (.inl rfl) rfl rfl ⟨rfl, rfl⟩
 ·clear u D; rintro D p u; obtain ⟨U, f_, V, hf_, j⟩ := bit u; clear u; have j : (Q69.l0b a0 a1 p).bind _ = some I := j; unfold Q69.l0b at j
  ·refine sR 1 rfl (nT (At.seq ?_)); rcases bite j with ⟨E, j⟩ | ⟨E, j⟩
   ··refine At.condT rfl (decide_eq_true E) ?_
     refine At.skip (At.thn (At.seq ?_)); refine At.block ?_; refine sR 2 rfl (nT (sR 3 rfl ?_)); obtain ⟨x, j⟩ := bnone j; refine At.y (Y.ixRd hr0 rfl rfl rfl rfl rfl rfl rfl x.1 x.2) rfl rfl rfl (At.y (Y.ldFl hr0 rfl (q := 0) rfl rfl x.1 x.2 rfl rfl rfl) rfl rfl rfl (At.run 1 rfl (nT ?_))); rcases bite j with ⟨G, j⟩ | ⟨G, j⟩
     ··refine At.condT rfl (decide_eq_true G) ?_
       refine sR 2 rfl (nT (At.ret ?_)); refine At.ibr ?_; refine At.thr ?_; have j := bupL N J j; refine At.thr ?_; refine At.ibr ?_; refine At.thr ?_; cases bret j; exact At.res (.inl rfl) rfl rfl ⟨rfl, rfl⟩
     ··refine At.condF rfl (decide_eq_false G) ?_
       refine At.skip ?_; refine At.ibn ?_; refine At.thn (At.region (At.run 2 rfl (At.nil ?_))); have j := bnx hf_ j; exact fun a w e hs => ⟨U, (IntKind.i64.wrap (p + 1)), V, j, e.sub ⟨rfl, rfl, rfl, rfl, trivial⟩, hs⟩
   ··refine At.condF rfl (decide_eq_false E) ?_
     refine At.exit ?_; refine At.the ?_; refine At.the ?_; exact fun a w e hs => O () (bdn j J) a w (e.sub trivial) hs

noncomputable def Q143.f (a0 : List Int) (a1 : Int) : Option Bool :=
 (Q69.f a0 a1).bind fun p =>
 some (decide (0 ≤ p))
theorem Q143.callee : Callee Tryz.prog 117 := ⟨_, Tryz.func117, by kernel_rfl, by kernel_rfl⟩
theorem Q143.spec {a0 : List Int} {a1 : Int} (hr0 : RdS (Fl.int .i64).rep R.heap A0 a0) (hn0 : a0.length = n0) (hc0 : n0 ≤ c0) {r : Bool} (j : Q143.f a0 a1 = some r) :
 Spec Tryz.prog 117 [.slice A0 n0 c0, i6 a1] R (Fr) (fun v l' => v = .bool r ∧ Fr = l') := by
 subst hn0; refine Spec.of Tryz.func117 rfl rfl ?_; unfold Q143.f at j; have j := brun j; refine sR 1 rfl (nT (sR 2 rfl ?_)); obtain ⟨q, p, j⟩ := bbind j; refine At.call rfl Q69.callee rfl rfl rfl (Q69.spec hr0 rfl hc0 p) ?_; rintro _ _ ⟨rfl, rfl⟩; refine At.run 2 rfl (nT (At.ret ?_)); cases bret j; exact At.res (.inl rfl) rfl rfl ⟨rfl, rfl⟩

noncomputable def Q49.f (a0 : List Int) : Option (List Int) := if a0.length < 4611686018427387904 then some (a0.mergeSort fun x y => decide (x ≤ y)) else none
theorem Q49.callee : Callee Tryz.prog 118 := ⟨_, Tryz.func118, by kernel_rfl, by kernel_rfl⟩
theorem Q49.spec {a0 : List Int} (hn0 : a0.length = n0) {r : List Int} (j : Q49.f a0 = some r) :
 Spec Tryz.prog 118 [.slice A0 n0 c0] R (row (Fl.int .i64) 3 A0 n0 c0 a0 :: Fr) (fun v l' => v = .tuple #[] ∧ row (Fl.int .i64) 3 A0 n0 c0 r :: Fr = l') := by
 unfold Q49.f at j; split at j
 ·rename_i hb; cases j; exact Q244 Tryz.sort118 R Fr hb
 ·cases j

noncomputable def Q36.l0b (x : Int) (C : List Bs) (D : List Q6) (E : List Q5) (G : List Q9) (I : List (Bs × Bool)) (q : List Int) (u : Option Q3) (J : List Q0) : Option (((List Int) × (Option Q3) × (List Q0)) ⊕ (((Option Q3) × (List Int) × (List Q0)) ⊕ ((List Q5) × (Option Q3) × (List Q0)))) :=
 jn (
 if u.isNone = true then
 (Q112.f J u x C D E G I).bind fun L =>
 some (.inl (!L))
 else
 some (.inl false)) (fun (M : Bool) =>
 if M = true then
 (Q87.f J u x C D E G I).bind fun p =>
 jn (
 if p.1.isNone = true then
 (Q143.f q p.2.2.1).bind fun N =>
 some (.inl N)
 else
 some (.inl false)) (fun (O : Bool) =>
 jn (
 if O = true then
 (Q15.f p.2.1 p.1 x C D E G I p.2.2.2.1 p.2.2.2.2.1 p.2.2.2.2.2.1 p.2.2.2.2.2.2 9).bind fun U =>
 some (.inl U)
 else
 some (.inl p.1)) (fun (V : Option Q3) =>
 if (q.length + ([p.2.2.1] : List Int).length) * 8 ≤ 140737488355328 then
 nx ((q ++ ([p.2.2.1] : List Int)), V, p.2.1)
 else none))
 else
 dn (.inl (u, q, J)))
noncomputable def Q36.l0 (p : Int) (q : List Bs) (u : List Q6) (x : List Q5) (C : List Q9) (D : List (Bs × Bool)) (E : List Int) (G : Option Q3) (I : List Q0) : Option (((Option Q3) × (List Int) × (List Q0)) ⊕ ((List Q5) × (Option Q3) × (List Q0))) := iter (fun t_ : (List Int) × (Option Q3) × (List Q0) => Q36.l0b p q u x C D t_.1 t_.2.1 t_.2.2) (E, G, I)
noncomputable def Q36.f (G : List Q0) (I : Option Q3) (u : Int) (x : List Bs) (C : List Q6) (q : List Q5) (D : List Q9) (E : List (Bs × Bool)) : Option ((List Q5) × (Option Q3) × (List Q0)) :=
 (Q95.f G I u x C q D E).bind fun p =>
 jn (
 if p.1.isNone = true then
 if 8 ≤ (q.length : Int) then
 (Q15.f p.2.1 p.1 u x C q D E p.2.2.1 p.2.2.2.1 p.2.2.2.2.1 p.2.2.2.2.2 10).bind fun J =>
 some (.inl J)
 else
 (Q120.f q p.2.2.1 p.2.2.2.1 p.2.2.2.2.1 p.2.2.2.2.2).bind fun L =>
 if L = true then
 (Q15.f p.2.1 p.1 u x C q D E p.2.2.1 p.2.2.2.1 p.2.2.2.2.1 p.2.2.2.2.2 9).bind fun M =>
 some (.inl M)
 else
 some (.inl p.1)
 else
 up (some (q, p.1, p.2.1))) (fun (N : Option Q3) =>
 jn (Q36.l0 u x C q D E ([] : List Int) N p.2.1) (fun (s_ : (Option Q3) × (List Int) × (List Q0)) =>
 (Q49.f s_.2.1).bind fun O =>
 if (q.length + 1) * 40 ≤ 140737488355328 then
 some ((q ++ [(⟨p.2.2.2.2.1, O⟩ : Q5)]), s_.1, s_.2.2)
 else none))
theorem Q36.callee : Callee Tryz.prog 60 := ⟨_, Tryz.func60, by kernel_rfl, by kernel_rfl⟩
theorem Q36.spec {b8 : List Q0} {e6 : Option Q3} {G : Int} {q : List Bs} {u : List Q6} {p : List Q5} {x : List Q9} {J : List (Bs × Bool)} (b9 : Option Nat) (hr0_0 : RdS Q0.fl.rep R.heap A0_0 b8) (hn0_0 : b8.length = n0_0) (hc0_0 : n0_0 ≤ c0_0) (hn0_3 : q.length = n0_3) (hn0_4 : u.length = n0_4) (hn0_5 : p.length = n0_5) (hn0_6 : x.length = n0_6) {r : (List Q5) × (Option Q3) × (List Q0)} (j : Q36.f b8 e6 G q u p x J = some r) :
 Spec Tryz.prog 60 [bp b0] R (pc b0 [.slice A0_0 n0_0 c0_0, optp b9, i6 G, .slice A0_3 n0_3 c0_3, .slice A0_4 n0_4 c0_4, .slice A0_5 n0_5 c0_5, .slice A0_6 n0_6 c0_6, .map (some b0_7)] 113 :: optb (Ow.fl Q3.fl) 121 b9 e6 :: row Fl.bs 9 A0_3 n0_3 c0_3 q :: row Q6.fl 48 A0_4 n0_4 c0_4 u :: grow Q5.ow 41 A0_5 n0_5 c0_5 p :: row Q9.fl 169 A0_6 n0_6 c0_6 x :: mapo Fl.bs.ov Fl.bool.ov b0_7 J :: Fr) (fun v l' => ∃ (c4 : Nat) (e7 : Option Addr) (e8 : Nat) (e9 : Option Nat) (f0 : Option Addr) (c5 : Nat) (f4 : Nat), v = .tuple #[] ∧ optb (Ow.fl Q3.fl) 121 e9 r.2.1 :: pc b0 [.slice f0 c5 f4, optp e9, i6 G, .slice A0_3 n0_3 c0_3, .slice A0_4 n0_4 c0_4, .slice e7 c4 e8, .slice A0_6 n0_6 c0_6, .map (some b0_7)] 113 :: row Fl.bs 9 A0_3 n0_3 c0_3 q :: row Q6.fl 48 A0_4 n0_4 c0_4 u :: grow Q5.ow 41 e7 c4 e8 r.1 :: row Q9.fl 169 A0_6 n0_6 c0_6 x :: mapo Fl.bs.ov Fl.bool.ov b0_7 J :: Fr = l' ∧ r.1.length = c4 ∧ RdS Q0.fl.rep R.heap f0 r.2.2 ∧ r.2.2.length = c5 ∧ c5 ≤ f4) := by
 subst hn0_0; subst hn0_3; subst hn0_4; subst hn0_5; subst hn0_6; refine Spec.of Tryz.func60 rfl rfl ?_; unfold Q36.f at j; have j := brun j; refine sR 1 rfl ?_; obtain ⟨C, h5, j⟩ := bbind j; refine At.call rfl Q95.callee rfl rfl rfl (Q95.spec b9 hr0_0 rfl hc0_0 rfl rfl rfl rfl h5) ?_; rintro _ _ ⟨a8, c6, r3, c7, rfl, rfl, a9, rfl, b2⟩; refine At.alloc rfl rfl rfl (fun L => ?_); refine At.store rfl rfl rfl rfl .z rfl rfl rfl (.c (.c (.c (.c .n)))) ?_; refine nT (At.seq ?_); obtain ⟨h6, h7, h8, j⟩ := bjoin j; let I : HProp := pc L [i6 C.2.2.1, i6 C.2.2.2.1, .string ⟨(C.2.2.2.2.1).toArray⟩, i6 C.2.2.2.2.2] 115; refine At.join (X := (Option Q3) × (Option Nat)) (fun s_ => [(0, bp b0), (2, bp L)]) (fun s_ => optb (Ow.fl Q3.fl) 121 s_.2 s_.1 :: pc b0 [.slice c6 C.2.1.length c7, optp s_.2, i6 G, .slice A0_3 q.length c0_3, .slice A0_4 u.length c0_4, .slice A0_5 p.length c0_5, .slice A0_6 x.length c0_6, .map (some b0_7)] 113 :: row Fl.bs 9 A0_3 q.length c0_3 q :: row Q6.fl 48 A0_4 u.length c0_4 u :: grow Q5.ow 41 A0_5 p.length c0_5 p :: row Q9.fl 169 A0_6 x.length c0_6 x :: mapo Fl.bs.ov Fl.bool.ov b0_7 J :: I :: Fr) (fun s_ => h6 (.inl s_.1) = some r) ?_ (fun c8 => ?_)
 ·rintro ⟨h9, k0⟩ j; have j := (h7 _).symm.trans j
  ·refine sR 1 rfl (nT (At.seq ?_)); refine At.block ?_; obtain ⟨k1, k2, r4, j⟩ := bjoin j; obtain ⟨a0, c9, k3⟩ := bsome j; clear j; unfold Q36.l0 at c9; obtain ⟨d0, a1⟩ := Q14.1 c9; clear c9; refine At.nilRow (Fl.int .i64) 3 ?_; let M : HProp := row Fl.bs 9 A0_3 q.length c0_3 q; let N : HProp := row Q6.fl 48 A0_4 u.length c0_4 u; let a2 : HProp := grow Q5.ow 41 A0_5 p.length c0_5 p; let O : HProp := row Q9.fl 169 A0_6 x.length c0_6 x; let U : HProp := mapo Fl.bs.ov Fl.bool.ov b0_7 J; refine At.loopJ (X := (List Int) × (Option Q3) × (List Q0) × Nat × (Option Addr) × Nat × (Option Nat) × (Option Addr) × Nat × Nat) (Y := (Option Q3) × (List Int) × (List Q0) × (Option Nat) × Nat × (Option Addr) × Nat × (Option Addr) × Nat × Nat) (e0 := 1) (fun s_ => [(0, bp b0), (2, bp L), (3, .slice s_.2.2.2.2.1 s_.2.2.2.1 s_.2.2.2.2.2.1)]) (fun s_ => row (Fl.int .i64) 3 s_.2.2.2.2.1 s_.2.2.2.1 s_.2.2.2.2.2.1 s_.1 :: optb (Ow.fl Q3.fl) 121 s_.2.2.2.2.2.2.1 s_.2.1 :: pc b0 [.slice s_.2.2.2.2.2.2.2.1 (d8 s_).1 (d8 s_).2, optp s_.2.2.2.2.2.2.1, i6 G, .slice A0_3 q.length c0_3, .slice A0_4 u.length c0_4, .slice A0_5 p.length c0_5, .slice A0_6 x.length c0_6, .map (some b0_7)] 113 :: M :: N :: a2 :: O :: U :: I :: Fr) (fun m_ => fun s_ => iterN (fun t_ : (List Int) × (Option Q3) × (List Q0) => Q36.l0b G q u p x J t_.1 t_.2.1 t_.2.2) m_ (s_.1, s_.2.1, s_.2.2.1) = some a0 ∧ s_.1.length = s_.2.2.2.1 ∧ RdS Q0.fl.rep R.heap s_.2.2.2.2.2.2.2.1 s_.2.2.1 ∧ s_.2.2.1.length = (d8 s_).1 ∧ (d8 s_).1 ≤ (d8 s_).2) d0 (([] : List Int), h9, C.2.1, 0, none, 0, k0, c6, C.2.1.length, c7) ⟨a1, rfl, a9, rfl, b2⟩ (fun s_ => [(0, bp b0), (2, bp L), (3, .slice s_.2.2.2.2.2.1 s_.2.2.2.2.1 s_.2.2.2.2.2.2.1)]) (fun s_ => pc b0 [.slice s_.2.2.2.2.2.2.2.1 (d8 s_).1 (d8 s_).2, optp s_.2.2.2.1, i6 G, .slice A0_3 q.length c0_3, .slice A0_4 u.length c0_4, .slice A0_5 p.length c0_5, .slice A0_6 x.length c0_6, .map (some b0_7)] 113 :: optb (Ow.fl Q3.fl) 121 s_.2.2.2.1 s_.1 :: M :: N :: a2 :: O :: U :: row (Fl.int .i64) 3 s_.2.2.2.2.2.1 s_.2.2.2.2.1 s_.2.2.2.2.2.2.1 s_.2.1 :: I :: Fr) (fun s_ => k1 (.inl (s_.1, s_.2.1, s_.2.2.1)) = some r ∧ s_.2.1.length = s_.2.2.2.2.1 ∧ RdS Q0.fl.rep R.heap s_.2.2.2.2.2.2.2.1 s_.2.2.1 ∧ s_.2.2.1.length = (d8 s_).1 ∧ (d8 s_).1 ≤ (d8 s_).2) (fun a w e hs => ⟨e.sub ⟨rfl, rfl, rfl, trivial⟩, (by exact hs)⟩) ?_ (fun k4 => ?_)
   ·rintro ⟨g0, a3, d1, b3, k5, b4, b5, g1, k6, g2⟩ ⟨j, k7, k8, k9, l5⟩; obtain rfl : a3.length = k5 := k7; obtain rfl : d1.length = k6 := k9; have j := (k2 _).symm.trans j
    ·refine At.ibx ?_; refine At.thn (sR 1 rfl (At.f7 ?_)); obtain ⟨b6, l6, j⟩ := bbind j; refine At.call rfl Q49.callee rfl rfl rfl (Q49.spec rfl l6) ?_; rintro _ _ ⟨rfl, rfl⟩; refine nT ?_; refine At.held [optb (Ow.fl Q3.fl) 121 b3 g0, M, N, O, U, I] 16 rfl ?_; refine At.H.pw 0 rfl rfl rfl rfl rfl (.c (.s (.s .z)) (.c (.s (.s .z)) (.c (.s (.s .z)) (.c (.s (.s (.s .z))) (.c (.s (.s (.s .z))) (.c (.s (.s (.s .z))) .n)))))) ?_; refine At.H.pw 1 rfl rfl rfl rfl rfl (.c (.s (.s .z)) (.c (.s (.s .z)) (.c (.s (.s .z)) (.c (.s (.s (.s .z))) (.c (.s (.s (.s .z))) (.c (.s (.s (.s .z))) .n)))))) ?_; refine At.H.pw 2 rfl rfl rfl rfl rfl (.c (.s (.s .z)) (.c (.s (.s .z)) (.c (.s (.s .z)) (.c (.s (.s (.s .z))) (.c (.s (.s (.s .z))) (.c (.s (.s (.s .z))) .n)))))) ?_; refine At.H.pw 3 rfl rfl rfl rfl rfl (.c (.s (.s .z)) (.c (.s (.s .z)) (.c (.s (.s .z)) (.c (.s (.s (.s .z))) (.c (.s (.s (.s .z))) (.c (.s (.s (.s .z))) .n)))))) ?_; refine At.H.pw 4 rfl rfl rfl rfl rfl (.c (.s (.s .z)) (.c (.s (.s .z)) (.c (.s (.s .z)) (.c (.s (.s (.s .z))) (.c (.s (.s (.s .z))) (.c (.s (.s (.s .z))) .n)))))) ?_; refine At.H.pw 6 rfl rfl rfl rfl rfl (.c (.s (.s .z)) (.c (.s (.s .z)) (.c (.s (.s .z)) (.c (.s (.s (.s .z))) (.c (.s (.s (.s .z))) (.c (.s (.s (.s .z))) .n)))))) ?_; refine At.H.tw 7 rfl (Y.load rfl rfl (.s (.s (.s (.s (.s .z))))) rfl rfl rfl) rfl rfl rfl (.c (.s (.s .z)) (.c (.s (.s .z)) (.c (.s (.s .z)) (.c (.s (.s (.s .z))) (.c (.s (.s (.s .z))) (.c (.s (.s (.s .z))) .n)))))) ?_; refine At.H.pw 8 rfl rfl rfl rfl rfl (.c (.s (.s .z)) (.c (.s (.s .z)) (.c (.s (.s .z)) (.c (.s (.s (.s .z))) (.c (.s (.s (.s .z))) (.c (.s (.s (.s .z))) .n)))))) ?_; refine At.H.tw 9 rfl (Y.build (is := [0, 1]) (xo := [.tmp 77, .tmp 78]) (vs := [.string ⟨(C.2.2.2.2.1).toArray⟩, .slice b4 a3.length b5]) (cs := [.string ⟨(C.2.2.2.2.1).toArray⟩, .slice b4 a3.length b5]) rfl rfl rfl rfl rfl rfl) rfl rfl rfl (.c (.s (.s .z)) (.c (.s (.s .z)) (.c (.s (.s .z)) (.c (.s (.s (.s .z))) (.c (.s (.s (.s .z))) (.c (.s (.s (.s .z))) .n)))))) ?_; obtain ⟨g3, j⟩ := bnone j; refine At.H.joinK (X := (Option Addr) × Nat) (fun s_ => []) (fun s_ => pc b0 [.slice g1 d1.length g2, optp b3, i6 G, .slice A0_3 q.length c0_3, .slice A0_4 u.length c0_4, .slice s_.1 ((p ++ [(⟨C.2.2.2.2.1, b6⟩ : Q5)]).length) s_.2, .slice A0_6 x.length c0_6, .map (some b0_7)] 113 :: grow Q5.ow 41 s_.1 ((p ++ [(⟨C.2.2.2.2.1, b6⟩ : Q5)]).length) s_.2 (p ++ [(⟨C.2.2.2.2.1, b6⟩ : Q5)]) :: optb (Ow.fl Q3.fl) 121 b3 g0 :: M :: N :: O :: U :: I :: Fr) (fun s_ => True) ?_ (fun g4 => ?_)
     ·rintro ⟨l7, l8⟩ -
      ·refine At.drop (.s (.s (.s (.s (.s (.s (.s .z))))))) (At.f6 (At.f6 (At.f3 (At.f6 (At.f6 (At.f5 (At.f6 ?_))))))); cases bret j; exact At.res (.inr rfl) rfl rfl ⟨(p ++ [(⟨C.2.2.2.2.1, b6⟩ : Q5)]).length, l7, l8, b3, g1, d1.length, g2, rfl, rfl, rfl, k8, rfl, l5⟩
     ·refine At.H.al [5, 10] (Q7 ?_ (Q7 ?_ Q8))
      ··refine At.HO.op rfl ?_
        refine At.y (Y.load rfl rfl (.s .z) rfl rfl rfl) rfl rfl rfl ?_; refine At.HO.back (.c (.s (.s .z)) (.c (.s (.s .z)) (.c (.s (.s .z)) (.c (.s (.s (.s .z))) (.c (.s (.s (.s .z))) (.c (.s (.s (.s .z))) .n)))))) ?_; refine At.H.al [10] (Q7 ?_ Q8)
        ··refine At.HO.op rfl ?_
          refine At.lit rfl (xo := [.tmp 79]) (ys := ([rawOf (Q5.ow).sz [.string ⟨(C.2.2.2.2.1).toArray⟩, .slice b4 a3.length b5] rfl rfl] : List (Raw (Q5.ow).sz))) (Fl.raw (Q5.ow).sz (Q5.ow).pos) rfl rfl rfl rfl rfl rfl rfl rfl rfl rfl rfl (fun r5 r6 => ?_); refine At.HO.back (.c (.s (.s (.s .z))) (.c (.s (.s (.s .z))) (.c (.s (.s (.s .z))) (.c (.s (.s (.s (.s .z)))) (.c (.s (.s (.s (.s .z)))) (.c (.s (.s (.s (.s .z)))) .n)))))) ?_; refine At.H.al [11] (Q7 ?_ Q8)
          ··refine At.HO.op rfl ?_
            refine At.f1 (At.f1 (At.f6 ?_)); refine At.appendGrow (T := Q5.ow) rfl rfl Q5.ent rfl rfl rfl rfl rfl rfl rfl rfl rfl g3 (by decide) rfl (fun l9 m0 => ?_); refine At.HO.back (.c (.s (.s .z)) (.c (.s (.s .z)) (.c (.s (.s .z)) (.c (.s (.s .z)) (.c (.s (.s .z)) (.c (.s (.s .z)) .n)))))) ?_; refine At.H.pw 12 rfl rfl rfl rfl rfl (.c (.s (.s .z)) (.c (.s (.s .z)) (.c (.s (.s .z)) (.c (.s (.s .z)) (.c (.s (.s .z)) (.c (.s (.s .z)) .n)))))) ?_; refine At.H.pw 13 rfl rfl rfl rfl rfl (.c (.s (.s .z)) (.c (.s (.s .z)) (.c (.s (.s .z)) (.c (.s (.s .z)) (.c (.s (.s .z)) (.c (.s (.s .z)) .n)))))) ?_; refine At.H.pw 14 rfl rfl rfl rfl rfl (.c (.s (.s .z)) (.c (.s (.s .z)) (.c (.s (.s .z)) (.c (.s (.s .z)) (.c (.s (.s .z)) (.c (.s (.s .z)) .n)))))) ?_; refine At.H.al [15] (Q7 ?_ Q8)
            ··refine At.HO.op rfl ?_
              refine At.store rfl rfl rfl rfl (.s .z) rfl rfl rfl (.s (.s (.s (.s (.s (.c .n)))))) ?_; refine At.HO.back (.c (.s (.s .z)) (.c (.s (.s .z)) (.c (.s (.s .z)) (.c (.s (.s .z)) (.c (.s (.s .z)) (.c (.s (.s .z)) .n)))))) ?_; refine At.H.done (by kernel_rfl) ?_; exact At.of (g4 (l9, m0) trivial) trivial
      ··refine At.HO.op rfl ?_
        refine At.lit rfl (xo := [.tmp 79]) (ys := ([rawOf (Q5.ow).sz [.string ⟨(C.2.2.2.2.1).toArray⟩, .slice b4 a3.length b5] rfl rfl] : List (Raw (Q5.ow).sz))) (Fl.raw (Q5.ow).sz (Q5.ow).pos) rfl rfl rfl rfl rfl rfl rfl rfl rfl rfl rfl (fun r7 r8 => ?_); refine At.HO.back (.c (.s (.s (.s .z))) (.c (.s (.s (.s .z))) (.c (.s (.s (.s .z))) (.c (.s (.s (.s (.s .z)))) (.c (.s (.s (.s (.s .z)))) (.c (.s (.s (.s (.s .z)))) .n)))))) ?_; refine At.H.al [5] (Q7 ?_ Q8)
        ··refine At.HO.op rfl ?_
          refine At.y (Y.load rfl rfl (.s (.s .z)) rfl rfl rfl) rfl rfl rfl ?_; refine At.HO.back (.c (.s (.s (.s .z))) (.c (.s (.s (.s .z))) (.c (.s (.s (.s .z))) (.c (.s (.s (.s (.s .z)))) (.c (.s (.s (.s (.s .z)))) (.c (.s (.s (.s (.s .z)))) .n)))))) ?_; refine At.H.al [11] (Q7 ?_ Q8)
          ··refine At.HO.op rfl ?_
            refine At.f1 (At.f1 (At.f6 ?_)); refine At.appendGrow (T := Q5.ow) rfl rfl Q5.ent rfl rfl rfl rfl rfl rfl rfl rfl rfl g3 (by decide) rfl (fun m1 m2 => ?_); refine At.HO.back (.c (.s (.s .z)) (.c (.s (.s .z)) (.c (.s (.s .z)) (.c (.s (.s .z)) (.c (.s (.s .z)) (.c (.s (.s .z)) .n)))))) ?_; refine At.H.pw 12 rfl rfl rfl rfl rfl (.c (.s (.s .z)) (.c (.s (.s .z)) (.c (.s (.s .z)) (.c (.s (.s .z)) (.c (.s (.s .z)) (.c (.s (.s .z)) .n)))))) ?_; refine At.H.pw 13 rfl rfl rfl rfl rfl (.c (.s (.s .z)) (.c (.s (.s .z)) (.c (.s (.s .z)) (.c (.s (.s .z)) (.c (.s (.s .z)) (.c (.s (.s .z)) .n)))))) ?_; refine At.H.pw 14 rfl rfl rfl rfl rfl (.c (.s (.s .z)) (.c (.s (.s .z)) (.c (.s (.s .z)) (.c (.s (.s .z)) (.c (.s (.s .z)) (.c (.s (.s .z)) .n)))))) ?_; refine At.H.al [15] (Q7 ?_ Q8)
            ··refine At.HO.op rfl ?_
              refine At.store rfl rfl rfl rfl (.s .z) rfl rfl rfl (.s (.s (.s (.s (.s (.c .n)))))) ?_; refine At.HO.back (.c (.s (.s .z)) (.c (.s (.s .z)) (.c (.s (.s .z)) (.c (.s (.s .z)) (.c (.s (.s .z)) (.c (.s (.s .z)) .n)))))) ?_; refine At.H.done (by kernel_rfl) ?_; exact At.of (g4 (m1, m2) trivial) trivial
   ·clear a1 d0; rintro d0 ⟨D, d2, a4, m3, V, Z, a5, g5, m4, g6⟩ ⟨a1, m5, d3, m6, d4⟩; obtain rfl : D.length = m3 := m5; obtain rfl : a4.length = m4 := m6; obtain ⟨m7, f_, m8, hf_, j⟩ := bit a1; clear a1; have j : (Q36.l0b G q u p x J D d2 a4).bind _ = some a0 := j; unfold Q36.l0b at j
    ·refine At.seq (sR 3 rfl (At.y (Y.load rfl rfl (.s (.s .z)) rfl rfl rfl) rfl rfl rfl ?_)); refine At.y (Y.eqOpt (.s .z) rfl rfl rfl rfl) rfl rfl rfl ?_; refine At.run 1 rfl ?_; obtain ⟨m9, n2, r9, j⟩ := bjoin j; let n4 : HProp := pc b0 [.slice g5 a4.length g6, optp a5, i6 G, .slice A0_3 q.length c0_3, .slice A0_4 u.length c0_4, .slice A0_5 p.length c0_5, .slice A0_6 x.length c0_6, .map (some b0_7)] 113; refine At.joinO 4 (X := Bool) (fun a6 => [(0, bp b0), (2, bp L), (3, .slice V D.length Z), (45, .bool a6)]) (fun a6 => n4 :: optb (Ow.fl Q3.fl) 121 a5 d2 :: M :: N :: a2 :: O :: U :: row (Fl.int .i64) 3 V D.length Z D :: I :: Fr) (fun a6 => m9 (.inl a6) = some a0) ?_ (fun g7 => ?_)
     ·rintro a6 j; have j := (n2 _).symm.trans j
      ·refine nT ?_; rcases bite j with ⟨d5, j⟩ | ⟨d5, j⟩
       ··refine At.condT rfl d5 ?_
         refine At.skip (At.thn ?_); refine At.block ?_; refine sR 1 rfl ?_; obtain ⟨E, n5, j⟩ := bbind j; refine At.call rfl Q87.callee rfl rfl rfl (Q87.spec a5 d3 rfl d4 rfl rfl rfl rfl n5) ?_; rintro _ _ ⟨b7, d6, s0, d7, rfl, rfl, g8, rfl, g9⟩; refine At.run 3 rfl ?_; refine At.alloc rfl rfl rfl (fun h0 => ?_); refine At.store rfl rfl rfl rfl .z rfl rfl rfl (.c (.c (.c (.c .n)))) ?_; refine At.run 1 rfl (nT (At.seq (sR 3 rfl (At.y (Y.load rfl rfl (.s (.s .z)) rfl rfl rfl) rfl rfl rfl ?_)))); refine At.y (Y.eqOpt (.s .z) rfl rfl rfl rfl) rfl rfl rfl ?_; refine At.run 1 rfl ?_; obtain ⟨n6, n7, s1, j⟩ := bjoin j; let h1 : HProp := pc h0 [i6 E.2.2.2.1, i6 E.2.2.2.2.1, .string ⟨(E.2.2.2.2.2.1).toArray⟩, i6 E.2.2.2.2.2.2] 115; let n8 : HProp := pc b0 [.slice d6 E.2.1.length d7, optp b7, i6 G, .slice A0_3 q.length c0_3, .slice A0_4 u.length c0_4, .slice A0_5 p.length c0_5, .slice A0_6 x.length c0_6, .map (some b0_7)] 113; refine At.joinO 4 (X := Bool) (fun a7 => [(0, bp b0), (2, bp L), (3, .slice V D.length Z), (4, bp h0), (5, i6 E.2.2.1), (60, .bool a7)]) (fun a7 => row (Fl.int .i64) 3 V D.length Z D :: h1 :: optb (Ow.fl Q3.fl) 121 b7 E.1 :: n8 :: M :: N :: a2 :: O :: U :: I :: Fr) (fun a7 => n6 (.inl a7) = some a0) ?_ (fun h2 => ?_)
         ·rintro a7 j; have j := (n7 _).symm.trans j
          ·refine nT ?_; obtain ⟨n9, o0, s2, j⟩ := bjoin j; refine At.join (X := (Option Q3) × (Option Nat)) (fun s_ => [(0, bp b0), (2, bp L), (3, .slice V D.length Z), (5, i6 E.2.2.1)]) (fun s_ => optb (Ow.fl Q3.fl) 121 s_.2 s_.1 :: pc b0 [.slice d6 E.2.1.length d7, optp s_.2, i6 G, .slice A0_3 q.length c0_3, .slice A0_4 u.length c0_4, .slice A0_5 p.length c0_5, .slice A0_6 x.length c0_6, .map (some b0_7)] 113 :: M :: N :: a2 :: O :: U :: row (Fl.int .i64) 3 V D.length Z D :: h1 :: I :: Fr) (fun s_ => n9 (.inl s_.1) = some a0) ?_ (fun h3 => ?_)
           ·rintro ⟨o7, o8⟩ j; have j := (o0 _).symm.trans j
            ·refine At.region (At.run 2 rfl ?_); refine At.lit rfl (xo := [.tmp 65]) (ys := ([E.2.2.1] : List Int)) (Fl.int .i64) rfl rfl rfl rfl rfl rfl rfl rfl rfl rfl rfl (fun s3 s4 => ?_); obtain ⟨o9, j⟩ := bnone j; refine At.append rfl (.s (.s (.s (.s (.s (.s (.s (.s .z)))))))) (Src.own .z (by simp)) rfl rfl rfl rfl rfl rfl rfl rfl o9 (by decide) rfl (fun p0 p1 => ?_); refine At.drop (.s .z) (At.run 1 rfl (At.nil ?_)); refine At.ibn ?_; refine At.drop (.s (.s (.s (.s (.s (.s (.s (.s .z)))))))) ?_; have j := bnx hf_ j; exact fun a w e hs => ⟨m7, ((D ++ ([E.2.2.1] : List Int)), o7, E.2.1, (D ++ ([E.2.2.1] : List Int)).length, p0, p1, o8, d6, E.2.1.length, d7), m8, ⟨j, rfl, g8, rfl, g9⟩, e.sub ⟨rfl, rfl, rfl, trivial⟩, hs⟩
           ··rcases bite j with ⟨d9, j⟩ | ⟨d9, j⟩
             ··refine At.condT rfl d9 ?_
               refine At.region (At.run 1 rfl (At.y (Y.load rfl rfl (.s .z) rfl rfl rfl) rfl rfl rfl (At.f8 (At.f8 (At.f8 (At.f8 (At.f8 ?_))))))); refine At.f7 (At.f8 ?_); obtain ⟨p2, p3, j⟩ := bbind j; refine At.call rfl Q15.callee rfl rfl rfl (Q15.spec b7 g8 rfl g9 rfl rfl rfl rfl p3) ?_; rintro _ _ ⟨p4, rfl, rfl⟩; refine nT ?_; exact fun a w e hs => h3 (p2, p4) j a w (e.sub ⟨rfl, rfl, rfl, rfl, trivial⟩) hs
             ··refine At.condF rfl (bn d9) ?_
               refine At.skip (At.thn (At.f9 (At.f2 (At.f2 (At.f9 (At.f9 (At.f9 ?_))))))); refine At.f9 (At.f9 (At.f9 (At.f9 ?_))); exact fun a w e hs => h3 (E.1, b7) j a w (e.sub ⟨rfl, rfl, rfl, rfl, trivial⟩) hs
         ··rcases bite j with ⟨e1, j⟩ | ⟨e1, j⟩
           ··refine At.know (t := 56) rfl e1 ?_
             refine At.run 2 rfl ?_; refine At.freeze (.s (.s (.s (.s (.s (.s (.s (.s .z)))))))) fun s5 p5 p6 p7 s6 p8 => ?_; obtain ⟨p9, q0, j⟩ := bbind j; refine At.call rfl Q143.callee rfl rfl rfl (Q143.spec p5 p6 p7 q0) ?_; rintro _ _ ⟨rfl, rfl⟩; refine At.run 1 rfl ?_; refine At.thaw p8 ?_; exact At.of (h2 p9 j) ⟨rfl, rfl, rfl, rfl, rfl, rfl, trivial⟩
           ··refine At.know (t := 56) rfl (bn e1) ?_
             refine At.run 4 rfl (At.f9 (At.f8 (At.f8 (At.f8 (At.f8 (At.f8 (At.f8 ?_))))))); refine At.f8 (At.f8 (At.f9 ?_)); exact At.of (h2 false j) ⟨rfl, rfl, rfl, rfl, rfl, rfl, trivial⟩
       ··refine At.condF rfl (bn d5) ?_
         refine At.exit ?_; refine At.the ?_; refine At.the ?_; exact fun a w e hs => k4 (d2, D, a4, a5, D.length, V, Z, g5, a4.length, g6) ⟨(bdn j k3), rfl, d3, rfl, d4⟩ a w (e.sub ⟨rfl, rfl, rfl, trivial⟩) hs
     ··rcases bite j with ⟨e2, j⟩ | ⟨e2, j⟩
       ··refine At.know (t := 41) rfl e2 ?_
         refine At.run 1 rfl (At.f7 (At.f7 (At.f7 (At.f7 (At.f7 (At.f6 (At.f7 ?_))))))); obtain ⟨q1, q2, j⟩ := bbind j; refine At.call rfl Q112.callee rfl rfl rfl (Q112.spec a5 d3 rfl d4 rfl rfl rfl rfl q2) ?_; rintro _ _ ⟨rfl, rfl⟩; refine At.run 2 rfl ?_; exact At.of (g7 (!q1) j) ⟨rfl, rfl, rfl, rfl, trivial⟩
       ··refine At.know (t := 41) rfl (bn e2) ?_
         refine At.run 4 rfl (At.f8 (At.f1 (At.f8 (At.f8 (At.f8 (At.f8 (At.f8 ?_))))))); refine At.f7 (At.f8 ?_); exact At.of (g7 false j) ⟨rfl, rfl, rfl, rfl, trivial⟩
 ··refine At.block ?_
   refine sR 3 rfl (At.y (Y.load rfl rfl (.s (.s .z)) rfl rfl rfl) rfl rfl rfl ?_); refine At.y (Y.neOpt (.s .z) rfl rfl rfl rfl) rfl rfl rfl ?_; refine At.run 1 rfl (nT ?_); rcases bite j with ⟨e3, j⟩ | ⟨e3, j⟩
   ··refine At.condF rfl (nf e3) ?_
     refine sR 4 rfl (At.y (Y.load rfl rfl (.s (.s .z)) rfl rfl rfl) rfl rfl rfl (At.run 3 rfl (nT ?_))); rcases bite j with ⟨e4, j⟩ | ⟨e4, j⟩
     ··refine At.condT rfl (decide_eq_true e4) ?_
       refine At.region (At.run 1 rfl (At.y (Y.load rfl rfl .z rfl rfl rfl) rfl rfl rfl (At.f7 (At.f7 (At.f7 (At.f7 (At.f7 ?_))))))); refine At.f6 (At.f7 ?_); obtain ⟨q3, q4, j⟩ := bbind j; refine At.call rfl Q15.callee rfl rfl rfl (Q15.spec a8 a9 rfl b2 rfl rfl rfl rfl q4) ?_; rintro _ _ ⟨q5, rfl, rfl⟩; refine At.nil ?_; refine At.ibn ?_; refine At.thn ?_; exact fun a w e hs => c8 (q3, q5) j a w (e.sub ⟨rfl, rfl, trivial⟩) hs
     ··refine At.condF rfl (decide_eq_false e4) ?_
       refine sR 4 rfl (At.y (Y.load rfl rfl (.s (.s .z)) rfl rfl rfl) rfl rfl rfl (At.run 1 rfl ?_)); refine At.freezeGrow (.s (.s (.s (.s (.s .z))))) fun s7 q6 q7 q8 s8 h4 => ?_; obtain ⟨s9, q9, j⟩ := bbind j; refine At.call rfl Q120.callee rfl rfl rfl (Q120.spec q6 q7 q8 q9) ?_; rintro _ _ ⟨rfl, rfl⟩; refine At.run 1 rfl (nT ?_); rcases bite j with ⟨e5, j⟩ | ⟨e5, j⟩
       ··refine At.condT rfl e5 ?_
         refine At.region (At.run 1 rfl (At.y (Y.load rfl rfl .z rfl rfl rfl) rfl rfl rfl ?_)); refine At.thaw h4 ?_; refine At.f7 (At.f7 (At.f2 (At.f7 (At.f7 (At.f6 (At.f7 ?_)))))); obtain ⟨r0, r1, j⟩ := bbind j; refine At.call rfl Q15.callee rfl rfl rfl (Q15.spec a8 a9 rfl b2 rfl rfl rfl rfl r1) ?_; rintro _ _ ⟨r2, rfl, rfl⟩; refine At.nil ?_; refine At.ibn ?_; refine At.thn ?_; exact fun a w e hs => c8 (r0, r2) j a w (e.sub ⟨rfl, rfl, trivial⟩) hs
       ··refine At.condF rfl (bn e5) ?_
         refine At.skip ?_; refine At.ibn ?_; refine At.thn ?_; refine At.thaw h4 ?_; refine At.f1 (At.f7 (At.f7 (At.f3 (At.f7 (At.f7 (At.f7 (At.f7 ?_))))))); exact fun a w e hs => c8 (C.1, a8) j a w (e.sub ⟨rfl, rfl, trivial⟩) hs
   ··refine At.condT rfl (nt (bn e3)) ?_
     refine At.ret ?_; refine At.ibr ?_; have j := bup h8 j; refine At.thr (At.drop .z ?_); obtain rfl := (bret j).symm; exact At.res (.inl rfl) rfl rfl ⟨p.length, A0_5, c0_5, a8, c6, C.2.1.length, c7, rfl, rfl, rfl, a9, rfl, b2⟩

noncomputable def Q74.f (a0 : List Bs) : Option (List Bs) := if a0.length < 4611686018427387904 then some (a0.mergeSort fun x y => decide (x ≤ y)) else none
theorem Q74.callee : Callee Tryz.prog 119 := ⟨_, Tryz.func119, by kernel_rfl, by kernel_rfl⟩
theorem Q74.spec {a0 : List Bs} (hn0 : a0.length = n0) {r : List Bs} (j : Q74.f a0 = some r) :
 Spec Tryz.prog 119 [.slice A0 n0 c0] R (row Fl.bs 9 A0 n0 c0 a0 :: Fr) (fun v l' => v = .tuple #[] ∧ row Fl.bs 9 A0 n0 c0 r :: Fr = l') := by
 unfold Q74.f at j; split at j
 ·rename_i hb; cases j; exact Q265 Tryz.sort119 R Fr hb
 ·cases j

noncomputable def Q48.l0b (a0 : List Bs) (a1 : Bs) (p : Int) : Option ((Int) ⊕ ((Unit) ⊕ (Int))) :=
 if p < (a0.length : Int) then
 if (0 : Int) ≤ p ∧ p < (a0.length : Int) then
 if bseq a1 (gt a0 p) = true then
 upL (some p)
 else
 nx (IntKind.i64.wrap (p + 1))
 else none
 else
 dn (.inl ())
noncomputable def Q48.l0 (a0 : List Bs) (a1 : Bs) (p : Int) : Option ((Unit) ⊕ (Int)) := iter (fun t_ : Int => Q48.l0b a0 a1 t_) p
noncomputable def Q48.f (a0 : List Bs) (a1 : Bs) : Option Int :=
 jn (Q48.l0 a0 a1 0) (fun (_ : Unit) =>
 some (-1))
theorem Q48.callee : Callee Tryz.prog 120 := ⟨_, Tryz.func120, by kernel_rfl, by kernel_rfl⟩
theorem Q48.spec {a0 : List Bs} {a1 : Bs} (hr0 : RdS Fl.bs.rep R.heap A0 a0) (hn0 : a0.length = n0) (hc0 : n0 ≤ c0) {r : Int} (j : Q48.f a0 a1 = some r) :
 Spec Tryz.prog 120 [.slice A0 n0 c0, .string ⟨(a1).toArray⟩] R (Fr) (fun v l' => v = i6 r ∧ Fr = l') := by
 subst hn0; refine Spec.of Tryz.func120 rfl rfl ?_; unfold Q48.f at j; have j := brun j; refine sR 1 rfl (nT (At.seq (At.seq (At.region ?_)))); refine At.run 3 rfl (nT ?_); refine At.block ?_; obtain ⟨L, M, N, j⟩ := bjoin j; obtain ⟨I, C, J⟩ := bsome j; clear j; unfold Q48.l0 at C; obtain ⟨D, u⟩ := Q14.1 C; clear C; refine At.loopJ (X := Int) (Y := Unit) (e0 := 0) (fun p => [(0, .slice A0 a0.length c0), (1, .string ⟨(a1).toArray⟩), (7, i6 (a0.length : Int)), (8, i6 p)]) (fun p => Fr) (fun m_ => fun p => iterN (fun t_ : Int => Q48.l0b a0 a1 t_) m_ p = some I) D 0 u (fun _ => []) (fun _ => Fr) (fun _ => L (.inl ()) = some r) (fun a w e hs => ⟨e.sub ⟨rfl, rfl, rfl, rfl, trivial⟩, (by exact hs)⟩) ?_ (fun O => ?_)
 ·rintro _ j; have j := (M _).symm.trans j
  ·refine At.ibx ?_; refine At.thn (sR 1 rfl (nT (At.ret ?_))); cases bret j; exact At.res (.inl rfl) rfl rfl ⟨rfl, rfl⟩
 ·clear u D; rintro D p u; obtain ⟨U, f_, V, hf_, j⟩ := bit u; clear u; have j : (Q48.l0b a0 a1 p).bind _ = some I := j; unfold Q48.l0b at j
  ·refine sR 1 rfl (nT (At.seq ?_)); rcases bite j with ⟨E, j⟩ | ⟨E, j⟩
   ··refine At.condT rfl (decide_eq_true E) ?_
     refine At.skip (At.thn (At.seq ?_)); refine At.block ?_; refine sR 2 rfl (nT (sR 3 rfl ?_)); obtain ⟨x, j⟩ := bnone j; refine At.y (Y.ixRd hr0 rfl rfl rfl rfl rfl rfl rfl x.1 x.2) rfl rfl rfl (At.y (Y.ldFl hr0 rfl (q := 0) rfl rfl x.1 x.2 rfl rfl rfl) rfl rfl rfl (At.run 1 rfl (nT ?_))); rcases bite j with ⟨G, j⟩ | ⟨G, j⟩
     ··refine At.condT rfl G ?_
       refine sR 2 rfl (nT (At.ret ?_)); refine At.ibr ?_; refine At.thr ?_; have j := bupL N J j; refine At.thr ?_; refine At.ibr ?_; refine At.thr ?_; cases bret j; exact At.res (.inl rfl) rfl rfl ⟨rfl, rfl⟩
     ··refine At.condF rfl (bn G) ?_
       refine At.skip ?_; refine At.ibn ?_; refine At.thn (At.region (At.run 2 rfl (At.nil ?_))); have j := bnx hf_ j; exact fun a w e hs => ⟨U, (IntKind.i64.wrap (p + 1)), V, j, e.sub ⟨rfl, rfl, rfl, rfl, trivial⟩, hs⟩
   ··refine At.condF rfl (decide_eq_false E) ?_
     refine At.exit ?_; refine At.the ?_; refine At.the ?_; exact fun a w e hs => O () (bdn j J) a w (e.sub trivial) hs

noncomputable def Q32.cmp (x y : Q6) : Option Int := Q94.f x.From x.Action x.To y.From y.Action y.To
open Classical in
noncomputable def Q32.f (a0 : List Q6) : Option (List Q6) := if a0.length < 4611686018427387904 ∧ CmpTot Q32.cmp then some (byCmp Q32.cmp a0) else none
theorem Q32.callee : Callee Tryz.prog 121 := ⟨_, Tryz.func121, by kernel_rfl, by kernel_rfl⟩
theorem Q32.spec {a0 : List Q6} (hn0 : a0.length = n0) {r : List Q6} (j : Q32.f a0 = some r) :
 Spec Tryz.prog 121 [.slice A0 n0 c0, .func (.func 77) #[] #[]] R (row Q6.fl 48 A0 n0 c0 a0 :: Fr) (fun v l' => v = .tuple #[] ∧ row Q6.fl 48 A0 n0 c0 r :: Fr = l') := by
 unfold Q32.f at j; split at j
 ·rename_i hb; cases j; refine Q256 Tryz.sort121 Q6.fl (fun w => (Q12 (P := Tryz.prog) (t := 48) (i := Tryz.ti48) rfl).run_isAgg w) (fun w => (Q12 (P := Tryz.prog) (t := 48) (i := Tryz.ti48) rfl).run_sizeOf w) (gcf Q32.cmp) hb.2.1.2 hb.2.2 77 (enters_of Tryz.func77 (by kernel_rfl) rfl) (fun R x y => Q94.spec (gcf_eq hb.2.1 x y)) R Fr hb.1
 ·cases j

noncomputable def Q40.cmp (x y : Q5) : Option Int := Q115.f x.Name x.States y.Name y.States
open Classical in
noncomputable def Q40.f (a0 : List Q5) : Option (List Q5) := if a0.length < 4611686018427387904 ∧ CmpSwo Q40.cmp ∧ CmpParts Q40.cmp a0 then some (byCmp Q40.cmp a0) else none
theorem Q40.callee : Callee Tryz.prog 122 := ⟨_, Tryz.func122, by kernel_rfl, by kernel_rfl⟩
theorem Q40.spec {a0 : List Q5} (hn0 : a0.length = n0) {r : List Q5} (j : Q40.f a0 = some r) :
 Spec Tryz.prog 122 [.slice A0 n0 c0, .func (.func 81) #[] #[]] R (grow Q5.ow 41 A0 n0 c0 a0 :: Fr) (fun v l' => v = .tuple #[] ∧ grow Q5.ow 41 A0 n0 c0 r :: Fr = l') := by
 unfold Q40.f at j; split at j
 ·rename_i hb; cases j; refine Q269 Tryz.sort122 Q5.ow (fun w => (Q12 (P := Tryz.prog) (t := 41) (i := Tryz.ti41) rfl).run_isAgg w) (fun w => (Q12 (P := Tryz.prog) (t := 41) (i := Tryz.ti41) rfl).run_sizeOf w) (gcf Q40.cmp) hb.2.1.2 81 (enters_of Tryz.func81 (by kernel_rfl) rfl) ?_ R Fr hb.1 hb.2.2; rintro R x y cs cs' ⟨_, _, rfl, rfl, ⟨_, _, rfl, hc0_1, hr0_1⟩⟩ ⟨_, _, rfl, rfl, ⟨_, _, rfl, hc1_1, hr1_1⟩⟩; exact Q115.spec hr0_1 rfl hc0_1 hr1_1 rfl hc1_1 (gcf_eq hb.2.1 x y)
 ·cases j

end Go.Bw
namespace Go.Bw
open Go Go.RowKit

abbrev PostE := Ending → List HProp → Prop
def SpecE (P : Program) (f : Nat) (args : List Value) (R : Res) (l : List HProp) (post : PostE) : Prop :=
 ∀ w, sat R l w → Calls P f args.toArray w fun e w' => ∃ l', post e l' ∧ sat R l' w'
def PostBD (P : Program) (fn : Func) (R : Res) (post : PostE) : Exit → Act → World → Prop := bodyPostD P fn fun e w' => ∃ l', post e l' ∧ sat R l' w'
theorem Q207 {n : Nat} {args : List Value} (hn : Nat.ble args.length n = true) : Env n [] (envA 0 args) { tmps := args.toArray ++ Array.replicate (n - args.toArray.size) undef, defers := [] } := by
 refine ⟨?_, rfl, fun t v hv => ?_⟩
 ·have : args.length ≤ n := by simpa using hn
  simp; omega
 ·obtain ⟨j, rfl, hj⟩ := Q179 hv
  show (args.toArray ++ Array.replicate _ undef).getD (0 + j) undef = v
  have hlt := (List.getElem?_eq_some_iff.1 hj).1
  rw [Nat.zero_add, Array.getD_eq_getD_getElem?, Array.getElem?_append_left (by simpa using hlt), List.getElem?_toArray, hj]
  rfl
theorem SpecE.ofD {P : Program} {f : Nat} {fn : Func} {c : Code} {args : List Value} {R : Res} {l : List HProp} {post : PostE} (hf : P.funcs[f]? = some fn) (hb : fn.body = some c) (hn : Nat.ble args.length fn.ntmps = true)
 (h : At fn.ntmps [] R (envA 0 args) l (c.wp P (PostBD P fn R post))) : SpecE P f args R l post := fun w hs =>
 calls_of_wp_defers hf hb (h _ w (Q207 hn) hs)
theorem SpecE.ret {P : Program} {f : Nat} {args : List Value} {R : Res} {l : List HProp} {post : Post} (h : SpecE P f args R l (fun e l' => ∃ v, e = .returned v ∧ post v l')) : Spec P f args R l post := fun w hs =>
 (h w hs).mono fun e w' ⟨l', ⟨v, he, hp⟩, hs'⟩ => ⟨v, l', he, hp, hs'⟩
theorem Spec.toE {P : Program} {f : Nat} {args : List Value} {R : Res} {l : List HProp} {post : Post} (h : Spec P f args R l post) : SpecE P f args R l (fun e l' => ∃ v, e = .returned v ∧ post v l') := fun w hs =>
 (h w hs).mono fun e w' ⟨v, l', he, hp, hs'⟩ => ⟨l', ⟨v, he, hp⟩, hs'⟩
def SpecD (P : Program) (f : Nat) (args : List Value) (u : FrameMode) (R : Res) (l : List HProp) (post : FrameMode → List HProp → Prop) : Prop :=
 ∀ w, sat R l w → CallsD P f args.toArray u w fun e u' w' => ∃ v l', e = .returned v ∧ post u' l' ∧ sat R l' w'
section
variable {P : Program} [Tys P] {os : List Oper} {Q : Exit → Act → World → Prop} {rest : List Oper} {n : Nat} {ds : List Deferred} {R : Res} {env : List (Nat × Value)} {l l' : List HProp} {next : Act → World → Prop}
variable {d ty : Nat} {pos : String} {af : Array Edge} {g : Option (Nat × Bool)}
theorem Q258 {a : Act} {w : World} {x : Operand} {xs : List Operand} {ts : Array Nat} {f : Nat} {fs cap : List Value} {vs : List Value} {dd : Option Nat} (e : Env n ds env a)
 (hx : ev env x = some (.func (.func f) fs.toArray cap.toArray)) (hv : vals env xs = some vs) (c : Callee P f) :
 (execOp a.eval ⟨dd, .call ⟨.value x, xs.toArray, ts⟩, ty, pos, af, g⟩).run P w = .ok (.enter f (fs ++ vs ++ cap).toArray) w := by
 have := Q116 e hv
 simp [execOp, resolve, Deferred.ofValue, invoke, e.ev hx, Q186 c, this]
theorem At.callF (hg : grd os env g = some true) {x : Operand} {xs : List Operand} {ts : Array Nat} {f : Nat} {fs cap : List Value} {vs : List Value} {post : Post} (c : Callee P f)
 (hx : ev env x = some (.func (.func f) fs.toArray cap.toArray)) (hv : vals env xs = some vs) (hd : Nat.blt d n = true)
 (s : Spec P f (fs ++ vs ++ cap) R l post) (h : ∀ v l', post v l' → At n ds R ((d, v) :: env) l' (wpList P os.toArray Q rest)) :
 At n ds R env l (wpList P os.toArray Q (⟨some d, .call ⟨.value x, xs.toArray, ts⟩, ty, pos, af, g⟩ :: rest)) := fun a w e hs => by
 refine wpList_step fun K hK => ?_
 rw [if_pos (Q53 e hg)]
 unfold Oper.wp
 rw [Q258 e hx hv c, Oper.upon_enter]
 refine (s w hs).mono fun e' w' ⟨v, l', he, hp, hs'⟩ => ?_
 subst he
 exact hK _ _ (h v l' hp _ _ (e.put hd v) hs')
theorem At.defer (hg : grd os env g = some true) {x : Operand} {ts : Array Nat} {f : Nat} {cap : List Value} (hx : ev env x = some (.func (.func f) #[] cap.toArray))
 (h : At n (⟨.fn (.func f) cap.toArray, #[]⟩ :: ds) R env l (wpList P os.toArray Q rest)) :
 At n ds R env l (wpList P os.toArray Q (⟨none, .defer ⟨.value x, #[], ts⟩, ty, pos, af, g⟩ :: rest)) := fun a w e hs => by
 refine wpList_step fun K hK => ?_
 rw [if_pos (Q53 e hg)]
 unfold Oper.wp
 have hr : (execOp a.eval ⟨none, .defer ⟨.value x, #[], ts⟩, ty, pos, af, g⟩).run P w = .ok (.defer ⟨.fn (.func f) cap.toArray, #[]⟩) w := by
  simp [execOp, resolve, Deferred.ofValue, e.ev hx]
 rw [hr, Oper.upon_defer]
 exact hK _ _ (h _ _ ⟨e.size, by show _ :: a.defers = _; rw [e.defs], e.get⟩ hs)
theorem Q211 {fn : Func} {r : List ResultVar} {vs : List Value} {a : Act} {w : World} (hr : fn.results = r.toArray) (h : (r.mapM (resF a.tmps)).run P w = .ok vs w) : (results fn a.tmps).run P w = .ok (resT vs) w := by
 rw [Q177, hr, List.mapM_toArray]
 simp only [Sem.run_bind, Sem.run_map, h, Result.andThen, Sem.run_pure]
 cases vs with
 | nil => rfl
 | cons v vs =>
  cases vs with
  | nil => rfl
  | cons u vs => simp [resT]
theorem At.resMD {fn : Func} {post : PostE} {x : Exit} {r : List ResultVar} {vs : List Value} (hx : x = .ret ∨ x = .normal) (hr : fn.results = r.toArray) (hv : RV P n R env l r vs) (k : At n [] R env l (fun a w => ∃ l', post (.returned (resT vs)) l' ∧ sat R l' w)) : At n [] R env l (PostBD P fn R post x) := fun a w e hs => by
 obtain ⟨l2, hp, hs'⟩ := k a w e hs
 have key : Leaves P fn a.tmps (fun e w' => ∃ l', post e l' ∧ sat R l' w') a.defers .returning w := by
  rw [e.defs]
  exact ⟨_, Q211 hr (hv a w e hs), l2, hp, hs'⟩
 rcases hx with rfl | rfl <;> exact key
theorem At.leaveD {fn : Func} {post : PostE} {x : Exit} {u : FrameMode} {r : List ResultVar} {f : Nat} {cap : List Value} {pd : FrameMode → List HProp → Prop}
 (hx : (x = .ret ∨ x = .normal) ∧ u = .returning ∨ ∃ ch, x = .panic ch ∧ u = .panicking ch) (hr : fn.results = r.toArray) (c : Callee P f) (s : SpecD P f cap u R l pd)
 (k : ∀ u' l', pd u' l' → settle u' = .returning ∧ ∃ vs, RV P n R env l' r vs ∧ At n [] R env l' (fun a w => ∃ l2, post (.returned (resT vs)) l2 ∧ sat R l2 w)) :
 At n [⟨.fn (.func f) cap.toArray, #[]⟩] R env l (PostBD P fn R post x) := fun a w e hs => by
 have key : Leaves P fn a.tmps (fun e w' => ∃ l', post e l' ∧ sat R l' w') a.defers u w := by
  rw [e.defs]
  refine leaves_cons (f := f) (args := cap.toArray) ?_ ?_ ?_
  ·rcases hx with ⟨_, rfl⟩ | ⟨ch, _, rfl⟩ <;> simp
  ·show (callFunc f (#[] ++ cap.toArray)).run P w = _
   rw [Q186 c]
   simp
  ·refine (s w hs).mono ?_
   rintro e' u' w' ⟨v, l', rfl, hp, hs'⟩
   obtain ⟨hu, vs, hv, k2⟩ := k u' l' hp
   have e2 : Env n [] env { a with defers := [] } := ⟨e.size, rfl, e.get⟩
   have h1 := hv _ w' e2 hs'
   obtain ⟨l2, hp2, hs2⟩ := k2 _ w' e2 hs'
   show Leaves P fn a.tmps _ [] (settle u') w'
   rw [hu]
   exact ⟨_, Q211 (a := { a with defers := [] }) hr h1, l2, hp2, hs2⟩
 rcases hx with ⟨rfl | rfl, rfl⟩ | ⟨ch, rfl, rfl⟩ <;> exact key
end
theorem Q219 (t : Nat) (p : Option Nat) : (opti t p).cells.toList = [opti t p] := by cases p <;> rfl
theorem Q212 (t : Nat) (p : Option Nat) : [opti t p].all (·.oneCell') = true := by cases p <;> rfl
def recM : FrameMode → Value × FrameMode
 | .panicking ({ v, recovered := false, goexit := false } :: older) => (v, .panicking ({ v, recovered := true } :: older))
 | u => (.nilIface, u)
section
variable {P : Program} [Tys P]
theorem SpecD.of {f : Nat} {fn : Func} {id : Nat} {d ty : Nat} {pos : String} {af : Array Edge} {ts : Array Nat} {c2 : Code} {args : List Value} {R : Res} {l : List HProp} {u u' : FrameMode} {v : Value} {post : FrameMode → List HProp → Prop}
 (hf : P.funcs[f]? = some fn) (hb : fn.body = some (.seq (.region id #[⟨some d, .call ⟨.builtin .recover, #[], ts⟩, ty, pos, af, none⟩] false) c2)) (hn : Nat.ble args.length fn.ntmps = true) (hd : Nat.blt d fn.ntmps = true) (hu : recM u = (v, u'))
 (h : At fn.ntmps [] R ((d, v) :: envA 0 args) l (c2.wp P (PostB P fn R fun _ l' => post u' l'))) : SpecD P f args u R l post := fun w hs => by
 refine callsD_of_wpS hf hb fun c₀ cs hc => ?_
 refine wpS_seq (wpS_region ?_)
 have e0 := Q207 (n := fn.ntmps) (args := args) hn
 have hx := h _ w (e0.put hd v) hs
 have fin : ∀ c1 : Frame, c1 = { c₀ with mode := u' } → c2.wpS P (bodyPostS P fn c₀ cs fun e u' w' => ∃ v l', e = .returned v ∧ post u' l' ∧ sat R l' w')
  (({ tmps := args.toArray ++ Array.replicate (fn.ntmps - args.toArray.size) undef, defers := [] } : Act).put (some d) v) (c1 :: cs) w := by
  rintro c1 rfl
  refine wpS_of_wp (fun b k cs => ?_)
  obtain ⟨e, a', w', hq, harr⟩ := hx b k cs
  refine ⟨e, a', w', ?_, harr⟩
  cases e with
  | normal => obtain ⟨h1, v', h2, h3⟩ := hq; exact ⟨h1, u', rfl, v', h2, h3⟩
  | ret => obtain ⟨h1, v', h2, h3⟩ := hq; exact ⟨h1, u', rfl, v', h2, h3⟩
  | panic ch => obtain ⟨h1, h3⟩ := hq; exact ⟨h1, u', rfl, h3⟩
  | outgrown => exact ⟨u', hq⟩
  | exit id => exact hq
  | goto l => exact hq
 have hrun : (execOp (({ tmps := args.toArray ++ Array.replicate (fn.ntmps - args.toArray.size) undef, defers := [] } : Act).eval) ⟨some d, .call ⟨.builtin .recover, #[], ts⟩, ty, pos, af, none⟩).run P w = .ok .recover w := by
  simp [execOp, resolve, invoke, builtin]
 show wpOpsS P _ _ [0] _ _ _
 have hw : Region.wanted (⟨some d, .call ⟨.builtin .recover, #[], ts⟩, ty, pos, af, none⟩ : Oper) (yielded #[⟨some d, .call ⟨.builtin .recover, #[], ts⟩, ty, pos, af, none⟩] (args.toArray ++ Array.replicate (fn.ntmps - args.toArray.size) undef)) = true := rfl
 have hrd : (recoverD (c₀ :: cs) = none ∧ v = .nilIface ∧ u' = u) ∨ recoverD (c₀ :: cs) = some (v, { c₀ with mode := u' } :: cs) := by
  unfold recM at hu
  split at hu
  ·cases hu; exact .inr (by simp [recoverD, hc])
  ·rename_i hne
   cases hu
   refine .inl ⟨?_, rfl, rfl⟩
   unfold recoverD
   dsimp only
   split
   ·rename_i v older hm
    rw [hc] at hm
    exact (hne _ _ hm).elim
   ·rfl
 simp only [wpOpsS, hw, if_true, List.getElem?_toArray, List.getElem?_cons_zero, hrun]
 rcases hrd with ⟨h1, rfl, rfl⟩ | h1
 ·rw [h1]
  exact fin c₀ (by cases c₀; simp_all)
 ·rw [h1]
  exact fin _ rfl
end
end Go.Bw
namespace Go.Bw
open Go Go.RowKit

def sufA (A : Option Addr) (c k sz : Nat) : Option Addr := if c = k then A else A.map (·.add (k * sz))
section
variable {P : Program} [Tys P] {os : List Oper} {Q : Exit → Act → World → Prop} {rest : List Oper} {n : Nat} {ds : List Deferred} {R : Res} {env : List (Nat × Value)} {l l' : List HProp}
variable {d ty : Nat} {pos : String} {af : Array Edge} {g : Option (Nat × Bool)} {α : Type} [Inhabited α] {F : Fl α} {e t t2 : Nat} {A : Option Addr} {c m : Nat} {xs : List α} {K : Act → World → Prop} {dd : Option Nat}
theorem op_v0 {o : Oper} (hg : grd os env o.guard = some true) (hdst : o.dst = none)
 (h : ∀ a w, Env n ds env a → sat R l w → ∃ v w' l', (execOp a.eval o).run P w = .ok (.value v) w' ∧ sat R l' w' ∧ At n ds R env l' (wpList P os.toArray Q rest)) :
 At n ds R env l (wpList P os.toArray Q (o :: rest)) := fun a w e hs => by
 refine wpList_step fun K hK => ?_
 rw [if_pos (Q53 e hg)]
 obtain ⟨v, w', l', hr, hs', k⟩ := h a w e hs
 unfold Oper.wp
 rw [hr]
 show K (a.put o.dst v) w'
 rw [hdst]
 exact hK _ _ (k _ _ e hs')
theorem Y.slSuf (f : Frt l (row F e A m c xs) l') {x y : Operand} {k : Int} {ki : IntKind} {ii : TI} (hi : ti P t = some ii) (hk : ii.k = .slice e) {j : TI} (hj : ti P e = some j) (hjs : j.size = F.sz) (hx : ev env x = some (.slice A m c)) (hy : ev env y = some (.int ki k)) (h0 : 0 ≤ k) (h1 : k ≤ (m : Int)) :
 Y P n ds R env l ⟨dd, .slice t x (some y) none none, ty, pos, af, g⟩ (.slice (sufA A c k.toNat F.sz) (m - k.toNat) (c - k.toNat)) := fun a w e0 hs => by
 have hu := (Q12 hi).slice hk
 have hu' : P.underlying t = some (.slice (P.elem t)) := by rw [hu]; simp [Program.elem, hu]
 have he : P.elem t = e := by rw [hu] at hu'; injection hu' with h; injection h with h; exact h.symm
 have hr := run_slice_l (P := P) (w := w) t A m c hu' ki k h0 h1
 rw [he, (Q12 hj).run_sizeOf] at hr
 simp only [execOp, e0.ev hx, e0.ev hy, Option.map_none, Option.map_some, Sem.run_bind, run_sliceAt_slice w t _ _ _ _ hu', hr, Result.andThen, Sem.run_pure, sliced, hjs, sufA]
theorem Y.ixSuf (f : Frt l (row F e A m c xs) l') {x y : Operand} {k i : Int} {ki : IntKind} {ii : TI} (hi : ti P t = some ii) (hk : ii.k = .slice e) {j : TI} (hj : ti P e = some j) (hjs : j.size = F.sz) (hx : ev env x = some (.slice (sufA A c k.toNat F.sz) (m - k.toNat) (c - k.toNat))) (hy : ev env y = some (.int ki i)) (hk0 : 0 ≤ k) (h0 : 0 ≤ i) (h1 : i < ((m - k.toNat : Nat) : Int)) :
 Y P n ds R env l ⟨dd, .indexAddr t x y, ty, pos, af, g⟩ (elp A ((k + i).toNat * F.sz)) := fun a w e0 hs => by
 obtain ⟨h', o, s⟩ := (hs.frt f).head
 have hm := Q93 o
 subst hm
 obtain ⟨gb, cur, rfl, hgb, h3, h4, h5, h6⟩ := Q156 o (by omega)
 have hA : sufA (some ⟨gb, 0, none⟩) c k.toNat F.sz = some ((⟨gb, 0, none⟩ : Addr).add (k.toNat * F.sz)) := by
  unfold sufA; rw [if_neg (by omega)]; rfl
 rw [hA] at hx
 have hc : 0 ≤ i ∧ i < ((xs.length - k.toNat : Nat) : Int) := ⟨h0, h1⟩
 have hr : Y P n ds R env l ⟨dd, .indexAddr t x y, ty, pos, af, g⟩ (elp (some ((⟨gb, 0, none⟩ : Addr).add (k.toNat * F.sz))) (i.toNat * j.size)) := Y.ixSome hi hk hx hy hj h0 h1
 have h := hr a w e0 hs
 rw [h]
 unfold elp
 simp only [Option.map_some]
 rw [Q114, hjs, ← Nat.add_mul, show k.toNat + i.toNat = (k + i).toNat from by omega]
theorem zero_flat (F : Fl α) (z : α) (k : Nat) {cs : Array Value} (hcs : cs.toList = F.enc z) : (Builtin.zeroCells cs k).toList = (List.replicate k z).flatMap F.enc := by
 have hsz : cs.size = F.sz := by rw [← Array.length_toList, hcs, F.len]
 unfold Builtin.zeroCells
 rw [hsz]
 simp only [Array.toList_map, Array.toList_range]
 apply List.ext_getElem?
 intro q
 have hp := F.pos
 by_cases hq : q < k * F.sz
 ·have h1 : q / F.sz < k := Nat.div_lt_of_lt_mul (by rw [Nat.mul_comm]; exact hq)
  have h2 : q % F.sz < F.sz := Nat.mod_lt _ hp
  have := Q147 F (xs := List.replicate k z) (i := q / F.sz) (x := z) (j := q % F.sz) (by simp [h1]) h2
  rw [Nat.mul_comm, Nat.div_add_mod] at this
  rw [this, ← hcs]
  simp [hq, hsz, h2]
 ·rw [List.getElem?_eq_none (by simp; omega), List.getElem?_eq_none (by rw [Q58]; simp; omega)]
theorem At.clearSuf (hg : grd os env g = some true) (f : Frt l (row F e A m c xs) l') {x : Operand} {k : Int} {z : α} {ii j : TI} (hi : ti P t = some ii) (hk : ii.k = .slice e) (hj : ti P e = some j) (hjz : j.zero = F.enc z)
 (hx : ev env x = some (.slice (sufA A c k.toNat F.sz) (m - k.toNat) (c - k.toNat))) (hk0 : 0 ≤ k) (hk1 : k ≤ (m : Int))
 (h : At n ds R env (row F e A m c (xs.take k.toNat ++ List.replicate (m - k.toNat) z) :: l') (wpList P os.toArray Q rest)) :
 At n ds R env l (wpList P os.toArray Q (⟨none, .call ⟨.builtin .clear, #[x], #[t]⟩, ty, pos, af, g⟩ :: rest)) := op_v0 hg rfl fun a w e0 hs => by
 have hs1 := hs.frt f
 have hm : xs.length = m := let ⟨_, o, _⟩ := hs1.head; Q93 o
 subst hm
 obtain ⟨xi, zv, hxi, hsz, hby, hze, hzc⟩ := (Q12 hj).info
 have hu := (Q12 hi).slice hk
 have hzr : ∀ w, (zeroValue e).run P w = .ok zv w := fun w => by simp [zeroValue, typeInfo, hxi, hze]
 by_cases hlt : k.toNat < xs.length
 ·obtain ⟨h', o, s, kk⟩ := hs1.upd
  obtain ⟨gb, cur, rfl, hgb, h3, h4, h5, h6⟩ := Q156 o (by omega)
  have hA : sufA (some ⟨gb, 0, none⟩) c k.toNat F.sz = some ⟨gb, k.toNat * F.sz, none⟩ := by
   unfold sufA; rw [if_neg (by omega)]; simp [Q110]
  rw [hA] at hx
  have hgw : w.heap[gb]? = some (.cells cur e (0, 0)) := s gb _ hgb
  have hzl : zv.cells.toList = F.enc z := by rw [← hjz, hzc]
  have hzs : (Builtin.zeroCells zv.cells (xs.length - k.toNat)).toList = (List.replicate (xs.length - k.toNat) z).flatMap F.enc := zero_flat F z _ hzl
  have hfl : ((List.replicate (xs.length - k.toNat) z).flatMap F.enc).length = (xs.length - k.toNat) * F.sz := by rw [Q58, List.length_replicate]
  have hmul : k.toNat * F.sz + (xs.length - k.toNat) * F.sz = xs.length * F.sz := by rw [← Nat.add_mul]; congr 1; omega
  have hle : xs.length * F.sz ≤ c * F.sz := Nat.mul_le_mul_right _ h3
  have hst := run_storeCells_at (P := P) gb (k.toNat * F.sz) e ((List.replicate (xs.length - k.toNat) z).flatMap F.enc) 0 cur w hgw (by rw [hfl, h5]; omega) (Q209 F _)
  rw [Nat.add_zero, hfl, hmul] at hst
  obtain ⟨q, hq⟩ : ∃ q, xs.length - k.toNat = q + 1 := ⟨xs.length - k.toNat - 1, by omega⟩
  refine ⟨.tuple #[], w.setRow gb (cur.toList.take (k.toNat * F.sz) ++ (List.replicate (xs.length - k.toNat) z).flatMap F.enc ++ cur.toList.drop (xs.length * F.sz)).toArray, _, ?_, ?_, h⟩
  ·have hrun : (Builtin.clear_ #[t] ty #[.slice (some ⟨gb, k.toNat * F.sz, none⟩) (xs.length - k.toNat) (c - k.toNat)]).run P w = .ok (.tuple #[]) (w.setRow gb (cur.toList.take (k.toNat * F.sz) ++ (List.replicate (xs.length - k.toNat) z).flatMap F.enc ++ cur.toList.drop (xs.length * F.sz)).toArray) := by
    rw [hq] at hzs hst ⊢
    simp [Builtin.clear_, run_underlying hu, hzr, hzs, hst]
   simp only [execOp, resolve, invoke, builtin, Sem.run_bind, Sem.run_pure, Result.andThen_ok, List.map_toArray, List.map_cons, List.map_nil, e0.ev hx, hrun]
  ·have hnew := setRow_heap w gb cur (cur.toList.take (k.toNat * F.sz) ++ (List.replicate (xs.length - k.toNat) z).flatMap F.enc ++ cur.toList.drop (xs.length * F.sz)).toArray e (0, 0) hgw
   have hcl5 : cur.toList.length = c * F.sz := by rw [Array.length_toList, h5]
   have htk : (cur.toList.take (k.toNat * F.sz)).length = k.toNat * F.sz := by rw [List.length_take, hcl5]; omega
   have hll : (cur.toList.take (k.toNat * F.sz) ++ (List.replicate (xs.length - k.toNat) z).flatMap F.enc ++ cur.toList.drop (xs.length * F.sz)).length = cur.size := by
    rw [List.length_append, List.length_append, List.length_drop, htk, hfl, hcl5, h5]; omega
   refine kk _ (single gb (.cells (cur.toList.take (k.toNat * F.sz) ++ (List.replicate (xs.length - k.toNat) z).flatMap F.enc ++ cur.toList.drop (xs.length * F.sz)).toArray e)) _ ?_ rfl rfl rfl (Nat.le_refl _) (fun x o' hx hn => ?_) (fun x o' hx => ?_) (fun x o' hx => ?_)
   ·have hsl : (xs.take k.toNat ++ List.replicate (xs.length - k.toNat) z).length = xs.length := by simp; omega
    refine ⟨by rw [Q58, hsl], .inr ⟨gb, _, rfl, Q189 _ _, h3, h4, by rw [List.size_toArray, hll, h5], ?_⟩⟩
    rw [List.flatMap_append]
    have hpre : (xs.take k.toNat).flatMap F.enc = cur.toList.take (k.toNat * F.sz) := by
     have e1 : xs.flatMap F.enc = (xs.take k.toNat).flatMap F.enc ++ (xs.drop k.toNat).flatMap F.enc := by rw [← List.flatMap_append, List.take_append_drop]
     have e2 : ((xs.take k.toNat).flatMap F.enc).length = k.toNat * F.sz := by rw [Q58, List.length_take]; congr 1; omega
     have e3 : cur.toList.take (k.toNat * F.sz) = (cur.toList.take (xs.length * F.sz)).take (k.toNat * F.sz) := by rw [List.take_take]; congr 1; omega
     rw [e3, h6, e1, List.take_append_of_le_length (Nat.le_of_eq e2.symm), List.take_of_length_le (Nat.le_of_eq e2)]
    rw [hpre]
    simp only [List.toList_toArray]
    rw [List.take_append_of_le_length (by rw [List.length_append, htk, hfl]; omega), List.take_of_length_le (by rw [List.length_append, htk, hfl]; omega)]
   ·rw [setRow_other w gb x _ (fun hxg => by subst hxg; rw [hgb] at hn; cases hn)]; exact hx
   ·obtain ⟨rfl, rfl⟩ := Q104 hx; exact hnew
   ·obtain ⟨rfl, rfl⟩ := Q104 hx; exact .inl ⟨_, hgb⟩
 ·have hz0 : xs.length - k.toNat = 0 := by omega
  have hsame : xs.take k.toNat ++ List.replicate (xs.length - k.toNat) z = xs := by
   rw [hz0, List.take_of_length_le (by omega)]; simp
  rw [hsame] at h
  refine ⟨.tuple #[], w, _, ?_, hs1, h⟩
  have hrun : (Builtin.clear_ #[t] ty #[.slice (sufA A c k.toNat F.sz) (xs.length - k.toNat) (c - k.toNat)]).run P w = .ok (.tuple #[]) w := by
   rw [hz0]
   cases sufA A c k.toNat F.sz <;> simp [Builtin.clear_, run_underlying hu]
  simp only [execOp, resolve, invoke, builtin, Sem.run_bind, Sem.run_pure, Result.andThen_ok, List.map_toArray, List.map_cons, List.map_nil, e0.ev hx, hrun]
end
end Go.Bw
